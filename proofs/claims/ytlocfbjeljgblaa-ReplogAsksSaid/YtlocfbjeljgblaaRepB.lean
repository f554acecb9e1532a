/- Layer 36: SameConfig and SameCommand of equal data. (printed by genRepB.py) -/
import Derived.Test.YtlocfbjeljgblaaRepA
namespace Go.Proofs.Ytlocfbjeljgblaa
open Go Go.RowKit
set_option maxRecDepth 100000

theorem new_at {w : World} {n : Nat} (h : w.heap.size = n) (t : TypeId) (cs : Array Value) : Blk (w.alloc (.cells cs t)) n t cs := by
  subst h
  exact Blk.new _ _ _
/-- Two configurations in their boxes. -/
structure ScI (w W : World) (X Y : Nat) (bad bad' : Nat → Prop) (a1 a2 a3 b1 b2 b3 : Sl) (l1 l2 l3 : List Int) : Prop where
  x : Blk W X 53 #[.slice a1.addr a1.len a1.cap, .slice a2.addr a2.len a2.cap, .slice a3.addr a3.len a3.cap]
  y : Blk W Y 53 #[.slice b1.addr b1.len b1.cap, .slice b2.addr b2.len b2.cap, .slice b3.addr b3.len b3.cap]
  a1 : SlIs W bad a1 l1
  a2 : SlIs W bad a2 l2
  a3 : SlIs W bad a3 l3
  b1 : SlIs W bad' b1 l1
  b2 : SlIs W bad' b2 l2
  b3 : SlIs W bad' b3 l3
  since : Same noB w W
theorem ScI.keep {w W W' : World} {X Y : Nat} {bad bad' : Nat → Prop} {a1 a2 a3 b1 b2 b3 : Sl} {l1 l2 l3 : List Int} (h : ScI w W X Y bad bad' a1 a2 a3 b1 b2 b3 l1 l2 l3) (hs : Same noB W W') : ScI w W' X Y bad bad' a1 a2 a3 b1 b2 b3 l1 l2 l3 :=
  ⟨h.x.same hs (fun x => x), h.y.same hs (fun x => x), h.a1.keep hs, h.a2.keep hs, h.a3.keep hs, h.b1.keep hs, h.b2.keep hs, h.b3.keep hs, h.since.trans' hs⟩
theorem ScI.all {w W : World} {X Y : Nat} {bad bad' : Nat → Prop} {a1 a2 a3 b1 b2 b3 : Sl} {l1 l2 l3 : List Int} (h : ScI w W X Y bad bad' a1 a2 a3 b1 b2 b3 l1 l2 l3) :
    W.cell? ⟨X, 0, none⟩ = some (.slice a1.addr a1.len a1.cap) ∧ W.cell? ⟨X, 1, none⟩ = some (.slice a2.addr a2.len a2.cap) ∧ W.cell? ⟨X, 2, none⟩ = some (.slice a3.addr a3.len a3.cap) ∧ W.cell? ⟨Y, 0, none⟩ = some (.slice b1.addr b1.len b1.cap) ∧ W.cell? ⟨Y, 1, none⟩ = some (.slice b2.addr b2.len b2.cap) ∧ W.cell? ⟨Y, 2, none⟩ = some (.slice b3.addr b3.len b3.cap) :=
  ⟨h.x.cell 0, h.x.cell 1, h.x.cell 2, h.y.cell 0, h.y.cell 1, h.y.cell 2⟩

theorem sameconf_true {w : World} {bad bad' : Nat → Prop} {a1 a2 a3 b1 b2 b3 : Sl} {l1 l2 l3 : List Int} (h1 : SlIs w bad a1 l1) (h2 : SlIs w bad a2 l2) (h3 : SlIs w bad a3 l3) (k1 : SlIs w bad' b1 l1) (k2 : SlIs w bad' b2 l2) (k3 : SlIs w bad' b3 l3) :
    Calls Try.prog 32 #[.agg #[.slice a1.addr a1.len a1.cap, .slice a2.addr a2.len a2.cap, .slice a3.addr a3.len a3.cap], .agg #[.slice b1.addr b1.len b1.cap, .slice b2.addr b2.len b2.cap, .slice b3.addr b3.len b3.cap]] w fun e w' => e = .returned (.bool true) ∧ Same noB w w' := by
  have x2 := new_at (w := w.alloc (.cells #[.slice a1.addr a1.len a1.cap, .slice a2.addr a2.len a2.cap, .slice a3.addr a3.len a3.cap] 53)) (n := w.heap.size + 1) (by simp) 53 #[.slice b1.addr b1.len b1.cap, .slice b2.addr b2.len b2.cap, .slice b3.addr b3.len b3.cap]
  have hs : Same noB w ((w.alloc (.cells #[.slice a1.addr a1.len a1.cap, .slice a2.addr a2.len a2.cap, .slice a3.addr a3.len a3.cap] 53)).alloc (.cells #[.slice b1.addr b1.len b1.cap, .slice b2.addr b2.len b2.cap, .slice b3.addr b3.len b3.cap] 53)) := ((Same.refl _ _).alloc _).alloc _
  have HM0 : Hid (ScI w ((w.alloc (.cells #[.slice a1.addr a1.len a1.cap, .slice a2.addr a2.len a2.cap, .slice a3.addr a3.len a3.cap] 53)).alloc (.cells #[.slice b1.addr b1.len b1.cap, .slice b2.addr b2.len b2.cap, .slice b3.addr b3.len b3.cap] 53)) w.heap.size (w.heap.size + 1) bad bad' a1 a2 a3 b1 b2 b3 l1 l2 l3) := ⟨(Blk.new w 53 _).alloc _, x2, h1.keep hs, h2.keep hs, h3.keep hs, k1.keep hs, k2.keep hs, k3.keep hs, hs⟩
  clear h1 h2 h3 k1 k2 k3 hs x2
  go_enter Try.func32, Try.ntmps32
  go_wp2_with fail
  refine calls_abs (fun W => Hid (ScI w W w.heap.size (w.heap.size + 1) bad bad' a1 a2 a3 b1 b2 b3 l1 l2 l3)) HM0 ?_
  clear HM0
  generalize w.heap.size + 1 = Y at *
  generalize w.heap.size = X at *
  intro W HM
  refine (ints_true HM.out.a1 HM.out.b1).mono ?_
  rintro e W1 ⟨rfl, hs⟩
  have HM := Lib.hid (HM.out.keep hs)
  clear hs
  obtain ⟨c0, c1, c2, d0, d1, d2⟩ := HM.out.all
  go_wp2_with fail
  refine (ints_true HM.out.a2 HM.out.b2).mono ?_
  rintro e W2 ⟨rfl, hs⟩
  have HM := Lib.hid (HM.out.keep hs)
  clear hs c0 c1 c2 d0 d1 d2
  obtain ⟨c0, c1, c2, d0, d1, d2⟩ := HM.out.all
  go_wp2_with fail
  refine (ints_true HM.out.a3 HM.out.b3).mono ?_
  rintro e W3 ⟨rfl, hs⟩
  have HM := Lib.hid (HM.out.keep hs)
  clear hs c0 c1 c2 d0 d1 d2
  go_wp2_with fail
  go_ret
  exact ⟨rfl, HM.out.since⟩

/-- Two commands in their boxes. -/
structure SmI (w W : World) (X Y : Nat) (bad bad' : Nat → Prop) (sk sc sn : Int) (sb : ByteArray) (sg ss sck scm : Int) (a1 a2 a3 a4 a5 b1 b2 b3 b4 b5 : Sl) (l1 l2 l3 l4 l5 : List Int) : Prop where
  x : Blk W X 55 #[.int .i64 sk, .int .i64 sc, .int .i64 sn, .string sb, .int .i64 sg, .int .i64 ss, .int .i64 sck, .int .i64 scm, .slice a1.addr a1.len a1.cap, .slice a2.addr a2.len a2.cap, .slice a3.addr a3.len a3.cap, .slice a4.addr a4.len a4.cap, .slice a5.addr a5.len a5.cap]
  y : Blk W Y 55 #[.int .i64 sk, .int .i64 sc, .int .i64 sn, .string sb, .int .i64 sg, .int .i64 ss, .int .i64 sck, .int .i64 scm, .slice b1.addr b1.len b1.cap, .slice b2.addr b2.len b2.cap, .slice b3.addr b3.len b3.cap, .slice b4.addr b4.len b4.cap, .slice b5.addr b5.len b5.cap]
  a1 : SlIs W bad a1 l1
  a2 : SlIs W bad a2 l2
  a3 : SlIs W bad a3 l3
  a4 : SlIs W bad a4 l4
  a5 : SlIs W bad a5 l5
  b1 : SlIs W bad' b1 l1
  b2 : SlIs W bad' b2 l2
  b3 : SlIs W bad' b3 l3
  b4 : SlIs W bad' b4 l4
  b5 : SlIs W bad' b5 l5
  since : Same noB w W
theorem SmI.keep {w W W' : World} {X Y : Nat} {bad bad' : Nat → Prop} {sk sc sn : Int} {sb : ByteArray} {sg ss sck scm : Int} {a1 a2 a3 a4 a5 b1 b2 b3 b4 b5 : Sl} {l1 l2 l3 l4 l5 : List Int} (h : SmI w W X Y bad bad' sk sc sn sb sg ss sck scm a1 a2 a3 a4 a5 b1 b2 b3 b4 b5 l1 l2 l3 l4 l5) (hs : Same noB W W') : SmI w W' X Y bad bad' sk sc sn sb sg ss sck scm a1 a2 a3 a4 a5 b1 b2 b3 b4 b5 l1 l2 l3 l4 l5 :=
  ⟨h.x.same hs (fun x => x), h.y.same hs (fun x => x), h.a1.keep hs, h.a2.keep hs, h.a3.keep hs, h.a4.keep hs, h.a5.keep hs, h.b1.keep hs, h.b2.keep hs, h.b3.keep hs, h.b4.keep hs, h.b5.keep hs, h.since.trans' hs⟩
theorem SmI.all {w W : World} {X Y : Nat} {bad bad' : Nat → Prop} {sk sc sn : Int} {sb : ByteArray} {sg ss sck scm : Int} {a1 a2 a3 a4 a5 b1 b2 b3 b4 b5 : Sl} {l1 l2 l3 l4 l5 : List Int} (h : SmI w W X Y bad bad' sk sc sn sb sg ss sck scm a1 a2 a3 a4 a5 b1 b2 b3 b4 b5 l1 l2 l3 l4 l5) : W.cell? ⟨X, 0, none⟩ = some (.int .i64 sk) ∧ W.cell? ⟨X, 1, none⟩ = some (.int .i64 sc) ∧ W.cell? ⟨X, 2, none⟩ = some (.int .i64 sn) ∧ W.cell? ⟨X, 3, none⟩ = some (.string sb) ∧ W.cell? ⟨X, 4, none⟩ = some (.int .i64 sg) ∧ W.cell? ⟨X, 5, none⟩ = some (.int .i64 ss) ∧ W.cell? ⟨X, 6, none⟩ = some (.int .i64 sck) ∧ W.cell? ⟨X, 7, none⟩ = some (.int .i64 scm) ∧ W.cell? ⟨X, 8, none⟩ = some (.slice a1.addr a1.len a1.cap) ∧ W.cell? ⟨X, 9, none⟩ = some (.slice a2.addr a2.len a2.cap) ∧ W.cell? ⟨X, 10, none⟩ = some (.slice a3.addr a3.len a3.cap) ∧ W.cell? ⟨X, 11, none⟩ = some (.slice a4.addr a4.len a4.cap) ∧ W.cell? ⟨X, 12, none⟩ = some (.slice a5.addr a5.len a5.cap) ∧ W.cell? ⟨Y, 0, none⟩ = some (.int .i64 sk) ∧ W.cell? ⟨Y, 1, none⟩ = some (.int .i64 sc) ∧ W.cell? ⟨Y, 2, none⟩ = some (.int .i64 sn) ∧ W.cell? ⟨Y, 3, none⟩ = some (.string sb) ∧ W.cell? ⟨Y, 4, none⟩ = some (.int .i64 sg) ∧ W.cell? ⟨Y, 5, none⟩ = some (.int .i64 ss) ∧ W.cell? ⟨Y, 6, none⟩ = some (.int .i64 sck) ∧ W.cell? ⟨Y, 7, none⟩ = some (.int .i64 scm) ∧ W.cell? ⟨Y, 8, none⟩ = some (.slice b1.addr b1.len b1.cap) ∧ W.cell? ⟨Y, 9, none⟩ = some (.slice b2.addr b2.len b2.cap) ∧ W.cell? ⟨Y, 10, none⟩ = some (.slice b3.addr b3.len b3.cap) ∧ W.cell? ⟨Y, 11, none⟩ = some (.slice b4.addr b4.len b4.cap) ∧ W.cell? ⟨Y, 12, none⟩ = some (.slice b5.addr b5.len b5.cap) :=
  ⟨h.x.cell 0, h.x.cell 1, h.x.cell 2, h.x.cell 3, h.x.cell 4, h.x.cell 5, h.x.cell 6, h.x.cell 7, h.x.cell 8, h.x.cell 9, h.x.cell 10, h.x.cell 11, h.x.cell 12, h.y.cell 0, h.y.cell 1, h.y.cell 2, h.y.cell 3, h.y.cell 4, h.y.cell 5, h.y.cell 6, h.y.cell 7, h.y.cell 8, h.y.cell 9, h.y.cell 10, h.y.cell 11, h.y.cell 12⟩
/-- The changes in boxes of their own. -/
structure ChI (w W : World) (U V : Nat) (sck scm : Int) (a1 a2 b1 b2 : Sl) : Prop where
  u : Blk W U 51 #[.int .i64 sck, .int .i64 scm, .slice a1.addr a1.len a1.cap, .slice a2.addr a2.len a2.cap]
  v : Blk W V 51 #[.int .i64 sck, .int .i64 scm, .slice b1.addr b1.len b1.cap, .slice b2.addr b2.len b2.cap]
  since : Same noB w W
theorem ChI.keep {w W W' : World} {U V : Nat} {sck scm : Int} {a1 a2 b1 b2 : Sl} (h : ChI w W U V sck scm a1 a2 b1 b2) (hs : Same noB W W') : ChI w W' U V sck scm a1 a2 b1 b2 := ⟨h.u.same hs (fun x => x), h.v.same hs (fun x => x), h.since.trans' hs⟩
theorem ChI.all {w W : World} {U V : Nat} {sck scm : Int} {a1 a2 b1 b2 : Sl} (h : ChI w W U V sck scm a1 a2 b1 b2) : W.cell? ⟨U, 0, none⟩ = some (.int .i64 sck) ∧ W.cell? ⟨U, 1, none⟩ = some (.int .i64 scm) ∧ W.cell? ⟨U, 2, none⟩ = some (.slice a1.addr a1.len a1.cap) ∧ W.cell? ⟨U, 3, none⟩ = some (.slice a2.addr a2.len a2.cap) ∧ W.cell? ⟨V, 0, none⟩ = some (.int .i64 sck) ∧ W.cell? ⟨V, 1, none⟩ = some (.int .i64 scm) ∧ W.cell? ⟨V, 2, none⟩ = some (.slice b1.addr b1.len b1.cap) ∧ W.cell? ⟨V, 3, none⟩ = some (.slice b2.addr b2.len b2.cap) :=
  ⟨h.u.cell 0, h.u.cell 1, h.u.cell 2, h.u.cell 3, h.v.cell 0, h.v.cell 1, h.v.cell 2, h.v.cell 3⟩

theorem chI_1 (W : World) (sck scm : Int) (a1 a2 b1 b2 : Sl) : ChI W ((W.alloc (.cells #[.int .i64 sck, .int .i64 scm, .slice a1.addr a1.len a1.cap, .slice a2.addr a2.len a2.cap] 51)).alloc (.cells #[.int .i64 sck, .int .i64 scm, .slice b1.addr b1.len b1.cap, .slice b2.addr b2.len b2.cap] 51)).drew W.heap.size (W.heap.size + 1) sck scm a1 a2 b1 b2 :=
  ⟨((Blk.new W 51 _).alloc _).drew, (new_at (w := W.alloc (.cells #[.int .i64 sck, .int .i64 scm, .slice a1.addr a1.len a1.cap, .slice a2.addr a2.len a2.cap] 51)) (n := W.heap.size + 1) (by simp) 51 _).drew, (((Same.refl _ _).alloc _).alloc _).drew⟩
theorem chI_2 (W : World) (sck scm : Int) (a1 a2 b1 b2 : Sl) : ChI W ((W.alloc (.cells #[.int .i64 sck, .int .i64 scm, .slice b1.addr b1.len b1.cap, .slice b2.addr b2.len b2.cap] 51)).alloc (.cells #[.int .i64 sck, .int .i64 scm, .slice a1.addr a1.len a1.cap, .slice a2.addr a2.len a2.cap] 51)).drew (W.heap.size + 1) W.heap.size sck scm a1 a2 b1 b2 :=
  ⟨(new_at (w := W.alloc (.cells #[.int .i64 sck, .int .i64 scm, .slice b1.addr b1.len b1.cap, .slice b2.addr b2.len b2.cap] 51)) (n := W.heap.size + 1) (by simp) 51 _).drew, ((Blk.new W 51 _).alloc _).drew, (((Same.refl _ _).alloc _).alloc _).drew⟩

set_option maxHeartbeats 8000000 in
theorem samecmd_true {w : World} {bad bad' : Nat → Prop} {c c' : Cm} {v : CmV} (h : CmIs w bad c v) (h' : CmIs w bad' c' v) :
    Calls Try.prog 52 #[c.val, c'.val] w fun e w' => e = .returned (.bool true) ∧ Same noB w w' := by
  obtain ⟨⟨sk, sc, sn, sb, sg, ss, sck, scm⟩, a1, a2, a3, a4, a5⟩ := c
  obtain ⟨s', b1, b2, b3, b4, b5⟩ := c'
  obtain ⟨sv, l1, l2, l3, l4, l5⟩ := v
  obtain ⟨hs0, h1, h2, h3, h4, h5⟩ := h
  obtain ⟨hs1, k1, k2, k3, k4, k5⟩ := h'
  simp only at hs0 hs1 h1 h2 h3 h4 h5 k1 k2 k3 k4 k5
  subst hs0 hs1
  have x2 := new_at (w := w.alloc (.cells #[.int .i64 sk, .int .i64 sc, .int .i64 sn, .string sb, .int .i64 sg, .int .i64 ss, .int .i64 sck, .int .i64 scm, .slice a1.addr a1.len a1.cap, .slice a2.addr a2.len a2.cap, .slice a3.addr a3.len a3.cap, .slice a4.addr a4.len a4.cap, .slice a5.addr a5.len a5.cap] 55)) (n := w.heap.size + 1) (by simp) 55 #[.int .i64 sk, .int .i64 sc, .int .i64 sn, .string sb, .int .i64 sg, .int .i64 ss, .int .i64 sck, .int .i64 scm, .slice b1.addr b1.len b1.cap, .slice b2.addr b2.len b2.cap, .slice b3.addr b3.len b3.cap, .slice b4.addr b4.len b4.cap, .slice b5.addr b5.len b5.cap]
  have hs : Same noB w ((w.alloc (.cells #[.int .i64 sk, .int .i64 sc, .int .i64 sn, .string sb, .int .i64 sg, .int .i64 ss, .int .i64 sck, .int .i64 scm, .slice a1.addr a1.len a1.cap, .slice a2.addr a2.len a2.cap, .slice a3.addr a3.len a3.cap, .slice a4.addr a4.len a4.cap, .slice a5.addr a5.len a5.cap] 55)).alloc (.cells #[.int .i64 sk, .int .i64 sc, .int .i64 sn, .string sb, .int .i64 sg, .int .i64 ss, .int .i64 sck, .int .i64 scm, .slice b1.addr b1.len b1.cap, .slice b2.addr b2.len b2.cap, .slice b3.addr b3.len b3.cap, .slice b4.addr b4.len b4.cap, .slice b5.addr b5.len b5.cap] 55)) := ((Same.refl _ _).alloc _).alloc _
  have HM0 : Hid (SmI w ((w.alloc (.cells #[.int .i64 sk, .int .i64 sc, .int .i64 sn, .string sb, .int .i64 sg, .int .i64 ss, .int .i64 sck, .int .i64 scm, .slice a1.addr a1.len a1.cap, .slice a2.addr a2.len a2.cap, .slice a3.addr a3.len a3.cap, .slice a4.addr a4.len a4.cap, .slice a5.addr a5.len a5.cap] 55)).alloc (.cells #[.int .i64 sk, .int .i64 sc, .int .i64 sn, .string sb, .int .i64 sg, .int .i64 ss, .int .i64 sck, .int .i64 scm, .slice b1.addr b1.len b1.cap, .slice b2.addr b2.len b2.cap, .slice b3.addr b3.len b3.cap, .slice b4.addr b4.len b4.cap, .slice b5.addr b5.len b5.cap] 55)) w.heap.size (w.heap.size + 1) bad bad' sk sc sn sb sg ss sck scm a1 a2 a3 a4 a5 b1 b2 b3 b4 b5 l1 l2 l3 l4 l5) := ⟨(Blk.new w 55 _).alloc _, x2, h1.keep hs, h2.keep hs, h3.keep hs, h4.keep hs, h5.keep hs, k1.keep hs, k2.keep hs, k3.keep hs, k4.keep hs, k5.keep hs, hs⟩
  clear h1 h2 h3 h4 h5 k1 k2 k3 k4 k5 hs x2
  unfold Cm.val
  dsimp only
  go_enter Try.func52, Try.ntmps52
  go_upto_region 3 with (fail)
  refine wp_abs (fun W => Hid (SmI w W w.heap.size (w.heap.size + 1) bad bad' sk sc sn sb sg ss sck scm a1 a2 a3 a4 a5 b1 b2 b3 b4 b5 l1 l2 l3 l4 l5)) HM0 ?_
  clear HM0
  generalize w.heap.size + 1 = Y at *
  generalize w.heap.size = X at *
  intro W HM
  obtain ⟨x0, x1, x2, x3, x4, x5, x6, x7, x8, x9, x10, x11, x12, y0, y1, y2, y3, y4, y5, y6, y7, y8, y9, y10, y11, y12⟩ := HM.out.all
  go_cut [5, 6] from 47 to 51 (fun u v wx => ∃ U V, u = .pointer (some ⟨U, 0, none⟩) ∧ v = .pointer (some ⟨V, 0, none⟩) ∧ ChI W wx U V sck scm a1 a2 b1 b2)
  case first =>
    go_region_held3 (fun w' => w'.cell? ⟨X, 6, none⟩ = some (.int .i64 sck) ∧ w'.cell? ⟨X, 7, none⟩ = some (.int .i64 scm) ∧ w'.cell? ⟨X, 8, none⟩ = some (.slice a1.addr a1.len a1.cap) ∧ w'.cell? ⟨X, 9, none⟩ = some (.slice a2.addr a2.len a2.cap) ∧ w'.cell? ⟨Y, 6, none⟩ = some (.int .i64 sck) ∧ w'.cell? ⟨Y, 7, none⟩ = some (.int .i64 scm) ∧ w'.cell? ⟨Y, 8, none⟩ = some (.slice b1.addr b1.len b1.cap) ∧ w'.cell? ⟨Y, 9, none⟩ = some (.slice b2.addr b2.len b2.cap))
      (first | (refine ⟨?_, ?_, ?_, ?_, ?_, ?_, ?_, ?_⟩ <;> with_reducible assumption) | go_keep)
      (fail)
    all_goals go_wp2_with fail
    all_goals
      go_meet
      first
        | exact ⟨_, _, rfl, rfl, chI_1 W _ _ _ _ _ _⟩
        | exact ⟨_, _, rfl, rfl, chI_2 W _ _ _ _ _ _⟩
  case rest =>
    obtain ⟨U, V, rfl, rfl, hC⟩ := hcut
    have HC := Lib.hid hC
    have HM := Lib.hid (HM.out.keep hC.since)
    clear hC x0 x1 x2 x3 x4 x5 x6 x7 x8 x9 x10 x11 x12 y0 y1 y2 y3 y4 y5 y6 y7 y8 y9 y10 y11 y12
    obtain ⟨u0, u1, u2, u3, v0, v1, v2, v3⟩ := HC.out.all
    go_wp2_with fail
    refine (ints_true HM.out.a1 HM.out.b1).mono ?_
    rintro e W1 ⟨rfl, hs⟩
    have HM := Lib.hid (HM.out.keep hs)
    have HC := Lib.hid (HC.out.keep hs)
    clear hs u0 u1 u2 u3 v0 v1 v2 v3
    obtain ⟨u0, u1, u2, u3, v0, v1, v2, v3⟩ := HC.out.all
    go_wp2_with fail
    refine (ints_true HM.out.a2 HM.out.b2).mono ?_
    rintro e W2 ⟨rfl, hs⟩
    have HM := Lib.hid (HM.out.keep hs)
    have HC := Lib.hid (HC.out.keep hs)
    clear hs u0 u1 u2 u3 v0 v1 v2 v3
    obtain ⟨x0, x1, x2, x3, x4, x5, x6, x7, x8, x9, x10, x11, x12, y0, y1, y2, y3, y4, y5, y6, y7, y8, y9, y10, y11, y12⟩ := HM.out.all
    go_wp2_with fail
    refine (sameconf_true HM.out.a3 HM.out.a4 HM.out.a5 HM.out.b3 HM.out.b4 HM.out.b5).mono ?_
    rintro e W3 ⟨rfl, hs⟩
    have HM := Lib.hid (HM.out.keep hs)
    clear hs x0 x1 x2 x3 x4 x5 x6 x7 x8 x9 x10 x11 x12 y0 y1 y2 y3 y4 y5 y6 y7 y8 y9 y10 y11 y12
    go_wp2_with fail
    go_ret
    exact ⟨rfl, HM.out.since⟩
end Go.Proofs.Ytlocfbjeljgblaa
