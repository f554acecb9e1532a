/- Layer 21: Worst of the program: a range over the iterator. -/
import Derived.Test.YtpngmodgnkjhnaaFailH
namespace Go.Proofs.Ytpngmodgnkjhnaa
open Go Go.RowKit Go.Maps Go.Shelf
set_option maxRecDepth 100000

theorem blk_own {W W' : World} {row : Option Nat} {g : Nat} {t : TypeId} {cs : Array Value} (hb : Blk W g t cs) (hg : W.grownBy W' row) (hr : ∀ r, row = some r → ∃ o : Obj, W.heap[r]? = some o ∧ o.isCells = false) : Blk W' g t cs :=
  (hg.block g hb.lt (fun e => by
    obtain ⟨o, ho, hc⟩ := hr g e.symm
    rw [show W.heap[g]? = _ from hb] at ho
    cases ho
    cases hc)).trans hb
theorem blk_put {W : World} {g D : Nat} {t : TypeId} {cs : Array Value} (hb : Blk W g t cs) (hne : D ≠ g) (o' : Obj) : Blk (W.putObj D o') g t cs :=
  ((grownBy_putObj' W D o').block g hb.lt (fun e => hne (by injection e with e; exact e.symm))).trans hb
/-- What Worst of the program holds. -/
structure WP (w W : World) (p : MPl) (m : Mdl) (s : Sl) (item : Int) (M Q G5 G6 G8 G9 : Nat) (x : Fl) (a2 : Int) : Prop where
  below : Below w.heap.size w W
  mbox : Blk W M 29 (mdlCells p m)
  qbox : Blk W Q 41 #[.slice s.addr s.len s.cap]
  b5 : Blk W G5 3 #[.int .i64 item]
  b6 : Blk W G6 31 #[.int .i64 0, .int .i64 0]
  b8 : Blk W G8 31 #[.int .i64 x.by_, .int .i64 x.num]
  b9 : Blk W G9 3 #[.int .i64 a2]
  ne : G6 ≠ G8
  n59 : G5 ≠ G9
  g8 : w.heap.size ≤ G8
  g9 : w.heap.size ≤ G9
  g6 : w.heap.size ≤ G6
section
variable {w W W' : World} {p : MPl} {m : Mdl} {s : Sl} {item : Int} {M Q G5 G6 G8 G9 : Nat} {x : Fl} {a2 : Int}
theorem WP.own (h : WP w W p m s item M Q G5 G6 G8 G9 x a2) {row : Option Nat} (hg : W.grownBy W' row) (hr : ∀ r, row = some r → w.heap.size ≤ r ∧ ∃ o : Obj, W.heap[r]? = some o ∧ o.isCells = false) : WP w W' p m s item M Q G5 G6 G8 G9 x a2 := by
  have hr2 : ∀ r, row = some r → ∃ o : Obj, W.heap[r]? = some o ∧ o.isCells = false := fun r e => (hr r e).2
  exact ⟨h.below.trans ((Same.of_grown hg).below (fun b hb => (hr b hb.symm).1) h.below.size), blk_own h.mbox hg hr2, blk_own h.qbox hg hr2, blk_own h.b5 hg hr2, blk_own h.b6 hg hr2, blk_own h.b8 hg hr2, blk_own h.b9 hg hr2, h.ne, h.n59, h.g8, h.g9, h.g6⟩
theorem WP.keep (h : WP w W p m s item M Q G5 G6 G8 G9 x a2) (hs : Same noB W W') : WP w W' p m s item M Q G5 G6 G8 G9 x a2 :=
  ⟨h.below.trans (hs.below (fun _ x => x.elim) h.below.size), h.mbox.same hs (fun x => x), h.qbox.same hs (fun x => x), h.b5.same hs (fun x => x), h.b6.same hs (fun x => x), h.b8.same hs (fun x => x), h.b9.same hs (fun x => x), h.ne, h.n59, h.g8, h.g9, h.g6⟩
theorem WP.put (h : WP w W p m s item M Q G5 G6 G8 G9 x a2) (y : Fl) (c : Int) : WP w (((W.setCell ⟨G8, 0, none⟩ (.int .i64 y.by_)).setCell ⟨G8, 1, none⟩ (.int .i64 y.num)).setCell ⟨G9, 0, none⟩ (.int .i64 c)) p m s item M Q G5 G6 G8 G9 y c ∧
    KeepsOthers W (((W.setCell ⟨G8, 0, none⟩ (.int .i64 y.by_)).setCell ⟨G8, 1, none⟩ (.int .i64 y.num)).setCell ⟨G9, 0, none⟩ (.int .i64 c)) ∧ KpL w.heap.size (mbO p m) W (((W.setCell ⟨G8, 0, none⟩ (.int .i64 y.by_)).setCell ⟨G8, 1, none⟩ (.int .i64 y.num)).setCell ⟨G9, 0, none⟩ (.int .i64 c)) := by
  have hk : ∀ k : Nat, k ≠ G8 → k ≠ G9 → (((W.setCell ⟨G8, 0, none⟩ (.int .i64 y.by_)).setCell ⟨G8, 1, none⟩ (.int .i64 y.num)).setCell ⟨G9, 0, none⟩ (.int .i64 c)).heap[k]? = W.heap[k]? := fun k h8 h9 =>
    (Below.heap_setCell _ ⟨G9, 0, none⟩ _ k h9).trans ((Below.heap_setCell _ ⟨G8, 1, none⟩ _ k h8).trans (Below.heap_setCell _ ⟨G8, 0, none⟩ _ k h8))
  have hs : Same (fun b => b = G8 ∨ b = G9) W (((W.setCell ⟨G8, 0, none⟩ (.int .i64 y.by_)).setCell ⟨G8, 1, none⟩ (.int .i64 y.num)).setCell ⟨G9, 0, none⟩ (.int .i64 c)) := (((Same.refl _ W).setCell (fun _ => .inl rfl) _).setCell (fun _ => .inl rfl) _).setCell (fun _ => .inr rfl) _
  have hb : Below w.heap.size W (((W.setCell ⟨G8, 0, none⟩ (.int .i64 y.by_)).setCell ⟨G8, 1, none⟩ (.int .i64 y.num)).setCell ⟨G9, 0, none⟩ (.int .i64 c)) := hs.below (fun b e => by have h1 := h.g8; have h2 := h.g9; omega) h.below.size
  have n1 := h.mbox.ne_ h.b8 (by decide)
  have n2 := h.mbox.ne_ h.b9 (by decide)
  have n3 := h.qbox.ne_ h.b8 (by decide)
  have n4 := h.qbox.ne_ h.b9 (by decide)
  have n5 := h.b5.ne_ h.b8 (by decide)
  have n6 : G5 ≠ G9 := h.n59
  have n7 := h.b6.ne_ h.b9 (by decide)
  have n8 := h.b8.ne_ h.b9 (by decide)
  refine ⟨⟨h.below.trans hb, (hk _ n1 n2).trans h.mbox, (hk _ n3 n4).trans h.qbox, (hk _ n5 n6).trans h.b5, (hk _ h.ne n7).trans h.b6, ?_, ?_, h.ne, h.n59, h.g8, h.g9, h.g6⟩, ((KeepsOthers.setCell _ _ _).trans (KeepsOthers.setCell _ _ _)).trans (KeepsOthers.setCell _ _ _), hb, fun k hl => ?_, fun k hl => ?_⟩
  · exact (((h.b8.set_ 0 _).set_ 1 _).far (p := ⟨G9, 0, none⟩) n8 _)
  · exact ((h.b9.far (p := ⟨G8, 0, none⟩) (Ne.symm n8) _).far (p := ⟨G8, 1, none⟩) (Ne.symm n8) _).set_ 0 _
  · refine (hk k (fun e => ?_) (fun e => ?_)).trans hl
    · subst e
      rw [show W.heap[k]? = _ from h.b8] at hl
      unfold lit3 at hl
      injection hl with hl
      injection hl with h1 h2 h3
      exact absurd h2 (by decide)
    · subst e
      rw [show W.heap[k]? = _ from h.b9] at hl
      unfold lit3 at hl
      injection hl with hl
      injection hl with h1 h2 h3
      exact absurd (congrArg Array.size h1) (by simp)
  · refine (hk k (fun e => ?_) (fun e => ?_)).trans hl
    · subst e
      rw [show W.heap[k]? = _ from h.b8] at hl
      unfold mbO at hl
      injection hl with hl
      injection hl with h1 h2 h3
      exact absurd h2 (by decide)
    · subst e
      rw [show W.heap[k]? = _ from h.b9] at hl
      unfold mbO at hl
      injection hl with hl
      injection hl with h1 h2 h3
      exact absurd h2 (by decide)
end
theorem WP.start (w : World) (p : MPl) (m : Mdl) (s : Sl) (item : Int) : WP w ((((((w.alloc (.cells (mdlCells p m) 29)).alloc (.cells #[.slice s.addr s.len s.cap] 41)).alloc (.cells #[.int .i64 item] 3)).alloc (.cells #[.int .i64 0, .int .i64 0] 31)).alloc (.cells #[.int .i64 0, .int .i64 0] 31)).alloc (.cells #[.int .i64 (-1)] 3)) p m s item w.heap.size (w.heap.size + 1) (w.heap.size + 1 + 1) (w.heap.size + 1 + 1 + 1) (w.heap.size + 1 + 1 + 1 + 1) (w.heap.size + 1 + 1 + 1 + 1 + 1) ⟨0, 0⟩ (-1) := by
  have k1 := Blk.new w 29 (mdlCells p m)
  obtain ⟨w1, h1⟩ : ∃ w1, w.alloc (.cells (mdlCells p m) 29) = w1 := ⟨_, rfl⟩
  have z1 : w1.heap.size = w.heap.size + 1 := by rw [← h1]; simp
  have s1 : Below w.heap.size w w1 := by rw [← h1]; exact (Below.refl _ w).alloc (Nat.le_refl _) _
  rw [h1] at k1
  have k2 := Blk.new w1 41 #[.slice s.addr s.len s.cap]
  obtain ⟨w2, h2⟩ : ∃ w2, w1.alloc (.cells #[.slice s.addr s.len s.cap] 41) = w2 := ⟨_, rfl⟩
  have z2 : w2.heap.size = w.heap.size + 1 + 1 := by rw [← h2, World.size_alloc, z1]
  have s2 : Same noB w1 w2 := by rw [← h2]; exact (Same.refl _ _).alloc _
  rw [h2, z1] at k2
  have k3 := Blk.new w2 3 #[.int .i64 item]
  obtain ⟨w3, h3⟩ : ∃ w3, w2.alloc (.cells #[.int .i64 item] 3) = w3 := ⟨_, rfl⟩
  have z3 : w3.heap.size = w.heap.size + 1 + 1 + 1 := by rw [← h3, World.size_alloc, z2]
  have s3 : Same noB w2 w3 := by rw [← h3]; exact (Same.refl _ _).alloc _
  rw [h3, z2] at k3
  have k4 := Blk.new w3 31 #[.int .i64 0, .int .i64 0]
  obtain ⟨w4, h4⟩ : ∃ w4, w3.alloc (.cells #[.int .i64 0, .int .i64 0] 31) = w4 := ⟨_, rfl⟩
  have z4 : w4.heap.size = w.heap.size + 1 + 1 + 1 + 1 := by rw [← h4, World.size_alloc, z3]
  have s4 : Same noB w3 w4 := by rw [← h4]; exact (Same.refl _ _).alloc _
  rw [h4, z3] at k4
  have k5 := Blk.new w4 31 #[.int .i64 0, .int .i64 0]
  obtain ⟨w5, h5⟩ : ∃ w5, w4.alloc (.cells #[.int .i64 0, .int .i64 0] 31) = w5 := ⟨_, rfl⟩
  have z5 : w5.heap.size = w.heap.size + 1 + 1 + 1 + 1 + 1 := by rw [← h5, World.size_alloc, z4]
  have s5 : Same noB w4 w5 := by rw [← h5]; exact (Same.refl _ _).alloc _
  rw [h5, z4] at k5
  have k6 := Blk.new w5 3 #[.int .i64 (-1)]
  have s6 : Same noB w5 (w5.alloc (.cells #[.int .i64 (-1)] 3)) := (Same.refl _ _).alloc _
  rw [z5] at k6
  have t5 : Same noB w4 (w5.alloc (.cells #[.int .i64 (-1)] 3)) := s5.trans' s6
  have t4 : Same noB w3 (w5.alloc (.cells #[.int .i64 (-1)] 3)) := s4.trans' t5
  have t3 : Same noB w2 (w5.alloc (.cells #[.int .i64 (-1)] 3)) := s3.trans' t4
  have t2 : Same noB w1 (w5.alloc (.cells #[.int .i64 (-1)] 3)) := s2.trans' t3
  rw [h1, h2, h3, h4, h5]
  exact ⟨s1.trans (t2.below (fun _ x => x.elim) s1.size), Blk.same k1 t2 (fun x => x), Blk.same k2 t3 (fun x => x), Blk.same k3 t4 (fun x => x), Blk.same k4 t5 (fun x => x), Blk.same (S := noB) (w := w5) k5 s6 (fun x => x), k6, by omega, by omega, by omega, by omega, by omega⟩
theorem callsIn_abs {F : Fence} {n : Nat} {P : Program} {f : FuncId} {args : Array Value} {w : World} {R : Ending → World → Prop} (F' : World → Prop) (hF : F' w) (h : ∀ w, F' w → CallsIn F n P f args w R) : CallsIn F n P f args w R := h w hF
theorem Same.keeps {W W' : World} (hs : Same noB W W') : KeepsOthers W W' := ⟨hs.size, fun _ _ hk _ => hs.heap hk (fun x => x)⟩
theorem wStep_eq {g : Fl → Nat} {l : List Fl} {x y : Fl} {a2 : Int} (h : (x, a2) = wst g l) : wst g (l ++ [y]) = if a2 < 0 ∨ (g y : Int) < a2 then (y, (g y : Int)) else (x, a2) := by rw [wst_snoc, ← h]; rfl
/-- A failure whose class fits an int. -/
def Fw : Type := { f : Fl // inI64 f.by_ }
theorem decl_stops2 (n : Nat) (hn : 2 ≤ n) (M : Nat) {p : MPl} {m : Mdl} (hd : ∀ b, m.domains b ≤ 1000000) {w : World} {w0 : World} (hin : MdlIn w p m) (hb : Below w.heap.size w w0) (hB : Blk w0 M 29 (mdlCells p m)) :
    SeqStopsK Fence.wide n Try.prog 52 #[.pointer (some ⟨M, 0, none⟩)] (fun x : Fw => #[x.1.val]) (KpL w.heap.size (mbO p m)) (fun ys => ys.map (fun x => x.1) = declL m) (fun _ => True) (declL m).length w0 := fun l J Jx W hW hJ hJx hY h0 => by
  have hZ := declared1_in n hn l M hd (fun pre W => ∃ l', l'.map (fun (x : Fw) => x.1) = pre ∧ J l' W) (fun pre W => ∃ l', l'.map (fun (x : Fw) => x.1) = pre ∧ Jx l' W)
    (fun s W W' row hs hg hr => by
      obtain ⟨l', h1, h2⟩ := hs
      exact ⟨l', h1, hJ _ _ _ row h2 hg hr⟩)
    (fun pre x W hj hp => by
      obtain ⟨l', h1, h2⟩ := hj
      have hx : x ∈ declL m := by obtain ⟨t, ht⟩ := hp; rw [← ht]; simp
      obtain ⟨q1, q2, _⟩ := decl_by hx
      have hl : l'.length < (declL m).length := by
        have h3 := hp.length_le
        rw [List.length_append, List.length_singleton, ← h1, List.length_map] at h3
        omega
      refine (hY l' ⟨x, inI64_of (by omega) (by omega)⟩ W h2 hl).mono (fun e W' hq => ?_)
      rcases hq with ⟨a1, a2, a3⟩ | ⟨a1, a2⟩
      · exact .inl ⟨a1, ⟨_, by rw [List.map_append, h1]; rfl, a2⟩, a3⟩
      · exact .inr ⟨a1, ⟨_, by rw [List.map_append, h1]; rfl, a2⟩⟩)
    W hin (hB.same (Same.of_below hW) (fun x => x)) (hb.trans (hW.mono hb.size)) ⟨[], rfl, h0⟩
  refine hZ.mono ?_
  rintro e W' ⟨h1, h2⟩
  refine ⟨h1, ?_⟩
  rcases h2 with ⟨ys, rfl, l', h3, h4⟩ | ⟨pre, _, l', h3, h4⟩
  · exact .inl ⟨l', h3, h4⟩
  · exact .inr ⟨l', trivial, h4⟩
attribute [local go_sem] Oper.semAt_some
set_option maxHeartbeats 4000000 in
theorem worst_in {w : World} {p : MPl} {m : Mdl} {s : Sl} {P : List (List Un)} (h : MdlIn w p m) (hP : PlIn w s P) (item : Int) (hd : ∀ b, m.domains b ≤ 1000000) (hlen : (declL m).length ≤ 4000000) (hus : (unitsOf P item).length ≤ 1000000) :
    CallsIn Fence.wide 9 Try.prog 18 #[mdlVal p m, plVal s, .int .i64 item] w fun e w' => e = .returned (.tuple #[(worst m P item).1.val, .int .i64 (worst m P item).2]) ∧ Same noB w w' := by
  have HIN := Lib.hid (And.intro h hP)
  have HD := Lib.hid hd
  have HL := Lib.hid hlen
  have HU := Lib.hid hus
  have HW0 := Lib.hid (WP.start w p m s item)
  clear h hP hd hlen hus
  unfold mdlVal plVal
  unfold mdlCells at HW0
  refine callsIn_of_wp_marks Try.func18 rfl trivial ?_ rfl
  simp only [Try.ntmps18, List.size_toArray, List.length_cons, List.length_nil, Nat.reduceAdd, Nat.reduceSub, Array.replicate_succ, Array.replicate_zero, List.push_toArray, List.append_toArray, List.nil_append, List.cons_append]
  gi_wp2
  refine ⟨trivial, ?_⟩
  refine callsIn_abs (fun W => Hid (WP w W p m s item w.heap.size (w.heap.size + 1) (w.heap.size + 1 + 1) (w.heap.size + 1 + 1 + 1) (w.heap.size + 1 + 1 + 1 + 1) (w.heap.size + 1 + 1 + 1 + 1 + 1) ⟨0, 0⟩ (-1))) HW0 ?_
  clear HW0
  generalize w.heap.size + 1 + 1 + 1 + 1 + 1 = G9 at *
  generalize w.heap.size + 1 + 1 + 1 + 1 = G8 at *
  generalize w.heap.size + 1 + 1 + 1 = G6 at *
  generalize w.heap.size + 1 + 1 = G5 at *
  generalize w.heap.size + 1 = Q at *
  obtain ⟨M, hM⟩ : ∃ M, w.heap.size = M := ⟨_, rfl⟩
  rw [hM]
  intro W0 HW0
  have hZ := declared_any (w := W0) (p := p) (m := m)
  unfold mdlVal at hZ
  refine (callsIn_wide.2 hZ).mono ?_
  clear hZ
  rintro e W1 ⟨rfl, hw⟩
  have HW1 : Hid (WP w W1 p m s item M Q G5 G6 G8 G9 ⟨0, 0⟩ (-1)) := by rw [hw]; exact HW0.out.keep ((Same.refl _ _).alloc _)
  have hB2 : Blk W1 W0.heap.size 29 (mdlCells p m) := by rw [hw]; exact Blk.new _ _ _
  generalize W0.heap.size = M2 at *
  clear hw HW0
  have hst := decl_stops2 8 (by omega) M2 HD.out HIN.out.1 HW1.out.below hB2
  have hsz := HW1.out.below.size
  gi_wp2
  refine wpIn_rangeFunc_ownH (n := 9) rfl (by omega) (gf := 52) (lb := #[.pointer (some ⟨M2, 0, none⟩)]) rfl trivial (enters_of Try.func52 (by kernel_rfl) rfl)
    hst KpL.t (KpL.b hsz) (Below.refl _ _) (fun _ => rfl)
    (fun pre W => ∃ (x : Fl) (a2 : Int), (x, a2) = wst (nS m P item) (pre.map (fun (x : Fw) => x.1)) ∧ WP w W p m s item M Q G5 G6 G8 G9 x a2)
    (fun _ _ _ => False)
    (fun pre X Y row hs hg hr => by
      obtain ⟨x, a2, h1, h2⟩ := hs
      exact ⟨x, a2, h1, h2.own hg (fun r e => ⟨Nat.le_trans hsz (hr r e).1, (hr r e).2⟩)⟩)
    (fun _ _ _ _ _ hs _ _ => hs)
    ⟨⟨0, 0⟩, -1, rfl, HW1.out⟩
    (fun x a' W => ∃ Bx, Blk W Bx 31 #[.int .i64 x.1.by_, .int .i64 x.1.num] ∧ a' = { tmps := #[.agg #[.slice p.s.addr p.s.len p.s.cap, .slice p.f.addr p.f.len p.f.cap, .slice p.r.addr p.r.len p.r.cap, .slice p.mc.addr p.mc.len p.mc.cap, .slice p.l.addr p.l.len p.l.cap, .slice p.i.addr p.i.len p.i.cap, .int .i64 m.dark, .int .i64 m.slots, .int .i64 m.reserve, .int .i64 m.failures, .slice p.ru.addr p.ru.len p.ru.cap], .agg #[.slice s.addr s.len s.cap], .int .i64 item, .pointer (some ⟨M, 0, none⟩), .pointer (some ⟨Q, 0, none⟩), .pointer (some ⟨G5, 0, none⟩), .pointer (some ⟨G6, 0, none⟩), .int .i64 0, .pointer (some ⟨G8, 0, none⟩), .pointer (some ⟨G9, 0, none⟩), .pointer (some ⟨Bx, 0, none⟩), undef, .agg #[.int .i64 0, .int .i64 0], .agg #[.slice p.s.addr p.s.len p.s.cap, .slice p.f.addr p.f.len p.f.cap, .slice p.r.addr p.r.len p.r.cap, .slice p.mc.addr p.mc.len p.mc.cap, .slice p.l.addr p.l.len p.l.cap, .slice p.i.addr p.i.len p.i.cap, .int .i64 m.dark, .int .i64 m.slots, .int .i64 m.reserve, .int .i64 m.failures, .slice p.ru.addr p.ru.len p.ru.cap], .func (.func 52) #[] #[.pointer (some ⟨M2, 0, none⟩)], x.1.val, undef, undef, undef, undef, undef, undef, undef, undef, undef, undef, undef, undef, undef, undef, undef, undef, undef], defers := [] })
    (fun x a' _ X Y row hs hg hr => by
      obtain ⟨Bx, h1, h2⟩ := hs
      exact ⟨Bx, blk_own h1 hg (fun r e => (hr r e).2), h2⟩)
    ?assign ?body ?done ?stop
  case assign =>
    rintro l pre x W K ⟨x0, a2, h1, h2⟩ hK
    obtain ⟨⟨xb, xn⟩, hbx⟩ := x
    unfold Fl.val at *
    gi_wp2
    exact hK _ _ ((KeepsOthers.alloc _ _).from _) (KpL.same ((Same.refl noB W).alloc _) h2.below.size) ⟨x0, a2, h1, h2.keep ((Same.refl noB W).alloc _)⟩ ⟨W.heap.size, Blk.new W 31 _, rfl⟩
  case body =>
    rintro l pre x a' W hl _ ⟨x0, a2, h1, h2⟩ ⟨Bx, hx, rfl⟩ hlt
    have HX := Lib.hid hx
    have H1 := Lib.hid (wStep_eq (y := x.1) h1)
    have H2 := Lib.hid h2
    obtain ⟨⟨xb, xn⟩, hbx⟩ := x
    unfold Fl.val at *
    obtain ⟨c0, c1, c2, c3, c4, c5, c6, c7, c8, c9, c10⟩ := (mb_below HIN.out.1 h2.mbox h2.below).all
    have cq : W.cell? ⟨Q, 0, none⟩ = some (.slice s.addr s.len s.cap) := h2.qbox.cell 0
    have ci : W.cell? ⟨G5, 0, none⟩ = some (.int .i64 item) := h2.b5.cell 0
    have x0' : W.cell? ⟨Bx, 0, none⟩ = some (.int .i64 xb) := hx.cell 0
    have x1' : W.cell? ⟨Bx, 1, none⟩ = some (.int .i64 xn) := hx.cell 1
    clear hx h2 h1
    gi_wp2
    refine ⟨trivial, ?_⟩
    have hZ := surv_any (w := W) (HIN.out.1.keep (Same.of_below H2.out.below)) (HIN.out.2.keep (Same.of_below H2.out.below)) ⟨xb, xn⟩ hbx item HU.out
    unfold mdlVal plVal Fl.val at hZ
    refine ((callsIn_wide.2 hZ).inRound l).mono ?_
    clear hZ
    rintro e W5 ⟨v5, rfl, ha5⟩
    obtain ⟨A5, k5, rfl⟩ := own_form ha5.own
    have HW5 := Lib.hid (H2.out.keep ha5.since)
    have HS5 := Lib.hid ha5.since
    have HX5 := Lib.hid (HX.out.same ha5.since (fun x => x))
    obtain ⟨q, hq⟩ : ∃ q, nS m P item ⟨xb, xn⟩ = q := ⟨_, rfl⟩
    have hq' : (survs m P ⟨xb, xn⟩ item).length = q := hq
    have HC0 : wst (nS m P item) (pre.map (fun (x : Fw) => x.1) ++ [⟨xb, xn⟩]) = if a2 < 0 ∨ (nS m P item ⟨xb, xn⟩ : Int) < a2 then (⟨xb, xn⟩, (nS m P item ⟨xb, xn⟩ : Int)) else (x0, a2) := H1.out
    rw [hq] at HC0
    have HC1 := Lib.hid HC0
    rw [hq']
    have e2 : W5.cell? ⟨G9, 0, none⟩ = some (.int .i64 a2) := HW5.out.b9.cell 0
    have e3 : W5.cell? ⟨G8, 0, none⟩ = some (.int .i64 x0.by_) := HW5.out.b8.cell 0
    have e4 : W5.cell? ⟨G8, 1, none⟩ = some (.int .i64 x0.num) := HW5.out.b8.cell 1
    have y0 : W5.cell? ⟨Bx, 0, none⟩ = some (.int .i64 xb) := HX5.out.cell 0
    have y1 : W5.cell? ⟨Bx, 1, none⟩ = some (.int .i64 xn) := HX5.out.cell 1
    have z2 := HW5.out.b9.frozen 0
    have z3 := HW5.out.b8.frozen 0
    have z4 := HW5.out.b8.frozen 1
    have n8 : G8 ≠ G9 := HW5.out.b8.ne_ HW5.out.b9 (by decide)
    have n9 : G9 ≠ G8 := Ne.symm n8
    clear c0 c1 c2 c3 c4 c5 c6 c7 c8 c9 c10 cq ci x0' x1' ha5 HC0 hq hq' H1
    by_cases hc : a2 < 0 ∨ (q : Int) < a2
    · have HC : Hid (wst (nS m P item) (pre.map (fun (x : Fw) => x.1) ++ [⟨xb, xn⟩]) = (⟨xb, xn⟩, (q : Int))) := by
        show _ = _
        rw [HC1.out, if_pos hc]
      by_cases h0 : a2 < 0
      · have d1 : decide (a2 < 0) = true := decide_eq_true h0
        clear hc h0
        gi_wp2
        (repeat (refine ⟨fun _ h => (by cases h), ?_⟩; gi_wp2))
        all_goals
          refine ⟨((HS5.out.keeps.trans ((HW5.out.put ⟨xb, xn⟩ q)).2.1).from _), (KpL.same HS5.out H2.out.below.size).t ((HW5.out.put ⟨xb, xn⟩ q)).2.2, ⟨⟨xb, xn⟩, q, ?_, ((HW5.out.put ⟨xb, xn⟩ q)).1⟩⟩
          rw [List.map_append]
          exact HC.out.symm
      · have d1 : decide (a2 < 0) = false := decide_eq_false h0
        have d2 : decide ((q : Int) < a2) = true := decide_eq_true (by omega)
        clear hc h0
        gi_wp2
        all_goals
          refine ⟨((HS5.out.keeps.trans ((HW5.out.put ⟨xb, xn⟩ q)).2.1).from _), (KpL.same HS5.out H2.out.below.size).t ((HW5.out.put ⟨xb, xn⟩ q)).2.2, ⟨⟨xb, xn⟩, q, ?_, ((HW5.out.put ⟨xb, xn⟩ q)).1⟩⟩
          rw [List.map_append]
          exact HC.out.symm
    · have HC : Hid (wst (nS m P item) (pre.map (fun (x : Fw) => x.1) ++ [⟨xb, xn⟩]) = (x0, a2)) := by
        show _ = _
        rw [HC1.out, if_neg hc]
      have d1 : decide (a2 < 0) = false := decide_eq_false (by omega)
      have d2 : decide ((q : Int) < a2) = false := decide_eq_false (by omega)
      clear hc
      gi_wp2
      refine ⟨HS5.out.keeps.from _, KpL.same HS5.out H2.out.below.size, ⟨x0, a2, ?_, HW5.out⟩⟩
      rw [List.map_append]
      exact HC.out.symm
  case done =>
    rintro D ys W hD hys ⟨x, a2, h1, h2⟩ hK
    have e0 : W.cell? ⟨G8, 0, none⟩ = some (.int .i64 x.by_) := h2.b8.cell 0
    have e1 : W.cell? ⟨G8, 1, none⟩ = some (.int .i64 x.num) := h2.b8.cell 1
    have e2 : W.cell? ⟨G9, 0, none⟩ = some (.int .i64 a2) := h2.b9.cell 0
    have g0 : W.cell? ⟨G6, 0, none⟩ = some (.int .i64 0) := h2.b6.cell 0
    have g1 : W.cell? ⟨G6, 1, none⟩ = some (.int .i64 0) := h2.b6.cell 1
    have z0 := h2.b6.frozen 0
    have z1 := h2.b6.frozen 1
    have hne : G6 ≠ G9 := h2.b6.ne_ h2.b9 (by decide)
    have hne2 : G9 ≠ G6 := Ne.symm hne
    gi_wp2
    gi_region
    all_goals gi_wp2
    obtain ⟨W9, hW9⟩ : ∃ W9, ((W.setCell ⟨G6, 0, none⟩ (.int .i64 x.by_)).setCell ⟨G6, 1, none⟩ (.int .i64 x.num)).drew = W9 := ⟨_, rfl⟩
    have hb9 : Blk W9 G6 31 #[.int .i64 x.by_, .int .i64 x.num] := by rw [← hW9]; exact (((h2.b6.set_ 0 _).set_ 1 _).drew)
    have hs9 : Same (fun b => b = G6) W W9 := by rw [← hW9]; exact (((Same.refl (fun b => b = G6) W).setCell (a := ⟨G6, 0, none⟩) (fun _ => rfl) _).setCell (a := ⟨G6, 1, none⟩) (fun _ => rfl) _).drew
    have hDG : D ≠ G6 := fun e => by
      subst e
      rw [show W.heap[D]? = _ from h2.b6] at hK
      cases hK
    have hK9 : W9.heap[D]? = some (.deferred (some [])) := hs9.heap hK (fun e => hDG e)
    have hbl : Below w.heap.size W W9 := hs9.below (fun b e => by have h3 := h2.g6; omega) h2.below.size
    have hwo : worst m P item = (x, a2) := by rw [h1, hys]; rfl
    rw [hW9]
    refine ⟨by simp, .inl ⟨_, _, rfl, run_takeDeferred hK9, ?_⟩⟩
    refine ⟨_, res_w rfl (blk_put hb9 hDG _) rfl rfl, ?_, ?_⟩
    · rw [hwo]
      rfl
    · exact Same.of_below (h2.below.trans (hbl.trans (belowK_b (w := W1) hsz W9 D _ _ hD hK9 rfl rfl)))
  case stop =>
    rintro D c pre W _ _ h _
    exact h.elim
theorem worst_any {w : World} {p : MPl} {m : Mdl} {s : Sl} {P : List (List Un)} (h : MdlIn w p m) (hP : PlIn w s P) (item : Int) (hd : ∀ b, m.domains b ≤ 1000000) (hlen : (declL m).length ≤ 4000000) (hus : (unitsOf P item).length ≤ 1000000) :
    Calls Try.prog 18 #[mdlVal p m, plVal s, .int .i64 item] w fun e w' => e = .returned (.tuple #[(worst m P item).1.val, .int .i64 (worst m P item).2]) ∧ Same noB w w' := callsIn_wide.1 (worst_in h hP item hd hlen hus)
end Go.Proofs.Ytpngmodgnkjhnaa
