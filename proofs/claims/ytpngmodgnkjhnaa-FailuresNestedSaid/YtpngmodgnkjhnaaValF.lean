/- Layer 21: Item and Rule. -/
import Derived.Test.YtpngmodgnkjhnaaValE
import Derived.Test.YtpngmodgnkjhnaaSiteK
import Derived.Deep.CutRange
namespace Go.Proofs.Ytpngmodgnkjhnaa
open Go Go.RowKit Go.Maps
set_option maxRecDepth 100000

/-- A list of ints that can be read. -/
def OnOk (w : World) (s : Sl) : Prop := ∃ l : List Int, s.len = l.length ∧ Rd w noB 1 (.slice s.addr s.len s.cap) s.len (icells l)
theorem OnOk.keep {w w' : World} {s : Sl} (h : OnOk w s) (hs : Same noB w w') : OnOk w' s := by obtain ⟨l, h1, h2⟩ := h; exact ⟨l, h1, h2.keep hs⟩
/-- The lists of items and rules can be read. -/
structure Ful (w : World) (m : Mdl) : Prop where
  it : ∀ x ∈ m.items, OnOk w x.on
  ru : ∀ x ∈ m.rules, OnOk w x.ms
theorem Ful.keep {w w' : World} {m : Mdl} (h : Ful w m) (hs : Same noB w w') : Ful w' m := ⟨fun x hx => (h.it x hx).keep hs, fun x hx => (h.ru x hx).keep hs⟩
def It.val (x : It) : Value := .agg #[.string x.name, .int .i64 x.kind, .int .i64 x.count, .int .i64 x.load, .int .i64 x.size, .int .i64 x.share, .slice x.on.addr x.on.len x.on.cap]
def Ru.val (x : Ru) : Value := .agg #[.int .i64 x.kind, .int .i64 x.item, .int .i64 x.other, .int .i64 x.n, .int .i64 x.by_, .bool x.always, .slice x.ms.addr x.ms.len x.ms.cap]
/-- Item's memory. -/
structure ItI (w W : World) (p : MPl) (m : Mdl) (x : It) (M X : Nat) : Prop where
  mb : MB w W p m M
  xb : Blk W X 64 x.cells.toArray
theorem ItI.keep {w W W' : World} {p : MPl} {m : Mdl} {x : It} {M X : Nat} (h : ItI w W p m x M X) (hs : Same noB W W') : ItI w W' p m x M X := ⟨h.mb.keep hs, h.xb.same hs (fun x => x)⟩
theorem ItI.all {w W : World} {p : MPl} {m : Mdl} {x : It} {M X : Nat} (h : ItI w W p m x M X) : W.cell? ⟨X, 1, none⟩ = some (.int .i64 x.kind) ∧ W.cell? ⟨X, 2, none⟩ = some (.int .i64 x.count) ∧ W.cell? ⟨X, 3, none⟩ = some (.int .i64 x.load) ∧ W.cell? ⟨X, 4, none⟩ = some (.int .i64 x.size) ∧ W.cell? ⟨X, 5, none⟩ = some (.int .i64 x.share) ∧ W.cell? ⟨X, 6, none⟩ = some (.slice x.on.addr x.on.len x.on.cap) :=
  ⟨h.xb.cell 1, h.xb.cell 2, h.xb.cell 3, h.xb.cell 4, h.xb.cell 5, h.xb.cell 6⟩

set_option maxHeartbeats 16000000 in
theorem item_any {w : World} {p : MPl} {m : Mdl} (h : MdlIn w p m) {x : It} (hx : OnOk w x.on) : Calls Try.prog 47 #[mdlVal p m, x.val] w (SomeB w) := by
  have b2 := new_at (w := w.alloc (.cells (mdlCells p m) 29)) (n := w.heap.size + 1) (by simp) 64 x.cells.toArray
  have HM0 : Hid (ItI w ((w.alloc (.cells (mdlCells p m) 29)).alloc (.cells x.cells.toArray 64)) p m x w.heap.size (w.heap.size + 1)) := ⟨(MB.start h).keep ((Same.refl _ _).alloc _), b2⟩
  have HO : Hid (OnOk w x.on) := hx
  clear h hx b2
  unfold mdlVal It.val
  unfold mdlCells It.cells at HM0
  go_enter Try.func47, Try.ntmps47
  go_wp2_with fail
  refine calls_abs (fun W => Hid (ItI w W p m x w.heap.size (w.heap.size + 1))) HM0 ?_
  clear HM0
  generalize w.heap.size + 1 = X at *
  generalize w.heap.size = M at *
  intro W HM
  obtain ⟨l, hl, hr⟩ := HO.out.keep HM.out.mb.since
  rw [hl] at hr
  have hZ := machs67_any HM.out.mb.inn hr
  unfold mdlVal at hZ
  rw [hl]
  (with_reducible refine Calls.mono hZ ?_)
  clear hZ
  rintro e W2 ⟨q, rfl, hs⟩
  have HM2 := Lib.hid (HM.out.keep hs)
  obtain ⟨e1, e2, e3, e4, e5, e6⟩ := HM2.out.all
  clear hs hr HM HO
  obtain ⟨xn, xk, xc, xl, xs, xh, xo⟩ := x
  simp only at *
  rw [hl] at e6
  clear hl
  cases q
  · go_wp2_with fail
    go_ret
    exact someB_mk false rfl HM2.out.mb.since
  · go_wp2_with (go_at_call 49; refine (within_any _ _ _ _).mono ?_; rintro e W3 ⟨rfl, rfl⟩)
    all_goals
      go_ret
      exact someB_mk _ rfl HM2.out.mb.since
theorem it_kind {w : World} {p : MPl} {m : Mdl} (h : MdlIn w p m) {k : Nat} (hk : k < m.items.length) : ∃ b o x, p.i.addr = some ⟨b, o, none⟩ ∧ m.items[k]? = some x ∧ w.cell? ⟨b, o + k * 7 + 1, none⟩ = some (.int .i64 x.kind) := by
  obtain ⟨x, hx⟩ : ∃ x, m.items[k]? = some x := ⟨_, List.getElem?_eq_getElem hk⟩
  obtain ⟨b, o, e, r⟩ := h.i.at_ (by rw [h.li]; omega)
  have c1 := r.cell (k * 7 + 1) _ ((flat_at It.cells 7 (fun _ => rfl) hx 1 (by omega)).trans rfl)
  exact ⟨b, o, x, e, hx, by rw [← Nat.add_assoc] at c1; exact c1⟩
/-- Rule's memory. -/
structure RuI (w W : World) (p : MPl) (m : Mdl) (x : Ru) (M X : Nat) : Prop where
  mb : MB w W p m M
  xb : Blk W X 66 x.cells.toArray
theorem RuI.keep {w W W' : World} {p : MPl} {m : Mdl} {x : Ru} {M X : Nat} (h : RuI w W p m x M X) (hs : Same noB W W') : RuI w W' p m x M X := ⟨h.mb.keep hs, h.xb.same hs (fun x => x)⟩
theorem RuI.all {w W : World} {p : MPl} {m : Mdl} {x : Ru} {M X : Nat} (h : RuI w W p m x M X) : W.cell? ⟨X, 0, none⟩ = some (.int .i64 x.kind) ∧ W.cell? ⟨X, 1, none⟩ = some (.int .i64 x.item) ∧ W.cell? ⟨X, 2, none⟩ = some (.int .i64 x.other) ∧ W.cell? ⟨X, 3, none⟩ = some (.int .i64 x.n) ∧ W.cell? ⟨X, 4, none⟩ = some (.int .i64 x.by_) ∧ W.cell? ⟨X, 5, none⟩ = some (.bool x.always) ∧ W.cell? ⟨X, 6, none⟩ = some (.slice x.ms.addr x.ms.len x.ms.cap) :=
  ⟨h.xb.cell 0, h.xb.cell 1, h.xb.cell 2, h.xb.cell 3, h.xb.cell 4, h.xb.cell 5, h.xb.cell 6⟩

set_option maxHeartbeats 32000000 in
theorem rule_any {w : World} {p : MPl} {m : Mdl} (h : MdlIn w p m) {x : Ru} (hx : OnOk w x.ms) : Calls Try.prog 48 #[mdlVal p m, x.val] w (SomeB w) := by
  have b2 := new_at (w := w.alloc (.cells (mdlCells p m) 29)) (n := w.heap.size + 1) (by simp) 66 x.cells.toArray
  have HM0 : Hid (RuI w ((w.alloc (.cells (mdlCells p m) 29)).alloc (.cells x.cells.toArray 66)) p m x w.heap.size (w.heap.size + 1)) := ⟨(MB.start h).keep ((Same.refl _ _).alloc _), b2⟩
  have HO : Hid (OnOk w x.ms) := hx
  clear h hx b2
  unfold mdlVal Ru.val
  unfold mdlCells Ru.cells at HM0
  go_enter Try.func48, Try.ntmps48
  go_wp2_with fail
  refine calls_abs (fun W => Hid (RuI w W p m x w.heap.size (w.heap.size + 1))) HM0 ?_
  clear HM0
  generalize w.heap.size + 1 = X at *
  generalize w.heap.size = M at *
  intro W HM
  obtain ⟨q, hq⟩ : ∃ q, exB x.item p.i.len = q := ⟨_, rfl⟩
  have HQ := Lib.hid hq
  clear hq
  refine (rexists_any _ _ _).mono ?_
  rintro e W2 ⟨rfl, rfl⟩
  rw [HQ.out]
  go_upto_region 2 with (fail)
  go_cut [1, 6] from 13 to 32 (fun u v wx => ∃ b : Bool, v = .bool b ∧ wx = W2)
  case first =>
    obtain ⟨e0, e1, e2, e3, e4, e5, e6⟩ := HM.out.all
    go_wp2_with fail
    all_goals
      go_meet
      exact ⟨_, rfl, rfl⟩
  case rest =>
    obtain ⟨b6, rfl, rfl⟩ := hcut
    obtain ⟨e0, e1, e2, e3, e4, e5, e6⟩ := HM.out.all
    obtain ⟨c0, c1, c2, c3, c4, c5, c6, c7, c8, c9, c10⟩ := HM.out.mb.all
    obtain ⟨xk, xi, xo, xn, xb, xa, xm⟩ := x
    simp only at *
    have HO2 := Lib.hid (HO.out.keep HM.out.mb.since)
    obtain ⟨ma, mn, mc⟩ := xm
    obtain ⟨l, hl, hr⟩ := HO2.out
    simp only at hl hr
    subst hl
    have HR := Lib.hid hr
    clear hr
    cases q
    · go_wp2_with (first
        | (go_at_call 49; refine (within_any _ _ _ _).mono ?_; rintro e W3 ⟨rfl, rfl⟩))
      all_goals
        go_ret
        exact someB_mk _ rfl HM.out.mb.since
    · obtain ⟨j, hj, hjl⟩ := exB_at HQ.out
      obtain ⟨b, o, y, hb, hy, k1⟩ := it_kind HM.out.mb.inn (k := j) (by have := HM.out.mb.inn.li; omega)
      subst hj
      have hi0 : (0 : Int) ≤ (j : Int) := by omega
      have hi1 : (j : Int) < (p.i.len : Int) := by omega
      have hi3 : IntKind.i64.wrap (j : Int) = (j : Int) := IntWalk.i64_in _ (by have := HM.out.mb.inn.i.caps; omega)
      have hci := HM.out.mb.inn.i.caps
      have HBA := Lib.hid hb
      rw [hb] at c5
      clear hb hy
      go_wp2_with (first
        | (go_at_call 49; refine (within_any _ _ _ _).mono ?_; rintro e W3 ⟨rfl, rfl⟩)
        | (go_at_call 29; refine (rexists_any _ _ _).mono ?_; rintro e W3 ⟨rfl, rfl⟩)
        | (go_at_call 67; have hZ := machs67_any HM.out.mb.inn HR.out; unfold mdlVal at hZ; rw [HBA.out] at hZ; (with_reducible refine Calls.mono hZ ?_); clear hZ; rintro e W3 ⟨q3, rfl, hs⟩; have HM := Lib.hid (HM.out.keep hs); obtain ⟨e0, e1, e2, e3, e4, e5, e6⟩ := HM.out.all; clear hs))
      all_goals
        go_ret
        exact someB_mk _ rfl HM.out.mb.since
end Go.Proofs.Ytpngmodgnkjhnaa
