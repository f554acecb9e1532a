/- Layer 36: a log, in plain words and in memory; Base, Last and Term of the program. (printed by genRepE.py) -/
import Derived.Test.YtlocfbjeljgblaaRepD
namespace Go.Proofs.Ytlocfbjeljgblaa
open Go Go.RowKit
set_option maxRecDepth 100000

/-- A log: its base and the entries behind it. -/
structure Lg where
  base : Int
  term : Int
  es : List EnV
namespace Lg
def last (g : Lg) : Int × Int := match g.es.getLast? with | some e => (e.i, e.t) | none => (g.base, g.term)
def at_ (g : Lg) (i : Int) : Option EnV := if g.base < i ∧ i ≤ g.base + g.es.length then g.es[(i - g.base - 1).toNat]? else none
def termAt (g : Lg) (i : Int) : Int × Bool := if i = g.base then (g.term, true) else match g.at_ i with | some e => (e.t, true) | none => (0, false)
/-- Numbers that are far from the ends of an int. -/
structure Fit (g : Lg) : Prop where
  lo : 0 ≤ g.base
  hi : g.base + g.es.length ≤ 4398046511104
  len : g.es.length ≤ 100000
theorem last_nil {g : Lg} (h : g.es = []) : g.last = (g.base, g.term) := by unfold last; rw [h]; rfl
theorem last_at {g : Lg} {k : Nat} {e : EnV} (hk : g.es.length = k + 1) (h : g.es[k]? = some e) : g.last = (e.i, e.t) := by
  unfold last
  rw [List.getLast?_eq_getElem?, hk, Nat.add_sub_cancel, h]
theorem at_no {g : Lg} {i : Int} (h : ¬ (g.base < i ∧ i ≤ g.base + g.es.length)) : g.at_ i = none := if_neg h
theorem at_yes {g : Lg} {k : Nat} {e : EnV} (h : g.es[k]? = some e) : g.at_ (g.base + 1 + k) = some e := by
  have hk := (List.getElem?_eq_some_iff.1 h).1
  unfold at_
  rw [if_pos ⟨by omega, by omega⟩, show (g.base + 1 + k - g.base - 1).toNat = k from by omega, h]
theorem at_form {g : Lg} {i : Int} (h1 : g.base < i) (h2 : i ≤ g.base + g.es.length) : ∃ (k : Nat) (e : EnV), i = g.base + 1 + k ∧ g.es[k]? = some e := by
  refine ⟨(i - g.base - 1).toNat, _, by omega, List.getElem?_eq_getElem (by omega)⟩
theorem termAt_base (g : Lg) : g.termAt g.base = (g.term, true) := if_pos rfl
theorem termAt_no {g : Lg} {i : Int} (h0 : i ≠ g.base) (h : ¬ (g.base < i ∧ i ≤ g.base + g.es.length)) : g.termAt i = (0, false) := by unfold termAt; rw [if_neg h0, at_no h]
theorem termAt_yes {g : Lg} {k : Nat} {e : EnV} (h : g.es[k]? = some e) : g.termAt (g.base + 1 + k) = (e.t, true) := by unfold termAt; rw [if_neg (by omega), at_yes h]
end Lg

/-- The blocks into which a log writes. -/
def lgB (M : Nat) (v : Value) : Nat → Prop := fun k => k = M ∨ some k = v.ownBlock
/-- A log of the program in memory. -/
structure LogIs (w : World) (M : Nat) (v : Value) (es : List En) (g : Lg) : Prop where
  box : Blk w M 80 #[.int .i64 g.base, .int .i64 g.term, v]
  own : w.ownsRow 0 57 15 v es.length (ecells es)
  is : All2 (EnIs w (lgB M v)) es g.es
namespace LogIs
variable {w w' : World} {M : Nat} {v : Value} {es : List En} {g : Lg}
theorem keep (h : LogIs w M v es g) (hs : Same noB w w') : LogIs w' M v es g := ⟨h.box.same hs (fun x => x), own_same h.own hs (fun _ _ x => x), h.is.imp fun _ _ k => k.keep hs⟩
theorem rd (h : LogIs w M v es g) : Rd w noB 15 v es.length (ecells es) := Rd.of_own h.own (fun _ _ x => x)
theorem enl (h : LogIs w M v es g) : EnL w noB v es g.es := ⟨h.rd, h.is.imp fun _ _ k => k.same (Same.refl noB w) (fun _ _ x => x.elim) (fun _ _ x => x.elim)⟩
theorem form (h : LogIs w M v es g) : ∃ A c, v = .slice A es.length c ∧ es.length ≤ c ∧ c ≤ 9223372036854775807 := by
  obtain ⟨A, c, hv, h1, h2, h3⟩ := h.rd.form
  exact ⟨A, c, hv, h1, by simpa [maxLen] using h2⟩
theorem cells (h : LogIs w M v es g) : w.cell? ⟨M, 0, none⟩ = some (.int .i64 g.base) ∧ w.cell? ⟨M, 1, none⟩ = some (.int .i64 g.term) ∧ w.cell? ⟨M, 2, none⟩ = some v := ⟨h.box.cell 0, h.box.cell 1, h.box.cell 2⟩
theorem len (h : LogIs w M v es g) : es.length = g.es.length := h.is.len
/-- The row of an entry: its index and its term. -/
theorem at_ {A : Option Addr} {c : Nat} (h : LogIs w M (.slice A es.length c) es g) {k : Nat} {x : EnV} (hx : g.es[k]? = some x) : ∃ b o e, A = some ⟨b, o, none⟩ ∧ es[k]? = some e ∧ EnIs w (lgB M (.slice A es.length c)) e x ∧
    w.cell? ⟨b, o + k * 15, none⟩ = some (.int .i64 x.i) ∧ w.cell? ⟨b, o + k * 15 + 1, none⟩ = some (.int .i64 x.t) := by
  obtain ⟨e, he, hi⟩ := h.is.at2 hx
  obtain ⟨b, o, hA, r⟩ := h.rd.at_ (by have := (List.getElem?_eq_some_iff.1 he).1; omega)
  obtain ⟨p0, p1, _⟩ := en_at r he
  rw [hi.i] at p0
  rw [hi.t] at p1
  exact ⟨b, o, e, hA, he, hi, p0, p1⟩
end LogIs

theorem base_any {w : World} {M : Nat} {v : Value} {es : List En} {g : Lg} (h : LogIs w M v es g) :
    Calls Try.prog 21 #[.pointer (some ⟨M, 0, none⟩)] w fun e w' => e = .returned (.tuple #[.int .i64 g.base, .int .i64 g.term]) ∧ Same noB w w' := by
  obtain ⟨c0, c1, c2⟩ := h.cells
  clear h
  go_enter Try.func21, Try.ntmps21
  go_wp2_with fail
  go_region_held3 (fun w' => w'.cell? ⟨M, 0, none⟩ = some (.int .i64 g.base) ∧ w'.cell? ⟨M, 1, none⟩ = some (.int .i64 g.term))
    (first | (refine ⟨?_, ?_⟩ <;> with_reducible assumption) | go_keep)
    (fail)
  all_goals go_wp2_with fail
  all_goals
    go_ret2
    exact ⟨rfl, (Same.refl _ _).drew⟩
theorem last_any {w : World} {M : Nat} {v : Value} {es : List En} {g : Lg} (h : LogIs w M v es g) (hf : g.Fit) :
    Calls Try.prog 23 #[.pointer (some ⟨M, 0, none⟩)] w fun e w' => e = .returned (.tuple #[.int .i64 g.last.1, .int .i64 g.last.2]) ∧ Same noB w w' := by
  obtain ⟨A, c, rfl, hc1, hc2⟩ := h.form
  obtain ⟨c0, c1, c2⟩ := h.cells
  have hl := h.len
  have hfl := hf.len
  cases hn : es.length with
  | zero =>
    have HL : Hid (g.last = (g.base, g.term)) := Lg.last_nil (List.eq_nil_of_length_eq_zero (by omega))
    rw [HL.out]
    rw [hn] at c2
    clear hf h hl hfl hn hc1
    go_enter Try.func23, Try.ntmps23
    go_wp2_with fail
    go_region_held3 (fun w' => w'.cell? ⟨M, 0, none⟩ = some (.int .i64 g.base) ∧ w'.cell? ⟨M, 1, none⟩ = some (.int .i64 g.term))
      (first | (refine ⟨?_, ?_⟩ <;> with_reducible assumption) | go_keep)
      (fail)
    all_goals go_wp2_with fail
    all_goals
      go_ret2
      exact ⟨rfl, (Same.refl _ _).drew⟩
  | succ k =>
    obtain ⟨x, hx⟩ : ∃ x, g.es[k]? = some x := ⟨_, List.getElem?_eq_getElem (by omega)⟩
    obtain ⟨b, o, e, hA, _, _, p0, p1⟩ := h.at_ hx
    have HL : Hid (g.last = (x.i, x.t)) := Lg.last_at (by omega) hx
    rw [HL.out]
    rw [hn] at c2
    subst hA
    have hk0 : (0 : Int) ≤ (k : Int) := by omega
    have hk1 : (k : Int) < (k : Int) + 1 := by omega
    have hk2 : k + 1 ≤ 100000 := by omega
    have hk3 : k + 1 ≤ c := by omega
    have hk4 : IntKind.i64.wrap (k : Int) = (k : Int) := IntWalk.i64_in _ (by omega)
    clear h hf hl hfl hn hx hc1
    go_enter Try.func23, Try.ntmps23
    go_wp2_with fail
    go_region_held3 (fun w' => w'.cell? ⟨M, 2, none⟩ = some (.slice (some ⟨b, o, none⟩) (k + 1) c) ∧ w'.cell? ⟨b, o + k * 15, none⟩ = some (.int .i64 x.i) ∧ w'.cell? ⟨b, o + k * 15 + 1, none⟩ = some (.int .i64 x.t))
      (first | (refine ⟨?_, ?_, ?_⟩ <;> with_reducible assumption) | go_keep)
      (fail)
    all_goals go_wp2_with fail
    all_goals
      go_ret2
      exact ⟨rfl, (Same.refl _ _).drew⟩
end Go.Proofs.Ytlocfbjeljgblaa
