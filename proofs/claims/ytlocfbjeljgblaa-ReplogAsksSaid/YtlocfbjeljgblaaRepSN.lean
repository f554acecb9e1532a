/- Layer 36: what merging keeps, and merging again (no program in sight). -/
import Derived.Test.YtlocfbjeljgblaaLawCmp
namespace Go.Proofs.Ytlocfbjeljgblaa
open Go Go.RowKit
set_option maxRecDepth 100000

theorem Lg.merge_not {g g' : Lg} {i t q : Int} {vs want : List EnV} (h : g.merge i t vs = (g', q, want, false)) : g' = g ∧ want = [] := by
  unfold Lg.merge at h
  split at h
  · simp only [Prod.mk.injEq] at h
    exact ⟨h.1.symm, h.2.2.1.symm⟩
  · split at h
    · simp only [Prod.mk.injEq] at h
      exact ⟨h.1.symm, h.2.2.1.symm⟩
    · split at h <;> simp at h
/-- Entries up to the index stay. -/
theorem Lg.MOk.keeps {g g' : Lg} {i t : Int} {vs : List EnV} (h : g.MOk i t vs g') (hi : g.Inv) {j : Nat} {x : EnV} (hx : g.es[j]? = some x) (hxi : x.i ≤ i) : g'.es[j]? = some x := by
  have h1 := hi.idx j x hx
  rcases h.es with ⟨_, rfl⟩ | ⟨k, m, z, hz, _, hnf, hkm, hm, he⟩
  · exact hx
  · rw [he, List.getElem?_append_left (by rw [List.length_take]; omega), List.getElem?_take, if_pos (by omega)]
    exact hx
theorem Lg.entry_at {g : Lg} (hi : g.Inv) {j : Nat} {x : EnV} (hx : g.es[j]? = some x) : g.entry x.i = (x, true) := by
  rw [hi.idx j x hx]
  unfold Lg.entry
  rw [Lg.at_yes hx]
theorem Lg.MOk.again {g g' : Lg} {i t : Int} {vs : List EnV} (h : g.MOk i t vs g') : g'.merge i t vs = (g', i + vs.length, [], true) := by
  have hmat : g'.mat i t = true := by
    have h0 := h.mat
    unfold Lg.mat at h0 ⊢
    rw [h.base]
    by_cases hb : i < g.base
    · rw [decide_eq_true hb]; rfl
    · rw [decide_eq_false hb, Bool.false_or] at h0 ⊢
      rcases h.es with ⟨_, rfl⟩ | ⟨k, m, z, hz, _, hnf, hkm, hm, he⟩
      · exact h0
      · have h1 : (g.termAt i).2 = true := by simp only [Bool.and_eq_true] at h0; exact h0.1
        have h2 := Lg.termAt_in h1
        by_cases hib : i = g.base
        · subst hib
          rw [Lg.termAt_base] at h0
          rw [← h.base, Lg.termAt_base, h.term]
          exact h0
        · obtain ⟨p, hp⟩ : ∃ p : Nat, i = g.base + 1 + p := ⟨(i - g.base - 1).toNat, by omega⟩
          obtain ⟨y, hy⟩ : ∃ y, g.es[p]? = some y := ⟨_, List.getElem?_eq_getElem (by omega)⟩
          have hy2 : g'.es[p]? = some y := by rw [he, List.getElem?_append_left (by rw [List.length_take]; omega), List.getElem?_take, if_pos (by omega)]; exact hy
          rw [Lg.termAt_at hp hy] at h0
          rw [Lg.termAt_at (by rw [h.base]; exact hp) hy2]
          exact h0
  have hcon : vs.any (fun x => contraB g'.base g'.term x.i x.t) = false := by
    rw [List.any_eq_false]
    intro x hx
    rw [h.base, h.term, h.con x hx]
    decide
  have hfr : vs.findIdx? (fun x => g'.fresh x.i x.t) = none := by
    rw [List.findIdx?_eq_none_iff]
    intro x hx
    obtain ⟨j, hj, hjx⟩ := List.getElem_of_mem hx
    unfold Lg.fresh
    rw [h.base]
    by_cases hb : g.base < x.i
    · rw [h.has (List.getElem?_eq_some_iff.2 ⟨hj, hjx⟩) hb]
      simp
    · rw [decide_eq_false hb]; rfl
  unfold Lg.merge
  rw [h.fol, if_neg (by decide), hmat, hcon, if_neg (by decide), hfr]
theorem Lg.from_all {g : Lg} (h0 : 0 ≤ g.base) (hl : g.es.length ≤ 1000) : g.fromL 0 1000 = g.es := by
  unfold Lg.fromL Lg.atOf
  rw [show (0 - g.base - 1).toNat = 0 from by omega, List.drop_zero, List.take_of_length_le (by simpa using hl)]
theorem enl_one {W : World} {bad : Nat → Prop} {e : En} {x : EnV} (h : EnIs W bad e x) (o : Obj) : EnL ((W.alloc (.cells e.cells.toArray 57)).alloc o) noB (.slice (some ⟨W.heap.size, 0, none⟩) 1 1) [e] [x] :=
  EnL.keep (w := W.alloc (.cells e.cells.toArray 57)) ⟨Rd.of_blk (Blk.new W 57 (ecells [e]).toArray) (fun x => x) rfl (Nat.le_refl _) (by simp [maxLen]), .cons (h.same ((Same.refl noB W).alloc _) (fun _ _ x => x.elim) (fun _ _ x => x.elim)) .nil⟩ ((Same.refl _ _).alloc o)
/-- Two entries that follow each other. -/
theorem Lg.Inv.next {g : Lg} (h : g.Inv) {k : Nat} {x y : EnV} (hx : g.es[k]? = some x) (hy : g.es[k + 1]? = some y) : y.i = x.i + 1 ∧ x.t ≤ y.t := by
  have h1 := h.idx k x hx
  have h2 := h.idx (k + 1) y hy
  exact ⟨by omega, h.asc k (k + 1) x y (by omega) hx hy⟩
end Go.Proofs.Ytlocfbjeljgblaa
