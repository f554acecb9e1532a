/- Layer 10: plain law of Residual of the reference. -/
import Derived.Test.YtpalacfgpcpppaaFloN
namespace Go.Proofs.Ytpalacfgpcpppaa
open Go Go.RowKit

theorem search_tree {n : NetV} (hok : n.Ok) (am : List Int) {v : Int} {s : StV} (h : search n am v = some s) (hv : v ≠ n.source) : s.dst = v ∧ s ∈ stepsL n.arcs am (predOf n.arcs s) := by
  obtain ⟨_, _, H, _, he⟩ := search_inv hok am
  rw [he] at h
  exact ⟨(H.tree v s hv h).1, (H.tree v s hv h).2.1⟩
/-- A set of nodes that no step leaves, seen from arc j. -/
def ShutAt (arcs : List ArcV) (am : List Int) (C : Int → Prop) (j : Nat) : Prop := ∀ (a : ArcV) (x : Int), arcs[j]? = some a → am[j]? = some x → (C a.f → x < a.c → C a.t) ∧ (C a.t → 0 < x → C a.f)
theorem shut_step {n : NetV} (_ : n.Ok) {am : List Int} {C : Int → Prop} (h : ∀ j, j < n.arcs.length → ShutAt n.arcs am C j) {u : Int} (hu : C u) {s : StV} (hs : s ∈ stepsL n.arcs am u) : C s.dst := by
  obtain ⟨j, a, x, ha, hx, hv, rfl, hr⟩ := stepsL_mem hs
  have hc := h j (List.getElem?_eq_some_iff.1 ha).1 a x ha hx
  unfold mkStep at hr ⊢
  by_cases e : a.t = u
  · rw [if_pos e] at hr ⊢
    exact hc.2 (by rw [e]; exact hu) hr
  · rw [if_neg e] at hr ⊢
    rcases hv with hv | hv
    · have hr' : 0 < a.c - x := hr
      exact hc.1 (by rw [hv]; exact hu) (by omega)
    · exact absurd hv e
theorem res_all {n : NetV} (hok : n.Ok) {am : List Int} {C : Int → Prop} (h0 : C n.source) (h : ∀ j, j < n.arcs.length → ShutAt n.arcs am C j) {v : Int} (hv : search n am v ≠ none) : C v := by
  obtain ⟨l, hl, h9⟩ := search_path hok am hv
  clear hv h9
  induction l generalizing v with
  | nil => rw [show v = n.source from hl]; exact h0
  | cons s l ih =>
    obtain ⟨h1, h2, h3⟩ := hl
    have hp := ih h3
    obtain ⟨h4, h5⟩ := search_tree hok am h2 h1
    have := shut_step hok h hp h5
    rwa [h4] at this
theorem res_sound {n : NetV} (hok : n.Ok) {am : List Int} {j : Nat} {a : ArcV} {x : Int} (ha : n.arcs[j]? = some a) (hx : am[j]? = some x) : (search n am a.f ≠ none → x < a.c → search n am a.t ≠ none) ∧ (search n am a.t ≠ none → 0 < x → search n am a.f ≠ none) := by
  have hao := hok.arcs a (List.mem_of_getElem? ha)
  refine ⟨fun h1 h2 => ?_, fun h1 h2 => ?_⟩
  · have hm : mkStep a j x a.f ∈ stepsL n.arcs am a.f := stepsL_in ha hx (.inl rfl) (by unfold mkStep; rw [if_neg (Ne.symm hao.ne)]; simp; omega)
    have := search_closed hok am h1 hm
    unfold mkStep at this
    rw [if_neg (Ne.symm hao.ne)] at this
    exact this
  · have hm : mkStep a j x a.t ∈ stepsL n.arcs am a.t := stepsL_in ha hx (.inr rfl) (by unfold mkStep; rw [if_pos rfl]; simp; omega)
    have := search_closed hok am h1 hm
    unfold mkStep at this
    rw [if_pos rfl] at this
    exact this
/-- The side that Residual builds. -/
structure ResJ (n : NetV) (am : List Int) (L : List Bool) : Prop where
  len : (L.length : Int) = n.nodes
  src : inB L n.source = true
  in_ : ∀ v : Int, 0 ≤ v → inB L v = true → search n am v ≠ none
theorem inB_set {L : List Bool} {t : Nat} (ht : t < L.length) {v : Int} (hv : 0 ≤ v) : inB (L.set t true) v = (decide (v = (t : Int)) || inB L v) := by
  unfold inB
  rw [List.getD_eq_getElem?_getD, List.getD_eq_getElem?_getD]
  by_cases e : v = (t : Int)
  · subst e
    rw [Int.toNat_natCast, List.getElem?_set_self ht]
    simp
  · rw [List.getElem?_set_ne (by omega)]
    simp [e]
theorem ResJ.add {n : NetV} {am : List Int} {L : List Bool} (h : ResJ n am L) {t : Nat} (ht : (t : Int) < n.nodes) (hs : search n am (t : Int) ≠ none) : ResJ n am (L.set t true) := by
  have hl : t < L.length := by have := h.len; omega
  refine ⟨by rw [List.length_set]; exact h.len, ?_, fun v hv0 hv => ?_⟩
  · unfold inB
    rw [List.getD_eq_getElem?_getD]
    by_cases e : t = n.source.toNat
    · rw [e, List.getElem?_set_self (by rw [← e]; exact hl)]
      rfl
    · rw [List.getElem?_set_ne e]
      have := h.src
      unfold inB at this
      rwa [List.getD_eq_getElem?_getD] at this
  · rw [inB_set hl hv0] at hv
    by_cases e : v = (t : Int)
    · rw [e]; exact hs
    · rw [decide_eq_false e, Bool.false_or] at hv
      exact h.in_ v hv0 hv
/-- How many nodes are not in it. -/
def outC (L : List Bool) : Nat := (L.filter (fun b => !b)).length
theorem outC_set : ∀ {L : List Bool} {t : Nat}, L[t]? = some false → outC (L.set t true) + 1 = outC L
  | [], _, h => by simp at h
  | b :: L, 0, h => by
    simp at h
    subst h
    simp [outC]
  | b :: L, t + 1, h => by
    have ih := outC_set (L := L) (t := t) (by simpa using h)
    cases b
    · simp only [List.set_cons_succ, outC, List.filter_cons, Bool.not_false, if_true, List.length_cons] at ih ⊢
      omega
    · simp only [List.set_cons_succ, outC, List.filter_cons, Bool.not_true, Bool.false_eq_true, if_false] at ih ⊢
      exact ih
theorem ResJ.done {n : NetV} (hok : n.Ok) {am : List Int} {L : List Bool} (h : ResJ n am L) (hc : ∀ j, j < n.arcs.length → ShutAt n.arcs am (fun v => inB L v = true) j) : L = sideL n am := by
  have hlen := sideL_len n am
  refine List.ext_getElem (by have := h.len; have := hok.nodes; omega) (fun i h1 h2 => ?_)
  have hi : (0 : Int) ≤ (i : Int) := by omega
  have e1 : inB L (i : Int) = L[i] := by unfold inB; rw [Int.toNat_natCast, List.getD_eq_getElem?_getD, List.getElem?_eq_getElem h1]; rfl
  have e2 : inB (sideL n am) (i : Int) = (sideL n am)[i] := by unfold inB; rw [Int.toNat_natCast, List.getD_eq_getElem?_getD, List.getElem?_eq_getElem h2]; rfl
  rw [← e1, ← e2, sideL_in hok am hi]
  cases hs : search n am (i : Int) with
  | none =>
    cases hb : inB L (i : Int) with
    | false => rfl
    | true => exact absurd hs (h.in_ _ hi hb)
  | some s => exact res_all (C := fun v => inB L v = true) hok h.src hc (v := (i : Int)) (by rw [hs]; simp)
end Go.Proofs.Ytpalacfgpcpppaa
