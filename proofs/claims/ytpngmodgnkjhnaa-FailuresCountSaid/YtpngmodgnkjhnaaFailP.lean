/- Layer 21: bounds of small models and placements. -/
import Derived.Test.YtpngmodgnkjhnaaFailO
namespace Go.Proofs.Ytpngmodgnkjhnaa
open Go Go.RowKit Go.Maps
set_option maxRecDepth 100000

theorem small_dom {m : Mdl} (h : m.Small) (b : Int) : m.domains b ≤ 1000000 := by
  obtain ⟨h1, h2, h3, h4, _⟩ := h
  unfold Mdl.domains
  repeat' split
  all_goals omega
theorem kindL_len {m : Mdl} (h : m.Small) (k : Nat) : (kindL m k).length ≤ 1000000 := by
  unfold kindL
  split
  · rw [List.length_map, List.length_range]
    exact small_dom h _
  · exact Nat.zero_le _
theorem small_decl {m : Mdl} (h : m.Small) : (declL m).length ≤ 4000000 := by
  have h0 := kindL_len h 0
  have h1 := kindL_len h 1
  have h2 := kindL_len h 2
  have e : declL m = [⟨0, 0⟩] ++ kindL m 0 ++ kindL m 1 ++ kindL m 2 := by
    show uptoL m 3 = _
    rw [uptoL_step, uptoL_step, uptoL_step]
    rfl
  rw [e]
  simp only [List.length_append, List.length_singleton]
  omega
theorem small_units {P : List (List Un)} (h : ∀ us ∈ P, us.length ≤ 24) (item : Int) : (unitsOf P item).length ≤ 1000000 := by
  unfold unitsOf
  split
  · cases hu : P[(item - 1).toNat]? with
    | none => exact Nat.zero_le _
    | some us =>
      have := h us (List.mem_of_getElem? hu)
      show us.length ≤ _
      omega
  · exact Nat.zero_le _
/-- What a law's examination gives. -/
structure Small2 (m : Mdl) (P : List (List Un)) : Prop where
  sm : m.Small
  sh : m.Short
  dom : ∀ b, m.domains b ≤ 1000000
  decl : (declL m).length ≤ 4000000
  us : ∀ item, (unitsOf P item).length ≤ 1000000
  mach : m.machines.length ≤ 1000000
theorem small2 {m : Mdl} {P : List (List Un)} (h : largeB m P = false) : Small2 m P := by
  obtain ⟨h1, h2, h3⟩ := large_no h
  have hf : fewB m = true := by
    unfold largeB at h
    rw [Bool.or_eq_false_iff] at h
    simpa using h.1
  exact ⟨h1, fewB_short hf, small_dom h1, small_decl h1, small_units h3, by have := h1.2.2.2.1; omega⟩
end Go.Proofs.Ytpngmodgnkjhnaa
