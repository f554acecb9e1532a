/- The row `seen` as cells. -/
import Derived.Test.YtkmclglphelhdaaPartQ
import Derived.Test.YtkmclglphelhdaaOwnI
namespace Go.Proofs.Ytkmclglphelhdaa
open Go Go.RowKit Go.Maps

/-- seen, as a list of cells. -/
def seenCells (P : List Int) (N : Nat) : List Value := (List.range (N + 1)).map (fun (i : Nat) => Value.int .i64 (seenF P (i : Int)))
theorem seenCells_at {P : List Int} {N i : Nat} (h : i ≤ N) : (seenCells P N)[i]? = some (.int .i64 (seenF P (i : Int))) := by
  unfold seenCells
  rw [List.getElem?_map, List.getElem?_range (by omega)]
  rfl
theorem seenCells_set {P : List Int} {N x : Nat} (hN : x ≤ N) (hx : (x : Int) ∉ P) : (seenCells P N).set x (.int .i64 (seenF P (x : Int) + 1)) = seenCells (P ++ [(x : Int)]) N := by
  apply List.ext_getElem?
  intro i
  rw [List.getElem?_set]
  by_cases hi : i ≤ N
  · rw [seenCells_at hi, seenCells_at hi, seen_step hx]
    by_cases e : x = i
    · subst e
      have hl : x < (seenCells P N).length := by unfold seenCells; simp; omega
      simp [hl]
    · have e' : ¬ (i : Int) = (x : Int) := by omega
      simp [e, e']
  · have h1 : (seenCells P N)[i]? = none := by unfold seenCells; rw [List.getElem?_eq_none]; simp; omega
    have h2 : (seenCells (P ++ [(x : Int)]) N)[i]? = none := by unfold seenCells; rw [List.getElem?_eq_none]; simp; omega
    rw [h1, h2, if_neg (by omega)]
theorem seenCells_nil (N : Nat) : seenCells [] N = List.replicate (N + 1) (.int .i64 0) := by
  unfold seenCells seenF
  apply List.ext_getElem?
  intro i
  rw [List.getElem?_map, List.getElem?_replicate]
  by_cases h : i < N + 1
  · rw [List.getElem?_range h, if_pos h]
    simp
  · rw [if_neg h, List.getElem?_eq_none (by simp; omega)]
    rfl
end Go.Proofs.Ytkmclglphelhdaa
