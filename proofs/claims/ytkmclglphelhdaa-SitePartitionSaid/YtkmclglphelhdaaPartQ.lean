/- SitePartition: its plain law, the capacities. -/
import Derived.Test.YtkmclglphelhdaaPartP
namespace Go.Proofs.Ytkmclglphelhdaa
open Go Go.RowKit Go.Maps

/-- The sum of the capacities of machines, without a wrap. -/
def Mdl.sumL (m : Mdl) (l : List Int) : Int := l.foldr (fun i s => m.capAt i + s) 0
theorem sumL_append (m : Mdl) (a b : List Int) : m.sumL (a ++ b) = m.sumL a + m.sumL b := by
  induction a with
  | nil => simp [Mdl.sumL]
  | cons x a ih =>
    show m.capAt x + m.sumL (a ++ b) = m.capAt x + m.sumL a + m.sumL b
    rw [ih]
    omega
theorem sumL_perm (m : Mdl) {a b : List Int} (h : a.Perm b) : m.sumL a = m.sumL b := by
  induction h with
  | nil => rfl
  | cons x _ ih => show m.capAt x + m.sumL _ = m.capAt x + m.sumL _; rw [ih]
  | swap x y l => show m.capAt y + (m.capAt x + m.sumL l) = m.capAt x + (m.capAt y + m.sumL l); omega
  | trans _ _ h1 h2 => exact h1.trans h2
theorem cap_range {m : Mdl} (h : m.valid = true) (i : Int) : 0 ≤ m.capAt i ∧ m.capAt i ≤ 1048576 := by
  unfold Mdl.capAt
  cases hx : m.machines[(i - 1).toNat]? with
  | none => exact ⟨Int.le_refl _, by decide⟩
  | some x =>
    unfold Mdl.valid at h
    simp only [Bool.and_eq_true] at h
    have h2 := List.all_eq_true.1 h.1.1.2 x (List.mem_of_getElem? hx)
    unfold Mdl.machB amtB at h2
    simp only [Bool.and_eq_true, decide_eq_true_eq] at h2
    exact h2.2
theorem sumL_range {m : Mdl} (h : m.valid = true) (l : List Int) : 0 ≤ m.sumL l ∧ m.sumL l ≤ 1048576 * (l.length : Int) := by
  induction l with
  | nil => exact ⟨Int.le_refl _, by simp [Mdl.sumL]⟩
  | cons x l ih =>
    have hc := cap_range h x
    have e : m.sumL (x :: l) = m.capAt x + m.sumL l := rfl
    rw [e, List.length_cons]
    omega
theorem foldl_sum {m : Mdl} (h : m.valid = true) (l : List Int) (s : Int) (h0 : 0 ≤ s) (hs : s + 1048576 * (l.length : Int) ≤ 4611686018427387904) : l.foldl (fun s i => wrap64 (s + m.capAt i)) s = s + m.sumL l := by
  induction l generalizing s with
  | nil => simp [Mdl.sumL]
  | cons x l ih =>
    have hc := cap_range h x
    have e : m.sumL (x :: l) = m.capAt x + m.sumL l := rfl
    rw [List.length_cons] at hs
    rw [List.foldl_cons, IntWalk.wrap64_in _ ⟨by omega, by omega⟩, ih (s + m.capAt x) (by omega) (by omega), e]
    omega
theorem capacity_sum {m : Mdl} (h : m.valid = true) (hn : m.machines.length ≤ 1000) (by_ num : Int) : m.capacity by_ num = m.sumL (m.machinesOf by_ num) := by
  have hl : (m.machinesOf by_ num).length ≤ m.machines.length := mof_len m by_ num m.machines.length
  unfold Mdl.capacity
  rw [foldl_sum h _ 0 (Int.le_refl _) (by omega)]
  omega
/-- The capacities of all domains of a kind. -/
theorem sum_all {m : Mdl} (h : m.valid = true) (hn : m.machines.length ≤ 1000) {by_ : Int} (h1 : 1 ≤ by_) (h4 : by_ ≤ 4) : m.sumL (m.cat by_ (m.domains by_)) = m.capacity 0 0 := by
  rw [capacity_sum h hn, sumL_perm m (cat_all h h1 h4)]
theorem sum_step {m : Mdl} (h : m.valid = true) (hn : m.machines.length ≤ 1000) {by_ : Int} {D : Nat} (hD : D ≤ 1000) : wrap64 (m.sumL (m.cat by_ D) + m.capacity by_ ((D : Int) + 1)) = m.sumL (m.cat by_ (D + 1)) := by
  have hl : ∀ d : Int, (m.machinesOf by_ d).length ≤ m.machines.length := fun d => mof_len m by_ d m.machines.length
  have hc : ∀ D : Nat, (m.cat by_ D).length ≤ D * 1000 := by
    intro D
    induction D with
    | zero => exact Nat.le_refl _
    | succ D ih =>
      rw [cat_step, List.length_append]
      have := hl ((D : Int) + 1)
      omega
  have h1 := sumL_range h (m.cat by_ D)
  have h2 := sumL_range h (m.machinesOf by_ ((D : Int) + 1))
  have h3 := hc D
  have h4 := hl ((D : Int) + 1)
  rw [capacity_sum h hn, cat_step, sumL_append, IntWalk.wrap64_in _ ⟨by omega, by omega⟩]

/-- How often a number has been seen: once, if it is in the list. -/
def seenF (P : List Int) (i : Int) : Int := if i ∈ P then 1 else 0
theorem seen_step {P : List Int} {x : Int} (hx : x ∉ P) (i : Int) : seenF (P ++ [x]) i = if i = x then seenF P x + 1 else seenF P i := by
  unfold seenF
  by_cases e : i = x
  · subst e
    rw [if_pos rfl, if_neg hx, if_pos (by simp)]
    rfl
  · rw [if_neg e]
    simp [e]
theorem seen_all {m : Mdl} (h : m.valid = true) {by_ : Int} (h1 : 1 ≤ by_) (h4 : by_ ≤ 4) {j : Nat} (hj : j < m.machines.length) : seenF (m.cat by_ (m.domains by_)) ((j : Int) + 1) = 1 := by
  unfold seenF
  rw [if_pos]
  exact (mem_cat (by omega)).2 ⟨j, rfl, hj, dom_range h h1 h4 hj⟩
end Go.Proofs.Ytkmclglphelhdaa
