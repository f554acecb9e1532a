/- Layer 14: a valid site part, in plain words. -/
import Derived.Test.YtpngmodgnkjhnaaSiteE
namespace Go.Proofs.Ytpngmodgnkjhnaa
open Go Go.RowKit Go.Maps
set_option maxRecDepth 100000

theorem all_range_no {f : Nat → Bool} {n k : Nat} (hk : k < n) (h : f k = false) : (List.range n).all f = false := List.all_eq_false.2 ⟨k, List.mem_range.2 hk, by rw [h]; decide⟩
theorem all_range_yes {f : Nat → Bool} {n : Nat} (h : ∀ k, k < n → f k = true) : (List.range n).all f = true := List.all_eq_true.2 fun k hk => h k (List.mem_range.1 hk)
def Mdl.rackF (m : Mdl) (i : Nat) : Bool := match m.racks[i]? with | some x => m.rackB i x | none => true
def Mdl.linkF (m : Mdl) (i : Nat) : Bool := match m.links[i]? with | some x => m.linkB i x | none => true
def Mdl.machF (m : Mdl) (i : Nat) : Bool := match m.machines[i]? with | some x => m.machB x | none => true
theorem machF_all (m : Mdl) : (List.range m.machines.length).all m.machF = m.machines.all m.machB := by
  rw [Bool.eq_iff_iff, List.all_eq_true, List.all_eq_true]
  constructor
  · intro h x hx
    obtain ⟨i, hi, rfl⟩ := List.getElem_of_mem hx
    have := h i (List.mem_range.2 hi)
    unfold Mdl.machF at this
    rw [List.getElem?_eq_getElem hi] at this
    exact this
  · intro h i hi
    have hi := List.mem_range.1 hi
    unfold Mdl.machF
    rw [List.getElem?_eq_getElem hi]
    exact h _ (List.getElem_mem hi)
theorem valid_sizes (m : Mdl) : m.valid = (m.sizesB && ((List.range m.racks.length).all m.rackF && (List.range m.machines.length).all m.machF && (List.range m.links.length).all m.linkF)) := by
  rw [machF_all]
  unfold Mdl.valid
  rw [show m.racksB = (List.range m.racks.length).all m.rackF from rfl, show m.linksB = (List.range m.links.length).all m.linkF from rfl]
  cases m.sizesB <;> cases m.machines.all m.machB <;> cases (List.range m.racks.length).all m.rackF <;> rfl
theorem sizes_iff (m : Mdl) : m.sizesB = true ↔ (1 ≤ m.sites.length ∧ m.sites.length ≤ 4) ∧ m.feeds.length ≤ 16 ∧ m.racks.length ≤ 16 ∧ (1 ≤ m.machines.length ∧ m.machines.length ≤ 16) ∧ m.links.length ≤ 12 := by
  unfold Mdl.sizesB
  simp only [Bool.and_eq_true, decide_eq_true_eq]
  omega
end Go.Proofs.Ytpngmodgnkjhnaa
