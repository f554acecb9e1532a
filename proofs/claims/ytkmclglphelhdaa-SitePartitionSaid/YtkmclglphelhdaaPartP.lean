/- SitePartition: its plain law. In a valid model the domains of a kind part the machines. -/
import Derived.Test.YtkmclglphelhdaaLawNest
namespace Go.Proofs.Ytkmclglphelhdaa
open Go Go.RowKit Go.Maps

theorem mem_machinesOf {m : Mdl} {by_ num : Int} {x : Int} : x ∈ m.machinesOf by_ num ↔ ∃ j : Nat, x = (j : Int) + 1 ∧ j < m.machines.length ∧ m.inDom by_ num j = true := by
  unfold Mdl.machinesOf
  rw [List.mem_map]
  constructor
  · rintro ⟨j, hj, rfl⟩
    obtain ⟨h1, h2⟩ := List.mem_filter.1 hj
    exact ⟨j, rfl, List.mem_range.1 h1, h2⟩
  · rintro ⟨j, rfl, h1, h2⟩
    exact ⟨j, List.mem_filter.2 ⟨List.mem_range.2 h1, h2⟩, rfl⟩
theorem machinesOf_nodup (m : Mdl) (by_ num : Int) : (m.machinesOf by_ num).Nodup := by
  unfold Mdl.machinesOf
  refine List.Pairwise.map _ (fun a b (h : a ≠ b) => ?_) ((List.nodup_range (n := m.machines.length)).sublist List.filter_sublist)
  intro e
  omega
/-- The machines of the domains 1 to D. -/
def Mdl.cat (m : Mdl) (by_ : Int) (D : Nat) : List Int := (List.range D).flatMap (fun (d : Nat) => m.machinesOf by_ ((d : Int) + 1))
theorem cat_step (m : Mdl) (by_ : Int) (D : Nat) : m.cat by_ (D + 1) = m.cat by_ D ++ m.machinesOf by_ ((D : Int) + 1) := by
  unfold Mdl.cat
  rw [List.range_succ, List.flatMap_append]
  simp
theorem mem_cat {m : Mdl} {by_ : Int} (h0 : by_ ≠ 0) {D : Nat} {x : Int} : x ∈ m.cat by_ D ↔ ∃ j : Nat, x = (j : Int) + 1 ∧ j < m.machines.length ∧ 1 ≤ m.domain by_ ((j : Int) + 1) ∧ m.domain by_ ((j : Int) + 1) ≤ (D : Int) := by
  unfold Mdl.cat
  rw [List.mem_flatMap]
  constructor
  · rintro ⟨d, hd, hx⟩
    obtain ⟨j, rfl, hj, hp⟩ := mem_machinesOf.1 hx
    have hd := List.mem_range.1 hd
    unfold Mdl.inDom at hp
    simp [h0] at hp
    exact ⟨j, rfl, hj, by omega, by omega⟩
  · rintro ⟨j, rfl, hj, h1, h2⟩
    refine ⟨(m.domain by_ ((j : Int) + 1) - 1).toNat, List.mem_range.2 (by omega), mem_machinesOf.2 ⟨j, rfl, hj, ?_⟩⟩
    unfold Mdl.inDom
    simp [h0]
    omega
theorem cat_new {m : Mdl} {by_ : Int} (h0 : by_ ≠ 0) {D k : Nat} {x : Int} (hx : (m.machinesOf by_ ((D : Int) + 1))[k]? = some x) : x ∉ m.cat by_ D ++ (m.machinesOf by_ ((D : Int) + 1)).take k := by
  intro h
  rcases List.mem_append.1 h with h | h
  · obtain ⟨j, rfl, hj, h1, h2⟩ := (mem_cat h0).1 h
    obtain ⟨j', e, hj', hp⟩ := mem_machinesOf.1 (List.mem_of_getElem? hx)
    obtain rfl : j = j' := by omega
    unfold Mdl.inDom at hp
    simp [h0] at hp
    omega
  · obtain ⟨i, hi, e⟩ := List.getElem_of_mem h
    rw [List.length_take] at hi
    rw [List.getElem_take] at e
    have hk := (List.getElem?_eq_some_iff.1 hx)
    have := List.pairwise_iff_getElem.1 (machinesOf_nodup m by_ ((D : Int) + 1)) i k (by omega) hk.1 (by omega)
    exact this (e.trans hk.2.symm)
theorem cat_nodup {m : Mdl} {by_ : Int} (h0 : by_ ≠ 0) (D : Nat) : (m.cat by_ D).Nodup := by
  induction D with
  | zero => exact List.Pairwise.nil
  | succ D ih =>
    rw [cat_step]
    refine List.pairwise_append.2 ⟨ih, machinesOf_nodup _ _ _, fun a ha b hb e => ?_⟩
    subst e
    obtain ⟨k, hk, e⟩ := List.getElem_of_mem hb
    exact cat_new h0 (k := k) (x := a) (by rw [← e]; exact List.getElem?_eq_getElem hk) (List.mem_append.2 (.inl ha))
theorem dom_range {m : Mdl} (h : m.valid = true) {by_ : Int} (h1 : 1 ≤ by_) (h4 : by_ ≤ 4) {j : Nat} (hj : j < m.machines.length) : 1 ≤ m.domain by_ ((j : Int) + 1) ∧ m.domain by_ ((j : Int) + 1) ≤ (m.domains by_ : Int) := by
  have hx : m.machines[j]? = some m.machines[j] := List.getElem?_eq_getElem hj
  have hr := valid_machine h (List.getElem_mem hj)
  obtain ⟨t, y, hrt, ht, hy, hy2⟩ := rackAt_yes hr
  obtain ⟨v1, v2, _⟩ := valid_rack h hy
  have key : exB (m.number by_ ((j : Int) + 1) m.machines[j]) (m.domains by_) = true := by
    have hcase : by_ = 1 ∨ by_ = 2 ∨ by_ = 3 ∨ by_ = 4 := by omega
    rcases hcase with rfl | rfl | rfl | rfl
    · have hn : m.number 1 ((j : Int) + 1) m.machines[j] = (j : Int) + 1 := by unfold Mdl.number; simp
      rw [hn, show m.domains 1 = m.machines.length from rfl]
      exact exB_iff.2 ⟨by omega, by omega⟩
    · have hn : m.number 2 ((j : Int) + 1) m.machines[j] = (t : Int) + 1 := by unfold Mdl.number; simp [hy2]; exact hrt
      rw [hn, show m.domains 2 = m.racks.length from rfl]
      exact exB_iff.2 ⟨by omega, by omega⟩
    · have hn : m.number 3 ((j : Int) + 1) m.machines[j] = y.feed := by unfold Mdl.number; simp [hy2]
      rw [hn, show m.domains 3 = m.feeds.length from rfl]
      exact v2
    · have hn : m.number 4 ((j : Int) + 1) m.machines[j] = y.site := by unfold Mdl.number; simp [hy2]
      rw [hn, show m.domains 4 = m.sites.length from rfl]
      exact v1
  rw [domain_yes hx, if_pos key]
  exact exB_iff.1 key
theorem cat_all {m : Mdl} (h : m.valid = true) {by_ : Int} (h1 : 1 ≤ by_) (h4 : by_ ≤ 4) : (m.cat by_ (m.domains by_)).Perm (m.machinesOf 0 0) := by
  refine (List.perm_ext_iff_of_nodup (cat_nodup (by omega) _) (machinesOf_nodup _ _ _)).2 fun x => ?_
  rw [mem_cat (by omega), mem_machinesOf]
  constructor
  · rintro ⟨j, rfl, hj, _⟩
    exact ⟨j, rfl, hj, by unfold Mdl.inDom; rfl⟩
  · rintro ⟨j, rfl, hj, _⟩
    exact ⟨j, rfl, hj, dom_range h h1 h4 hj⟩
end Go.Proofs.Ytkmclglphelhdaa
