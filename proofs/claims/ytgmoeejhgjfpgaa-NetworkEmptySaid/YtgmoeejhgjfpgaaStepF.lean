/- A step, whatever its kind. -/
import Derived.Test.YtgmoeejhgjfpgaaStepE
namespace Go.Proofs.Ytgmoeejhgjfpgaa
open Go Go.RowKit Go.Maps

def NetSt.act (st : NetSt) (o : Opn) : NetSt :=
  if o.kind = 0 then st.send o.a o.b o.data else if o.kind = 1 then st.drop o.i else if o.kind = 2 then st.drop o.i else if o.kind = 3 then st.double o.i else if o.kind = 4 then st.isolate o.a else if o.kind = 5 then st.join o.a else st
/-- A state that at most j operations can have made. -/
structure NetSt.Upto (st : NetSt) (j : Nat) : Prop where
  len : st.ps.length ≤ j
  last0 : 0 ≤ st.last
  lastj : st.last ≤ j
  iso : st.iso.length ≤ j
  ends : ∀ p ∈ st.ps, inI64 p.frm ∧ inI64 p.to
theorem NetSt.Upto.ok {st : NetSt} {j : Nat} (h : st.Upto j) (hj : j ≤ 1000000) : st.ok := ⟨by have := h.len; omega, h.last0, by have := h.lastj; omega, h.ends⟩
theorem NetSt.Upto.act {st : NetSt} {j : Nat} (h : st.Upto j) (o : Opn) (ho : o.ok) : (st.act o).Upto (j + 1) := by
  obtain ⟨h1, h2, h3, h4, h5⟩ := h
  have hw : st.Upto (j + 1) := ⟨by omega, h2, by omega, by omega, h5⟩
  have hdrop : (st.drop o.i).Upto (j + 1) := ⟨by unfold NetSt.drop; have := List.length_eraseIdx_le st.ps (st.at_ o.i); simp only; omega, h2, by unfold NetSt.drop; simp only; omega, by unfold NetSt.drop; simp only; omega, fun p hp => h5 p (List.mem_of_mem_eraseIdx hp)⟩
  unfold NetSt.act
  split
  · unfold NetSt.send
    split
    · exact hw
    · refine ⟨by simp; omega, by simp only; omega, by simp only; omega, by simp only; omega, fun p hp => ?_⟩
      rcases List.mem_append.1 hp with hp | hp
      · exact h5 p hp
      · simp at hp
        subst hp
        exact ⟨ho.2.1, ho.2.2.1⟩
  split
  · exact hdrop
  split
  · exact hdrop
  split
  · unfold NetSt.double
    split
    · rename_i q hq
      refine ⟨by simp; omega, by simp only; omega, by simp only; omega, by simp only; omega, fun p hp => ?_⟩
      rcases List.mem_append.1 hp with hp | hp
      · exact h5 p hp
      · simp at hp
        subst hp
        exact h5 q (List.mem_of_getElem? hq)
    · exact hw
  split
  · exact ⟨by unfold NetSt.isolate; simp only; omega, h2, by unfold NetSt.isolate; simp only; omega, by unfold NetSt.isolate; simp; omega, h5⟩
  split
  · exact ⟨by unfold NetSt.join; simp only; omega, h2, by unfold NetSt.join; simp only; omega, by unfold NetSt.join; have := List.length_filter_le (fun y => !(y == o.a)) st.iso; simp only; omega, h5⟩
  exact hw

theorem step_any {T L : Nat → Prop} {w : World} {n k j : Nat} {st : NetSt} {v : Value} (h : NR T L w n st k v) (hu : st.Upto j) (hk : k ≤ j) (hj : j ≤ 1000000) (o : Opn) (ho : o.ok) :
    Calls Try.prog 27 #[.pointer (some ⟨n, 0, none⟩), v, o.val] w fun e w' => ∃ v' k', e = .returned (.tuple #[v', .bool true]) ∧ NR T L w' n (st.act o) k' v' ∧ Same (notB T) w w' ∧ (st.act o).Upto (j + 1) ∧ k' ≤ j + 1 := by
  have hu' := hu.act o ho
  have hok := hu.ok hj
  have hiso := hu.iso
  unfold NetSt.act at hu' ⊢
  obtain ⟨hx0, hx, hy, hi, hd⟩ := ho
  by_cases k0 : o.kind = 0
  · rw [if_pos k0] at hu' ⊢
    exact (step_send h hok o k0 hx hy).mono fun e w' ⟨v', a, b, c⟩ => ⟨v', k, a, b, c, hu', by omega⟩
  rw [if_neg k0] at hu' ⊢
  by_cases k1 : o.kind = 1
  · rw [if_pos k1] at hu' ⊢
    exact (step_deliver h hok o k1 hi).mono fun e w' ⟨v', a, b, c⟩ => ⟨v', k, a, b, c, hu', by omega⟩
  rw [if_neg k1] at hu' ⊢
  by_cases k2 : o.kind = 2
  · rw [if_pos k2] at hu' ⊢
    exact (step_drop h hok o k2 hi).mono fun e w' ⟨v', a, b, c⟩ => ⟨v', k, a, b, c, hu', by omega⟩
  rw [if_neg k2] at hu' ⊢
  by_cases k3 : o.kind = 3
  · rw [if_pos k3] at hu' ⊢
    exact (step_double h hok o k3 hi).mono fun e w' ⟨v', a, b, c⟩ => ⟨v', k, a, b, c, hu', by omega⟩
  rw [if_neg k3] at hu' ⊢
  by_cases k4 : o.kind = 4
  · rw [if_pos k4] at hu' ⊢
    exact (step_isolate h o k4 hx (by omega) (by omega)).mono fun e w' ⟨v', a, b, c⟩ => ⟨v', _, a, b, c, hu', by omega⟩
  rw [if_neg k4] at hu' ⊢
  by_cases k5 : o.kind = 5
  · rw [if_pos k5] at hu' ⊢
    exact (step_join h o k5 hx (by omega)).mono fun e w' ⟨v', a, b, c⟩ => ⟨v', k, a, b, c, hu', by omega⟩
  rw [if_neg k5] at hu' ⊢
  exact (step_none h o (by omega)).mono fun e w' ⟨v', a, b, c⟩ => ⟨v', k, a, b, c, hu', by omega⟩
end Go.Proofs.Ytgmoeejhgjfpgaa
