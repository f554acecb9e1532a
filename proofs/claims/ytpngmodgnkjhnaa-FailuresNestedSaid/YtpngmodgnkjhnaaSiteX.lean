/- Layer 21: failures in a valid site part, in plain words. -/
import Derived.Test.YtpngmodgnkjhnaaSiteR
import Derived.Test.YtpngmodgnkjhnaaFailC
namespace Go.Proofs.Ytpngmodgnkjhnaa
open Go Go.RowKit Go.Maps
set_option maxRecDepth 100000

theorem valid_machine {m : Mdl} (h : m.valid = true) {x : Mc} (hx : x ∈ m.machines) : exB x.rack m.racks.length = true := by
  unfold Mdl.valid at h
  simp only [Bool.and_eq_true] at h
  have h2 := List.all_eq_true.1 h.1.1.2 x hx
  unfold Mdl.machB at h2
  rw [Bool.and_eq_true] at h2
  exact h2.1
theorem valid_rack {m : Mdl} (h : m.valid = true) {i : Nat} {y : Rk} (hy : m.racks[i]? = some y) : exB y.site m.sites.length = true ∧ exB y.feed m.feeds.length = true ∧ ∀ (t : Nat) (z : Rk), t < i → m.racks[t]? = some z → z.feed = y.feed → z.site = y.site := by
  unfold Mdl.valid at h
  simp only [Bool.and_eq_true] at h
  have hi : i < m.racks.length := (List.getElem?_eq_some_iff.1 hy).1
  have h2 := List.all_eq_true.1 (show (List.range m.racks.length).all m.rackF = true from h.1.2) i (List.mem_range.2 hi)
  rw [rackF_eq hy] at h2
  simp only [Bool.and_eq_true, Bool.not_eq_true'] at h2
  refine ⟨h2.1.1, h2.1.2, fun t z ht hz hf => ?_⟩
  have h3 := h2.2
  rw [List.any_eq_false] at h3
  have h4 := h3 z (List.mem_of_getElem? (i := t) (by rw [List.getElem?_take, if_pos ht]; exact hz))
  apply Classical.byContradiction
  intro hne
  apply h4
  unfold otherB
  rw [Bool.and_eq_true]
  exact ⟨by rw [beq_iff_eq]; exact hf, by rw [bne_iff_ne]; exact hne⟩
theorem dom_of {m : Mdl} (h : m.valid = true) {a : Int} (ha : exB a m.machines.length = true) : ∃ (t : Nat) (y : Rk), m.racks[t]? = some y ∧ m.domain 2 a = (t : Int) + 1 ∧ m.domain 3 a = y.feed ∧ m.domain 4 a = y.site ∧ 1 ≤ y.site := by
  obtain ⟨j, rfl, hj⟩ := exB_at ha
  have hx : m.machines[j]? = some m.machines[j] := List.getElem?_eq_getElem hj
  have hr := valid_machine h (List.getElem_mem hj)
  obtain ⟨t, y, hrt, ht, hy, hy2⟩ := rackAt_yes hr
  obtain ⟨v1, v2, _⟩ := valid_rack h hy
  refine ⟨t, y, hy, ?_, ?_, ?_, (exB_iff.1 v1).1⟩
  · have hn : m.number 2 ((j : Int) + 1) m.machines[j] = (t : Int) + 1 := by unfold Mdl.number; simp [hy2]; exact hrt
    rw [domain_yes hx, hn, show m.domains 2 = m.racks.length from rfl, if_pos (exB_iff.2 ⟨by omega, by omega⟩)]
  · have hn : m.number 3 ((j : Int) + 1) m.machines[j] = y.feed := by unfold Mdl.number; simp [hy2]
    rw [domain_yes hx, hn, show m.domains 3 = m.feeds.length from rfl, if_pos v2]
  · have hn : m.number 4 ((j : Int) + 1) m.machines[j] = y.site := by unfold Mdl.number; simp [hy2]
    rw [domain_yes hx, hn, show m.domains 4 = m.sites.length from rfl, if_pos v1]
theorem dom_one {m : Mdl} {j : Nat} (hj : j < m.machines.length) : m.domain 1 ((j : Int) + 1) = (j : Int) + 1 := by
  have hx : m.machines[j]? = some m.machines[j] := List.getElem?_eq_getElem hj
  have hn : m.number 1 ((j : Int) + 1) m.machines[j] = (j : Int) + 1 := by unfold Mdl.number; simp
  rw [domain_yes hx, hn, show m.domains 1 = m.machines.length from rfl, if_pos (exB_iff.2 ⟨by omega, by omega⟩)]
theorem dom_zero {m : Mdl} (i : Int) : m.domain 0 i = 0 := domain_other (by decide) (by decide) (by decide) (by decide)
theorem hit_at {m : Mdl} {b k i : Int} (hk : 1 ≤ k) : hitB m ⟨b, k⟩ i = true ↔ m.domain b i = k := by
  unfold hitB
  simp [hk]
theorem hit_nil {m : Mdl} (i : Int) : hitB m ⟨0, 0⟩ i = false := by unfold hitB; rfl
theorem cover_of {m : Mdl} {f g : Fl} (h : ∀ i, i < m.machines.length → hitB m g ((i : Int) + 1) = true → hitB m f ((i : Int) + 1) = true) : coverB m f g = true := by
  refine coverB_yes (fun i hi => ?_)
  unfold okB
  cases hg : hitB m g ((i : Int) + 1) with
  | false => rfl
  | true => rw [h i hi hg]; rfl
/-- What Nested asks. -/
structure NestF (m : Mdl) (n rack feed : Int) : Prop where
  c1 : coverB m ⟨2, rack⟩ ⟨1, n⟩ = true
  c2 : coverB m ⟨3, feed⟩ ⟨2, rack⟩ = true
  c3 : coverB m ⟨3, feed⟩ ⟨1, n⟩ = true
  c4 : coverB m ⟨0, 0⟩ ⟨1, n⟩ = false
  c5 : coverB m ⟨1, n⟩ ⟨0, 0⟩ = true
  h1 : hitB m ⟨1, n⟩ n = true
  h2 : hitB m ⟨3, feed⟩ n = true
theorem nest_of {m : Mdl} (h : m.valid = true) {j : Nat} {x : Mc} (hx : m.machines[j]? = some x) : ∃ (t : Nat) (y : Rk), x.rack = (t : Int) + 1 ∧ m.racks[t]? = some y ∧ NestF m (1 + (j : Int)) ((t : Int) + 1) y.feed := by
  have hj := (List.getElem?_eq_some_iff.1 hx).1
  have hr := valid_machine h (List.mem_of_getElem? hx)
  obtain ⟨t, y, hrt, ht, hy, hy2⟩ := rackAt_yes hr
  obtain ⟨v1, v2, _⟩ := valid_rack h hy
  have hf := exB_iff.1 v2
  have d2 : m.domain 2 ((j : Int) + 1) = (t : Int) + 1 := by
    have hn : m.number 2 ((j : Int) + 1) x = (t : Int) + 1 := by unfold Mdl.number; simp [hy2]; exact hrt
    rw [domain_yes hx, hn, show m.domains 2 = m.racks.length from rfl, if_pos (exB_iff.2 ⟨by omega, by omega⟩)]
  have hd : ∀ i, i < m.machines.length → m.domain 2 ((i : Int) + 1) = (t : Int) + 1 → m.domain 3 ((i : Int) + 1) = y.feed := by
    intro i hi e
    obtain ⟨t', y', hy', e2, e3, _⟩ := dom_of h (a := (i : Int) + 1) (exB_iff.2 ⟨by omega, by omega⟩)
    rw [e2] at e
    obtain rfl : t' = t := by omega
    rw [hy] at hy'
    injection hy' with hy'
    rw [e3, hy']
  have hone : ∀ i, i < m.machines.length → hitB m ⟨1, (j : Int) + 1⟩ ((i : Int) + 1) = true → i = j := by
    intro i hi e
    rw [hit_at (by omega), dom_one hi] at e
    omega
  have hc2 : coverB m ⟨3, y.feed⟩ ⟨2, (t : Int) + 1⟩ = true := cover_of fun i hi hg => by
    rw [hit_at (by omega)] at hg
    rw [hit_at hf.1]
    exact hd i hi hg
  have hj1 : hitB m ⟨1, (j : Int) + 1⟩ ((j : Int) + 1) = true := by rw [hit_at (by omega)]; exact dom_one hj
  refine ⟨t, y, hrt, hy, ?_⟩
  rw [show (1 : Int) + (j : Int) = (j : Int) + 1 from by omega]
  refine ⟨cover_of fun i hi hg => ?_, hc2, cover_of fun i hi hg => ?_, coverB_no (i := j) hj ?_, cover_of fun i hi hg => ?_, hj1, ?_⟩
  · obtain rfl := hone i hi hg
    rw [hit_at (by omega)]
    exact d2
  · obtain rfl := hone i hi hg
    rw [hit_at hf.1]
    exact hd i hi d2
  · unfold okB
    rw [hj1, hit_nil]
    rfl
  · rw [hit_nil] at hg
    cases hg
  · rw [hit_at hf.1]
    exact hd j hj d2
end Go.Proofs.Ytpngmodgnkjhnaa
