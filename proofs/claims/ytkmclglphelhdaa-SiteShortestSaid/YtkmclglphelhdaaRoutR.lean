/- The first shortest way: what it is (for SiteShortest). No program in sight. -/
import Derived.Test.YtkmclglphelhdaaRoutP
namespace Go.Proofs.Ytkmclglphelhdaa

section
variable {nb : Int → List Int} {n : Nat} {b : Int}
theorem greedy_len (d : Int → Int) : ∀ (f : Nat) (x : Int), (greedy nb d f x).length = f + 1 := by
  intro f
  induction f with
  | zero => intro x; rfl
  | succ f ih => intro x; show (greedy nb d f _).length + 1 = _; rw [ih]
theorem greedy_zero (d : Int → Int) (f : Nat) (x : Int) : (greedy nb d f x)[0]? = some x := by
  cases f <;> rfl
/-- Each node of the way, with its distance; each is joined to the one ahead of it. -/
theorem greedy_way (hg : Gr nb n) : ∀ (k : Nat) (x : Int), 1 ≤ x → x ≤ (n : Int) → MinW nb b k x →
    (∀ i u, (greedy nb (dst nb n b) k x)[i]? = some u → i ≤ k ∧ MinW nb b (k - i) u ∧ 1 ≤ u ∧ u ≤ (n : Int)) ∧
    (∀ i u v, (greedy nb (dst nb n b) k x)[i]? = some u → (greedy nb (dst nb n b) k x)[i + 1]? = some v → v ∈ nb u) := by
  intro k
  induction k with
  | zero =>
    intro x h1 h2 hm
    refine ⟨fun i u hu => ?_, fun i u v _ hv => ?_⟩
    · cases i with
      | zero =>
        have : some x = some u := hu
        injection this with e
        subst e
        exact ⟨Nat.le_refl _, hm, h1, h2⟩
      | succ i => simp [greedy] at hu
    · simp [greedy] at hv
  | succ k ih =>
    intro x h1 h2 hm
    obtain ⟨hn, hmn⟩ := nxt_min hg h1 h2 hm
    have hr := hg.rng _ _ hn
    obtain ⟨i1, i2⟩ := ih _ hr.1 hr.2 hmn
    refine ⟨fun i u hu => ?_, fun i u v hu hv => ?_⟩
    · cases i with
      | zero =>
        have : some x = some u := hu
        injection this with e
        subst e
        exact ⟨Nat.zero_le _, hm, h1, h2⟩
      | succ i =>
        obtain ⟨q1, q2, q3⟩ := i1 i u hu
        exact ⟨by omega, by rw [Nat.add_sub_add_right]; exact q2, q3⟩
    · cases i with
      | zero =>
        have : some x = some u := hu
        injection this with e
        subst e
        have hv' : (greedy nb (dst nb n b) k (nxt nb (dst nb n b) x))[0]? = some v := hv
        rw [greedy_zero] at hv'
        injection hv' with e
        subst e
        exact hn
      | succ i => exact i2 i u v hu hv
/-- Walks can be turned. -/
theorem wk_snoc (hg : Gr nb n) : ∀ (k : Nat) (s t : Int), Wk nb b k s → b ∈ nb t → Wk nb t (k + 1) s := by
  intro k
  induction k with
  | zero =>
    intro s t hw ht
    rw [show s = b from hw]
    exact ⟨t, hg.sym _ _ ht, rfl⟩
  | succ k ih =>
    rintro s t ⟨u, hu, hw⟩ ht
    exact ⟨u, hu, ih u t hw ht⟩
theorem wk_turn (hg : Gr nb n) : ∀ (k : Nat) (s : Int), Wk nb b k s → Wk nb s k b := by
  intro k
  induction k with
  | zero => intro s hw; exact (show s = b from hw).symm
  | succ k ih =>
    rintro s ⟨t, ht, hw⟩
    exact wk_snoc hg k b s (ih t hw) ht
theorem minW_turn (hg : Gr nb n) {k : Nat} {s : Int} (h : MinW nb b k s) : MinW nb s k b :=
  ⟨wk_turn hg k s h.1, fun j hj hw => h.2 j hj (wk_turn hg j b hw)⟩
theorem dst_turn (hg : Gr nb n) {a : Int} (a1 : 1 ≤ a) (a2 : a ≤ (n : Int)) (b1 : 1 ≤ b) (b2 : b ≤ (n : Int)) : dst nb n b a = dst nb n a b := by
  rcases dst_spec (b := b) hg a1 a2 with ⟨k, _, he, hm⟩ | ⟨he, hno⟩
  · rw [he, dst_min hg b1 b2 (minW_turn hg hm)]
  · rcases dst_spec (b := a) hg b1 b2 with ⟨k, _, he', hm⟩ | ⟨he', _⟩
    · exact absurd (wk_turn hg k b hm.1) (hno k)
    · rw [he, he']
theorem rt_len (a : Int) : ((rt nb n a b).length : Int) = if dst nb n b a < 0 then 0 else dst nb n b a + 1 := by
  unfold rt
  split
  · rfl
  · rw [greedy_len]; omega
theorem rt_le (hg : Gr nb n) {a : Int} (a1 : 1 ≤ a) (a2 : a ≤ (n : Int)) : (rt nb n a b).length ≤ n := by
  have h1 := rt_len (nb := nb) (n := n) (b := b) a
  rcases dst_spec (b := b) hg a1 a2 with ⟨k, hk, he, _⟩ | ⟨he, _⟩
  · rw [he, if_neg (by omega)] at h1
    omega
  · rw [he, if_pos (by omega)] at h1
    omega
theorem rt_turn (hg : Gr nb n) {a : Int} (a1 : 1 ≤ a) (a2 : a ≤ (n : Int)) (b1 : 1 ≤ b) (b2 : b ≤ (n : Int)) : (rt nb n a b).length = (rt nb n b a).length := by
  have h1 := rt_len (nb := nb) (n := n) (b := b) a
  have h2 := rt_len (nb := nb) (n := n) (b := a) b
  rw [dst_turn hg a1 a2 b1 b2] at h1
  omega
theorem rt_self (hg : Gr nb n) {a : Int} (a1 : 1 ≤ a) (a2 : a ≤ (n : Int)) : (rt nb n a a).length = 1 := by
  have h1 := rt_len (nb := nb) (n := n) (b := a) a
  have h2 : dst nb n a a = ((0 : Nat) : Int) := dst_min hg a1 a2 ⟨rfl, fun j hj => absurd hj (by omega)⟩
  rw [h2, if_neg (by omega)] at h1
  omega
theorem rt_near (hg : Gr nb n) {a x : Int} (a1 : 1 ≤ a) (a2 : a ≤ (n : Int)) (hx : x ∈ nb a) :
    (0 < (rt nb n x b).length → 0 < (rt nb n a b).length ∧ (rt nb n a b).length ≤ (rt nb n x b).length + 1) ∧ ((rt nb n x b).length = 0 → (rt nb n a b).length = 0) := by
  have h1 := rt_len (nb := nb) (n := n) (b := b) a
  have h2 := rt_len (nb := nb) (n := n) (b := b) x
  have hr := hg.rng _ _ hx
  rcases dst_spec (b := b) hg a1 a2 with ⟨k, _, he, hm⟩ | ⟨he, hno⟩
  · rcases dst_spec (b := b) hg hr.1 hr.2 with ⟨k', _, he', hm'⟩ | ⟨he', hno'⟩
    · have hle : k ≤ k' + 1 := by
        rcases Nat.lt_or_ge (k' + 1) k with hlt | hge
        · exact absurd ⟨x, hx, hm'.1⟩ (hm.2 (k' + 1) hlt)
        · exact hge
      rw [he, if_neg (by omega)] at h1
      rw [he', if_neg (by omega)] at h2
      omega
    · have := hno' (k + 1) ⟨a, hg.sym _ _ hx, hm.1⟩
      exact this.elim
  · rcases dst_spec (b := b) hg hr.1 hr.2 with ⟨k', _, he', hm'⟩ | ⟨he', hno'⟩
    · exact absurd ⟨x, hx, hm'.1⟩ (hno (k' + 1))
    · rw [he, if_pos (by omega)] at h1
      rw [he', if_pos (by omega)] at h2
      omega
/-- The way's ends, steps and nodes. -/
theorem rt_way (hg : Gr nb n) {a : Int} (a1 : 1 ≤ a) (a2 : a ≤ (n : Int)) :
    (∀ u : Int, (rt nb n a b)[0]? = some u → u = a) ∧ (∀ (i : Nat) (u : Int), i + 1 = (rt nb n a b).length → (rt nb n a b)[i]? = some u → u = b) ∧
    (∀ (i : Nat) (u v : Int), (rt nb n a b)[i]? = some u → (rt nb n a b)[i + 1]? = some v → v ∈ nb u) ∧ (∀ (i j : Nat) (u : Int), (rt nb n a b)[i]? = some u → (rt nb n a b)[j]? = some u → i = j) ∧
    (∀ u : Int, u ∈ rt nb n a b → 1 ≤ u ∧ u ≤ (n : Int)) := by
  unfold rt
  rcases dst_spec (b := b) hg a1 a2 with ⟨k, _, he, hm⟩ | ⟨he, hno⟩
  · rw [he, if_neg (by omega), Int.toNat_natCast]
    obtain ⟨g1, g2⟩ := greedy_way hg k a a1 a2 hm
    refine ⟨fun u hu => ?_, fun i u hi hu => ?_, g2, fun i j u hi hj => ?_, fun u hu => ?_⟩
    · rw [greedy_zero] at hu
      injection hu with e
      exact e.symm
    · rw [greedy_len] at hi
      obtain rfl : i = k := by omega
      have := (g1 i u hu).2.1
      rw [Nat.sub_self] at this
      exact this.1
    · have h1 := g1 i u hi
      have h2 := g1 j u hj
      have := minW_uniq h1.2.1 h2.2.1
      omega
    · obtain ⟨i, hi⟩ := List.getElem?_of_mem hu
      exact (g1 i u hi).2.2
  · rw [he, if_pos (by omega)]
    simp
end
end Go.Proofs.Ytkmclglphelhdaa
