/- Shortest ways in a graph on the numbers 1 to n: walks, levels, the greedy way; breadth first with parents. No program in sight. -/
namespace Go.Proofs.Ytkmclglphelhdaa

/-- A symmetric graph on 1 to n, neighbours in increasing order. -/
structure Gr (nb : Int → List Int) (n : Nat) : Prop where
  rng : ∀ s t, t ∈ nb s → 1 ≤ t ∧ t ≤ (n : Int)
  sym : ∀ s t, t ∈ nb s → s ∈ nb t

/-- A walk of k steps to b. -/
def Wk (nb : Int → List Int) (b : Int) : Nat → Int → Prop
  | 0, s => s = b
  | k + 1, s => ∃ t, t ∈ nb s ∧ Wk nb b k t
def MinW (nb : Int → List Int) (b : Int) (k : Nat) (s : Int) : Prop := Wk nb b k s ∧ ∀ j, j < k → ¬ Wk nb b j s

section
variable {nb : Int → List Int} {n : Nat} {b : Int}
theorem minW_succ {k : Nat} {s : Int} (h : MinW nb b (k + 1) s) : ∃ t, t ∈ nb s ∧ MinW nb b k t := by
  obtain ⟨⟨t, ht, hw⟩, hm⟩ := h
  exact ⟨t, ht, hw, fun j hj hw' => hm (j + 1) (by omega) ⟨t, ht, hw'⟩⟩
theorem minW_uniq {k k' : Nat} {s : Int} (h : MinW nb b k s) (h' : MinW nb b k' s) : k = k' := by
  rcases Nat.lt_trichotomy k k' with e | e | e
  · exact absurd h.1 (h'.2 k e)
  · exact e
  · exact absurd h'.1 (h.2 k' e)
theorem minW_ex {s : Int} : ∀ k : Nat, Wk nb b k s → ∃ k', k' ≤ k ∧ MinW nb b k' s := by
  intro k
  induction k using Nat.strongRecOn with
  | ind k ih =>
    intro h
    by_cases hj : ∃ j, j < k ∧ Wk nb b j s
    · obtain ⟨j, hjk, hw⟩ := hj
      obtain ⟨k', h1, h2⟩ := ih j hjk hw
      exact ⟨k', by omega, h2⟩
    · exact ⟨k, Nat.le_refl _, h, fun j hjk hw => hj ⟨j, hjk, hw⟩⟩
theorem nodup_le (n : Nat) : ∀ l : List Int, l.Nodup → (∀ x ∈ l, 1 ≤ x ∧ x ≤ (n : Int)) → l.length ≤ n := by
  induction n with
  | zero =>
    intro l _ h
    cases l with
    | nil => exact Nat.le_refl _
    | cons x l =>
      have := h x (by simp)
      omega
  | succ n ih =>
    intro l hn h
    by_cases hm : ((n + 1 : Nat) : Int) ∈ l
    · have h1 := ih (l.erase ((n + 1 : Nat) : Int)) (hn.erase _) (fun x hx => by
        have h2 := (hn.mem_erase_iff).1 hx
        have h3 := h x h2.2
        have h4 := h2.1
        omega)
      rw [List.length_erase_of_mem hm] at h1
      omega
    · have := ih l hn (fun x hx => by
        have h3 := h x hx
        have h4 : x ≠ ((n + 1 : Nat) : Int) := fun e => hm (e ▸ hx)
        omega)
      omega
theorem minW_chain (hg : Gr nb n) : ∀ (k : Nat) (s : Int), 1 ≤ s → s ≤ (n : Int) → MinW nb b k s →
    ∃ l : List Int, l.length = k + 1 ∧ l.Nodup ∧ (∀ x ∈ l, 1 ≤ x ∧ x ≤ (n : Int)) ∧ ∀ x ∈ l, ∃ j, j ≤ k ∧ MinW nb b j x := by
  intro k
  induction k with
  | zero =>
    intro s h1 h2 h
    exact ⟨[s], rfl, by simp, by simp; omega, by simpa using h⟩
  | succ k ih =>
    intro s h1 h2 h
    obtain ⟨t, ht, hm⟩ := minW_succ h
    have hr := hg.rng _ _ ht
    obtain ⟨l, hl, hn, hx, hj⟩ := ih t hr.1 hr.2 hm
    refine ⟨s :: l, by simp [hl], List.nodup_cons.2 ⟨fun hs => ?_, hn⟩, fun x hx' => ?_, fun x hx' => ?_⟩
    · obtain ⟨j, hjk, hmj⟩ := hj s hs
      have := minW_uniq h hmj
      omega
    · rcases List.mem_cons.1 hx' with rfl | hx'
      · exact ⟨h1, h2⟩
      · exact hx x hx'
    · rcases List.mem_cons.1 hx' with rfl | hx'
      · exact ⟨k + 1, Nat.le_refl _, h⟩
      · obtain ⟨j, h3, h4⟩ := hj x hx'
        exact ⟨j, by omega, h4⟩
theorem minW_lt (hg : Gr nb n) {k : Nat} {s : Int} (h1 : 1 ≤ s) (h2 : s ≤ (n : Int)) (h : MinW nb b k s) : k < n := by
  obtain ⟨l, hl, hn, hx, _⟩ := minW_chain hg k s h1 h2 h
  have := nodup_le n l hn hx
  omega

/-- The levels after d rounds: -1 stands for none. -/
def lev (nb : Int → List Int) (b : Int) : Nat → Int → Int
  | 0, s => if s = b then 0 else -1
  | d + 1, s => if decide (lev nb b d s < 0) && (nb s).any (fun t => lev nb b d t == (d : Int)) then (d : Int) + 1 else lev nb b d s
theorem lev_spec (d : Nat) : ∀ s, (∃ k : Nat, k ≤ d ∧ lev nb b d s = (k : Int) ∧ MinW nb b k s) ∨ (lev nb b d s = -1 ∧ ∀ j, j ≤ d → ¬ Wk nb b j s) := by
  induction d with
  | zero =>
    intro s
    by_cases e : s = b
    · exact .inl ⟨0, Nat.le_refl _, by unfold lev; rw [if_pos e]; rfl, e, fun j hj => absurd hj (by omega)⟩
    · refine .inr ⟨by unfold lev; rw [if_neg e], fun j hj hw => ?_⟩
      obtain rfl : j = 0 := by omega
      exact e hw
  | succ d ih =>
    intro s
    rcases ih s with ⟨k, hk, he, hm⟩ | ⟨he, hno⟩
    · refine .inl ⟨k, by omega, ?_, hm⟩
      unfold lev
      rw [if_neg]
      · exact he
      · simp [he]
        intro h
        omega
    · by_cases ha : (nb s).any (fun t => lev nb b d t == (d : Int)) = true
      · obtain ⟨t, ht, hd⟩ := List.any_eq_true.1 ha
        have hd : lev nb b d t = (d : Int) := by simpa using hd
        refine .inl ⟨d + 1, Nat.le_refl _, ?_, ?_⟩
        · unfold lev
          rw [if_pos (by rw [he, ha]; rfl)]
          omega
        · rcases ih t with ⟨k, hk, hek, hmk⟩ | ⟨he', _⟩
          · obtain rfl : k = d := by omega
            exact ⟨⟨t, ht, hmk.1⟩, fun j hj => hno j (by omega)⟩
          · omega
      · refine .inr ⟨?_, fun j hj hw => ?_⟩
        · unfold lev
          rw [if_neg (by simp only [Bool.not_eq_true] at ha; rw [ha]; simp)]
          exact he
        · by_cases hjd : j ≤ d
          · exact hno j hjd hw
          · obtain rfl : j = d + 1 := by omega
            obtain ⟨t, ht, hwt⟩ := hw
            apply ha
            refine List.any_eq_true.2 ⟨t, ht, ?_⟩
            rcases ih t with ⟨k, hk, hek, hmk⟩ | ⟨_, hn2⟩
            · by_cases hkd : k = d
              · subst hkd
                simpa using hek
              · exact absurd ⟨t, ht, hmk.1⟩ (hno (k + 1) (by omega))
            · exact absurd hwt (hn2 d (Nat.le_refl _))
def dst (nb : Int → List Int) (n : Nat) (b : Int) (s : Int) : Int := lev nb b n s
theorem dst_spec (hg : Gr nb n) {s : Int} (h1 : 1 ≤ s) (h2 : s ≤ (n : Int)) : (∃ k : Nat, k < n ∧ dst nb n b s = (k : Int) ∧ MinW nb b k s) ∨ (dst nb n b s = -1 ∧ ∀ j, ¬ Wk nb b j s) := by
  rcases lev_spec (nb := nb) (b := b) n s with ⟨k, hk, he, hm⟩ | ⟨he, hno⟩
  · exact .inl ⟨k, minW_lt hg h1 h2 hm, he, hm⟩
  · refine .inr ⟨he, fun j hw => ?_⟩
    obtain ⟨k, hk, hm⟩ := minW_ex j hw
    have := minW_lt hg h1 h2 hm
    exact hno k (by omega) hm.1
theorem dst_min (hg : Gr nb n) {s : Int} (h1 : 1 ≤ s) (h2 : s ≤ (n : Int)) {k : Nat} (hm : MinW nb b k s) : dst nb n b s = (k : Int) := by
  rcases dst_spec (b := b) hg h1 h2 with ⟨k', _, he, hm'⟩ | ⟨_, hno⟩
  · rw [he, minW_uniq hm' hm]
  · exact absurd hm.1 (hno k)
/-- One step of the greedy way. -/
def nxt (nb : Int → List Int) (d : Int → Int) (x : Int) : Int := ((nb x).find? (fun t => d t == d x - 1)).getD x
def greedy (nb : Int → List Int) (d : Int → Int) : Nat → Int → List Int
  | 0, x => [x]
  | f + 1, x => x :: greedy nb d f (nxt nb d x)
/-- The first shortest way. -/
def rt (nb : Int → List Int) (n : Nat) (a b : Int) : List Int := if dst nb n b a < 0 then [] else greedy nb (dst nb n b) (dst nb n b a).toNat a
theorem nxt_min (hg : Gr nb n) {k : Nat} {x : Int} (h1 : 1 ≤ x) (h2 : x ≤ (n : Int)) (hm : MinW nb b (k + 1) x) : nxt nb (dst nb n b) x ∈ nb x ∧ MinW nb b k (nxt nb (dst nb n b) x) := by
  obtain ⟨t, ht, hmt⟩ := minW_succ hm
  have hr := hg.rng _ _ ht
  have hdx := dst_min hg h1 h2 hm
  have hdt := dst_min hg hr.1 hr.2 hmt
  unfold nxt
  cases hf : (nb x).find? (fun t => dst nb n b t == dst nb n b x - 1) with
  | none =>
    have := List.find?_eq_none.1 hf t ht
    simp at this
    omega
  | some y =>
    have hy := List.mem_of_find?_eq_some hf
    have hp := List.find?_some hf
    have hp : dst nb n b y = dst nb n b x - 1 := by simpa using hp
    refine ⟨hy, ?_⟩
    have hry := hg.rng _ _ hy
    rcases dst_spec (b := b) hg hry.1 hry.2 with ⟨k', _, he, hm'⟩ | ⟨he, _⟩
    · obtain rfl : k' = k := by omega
      exact hm'
    · omega

/-- Breadth first from a: Q the nodes in the order of their finding, par the node ahead of each; J, K: from which row and place of the neighbours it was found; the first h rows and k places of the row h have been read. -/
structure BI (nb : Int → List Int) (n : Nat) (a : Int) (Q : List Int) (par : Int → Option Int) (J K : Nat → Nat) (h k : Nat) : Prop where
  st : Q[0]? = some a
  pa : par a = some 0
  dom : ∀ s, s ∈ Q ↔ par s ≠ none
  nd : Q.Nodup
  rng : ∀ s ∈ Q, 1 ≤ s ∧ s ≤ (n : Int)
  p1 : ∀ i x, 0 < i → Q[i]? = some x → J i < i ∧ (J i < h ∨ J i = h ∧ K i < k) ∧ ∃ y, Q[J i]? = some y ∧ (nb y)[K i]? = some x ∧ par x = some y
  p2 : ∀ i i', 0 < i → i < i' → i' < Q.length → J i < J i' ∨ J i = J i' ∧ K i < K i'
  p3 : ∀ j t y s, Q[j]? = some y → (j < h ∨ j = h ∧ t < k) → (nb y)[t]? = some s → ∃ i, Q[i]? = some s ∧ (0 < i → J i < j ∨ J i = j ∧ K i ≤ t)
theorem BI.start {a : Int} (h1 : 1 ≤ a) (h2 : a ≤ (n : Int)) : BI nb n a [a] (fun s => if s = a then some 0 else none) (fun _ => 0) (fun _ => 0) 0 0 := by
  refine ⟨rfl, by simp, fun s => by simp, by simp, by simp; omega, fun i x hi hx => ?_, fun i i' h h' h'' => ?_, fun j t y s _ hj => ?_⟩
  · rw [List.getElem?_eq_none (by simp; omega)] at hx
    cases hx
  · simp at h''
    omega
  · omega
theorem BI.old {a v s : Int} {Q : List Int} {par : Int → Option Int} {J K : Nat → Nat} {h k : Nat} (H : BI nb n a Q par J K h k) (hv : Q[h]? = some v) (hs : (nb v)[k]? = some s) (hp : par s ≠ none) : BI nb n a Q par J K h (k + 1) := by
  refine ⟨H.st, H.pa, H.dom, H.nd, H.rng, fun i x hi hx => ?_, H.p2, fun j t y s' hy hj hs' => ?_⟩
  · obtain ⟨q1, q2, q3⟩ := H.p1 i x hi hx
    exact ⟨q1, by omega, q3⟩
  · by_cases hjt : j < h ∨ j = h ∧ t < k
    · exact H.p3 j t y s' hy hjt hs'
    · obtain rfl : j = h := by omega
      obtain rfl : t = k := by omega
      rw [hv] at hy
      injection hy with hy
      subst hy
      rw [hs] at hs'
      injection hs' with hs'
      subst hs'
      obtain ⟨i, hi⟩ := List.getElem?_of_mem ((H.dom s).2 hp)
      refine ⟨i, hi, fun h0 => ?_⟩
      have := (H.p1 i s h0 hi).2.1
      omega
theorem BI.new {a v s : Int} {Q : List Int} {par : Int → Option Int} {J K : Nat → Nat} {h k : Nat} (H : BI nb n a Q par J K h k) (hg : Gr nb n) (hv : Q[h]? = some v) (hs : (nb v)[k]? = some s) (hp : par s = none) :
    BI nb n a (Q ++ [s]) (fun x => if x = s then some v else par x) (fun i => if i = Q.length then h else J i) (fun i => if i = Q.length then k else K i) h (k + 1) := by
  have hsQ : s ∉ Q := fun hm => (H.dom s).1 hm hp
  have hQ0 : 0 < Q.length := by
    have := H.st
    rcases Nat.eq_zero_or_pos Q.length with e | e
    · rw [List.getElem?_eq_none (by omega)] at this; cases this
    · exact e
  have hhl : h < Q.length := (List.getElem?_eq_some_iff.1 hv).1
  have has : a ≠ s := fun e => hsQ (e ▸ List.mem_of_getElem? H.st)
  have hold : ∀ {i : Nat} {x : Int}, Q[i]? = some x → (Q ++ [s])[i]? = some x := fun {i x} hx => by
    rw [List.getElem?_append_left (List.getElem?_eq_some_iff.1 hx).1]; exact hx
  refine ⟨hold H.st, by rw [if_neg has]; exact H.pa, fun x => ?_, ?_, fun x hx => ?_, fun i x hi hx => ?_, fun i i' h0 hi hl => ?_, fun j t y s' hy hj hs' => ?_⟩
  · rw [List.mem_append]
    by_cases e : x = s
    · subst e; simp
    · simp [e, H.dom x]
  · refine List.nodup_append.2 ⟨H.nd, by simp, fun x hx y hy e => ?_⟩
    simp at hy
    exact hsQ (by rw [← hy, ← e]; exact hx)
  · rcases List.mem_append.1 hx with hx | hx
    · exact H.rng x hx
    · simp at hx
      subst hx
      exact hg.rng _ _ (List.mem_of_getElem? hs)
  · by_cases e : i = Q.length
    · subst e
      rw [List.getElem?_append_right (Nat.le_refl _)] at hx
      simp at hx
      subst hx
      rw [if_pos rfl, if_pos rfl, if_pos rfl]
      exact ⟨hhl, by omega, v, hold hv, hs, rfl⟩
    · have hi' : i < Q.length := by
        have := (List.getElem?_eq_some_iff.1 hx).1
        simp at this
        omega
      rw [List.getElem?_append_left hi'] at hx
      obtain ⟨q1, q2, y, q3, q4, q5⟩ := H.p1 i x hi hx
      simp only [if_neg e]
      have hxs : x ≠ s := fun e => hsQ (e ▸ List.mem_of_getElem? hx)
      exact ⟨q1, by omega, y, hold q3, q4, by rw [if_neg hxs]; exact q5⟩
  · simp at hl
    have e1 : i ≠ Q.length := by omega
    simp only [if_neg e1]
    by_cases e : i' = Q.length
    · subst e
      simp only [if_true]
      obtain ⟨x, hx⟩ : ∃ x, Q[i]? = some x := ⟨_, List.getElem?_eq_getElem (by omega)⟩
      exact (H.p1 i x h0 hx).2.1
    · simp only [if_neg e]
      exact H.p2 i i' h0 hi (by omega)
  · have hjl : j < Q.length := by omega
    rw [List.getElem?_append_left hjl] at hy
    by_cases hjt : j < h ∨ j = h ∧ t < k
    · obtain ⟨i, hi, hq⟩ := H.p3 j t y s' hy hjt hs'
      refine ⟨i, hold hi, fun h0 => ?_⟩
      have e1 : i ≠ Q.length := by have := (List.getElem?_eq_some_iff.1 hi).1; omega
      simp only [if_neg e1]
      exact hq h0
    · obtain rfl : j = h := by omega
      obtain rfl : t = k := by omega
      rw [hv] at hy
      injection hy with hy
      subst hy
      rw [hs] at hs'
      injection hs' with hs'
      subst hs'
      refine ⟨Q.length, by rw [List.getElem?_append_right (Nat.le_refl _)]; simp, fun _ => .inr ?_⟩
      simp
theorem BI.row {a v : Int} {Q : List Int} {par : Int → Option Int} {J K : Nat → Nat} {h k : Nat} (H : BI nb n a Q par J K h k) (hv : Q[h]? = some v) (hk : k = (nb v).length) : BI nb n a Q par J K (h + 1) 0 := by
  refine ⟨H.st, H.pa, H.dom, H.nd, H.rng, fun i x hi hx => ?_, H.p2, fun j t y s' hy hj hs' => H.p3 j t y s' hy ?_ hs'⟩
  · obtain ⟨q1, q2, q3⟩ := H.p1 i x hi hx
    exact ⟨q1, by omega, q3⟩
  · by_cases e : j = h
    · subst e
      rw [hv] at hy
      injection hy with hy
      subst hy
      have := (List.getElem?_eq_some_iff.1 hs').1
      omega
    · omega

/-- The m-th node ahead of ib. -/
def An (J : Nat → Nat) (ib : Nat) : Nat → Nat → Prop
  | 0, y => y = ib
  | m + 1, y => ∃ z, 0 < z ∧ An J ib m z ∧ y = J z
section
variable {a : Int} {Q : List Int} {par : Int → Option Int} {J K : Nat → Nat}
theorem BI.uniq {h k : Nat} (H : BI nb n a Q par J K h k) {i j : Nat} {x : Int} (hi : Q[i]? = some x) (hj : Q[j]? = some x) : i = j := by
  have h1 := List.getElem?_eq_some_iff.1 hi
  have h2 := List.getElem?_eq_some_iff.1 hj
  exact (List.getElem_inj H.nd).1 (h1.2.trans h2.2.symm)
/-- All edges have been read. -/
theorem BI.edge (H : BI nb n a Q par J K Q.length 0) {i : Nat} {y s : Int} (hy : Q[i]? = some y) (hs : s ∈ nb y) : ∃ i', Q[i']? = some s ∧ (0 < i' → J i' ≤ i) := by
  obtain ⟨t, ht⟩ := List.getElem?_of_mem hs
  obtain ⟨i', h1, h2⟩ := H.p3 i t y s hy (.inl (List.getElem?_eq_some_iff.1 hy).1) ht
  exact ⟨i', h1, fun h0 => by have := h2 h0; omega⟩
theorem BI.reach (H : BI nb n a Q par J K Q.length 0) : ∀ (k i : Nat) (x : Int), Q[i]? = some x → Wk nb b k x → b ∈ Q := by
  intro k
  induction k with
  | zero =>
    intro i x hx hw
    exact (show x = b from hw) ▸ List.mem_of_getElem? hx
  | succ k ih =>
    intro i x hx hw
    obtain ⟨t, ht, hw'⟩ := hw
    obtain ⟨i', h1, _⟩ := H.edge hx ht
    exact ih i' t h1 hw'
theorem BI.an_lt (H : BI nb n a Q par J K Q.length 0) {ib : Nat} (hb : Q[ib]? = some b) : ∀ (m y : Nat), An J ib m y → y < Q.length := by
  intro m
  induction m with
  | zero =>
    intro y h
    rw [show y = ib from h]
    exact (List.getElem?_eq_some_iff.1 hb).1
  | succ m ih =>
    rintro y ⟨z, hz, hA, rfl⟩
    have hzl := ih z hA
    obtain ⟨x, hx⟩ : ∃ x, Q[z]? = some x := ⟨_, List.getElem?_eq_getElem hzl⟩
    have := (H.p1 z x hz hx).1
    omega
/-- Nothing ahead of the m-th node comes to b in m steps. -/
theorem BI.ahead (H : BI nb n a Q par J K Q.length 0) {ib : Nat} (hb : Q[ib]? = some b) : ∀ (m y i : Nat) (x : Int), An J ib m y → i < y → Q[i]? = some x → ¬ Wk nb b m x := by
  intro m
  induction m with
  | zero =>
    intro y i x hA hi hx hw
    rw [show y = ib from hA] at hi
    rw [show x = b from hw] at hx
    have := H.uniq hx hb
    omega
  | succ m ih =>
    rintro y i x ⟨z, hz, hA, rfl⟩ hi hx ⟨t, ht, hw⟩
    obtain ⟨i', h1, h2⟩ := H.edge hx ht
    have hzl := H.an_lt hb m z hA
    have hil := (List.getElem?_eq_some_iff.1 h1).1
    refine ih z i' t hA ?_ h1 hw
    by_cases h0 : 0 < i'
    · have h3 := h2 h0
      rcases Nat.lt_trichotomy i' z with e | e | e
      · exact e
      · subst e; omega
      · have := H.p2 z i' hz e hil
        omega
    · omega
theorem BI.an_mono (H : BI nb n a Q par J K Q.length 0) {ib : Nat} (hb : Q[ib]? = some b) : ∀ (m y : Nat), An J ib m y → ∀ j, j < m → ∃ z, An J ib j z ∧ y < z := by
  intro m
  induction m with
  | zero => intro y _ j hj; omega
  | succ m ih =>
    rintro y ⟨z, hz, hA, rfl⟩ j hj
    have hzl := H.an_lt hb m z hA
    obtain ⟨x, hx⟩ : ∃ x, Q[z]? = some x := ⟨_, List.getElem?_eq_getElem hzl⟩
    have hJ := (H.p1 z x hz hx).1
    by_cases e : j = m
    · subst e; exact ⟨z, hA, hJ⟩
    · obtain ⟨u, hu, hzu⟩ := ih z hA j (by omega)
      exact ⟨u, hu, by omega⟩
theorem BI.chain (H : BI nb n a Q par J K Q.length 0) (hg : Gr nb n) {ib : Nat} (hb : Q[ib]? = some b) : ∀ (m y : Nat), An J ib m y → ∃ (x : Int) (R : List Int), Q[y]? = some x ∧ MinW nb b m x ∧
    (∀ t u, R[t]? = some u → par u = some (((R ++ [x])[t + 1]?).getD 0)) ∧ (R ++ [x])[0]? = some b ∧ (∀ u ∈ R, u ∈ Q) ∧ greedy nb (dst nb n b) m x = (R ++ [x]).reverse := by
  intro m
  induction m with
  | zero =>
    intro y hA
    rw [show y = ib from hA]
    exact ⟨b, [], hb, ⟨rfl, fun j hj => absurd hj (by omega)⟩, fun t u hu => by simp at hu, rfl, fun u hu => by simp at hu, rfl⟩
  | succ m ih =>
    intro y hA0
    obtain ⟨z, hz, hA, rfl⟩ := hA0
    obtain ⟨x, R, hx, hm, hR, hR0, hRQ, hgr⟩ := ih z hA
    obtain ⟨q1, q2, v, hv, hk, hp⟩ := H.p1 z x hz hx
    have hxv : x ∈ nb v := List.mem_of_getElem? hk
    have hvr := H.rng v (List.mem_of_getElem? hv)
    have hxr := H.rng x (List.mem_of_getElem? hx)
    have hmv : MinW nb b (m + 1) v := by
      refine ⟨⟨x, hxv, hm.1⟩, fun j hj hw => ?_⟩
      obtain ⟨u, hu, hlt⟩ := H.an_mono hb (m + 1) (J z) ⟨z, hz, hA, rfl⟩ j hj
      exact H.ahead hb j u (J z) v hu hlt hv hw
    have hdv := dst_min hg hvr.1 hvr.2 hmv
    have hdx := dst_min hg hxr.1 hxr.2 hm
    have hnx : nxt nb (dst nb n b) v = x := by
      have hfind : (nb v).find? (fun t => dst nb n b t == dst nb n b v - 1) = some x := by
        rw [List.find?_eq_some_iff_getElem]
        obtain ⟨hkl, hke⟩ := List.getElem?_eq_some_iff.1 hk
        refine ⟨by rw [hdv, hdx, beq_iff_eq]; omega, K z, hkl, hke, fun t ht => ?_⟩
        have htl : t < (nb v).length := by omega
        simp only [Bool.not_eq_true', beq_eq_false_iff_ne, ne_eq]
        intro hd
        have hsv : (nb v)[t] ∈ nb v := List.getElem_mem htl
        have hsr := hg.rng _ _ hsv
        have hms : MinW nb b m (nb v)[t] := by
          rcases dst_spec (b := b) hg hsr.1 hsr.2 with ⟨k', _, he, hm'⟩ | ⟨he, _⟩
          · obtain rfl : k' = m := by omega
            exact hm'
          · omega
        obtain ⟨i', h1, h2⟩ := H.p3 (J z) t v (nb v)[t] hv (.inl (List.getElem?_eq_some_iff.1 hv).1) (List.getElem?_eq_getElem htl)
        refine H.ahead hb m z i' _ hA ?_ h1 hms.1
        by_cases h0 : 0 < i'
        · have h3 := h2 h0
          rcases Nat.lt_trichotomy i' z with e | e | e
          · exact e
          · subst e; omega
          · have := H.p2 z i' hz e (List.getElem?_eq_some_iff.1 h1).1
            omega
        · omega
      unfold nxt
      rw [hfind]
      rfl
    refine ⟨v, R ++ [x], hv, hmv, fun t u hu => ?_, ?_, fun u hu => ?_, ?_⟩
    · by_cases ht : t < R.length
      · rw [List.getElem?_append_left ht] at hu
        rw [hR t u hu, List.getElem?_append_left (l₁ := R ++ [x]) (by simp; omega)]
      · rw [List.getElem?_append_right (by omega)] at hu
        have ht' : t - R.length = 0 := by
          have := (List.getElem?_eq_some_iff.1 hu).1
          simp at this
          omega
        rw [ht'] at hu
        simp at hu
        subst hu
        rw [hp, List.getElem?_append_right (by simp; omega)]
        rw [show t + 1 - (R ++ [x]).length = 0 from by simp; omega]
        rfl
    · rw [List.getElem?_append_left (by simp)]
      exact hR0
    · rcases List.mem_append.1 hu with hu | hu
      · exact hRQ u hu
      · simp at hu
        subst hu
        exact List.mem_of_getElem? hx
    · show v :: greedy nb (dst nb n b) m (nxt nb (dst nb n b) v) = _
      rw [hnx, hgr]
      simp
theorem BI.an_zero (H : BI nb n a Q par J K Q.length 0) {ib : Nat} (hb : Q[ib]? = some b) : ∀ (y m : Nat), An J ib m y → ∃ m', An J ib m' 0 := by
  intro y
  induction y using Nat.strongRecOn with
  | ind y ih =>
    intro m hA
    rcases Nat.eq_zero_or_pos y with e | e
    · subst e; exact ⟨m, hA⟩
    · have hyl := H.an_lt hb m y hA
      obtain ⟨x, hx⟩ : ∃ x, Q[y]? = some x := ⟨_, List.getElem?_eq_getElem hyl⟩
      exact ih (J y) (H.p1 y x e hx).1 (m + 1) ⟨y, e, hA, rfl⟩
/-- What breadth first gives: the way back by the parents is the first shortest way, turned. -/
theorem BI.yes (H : BI nb n a Q par J K Q.length 0) (hg : Gr nb n) (hb : b ∈ Q) : ∃ L : List Int, L[0]? = some b ∧ (∀ t u, L[t]? = some u → par u = some ((L[t + 1]?).getD 0) ∧ u ∈ Q) ∧ rt nb n a b = L.reverse := by
  obtain ⟨ib, hib⟩ := List.getElem?_of_mem hb
  obtain ⟨m, hA⟩ := H.an_zero hib ib 0 rfl
  obtain ⟨x, R, hx, hm, hR, hR0, hRQ, hgr⟩ := H.chain hg hib m 0 hA
  have hxa : x = a := by
    have := H.st
    rw [hx] at this
    injection this
  subst hxa
  have hr := H.rng x (List.mem_of_getElem? hx)
  have hd := dst_min hg hr.1 hr.2 hm
  refine ⟨R ++ [x], hR0, fun t u hu => ?_, ?_⟩
  · by_cases ht : t < R.length
    · rw [List.getElem?_append_left ht] at hu
      exact ⟨hR t u hu, hRQ u (List.mem_of_getElem? hu)⟩
    · rw [List.getElem?_append_right (by omega)] at hu
      have ht' : t - R.length = 0 := by
        have := (List.getElem?_eq_some_iff.1 hu).1
        simp at this
        omega
      rw [ht'] at hu
      simp at hu
      subst hu
      refine ⟨?_, List.mem_of_getElem? hx⟩
      rw [H.pa, List.getElem?_eq_none (by simp; omega)]
      rfl
  · unfold rt
    rw [if_neg (by omega), hd, Int.toNat_natCast]
    exact hgr
theorem BI.no (H : BI nb n a Q par J K Q.length 0) (hg : Gr nb n) (hb : b ∉ Q) : rt nb n a b = [] := by
  have hr := H.rng a (List.mem_of_getElem? H.st)
  unfold rt
  rw [if_pos]
  rcases dst_spec (b := b) hg hr.1 hr.2 with ⟨k, _, _, hm⟩ | ⟨he, _⟩
  · exact absurd (H.reach k 0 a H.st hm.1) hb
  · omega
end
end
end Go.Proofs.Ytkmclglphelhdaa
