/- Layer 10: plain law of Paths: the paths that it has taken, and what is left of the flow. -/
import Derived.Test.YtpalacfgpcpppaaFloV
namespace Go.Proofs.Ytpalacfgpcpppaa
open Go Go.RowKit Go.Maps

/-- What the arcs from u to v bear. -/
def btwSum : List ArcV → List Int → Int → Int → Int
  | a :: l, x :: m, u, v => (if a.f = u ∧ a.t = v then x else 0) + btwSum l m u v
  | _, _, _, _ => 0
theorem btw_set : ∀ {arcs : List ArcV} {am : List Int} {j : Nat} {a : ArcV} {x : Int} (y u v : Int), arcs[j]? = some a → am[j]? = some x →
    btwSum arcs (am.set j y) u v = btwSum arcs am u v + (if a.f = u ∧ a.t = v then y - x else 0)
  | [], _, _, _, _, _, _, _, h, _ => by simp at h
  | _ :: _, [], _, _, _, _, _, _, _, h => by simp at h
  | b :: arcs, z :: am, 0, a, x, y, u, v, h, h' => by
    simp at h h'
    subst h h'
    simp only [List.set_cons_zero, btwSum]
    split <;> omega
  | b :: arcs, z :: am, j + 1, a, x, y, u, v, h, h' => by
    have ih := btw_set (arcs := arcs) (am := am) (j := j) (a := a) (x := x) y u v (by simpa using h) (by simpa using h')
    simp only [List.set_cons_succ, btwSum, ih]
    omega
/-- How often a path goes from u to v. -/
def stepsIn (u v : Int) : List Int → Int
  | a :: b :: l => (if a = u ∧ b = v then 1 else 0) + stepsIn u v (b :: l)
  | _ => 0
theorem stepsIn_nonneg (u v : Int) : ∀ p : List Int, 0 ≤ stepsIn u v p
  | [] => by simp [stepsIn]
  | [_] => by simp [stepsIn]
  | a :: b :: l => by
    have := stepsIn_nonneg u v (b :: l)
    simp only [stepsIn]
    split <;> omega
theorem sub_btw {arcs : List ArcV} {r : Int} (y z : Int) : ∀ (l : List Nat) (am : List Int) (u v : Int), am.length = arcs.length → (am0 : List Int) → Trail arcs am0 u l v → btwSum arcs (subL am r l) y z = btwSum arcs am y z - r * stepsIn y z (u :: l.map (tgt arcs))
  | [], am, u, v, _, am0, _ => by
    show btwSum arcs am y z = _
    simp [stepsIn]
  | j :: l, am, u, v, hl, am0, h => by
    obtain ⟨a, q, k1, k2, k3, k4, k5⟩ := h
    obtain ⟨x, hx⟩ : ∃ x, am[j]? = some x := ⟨_, List.getElem?_eq_getElem (by rw [hl]; exact (List.getElem?_eq_some_iff.1 k1).1)⟩
    have ih := sub_btw (arcs := arcs) (r := r) y z l (am.set j (x - r)) a.t v (by rw [List.length_set]; exact hl) am0 k5
    have e : subL am r (j :: l) = subL (am.set j (x - r)) r l := by
      show subL (am.set j ((am[j]?).getD 0 - r)) r l = _
      rw [hx]
      rfl
    rw [e, ih, btw_set _ y z k1 hx, List.map_cons, tgt_eq k1]
    subst k4
    simp only [stepsIn, Int.mul_add]
    split
    · omega
    · omega
/-- What the paths take of the arcs from u to v. -/
def usedS (u v : Int) : List (List Int) → List Int → Int
  | p :: P, z :: Z => z * stepsIn u v p + usedS u v P Z
  | _, _ => 0
theorem usedS_snoc (u v : Int) : ∀ {P : List (List Int)} {Z : List Int} (p : List Int) (z : Int), P.length = Z.length → usedS u v (P ++ [p]) (Z ++ [z]) = usedS u v P Z + z * stepsIn u v p
  | [], [], p, z, _ => by simp [usedS]
  | [], _ :: _, _, _, h => by simp at h
  | _ :: _, [], _, _, h => by simp at h
  | q :: P, y :: Z, p, z, h => by
    have ih := usedS_snoc u v (P := P) (Z := Z) p z (by simpa using h)
    simp only [List.cons_append, usedS, ih]
    omega
structure SimpleP (n : NetV) (p : List Int) : Prop where
  len : 2 ≤ p.length
  head : p[0]? = some n.source
  last : p[p.length - 1]? = some n.sink
  rng : ∀ x ∈ p, 0 ≤ x ∧ x < n.nodes
  nd : p.Nodup
theorem Trail.lastTgt {arcs : List ArcV} {am : List Int} : ∀ {l : List Nat} {u v : Int}, Trail arcs am u l v → (u :: l.map (tgt arcs))[l.length]? = some v
  | [], u, v, h => by rw [show u = v from h]; rfl
  | j :: l, u, v, h => by
    obtain ⟨a, q, k1, k2, k3, k4, k5⟩ := h
    have := k5.lastTgt
    rw [List.map_cons, tgt_eq k1, List.length_cons, List.getElem?_cons_succ]
    exact this
theorem WalkR.simple {n : NetV} (hok : n.Ok) {am : List Int} {l : List Nat} (h : WalkR n am l false) : SimpleP n (nodesOf n l) := by
  obtain ⟨u, v, ht, _, he⟩ := h.ends
  obtain ⟨rfl, rfl, hs⟩ := he rfl
  have hl : 1 ≤ l.length := List.length_pos_iff.2 h.ne
  unfold nodesOf
  refine ⟨by simp; omega, rfl, ?_, fun x hx => ?_, List.nodup_cons.2 ⟨hs, h.nd⟩⟩
  · have := ht.lastTgt
    simpa using this
  · rcases List.mem_cons.1 hx with rfl | hx
    · exact hok.source
    · obtain ⟨j, hj, rfl⟩ := List.mem_map.1 hx
      obtain ⟨a, _, ha, _⟩ := ht.mem j hj
      rw [tgt_eq ha]
      exact (hok.arcs a (List.mem_of_getElem? ha)).t
/-- The least amount on the arcs l. -/
def minA (am : List Int) (r : Int) (l : List Nat) : Int := l.foldl (fun r j => min r ((am[j]?).getD 0)) r
theorem minA_snoc (am : List Int) (r : Int) (l : List Nat) (j : Nat) : minA am r (l ++ [j]) = min (minA am r l) ((am[j]?).getD 0) := by unfold minA; rw [List.foldl_append]; rfl
theorem minA_le {am : List Int} : ∀ (l : List Nat) (r : Int), minA am r l ≤ r ∧ ∀ j ∈ l, ∀ x, am[j]? = some x → minA am r l ≤ x
  | [], r => ⟨Int.le_refl _, fun s hs => by cases hs⟩
  | i :: l, r => by
    have h := minA_le (am := am) l (min r ((am[i]?).getD 0))
    refine ⟨Int.le_trans h.1 (Int.min_le_left ..), fun j hj x hx => ?_⟩
    rcases List.mem_cons.1 hj with rfl | hj
    · exact Int.le_trans (Int.le_trans h.1 (Int.min_le_right ..)) (by rw [hx]; exact Int.le_refl _)
    · exact h.2 j hj x hx
theorem minA_mem {am : List Int} : ∀ (l : List Nat) (r : Int), minA am r l = r ∨ ∃ j ∈ l, minA am r l = (am[j]?).getD 0
  | [], r => .inl rfl
  | i :: l, r => by
    rcases minA_mem (am := am) l (min r ((am[i]?).getD 0)) with h | ⟨j, hj, h⟩
    · by_cases e : r ≤ (am[i]?).getD 0
      · left
        show minA am (min r ((am[i]?).getD 0)) l = r
        rw [h]
        exact Int.min_eq_left e
      · right
        refine ⟨i, List.mem_cons_self .., ?_⟩
        show minA am (min r ((am[i]?).getD 0)) l = _
        rw [h]
        exact Int.min_eq_right (by omega)
    · exact .inr ⟨j, List.mem_cons_of_mem _ hj, h⟩
/-- The size of a way: the least amount on its arcs. -/
def sizeOf' (am : List Int) (l : List Nat) : Int := minA am ((am[l.headD 0]?).getD 0) l
theorem WalkR.size {n : NetV} {am : List Int} {l : List Nat} {c : Bool} (h : WalkR n am l c) : 0 < sizeOf' am l ∧ (∀ j ∈ l, ∃ x, am[j]? = some x ∧ sizeOf' am l ≤ x) ∧ ∃ j ∈ l, am[j]? = some (sizeOf' am l) := by
  obtain ⟨u, v, ht, _, _⟩ := h.ends
  have hm := ht.mem
  have hle := minA_le (am := am) l ((am[l.headD 0]?).getD 0)
  have hex : ∃ j ∈ l, am[j]? = some (sizeOf' am l) := by
    rcases minA_mem (am := am) l ((am[l.headD 0]?).getD 0) with h1 | ⟨j, hj, h1⟩
    · cases hl : l with
      | nil => exact absurd hl h.ne
      | cons i l' =>
        obtain ⟨a, x, _, hx, _⟩ := hm i (by rw [hl]; exact List.mem_cons_self ..)
        refine ⟨i, List.mem_cons_self .., ?_⟩
        unfold sizeOf'
        rw [← hl, h1, hl, List.headD_cons, hx]
        rfl
    · obtain ⟨a, x, _, hx, _⟩ := hm j hj
      refine ⟨j, hj, ?_⟩
      unfold sizeOf'
      rw [h1, hx]
      rfl
  refine ⟨?_, fun j hj => ?_, hex⟩
  · obtain ⟨j, hj, he⟩ := hex
    obtain ⟨a, x, _, hx, h0⟩ := hm j hj
    rw [hx] at he
    injection he with he
    omega
  · obtain ⟨a, x, _, hx, _⟩ := hm j hj
    exact ⟨x, hx, hle.2 j hj x hx⟩
/-- Paths between two ways. -/
structure PtI (n : NetV) (am0 : List Int) (val : Int) (P : List (List Int)) (Z am : List Int) (left : Int) : Prop where
  fl : IsFl n am left
  lo : 0 ≤ left
  len : P.length = Z.length
  simple : ∀ p ∈ P, SimpleP n p
  pos : ∀ z ∈ Z, 0 < z
  sum : Z.sum + left = val
  use : ∀ u v, usedS u v P Z + btwSum n.arcs am u v ≤ btwSum n.arcs am0 u v
  cnt : (0 < left → P.length + posC am ≤ n.arcs.length) ∧ P.length ≤ n.arcs.length
theorem PtI.start {n : NetV} {am : List Int} {val : Int} (h : IsFl n am val) (h0 : 0 ≤ val) : PtI n am val [] [] am val := by
  refine ⟨h, h0, rfl, fun p hp => by (cases hp), fun z hz => by (cases hz), by simp, fun u v => by simp [usedS], fun _ => ?_, Nat.zero_le _⟩
  have := posC_len am
  have := h.cap.1
  simp only [List.length_nil]
  omega
theorem posC_one {am : List Int} {j : Nat} {x : Int} (hx : am[j]? = some x) (h : 0 < x) : 1 ≤ posC am := by
  have := posC_set (am := am) 0 hx
  rw [if_pos h, if_neg (by omega)] at this
  omega
section
variable {n : NetV} {am0 : List Int} {val : Int} {P : List (List Int)} {Z am : List Int} {left : Int} {l : List Nat}
theorem PtI.circle (h : PtI n am0 val P Z am left) (hw : WalkR n am l true) : PtI n am0 val P Z (subL am (sizeOf' am l) l) left ∧ sumN (subL am (sizeOf' am l) l) < sumN am := by
  obtain ⟨h1, h2, h3⟩ := hw.size
  obtain ⟨u, v, ht, he, _⟩ := hw.ends
  obtain rfl : u = v := he rfl
  have hnd := nodup_of_map _ hw.nd
  have hlen : 1 ≤ l.length := List.length_pos_iff.2 hw.ne
  have hsum := sub_sum h1 l am hnd h2
  have hcap := sub_cap (l := l) h.fl.cap (Int.le_of_lt h1) hnd (fun j hj x hx => by
    obtain ⟨y, hy, hr⟩ := h2 j hj
    rw [hx] at hy
    injection hy with hy
    rw [hy]
    exact hr)
  have hnet := sub_net (r := sizeOf' am l) l am u u h.fl.cap.1 am ht
  refine ⟨⟨⟨hcap, fun x a b c d => ?_, ?_⟩, h.lo, h.len, h.simple, h.pos, h.sum, fun y z => ?_, fun hl => ?_, h.cnt.2⟩, by omega⟩
  · rw [hnet, h.fl.mid x a b c d]; omega
  · rw [hnet, h.fl.src]; omega
  · have := h.use y z
    have h4 := sub_btw (r := sizeOf' am l) y z l am u u h.fl.cap.1 am ht
    have h5 := Int.mul_nonneg (Int.le_of_lt h1) (stepsIn_nonneg y z (u :: l.map (tgt n.arcs)))
    omega
  · have := (sub_pos h1 l am hnd h2).1
    have := h.cnt.1 hl
    omega
theorem PtI.path (hok : n.Ok) (h : PtI n am0 val P Z am left) (hl : 0 < left) (hw : WalkR n am l false) {r : Int} (hr : r = min (sizeOf' am l) left) : PtI n am0 val (P ++ [nodesOf n l]) (Z ++ [r]) (subL am r l) (left - r) ∧ sumN (subL am r l) < sumN am ∧ 0 < r ∧ r ≤ left := by
  obtain ⟨h1, h2, h3⟩ := hw.size
  have hsm := hw.simple hok
  obtain ⟨u, v, ht, _, he⟩ := hw.ends
  obtain ⟨rfl, rfl, _⟩ := he rfl
  have hr0 : 0 < r := by omega
  have hrl : r ≤ left := by omega
  have hrs : r ≤ sizeOf' am l := by omega
  have h2' : ∀ j ∈ l, ∃ x, am[j]? = some x ∧ r ≤ x := fun j hj => by
    obtain ⟨x, hx, hx2⟩ := h2 j hj
    exact ⟨x, hx, by omega⟩
  have hnd := nodup_of_map _ hw.nd
  have hlen : 1 ≤ l.length := List.length_pos_iff.2 hw.ne
  have hsum := sub_sum hr0 l am hnd h2'
  have hcap := sub_cap (l := l) h.fl.cap (Int.le_of_lt hr0) hnd (fun j hj x hx => by
    obtain ⟨y, hy, hr⟩ := h2' j hj
    rw [hx] at hy
    injection hy with hy
    rw [hy]
    exact hr)
  have hnet := sub_net (r := r) l am n.source n.sink h.fl.cap.1 am ht
  have hpos := sub_pos hr0 l am hnd h2'
  have hone : 1 ≤ posC am := by
    obtain ⟨j, hj, he⟩ := h3
    exact posC_one he h1
  have hc := h.cnt.1 hl
  refine ⟨⟨⟨hcap, fun x a b c d => ?_, ?_⟩, by omega, by rw [List.length_append, List.length_append, h.len]; rfl, fun p hp => ?_, fun z hz => ?_, ?_, fun y z => ?_, fun hl' => ?_, ?_⟩, by omega, hr0, hrl⟩
  · rw [hnet, h.fl.mid x a b c d, if_neg c, if_neg d]; omega
  · rw [hnet, h.fl.src, if_pos rfl, if_neg hok.ne]; omega
  · rcases List.mem_append.1 hp with hp | hp
    · exact h.simple p hp
    · rw [List.mem_singleton] at hp
      rw [hp]
      exact hsm
  · rcases List.mem_append.1 hz with hz | hz
    · exact h.pos z hz
    · rw [List.mem_singleton] at hz
      omega
  · have := h.sum
    rw [List.sum_append]
    simp only [List.sum_cons, List.sum_nil]
    omega
  · have h4 := sub_btw (r := r) y z l am n.source n.sink h.fl.cap.1 am ht
    have h5 := h.use y z
    have h6 := usedS_snoc y z (nodesOf n l) r h.len
    unfold nodesOf at h6 ⊢
    omega
  · have e : r = sizeOf' am l := by omega
    obtain ⟨j, hj, he⟩ := h3
    have := hpos.2 ⟨j, hj, by rw [e]; exact he⟩
    rw [List.length_append, List.length_singleton]
    omega
  · rw [List.length_append, List.length_singleton]
    omega
end
end Go.Proofs.Ytpalacfgpcpppaa
