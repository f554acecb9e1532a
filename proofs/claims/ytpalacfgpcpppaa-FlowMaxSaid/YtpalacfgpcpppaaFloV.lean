/- Layer 10: plain law of a flow's paths: ways along arcs that bear something, and what is left without them. -/
import Derived.Test.YtpalacfgpcpppaaFloN
namespace Go.Proofs.Ytpalacfgpcpppaa
open Go Go.RowKit Go.Maps

/-- The indexes of the arcs out of a node, of the first k arcs. -/
def outK (arcs : List ArcV) (k : Nat) (v : Int) : List Int := ((List.range k).filter (fun i => match arcs[i]? with | some a => a.f == v | none => false)).map Int.ofNat
theorem outK_len (arcs : List ArcV) (k : Nat) (v : Int) : (outK arcs k v).length ≤ k := by
  unfold outK
  rw [List.length_map]
  exact Nat.le_trans (List.length_filter_le _ _) (by simp)
theorem outK_next {arcs : List ArcV} {k : Nat} {a : ArcV} (h : arcs[k]? = some a) : (fun y => if y = a.f then outK arcs k a.f ++ [(k : Int)] else outK arcs k y) = outK arcs (k + 1) := by
  funext y
  have : outK arcs (k + 1) y = outK arcs k y ++ if a.f = y then [(k : Int)] else [] := by
    unfold outK
    rw [List.range_succ, List.filter_append, List.map_append]
    congr 1
    simp only [List.filter_cons, List.filter_nil, h]
    by_cases h1 : a.f = y
    · simp [h1]
    · simp [h1]
  rw [this]
  by_cases e : y = a.f
  · subst e; simp
  · simp [e, Ne.symm e]
theorem outK_mem {arcs : List ArcV} {v i : Int} : i ∈ outK arcs arcs.length v ↔ ∃ (k : Nat) (a : ArcV), i = (k : Int) ∧ arcs[k]? = some a ∧ a.f = v := by
  unfold outK
  rw [List.mem_map]
  constructor
  · rintro ⟨k, hk, rfl⟩
    obtain ⟨h1, h2⟩ := List.mem_filter.1 hk
    have h3 : k < arcs.length := List.mem_range.1 h1
    rw [List.getElem?_eq_getElem h3] at h2
    exact ⟨k, arcs[k], rfl, List.getElem?_eq_getElem h3, by simpa using h2⟩
  · rintro ⟨k, a, rfl, ha, h⟩
    refine ⟨k, List.mem_filter.2 ⟨List.mem_range.2 (List.getElem?_eq_some_iff.1 ha).1, ?_⟩, rfl⟩
    rw [ha]
    simpa using h
/-- l leads from u to v along arcs that bear something. -/
def Trail (arcs : List ArcV) (am : List Int) : Int → List Nat → Int → Prop
  | u, [], v => u = v
  | u, j :: l, v => ∃ a x, arcs[j]? = some a ∧ am[j]? = some x ∧ 0 < x ∧ a.f = u ∧ Trail arcs am a.t l v
def tgt (arcs : List ArcV) (j : Nat) : Int := match arcs[j]? with | some a => a.t | none => 0
theorem tgt_eq {arcs : List ArcV} {j : Nat} {a : ArcV} (h : arcs[j]? = some a) : tgt arcs j = a.t := by unfold tgt; rw [h]
theorem Trail.snoc {arcs : List ArcV} {am : List Int} : ∀ {l : List Nat} {u v : Int} {j : Nat} {a : ArcV} {x : Int}, Trail arcs am u l v → arcs[j]? = some a → am[j]? = some x → 0 < x → a.f = v → Trail arcs am u (l ++ [j]) a.t
  | [], u, v, j, a, x, h, h1, h2, h3, h4 => ⟨a, x, h1, h2, h3, h4.trans (show u = v from h).symm, rfl⟩
  | i :: l, u, v, j, a, x, h, h1, h2, h3, h4 => by
    obtain ⟨b, y, k1, k2, k3, k4, k5⟩ := h
    exact ⟨b, y, k1, k2, k3, k4, k5.snoc h1 h2 h3 h4⟩
theorem Trail.drop {arcs : List ArcV} {am : List Int} : ∀ {l : List Nat} {u v : Int} {p : Nat} {x : Int}, Trail arcs am u l v → (u :: l.map (tgt arcs))[p]? = some x → Trail arcs am x (l.drop p) v
  | l, u, v, 0, x, h, hp => by simp at hp; subst hp; simpa using h
  | [], u, v, p + 1, x, h, hp => by simp at hp
  | j :: l, u, v, p + 1, x, h, hp => by
    obtain ⟨a, y, k1, k2, k3, k4, k5⟩ := h
    rw [List.drop_succ_cons]
    refine k5.drop ?_
    rw [List.map_cons, tgt_eq k1] at hp
    simpa using hp
theorem Trail.mem {arcs : List ArcV} {am : List Int} : ∀ {l : List Nat} {u v : Int}, Trail arcs am u l v → ∀ j ∈ l, ∃ a x, arcs[j]? = some a ∧ am[j]? = some x ∧ 0 < x
  | [], _, _, _, j, hj => by cases hj
  | i :: l, u, v, h, j, hj => by
    obtain ⟨a, y, k1, k2, k3, k4, k5⟩ := h
    rcases List.mem_cons.1 hj with rfl | hj
    · exact ⟨a, y, k1, k2, k3⟩
    · exact k5.mem j hj
theorem nodup_of_map {α β : Type} (f : α → β) {l : List α} (h : (l.map f).Nodup) : l.Nodup :=
  (List.pairwise_map.1 h).imp (fun h e => h (congrArg f e))
/-- What walk finds: a way from the source to the sink, or a circle. -/
structure WalkR (n : NetV) (am : List Int) (l : List Nat) (circle : Bool) : Prop where
  ne : l ≠ []
  ends : ∃ u v, Trail n.arcs am u l v ∧ (circle = true → u = v) ∧ (circle = false → u = n.source ∧ v = n.sink ∧ n.source ∉ l.map (tgt n.arcs))
  nd : (l.map (tgt n.arcs)).Nodup
/-- The walk up to node v: its arcs l, the nodes q. -/
structure WalkI (n : NetV) (am : List Int) (l : List Nat) (v : Int) : Prop where
  trail : Trail n.arcs am n.source l v
  nd : (n.source :: l.map (tgt n.arcs)).Nodup
def nodesOf (n : NetV) (l : List Nat) : List Int := n.source :: l.map (tgt n.arcs)
theorem WalkI.start (n : NetV) (am : List Int) : WalkI n am [] n.source := ⟨rfl, by simp⟩
theorem WalkI.new {n : NetV} {am : List Int} {l : List Nat} {v : Int} (h : WalkI n am l v) {j : Nat} {a : ArcV} {x : Int} (ha : n.arcs[j]? = some a) (hx : am[j]? = some x) (h0 : 0 < x) (hf : a.f = v) (hq : a.t ∉ nodesOf n l) : WalkI n am (l ++ [j]) a.t := by
  refine ⟨h.trail.snoc ha hx h0 hf, ?_⟩
  rw [List.map_append, ← List.cons_append, List.nodup_append]
  refine ⟨h.nd, by simp, fun y hy z hz e => hq ?_⟩
  rw [List.map_singleton, List.mem_singleton, tgt_eq ha] at hz
  rw [← hz, ← e]
  exact hy
theorem WalkI.round {n : NetV} {am : List Int} {l : List Nat} {v : Int} (h : WalkI n am l v) {j p : Nat} {a : ArcV} {x : Int} (ha : n.arcs[j]? = some a) (hx : am[j]? = some x) (h0 : 0 < x) (hf : a.f = v) (hq : (nodesOf n l)[p]? = some a.t) : WalkR n am ((l ++ [j]).drop p) true := by
  have hlt : p < (nodesOf n l).length := (List.getElem?_eq_some_iff.1 hq).1
  have hle : p ≤ l.length := by unfold nodesOf at hlt; simp at hlt; omega
  refine ⟨fun e => ?_, ⟨a.t, a.t, ?_, fun _ => rfl, fun e => absurd e (by decide)⟩, ?_⟩
  · have := congrArg List.length e
    rw [List.length_drop, List.length_append, List.length_singleton, List.length_nil] at this
    omega
  · refine (h.trail.snoc ha hx h0 hf).drop ?_
    rw [List.map_append, ← List.cons_append, List.getElem?_append_left (by unfold nodesOf at hlt; exact hlt)]
    exact hq
  · rw [List.drop_append_of_le_length hle, List.map_append, List.map_drop, List.map_singleton, tgt_eq ha]
    have hnd := h.nd
    have hcut : (n.source :: l.map (tgt n.arcs)).drop p = a.t :: (l.map (tgt n.arcs)).drop p := by
      have := List.drop_eq_getElem_cons hlt
      rw [(List.getElem?_eq_some_iff.1 hq).2] at this
      exact this
    have h2 := hnd.sublist (List.drop_sublist p _)
    rw [hcut, List.nodup_cons] at h2
    rw [List.nodup_append]
    refine ⟨h2.2, by simp, fun y hy z hz e => h2.1 ?_⟩
    rw [List.mem_singleton] at hz
    rw [← hz, ← e]
    exact hy
theorem WalkI.done {n : NetV} (hok : n.Ok) {am : List Int} {l : List Nat} (h : WalkI n am l n.sink) : WalkR n am l false := by
  refine ⟨fun e => ?_, ⟨n.source, n.sink, h.trail, fun e => absurd e (by decide), fun _ => ⟨rfl, rfl, (List.nodup_cons.1 h.nd).1⟩⟩, (List.nodup_cons.1 h.nd).2⟩
  subst e
  exact hok.ne h.trail
theorem Trail.end_ {arcs : List ArcV} {am : List Int} : ∀ {l : List Nat} {u v : Int}, Trail arcs am u l v → v ∈ u :: l.map (tgt arcs)
  | [], u, v, h => by rw [show u = v from h]; simp
  | j :: l, u, v, h => by
    obtain ⟨a, y, k1, k2, k3, k4, k5⟩ := h
    have := k5.end_
    rw [List.map_cons, tgt_eq k1]
    exact List.mem_cons_of_mem _ this
/-- The last arc of the walk leads into its node. -/
theorem Trail.last {arcs : List ArcV} {am : List Int} : ∀ {l : List Nat} {u v : Int}, Trail arcs am u l v → u ≠ v → ∃ (j : Nat) (a : ArcV) (x : Int), arcs[j]? = some a ∧ am[j]? = some x ∧ 0 < x ∧ a.t = v
  | [], u, v, h, hn => absurd h hn
  | [j], u, v, h, _ => by
    obtain ⟨a, y, k1, k2, k3, k4, k5⟩ := h
    exact ⟨j, a, y, k1, k2, k3, k5⟩
  | j :: i :: l, u, v, h, hn => by
    obtain ⟨a, y, k1, k2, k3, k4, k5⟩ := h
    by_cases e : a.t = v
    · exact ⟨j, a, y, k1, k2, k3, e⟩
    · exact k5.last e
/-- Where nothing goes out and something comes in, the sum is less than zero. -/
theorem netSum_out {v : Int} : ∀ {arcs : List ArcV} {am : List Int}, am.length = arcs.length → (∀ x ∈ am, 0 ≤ x) → (∀ (j : Nat) (a : ArcV) (x : Int), arcs[j]? = some a → am[j]? = some x → a.f = v → x ≤ 0) →
    netSum arcs am v ≤ 0 ∧ ((∃ (j : Nat) (a : ArcV) (x : Int), arcs[j]? = some a ∧ am[j]? = some x ∧ 0 < x ∧ a.t = v) → netSum arcs am v < 0)
  | [], am, _, _, _ => by
    refine ⟨by simp [netSum], ?_⟩
    rintro ⟨j, a, x, h, _⟩
    simp at h
  | b :: arcs, [], h, _, _ => by simp at h
  | b :: arcs, y :: am, hl, hp, h => by
    have ih := netSum_out (v := v) (arcs := arcs) (am := am) (by simpa using hl) (fun x hx => hp x (List.mem_cons_of_mem _ hx)) (fun j a x h1 h2 h3 => h (j + 1) a x (by simpa using h1) (by simpa using h2) h3)
    have h0 := hp y (List.mem_cons_self ..)
    have hb := h 0 b y rfl rfl
    simp only [netSum]
    refine ⟨?_, ?_⟩
    · split
      · rename_i e
        have := hb e
        split <;> omega
      · split <;> omega
    · rintro ⟨j, a, x, h1, h2, h3, h4⟩
      cases j with
      | zero =>
        simp at h1 h2
        subst h1 h2
        rw [if_pos h4]
        split
        · rename_i e
          have := hb e
          omega
        · omega
      | succ j =>
        have := ih.2 ⟨j, a, x, by simpa using h1, by simpa using h2, h3, h4⟩
        split
        · rename_i e
          have := hb e
          split <;> omega
        · split <;> omega
/-- A walk that is not at the sink goes on. -/
theorem WalkI.more {n : NetV} (hok : n.Ok) {am : List Int} {left : Int} (hf : IsFl n am left) (hl : 0 < left) {l : List Nat} {v : Int} (h : WalkI n am l v) (hv : v ≠ n.sink) (hr : 0 ≤ v ∧ v < n.nodes) : ∃ (j : Nat) (a : ArcV) (x : Int), n.arcs[j]? = some a ∧ am[j]? = some x ∧ 0 < x ∧ a.f = v := by
  refine Classical.byContradiction fun hc => ?_
  have hno : ∀ (j : Nat) (a : ArcV) (x : Int), n.arcs[j]? = some a → am[j]? = some x → a.f = v → x ≤ 0 := fun j a x h1 h2 h3 => by
    refine Classical.byContradiction fun h4 => hc ⟨j, a, x, h1, h2, by omega, h3⟩
  have hk := netSum_out (v := v) hf.cap.1 (fun x hx => (hf.cap.small hok x hx).1) hno
  by_cases e : v = n.source
  · subst e
    have := hf.src
    omega
  · have h1 := hf.mid v hr.1 hr.2 e hv
    have h2 := hk.2 (h.trail.last (Ne.symm e))
    omega
/-- The amounts with r less along l. -/
def subL (am : List Int) (r : Int) (l : List Nat) : List Int := l.foldl (fun am j => am.set j ((am[j]?).getD 0 - r)) am
theorem subL_snoc (am : List Int) (r : Int) (l : List Nat) (j : Nat) : subL am r (l ++ [j]) = (subL am r l).set j (((subL am r l)[j]?).getD 0 - r) := by
  unfold subL
  rw [List.foldl_append]
  rfl
theorem subL_len (r : Int) : ∀ (l : List Nat) (am : List Int), (subL am r l).length = am.length
  | [], _ => rfl
  | j :: l, am => by
    show (subL (am.set j ((am[j]?).getD 0 - r)) r l).length = _
    rw [subL_len r l, List.length_set]
theorem subL_at {r : Int} : ∀ (l : List Nat) (am : List Int) (j : Nat) (x : Int), l.Nodup → am[j]? = some x → (subL am r l)[j]? = some (if j ∈ l then x - r else x)
  | [], am, j, x, _, hx => by rw [if_neg (by simp)]; exact hx
  | i :: l, am, j, x, hn, hx => by
    obtain ⟨h1, h2⟩ := List.nodup_cons.1 hn
    show (subL (am.set i ((am[i]?).getD 0 - r)) r l)[j]? = _
    by_cases e : i = j
    · subst e
      rw [subL_at l _ i (x - r) h2 (by rw [List.getElem?_set_self (List.getElem?_eq_some_iff.1 hx).1, hx]; rfl), if_neg h1]
      simp
    · rw [subL_at l _ j x h2 (by rw [List.getElem?_set_ne e, hx])]
      have : j ∈ i :: l ↔ j ∈ l := by rw [List.mem_cons]; exact ⟨fun h => h.resolve_left (Ne.symm e), .inr⟩
      simp [this]
theorem sub_cap {arcs : List ArcV} {am : List Int} {r : Int} {l : List Nat} (h : InCap arcs am) (hr : 0 ≤ r) (hn : l.Nodup) (hl : ∀ j ∈ l, ∀ x, am[j]? = some x → r ≤ x) : InCap arcs (subL am r l) := by
  refine ⟨(subL_len r l am).trans h.1, fun j a y ha hy => ?_⟩
  have hj : j < am.length := by rw [h.1]; exact (List.getElem?_eq_some_iff.1 ha).1
  have hx : am[j]? = some am[j] := List.getElem?_eq_getElem hj
  have hb := h.2 j a _ ha hx
  rw [subL_at l am j _ hn hx] at hy
  injection hy with hy
  by_cases e : j ∈ l
  · rw [if_pos e] at hy
    have := hl j e _ hx
    omega
  · rw [if_neg e] at hy
    omega
theorem sub_net {arcs : List ArcV} {r : Int} : ∀ (l : List Nat) (am : List Int) (u v : Int), am.length = arcs.length → (am0 : List Int) → Trail arcs am0 u l v → ∀ x, netSum arcs (subL am r l) x = netSum arcs am x - ((if x = u then r else 0) - (if x = v then r else 0))
  | [], am, u, v, _, am0, h, x => by
    have : u = v := h
    subst this
    show netSum arcs am x = _
    omega
  | j :: l, am, u, v, hl, am0, h, x => by
    obtain ⟨a, y, k1, k2, k3, k4, k5⟩ := h
    obtain ⟨z, hz⟩ : ∃ z, am[j]? = some z := ⟨_, List.getElem?_eq_getElem (by rw [hl]; exact (List.getElem?_eq_some_iff.1 k1).1)⟩
    have ih := sub_net (arcs := arcs) (r := r) l (am.set j (z - r)) a.t v (by rw [List.length_set]; exact hl) am0 k5 x
    have e : subL am r (j :: l) = subL (am.set j (z - r)) r l := by
      show subL (am.set j ((am[j]?).getD 0 - r)) r l = _
      rw [hz]
      rfl
    rw [e, ih, netSum_set _ x k1 hz]
    subst k4
    simp only [eq_comm (a := x)]
    split <;> split <;> split <;> omega
/-- All that the arcs bear. -/
def sumN (am : List Int) : Nat := (am.map Int.toNat).sum
theorem sumN_set : ∀ {am : List Int} {j : Nat} {x : Int} (y : Int), am[j]? = some x → sumN (am.set j y) + x.toNat = sumN am + y.toNat
  | [], j, x, y, h => by simp at h
  | z :: am, 0, x, y, h => by
    simp at h
    subst h
    simp only [List.set_cons_zero, sumN, List.map_cons, List.sum_cons]
    omega
  | z :: am, j + 1, x, y, h => by
    have ih := sumN_set (am := am) (j := j) (x := x) y (by simpa using h)
    simp only [List.set_cons_succ, sumN, List.map_cons, List.sum_cons] at ih ⊢
    omega
theorem sub_sum {r : Int} (hr : 0 < r) : ∀ (l : List Nat) (am : List Int), l.Nodup → (∀ j ∈ l, ∃ x, am[j]? = some x ∧ r ≤ x) → sumN (subL am r l) + l.length ≤ sumN am
  | [], am, _, _ => Nat.le_refl _
  | j :: l, am, hn, h => by
    obtain ⟨h1, h2⟩ := List.nodup_cons.1 hn
    obtain ⟨x, hx, hrx⟩ := h j (List.mem_cons_self ..)
    have e : subL am r (j :: l) = subL (am.set j (x - r)) r l := by
      show subL (am.set j ((am[j]?).getD 0 - r)) r l = _
      rw [hx]
      rfl
    have ih := sub_sum hr l (am.set j (x - r)) h2 (fun i hi => by
      obtain ⟨y, hy, hry⟩ := h i (List.mem_cons_of_mem _ hi)
      exact ⟨y, by rw [List.getElem?_set_ne (fun e : j = i => h1 (by rw [e]; exact hi)), hy], hry⟩)
    have := sumN_set (am := am) (x - r) hx
    rw [e, List.length_cons]
    omega
/-- How many arcs bear something. -/
def posC (am : List Int) : Nat := (am.filter (fun x => decide (0 < x))).length
theorem posC_set : ∀ {am : List Int} {j : Nat} {x : Int} (y : Int), am[j]? = some x → posC (am.set j y) + (if 0 < x then 1 else 0) = posC am + (if 0 < y then 1 else 0)
  | [], j, x, y, h => by simp at h
  | z :: am, 0, x, y, h => by
    simp at h
    subst h
    simp only [List.set_cons_zero, posC, List.filter_cons]
    by_cases h1 : 0 < z <;> by_cases h2 : 0 < y <;> simp [h1, h2]
  | z :: am, j + 1, x, y, h => by
    have ih := posC_set (am := am) (j := j) (x := x) y (by simpa using h)
    simp only [List.set_cons_succ, posC, List.filter_cons] at ih ⊢
    by_cases h1 : 0 < z
    · simp only [h1, decide_true, if_true, List.length_cons]; omega
    · simp only [h1, decide_false, Bool.false_eq_true, if_false]; omega
theorem posC_len (am : List Int) : posC am ≤ am.length := List.length_filter_le _ _
theorem sub_pos {r : Int} (hr : 0 < r) : ∀ (l : List Nat) (am : List Int), l.Nodup → (∀ j ∈ l, ∃ x, am[j]? = some x ∧ r ≤ x) → posC (subL am r l) ≤ posC am ∧ ((∃ j ∈ l, am[j]? = some r) → posC (subL am r l) + 1 ≤ posC am)
  | [], am, _, _ => ⟨Nat.le_refl _, fun ⟨j, hj, _⟩ => by cases hj⟩
  | j :: l, am, hn, h => by
    obtain ⟨h1, h2⟩ := List.nodup_cons.1 hn
    obtain ⟨x, hx, hrx⟩ := h j (List.mem_cons_self ..)
    have e : subL am r (j :: l) = subL (am.set j (x - r)) r l := by
      show subL (am.set j ((am[j]?).getD 0 - r)) r l = _
      rw [hx]
      rfl
    have ih := sub_pos hr l (am.set j (x - r)) h2 (fun i hi => by
      obtain ⟨y, hy, hry⟩ := h i (List.mem_cons_of_mem _ hi)
      exact ⟨y, by rw [List.getElem?_set_ne (fun e : j = i => h1 (by rw [e]; exact hi)), hy], hry⟩)
    have hset := posC_set (am := am) (x - r) hx
    rw [if_pos (by omega)] at hset
    rw [e]
    refine ⟨by split at hset <;> omega, ?_⟩
    rintro ⟨i, hi, hir⟩
    rcases List.mem_cons.1 hi with rfl | hi
    · rw [hx] at hir
      injection hir with hir
      rw [if_neg (by omega)] at hset
      omega
    · have := ih.2 ⟨i, hi, by rw [List.getElem?_set_ne (fun e : j = i => h1 (by rw [e]; exact hi)), hir]⟩
      split at hset <;> omega
end Go.Proofs.Ytpalacfgpcpppaa
