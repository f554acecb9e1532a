/- Layer 10: plain law of the greatest flow: augmenting ways, flows, cuts. -/
import Derived.Test.YtpalacfgpcpppaaFloI
namespace Go.Proofs.Ytpalacfgpcpppaa
open Go Go.RowKit Go.Maps

/-- Step s goes over its arc from u. -/
def Edge (arcs : List ArcV) (s : StV) (u : Int) : Prop := ∃ (j : Nat) (a : ArcV), s.arc = (j : Int) ∧ arcs[j]? = some a ∧ ((s.back = true ∧ a.t = u ∧ a.f = s.dst) ∨ (s.back = false ∧ a.f = u ∧ a.t = s.dst))
theorem stepsL_edge {arcs : List ArcV} {am : List Int} {u : Int} {s : StV} (h : s ∈ stepsL arcs am u) : Edge arcs s u := by
  obtain ⟨j, a, x, ha, _, hv, rfl, _⟩ := stepsL_mem h
  refine ⟨j, a, ?_, ha, ?_⟩
  · unfold mkStep; split <;> rfl
  · unfold mkStep
    by_cases e : a.t = u
    · rw [if_pos e]; exact .inl ⟨rfl, e, rfl⟩
    · rw [if_neg e]
      rcases hv with h | h
      · exact .inr ⟨rfl, h, rfl⟩
      · exact absurd h e
theorem Edge.pred {arcs : List ArcV} {s : StV} {u : Int} (h : Edge arcs s u) : predOf arcs s = u := by
  obtain ⟨j, a, h1, h2, h3⟩ := h
  unfold predOf arcAt
  rw [h1, Int.toNat_natCast, h2]
  rcases h3 with ⟨h4, h5, _⟩ | ⟨h4, h5, _⟩
  · rw [h4]; exact h5
  · rw [h4]; exact h5
/-- The way by which v was reached, from its end. -/
def PathTo (n : NetV) (par : Int → Option StV) : Int → List StV → Prop
  | v, [] => v = n.source
  | v, s :: l => v ≠ n.source ∧ par v = some s ∧ PathTo n par (predOf n.arcs s) l
theorem PathTo.det {n : NetV} {par : Int → Option StV} : ∀ {l l' : List StV} {v : Int}, PathTo n par v l → PathTo n par v l' → l = l'
  | [], [], _, _, _ => rfl
  | [], _ :: _, _, h, h' => absurd h h'.1
  | _ :: _, [], _, h, h' => absurd h' h.1
  | s :: l, s' :: l', v, h, h' => by
    have e : s = s' := by have := h.2.1.symm.trans h'.2.1; injection this
    subst e
    rw [PathTo.det h.2.2 h'.2.2]
/-- u was reached ahead of v. -/
def Ahead (q : List Int) (u v : Int) : Prop := ∃ i j : Nat, i < j ∧ q[i]? = some u ∧ q[j]? = some v
theorem idx_one {q : List Int} (hn : q.Nodup) {i j : Nat} {v : Int} (hi : q[i]? = some v) (hj : q[j]? = some v) : i = j := by
  obtain ⟨h1, h2⟩ := List.getElem?_eq_some_iff.1 hi
  obtain ⟨h3, h4⟩ := List.getElem?_eq_some_iff.1 hj
  exact (List.getElem_inj hn).1 (h2.trans h4.symm)
theorem Ahead.trans {q : List Int} (hn : q.Nodup) {u v x : Int} (h : Ahead q u v) (k : Ahead q v x) : Ahead q u x := by
  obtain ⟨i, j, h1, h2, h3⟩ := h
  obtain ⟨i', j', k1, k2, k3⟩ := k
  have := idx_one hn h3 k2
  exact ⟨i, j', by omega, h2, k3⟩
theorem Ahead.irr {q : List Int} (hn : q.Nodup) {v : Int} (h : Ahead q v v) : False := by
  obtain ⟨i, j, h1, h2, h3⟩ := h
  have := idx_one hn h2 h3
  omega
theorem good_aux {n : NetV} {am : List Int} {h : Nat} {s : BF} (H : BfI n.nodes n.source n.arcs am h s) : ∀ (l : List StV) (v : Int), PathTo n s.par v l →
    (∀ t ∈ l, t ∈ stepsL n.arcs am (predOf n.arcs t) ∧ (t.dst = v ∨ Ahead s.q t.dst v) ∧ Ahead s.q (predOf n.arcs t) t.dst) ∧ l.Pairwise (fun s t => s.arc ≠ t.arc)
  | [], _, _ => ⟨fun t ht => absurd ht (by simp), List.Pairwise.nil⟩
  | x :: l, v, hp => by
    obtain ⟨h1, h2, h3⟩ := H.tree v x hp.1 hp.2.1
    obtain ⟨k1, k2⟩ := good_aux H l _ hp.2.2
    have hlt : Ahead s.q (predOf n.arcs x) v := by obtain ⟨i, j, a, b, c⟩ := h3; exact ⟨i, j, a, b, c⟩
    have hall : ∀ t ∈ l, Ahead s.q t.dst v := fun t ht => by
      rcases (k1 t ht).2.1 with e | e
      · rw [e]; exact hlt
      · exact e.trans H.nd hlt
    refine ⟨fun t ht => ?_, List.pairwise_cons.2 ⟨fun t ht e => ?_, k2⟩⟩
    · rcases List.mem_cons.1 ht with rfl | ht
      · exact ⟨h2, .inl h1, by rw [h1]; exact hlt⟩
      · exact ⟨(k1 t ht).1, .inr (hall t ht), (k1 t ht).2.2⟩
    · -- the ends of one arc
      obtain ⟨j, a, a1, a2, a3⟩ := stepsL_edge h2
      obtain ⟨j', a', b1, b2, b3⟩ := stepsL_edge (k1 t ht).1
      have hj : j = j' := by rw [a1, b1] at e; omega
      subst hj
      rw [a2] at b2
      injection b2 with b2
      subst b2
      have q1 := hall t ht
      have q2 := (k1 t ht).2.2.trans H.nd q1
      rw [← h1] at q1 q2
      have c : x.dst = t.dst ∨ x.dst = predOf n.arcs t := by
        rcases a3 with ⟨_, _, a5⟩ | ⟨_, _, a5⟩ <;> rcases b3 with ⟨_, b4, b5⟩ | ⟨_, b4, b5⟩
        · left; rw [← a5, b5]
        · right; rw [← a5, b4]
        · right; rw [← a5, b4]
        · left; rw [← a5, b5]
      rcases c with c | c
      · rw [← c] at q1; exact q1.irr H.nd
      · rw [← c] at q2; exact q2.irr H.nd
theorem path_exists {n : NetV} {am : List Int} {h : Nat} {s : BF} (H : BfI n.nodes n.source n.arcs am h s) : ∀ (j : Nat) (v : Int), s.q[j]? = some v → ∃ l, PathTo n s.par v l ∧ l.length ≤ j := by
  intro j
  induction j using Nat.strongRecOn with
  | _ j ih =>
    intro v hv
    by_cases e : v = n.source
    · exact ⟨[], e, by simp⟩
    · have hd : s.par v ≠ none := (H.dom v).2 (List.mem_of_getElem? hv)
      cases hp : s.par v with
      | none => exact absurd hp hd
      | some x =>
        obtain ⟨h1, h2, i, j', h3, h4, h5⟩ := H.tree v x e hp
        have := idx_one H.nd h5 hv
        obtain ⟨l, hl, hle⟩ := ih i (by omega) _ h4
        exact ⟨x :: l, ⟨e, hp, hl⟩, by simp; omega⟩
/-- The least room of a way. -/
def minR (r : Int) (l : List StV) : Int := l.foldl (fun r s => min r s.room) r
theorem minR_le : ∀ (l : List StV) (r : Int), minR r l ≤ r ∧ ∀ s ∈ l, minR r l ≤ s.room
  | [], r => ⟨Int.le_refl _, fun s hs => by cases hs⟩
  | x :: l, r => by
    have h := minR_le l (min r x.room)
    refine ⟨Int.le_trans h.1 (Int.min_le_left ..), fun s hs => ?_⟩
    rcases List.mem_cons.1 hs with rfl | hs
    · exact Int.le_trans h.1 (Int.min_le_right ..)
    · exact h.2 s hs
theorem minR_pos : ∀ (l : List StV) (r : Int), 0 < r → (∀ s ∈ l, 0 < s.room) → 0 < minR r l
  | [], _, h, _ => h
  | x :: l, r, h, hl => minR_pos l (min r x.room) (by have := hl x (List.mem_cons_self ..); omega) (fun s hs => hl s (List.mem_cons_of_mem _ hs))
/-- The amounts with r more along a way. -/
def augS (am : List Int) (r : Int) (s : StV) : List Int := am.set s.arc.toNat ((am[s.arc.toNat]?).getD 0 + if s.back then -r else r)
def augL (am : List Int) (r : Int) (l : List StV) : List Int := l.foldl (fun am s => augS am r s) am
theorem augL_len (r : Int) : ∀ (l : List StV) (am : List Int), (augL am r l).length = am.length
  | [], _ => rfl
  | s :: l, am => by
    show (augL (augS am r s) r l).length = _
    rw [augL_len r l]
    unfold augS
    rw [List.length_set]
theorem augL_snoc (am : List Int) (r : Int) (l : List StV) (s : StV) : augL am r (l ++ [s]) = augS (augL am r l) r s := by
  unfold augL
  rw [List.foldl_append]
  rfl
theorem augL_at {r : Int} : ∀ (l : List StV) (am : List Int) (j : Nat), l.Pairwise (fun s t => s.arc ≠ t.arc) → (∀ s ∈ l, 0 ≤ s.arc) → j < am.length →
    ((∀ s ∈ l, s.arc ≠ (j : Int)) ∧ (augL am r l)[j]? = am[j]?) ∨ ∃ s ∈ l, s.arc = (j : Int) ∧ (augL am r l)[j]? = some ((am[j]?).getD 0 + if s.back then -r else r)
  | [], am, j, _, _, _ => .inl ⟨fun s hs => by (cases hs), rfl⟩
  | x :: l, am, j, hp, h0, hj => by
    obtain ⟨p1, p2⟩ := List.pairwise_cons.1 hp
    have hj' : j < (augS am r x).length := by unfold augS; rw [List.length_set]; exact hj
    have hx0 := h0 x (List.mem_cons_self ..)
    have ih := augL_at (r := r) l (augS am r x) j p2 (fun s hs => h0 s (List.mem_cons_of_mem _ hs)) hj'
    by_cases e : x.arc = (j : Int)
    · have hn : ∀ s ∈ l, s.arc ≠ (j : Int) := fun s hs he => p1 s hs (e.trans he.symm)
      rcases ih with ⟨_, h2⟩ | ⟨s, hs, h2, _⟩
      · right
        refine ⟨x, List.mem_cons_self .., e, ?_⟩
        show (augL (augS am r x) r l)[j]? = _
        rw [h2]
        unfold augS
        rw [e, Int.toNat_natCast, List.getElem?_set_self hj]
      · exact absurd h2 (hn s hs)
    · have hne : x.arc.toNat ≠ j := by omega
      have hs0 : (augS am r x)[j]? = am[j]? := by unfold augS; rw [List.getElem?_set_ne hne]
      rcases ih with ⟨h1, h2⟩ | ⟨s, hs, h1, h2⟩
      · left
        refine ⟨fun s hs => ?_, ?_⟩
        · rcases List.mem_cons.1 hs with rfl | hs
          · exact e
          · exact h1 s hs
        · show (augL (augS am r x) r l)[j]? = _
          rw [h2, hs0]
      · right
        refine ⟨s, List.mem_cons_of_mem _ hs, h1, ?_⟩
        show (augL (augS am r x) r l)[j]? = _
        rw [h2, hs0]
/-- The amounts lie within the capacities. -/
def InCap (arcs : List ArcV) (am : List Int) : Prop := am.length = arcs.length ∧ ∀ (j : Nat) (a : ArcV) (x : Int), arcs[j]? = some a → am[j]? = some x → 0 ≤ x ∧ x ≤ a.c
theorem InCap.small {n : NetV} (hok : n.Ok) {am : List Int} (h : InCap n.arcs am) : Small am := fun x hx => by
  obtain ⟨j, hj, rfl⟩ := List.getElem_of_mem hx
  have hja : j < n.arcs.length := by rw [← h.1]; exact hj
  have h1 := h.2 j _ _ (List.getElem?_eq_getElem hja) (List.getElem?_eq_getElem hj)
  have h2 := (hok.arcs _ (List.getElem_mem hja)).c
  omega
theorem aug_cap {n : NetV} {am : List Int} {r : Int} {l : List StV} (h : InCap n.arcs am) (hr : 0 ≤ r) (hs : ∀ s ∈ l, (∃ u, s ∈ stepsL n.arcs am u) ∧ r ≤ s.room) (hp : l.Pairwise (fun s t => s.arc ≠ t.arc)) : InCap n.arcs (augL am r l) := by
  refine ⟨(augL_len r l am).trans h.1, fun j a y ha hy => ?_⟩
  have hj : j < am.length := by rw [h.1]; exact (List.getElem?_eq_some_iff.1 ha).1
  have h0 : ∀ s ∈ l, 0 ≤ s.arc := fun s hm => by
    obtain ⟨⟨u, hu⟩, _⟩ := hs s hm
    obtain ⟨j', e, _⟩ := step_arc hu
    omega
  obtain ⟨x, hx⟩ : ∃ x, am[j]? = some x := ⟨_, List.getElem?_eq_getElem hj⟩
  have hb := h.2 j a x ha hx
  rcases augL_at (r := r) l am j hp h0 hj with ⟨_, h2⟩ | ⟨s, hm, h1, h2⟩
  · rw [h2] at hy
    exact h.2 j a y ha hy
  · obtain ⟨⟨u, hu⟩, hrm⟩ := hs s hm
    obtain ⟨j', a', x', ha', hx', _, rfl, _⟩ := stepsL_mem hu
    have hjj : j' = j := by
      unfold mkStep at h1
      split at h1 <;> (simp at h1; omega)
    subst hjj
    rw [ha] at ha'
    injection ha' with ha'
    subst ha'
    rw [hx] at hx' h2
    injection hx' with hx'
    subst hx'
    rw [h2] at hy
    injection hy with hy
    unfold mkStep at hy hrm
    by_cases e : a.t = u
    · rw [if_pos e] at hy hrm
      simp at hy hrm
      omega
    · rw [if_neg e] at hy hrm
      simp at hy hrm
      omega
theorem netSum_set : ∀ {arcs : List ArcV} {am : List Int} {j : Nat} {a : ArcV} {x : Int} (y v : Int), arcs[j]? = some a → am[j]? = some x →
    netSum arcs (am.set j y) v = netSum arcs am v + ((if a.f = v then y - x else 0) - (if a.t = v then y - x else 0))
  | [], _, _, _, _, _, _, h, _ => by simp at h
  | _ :: _, [], _, _, _, _, _, _, h => by simp at h
  | b :: arcs, z :: am, 0, a, x, y, v, h, h' => by
    simp at h h'
    subst h h'
    simp only [List.set_cons_zero, netSum]
    split <;> split <;> omega
  | b :: arcs, z :: am, j + 1, a, x, y, v, h, h' => by
    have ih := netSum_set (arcs := arcs) (am := am) (j := j) (a := a) (x := x) y v (by simpa using h) (by simpa using h')
    simp only [List.set_cons_succ, netSum, ih]
    omega
theorem aug_net {n : NetV} {r : Int} : ∀ (l : List StV) (am : List Int) (v : Int), am.length = n.arcs.length → (∀ s ∈ l, ∃ u, Edge n.arcs s u) → (par : Int → Option StV) → (∀ w s, par w = some s → w ≠ n.source → s.dst = w) → PathTo n par v l →
    ∀ x, netSum n.arcs (augL am r l) x = netSum n.arcs am x + ((if x = n.source then r else 0) - (if x = v then r else 0))
  | [], am, v, _, _, par, _, hp, x => by
    have : v = n.source := hp
    subst this
    show netSum n.arcs am x = _
    split <;> omega
  | s :: l, am, v, hl, he, par, hd, hp, x => by
    have h1 : s.dst = v := hd v s hp.2.1 hp.1
    obtain ⟨u, hu⟩ := he s (List.mem_cons_self ..)
    have hpu := hu.pred
    have hlen : (augS am r s).length = n.arcs.length := by unfold augS; rw [List.length_set]; exact hl
    have ih := aug_net (n := n) (r := r) l (augS am r s) (predOf n.arcs s) hlen (fun t ht => he t (List.mem_cons_of_mem _ ht)) par hd hp.2.2 x
    show netSum n.arcs (augL (augS am r s) r l) x = _
    rw [ih]
    obtain ⟨j, a, a1, a2, a3⟩ := hu
    obtain ⟨z, hz⟩ : ∃ z, am[j]? = some z := ⟨_, List.getElem?_eq_getElem (by rw [hl]; exact (List.getElem?_eq_some_iff.1 a2).1)⟩
    unfold augS
    rw [a1, Int.toNat_natCast, hz, netSum_set _ x a2 hz, hpu]
    subst h1
    rcases a3 with ⟨b1, b2, b3⟩ | ⟨b1, b2, b3⟩
    · rw [b1, b2, b3]
      simp only [if_true, Option.getD_some, eq_comm (a := u), eq_comm (a := s.dst)]
      split <;> split <;> split <;> omega
    · rw [b1, b2, b3]
      simp only [Bool.false_eq_true, if_false, Option.getD_some, eq_comm (a := u), eq_comm (a := s.dst)]
      split <;> split <;> split <;> omega
/-- Amounts that are a flow of value. -/
structure IsFl (n : NetV) (am : List Int) (val : Int) : Prop where
  cap : InCap n.arcs am
  mid : ∀ v, 0 ≤ v → v < n.nodes → v ≠ n.source → v ≠ n.sink → netSum n.arcs am v = 0
  src : netSum n.arcs am n.source = val
theorem netSum_zero (k : Nat) (arcs : List ArcV) (v : Int) : netSum arcs (List.replicate k 0) v = 0 := by
  induction k generalizing arcs with
  | zero => cases arcs <;> rfl
  | succ k ih =>
    cases arcs with
    | nil => rfl
    | cons a l =>
      simp only [List.replicate_succ, netSum, ih]
      split <;> split <;> omega
theorem IsFl.zero {n : NetV} (hok : n.Ok) : IsFl n (List.replicate n.arcs.length 0) 0 := by
  refine ⟨⟨by simp, fun j a x ha hx => ?_⟩, fun v _ _ _ _ => netSum_zero _ _ v, netSum_zero _ _ _⟩
  have h1 := (hok.arcs a (List.mem_of_getElem? ha)).c
  have : x = 0 := List.eq_of_mem_replicate (List.mem_of_getElem? hx)
  omega
theorem IsFl.bound {n : NetV} (hok : n.Ok) {am : List Int} {val : Int} (h : IsFl n am val) : -4398046511104000 ≤ val ∧ val ≤ 4398046511104000 := by
  have h1 := netSum_small (l := n.arcs) (h.cap.small hok) n.source
  have h2 := h.cap.1
  have h3 := hok.len
  rw [h.src] at h1
  omega
theorem search_stop {n : NetV} (hok : n.Ok) (am : List Int) : ∃ h : Nat, (∀ k, k < h → ∃ v, (bfs n.arcs am n.source k).q[k]? = some v) ∧ (bfs n.arcs am n.source h).q[h]? = none := by
  have key : ∀ k : Nat, (∃ h : Nat, (∀ k, k < h → ∃ v, (bfs n.arcs am n.source k).q[k]? = some v) ∧ (bfs n.arcs am n.source h).q[h]? = none) ∨ (∀ i, i < k → ∃ v, (bfs n.arcs am n.source i).q[i]? = some v) := by
    intro k
    induction k with
    | zero => exact .inr (fun i hi => by omega)
    | succ k ih =>
      rcases ih with h | h1
      · exact .inl h
      · cases hv : (bfs n.arcs am n.source k).q[k]? with
        | some v =>
          right
          intro i hi
          by_cases e : i = k
          · subst e; exact ⟨v, hv⟩
          · exact h1 i (by omega)
        | none => exact .inl ⟨k, h1, hv⟩
  rcases key (n.nodes.toNat + 1) with h | h
  · exact h
  · exfalso
    have H := (bfs_inv (nodes := n.nodes) (am := am) hok.source hok.arcs n.nodes.toNat (fun k hk => h k (by omega))).len (by have := hok.nodes; omega)
    obtain ⟨v, hv⟩ := h n.nodes.toNat (by omega)
    have := (List.getElem?_eq_some_iff.1 hv).1
    omega
/-- The search, all done. -/
theorem search_inv {n : NetV} (hok : n.Ok) (am : List Int) : ∃ (h : Nat) (s : BF), BfI n.nodes n.source n.arcs am h s ∧ s.q.length ≤ h ∧ search n am = s.par := by
  obtain ⟨h, h1, h2⟩ := search_stop hok am
  exact ⟨h, _, bfs_inv (nodes := n.nodes) hok.source hok.arcs h h1, List.getElem?_eq_none_iff.1 h2, search_eq hok h1 h2⟩
/-- What holds of the search's steps. -/
theorem search_path {n : NetV} (hok : n.Ok) (am : List Int) {v : Int} (hv : search n am v ≠ none) : ∃ l, PathTo n (search n am) v l ∧ l.length ≤ 400 ∧ (∀ s ∈ l, ∃ u, s ∈ stepsL n.arcs am u) ∧ l.Pairwise (fun s t => s.arc ≠ t.arc) := by
  obtain ⟨h, s, H, _, he⟩ := search_inv hok am
  rw [he] at hv ⊢
  obtain ⟨j, hj⟩ := List.getElem?_of_mem ((H.dom v).1 hv)
  obtain ⟨l, hl, hle⟩ := path_exists H j v hj
  have h1 := H.len (by have := hok.nodes; omega)
  have h2 := (List.getElem?_eq_some_iff.1 hj).1
  have h3 := hok.nodes
  obtain ⟨k1, k2⟩ := good_aux H l v hl
  exact ⟨l, hl, by omega, fun t ht => ⟨_, (k1 t ht).1⟩, k2⟩
theorem search_dst {n : NetV} (hok : n.Ok) (am : List Int) {v : Int} {s : StV} (h : search n am v = some s) (hv : v ≠ n.source) : s.dst = v := by
  obtain ⟨_, _, H, _, he⟩ := search_inv hok am
  rw [he] at h
  exact (H.tree v s hv h).1
theorem search_rng {n : NetV} (hok : n.Ok) (am : List Int) {v : Int} (h : search n am v ≠ none) : 0 ≤ v ∧ v < n.nodes := by
  obtain ⟨_, _, H, _, he⟩ := search_inv hok am
  rw [he] at h
  exact H.rng v ((H.dom v).1 h)
theorem search_src {n : NetV} (hok : n.Ok) (am : List Int) : search n am n.source ≠ none := by
  obtain ⟨_, _, H, _, he⟩ := search_inv hok am
  rw [he, H.src0]
  simp
theorem search_closed {n : NetV} (hok : n.Ok) (am : List Int) {v : Int} (h : search n am v ≠ none) {s : StV} (hs : s ∈ stepsL n.arcs am v) : search n am s.dst ≠ none := by
  obtain ⟨k, _, H, hl, he⟩ := search_inv hok am
  rw [he] at h ⊢
  obtain ⟨j, hj⟩ := List.getElem?_of_mem ((H.dom v).1 h)
  exact H.done j v (by have := (List.getElem?_eq_some_iff.1 hj).1; omega) hj s hs
/-- One augmentation. -/
theorem aug_flow {n : NetV} (hok : n.Ok) {am : List Int} {val r : Int} {l : List StV} (h : IsFl n am val) (hp : PathTo n (search n am) n.sink l) (hr : 0 ≤ r) (hs : ∀ s ∈ l, (∃ u, s ∈ stepsL n.arcs am u) ∧ r ≤ s.room) (hpw : l.Pairwise (fun s t => s.arc ≠ t.arc)) : IsFl n (augL am r l) (val + r) := by
  have hnet := aug_net (n := n) (r := r) l am n.sink h.cap.1 (fun s hm => by obtain ⟨u, hu⟩ := (hs s hm).1; exact ⟨u, stepsL_edge hu⟩) (search n am) (fun w s hw hne => search_dst hok am hw hne) hp
  refine ⟨aug_cap h.cap hr hs hpw, fun v h1 h2 h3 h4 => ?_, ?_⟩
  · rw [hnet v, h.mid v h1 h2 h3 h4, if_neg h3, if_neg h4]
    rfl
  · rw [hnet, h.src, if_pos rfl, if_neg hok.ne]
    omega
/-- A run of Max: from amounts of a value to the greatest ones. -/
inductive MaxRun (n : NetV) : List Int → Int → List Int → Int → Prop
  | done {am : List Int} {val : Int} : search n am n.sink = none → MaxRun n am val am val
  | step {am am' : List Int} {val val' : Int} {s : StV} {l : List StV} : PathTo n (search n am) n.sink (s :: l) → MaxRun n (augL am (minR s.room (s :: l)) (s :: l)) (val + minR s.room (s :: l)) am' val' → MaxRun n am val am' val'
theorem MaxRun.det {n : NetV} {am am1 am2 : List Int} {val v1 v2 : Int} (h : MaxRun n am val am1 v1) : MaxRun n am val am2 v2 → am1 = am2 ∧ v1 = v2 := by
  induction h with
  | done h =>
    intro k
    cases k with
    | done _ => exact ⟨rfl, rfl⟩
    | step k1 _ =>
      have := k1.2.1
      rw [h] at this
      cases this
  | step h1 _ ih =>
    intro k
    cases k with
    | done k1 =>
      have := h1.2.1
      rw [k1] at this
      cases this
    | step k1 k2 =>
      have e := h1.det k1
      injection e with e1 e2
      subst e1 e2
      exact ih k2
end Go.Proofs.Ytpalacfgpcpppaa
