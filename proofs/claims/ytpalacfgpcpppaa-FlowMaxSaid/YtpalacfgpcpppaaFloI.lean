/- Layer 10: plain law of the breadth-first search over the steps that have room. -/
import Derived.Test.YtpalacfgpcpppaaFloH
namespace Go.Proofs.Ytpalacfgpcpppaa
open Go Go.RowKit Go.Maps

/-- The nodes reached, in order, and the step by which each was reached. -/
structure BF where
  q : List Int
  par : Int → Option StV
def visit (s : BF) (x : StV) : BF := if s.par x.dst = none then ⟨s.q ++ [x.dst], fun y => if y = x.dst then some x else s.par y⟩ else s
def bfStart (src : Int) : BF := ⟨[src], fun y => if y = src then some ⟨0, false, src, 0⟩ else none⟩
def bfRow (arcs : List ArcV) (am : List Int) (s : BF) (v : Int) : BF := (stepsL arcs am v).foldl visit s
def bfs (arcs : List ArcV) (am : List Int) (src : Int) : Nat → BF
  | 0 => bfStart src
  | h + 1 => match (bfs arcs am src h).q[h]? with
    | some v => bfRow arcs am (bfs arcs am src h) v
    | none => bfs arcs am src h
def arcAt (arcs : List ArcV) (i : Int) : ArcV := (arcs[i.toNat]?).getD ⟨0, 0, 0, 0⟩
/-- Where a step comes from. -/
def predOf (arcs : List ArcV) (x : StV) : Int := if x.back then (arcAt arcs x.arc).t else (arcAt arcs x.arc).f
theorem stepsL_mem {arcs : List ArcV} {am : List Int} {v : Int} {s : StV} (h : s ∈ stepsL arcs am v) : ∃ (j : Nat) (a : ArcV) (x : Int), arcs[j]? = some a ∧ am[j]? = some x ∧ (a.f = v ∨ a.t = v) ∧ s = mkStep a j x v ∧ 0 < s.room := by
  unfold stepsL at h
  obtain ⟨i, hi, hs⟩ := List.mem_filterMap.1 h
  obtain ⟨j, a, rfl, ha, hv⟩ := adjL_mem.1 hi
  unfold stAt at hs
  rw [Int.toNat_natCast, ha] at hs
  cases hx : am[j]? with
  | none => rw [hx] at hs; cases hs
  | some x =>
    rw [hx] at hs
    simp only at hs
    split at hs
    · injection hs with hs
      exact ⟨j, a, x, ha, hx, hv, hs.symm, by rw [← hs]; assumption⟩
    · cases hs
theorem stepsL_in {arcs : List ArcV} {am : List Int} {v : Int} {j : Nat} {a : ArcV} {x : Int} (ha : arcs[j]? = some a) (hx : am[j]? = some x) (hv : a.f = v ∨ a.t = v) (hr : 0 < (mkStep a j x v).room) : mkStep a j x v ∈ stepsL arcs am v := by
  unfold stepsL
  refine List.mem_filterMap.2 ⟨j, adjL_mem.2 ⟨j, a, rfl, ha, hv⟩, ?_⟩
  unfold stAt
  rw [Int.toNat_natCast, ha, hx]
  simp only
  rw [if_pos hr]
theorem predOf_step {arcs : List ArcV} {am : List Int} {v : Int} {s : StV} (h : s ∈ stepsL arcs am v) : predOf arcs s = v := by
  obtain ⟨j, a, x, ha, _, hv, rfl, _⟩ := stepsL_mem h
  unfold predOf mkStep
  by_cases e : a.t = v
  · rw [if_pos e]
    simp [arcAt, ha, e]
  · rw [if_neg e]
    simp [arcAt, ha]
    rcases hv with h | h
    · exact h
    · exact absurd h e
theorem step_arc {arcs : List ArcV} {am : List Int} {v : Int} {s : StV} (h : s ∈ stepsL arcs am v) : ∃ j : Nat, s.arc = (j : Int) ∧ j < arcs.length := by
  obtain ⟨j, a, x, ha, _, hv, rfl, _⟩ := stepsL_mem h
  refine ⟨j, ?_, (List.getElem?_eq_some_iff.1 ha).1⟩
  unfold mkStep
  split <;> rfl
theorem step_dst {arcs : List ArcV} {am : List Int} {v nodes : Int} {s : StV} (hok : ∀ a ∈ arcs, ArcOk nodes a) (h : s ∈ stepsL arcs am v) : 0 ≤ s.dst ∧ s.dst < nodes := by
  obtain ⟨j, a, x, ha, _, hv, rfl, _⟩ := stepsL_mem h
  have := hok a (List.mem_of_getElem? ha)
  unfold mkStep
  split
  · exact this.f
  · exact this.t
theorem visit_old {s : BF} {x : StV} (h : s.par x.dst ≠ none) : visit s x = s := by unfold visit; rw [if_neg h]
theorem visit_new {s : BF} {x : StV} (h : s.par x.dst = none) : visit s x = ⟨s.q ++ [x.dst], fun y => if y = x.dst then some x else s.par y⟩ := by unfold visit; rw [if_pos h]
theorem visit_pre (s : BF) (x : StV) : s.q <+: (visit s x).q := by
  unfold visit
  split
  · exact List.prefix_append _ _
  · exact List.prefix_rfl
theorem visit_keeps {s : BF} {x : StV} {y : Int} (h : s.par y ≠ none) : (visit s x).par y = s.par y := by
  unfold visit
  split
  · rename_i h1
    show (if y = x.dst then some x else s.par y) = s.par y
    rw [if_neg]
    rintro rfl
    exact h h1
  · rfl
theorem visit_has (s : BF) (x : StV) : (visit s x).par x.dst ≠ none := by
  unfold visit
  split
  · show (if x.dst = x.dst then some x else s.par x.dst) ≠ none
    rw [if_pos rfl]
    simp
  · assumption
theorem visit_len (s : BF) (x : StV) : (visit s x).q.length ≤ s.q.length + 1 := by
  unfold visit
  split
  · simp
  · omega
theorem fold_len (l : List StV) (s : BF) : (l.foldl visit s).q.length ≤ s.q.length + l.length := by
  induction l generalizing s with
  | nil => simp
  | cons x l ih =>
    have h1 := ih (visit s x)
    have h2 := visit_len s x
    simp only [List.foldl_cons, List.length_cons]
    omega
/-- What the search keeps, h nodes done. -/
structure BfI (nodes src : Int) (arcs : List ArcV) (am : List Int) (h : Nat) (s : BF) : Prop where
  nd : s.q.Nodup
  rng : ∀ v ∈ s.q, 0 ≤ v ∧ v < nodes
  dom : ∀ v, s.par v ≠ none ↔ v ∈ s.q
  src0 : s.par src = some ⟨0, false, src, 0⟩
  q0 : s.q[0]? = some src
  tree : ∀ v x, v ≠ src → s.par v = some x → x.dst = v ∧ x ∈ stepsL arcs am (predOf arcs x) ∧ ∃ i j : Nat, i < j ∧ s.q[i]? = some (predOf arcs x) ∧ s.q[j]? = some v
  done : ∀ (i : Nat) v, i < h → s.q[i]? = some v → ∀ x ∈ stepsL arcs am v, s.par x.dst ≠ none
theorem pre_at {l m : List Int} (h : l <+: m) {i : Nat} {v : Int} (hi : l[i]? = some v) : m[i]? = some v := by
  obtain ⟨t, rfl⟩ := h
  have := (List.getElem?_eq_some_iff.1 hi).1
  rw [List.getElem?_append_left this]
  exact hi
section
variable {nodes src : Int} {arcs : List ArcV} {am : List Int} {h : Nat} {s : BF}
theorem BfI.start (hs : 0 ≤ src ∧ src < nodes) : BfI nodes src arcs am 0 (bfStart src) := by
  refine ⟨by simp [bfStart], by simp [bfStart]; exact hs, fun v => ?_, by simp [bfStart], rfl, fun v x hv hx => ?_, fun i v hi => by omega⟩
  · unfold bfStart
    by_cases e : v = src
    · simp [e]
    · simp [e]
  · unfold bfStart at hx
    simp [hv] at hx
theorem BfI.vis (H : BfI nodes src arcs am h s) (hok : ∀ a ∈ arcs, ArcOk nodes a) {v : Int} {x : StV} {i : Nat} (hv : s.q[i]? = some v) (hx : x ∈ stepsL arcs am v) (hl : h ≤ s.q.length) : BfI nodes src arcs am h (visit s x) := by
  by_cases hp : s.par x.dst = none
  · have hnq : x.dst ∉ s.q := fun hm => (H.dom _).2 hm hp
    have hpr := predOf_step hx
    have hsd : x.dst ≠ src := fun e => by
      have := H.src0
      rw [← e, hp] at this
      cases this
    have hil := (List.getElem?_eq_some_iff.1 hv).1
    rw [visit_new hp]
    refine ⟨?_, fun y hy => ?_, fun y => ?_, ?_, ?_, fun y z hy hz => ?_, fun j y hj hy z hz => ?_⟩
    · rw [List.nodup_append]
      exact ⟨H.nd, by simp, fun a ha b hb e => by simp at hb; subst hb; subst e; exact hnq ha⟩
    · rcases List.mem_append.1 hy with hy | hy
      · exact H.rng y hy
      · simp at hy; subst hy; exact step_dst hok hx
    · show (if y = x.dst then some x else s.par y) ≠ none ↔ y ∈ s.q ++ [x.dst]
      by_cases e : y = x.dst
      · simp [e]
      · rw [if_neg e, H.dom]; simp [e]
    · show (if src = x.dst then some x else s.par src) = _
      rw [if_neg (Ne.symm hsd)]
      exact H.src0
    · exact pre_at (List.prefix_append _ _) H.q0
    · have hz' : (if y = x.dst then some x else s.par y) = some z := hz
      by_cases e : y = x.dst
      · rw [if_pos e] at hz'
        injection hz' with hz'
        subst hz'
        rw [hpr]
        exact ⟨e.symm, hx, i, s.q.length, hil, pre_at (List.prefix_append _ _) hv, by rw [e]; simp⟩
      · rw [if_neg e] at hz'
        obtain ⟨h1, h2, j, k, h3, h4, h5⟩ := H.tree y z hy hz'
        exact ⟨h1, h2, j, k, h3, pre_at (List.prefix_append _ _) h4, pre_at (List.prefix_append _ _) h5⟩
    · show (if z.dst = x.dst then some x else s.par z.dst) ≠ none
      have hy' : s.q[j]? = some y := by rw [List.getElem?_append_left (by omega)] at hy; exact hy
      by_cases e : z.dst = x.dst
      · simp [e]
      · rw [if_neg e]
        exact H.done j y hj hy' z hz
  · rw [visit_old hp]
    exact H
theorem BfI.fold (hok : ∀ a ∈ arcs, ArcOk nodes a) {v : Int} (l : List StV) (hl : ∀ x ∈ l, x ∈ stepsL arcs am v) : ∀ {s : BF}, BfI nodes src arcs am h s → s.q[h]? = some v →
    BfI nodes src arcs am h (l.foldl visit s) ∧ (l.foldl visit s).q[h]? = some v ∧ s.q <+: (l.foldl visit s).q ∧ (∀ y, s.par y ≠ none → (l.foldl visit s).par y ≠ none) ∧ ∀ x ∈ l, (l.foldl visit s).par x.dst ≠ none := by
  induction l with
  | nil => exact fun H hv => ⟨H, hv, List.prefix_rfl, fun _ h => h, by simp⟩
  | cons x l ih =>
    intro s H hv
    have hql := (List.getElem?_eq_some_iff.1 hv).1
    have h1 := H.vis hok hv (hl x (List.mem_cons_self ..)) (by omega)
    obtain ⟨a1, a2, a3, a4, a5⟩ := ih (fun y hy => hl y (List.mem_cons_of_mem _ hy)) h1 (pre_at (visit_pre s x) hv)
    refine ⟨a1, a2, (visit_pre s x).trans a3, fun y hy => a4 y (by rw [visit_keeps hy]; exact hy), fun y hy => ?_⟩
    rcases List.mem_cons.1 hy with rfl | hy
    · exact a4 _ (visit_has s y)
    · exact a5 y hy
theorem BfI.row (H : BfI nodes src arcs am h s) (hok : ∀ a ∈ arcs, ArcOk nodes a) {v : Int} (hv : s.q[h]? = some v) : BfI nodes src arcs am (h + 1) (bfRow arcs am s v) := by
  obtain ⟨a1, a2, a3, a4, a5⟩ := BfI.fold hok (stepsL arcs am v) (fun _ hx => hx) H hv
  refine ⟨a1.nd, a1.rng, a1.dom, a1.src0, a1.q0, a1.tree, fun i y hi hy z hz => ?_⟩
  by_cases e : i = h
  · subst e
    have hy' : y = v := by
      have hy2 : ((stepsL arcs am v).foldl visit s).q[i]? = some y := hy
      rw [a2] at hy2
      injection hy2 with e
      exact e.symm
    subst hy'
    exact a5 z hz
  · exact a1.done i y (by omega) hy z hz
end
theorem bfs_inv {nodes src : Int} {arcs : List ArcV} {am : List Int} (hs : 0 ≤ src ∧ src < nodes) (hok : ∀ a ∈ arcs, ArcOk nodes a) (h : Nat) : (∀ k, k < h → ∃ v, (bfs arcs am src k).q[k]? = some v) → BfI nodes src arcs am h (bfs arcs am src h) := by
  induction h with
  | zero => exact fun _ => BfI.start hs
  | succ h ih =>
    intro H
    have h1 := ih (fun k hk => H k (by omega))
    obtain ⟨v, hv⟩ := H h (by omega)
    unfold bfs
    rw [hv]
    exact h1.row hok hv
theorem bfs_next {arcs : List ArcV} {am : List Int} {src : Int} {h : Nat} {v : Int} (hv : (bfs arcs am src h).q[h]? = some v) : bfs arcs am src (h + 1) = bfRow arcs am (bfs arcs am src h) v := by
  show (match (bfs arcs am src h).q[h]? with | some v => bfRow arcs am (bfs arcs am src h) v | none => bfs arcs am src h) = _
  rw [hv]
theorem bfs_stop {arcs : List ArcV} {am : List Int} {src : Int} {h : Nat} (hv : (bfs arcs am src h).q[h]? = none) (k : Nat) (hk : h ≤ k) : bfs arcs am src k = bfs arcs am src h := by
  induction k with
  | zero =>
    obtain rfl : h = 0 := by omega
    rfl
  | succ k ih =>
    by_cases e : h = k + 1
    · rw [e]
    · have h1 := ih (by omega)
      have h2 : (bfs arcs am src k).q[k]? = none := by
        rw [h1]
        rw [List.getElem?_eq_none_iff] at hv ⊢
        omega
      show (match (bfs arcs am src k).q[k]? with | some v => bfRow arcs am (bfs arcs am src k) v | none => bfs arcs am src k) = _
      rw [h2]
      exact h1
theorem nodup_le (n : Nat) : ∀ (l : List Int), l.Nodup → (∀ v ∈ l, 0 ≤ v ∧ v < (n : Int)) → l.length ≤ n := by
  induction n with
  | zero =>
    intro l _ h
    cases l with
    | nil => exact Nat.le_refl _
    | cons x l =>
      have := h x (by simp)
      omega
  | succ n ih =>
    intro l hn h
    by_cases hm : (n : Int) ∈ l
    · have h1 := ih (l.erase (n : Int)) (hn.erase _) (fun x hx => by
        have h2 := (hn.mem_erase_iff).1 hx
        have h3 := h x h2.2
        have h4 := h2.1
        omega)
      rw [List.length_erase_of_mem hm] at h1
      omega
    · have := ih l hn (fun x hx => by
        have h3 := h x hx
        have h4 : x ≠ (n : Int) := fun e => hm (e ▸ hx)
        omega)
      omega
/-- The step by which each node is reached, when all is done. -/
def search (n : NetV) (am : List Int) : Int → Option StV := (bfs n.arcs am n.source n.nodes.toNat).par
theorem BfI.len {nodes src : Int} {arcs : List ArcV} {am : List Int} {h : Nat} {s : BF} (H : BfI nodes src arcs am h s) (hn : 0 ≤ nodes) : (s.q.length : Int) ≤ nodes := by
  have := nodup_le nodes.toNat s.q H.nd (fun v hv => by have := H.rng v hv; omega)
  omega
/-- At the end: the search is what the rounds have reached. -/
theorem search_eq {n : NetV} {am : List Int} (hok : n.Ok) {h : Nat} (hp : ∀ k, k < h → ∃ v, (bfs n.arcs am n.source k).q[k]? = some v) (hs : (bfs n.arcs am n.source h).q[h]? = none) : search n am = (bfs n.arcs am n.source h).par := by
  unfold search
  have H := bfs_inv (nodes := n.nodes) hok.source hok.arcs h hp
  have hl := H.len (by have := hok.nodes; omega)
  have hh : h ≤ n.nodes.toNat := by
    rcases Nat.eq_zero_or_pos h with h0 | h0
    · omega
    · obtain ⟨v, hv⟩ := hp (h - 1) (by omega)
      have h1 := (List.getElem?_eq_some_iff.1 hv).1
      have h2 : (bfs n.arcs am n.source (h - 1)).q.length ≤ (bfs n.arcs am n.source h).q.length := by
        have h3 := bfs_next hv
        rw [show h - 1 + 1 = h from by omega] at h3
        rw [h3]
        have H1 := bfs_inv (nodes := n.nodes) hok.source hok.arcs (h - 1) (fun k hk => hp k (by omega))
        obtain ⟨_, _, a3, _⟩ := BfI.fold hok.arcs (stepsL n.arcs am v) (fun _ hx => hx) H1 hv
        exact a3.length_le
      omega
  rw [bfs_stop hs _ hh]
end Go.Proofs.Ytpalacfgpcpppaa
