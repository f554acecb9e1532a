/- Layer 10: the network over slots, in plain words; it is valid; more slots never make the greatest value smaller. -/
import Derived.Test.YtpalacfgpcpppaaFloN
namespace Go.Proofs.Ytpalacfgpcpppaa
open Go Go.RowKit
set_option maxRecDepth 100000

def expArc (n : NetV) (t : Int) (a : ArcV) : ArcV := ⟨t * n.nodes + a.f, (t + a.d) * n.nodes + a.t, a.c, 0⟩
def holdArc (n : NetV) (t v : Int) : ArcV := ⟨t * n.nodes + v, (t + 1) * n.nodes + v, n.hold, 0⟩
def layA (n : NetV) (S t : Int) (k : Nat) : List ArcV := ((n.arcs.take k).filter (fun a => decide (t + a.d ≤ S))).map (expArc n t)
def layH (n : NetV) (t : Int) (k : Nat) : List ArcV := (List.range k).map (fun v : Nat => holdArc n t v)
def holdB (n : NetV) (S t : Int) : Bool := decide (t < S) && decide (0 < n.hold)
def layer (n : NetV) (S t : Int) : List ArcV := layA n S t n.arcs.length ++ if holdB n S t = true then layH n t n.nodes.toNat else []
def expL (n : NetV) (S : Int) : Nat → List ArcV
  | 0 => []
  | t + 1 => expL n S t ++ layer n S t
/-- The network over S slots. -/
def NetV.exp (n : NetV) (S : Nat) (sl : Sl) : NetV := ⟨n.nodes * ((S : Int) + 1), n.source, (S : Int) * n.nodes + n.sink, expL n S (S + 1), 0, sl⟩
def NetV.fits (n : NetV) (S : Nat) : Prop := n.nodes * ((S : Int) + 1) ≤ 400 ∧ (expL n S (S + 1)).length ≤ 4000

theorem layA_zero (n : NetV) (S t : Int) : layA n S t 0 = [] := rfl
theorem layA_next {n : NetV} {S t : Int} {k : Nat} {a : ArcV} (h : n.arcs[k]? = some a) : layA n S t (k + 1) = layA n S t k ++ if t + a.d ≤ S then [expArc n t a] else [] := by
  unfold layA
  rw [List.take_add_one, h]
  show List.map _ (List.filter _ (_ ++ [a])) = _
  rw [List.filter_append, List.map_append]
  congr 1
  by_cases e : t + a.d ≤ S
  · simp [e]
  · simp [e]
theorem layH_zero (n : NetV) (t : Int) : layH n t 0 = [] := rfl
theorem layH_next (n : NetV) (t : Int) (k : Nat) : layH n t (k + 1) = layH n t k ++ [holdArc n t k] := by
  unfold layH
  rw [List.range_succ, List.map_append]
  rfl
theorem layA_len (n : NetV) (S t : Int) (k : Nat) : (layA n S t k).length ≤ n.arcs.length := by
  unfold layA
  rw [List.length_map]
  refine Nat.le_trans (List.length_filter_le _ _) ?_
  rw [List.length_take]
  omega
theorem layH_len (n : NetV) (t : Int) (k : Nat) : (layH n t k).length = k := by simp [layH]
theorem layer_len (n : NetV) (S t : Int) : (layer n S t).length ≤ n.arcs.length + n.nodes.toNat := by
  unfold layer
  have h1 := layA_len n S t n.arcs.length
  rw [List.length_append]
  split
  · rw [layH_len]; omega
  · simp; omega
theorem expL_len (n : NetV) (S : Int) : ∀ t : Nat, (expL n S t).length ≤ t * (n.arcs.length + n.nodes.toNat)
  | 0 => by simp [expL]
  | t + 1 => by
    have h1 := expL_len n S t
    have h2 := layer_len n S t
    rw [expL, List.length_append, Nat.succ_mul]
    omega
/-- A node of a layer lies below the next layer. -/
theorem lay_lt {t u K x : Int} (hK : 0 ≤ K) (ht : t < u) (hx : x < K) : t * K + x < u * K := by
  have h1 : (t + 1) * K ≤ u * K := Int.mul_le_mul_of_nonneg_right (by omega) hK
  rw [Int.add_mul] at h1
  omega
theorem lay_nonneg {t K x : Int} (hK : 0 ≤ K) (ht : 0 ≤ t) (hx : 0 ≤ x) : 0 ≤ t * K + x := by
  have := Int.mul_nonneg ht hK
  omega
theorem expArc_ok {n : NetV} (hok : n.Ok) {S t : Int} (ht : 0 ≤ t) {a : ArcV} (ha : a ∈ n.arcs) (hd : t + a.d ≤ S) : ArcOk (n.nodes * (S + 1)) (expArc n t a) := by
  have h := hok.arcs a ha
  have hn := hok.nodes
  have hf := h.f
  have hT := h.t
  have hd0 := h.d
  refine ⟨⟨lay_nonneg (by omega) ht hf.1, ?_⟩, ⟨lay_nonneg (by omega) (by omega) hT.1, ?_⟩, ?_, h.c, by simp [expArc]⟩
  · rw [Int.mul_comm]; exact lay_lt (by omega) (by omega) hf.2
  · rw [Int.mul_comm]; exact lay_lt (by omega) (by omega) hT.2
  · intro e
    have e' : t * n.nodes + a.f = (t + a.d) * n.nodes + a.t := e
    by_cases hz : a.d = 0
    · rw [hz, Int.add_zero] at e'
      exact h.ne (by omega)
    · have h1 : t * n.nodes + a.f < (t + a.d) * n.nodes := lay_lt (by omega) (by omega) hf.2
      omega
theorem holdArc_ok {n : NetV} (hok : n.Ok) {S t v : Int} (ht : 0 ≤ t) (hts : t < S) (hv : 0 ≤ v ∧ v < n.nodes) : ArcOk (n.nodes * (S + 1)) (holdArc n t v) := by
  have hn := hok.nodes
  refine ⟨⟨lay_nonneg (by omega) ht hv.1, ?_⟩, ⟨lay_nonneg (by omega) (by omega) hv.1, ?_⟩, ?_, hok.hold, by simp [holdArc]⟩
  · rw [Int.mul_comm]; exact lay_lt (by omega) (by omega) hv.2
  · rw [Int.mul_comm]; exact lay_lt (by omega) (by omega) hv.2
  · intro e
    have e' : t * n.nodes + v = (t + 1) * n.nodes + v := e
    rw [Int.add_mul] at e'
    omega
theorem layA_mem {n : NetV} {S t : Int} {k : Nat} {x : ArcV} (h : x ∈ layA n S t k) : ∃ a ∈ n.arcs, t + a.d ≤ S ∧ x = expArc n t a := by
  obtain ⟨a, ha, rfl⟩ := List.mem_map.1 h
  obtain ⟨h1, h2⟩ := List.mem_filter.1 ha
  exact ⟨a, List.mem_of_mem_take h1, of_decide_eq_true h2, rfl⟩
theorem layH_mem {n : NetV} {t : Int} {k : Nat} {x : ArcV} (h : x ∈ layH n t k) : ∃ v : Nat, v < k ∧ x = holdArc n t v := by
  obtain ⟨v, hv, rfl⟩ := List.mem_map.1 h
  exact ⟨v, List.mem_range.1 hv, rfl⟩
theorem holdB_iff {n : NetV} {S t : Int} : holdB n S t = true ↔ t < S ∧ 0 < n.hold := by simp [holdB]
theorem layer_mem {n : NetV} {S t : Int} {x : ArcV} (h : x ∈ layer n S t) : (∃ a ∈ n.arcs, t + a.d ≤ S ∧ x = expArc n t a) ∨ (t < S ∧ 0 < n.hold ∧ ∃ v : Nat, (v : Int) < n.nodes ∧ x = holdArc n t v) := by
  unfold layer at h
  rcases List.mem_append.1 h with h | h
  · exact .inl (layA_mem h)
  · right
    split at h
    · rename_i hb
      obtain ⟨h1, h2⟩ := holdB_iff.1 hb
      obtain ⟨v, hv, e⟩ := layH_mem h
      exact ⟨h1, h2, v, by omega, e⟩
    · cases h
theorem expL_mem {n : NetV} {S : Int} {x : ArcV} : ∀ {T : Nat}, x ∈ expL n S T → ∃ t : Nat, t < T ∧ x ∈ layer n S t
  | 0, h => by cases h
  | T + 1, h => by
    rw [expL] at h
    rcases List.mem_append.1 h with h | h
    · obtain ⟨t, h1, h2⟩ := expL_mem h
      exact ⟨t, by omega, h2⟩
    · exact ⟨T, by omega, h⟩
theorem layer_ok {n : NetV} (hok : n.Ok) {S : Int} {t : Nat} {x : ArcV} (h : x ∈ layer n S t) : ArcOk (n.nodes * (S + 1)) x := by
  rcases layer_mem h with ⟨a, ha, hd, rfl⟩ | ⟨h1, _, v, hv, rfl⟩
  · exact expArc_ok hok (by omega) ha hd
  · exact holdArc_ok hok (by omega) h1 ⟨by omega, hv⟩
theorem arcBad_no {nodes : Int} {a : ArcV} (h : ArcOk nodes a) : arcBad nodes a = false := by
  unfold arcBad exB amB
  obtain ⟨⟨h1, h2⟩, ⟨h3, h4⟩, h5, ⟨h6, h7⟩, ⟨h8, h9⟩⟩ := h
  simp [h1, h2, h3, h4, h5, h6, h7]
  omega
theorem exp_valid {n : NetV} (hok : n.Ok) {S : Nat} (hf : n.fits S) (sl : Sl) : (n.exp S sl).validB = true := by
  have hn := hok.nodes
  have hs := hok.source
  have hk := hok.sink
  have hne := hok.ne
  have h1 : n.nodes ≤ n.nodes * ((S : Int) + 1) := by
    have := Int.mul_le_mul_of_nonneg_left (show (1 : Int) ≤ (S : Int) + 1 by omega) (show 0 ≤ n.nodes by omega)
    omega
  have h2 : (S : Int) * n.nodes + n.sink < n.nodes * ((S : Int) + 1) := by rw [Int.mul_comm n.nodes]; exact lay_lt (by omega) (by omega) hk.2
  have h3 : 0 ≤ (S : Int) * n.nodes + n.sink := lay_nonneg (by omega) (by omega) hk.1
  have h4 : n.source ≠ (S : Int) * n.nodes + n.sink := by
    intro e
    by_cases hz : S = 0
    · subst hz
      apply hne
      have : ((0 : Nat) : Int) * n.nodes = 0 := by simp
      omega
    · have := Int.mul_le_mul_of_nonneg_right (show (1 : Int) ≤ (S : Int) by omega) (show 0 ≤ n.nodes by omega)
      omega
  unfold NetV.validB NetV.headB exB amB NetV.exp
  simp only [Bool.and_eq_true, Bool.not_eq_true', decide_eq_true_eq, decide_eq_false_iff_not, beq_eq_false_iff_ne]
  refine ⟨⟨⟨⟨⟨⟨⟨by omega, by have := hf.1; omega⟩, hs.1, by omega⟩, h3, h2⟩, h4⟩, by have := hf.2; omega⟩, by omega, by omega⟩, ?_⟩
  rw [List.any_eq_false]
  intro x hx
  obtain ⟨t, _, hx⟩ := expL_mem hx
  rw [arcBad_no (layer_ok hok hx)]
  simp
/-! More slots. -/
theorem layA_sub (n : NetV) {S S' : Int} (h : S ≤ S') (t : Int) (k : Nat) : (layA n S t k).Sublist (layA n S' t k) := by
  unfold layA
  refine List.Sublist.map _ ?_
  have : (n.arcs.take k).filter (fun a => decide (t + a.d ≤ S)) = ((n.arcs.take k).filter (fun a => decide (t + a.d ≤ S'))).filter (fun a => decide (t + a.d ≤ S)) := by
    rw [List.filter_filter]
    refine List.filter_congr (fun a _ => ?_)
    by_cases e : t + a.d ≤ S
    · simp [e]; omega
    · simp [e]
  rw [this]
  exact List.filter_sublist
theorem layer_sub (n : NetV) {S S' : Int} (h : S ≤ S') (t : Int) : (layer n S t).Sublist (layer n S' t) := by
  unfold layer
  refine List.Sublist.append (layA_sub n h t _) ?_
  by_cases e : holdB n S t = true
  · have e' : holdB n S' t = true := by rw [holdB_iff] at e ⊢; omega
    rw [if_pos e, if_pos e']
    exact List.Sublist.refl _
  · rw [if_neg e]
    exact List.nil_sublist _
theorem expL_sub (n : NetV) {S S' : Int} (h : S ≤ S') : ∀ T : Nat, (expL n S T).Sublist (expL n S' T)
  | 0 => List.Sublist.refl _
  | T + 1 => by
    rw [expL, expL]
    exact List.Sublist.append (expL_sub n h T) (layer_sub n h T)
theorem expL_more (n : NetV) (S : Int) (T : Nat) : (expL n S T).Sublist (expL n S (T + 1)) := by
  rw [expL]
  exact List.sublist_append_left _ _
theorem exp_sub (n : NetV) (S : Nat) : (expL n (S : Int) (S + 1)).Sublist (expL n ((S + 1 : Nat) : Int) (S + 2)) :=
  (expL_sub n (by omega) (S + 1)).trans (expL_more n _ (S + 1))
theorem fits_less {n : NetV} (hok : n.Ok) {S : Nat} (h : n.fits (S + 1)) : n.fits S := by
  refine ⟨?_, Nat.le_trans (exp_sub n S).length_le h.2⟩
  have h1 := h.1
  have h2 : n.nodes * ((S : Int) + 1) ≤ n.nodes * (((S + 1 : Nat) : Int) + 1) := Int.mul_le_mul_of_nonneg_left (by omega) (by have := hok.nodes; omega)
  omega
theorem capSum_append (side : List Bool) : ∀ l l' : List ArcV, capSum side (l ++ l') = capSum side l + capSum side l'
  | [], l' => by simp [capSum]
  | a :: l, l' => by
    have := capSum_append side l l'
    simp only [List.cons_append, capSum, this]
    omega
theorem capSum_sub (side : List Bool) {l l' : List ArcV} (h : l.Sublist l') (hp : ∀ a ∈ l', 0 ≤ a.c) : capSum side l ≤ capSum side l' := by
  induction h with
  | slnil => exact Int.le_refl _
  | cons a h ih =>
    have h1 := ih (fun b hb => hp b (List.mem_cons_of_mem _ hb))
    have h2 := hp a List.mem_cons_self
    simp only [capSum]
    split <;> omega
  | cons_cons a h ih =>
    have h1 := ih (fun b hb => hp b (List.mem_cons_of_mem _ hb))
    simp only [capSum]
    omega
theorem capSum_mem (side : List Bool) {l : List ArcV} {a : ArcV} (ha : a ∈ l) (hp : ∀ b ∈ l, 0 ≤ b.c) (h1 : inB side a.f = true) (h2 : inB side a.t = false) : a.c ≤ capSum side l := by
  have h := capSum_sub side (List.singleton_sublist.2 ha) hp
  simp only [capSum, h1, h2] at h
  simpa using h
def capTot (l : List ArcV) : Int := (l.map ArcV.c).sum
theorem capTot_next {l : List ArcV} {k : Nat} {a : ArcV} (h : l[k]? = some a) : capTot (l.take (k + 1)) = capTot (l.take k) + a.c := by
  unfold capTot
  rw [take_snoc h, List.map_append, List.sum_append]
  simp
theorem capTot_small {nodes : Int} : ∀ {l : List ArcV}, (∀ a ∈ l, ArcOk nodes a) → 0 ≤ capTot l ∧ capTot l ≤ 1099511627776 * (l.length : Int)
  | [], _ => by simp [capTot]
  | a :: l, h => by
    have h1 := capTot_small (l := l) (fun b hb => h b (List.mem_cons_of_mem _ hb))
    have h2 := (h a List.mem_cons_self).c
    unfold capTot at h1 ⊢
    simp only [List.map_cons, List.sum_cons, List.length_cons]
    omega
theorem capSum_zero (side : List Bool) : ∀ {l : List ArcV}, (∀ a ∈ l, (inB side a.f && !inB side a.t) = false) → capSum side l = 0
  | [], _ => rfl
  | a :: l, h => by
    have := capSum_zero side (l := l) (fun b hb => h b (List.mem_cons_of_mem _ hb))
    simp only [capSum, this, h a List.mem_cons_self]
    simp
theorem capSum_layA {n : NetV} (hok : n.Ok) (side : List Bool) (S t : Int) : capSum side (layA n S t n.arcs.length) ≤ capTot n.arcs := by
  unfold layA
  rw [List.take_of_length_le (Nat.le_refl _)]
  have hc : ∀ a ∈ n.arcs, 0 ≤ a.c := fun a ha => (hok.arcs a ha).c.1
  generalize n.arcs = l at hc
  induction l with
  | nil => simp [capSum, capTot]
  | cons a l ih =>
    have h1 := ih (fun b hb => hc b (List.mem_cons_of_mem _ hb))
    have h2 := hc a List.mem_cons_self
    have h3 : capTot (a :: l) = a.c + capTot l := by simp [capTot]
    rw [List.filter_cons]
    split
    · simp only [List.map_cons, capSum]
      have h4 : (expArc n t a).c = a.c := rfl
      rw [h3, h4]
      split <;> omega
    · omega
/-- All copies of the source. -/
def srcL (n : NetV) (S : Nat) : List Bool := (List.range (n.nodes.toNat * (S + 1))).map (fun v : Nat => decide ((v : Int) % n.nodes = n.source))
theorem srcL_in {n : NetV} (hok : n.Ok) {S : Nat} {t : Int} (h0 : 0 ≤ t) (ht : t ≤ S) {x : Int} (hx : 0 ≤ x ∧ x < n.nodes) : inB (srcL n S) (t * n.nodes + x) = decide (x = n.source) := by
  have hn := hok.nodes
  have h1 : t * n.nodes + x < ((S : Int) + 1) * n.nodes := lay_lt (by omega) (by omega) hx.2
  have h2 : 0 ≤ t * n.nodes + x := lay_nonneg (by omega) h0 hx.1
  have h3 : ((n.nodes.toNat * (S + 1) : Nat) : Int) = ((S : Int) + 1) * n.nodes := by
    rw [Int.natCast_mul, Int.toNat_of_nonneg (by omega), Int.mul_comm]
    rfl
  have h4 : (t * n.nodes + x).toNat < n.nodes.toNat * (S + 1) := by omega
  unfold inB srcL
  rw [List.getD_eq_getElem?_getD, List.getElem?_map, List.getElem?_range h4]
  show decide (((t * n.nodes + x).toNat : Int) % n.nodes = n.source) = _
  rw [Int.toNat_of_nonneg h2, Int.add_comm, Int.add_mul_emod_self_right, Int.emod_eq_of_lt hx.1 hx.2]
theorem src_layer {n : NetV} (hok : n.Ok) {S : Nat} {t : Nat} (_ : t ≤ S) : capSum (srcL n S) (layer n (S : Int) t) ≤ capTot n.arcs := by
  unfold layer
  rw [capSum_append]
  have h1 := capSum_layA hok (srcL n S) (S : Int) (t : Int)
  have h2 : capSum (srcL n S) (if holdB n (S : Int) t = true then layH n t n.nodes.toNat else []) = 0 := by
    refine capSum_zero _ (fun a ha => ?_)
    split at ha
    · rename_i hb
      obtain ⟨hts, _⟩ := holdB_iff.1 hb
      obtain ⟨v, hv, rfl⟩ := layH_mem ha
      have hn := hok.nodes
      have hvr : 0 ≤ (v : Int) ∧ (v : Int) < n.nodes := by omega
      show (inB (srcL n S) ((t : Int) * n.nodes + (v : Int)) && !inB (srcL n S) (((t : Int) + 1) * n.nodes + (v : Int))) = false
      rw [srcL_in hok (by omega) (by omega) hvr, srcL_in hok (by omega) (by omega) hvr]
      simp
    · cases ha
  omega
theorem src_exp {n : NetV} (hok : n.Ok) {S : Nat} : ∀ T : Nat, T ≤ S + 1 → capSum (srcL n S) (expL n (S : Int) T) ≤ (T : Int) * capTot n.arcs
  | 0, _ => by simp [expL, capSum]
  | T + 1, h => by
    have h1 := src_exp hok (S := S) T (by omega)
    have h2 := src_layer hok (S := S) (t := T) (by omega)
    rw [expL, capSum_append]
    have h3 : ((T + 1 : Nat) : Int) * capTot n.arcs = (T : Int) * capTot n.arcs + capTot n.arcs := by
      rw [show ((T + 1 : Nat) : Int) = (T : Int) + 1 from rfl, Int.add_mul]
      omega
    omega
theorem exp_grows {n : NetV} (hok : n.Ok) {S : Nat} (hS : S ≤ 19) (hf : n.fits (S + 1)) (hh : 20 * capTot n.arcs ≤ n.hold) {sl sl' : Sl} {am am' : List Int} {val val' : Int}
    (h : MaxIs (n.exp S sl) am val) (h' : MaxIs (n.exp (S + 1) sl') am' val') : val ≤ val' := by
  have hokL := NetV.validB_ok (exp_valid hok (fits_less hok hf) sl)
  have hokM := NetV.validB_ok (exp_valid hok hf sl')
  have hn := hok.nodes
  have hcut := max_cut hokM h'.flow h'.stop
  have hpos : ∀ a ∈ (n.exp (S + 1) sl').arcs, 0 ≤ a.c := fun a ha => (hokM.arcs a ha).c.1
  have hsrc : inB (sideL (n.exp (S + 1) sl') am') n.source = true := by
    have := sideL_in hokM am' (v := n.source) hok.source.1
    rw [this]
    exact Option.isSome_iff_ne_none.2 (search_src hokM am')
  have hsnk : inB (sideL (n.exp (S + 1) sl') am') (((S + 1 : Nat) : Int) * n.nodes + n.sink) = false := by
    have := sideL_in hokM am' (v := ((S + 1 : Nat) : Int) * n.nodes + n.sink) hokM.sink.1
    rw [this, show search (n.exp (S + 1) sl') am' (((S + 1 : Nat) : Int) * n.nodes + n.sink) = none from h'.stop]
    rfl
  generalize sideL (n.exp (S + 1) sl') am' = B at hcut hsrc hsnk
  cases hb : inB B ((S : Int) * n.nodes + n.sink) with
  | false =>
    have h1 := flow_weak hokL h.flow B hsrc hb
    have h2 := capSum_sub B (exp_sub n S) hpos
    have h3 : capSum B (n.exp S sl).arcs ≤ capSum B (n.exp (S + 1) sl').arcs := h2
    omega
  | true =>
    have h1 : val ≤ 20 * capTot n.arcs := by
      have q1 := flow_weak hokL h.flow (srcL n S) (by
        have := srcL_in hok (S := S) (t := 0) (Int.le_refl _) (by omega) hok.source
        rw [Int.zero_mul, Int.zero_add] at this
        show inB _ n.source = true
        rw [this]
        simp) (by
        have := srcL_in hok (S := S) (t := (S : Int)) (by omega) (Int.le_refl _) hok.sink
        show inB _ ((S : Int) * n.nodes + n.sink) = false
        rw [this]
        exact decide_eq_false (fun e => hok.ne e.symm))
      have q2 : capSum (srcL n S) (n.exp S sl).arcs ≤ ((S + 1 : Nat) : Int) * capTot n.arcs := src_exp hok (S + 1) (Nat.le_refl _)
      have q3 := Int.mul_le_mul_of_nonneg_right (show ((S + 1 : Nat) : Int) ≤ 20 by omega) (capTot_small hok.arcs).1
      omega
    have h2 : n.hold ≤ val' := by
      by_cases hz : 0 < n.hold
      · have hm : holdArc n (S : Int) n.sink.toNat ∈ expL n ((S + 1 : Nat) : Int) (S + 2) := by
          have q1 : holdArc n (S : Int) n.sink.toNat ∈ layer n ((S + 1 : Nat) : Int) S := by
            unfold layer
            refine List.mem_append_right _ ?_
            rw [if_pos (holdB_iff.2 ⟨by omega, hz⟩)]
            exact List.mem_map.2 ⟨_, List.mem_range.2 (by have := hok.sink; omega), rfl⟩
          rw [expL]
          refine List.mem_append_left _ ?_
          rw [expL]
          exact List.mem_append_right _ q1
        have hst : ((n.sink.toNat : Nat) : Int) = n.sink := Int.toNat_of_nonneg hok.sink.1
        have q2 := capSum_mem B (l := (n.exp (S + 1) sl').arcs) hm hpos (by
          show inB B ((S : Int) * n.nodes + (n.sink.toNat : Int)) = true
          rw [hst]; exact hb) (by
          show inB B (((S : Int) + 1) * n.nodes + (n.sink.toNat : Int)) = false
          rw [hst]; exact hsnk)
        have q3 : (holdArc n (S : Int) n.sink.toNat).c = n.hold := rfl
        omega
      · have q1 := capSum_sub B (List.nil_sublist (n.exp (S + 1) sl').arcs) hpos
        have q2 : capSum B [] = 0 := rfl
        have := hok.hold
        omega
    omega
end Go.Proofs.Ytpalacfgpcpppaa
