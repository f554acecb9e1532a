/- Layer 10: plain law of a greater capacity. -/
import Derived.Test.YtpalacfgpcpppaaFloN
namespace Go.Proofs.Ytpalacfgpcpppaa
open Go Go.RowKit

def ArcV.more (a : ArcV) (d : Int) : ArcV := ⟨a.f, a.t, a.c + d, a.d⟩
def NetV.more (n : NetV) (k : Nat) (a : ArcV) (d : Int) (sl : Sl) : NetV := ⟨n.nodes, n.source, n.sink, n.arcs.set k (a.more d), n.hold, sl⟩
theorem capSum_set {side : List Bool} {d : Int} : ∀ {l : List ArcV} {k : Nat} {a : ArcV}, l[k]? = some a → capSum side (l.set k (a.more d)) = capSum side l + (if (inB side a.f && !inB side a.t) = true then d else 0)
  | [], _, _, h => by simp at h
  | b :: l, 0, a, h => by
    simp at h
    subst h
    simp only [List.set_cons_zero, capSum, ArcV.more]
    split <;> omega
  | b :: l, k + 1, a, h => by
    have ih := capSum_set (side := side) (d := d) (l := l) (k := k) (a := a) (by simpa using h)
    simp only [List.set_cons_succ, capSum, ih]
    omega
theorem NetV.more_valid {n : NetV} (hv : n.validB = true) {k : Nat} {a : ArcV} {d : Int} {sl : Sl} (ha : n.arcs[k]? = some a) (h0 : 0 ≤ d) (hc : a.c + d ≤ 1099511627776) : (n.more k a d sl).validB = true := by
  have hok := NetV.validB_ok hv
  unfold NetV.validB at hv ⊢
  rw [Bool.and_eq_true] at hv ⊢
  refine ⟨?_, ?_⟩
  · have h1 := hv.1
    unfold NetV.headB at h1 ⊢
    unfold NetV.more
    dsimp only
    rw [List.length_set]
    exact h1
  · have h2 := hv.2
    rw [Bool.not_eq_true', List.any_eq_false] at h2 ⊢
    intro b hb
    rcases List.mem_or_eq_of_mem_set hb with hb | rfl
    · exact h2 b hb
    · have h3 := h2 a (List.mem_of_getElem? ha)
      have h4 := (hok.arcs a (List.mem_of_getElem? ha)).c
      unfold NetV.more ArcV.more
      unfold arcBad amB at h3 ⊢
      dsimp only
      have e1 : decide (0 ≤ a.c) = true := decide_eq_true h4.1
      have e2 : decide (a.c ≤ 1099511627776) = true := decide_eq_true h4.2
      have e3 : decide (0 ≤ a.c + d) = true := decide_eq_true (by omega)
      have e4 : decide (a.c + d ≤ 1099511627776) = true := decide_eq_true hc
      rw [e1, e2] at h3
      rw [e3, e4]
      exact h3
theorem MaxIs.cut {n : NetV} (hok : n.Ok) {am : List Int} {val : Int} (h : MaxIs n am val) : ∃ side, inB side n.source = true ∧ inB side n.sink = false ∧ val = capSum side n.arcs := by
  refine ⟨sideL n am, ?_, ?_, max_cut hok h.flow h.stop⟩
  · rw [sideL_in hok am hok.source.1]; exact Option.isSome_iff_ne_none.2 (search_src hok am)
  · rw [sideL_in hok am hok.sink.1, h.stop]; rfl
theorem grows {n : NetV} (hv : n.validB = true) {k : Nat} {a : ArcV} {d : Int} {sl : Sl} (ha : n.arcs[k]? = some a) (h0 : 0 ≤ d) (hc : a.c + d ≤ 1099511627776) {am am' : List Int} {val val' : Int} (h : MaxIs n am val) (h' : MaxIs (n.more k a d sl) am' val') : val ≤ val' ∧ val' ≤ val + d := by
  have hok := NetV.validB_ok hv
  have hok' := NetV.validB_ok (NetV.more_valid (sl := sl) hv ha h0 hc)
  obtain ⟨s, a1, a2, a3⟩ := h.cut hok
  obtain ⟨t, b1, b2, b3⟩ := h'.cut hok'
  have e1 := flow_weak hok h.flow t b1 b2
  have e2 := flow_weak hok' h'.flow s a1 a2
  have e3 := capSum_set (side := t) (d := d) ha
  have e4 := capSum_set (side := s) (d := d) ha
  have e5 : (n.more k a d sl).arcs = n.arcs.set k (a.more d) := rfl
  rw [e5] at b3 e2
  split at e3 <;> split at e4 <;> omega
end Go.Proofs.Ytpalacfgpcpppaa
