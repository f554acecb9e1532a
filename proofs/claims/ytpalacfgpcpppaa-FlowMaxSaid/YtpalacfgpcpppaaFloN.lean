/- Layer 10: plain law of cuts: no flow is greater than a cut, the greatest one is as great as its residual side's. -/
import Derived.Test.YtpalacfgpcpppaaFloM
namespace Go.Proofs.Ytpalacfgpcpppaa
open Go Go.RowKit Go.Maps

/-- What crosses a side outwards minus what comes in. -/
def cutNet (S : Int → Bool) : List ArcV → List Int → Int
  | a :: l, x :: m => ((if S a.f = true then x else 0) - (if S a.t = true then x else 0)) + cutNet S l m
  | _, _ => 0
def nsum (S : Int → Bool) (g : Int → Int) : Nat → Int
  | 0 => 0
  | k + 1 => nsum S g k + if S (k : Int) = true then g (k : Int) else 0
theorem nsum_add (S : Int → Bool) (g h : Int → Int) (k : Nat) : nsum S (fun v => g v + h v) k = nsum S g k + nsum S h k := by
  induction k with
  | zero => rfl
  | succ k ih => simp only [nsum, ih]; split <;> omega
theorem nsum_zero (S : Int → Bool) (k : Nat) : nsum S (fun _ => 0) k = 0 := by
  induction k with
  | zero => rfl
  | succ k ih => simp only [nsum, ih]; split <;> rfl
theorem nsum_one (S : Int → Bool) (u x : Int) (k : Nat) : nsum S (fun v => if u = v then x else 0) k = if (0 ≤ u ∧ u < (k : Int)) ∧ S u = true then x else 0 := by
  induction k with
  | zero => simp only [nsum]; rw [if_neg]; omega
  | succ k ih =>
    simp only [nsum, ih]
    by_cases e : u = (k : Int)
    · subst e
      rw [if_neg (by omega), if_pos rfl]
      by_cases hS : S (k : Int) = true
      · rw [if_pos hS, if_pos ⟨by omega, hS⟩]; omega
      · rw [if_neg hS, if_neg (fun h => hS h.2)]; omega
    · have e0 : (if u = (k : Int) then x else 0) = 0 := if_neg e
      have e1 : (if S (k : Int) = true then (if u = (k : Int) then x else 0) else 0) = 0 := by rw [e0]; split <;> rfl
      rw [e1, Int.add_zero]
      by_cases hh : (0 ≤ u ∧ u < (k : Int)) ∧ S u = true
      · rw [if_pos hh, if_pos ⟨⟨hh.1.1, by omega⟩, hh.2⟩]
      · rw [if_neg hh, if_neg (fun h => hh ⟨⟨h.1.1, by omega⟩, h.2⟩)]
theorem nsum_neg (S : Int → Bool) (g : Int → Int) (k : Nat) : nsum S (fun v => - g v) k = - nsum S g k := by
  induction k with
  | zero => rfl
  | succ k ih => simp only [nsum, ih]; split <;> omega
theorem nsum_net {nodes : Int} (S : Int → Bool) (hn : 0 ≤ nodes) : ∀ {arcs : List ArcV} {am : List Int}, (∀ a ∈ arcs, ArcOk nodes a) → nsum S (netSum arcs am) nodes.toNat = cutNet S arcs am
  | [], am, _ => by
    have : netSum [] am = fun _ => 0 := by funext v; cases am <;> rfl
    rw [this, nsum_zero]
    cases am <;> rfl
  | a :: arcs, [], _ => by
    have : netSum (a :: arcs) [] = fun _ => 0 := by funext v; rfl
    rw [this, nsum_zero]
    rfl
  | a :: arcs, x :: am, h => by
    have ih := nsum_net (nodes := nodes) S hn (arcs := arcs) (am := am) (fun b hb => h b (List.mem_cons_of_mem _ hb))
    have ha := h a (List.mem_cons_self ..)
    have e : netSum (a :: arcs) (x :: am) = fun v => ((if a.f = v then x else 0) + (fun v => - (if a.t = v then x else 0)) v) + netSum arcs am v := by
      funext v
      simp only [netSum]
      omega
    rw [e, nsum_add S (fun v => (if a.f = v then x else 0) + (fun v => - (if a.t = v then x else 0)) v) (netSum arcs am), nsum_add S (fun v => if a.f = v then x else 0) (fun v => - (if a.t = v then x else 0)), nsum_neg S (fun v => if a.t = v then x else 0), nsum_one, nsum_one, ih]
    have h1 := ha.f
    have h2 := ha.t
    simp only [cutNet]
    have e1 : (if (0 ≤ a.f ∧ a.f < ((nodes.toNat : Nat) : Int)) ∧ S a.f = true then x else 0) = if S a.f = true then x else 0 := by
      by_cases hS : S a.f = true
      · rw [if_pos hS, if_pos ⟨by omega, hS⟩]
      · rw [if_neg hS, if_neg (fun h => hS h.2)]
    have e2 : (if (0 ≤ a.t ∧ a.t < ((nodes.toNat : Nat) : Int)) ∧ S a.t = true then x else 0) = if S a.t = true then x else 0 := by
      by_cases hS : S a.t = true
      · rw [if_pos hS, if_pos ⟨by omega, hS⟩]
      · rw [if_neg hS, if_neg (fun h => hS h.2)]
    rw [e1, e2]
    omega
theorem nsum_src (S : Int → Bool) (g : Int → Int) (src : Int) (hS : S src = true) (k : Nat) (h0 : ∀ v, 0 ≤ v → v < (k : Int) → S v = true → v ≠ src → g v = 0) : nsum S g k = if 0 ≤ src ∧ src < (k : Int) then g src else 0 := by
  induction k with
  | zero => simp only [nsum]; rw [if_neg]; omega
  | succ k ih =>
    have h1 := ih (fun v a b c d => h0 v a (by omega) c d)
    simp only [nsum, h1]
    by_cases e : src = (k : Int)
    · rw [if_neg (by omega), if_pos (by rw [← e]; exact hS), if_pos (by omega), e]; omega
    · have e2 : (if S (k : Int) = true then g (k : Int) else 0) = 0 := by
        by_cases hk : S (k : Int) = true
        · rw [if_pos hk]; exact h0 _ (by omega) (by omega) hk (fun h => e h.symm)
        · rw [if_neg hk]
      rw [e2]
      by_cases hu : 0 ≤ src ∧ src < (k : Int)
      · rw [if_pos hu, if_pos (by omega)]; omega
      · rw [if_neg hu, if_neg (by omega)]; omega
/-- The value of a flow is what crosses a side with the source and without the sink. -/
theorem IsFl.cut {n : NetV} (hok : n.Ok) {am : List Int} {val : Int} (h : IsFl n am val) (S : Int → Bool) (h1 : S n.source = true) (h2 : S n.sink = false) : val = cutNet S n.arcs am := by
  have hn := hok.nodes
  have hs := hok.source
  rw [← nsum_net (nodes := n.nodes) S (by omega) hok.arcs, nsum_src S _ n.source h1 _ (fun v a b c d => h.mid v a (by omega) d (fun e => by rw [e, h2] at c; cases c)), if_pos (by omega), h.src]
theorem cutNet_le (side : List Bool) : ∀ {arcs : List ArcV} {am : List Int}, am.length = arcs.length → (∀ (j : Nat) (a : ArcV) (x : Int), arcs[j]? = some a → am[j]? = some x → 0 ≤ x ∧ x ≤ a.c) → cutNet (inB side) arcs am ≤ capSum side arcs
  | [], [], _, _ => Int.le_refl _
  | [], _ :: _, h, _ => by simp at h
  | _ :: _, [], h, _ => by simp at h
  | a :: arcs, x :: am, hl, h => by
    have ih := cutNet_le side (arcs := arcs) (am := am) (by simpa using hl) (fun j b y hb hy => h (j + 1) b y (by simpa using hb) (by simpa using hy))
    have h0 := h 0 a x rfl rfl
    simp only [cutNet, capSum]
    cases inB side a.f <;> cases inB side a.t <;> simp <;> omega
theorem cutNet_eq (side : List Bool) : ∀ {arcs : List ArcV} {am : List Int}, am.length = arcs.length → (∀ (j : Nat) (a : ArcV) (x : Int), arcs[j]? = some a → am[j]? = some x → (inB side a.f = true → inB side a.t = false → x = a.c) ∧ (inB side a.f = false → inB side a.t = true → x = 0)) → cutNet (inB side) arcs am = capSum side arcs
  | [], [], _, _ => rfl
  | [], _ :: _, h, _ => by simp at h
  | _ :: _, [], h, _ => by simp at h
  | a :: arcs, x :: am, hl, h => by
    have ih := cutNet_eq side (arcs := arcs) (am := am) (by simpa using hl) (fun j b y hb hy => h (j + 1) b y (by simpa using hb) (by simpa using hy))
    have h0 := h 0 a x rfl rfl
    simp only [cutNet, capSum, ih]
    cases h1 : inB side a.f <;> cases h2 : inB side a.t
    · simp
    · have := h0.2 h1 h2; simp; omega
    · have := h0.1 h1 h2; simp; omega
    · simp
theorem flow_weak {n : NetV} (hok : n.Ok) {am : List Int} {val : Int} (h : IsFl n am val) (side : List Bool) (h1 : inB side n.source = true) (h2 : inB side n.sink = false) : val ≤ capSum side n.arcs := by
  rw [h.cut hok (inB side) h1 h2]
  exact cutNet_le side h.cap.1 h.cap.2
/-- The residual side. -/
def sideL (n : NetV) (am : List Int) : List Bool := (List.range n.nodes.toNat).map (fun (v : Nat) => (search n am (v : Int)).isSome)
theorem sideL_len (n : NetV) (am : List Int) : (sideL n am).length = n.nodes.toNat := by simp [sideL]
theorem sideL_in {n : NetV} (hok : n.Ok) (am : List Int) {v : Int} (hv : 0 ≤ v) : inB (sideL n am) v = (search n am v).isSome := by
  unfold inB sideL
  rw [List.getD_eq_getElem?_getD, List.getElem?_map]
  by_cases h : v < n.nodes
  · rw [List.getElem?_range (by omega)]
    show (search n am ((v.toNat : Nat) : Int)).isSome = _
    rw [Int.toNat_of_nonneg hv]
  · rw [List.getElem?_eq_none (by simp; omega)]
    cases hs : search n am v with
    | none => rfl
    | some s =>
      have := search_rng hok am (v := v) (by rw [hs]; simp)
      omega
theorem max_cut {n : NetV} (hok : n.Ok) {am : List Int} {val : Int} (h : IsFl n am val) (hs : search n am n.sink = none) : val = capSum (sideL n am) n.arcs := by
  have h1 : inB (sideL n am) n.source = true := by
    rw [sideL_in hok am hok.source.1]
    exact Option.isSome_iff_ne_none.2 (search_src hok am)
  have h2 : inB (sideL n am) n.sink = false := by rw [sideL_in hok am hok.sink.1, hs]; rfl
  rw [h.cut hok (inB (sideL n am)) h1 h2]
  refine cutNet_eq _ h.cap.1 (fun j a x ha hx => ?_)
  have hao := hok.arcs a (List.mem_of_getElem? ha)
  have hb := h.cap.2 j a x ha hx
  rw [sideL_in hok am hao.f.1, sideL_in hok am hao.t.1]
  constructor
  · intro k1 k2
    by_cases e : x = a.c
    · exact e
    · exfalso
      have hm : mkStep a j x a.f ∈ stepsL n.arcs am a.f := stepsL_in ha hx (.inl rfl) (by unfold mkStep; rw [if_neg (Ne.symm hao.ne)]; simp; omega)
      have := search_closed hok am (Option.isSome_iff_ne_none.1 k1) hm
      unfold mkStep at this
      rw [if_neg (Ne.symm hao.ne)] at this
      rw [Option.isSome_eq_false_iff, Option.isNone_iff_eq_none] at k2
      exact this k2
  · intro k1 k2
    by_cases e : x = 0
    · exact e
    · exfalso
      have hm : mkStep a j x a.t ∈ stepsL n.arcs am a.t := stepsL_in ha hx (.inr rfl) (by unfold mkStep; rw [if_pos rfl]; simp; omega)
      have := search_closed hok am (Option.isSome_iff_ne_none.1 k2) hm
      unfold mkStep at this
      rw [if_pos rfl] at this
      rw [Option.isSome_eq_false_iff, Option.isNone_iff_eq_none] at k1
      exact this k1
/-- What Max returns. -/
structure MaxIs (n : NetV) (am : List Int) (val : Int) : Prop where
  run : MaxRun n (List.replicate n.arcs.length 0) 0 am val
  flow : IsFl n am val
  stop : search n am n.sink = none
theorem MaxIs.greatest {n : NetV} (hok : n.Ok) {am am' : List Int} {val val' : Int} (h : MaxIs n am val) (k : IsFl n am' val') : val' ≤ val := by
  rw [max_cut hok h.flow h.stop]
  refine flow_weak hok k _ ?_ ?_
  · rw [sideL_in hok am hok.source.1]; exact Option.isSome_iff_ne_none.2 (search_src hok am)
  · rw [sideL_in hok am hok.sink.1, h.stop]; rfl
end Go.Proofs.Ytpalacfgpcpppaa
