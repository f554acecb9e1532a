/- The reference's distances: a row of ints; what the rounds do to it. -/
import Derived.Test.YtkmclglphelhdaaRoutA
import Derived.Test.YtkmclglphelhdaaRoutR
import Derived.Test.YtkmclglphelhdaaOwnI
namespace Go.Proofs.Ytkmclglphelhdaa
open Go Go.RowKit Go.Maps

/-- The sites of a model as a graph. -/
theorem mem_near {m : Mdl} {s t : Int} : t ∈ m.near s ↔ exB s m.sites.length = true ∧ 1 ≤ t ∧ t ≤ (m.sites.length : Int) ∧ 0 < m.link s t := by
  unfold Mdl.near
  constructor
  · intro h
    split at h
    · rename_i he
      obtain ⟨h1, h2⟩ := List.mem_filter.1 h
      obtain ⟨i, hi, rfl⟩ := List.mem_map.1 h1
      have := List.mem_range.1 hi
      exact ⟨he, by omega, by omega, by simpa using h2⟩
    · simp at h
  · rintro ⟨he, h1, h2, h3⟩
    rw [if_pos he]
    refine List.mem_filter.2 ⟨List.mem_map.2 ⟨(t - 1).toNat, List.mem_range.2 (by omega), by omega⟩, by simpa using h3⟩
theorem near_gr (m : Mdl) : Gr m.near m.sites.length := by
  refine ⟨fun s t h => ?_, fun s t h => ?_⟩
  · obtain ⟨_, h1, h2, _⟩ := mem_near.1 h
    exact ⟨h1, h2⟩
  · obtain ⟨he, h1, h2, h3⟩ := mem_near.1 h
    have he' := exB_iff.1 he
    exact mem_near.2 ⟨exB_iff.2 ⟨h1, h2⟩, he'.1, he'.2, by rw [link_symm]; exact h3⟩
theorem near_len (m : Mdl) (s : Int) : (m.near s).length ≤ m.sites.length := by
  unfold Mdl.near
  split
  · exact nearK_len m s m.sites.length
  · exact Nat.zero_le _
def Mdl.route (m : Mdl) (a b : Int) : List Int := if exB a m.sites.length && exB b m.sites.length then rt m.near m.sites.length a b else []

/-- A row of ints by their places. -/
def fCells (F : Nat → Int) (N : Nat) : List Value := (List.range (N + 1)).map (fun (p : Nat) => Value.int .i64 (F p))
theorem fCells_len (F : Nat → Int) (N : Nat) : (fCells F N).length = N + 1 := by unfold fCells; simp
theorem fCells_at {F : Nat → Int} {N p : Nat} (h : p ≤ N) : (fCells F N)[p]? = some (.int .i64 (F p)) := by
  unfold fCells
  rw [List.getElem?_map, List.getElem?_range (by omega)]
  rfl
theorem fCells_set {F F' : Nat → Int} {N x : Nat} {v : Int} (hF : ∀ p, p ≤ N → F' p = if p = x then v else F p) : (fCells F N).set x (.int .i64 v) = fCells F' N := by
  apply List.ext_getElem?
  intro i
  rw [List.getElem?_set]
  by_cases hi : i ≤ N
  · rw [fCells_at hi, fCells_at hi, hF i hi]
    by_cases e : x = i
    · subst e
      rw [if_pos rfl, if_pos rfl, if_pos (by rw [fCells_len]; omega)]
    · rw [if_neg e, if_neg (Ne.symm e)]
  · rw [List.getElem?_eq_none (l := fCells F' N) (by rw [fCells_len]; omega)]
    split
    · rw [if_neg (by rw [fCells_len]; omega)]
    · exact List.getElem?_eq_none (by rw [fCells_len]; omega)
theorem fCells_congr {F F' : Nat → Int} {N : Nat} (h : ∀ p, p ≤ N → F p = F' p) : fCells F N = fCells F' N := by
  unfold fCells
  apply List.map_congr_left
  intro p hp
  rw [h p (by have := List.mem_range.1 hp; omega)]
theorem zero_f (N : Nat) : List.replicate (N + 1) (Value.int .i64 0) = fCells (fun _ => 0) N := by
  unfold fCells
  rw [List.map_const', List.length_range]
/-- The model's box and a row, since w. -/
structure FI (w W : World) (p : MPl) (m : Mdl) (M g N : Nat) (F : Nat → Int) : Prop where
  mb : MB w W p m M
  own : W.ownsRow 0 3 1 (.slice (some ⟨g, 0, none⟩) (N + 1) (N + 1)) (N + 1) (fCells F N)
  lo : w.heap.size ≤ g
section
variable {w W W' : World} {p : MPl} {m : Mdl} {M g N : Nat} {F : Nat → Int}
theorem FI.keep (h : FI w W p m M g N F) (hs : Same noB W W') : FI w W' p m M g N F := ⟨h.mb.keep hs, own_same h.own hs (fun _ _ x => x), h.lo⟩
theorem FI.at_ (h : FI w W p m M g N F) {i : Nat} (hi : i ≤ N) : W.cell? ⟨g, i, none⟩ = some (.int .i64 (F i)) ∧ W.frozen? ⟨g, i, none⟩ = false ∧ g < W.heap.size := own_at h.own (fCells_at hi)
theorem FI.set_ (h : FI w W p m M g N F) (hin : MdlIn w p m) (x : Nat) (v : Int) {F' : Nat → Int} (hF : ∀ q, q ≤ N → F' q = if q = x then v else F q) : FI w (W.setCell ⟨g, x, none⟩ (.int .i64 v)) p m M g N F' := by
  have hs : Same (oneB g) W (W.setCell ⟨g, x, none⟩ (.int .i64 v)) := (Same.refl _ _).set1 _ _
  have hsince : Same noB w (W.setCell ⟨g, x, none⟩ (.int .i64 v)) := h.mb.since.trans hs (fun b hb e => by
    have := h.lo
    rw [show b = g from e] at hb
    omega)
  obtain ⟨cs, hc⟩ := own_blk h.own rfl
  refine ⟨⟨hin.keep hsince, h.mb.box.same hs (fun e => ?_), hsince⟩, by rw [← fCells_set hF]; exact own_set h.own _, h.lo⟩
  have e' : M = g := e
  subst e'
  exact h.mb.box.ne_ hc (by decide) rfl
theorem FI.congr {F' : Nat → Int} (h : FI w W p m M g N F) (hF : ∀ q, q ≤ N → F q = F' q) : FI w W p m M g N F' := ⟨h.mb, by rw [← fCells_congr hF]; exact h.own, h.lo⟩
end

/-! ### The rounds -/
def stp (nb : Int → List Int) (b : Int) (d : Nat) (s : Int) (i : Nat) : Int := if decide (lev nb b d s < 0) && ((nb s).take i).any (fun t => lev nb b d t == (d : Int)) then (d : Int) + 1 else lev nb b d s
/-- The row in round d, at site s, its first i neighbours read. -/
def dcl (nb : Int → List Int) (b : Int) (d s i : Nat) (p : Nat) : Int := if p = 0 then -1 else if p < s then lev nb b (d + 1) (p : Int) else if p = s then stp nb b d (s : Int) i else lev nb b d (p : Int)
section
variable {nb : Int → List Int} {b : Int} {d : Nat}
theorem lev_cases (d : Nat) (s : Int) : lev nb b d s = -1 ∨ 0 ≤ lev nb b d s ∧ lev nb b d s ≤ (d : Int) := by
  rcases lev_spec (nb := nb) (b := b) d s with ⟨k, h1, h2, _⟩ | ⟨h, _⟩
  · right; omega
  · left; exact h
theorem stp_zero (s : Int) : stp nb b d s 0 = lev nb b d s := by unfold stp; simp
theorem stp_all (s : Int) : stp nb b d s (nb s).length = lev nb b (d + 1) s := by
  unfold stp
  rw [List.take_length]
  rfl
theorem stp_range (s : Int) (i : Nat) : -1 ≤ stp nb b d s i ∧ stp nb b d s i ≤ (d : Int) + 1 := by
  have := lev_cases (nb := nb) (b := b) d s
  unfold stp
  split <;> omega
theorem lev_next (s : Int) : lev nb b (d + 1) s = lev nb b d s ∨ lev nb b (d + 1) s = (d : Int) + 1 ∧ lev nb b d s = -1 := by
  have hc := lev_cases (nb := nb) (b := b) d s
  show (if decide (lev nb b d s < 0) && (nb s).any (fun t => lev nb b d t == (d : Int)) then (d : Int) + 1 else lev nb b d s) = _ ∨ (if decide (lev nb b d s < 0) && (nb s).any (fun t => lev nb b d t == (d : Int)) then (d : Int) + 1 else lev nb b d s) = _ ∧ _
  split
  · rename_i h
    simp only [Bool.and_eq_true, decide_eq_true_eq] at h
    right; omega
  · left; rfl
theorem dcl_range (s i p : Nat) : -1 ≤ dcl nb b d s i p ∧ dcl nb b d s i p ≤ (d : Int) + 1 := by
  have h1 := lev_cases (nb := nb) (b := b) d (p : Int)
  have h2 := lev_cases (nb := nb) (b := b) (d + 1) (p : Int)
  have h3 := stp_range (nb := nb) (b := b) (d := d) (s : Int) i
  unfold dcl
  split
  · omega
  split
  · omega
  split
  · exact h3
  · omega
/-- What the row says of the round's own level, it said at the round's start. -/
theorem dcl_eq {s i p : Nat} (hp : 0 < p) : (dcl nb b d s i p == (d : Int)) = (lev nb b d (p : Int) == (d : Int)) := by
  have h1 := lev_cases (nb := nb) (b := b) d (p : Int)
  have h2 := lev_next (nb := nb) (b := b) (d := d) (p : Int)
  rw [Bool.eq_iff_iff, beq_iff_eq, beq_iff_eq]
  unfold dcl
  rw [if_neg (by omega)]
  split
  · omega
  split
  · rename_i e
    subst e
    unfold stp
    split
    · rename_i h
      simp only [Bool.and_eq_true, decide_eq_true_eq] at h
      omega
    · exact Iff.rfl
  · exact Iff.rfl
theorem dcl_start (p : Nat) : dcl nb b d 1 0 p = if p = 0 then -1 else lev nb b d (p : Int) := by
  unfold dcl
  by_cases h0 : p = 0
  · rw [if_pos h0, if_pos h0]
  · rw [if_neg h0, if_neg h0, if_neg (by omega)]
    split
    · rename_i e
      subst e
      exact stp_zero _
    · rfl
theorem dcl_row {s : Nat} (hs : 1 ≤ s) (p : Nat) : dcl nb b d s (nb (s : Int)).length p = dcl nb b d (s + 1) 0 p := by
  unfold dcl
  by_cases h0 : p = 0
  · rw [if_pos h0, if_pos h0]
  rw [if_neg h0, if_neg h0]
  rcases Nat.lt_trichotomy p s with h | h | h
  · rw [if_pos h, if_pos (by omega)]
  · subst h
    rw [if_neg (by omega), if_pos rfl, if_pos (by omega), stp_all]
  · rw [if_neg (by omega), if_neg (by omega), if_neg (by omega)]
    by_cases e : p = s + 1
    · subst e
      rw [if_pos rfl, stp_zero]
    · rw [if_neg e]
theorem dcl_end {N : Nat} (p : Nat) (hp : p ≤ N) : dcl nb b d (N + 1) 0 p = dcl nb b (d + 1) 1 0 p := by
  rw [dcl_start]
  unfold dcl
  by_cases h0 : p = 0
  · rw [if_pos h0, if_pos h0]
  · rw [if_neg h0, if_neg h0, if_pos (by omega)]
/-- One neighbour more: the test fails, or the site gets its level. -/
theorem stp_step {s : Int} {i : Nat} {t : Int} (ht : (nb s)[i]? = some t) : stp nb b d s (i + 1) = if decide (stp nb b d s i < 0) && (lev nb b d t == (d : Int)) then (d : Int) + 1 else stp nb b d s i := by
  have hc := lev_cases (nb := nb) (b := b) d s
  unfold stp
  rw [List.take_add_one, ht, List.any_append]
  cases h1 : decide (lev nb b d s < 0)
  · simp only [Bool.false_and, Bool.false_eq_true, if_false]
    rw [h1]
    simp
  · cases h2 : ((nb s).take i).any (fun t => lev nb b d t == (d : Int))
    · simp [h1]
    · simp
theorem dcl_step {s i : Nat} (p : Nat) {v : Int} (hs : 1 ≤ s) (hv : stp nb b d (s : Int) (i + 1) = v) : dcl nb b d s (i + 1) p = if p = s then v else dcl nb b d s i p := by
  unfold dcl
  by_cases e : p = s
  · subst e
    rw [if_pos rfl, if_neg (by omega), if_neg (by omega), if_pos rfl, hv]
  · rw [if_neg e]
    split
    · rfl
    split
    · rfl
    · rfl
theorem dcl_at (s i : Nat) (hs : 1 ≤ s) : dcl nb b d s i s = stp nb b d (s : Int) i := by
  unfold dcl
  rw [if_neg (by omega), if_neg (by omega), if_pos rfl]
end
end Go.Proofs.Ytkmclglphelhdaa
