/- Reversing a row of ints. -/
import Derived.Test.YtkmclglphelhdaaRoutA
import Derived.Test.YtkmclglphelhdaaOwnI
namespace Go.Proofs.Ytkmclglphelhdaa
open Go Go.RowKit Go.Maps

/-! ### Reverse -/
def rv (l : List Int) (k p : Nat) : Int := if p < k ∨ l.length - 1 - p < k then l.getD (l.length - 1 - p) 0 else l.getD p 0
def rvCells (l : List Int) (k : Nat) : List Value := (List.range l.length).map (fun (p : Nat) => Value.int .i64 (rv l k p))
theorem rvCells_at {l : List Int} {k p : Nat} (h : p < l.length) : (rvCells l k)[p]? = some (.int .i64 (rv l k p)) := by
  unfold rvCells
  rw [List.getElem?_map, List.getElem?_range h]
  rfl
theorem rvCells_len (l : List Int) (k : Nat) : (rvCells l k).length = l.length := by unfold rvCells; simp
theorem rvCells_zero (l : List Int) : rvCells l 0 = icells l := by
  apply List.ext_getElem?
  intro i
  by_cases h : i < l.length
  · rw [rvCells_at h]
    unfold rv icells
    rw [if_neg (by omega), List.getElem?_map, List.getElem?_eq_getElem h, List.getD_eq_getElem?_getD, List.getElem?_eq_getElem h]
    rfl
  · rw [List.getElem?_eq_none (by rw [rvCells_len]; omega), List.getElem?_eq_none (by unfold icells; simp; omega)]
theorem rvCells_end (l : List Int) {k q : Nat} (hkq : k + q + 1 = l.length) (h : q ≤ k) : rvCells l k = icells l.reverse := by
  apply List.ext_getElem?
  intro i
  by_cases hi : i < l.length
  · rw [rvCells_at hi]
    unfold rv icells
    rw [List.getElem?_map, List.getElem?_reverse hi, List.getElem?_eq_getElem (by omega)]
    split
    · rw [List.getD_eq_getElem?_getD, List.getElem?_eq_getElem (by omega)]
      rfl
    · rw [List.getD_eq_getElem?_getD, List.getElem?_eq_getElem hi]
      have e : i = l.length - 1 - i := by omega
      simp only [← e]
      rfl
  · rw [List.getElem?_eq_none (by rw [rvCells_len]; omega), List.getElem?_eq_none (by unfold icells; simp; omega)]
theorem rvCells_step (l : List Int) {k q : Nat} (hkq : k + q + 1 = l.length) (h : k < q) : ((rvCells l k).set k (.int .i64 (rv l k q))).set q (.int .i64 (rv l k k)) = rvCells l (k + 1) := by
  apply List.ext_getElem?
  intro i
  by_cases hi : i < l.length
  · rw [rvCells_at hi, List.getElem?_set, List.getElem?_set, rvCells_at hi]
    have hl := rvCells_len l k
    by_cases e1 : q = i
    · subst e1
      rw [if_pos rfl, if_pos (by rw [List.length_set]; omega)]
      unfold rv
      rw [if_neg (by omega), if_pos (by omega), show l.length - 1 - q = k from by omega]
    · rw [if_neg e1]
      by_cases e2 : k = i
      · subst e2
        rw [if_pos rfl, if_pos (by omega)]
        unfold rv
        rw [if_neg (by omega), if_pos (by omega), show l.length - 1 - k = q from by omega]
      · rw [if_neg e2]
        unfold rv
        by_cases e3 : i < k ∨ l.length - 1 - i < k
        · rw [if_pos e3, if_pos (by omega)]
        · rw [if_neg e3, if_neg (by omega)]
  · rw [List.getElem?_eq_none (by simp [rvCells_len]; omega), List.getElem?_eq_none (by rw [rvCells_len]; omega)]

set_option maxHeartbeats 2000000 in
theorem reverse_any {w : World} {A : Option Addr} {c : Nat} {l : List Int} (h : w.ownsRow 0 3 1 (.slice A l.length c) l.length (icells l)) (hp : 0 < l.length) (hlen : l.length ≤ 1000000) :
    Calls Try.prog 49 #[.slice A l.length c] w fun e w' => e = .returned (.tuple #[]) ∧ w'.ownsRow 0 3 1 (.slice A l.length c) l.length (icells l.reverse) ∧ Same (rowB (Value.slice A l.length c).ownBlock) w w' := by
  obtain ⟨g, rfl, hnc, hcm, hcell⟩ := own_addr h hp
  have HO : Hid (w.ownsRow 0 3 1 (.slice (some ⟨g, 0, none⟩) l.length c) l.length (rvCells l 0) ∧ Same (oneB g) w w) := by
    refine ⟨?_, Same.refl _ _⟩
    rw [rvCells_zero]
    exact h
  obtain ⟨n, hn⟩ : ∃ n, l.length = n := ⟨_, rfl⟩
  have HN := Lib.hid hn
  rw [hn] at hp hlen hnc ⊢
  rw [hn] at HO
  clear h hcell hcm hn
  go_enter Try.func49, Try.ntmps49
  go_wp2_with fail
  go_loopw [2, 3] (fun i j wr => ∃ k q : Nat, k + q + 1 = n ∧ k ≤ q + 1 ∧ i = .int .i64 k ∧ j = .int .i64 q ∧ Hid (wr.ownsRow 0 3 1 (.slice (some ⟨g, 0, none⟩) n c) n (rvCells l k) ∧ Same (oneB g) w wr)) (fun _ j _ => (intOf j).toNat)
  case atStart => exact ⟨0, n - 1, by omega, by omega, rfl, by congr 1; omega, HO⟩
  case round =>
    obtain ⟨k, q, hkq, hkq1, rfl, rfl, HR⟩ := hrel
    clear HO
    by_cases hlt : k < q
    · have hk := own_at HR.out.1 (rvCells_at (k := k) (by rw [HN.out]; omega : k < l.length))
      have hq := own_at HR.out.1 (rvCells_at (k := k) (by rw [HN.out]; omega : q < l.length))
      have HS := Lib.hid (rvCells_step l (k := k) (q := q) (by rw [HN.out]; exact hkq) hlt)
      obtain ⟨k1, k2, k3⟩ := hk
      obtain ⟨q1, q2, _⟩ := hq
      generalize rv l k k = x at *
      generalize rv l k q = y at *
      go_wp2_with fail
      go_region
      all_goals go_wp2_with fail
      all_goals
        go_roundw
        case rel =>
          refine ⟨k + 1, q - 1, by omega, by omega, by go_num, by congr 1; omega, ?_, ?_⟩
          · have h1 := own_set (i := q) (own_set (i := k) HR.out.1 (.int .i64 y)) (.int .i64 x)
            rw [HS.out] at h1
            exact h1.drew
          · exact ((HR.out.2.set1 _ _).set1 _ _).drew
        case measure => simp [intOf]; omega
    · have HE := Lib.hid (rvCells_end l (k := k) (q := q) (by rw [HN.out]; exact hkq) (by omega))
      go_wp2_with fail
      go_end0
      exact ⟨rfl, by have h1 := HR.out.1; rw [HE.out] at h1; exact h1, HR.out.2.mono (fun b _ e => by rw [show b = g from e]; rfl)⟩
end Go.Proofs.Ytkmclglphelhdaa
