/- Layer 14: IndexFunc and ContainsFunc over the closures. -/
import Derived.Test.YtkmclglphelhdaaSiteA
namespace Go.Proofs.Ytkmclglphelhdaa
open Go Go.RowKit

/-- The first position with p, or -1. -/
def fidx {α : Type} (p : α → Bool) (l : List α) : Int := match l.findIdx? p with | some i => (i : Int) | none => -1
theorem fidx_some {α : Type} {p : α → Bool} {l : List α} {k : Nat} {y : α} (h : l[k]? = some y) (hp : p y = true) (hn : ∀ (j : Nat) (z : α), j < k → l[j]? = some z → p z = false) : fidx p l = (k : Int) := by
  have hk : k < l.length := (List.getElem?_eq_some_iff.1 h).1
  have hy : l[k] = y := (List.getElem?_eq_some_iff.1 h).2
  have : l.findIdx? p = some k := by
    rw [List.findIdx?_eq_some_iff_getElem]
    exact ⟨hk, by rw [hy]; exact hp, fun j hj => by rw [hn j _ hj (List.getElem?_eq_getElem (by omega))]; simp⟩
  unfold fidx
  rw [this]
theorem fidx_none {α : Type} {p : α → Bool} {l : List α} (hn : ∀ (j : Nat) (z : α), l[j]? = some z → p z = false) : fidx p l = -1 := by
  have : l.findIdx? p = none := by
    rw [List.findIdx?_eq_none_iff]
    intro x hx
    obtain ⟨j, hj, rfl⟩ := List.getElem_of_mem hx
    exact hn j _ (List.getElem?_eq_getElem hj)
  unfold fidx
  rw [this]
theorem fidx_any {α : Type} (p : α → Bool) (l : List α) : decide (0 ≤ fidx p l) = l.any p := by
  unfold fidx
  cases h : l.findIdx? p with
  | none =>
    rw [List.findIdx?_eq_none_iff] at h
    have : l.any p = false := by
      rw [List.any_eq_false]
      exact fun x hx => by rw [h x hx]; simp
    rw [this]
    rfl
  | some i =>
    rw [List.findIdx?_eq_some_iff_getElem] at h
    obtain ⟨hi, h1, _⟩ := h
    have : l.any p = true := List.any_eq_true.2 ⟨l[i], List.getElem_mem hi, h1⟩
    rw [this]
    exact decide_eq_true (Int.natCast_nonneg _)
theorem fidx_lt {α : Type} (p : α → Bool) (l : List α) : -1 ≤ fidx p l ∧ fidx p l < (l.length : Int) ∨ l = [] ∧ fidx p l = -1 := by
  unfold fidx
  cases h : l.findIdx? p with
  | none =>
    cases l with
    | nil => exact .inr ⟨rfl, rfl⟩
    | cons x l => left; exact ⟨Int.le_refl _, by simp only [List.length_cons]; omega⟩
  | some i =>
    rw [List.findIdx?_eq_some_iff_getElem] at h
    obtain ⟨hi, _⟩ := h
    left
    constructor
    · simp only; omega
    · simp only; omega

set_option maxHeartbeats 1000000 in
theorem idxf34 {w : World} {bad : Nat → Prop} {v : Value} {l : List Rk} (h : Rd w bad 3 v l.length (rkcells l)) {g : Nat} {x : Rk} (hg : Blk w g 42 x.cells.toArray) :
    Calls Try.prog 51 #[v, .func (.func 34) #[] #[.pointer (some ⟨g, 0, none⟩)]] w fun e w' => e = .returned (.int .i64 (fidx (otherB x) l)) ∧ Same noB w w' := by
  obtain ⟨A, c, rfl, hnc, hcm, hr⟩ := h.form
  have HR := Lib.hid hr
  have HG := Lib.hid hg
  have hb : l.length ≤ 9223372036854775807 := by unfold maxLen at hcm; omega
  clear h hr hnc hcm hg
  go_enter Try.func51, Try.ntmps51
  go_wp2_with fail
  go_loopw [8] (fun i wr => ∃ k : Nat, k ≤ l.length ∧ i = .int .i64 k ∧ Hid ((∀ (j : Nat) z, j < k → l[j]? = some z → (otherB x) z = false) ∧ Same noB w wr)) (fun i _ => l.length - (intOf i).toNat)
  case atStart => exact ⟨0, Nat.zero_le _, rfl, ⟨fun j z hj => by omega, Same.refl _ _⟩⟩
  case round =>
    obtain ⟨k, hk, rfl, HS⟩ := hrel
    by_cases hlt : k < l.length
    · obtain ⟨b, o, rfl, r⟩ := HR.out.at_ (by omega)
      obtain ⟨y, hy⟩ : ∃ y, l[k]? = some y := ⟨_, List.getElem?_eq_getElem hlt⟩
      obtain ⟨d0, d1, d2⟩ := rk_at r hy
      have e0 := HS.out.2.cell d0 (fun x => x)
      have e1 := HS.out.2.cell d1 (fun x => x)
      have e2 := HS.out.2.cell d2 (fun x => x)
      have hC := c34 (HG.out.same HS.out.2 (fun x => x)) y
      unfold Rk.val at hC
      cases hp : (otherB x) y
      · rw [hp] at hC
        have HC := Lib.hid hC
        have HP := Lib.hid hp
        have HY := Lib.hid hy
        clear hC hp hy r d0 d1 d2
        go_wp2_with fail
        have hZ := HC.out
        (with_reducible refine Calls.mono hZ ?_)
        clear hZ HC
        rintro e w3 ⟨rfl, hs⟩
        have HS3 : Hid (Same noB w w3) := HS.out.2.trans' hs
        clear hs
        go_wp2_with fail
        go_roundw
        case rel => exact ⟨k + 1, by omega, by go_num, ⟨fun j z hj hz => by
          by_cases e : j = k
          · subst e
            have := hz.symm.trans HY.out
            injection this with this
            rw [this]
            exact HP.out
          · exact HS.out.1 j z (by omega) hz, HS3.out⟩⟩
        case measure => simp [intOf]; omega
      · rw [hp] at hC
        have HC := Lib.hid hC
        have HF := Lib.hid (fidx_some hy hp HS.out.1)
        clear hC hp hy r d0 d1 d2
        go_wp2_with fail
        have hZ := HC.out
        (with_reducible refine Calls.mono hZ ?_)
        clear hZ HC
        rintro e w3 ⟨rfl, hs⟩
        have HS3 : Hid (Same noB w w3) := HS.out.2.trans' hs
        clear hs
        go_wp2_with fail
        go_ret
        exact ⟨by rw [HF.out] <;> rfl, HS3.out⟩
    · obtain rfl : k = l.length := by omega
      have HF := Lib.hid (fidx_none (p := (otherB x)) (l := l) (fun j z hz => HS.out.1 j z (List.getElem?_eq_some_iff.1 hz).1 hz))
      go_wp2_with fail
      go_ret
      exact ⟨by rw [HF.out] <;> rfl, HS.out.2⟩

set_option maxHeartbeats 1000000 in
theorem idxf41 {w : World} {bad : Nat → Prop} {v : Value} {l : List Lk} (h : Rd w bad 3 v l.length (lkcells l)) {g : Nat} {x : Lk} (hg : Blk w g 58 x.cells.toArray) :
    Calls Try.prog 47 #[v, .func (.func 41) #[] #[.pointer (some ⟨g, 0, none⟩)]] w fun e w' => e = .returned (.int .i64 (fidx (sameB x) l)) ∧ Same noB w w' := by
  obtain ⟨A, c, rfl, hnc, hcm, hr⟩ := h.form
  have HR := Lib.hid hr
  have HG := Lib.hid hg
  have hb : l.length ≤ 9223372036854775807 := by unfold maxLen at hcm; omega
  clear h hr hnc hcm hg
  go_enter Try.func47, Try.ntmps47
  go_wp2_with fail
  go_loopw [8] (fun i wr => ∃ k : Nat, k ≤ l.length ∧ i = .int .i64 k ∧ Hid ((∀ (j : Nat) z, j < k → l[j]? = some z → (sameB x) z = false) ∧ Same noB w wr)) (fun i _ => l.length - (intOf i).toNat)
  case atStart => exact ⟨0, Nat.zero_le _, rfl, ⟨fun j z hj => by omega, Same.refl _ _⟩⟩
  case round =>
    obtain ⟨k, hk, rfl, HS⟩ := hrel
    by_cases hlt : k < l.length
    · obtain ⟨b, o, rfl, r⟩ := HR.out.at_ (by omega)
      obtain ⟨y, hy⟩ : ∃ y, l[k]? = some y := ⟨_, List.getElem?_eq_getElem hlt⟩
      obtain ⟨d0, d1, d2⟩ := lk_at r hy
      have e0 := HS.out.2.cell d0 (fun x => x)
      have e1 := HS.out.2.cell d1 (fun x => x)
      have e2 := HS.out.2.cell d2 (fun x => x)
      have hC := c41 (HG.out.same HS.out.2 (fun x => x)) y
      unfold Lk.val at hC
      cases hp : (sameB x) y
      · rw [hp] at hC
        have HC := Lib.hid hC
        have HP := Lib.hid hp
        have HY := Lib.hid hy
        clear hC hp hy r d0 d1 d2
        go_wp2_with fail
        have hZ := HC.out
        (with_reducible refine Calls.mono hZ ?_)
        clear hZ HC
        rintro e w3 ⟨rfl, hs⟩
        have HS3 : Hid (Same noB w w3) := HS.out.2.trans' hs
        clear hs
        go_wp2_with fail
        go_roundw
        case rel => exact ⟨k + 1, by omega, by go_num, ⟨fun j z hj hz => by
          by_cases e : j = k
          · subst e
            have := hz.symm.trans HY.out
            injection this with this
            rw [this]
            exact HP.out
          · exact HS.out.1 j z (by omega) hz, HS3.out⟩⟩
        case measure => simp [intOf]; omega
      · rw [hp] at hC
        have HC := Lib.hid hC
        have HF := Lib.hid (fidx_some hy hp HS.out.1)
        clear hC hp hy r d0 d1 d2
        go_wp2_with fail
        have hZ := HC.out
        (with_reducible refine Calls.mono hZ ?_)
        clear hZ HC
        rintro e w3 ⟨rfl, hs⟩
        have HS3 : Hid (Same noB w w3) := HS.out.2.trans' hs
        clear hs
        go_wp2_with fail
        go_ret
        exact ⟨by rw [HF.out] <;> rfl, HS3.out⟩
    · obtain rfl : k = l.length := by omega
      have HF := Lib.hid (fidx_none (p := (sameB x)) (l := l) (fun j z hz => HS.out.1 j z (List.getElem?_eq_some_iff.1 hz).1 hz))
      go_wp2_with fail
      go_ret
      exact ⟨by rw [HF.out] <;> rfl, HS.out.2⟩

set_option maxHeartbeats 1000000 in
theorem idxf48 {w : World} {bad : Nat → Prop} {v : Value} {l : List Lk} (h : Rd w bad 3 v l.length (lkcells l)) {g g' : Nat} {a b' : Int} (hg : Blk w g 3 #[.int .i64 a]) (hg' : Blk w g' 3 #[.int .i64 b']) :
    Calls Try.prog 47 #[v, .func (.func 48) #[] #[.pointer (some ⟨g, 0, none⟩), .pointer (some ⟨g', 0, none⟩)]] w fun e w' => e = .returned (.int .i64 (fidx (Mdl.joins a b') l)) ∧ Same noB w w' := by
  obtain ⟨A, c, rfl, hnc, hcm, hr⟩ := h.form
  have HR := Lib.hid hr
  have HG := Lib.hid hg
  have HG' := Lib.hid hg'
  have hb : l.length ≤ 9223372036854775807 := by unfold maxLen at hcm; omega
  clear h hr hnc hcm hg hg'
  go_enter Try.func47, Try.ntmps47
  go_wp2_with fail
  go_loopw [8] (fun i wr => ∃ k : Nat, k ≤ l.length ∧ i = .int .i64 k ∧ Hid ((∀ (j : Nat) z, j < k → l[j]? = some z → (Mdl.joins a b') z = false) ∧ Same noB w wr)) (fun i _ => l.length - (intOf i).toNat)
  case atStart => exact ⟨0, Nat.zero_le _, rfl, ⟨fun j z hj => by omega, Same.refl _ _⟩⟩
  case round =>
    obtain ⟨k, hk, rfl, HS⟩ := hrel
    by_cases hlt : k < l.length
    · obtain ⟨b, o, rfl, r⟩ := HR.out.at_ (by omega)
      obtain ⟨y, hy⟩ : ∃ y, l[k]? = some y := ⟨_, List.getElem?_eq_getElem hlt⟩
      obtain ⟨d0, d1, d2⟩ := lk_at r hy
      have e0 := HS.out.2.cell d0 (fun x => x)
      have e1 := HS.out.2.cell d1 (fun x => x)
      have e2 := HS.out.2.cell d2 (fun x => x)
      have hC := c48 (HG.out.same HS.out.2 (fun x => x)) (HG'.out.same HS.out.2 (fun x => x)) y
      unfold Lk.val at hC
      cases hp : (Mdl.joins a b') y
      · rw [hp] at hC
        have HC := Lib.hid hC
        have HP := Lib.hid hp
        have HY := Lib.hid hy
        clear hC hp hy r d0 d1 d2
        go_wp2_with fail
        have hZ := HC.out
        (with_reducible refine Calls.mono hZ ?_)
        clear hZ HC
        rintro e w3 ⟨rfl, hs⟩
        have HS3 : Hid (Same noB w w3) := HS.out.2.trans' hs
        clear hs
        go_wp2_with fail
        go_roundw
        case rel => exact ⟨k + 1, by omega, by go_num, ⟨fun j z hj hz => by
          by_cases e : j = k
          · subst e
            have := hz.symm.trans HY.out
            injection this with this
            rw [this]
            exact HP.out
          · exact HS.out.1 j z (by omega) hz, HS3.out⟩⟩
        case measure => simp [intOf]; omega
      · rw [hp] at hC
        have HC := Lib.hid hC
        have HF := Lib.hid (fidx_some hy hp HS.out.1)
        clear hC hp hy r d0 d1 d2
        go_wp2_with fail
        have hZ := HC.out
        (with_reducible refine Calls.mono hZ ?_)
        clear hZ HC
        rintro e w3 ⟨rfl, hs⟩
        have HS3 : Hid (Same noB w w3) := HS.out.2.trans' hs
        clear hs
        go_wp2_with fail
        go_ret
        exact ⟨by rw [HF.out] <;> rfl, HS3.out⟩
    · obtain rfl : k = l.length := by omega
      have HF := Lib.hid (fidx_none (p := (Mdl.joins a b')) (l := l) (fun j z hz => HS.out.1 j z (List.getElem?_eq_some_iff.1 hz).1 hz))
      go_wp2_with fail
      go_ret
      exact ⟨by rw [HF.out] <;> rfl, HS.out.2⟩

theorem cf34 {w : World} {bad : Nat → Prop} {v : Value} {l : List Rk} (h : Rd w bad 3 v l.length (rkcells l)) {g : Nat} {x : Rk} (hg : Blk w g 42 x.cells.toArray) :
    Calls Try.prog 35 #[v, .func (.func 34) #[] #[.pointer (some ⟨g, 0, none⟩)]] w fun e w' => e = .returned (.bool (l.any (otherB x))) ∧ Same noB w w' := by
  have HX := Lib.hid (idxf34 h hg)
  have HA := Lib.hid (fidx_any (otherB x) l)
  generalize fidx (otherB x) l = z at *
  generalize l.any (otherB x) = q at *
  clear h hg
  go_enter Try.func35, Try.ntmps35
  go_wp2_with fail
  have hZ := HX.out
  (with_reducible refine Calls.mono hZ ?_)
  clear hZ HX
  rintro e w3 ⟨rfl, hs⟩
  have HS := Lib.hid hs
  clear hs
  go_wp2_with fail
  go_ret
  exact ⟨by rw [← HA.out] <;> rfl, HS.out⟩

theorem cf41 {w : World} {bad : Nat → Prop} {v : Value} {l : List Lk} (h : Rd w bad 3 v l.length (lkcells l)) {g : Nat} {x : Lk} (hg : Blk w g 58 x.cells.toArray) :
    Calls Try.prog 42 #[v, .func (.func 41) #[] #[.pointer (some ⟨g, 0, none⟩)]] w fun e w' => e = .returned (.bool (l.any (sameB x))) ∧ Same noB w w' := by
  have HX := Lib.hid (idxf41 h hg)
  have HA := Lib.hid (fidx_any (sameB x) l)
  generalize fidx (sameB x) l = z at *
  generalize l.any (sameB x) = q at *
  clear h hg
  go_enter Try.func42, Try.ntmps42
  go_wp2_with fail
  have hZ := HX.out
  (with_reducible refine Calls.mono hZ ?_)
  clear hZ HX
  rintro e w3 ⟨rfl, hs⟩
  have HS := Lib.hid hs
  clear hs
  go_wp2_with fail
  go_ret
  exact ⟨by rw [← HA.out] <;> rfl, HS.out⟩
end Go.Proofs.Ytkmclglphelhdaa
