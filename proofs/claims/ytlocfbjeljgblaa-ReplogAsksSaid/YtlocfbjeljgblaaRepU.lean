/- Layer 36: IndexFunc over the closures, ContainsFunc. (printed by genRepU.py) -/
import Derived.Test.YtlocfbjeljgblaaRepS
import Derived.Test.YtlocfbjeljgblaaRepT
namespace Go.Proofs.Ytlocfbjeljgblaa
open Go Go.RowKit
set_option maxRecDepth 100000

/-- The first position with p, or -1. -/
def fidx {α : Type} (p : α → Bool) (l : List α) : Int := match l.findIdx? p with | some i => (i : Int) | none => -1
theorem fidx_some {α : Type} {p : α → Bool} {l : List α} {k : Nat} {y : α} (h : l[k]? = some y) (hp : p y = true) (hn : ∀ (j : Nat) (z : α), j < k → l[j]? = some z → p z = false) : fidx p l = (k : Int) := by
  have hk : k < l.length := (List.getElem?_eq_some_iff.1 h).1
  have hy : l[k] = y := (List.getElem?_eq_some_iff.1 h).2
  have : l.findIdx? p = some k := by
    rw [List.findIdx?_eq_some_iff_getElem]
    exact ⟨hk, by rw [hy]; exact hp, fun j hj => by rw [hn j _ hj (List.getElem?_eq_getElem (by omega))]; simp⟩
  unfold fidx
  rw [this]
theorem fidx_none {α : Type} {p : α → Bool} {l : List α} (hn : ∀ (j : Nat) (z : α), l[j]? = some z → p z = false) : fidx p l = -1 := by
  have : l.findIdx? p = none := by
    rw [List.findIdx?_eq_none_iff]
    intro x hx
    obtain ⟨j, hj, rfl⟩ := List.getElem_of_mem hx
    exact hn j _ (List.getElem?_eq_getElem hj)
  unfold fidx
  rw [this]
theorem fidx_any {α : Type} (p : α → Bool) (l : List α) : decide (0 ≤ fidx p l) = l.any p := by
  unfold fidx
  cases h : l.findIdx? p with
  | none =>
    rw [List.findIdx?_eq_none_iff] at h
    have : l.any p = false := by
      rw [List.any_eq_false]
      exact fun x hx => by rw [h x hx]; simp
    rw [this]
    rfl
  | some i =>
    rw [List.findIdx?_eq_some_iff_getElem] at h
    obtain ⟨hi, h1, _⟩ := h
    have : l.any p = true := List.any_eq_true.2 ⟨l[i], List.getElem_mem hi, h1⟩
    rw [this]
    exact decide_eq_true (Int.natCast_nonneg _)
theorem fidx_lt {α : Type} (p : α → Bool) (l : List α) : -1 ≤ fidx p l ∧ fidx p l < (l.length : Int) ∨ l = [] ∧ fidx p l = -1 := by
  unfold fidx
  cases h : l.findIdx? p with
  | none =>
    cases l with
    | nil => exact .inr ⟨rfl, rfl⟩
    | cons x l => left; exact ⟨Int.le_refl _, by simp only [List.length_cons]; omega⟩
  | some i =>
    rw [List.findIdx?_eq_some_iff_getElem] at h
    obtain ⟨hi, _⟩ := h
    left
    constructor
    · simp only; omega
    · simp only; omega


set_option maxHeartbeats 4000000 in
theorem idx48 {w : World} {M : Nat} {bad : Nat → Prop} {v : Value} {es : List En} {vs : List EnV} (h : EnL w bad v es vs) {p : Int → Int → Bool}
    (HC : Hid (∀ (W : World) (e : En) (x : EnV), Same noB w W → x ∈ vs → e.i = x.i → e.t = x.t → Calls Try.prog 48 #[.pointer (some ⟨M, 0, none⟩), e.val] W fun r w' => r = .returned (.bool (p x.i x.t)) ∧ Same noB W w')) :
    Calls Try.prog 49 #[v, .func (.func 48) #[.pointer (some ⟨M, 0, none⟩)] #[]] w fun r w' => r = .returned (.int .i64 (fidx (fun x : EnV => p x.i x.t) vs)) ∧ Same noB w w' := by
  obtain ⟨A, c, rfl, hnc, hcm, hr⟩ := h.rd.form
  have HB := Lib.hid h
  have HL := Lib.hid h.len
  have hb : es.length ≤ 9223372036854775807 := by unfold maxLen at hcm; omega
  clear h hr hnc hcm
  go_enter Try.func49, Try.ntmps49
  go_wp2_with fail
  go_loopw [8] (fun i wr => ∃ k : Nat, k ≤ es.length ∧ i = .int .i64 k ∧ Hid ((∀ (j : Nat) (z : EnV), j < k → vs[j]? = some z → p z.i z.t = false) ∧ Same noB w wr)) (fun i _ => es.length - (intOf i).toNat)
  case atStart => exact ⟨0, Nat.zero_le _, rfl, ⟨fun j z hj => by omega, Same.refl _ _⟩⟩
  case round =>
    obtain ⟨k, hk, rfl, HS⟩ := hrel
    by_cases hlt : k < es.length
    · obtain ⟨e, he⟩ : ∃ e, es[k]? = some e := ⟨_, List.getElem?_eq_getElem hlt⟩
      obtain ⟨x, hx, hix⟩ := HB.out.is.at_ he
      obtain ⟨b, o, rfl, r⟩ := (HB.out.rd.keep HS.out.2).at_ (by omega)
      obtain ⟨p0, p1, p2, p3, p4, p5, p6, p7, p8, p9, p10, p11, p12, p13, p14⟩ := en_at r he
      have hC := HC.out wr e x HS.out.2 (List.mem_of_getElem? hx) hix.i hix.t
      unfold En.val at hC
      have hi0 : (0 : Int) ≤ (k : Int) := by omega
      have hi1 : (k : Int) < (es.length : Int) := by omega
      cases hp : p x.i x.t
      · rw [hp] at hC
        have HC2 := Lib.hid hC
        have HP := Lib.hid hp
        have HY := Lib.hid hx
        clear hC hp hx r hix he
        go_wp2_with fail
        have hZ := HC2.out
        (with_reducible refine Calls.mono hZ ?_)
        clear hZ HC2
        rintro e3 w3 ⟨rfl, hs⟩
        have HS3 : Hid (Same noB w w3) := HS.out.2.trans' hs
        clear hs p0 p1 p2 p3 p4 p5 p6 p7 p8 p9 p10 p11 p12 p13 p14
        go_wp2_with fail
        go_roundw
        case rel => exact ⟨k + 1, by omega, by go_num, ⟨fun j z hj hz => by
          by_cases e : j = k
          · subst e
            have := hz.symm.trans HY.out
            injection this with this
            rw [this]
            exact HP.out
          · exact HS.out.1 j z (by omega) hz, HS3.out⟩⟩
        case measure => simp [intOf]; omega
      · rw [hp] at hC
        have HC2 := Lib.hid hC
        have HF := Lib.hid (fidx_some (p := fun x : EnV => p x.i x.t) hx hp HS.out.1)
        clear hC hp hx r hix he
        go_wp2_with fail
        have hZ := HC2.out
        (with_reducible refine Calls.mono hZ ?_)
        clear hZ HC2
        rintro e3 w3 ⟨rfl, hs⟩
        have HS3 : Hid (Same noB w w3) := HS.out.2.trans' hs
        clear hs p0 p1 p2 p3 p4 p5 p6 p7 p8 p9 p10 p11 p12 p13 p14
        go_wp2_with fail
        go_ret
        exact ⟨by rw [HF.out] <;> rfl, HS3.out⟩
    · obtain rfl : k = es.length := by omega
      have HF := Lib.hid (fidx_none (p := fun x : EnV => p x.i x.t) (l := vs) (fun j z hz => HS.out.1 j z (by have := HL.out; have := (List.getElem?_eq_some_iff.1 hz).1; omega) hz))
      go_wp2_with fail
      go_ret
      exact ⟨by rw [HF.out] <;> rfl, HS.out.2⟩
set_option maxHeartbeats 4000000 in
theorem idx50 {w : World} {B : Nat} {bad : Nat → Prop} {v : Value} {es : List En} {vs : List EnV} (h : EnL w bad v es vs) {p : Int → Int → Bool}
    (HC : Hid (∀ (W : World) (e : En) (x : EnV), Same noB w W → x ∈ vs → e.i = x.i → e.t = x.t → Calls Try.prog 50 #[e.val, .pointer (some ⟨B, 0, none⟩)] W fun r w' => r = .returned (.bool (p x.i x.t)) ∧ Same noB W w')) :
    Calls Try.prog 49 #[v, .func (.func 50) #[] #[.pointer (some ⟨B, 0, none⟩)]] w fun r w' => r = .returned (.int .i64 (fidx (fun x : EnV => p x.i x.t) vs)) ∧ Same noB w w' := by
  obtain ⟨A, c, rfl, hnc, hcm, hr⟩ := h.rd.form
  have HB := Lib.hid h
  have HL := Lib.hid h.len
  have hb : es.length ≤ 9223372036854775807 := by unfold maxLen at hcm; omega
  clear h hr hnc hcm
  go_enter Try.func49, Try.ntmps49
  go_wp2_with fail
  go_loopw [8] (fun i wr => ∃ k : Nat, k ≤ es.length ∧ i = .int .i64 k ∧ Hid ((∀ (j : Nat) (z : EnV), j < k → vs[j]? = some z → p z.i z.t = false) ∧ Same noB w wr)) (fun i _ => es.length - (intOf i).toNat)
  case atStart => exact ⟨0, Nat.zero_le _, rfl, ⟨fun j z hj => by omega, Same.refl _ _⟩⟩
  case round =>
    obtain ⟨k, hk, rfl, HS⟩ := hrel
    by_cases hlt : k < es.length
    · obtain ⟨e, he⟩ : ∃ e, es[k]? = some e := ⟨_, List.getElem?_eq_getElem hlt⟩
      obtain ⟨x, hx, hix⟩ := HB.out.is.at_ he
      obtain ⟨b, o, rfl, r⟩ := (HB.out.rd.keep HS.out.2).at_ (by omega)
      obtain ⟨p0, p1, p2, p3, p4, p5, p6, p7, p8, p9, p10, p11, p12, p13, p14⟩ := en_at r he
      have hC := HC.out wr e x HS.out.2 (List.mem_of_getElem? hx) hix.i hix.t
      unfold En.val at hC
      have hi0 : (0 : Int) ≤ (k : Int) := by omega
      have hi1 : (k : Int) < (es.length : Int) := by omega
      cases hp : p x.i x.t
      · rw [hp] at hC
        have HC2 := Lib.hid hC
        have HP := Lib.hid hp
        have HY := Lib.hid hx
        clear hC hp hx r hix he
        go_wp2_with fail
        have hZ := HC2.out
        (with_reducible refine Calls.mono hZ ?_)
        clear hZ HC2
        rintro e3 w3 ⟨rfl, hs⟩
        have HS3 : Hid (Same noB w w3) := HS.out.2.trans' hs
        clear hs p0 p1 p2 p3 p4 p5 p6 p7 p8 p9 p10 p11 p12 p13 p14
        go_wp2_with fail
        go_roundw
        case rel => exact ⟨k + 1, by omega, by go_num, ⟨fun j z hj hz => by
          by_cases e : j = k
          · subst e
            have := hz.symm.trans HY.out
            injection this with this
            rw [this]
            exact HP.out
          · exact HS.out.1 j z (by omega) hz, HS3.out⟩⟩
        case measure => simp [intOf]; omega
      · rw [hp] at hC
        have HC2 := Lib.hid hC
        have HF := Lib.hid (fidx_some (p := fun x : EnV => p x.i x.t) hx hp HS.out.1)
        clear hC hp hx r hix he
        go_wp2_with fail
        have hZ := HC2.out
        (with_reducible refine Calls.mono hZ ?_)
        clear hZ HC2
        rintro e3 w3 ⟨rfl, hs⟩
        have HS3 : Hid (Same noB w w3) := HS.out.2.trans' hs
        clear hs p0 p1 p2 p3 p4 p5 p6 p7 p8 p9 p10 p11 p12 p13 p14
        go_wp2_with fail
        go_ret
        exact ⟨by rw [HF.out] <;> rfl, HS3.out⟩
    · obtain rfl : k = es.length := by omega
      have HF := Lib.hid (fidx_none (p := fun x : EnV => p x.i x.t) (l := vs) (fun j z hz => HS.out.1 j z (by have := HL.out; have := (List.getElem?_eq_some_iff.1 hz).1; omega) hz))
      go_wp2_with fail
      go_ret
      exact ⟨by rw [HF.out] <;> rfl, HS.out.2⟩
theorem cont48 {w : World} {bad : Nat → Prop} {M : Nat} {v : Value} {es : List En} {vs : List EnV} (h : EnL w bad v es vs) {p : Int → Int → Bool}
    (HC : Hid (∀ (W : World) (e : En) (x : EnV), Same noB w W → x ∈ vs → e.i = x.i → e.t = x.t → Calls Try.prog 48 #[.pointer (some ⟨M, 0, none⟩), e.val] W fun r w' => r = .returned (.bool (p x.i x.t)) ∧ Same noB W w')) :
    Calls Try.prog 47 #[v, .func (.func 48) #[.pointer (some ⟨M, 0, none⟩)] #[]] w fun r w' => r = .returned (.bool (vs.any (fun x => p x.i x.t))) ∧ Same noB w w' := by
  have HZ := Lib.hid (idx48 (M := M) h HC)
  have HA := Lib.hid (fidx_any (fun x : EnV => p x.i x.t) vs)
  clear h
  go_enter Try.func47, Try.ntmps47
  go_wp2_with fail
  (with_reducible refine Calls.mono HZ.out ?_)
  rintro r W ⟨rfl, hs⟩
  have HS := Lib.hid hs
  clear hs
  go_wp2_with fail
  go_ret
  exact ⟨by rw [← HA.out] <;> rfl, HS.out⟩
end Go.Proofs.Ytlocfbjeljgblaa
