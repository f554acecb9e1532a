/- Layer 21: IsName. -/
import Derived.Test.YtpngmodgnkjhnaaValA
namespace Go.Proofs.Ytpngmodgnkjhnaa
open Go Go.RowKit Go.Maps
set_option maxRecDepth 100000

theorem get_data (s : ByteArray) (k : Nat) (h : k < s.size) : s.data.toList[k]? = some s[k] := by
  have h' : k < s.data.toList.length := by simpa using h
  rw [List.getElem?_eq_getElem h']
  rfl
theorem isname_short {s : ByteArray} (h : ¬ 1 ≤ s.size) : isNameB s = false := by unfold isNameB; rw [decide_eq_false h]; rfl
theorem isname_long {s : ByteArray} (h : ¬ s.size ≤ 31) : isNameB s = false := by unfold isNameB; rw [decide_eq_false h]; simp
theorem isname_first {s : ByteArray} (h1 : 1 ≤ s.size) (h : inB ((s[0]).toNat : Int) 97 122 = false) : isNameB s = false := by
  unfold isNameB
  rw [List.getD_eq_getElem?_getD, get_data s 0 h1, Option.getD_some, h]
  simp
theorem isname_kw {s : ByteArray} (h : hasS kwL s = true) : isNameB s = false := by unfold isNameB; rw [h]; simp
theorem isname_ch {s : ByteArray} {k : Nat} (hk : k < s.size) (h : chI ((s[k]).toNat : Int) = false) : isNameB s = false := by
  unfold isNameB
  have : s.data.toList.all (fun c => chI (c.toNat : Int)) = false := by
    rw [List.all_eq_false]
    exact ⟨s[k], List.mem_of_getElem? (get_data s k hk), by rw [h]; decide⟩
  rw [this]
  simp
theorem isname_yes {s : ByteArray} (h1 : 1 ≤ s.size) (h2 : s.size ≤ 31) (h3 : inB ((s[0]).toNat : Int) 97 122 = true) (h4 : hasS kwL s = false) (h5 : ∀ k (hk : k < s.size), chI ((s[k]).toNat : Int) = true) : isNameB s = true := by
  unfold isNameB
  rw [List.getD_eq_getElem?_getD, get_data s 0 h1, Option.getD_some, h3, h4, decide_eq_true h1, decide_eq_true h2]
  have : s.data.toList.all (fun c => chI (c.toNat : Int)) = true := by
    rw [List.all_eq_true]
    intro c hc
    obtain ⟨k, hk, rfl⟩ := List.getElem_of_mem hc
    exact h5 k (by simpa using hk)
  rw [this]
  rfl

set_option maxHeartbeats 4000000 in
theorem isname_any (s : ByteArray) (w : World) : Calls Try.prog 65 #[.string s] w fun e w' => e = .returned (.bool (isNameB s)) ∧ Same noB w w' := by
  obtain ⟨q, hq⟩ : ∃ q, isNameB s = q := ⟨_, rfl⟩
  have HQ := Lib.hid hq
  rw [hq]
  clear hq
  by_cases h1 : 1 ≤ s.size
  · by_cases h2 : s.size ≤ 31
    · obtain ⟨b0, hb0⟩ : ∃ b, inB ((s[0]).toNat : Int) 97 122 = b := ⟨_, rfl⟩
      have HB0 := Lib.hid hb0
      clear hb0
      go_enter Try.func65, Try.ntmps65
      go_wp2_with fail
      refine (letter_any _ _).mono ?_
      rintro e w' ⟨rfl, rfl⟩
      rw [HB0.out]
      cases b0
      · go_wp2_with fail
        go_ret
        exact ⟨by rw [← HQ.out, isname_first h1 HB0.out] <;> rfl, Same.refl _ _⟩
      · go_wp2_with fail
        refine (keywords_any _).mono ?_
        rintro e W1 ⟨v, rfl, hr, hs⟩
        have HR := Lib.hid hr
        have HS1 := Lib.hid hs
        clear hr hs
        go_wp2_with fail
        obtain ⟨b1, hb1⟩ : ∃ b, hasS kwL s = b := ⟨_, rfl⟩
        have HB1 := Lib.hid hb1
        clear hb1
        refine (has_any HR.out s).mono ?_
        rintro e W2 ⟨rfl, hs⟩
        rw [HB1.out]
        have HS := Lib.hid (HS1.out.trans' hs)
        clear hs HS1 HR
        cases b1
        · go_wp2_with fail
          go_loopw [3] (fun i wr => ∃ k : Nat, k ≤ s.size ∧ i = .int .i64 k ∧ Hid ((∀ j (hj : j < s.size), j < k → chI ((s[j]).toNat : Int) = true) ∧ Same noB w wr)) (fun i _ => s.size - (intOf i).toNat)
          case atStart => exact ⟨0, Nat.zero_le _, rfl, fun j _ hj => absurd hj (Nat.not_lt_zero _), HS.out⟩
          case round =>
            obtain ⟨k, hk, rfl, HK⟩ := hrel
            clear HS
            by_cases hlt : k < s.size
            · have HCH : Hid (chI ((s[k]).toNat : Int) = (inB ((s[k]).toNat : Int) 97 122 || inB ((s[k]).toNat : Int) 48 57 || ((s[k]).toNat : Int) == 95)) := rfl
              obtain ⟨b2, hb2⟩ : ∃ b, inB ((s[k]).toNat : Int) 97 122 = b := ⟨_, rfl⟩
              obtain ⟨b3, hb3⟩ : ∃ b, inB ((s[k]).toNat : Int) 48 57 = b := ⟨_, rfl⟩
              obtain ⟨b4, hb4⟩ : ∃ b, (((s[k]).toNat : Int) == 95) = b := ⟨_, rfl⟩
              have HB2 := Lib.hid hb2
              have HB3 := Lib.hid hb3
              have HB4 := Lib.hid hb4
              have HCQ : Hid (chI ((s[k]).toNat : Int) = (b2 || b3 || b4)) := by show _ = _; rw [HCH.out, hb2, hb3, hb4]
              clear hb2 hb3 hb4 HCH
              go_wp2_with fail
              refine (letter_any _ _).mono ?_
              rintro e w' ⟨rfl, rfl⟩
              rw [HB2.out]
              cases b2
              · go_wp2_with fail
                refine (digit_any _ _).mono ?_
                rintro e w' ⟨rfl, rfl⟩
                rw [HB3.out]
                cases b3
                · cases b4
                  · have hb5 : (((s[k]).toNat : Int) != 95) = true := by rw [bne, HB4.out]; rfl
                    go_wp2_with fail
                    go_ret
                    exact ⟨by rw [← HQ.out, isname_ch hlt HCQ.out] <;> rfl, HK.out.2⟩
                  · have hb5 : (((s[k]).toNat : Int) != 95) = false := by rw [bne, HB4.out]; rfl
                    go_wp2_with fail
                    go_roundw
                    case rel => exact ⟨k + 1, by omega, by go_num, fun j hj hjk => (Nat.lt_or_eq_of_le (Nat.le_of_lt_succ hjk)).elim (HK.out.1 j hj) (fun e => by subst e; exact HCQ.out), HK.out.2⟩
                    case measure => simp [intOf]; omega
                · go_wp2_with fail
                  go_roundw
                  case rel => exact ⟨k + 1, by omega, by go_num, fun j hj hjk => (Nat.lt_or_eq_of_le (Nat.le_of_lt_succ hjk)).elim (HK.out.1 j hj) (fun e => by subst e; exact HCQ.out), HK.out.2⟩
                  case measure => simp [intOf]; omega
              · go_wp2_with fail
                go_roundw
                case rel => exact ⟨k + 1, by omega, by go_num, fun j hj hjk => (Nat.lt_or_eq_of_le (Nat.le_of_lt_succ hjk)).elim (HK.out.1 j hj) (fun e => by subst e; exact HCQ.out), HK.out.2⟩
                case measure => simp [intOf]; omega
            · obtain rfl : k = s.size := by omega
              go_wp2_with fail
              go_ret
              exact ⟨by rw [← HQ.out, isname_yes h1 h2 HB0.out HB1.out (fun j hj => HK.out.1 j hj hj)] <;> rfl, HK.out.2⟩
        · go_wp2_with fail
          go_ret
          exact ⟨by rw [← HQ.out, isname_kw HB1.out] <;> rfl, HS.out⟩
    · go_enter Try.func65, Try.ntmps65
      go_wp2_with fail
      go_ret
      exact ⟨by rw [← HQ.out, isname_long h2] <;> rfl, Same.refl _ _⟩
  · go_enter Try.func65, Try.ntmps65
    go_wp2_with fail
    go_ret
    exact ⟨by rw [← HQ.out, isname_short h1] <;> rfl, Same.refl _ _⟩
end Go.Proofs.Ytpngmodgnkjhnaa
