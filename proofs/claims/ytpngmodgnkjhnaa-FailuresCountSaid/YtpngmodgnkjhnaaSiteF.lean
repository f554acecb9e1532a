/- Layer 14: Ints; Machines and Capacity of the program and of the reference. (printed by genSiteF.py) -/
import Derived.Test.YtpngmodgnkjhnaaSiteE
namespace Go.Proofs.Ytpngmodgnkjhnaa
open Go Go.RowKit Go.Maps
set_option maxRecDepth 100000

theorem slI : SlT Try.prog 46 3 1 8 := SlT.mk_ (z := .int .i64 0) Try.underlying46 (by kernel_rfl) rfl (by decide) (by decide)
theorem ints_true {w : World} {bad bad' : Nat → Prop} {v v' : Value} {l : List Int} (h1 : Rd w bad 1 v l.length (icells l)) (h2 : Rd w bad' 1 v' l.length (icells l)) :
    Calls Try.prog 24 #[v, v'] w fun e w' => e = .returned (.bool true) ∧ Same noB w w' := by
  obtain ⟨A, c, rfl, hc1, hc2, hr1⟩ := h1.form
  obtain ⟨A', c', rfl, _, _, hr2⟩ := h2.form
  have H1 := Lib.hid hr1
  have H2 := Lib.hid hr2
  clear h1 h2 hr1 hr2
  unfold maxLen at hc2
  have hn : l.length ≤ 9223372036854775807 := by omega
  clear hc1 hc2
  go_enter Try.func24, Try.ntmps24
  go_wp2_with fail
  go_loopw [5] (fun i wr => ∃ k : Nat, k ≤ l.length ∧ i = .int .i64 k ∧ Hid (Same noB w wr)) (fun i _ => l.length - (intOf i).toNat)
  case atStart => exact ⟨0, Nat.zero_le _, rfl, Same.refl _ _⟩
  case round =>
    obtain ⟨k, hk, rfl, HS⟩ := hrel
    by_cases hlt : k < l.length
    · obtain ⟨b, o, rfl, r1⟩ := H1.out.at_ (by omega)
      obtain ⟨b', o', rfl, r2⟩ := H2.out.at_ (by omega)
      obtain ⟨y, hy⟩ : ∃ y, l[k]? = some y := ⟨_, List.getElem?_eq_getElem hlt⟩
      have p0 := (HS.out).cell (r1.cell k _ (icells_at hy)) (fun x => x)
      have q0 := (HS.out).cell (r2.cell k _ (icells_at hy)) (fun x => x)
      clear r1 r2 hy
      go_wp2_with fail
      go_region
      all_goals go_wp2_with fail
      all_goals
        go_roundw
        case rel => exact ⟨k + 1, by omega, by go_num, HS.out.drew⟩
        case measure => simp [intOf]; omega
    · obtain rfl : k = l.length := by omega
      go_wp2_with fail
      go_ret
      exact ⟨rfl, HS.out⟩

end Go.Proofs.Ytpngmodgnkjhnaa
