/- Layer 21: names and numbers of a catalog's reference. (printed by genValA.py) -/
import Derived.Test.YtpngmodgnkjhnaaSiteO
import Derived.Test.YtpngmodgnkjhnaaFailA
namespace Go.Proofs.Ytpngmodgnkjhnaa
open Go Go.RowKit Go.Maps
set_option maxRecDepth 100000

def inB (n a b : Int) : Bool := decide (a ≤ n) && decide (n ≤ b)
theorem within_any (n a b : Int) (w : World) : Calls Try.prog 49 #[.int .i64 n, .int .i64 a, .int .i64 b] w fun e w' => e = .returned (.bool (inB n a b)) ∧ w = w' := by
  have HQ : Hid (inB n a b = (decide (a ≤ n) && decide (n ≤ b))) := rfl
  generalize inB n a b = q at *
  by_cases h1 : a ≤ n
  · by_cases h2 : n ≤ b
    · have d1 : decide (a ≤ n) = true := decide_eq_true h1
      have d2 : decide (n ≤ b) = true := decide_eq_true h2
      go_enter Try.func49, Try.ntmps49
      go_wp2_with fail
      go_ret
      exact ⟨by rw [HQ.out, d1, d2] <;> rfl, rfl⟩
    · have d1 : decide (a ≤ n) = true := decide_eq_true h1
      have d2 : decide (n ≤ b) = false := decide_eq_false h2
      go_enter Try.func49, Try.ntmps49
      go_wp2_with fail
      go_ret
      exact ⟨by rw [HQ.out, d1, d2] <;> rfl, rfl⟩
  · have d1 : decide (a ≤ n) = false := decide_eq_false h1
    go_enter Try.func49, Try.ntmps49
    go_wp2_with fail
    go_ret
    exact ⟨by rw [HQ.out, d1] <;> rfl, rfl⟩

theorem letter_any (c : Int) (w : World) : Calls Try.prog 72 #[.int .u8 c] w fun e w' => e = .returned (.bool (inB c 97 122)) ∧ w = w' := by
  have HQ : Hid (inB c 97 122 = (decide (97 ≤ c) && decide (c ≤ 122))) := rfl
  generalize inB c 97 122 = q at *
  by_cases h1 : 97 ≤ c
  · by_cases h2 : c ≤ 122
    · have d1 : decide (97 ≤ c) = true := decide_eq_true h1
      have d2 : decide (c ≤ 122) = true := decide_eq_true h2
      go_enter Try.func72, Try.ntmps72
      go_wp2_with fail
      go_ret
      exact ⟨by rw [HQ.out, d1, d2] <;> rfl, rfl⟩
    · have d1 : decide (97 ≤ c) = true := decide_eq_true h1
      have d2 : decide (c ≤ 122) = false := decide_eq_false h2
      go_enter Try.func72, Try.ntmps72
      go_wp2_with fail
      go_ret
      exact ⟨by rw [HQ.out, d1, d2] <;> rfl, rfl⟩
  · have d1 : decide (97 ≤ c) = false := decide_eq_false h1
    go_enter Try.func72, Try.ntmps72
    go_wp2_with fail
    go_ret
    exact ⟨by rw [HQ.out, d1] <;> rfl, rfl⟩

theorem digit_any (c : Int) (w : World) : Calls Try.prog 74 #[.int .u8 c] w fun e w' => e = .returned (.bool (inB c 48 57)) ∧ w = w' := by
  have HQ : Hid (inB c 48 57 = (decide (48 ≤ c) && decide (c ≤ 57))) := rfl
  generalize inB c 48 57 = q at *
  by_cases h1 : 48 ≤ c
  · by_cases h2 : c ≤ 57
    · have d1 : decide (48 ≤ c) = true := decide_eq_true h1
      have d2 : decide (c ≤ 57) = true := decide_eq_true h2
      go_enter Try.func74, Try.ntmps74
      go_wp2_with fail
      go_ret
      exact ⟨by rw [HQ.out, d1, d2] <;> rfl, rfl⟩
    · have d1 : decide (48 ≤ c) = true := decide_eq_true h1
      have d2 : decide (c ≤ 57) = false := decide_eq_false h2
      go_enter Try.func74, Try.ntmps74
      go_wp2_with fail
      go_ret
      exact ⟨by rw [HQ.out, d1, d2] <;> rfl, rfl⟩
  · have d1 : decide (48 ≤ c) = false := decide_eq_false h1
    go_enter Try.func74, Try.ntmps74
    go_wp2_with fail
    go_ret
    exact ⟨by rw [HQ.out, d1] <;> rfl, rfl⟩

def hasS (l : List ByteArray) (s : ByteArray) : Bool := l.any (fun x => x.toList == s.toList)
theorem has_any {w : World} {bad : Nat → Prop} {v : Value} {l : List ByteArray} (h : Rd w bad 1 v l.length (scells l)) (s : ByteArray) :
    Calls Try.prog 66 #[v, .string s] w fun e w' => e = .returned (.bool (hasS l s)) ∧ Same noB w w' := by
  obtain ⟨A, c, rfl, hc1, hc2, hr1⟩ := h.form
  have H1 := Lib.hid hr1
  clear h hr1
  unfold maxLen at hc2
  have hn : l.length ≤ 9223372036854775807 := by omega
  clear hc1 hc2
  obtain ⟨q, hq⟩ : ∃ q, hasS l s = q := ⟨_, rfl⟩
  have HQ := Lib.hid hq
  rw [hq]
  clear hq
  go_enter Try.func66, Try.ntmps66
  go_wp2_with fail
  go_loop [5] (fun i => ∃ k : Nat, k ≤ l.length ∧ i = .int .i64 k ∧ Hid (∀ y ∈ l.take k, (y.toList == s.toList) = false)) (fun i => l.length - (intOf i).toNat)
  case atStart => exact ⟨0, Nat.zero_le _, rfl, by show ∀ y ∈ _, _; simp⟩
  case round =>
    obtain ⟨k, hk, rfl, HS⟩ := hrel
    by_cases hlt : k < l.length
    · obtain ⟨b, o, rfl, r1⟩ := H1.out.at_ (by omega)
      obtain ⟨y, hy⟩ : ∃ y, l[k]? = some y := ⟨_, List.getElem?_eq_getElem hlt⟩
      have p0 := s_at r1 hy
      have HY := Lib.hid hy
      clear r1 hy
      cases hb : (y.toList == s.toList)
      · have HN : Hid (∀ z ∈ l.take (k + 1), (z.toList == s.toList) = false) := by
          show ∀ z ∈ _, _
          rw [List.take_add_one, HY.out]
          intro z hz
          rcases List.mem_append.1 hz with h | h
          · exact HS.out z h
          · simp at h
            subst h
            exact hb
        go_wp2_with fail
        go_round
        case rel => exact ⟨k + 1, by omega, by go_num, HN.out⟩
        case measure => simp [intOf]; omega
      · have HT : Hid (q = true) := by
          show _ = _
          rw [← HQ.out]
          exact List.any_eq_true.2 ⟨y, List.mem_of_getElem? HY.out, hb⟩
        have he : y.toList = s.toList := eq_of_beq hb
        clear hb
        go_wp2_with fail
        go_ret
        exact ⟨by rw [HT.out] <;> rfl, Same.refl _ _⟩
    · obtain rfl : k = l.length := by omega
      have HT : Hid (q = false) := by
        show _ = _
        rw [← HQ.out]
        refine List.any_eq_false.2 (fun y hy => ?_)
        rw [HS.out y (by rw [List.take_of_length_le (Nat.le_refl _)]; exact hy)]
        decide
      go_wp2_with fail
      go_ret
      exact ⟨by rw [HT.out] <;> rfl, Same.refl _ _⟩
def kwL : List ByteArray := [⟨#[97, 108, 119, 97, 121, 115]⟩, ⟨#[98, 101, 102, 111, 114, 101]⟩, ⟨#[98, 121]⟩, ⟨#[99, 97, 112, 97, 99, 105, 116, 121]⟩, ⟨#[100, 97, 114, 107]⟩, ⟨#[100, 105, 115, 116, 117, 114, 98]⟩, ⟨#[102, 97, 105, 108, 117, 114, 101, 115]⟩, ⟨#[102, 101, 101, 100]⟩, ⟨#[103, 114, 111, 117, 112]⟩, ⟨#[105, 110]⟩, ⟨#[106, 111, 98]⟩, ⟨#[107, 101, 101, 112]⟩, ⟨#[108, 105, 110, 107]⟩, ⟨#[108, 111, 97, 100]⟩, ⟨#[109, 97, 99, 104, 105, 110, 101]⟩, ⟨#[111, 110]⟩, ⟨#[111, 110, 108, 121]⟩, ⟨#[111, 114, 100, 101, 114]⟩, ⟨#[112, 111, 111, 108]⟩, ⟨#[113, 117, 111, 114, 117, 109]⟩, ⟨#[114, 97, 99, 107]⟩, ⟨#[114, 101, 115, 101, 114, 118, 101]⟩, ⟨#[115, 104, 97, 114, 101]⟩, ⟨#[115, 105, 108, 101, 110, 99, 101]⟩, ⟨#[115, 105, 116, 101]⟩, ⟨#[115, 105, 122, 101]⟩, ⟨#[115, 108, 111, 116, 115]⟩, ⟨#[115, 112, 114, 101, 97, 100]⟩]
theorem keywords_any (w : World) : Calls Try.prog 73 #[] w fun e w' => ∃ v, e = .returned v ∧ Rd w' noB 1 v kwL.length (scells kwL) ∧ Same noB w w' := by
  have HR : Hid (Rd (w.alloc (.cells (scells kwL).toArray 9)) noB 1 (.slice (some ⟨w.heap.size, 0, none⟩) 28 28) 28 (scells kwL)) := Rd.of_blk (Blk.new _ _ _) (fun x => x) rfl (Nat.le_refl _) (by simp [maxLen])
  unfold kwL scells at HR
  simp only [List.map_cons, List.map_nil] at HR
  go_enter Try.func73, Try.ntmps73
  go_wp2_with fail
  go_ret
  exact ⟨_, rfl, HR.out, (Same.refl _ _).alloc _⟩
def chI (c : Int) : Bool := inB c 97 122 || inB c 48 57 || c == 95
def isNameB (s : ByteArray) : Bool := decide (1 ≤ s.size) && decide (s.size ≤ 31) && inB ((s.data.toList.getD 0 0).toNat : Int) 97 122 && !hasS kwL s && s.data.toList.all (fun c => chI (c.toNat : Int))

end Go.Proofs.Ytpngmodgnkjhnaa
