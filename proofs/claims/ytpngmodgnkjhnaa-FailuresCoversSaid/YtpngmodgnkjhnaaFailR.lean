/- Layer 21: HasInt; what a failure that covers another one leaves. -/
import Derived.Test.YtpngmodgnkjhnaaFailQ
namespace Go.Proofs.Ytpngmodgnkjhnaa
open Go Go.RowKit Go.Maps
set_option maxRecDepth 100000

/-- A list that contains a number: HasInt says so. -/
theorem hasint_yes {w : World} {bad : Nat → Prop} {v : Value} {l : List Int} {x : Int} (h : Rd w bad 1 v l.length (icells l)) (hx : x ∈ l) :
    Calls Try.prog 30 #[v, .int .i64 x] w fun e w' => e = .returned (.bool true) ∧ Same noB w w' := by
  obtain ⟨A, c, rfl, hc1, hc2, hr1⟩ := h.form
  have H1 := Lib.hid hr1
  have HX := Lib.hid hx
  clear h hr1 hx
  unfold maxLen at hc2
  have hn : l.length ≤ 9223372036854775807 := by omega
  clear hc1 hc2
  go_enter Try.func30, Try.ntmps30
  go_wp2_with fail
  go_loop [5] (fun i => ∃ k : Nat, k ≤ l.length ∧ i = .int .i64 k ∧ Hid (∀ y ∈ l.take k, y ≠ x)) (fun i => l.length - (intOf i).toNat)
  case atStart => exact ⟨0, Nat.zero_le _, rfl, by show ∀ y ∈ _, _; simp⟩
  case round =>
    obtain ⟨k, hk, rfl, HS⟩ := hrel
    by_cases hlt : k < l.length
    · obtain ⟨b, o, rfl, r1⟩ := H1.out.at_ (by omega)
      obtain ⟨y, hy⟩ : ∃ y, l[k]? = some y := ⟨_, List.getElem?_eq_getElem hlt⟩
      have p0 := r1.cell k _ (icells_at hy)
      have HY := Lib.hid hy
      clear r1 hy
      by_cases hyx : y = x
      · subst hyx
        go_wp2_with fail
        go_ret
        exact ⟨rfl, Same.refl _ _⟩
      · have hb : (y == x) = false := beq_eq_false_iff_ne.2 hyx
        have HN : Hid (∀ z ∈ l.take (k + 1), z ≠ x) := by
          show ∀ z ∈ _, _
          rw [List.take_add_one, HY.out]
          intro z hz
          rcases List.mem_append.1 hz with h | h
          · exact HS.out z h
          · simp at h
            subst h
            exact hyx
        clear hyx
        go_wp2_with fail
        go_round
        case rel => exact ⟨k + 1, by omega, by go_num, HN.out⟩
        case measure => simp [intOf]; omega
    · exfalso
      have h1 := HS.out x (by rw [List.take_of_length_le (by omega)]; exact HX.out)
      exact h1 rfl
theorem survs_covers {m : Mdl} {P : List (List Un)} {f g : Fl} {item x : Int} (hc : coverB m f g = true) (hx : x ∈ survs m P f item) (he : exB x m.machines.length = true) : hitB m g x = false ∧ x ∈ survs m P g item := by
  unfold survs keepL at hx ⊢
  rw [List.mem_filter] at hx
  obtain ⟨h1, h2⟩ := hx
  obtain ⟨i, rfl, hi⟩ := exB_at he
  unfold coverB at hc
  rw [List.all_eq_true] at hc
  have h3 := hc i (List.mem_range.2 hi)
  unfold okB at h3
  have h4 : hitB m f ((i : Int) + 1) = false := by simpa using h2
  rw [h4, Bool.or_false] at h3
  have h5 : hitB m g ((i : Int) + 1) = false := by simpa using h3
  exact ⟨h5, List.mem_filter.2 ⟨h1, by rw [h5]; rfl⟩⟩
/-- Covers' memory. -/
structure CvI (w W : World) (p : MPl) (m : Mdl) (s : Sl) (P : List (List Un)) (f g : Fl) (M Q F G : Nat) (v1 v2 : Value) (l1 l2 : List Int) : Prop where
  lb : LB w W p m s P f g M Q F G
  r1 : Rd W noB 1 v1 l1.length (icells l1)
  r2 : Rd W noB 1 v2 l2.length (icells l2)
theorem CvI.keep {w W W' : World} {p : MPl} {m : Mdl} {s : Sl} {P : List (List Un)} {f g : Fl} {M Q F G : Nat} {v1 v2 : Value} {l1 l2 : List Int} (h : CvI w W p m s P f g M Q F G v1 v2 l1 l2) (hs : Same noB W W') : CvI w W' p m s P f g M Q F G v1 v2 l1 l2 := ⟨h.lb.keep hs, h.r1.keep hs, h.r2.keep hs⟩
end Go.Proofs.Ytpngmodgnkjhnaa
