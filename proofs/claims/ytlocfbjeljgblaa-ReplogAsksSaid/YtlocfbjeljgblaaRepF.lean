/- Layer 36: Term of the program. (printed by genRepF.py) -/
import Derived.Test.YtlocfbjeljgblaaRepE
namespace Go.Proofs.Ytlocfbjeljgblaa
open Go Go.RowKit
set_option maxRecDepth 100000

def TmS (M : Nat) (b : Int) (w' : World) : Prop := w'.cell? ⟨M, 0, none⟩ = some (.int .i64 b)
set_option maxHeartbeats 4000000 in
theorem term_any {w : World} {M : Nat} {v : Value} {es : List En} {g : Lg} (h : LogIs w M v es g) (hf : g.Fit) {i : Int} (hi : inI64 i) :
    Calls Try.prog 18 #[.pointer (some ⟨M, 0, none⟩), .int .i64 i] w fun e w' => e = .returned (.tuple #[.int .i64 (g.termAt i).1, .bool (g.termAt i).2]) ∧ Same noB w w' := by
  obtain ⟨A, c, rfl, hc1, hc2⟩ := h.form
  obtain ⟨c0, c1, c2⟩ := h.cells
  have hl := h.len
  have hfl := hf.len
  have hlo := hf.lo
  have hhi := hf.hi
  by_cases h0 : i = g.base
  · have HL : Hid (g.termAt i = (g.term, true)) := by rw [h0]; exact g.termAt_base
    rw [HL.out]
    have hb : (i == g.base) = true := beq_iff_eq.2 h0
    clear hf h hl hfl hc1 h0 hlo hhi
    go_enter Try.func18, Try.ntmps18
    go_wp2_with fail
    go_ret2
    exact ⟨rfl, Same.refl _ _⟩
  have hb : (i == g.base) = false := beq_eq_false_iff_ne.2 h0
  by_cases h1 : i < g.base
  · have HL : Hid (g.termAt i = (0, false)) := Lg.termAt_no h0 (by omega)
    rw [HL.out]
    clear hf h hl hfl hc1 h0
    have hd : decide (i < g.base) = true := decide_eq_true h1
    go_enter Try.func18, Try.ntmps18
    go_wp2_with fail
    refine wp_region_held_drew (S := TmS M g.base) (by kernel_rfl) ?_ (fun hHeld => ?_)
    · exact c0
    refine wpAnyH_take (i := 0) (v := ?va0) rfl (by kernel_rfl) (by kernel_rfl) (by kernel_rfl) (fun _ _ _ h => h) (Or.inl ⟨?_, ?_⟩) (by assumption) ?_
    rotate_left 1
    · rfl
    · (intro w hSw; unfold TmS at hSw; go_simp; (try with_reducible rfl))
    go_simp
    refine wpAnyH_take (i := 1) (v := ?va1) rfl (by kernel_rfl) (by kernel_rfl) (by kernel_rfl) (fun _ _ _ h => h) (Or.inl ⟨?_, ?_⟩) (by assumption) ?_
    rotate_left 1
    · rfl
    · (intro w hSw; unfold TmS at hSw; go_simp; (try with_reducible rfl))
    go_simp
    refine wpAnyH_take (i := 2) (v := ?va2) rfl (by kernel_rfl) (by kernel_rfl) (by kernel_rfl) (fun _ _ _ h => h) (Or.inl ⟨?_, ?_⟩) (by assumption) ?_
    rotate_left 1
    · rfl
    · (intro w hSw; unfold TmS at hSw; go_simp; (try with_reducible rfl))
    go_simp
    refine wpAnyH_take (i := 3) (v := ?va3) rfl (by kernel_rfl) (by kernel_rfl) (by kernel_rfl) (fun _ _ _ h => h) (Or.inl ⟨?_, ?_⟩) (by assumption) ?_
    rotate_left 1
    · rfl
    · (intro w hSw; unfold TmS at hSw; go_simp; (try with_reducible rfl))
    go_simp
    refine wpAnyH_take (i := 4) (v := ?va4) rfl (by kernel_rfl) (by kernel_rfl) (by kernel_rfl) (fun _ _ _ h => h) (Or.inl ⟨?_, ?_⟩) (by assumption) ?_
    rotate_left 1
    · rfl
    · (intro w hSw; unfold TmS at hSw; go_simp; (try with_reducible rfl))
    go_simp
    refine wpAnyH_take (i := 5) (v := ?va5) rfl (by kernel_rfl) (by kernel_rfl) (by kernel_rfl) (fun _ _ _ h => h) (Or.inl ⟨?_, ?_⟩) (by assumption) ?_
    rotate_left 1
    · rfl
    · (intro w hSw; unfold TmS at hSw; go_simp; (try with_reducible rfl))
    go_simp
    refine wpAnyH_take (i := 6) (v := ?va6) rfl (by kernel_rfl) (by kernel_rfl) (by kernel_rfl) (fun _ _ _ h => h) (Or.inl ⟨?_, ?_⟩) (by assumption) ?_
    rotate_left 1
    · rfl
    · (intro w hSw; unfold TmS at hSw; go_simp; (try with_reducible rfl))
    go_simp
    refine wpAnyH_take (i := 7) (v := undef) rfl (by kernel_rfl) (by kernel_rfl) (by kernel_rfl) (fun _ _ _ h => h) (Or.inr ⟨?_, rfl⟩) (by assumption) ?_
    · rfl
    go_simp
    refine wpAnyH_take (i := 8) (v := undef) rfl (by kernel_rfl) (by kernel_rfl) (by kernel_rfl) (fun _ _ _ h => h) (Or.inr ⟨?_, rfl⟩) (by assumption) ?_
    · rfl
    go_simp
    refine wpAnyH_take (i := 9) (v := undef) rfl (by kernel_rfl) (by kernel_rfl) (by kernel_rfl) (fun _ _ _ h => h) (Or.inr ⟨?_, rfl⟩) (by assumption) ?_
    · rfl
    go_simp
    refine wpAnyH_take (i := 10) (v := undef) rfl (by kernel_rfl) (by kernel_rfl) (by kernel_rfl) (fun _ _ _ h => h) (Or.inr ⟨?_, rfl⟩) (by assumption) ?_
    · rfl
    go_simp
    refine wpAnyH_take (i := 11) (v := undef) rfl (by kernel_rfl) (by kernel_rfl) (by kernel_rfl) (fun _ _ _ h => h) (Or.inr ⟨?_, rfl⟩) (by assumption) ?_
    · rfl
    go_simp
    refine wpAnyH_take (i := 12) (v := undef) rfl (by kernel_rfl) (by kernel_rfl) (by kernel_rfl) (fun _ _ _ h => h) (Or.inr ⟨?_, rfl⟩) (by assumption) ?_
    · rfl
    go_simp
    refine wpAnyH_take (i := 13) (v := undef) rfl (by kernel_rfl) (by kernel_rfl) (by kernel_rfl) (fun _ _ _ h => h) (Or.inr ⟨?_, rfl⟩) (by assumption) ?_
    · rfl
    go_simp
    refine wpAnyH_take (i := 14) (v := undef) rfl (by kernel_rfl) (by kernel_rfl) (by kernel_rfl) (fun _ _ _ h => h) (Or.inr ⟨?_, rfl⟩) (by assumption) ?_
    · rfl
    go_simp
    refine wpAnyH_take (i := 15) (v := undef) rfl (by kernel_rfl) (by kernel_rfl) (by kernel_rfl) (fun _ _ _ h => h) (Or.inr ⟨?_, rfl⟩) (by assumption) ?_
    · rfl
    go_simp
    refine wpAnyH_take (i := 16) (v := undef) rfl (by kernel_rfl) (by kernel_rfl) (by kernel_rfl) (fun _ _ _ h => h) (Or.inr ⟨?_, rfl⟩) (by assumption) ?_
    · rfl
    go_simp
    refine wpAnyH_take (i := 17) (v := undef) rfl (by kernel_rfl) (by kernel_rfl) (by kernel_rfl) (fun _ _ _ h => h) (Or.inr ⟨?_, rfl⟩) (by assumption) ?_
    · rfl
    go_simp
    refine wpAnyH_take (i := 18) (v := undef) rfl (by kernel_rfl) (by kernel_rfl) (by kernel_rfl) (fun _ _ _ h => h) (Or.inr ⟨?_, rfl⟩) (by assumption) ?_
    · rfl
    go_simp
    refine wpAnyH_take (i := 19) (v := ?va19) rfl (by kernel_rfl) (by kernel_rfl) (by kernel_rfl) (fun _ _ _ h => h) (Or.inl ⟨?_, ?_⟩) (by assumption) ?_
    rotate_left 1
    · rfl
    · (intro w hSw; unfold TmS at hSw; go_simp; (try with_reducible rfl))
    go_simp
    refine wpAnyH_done (by kernel_rfl) ?_ _
    go_wp2_with fail
    go_ret2
    exact ⟨rfl, (Same.refl _ _).drew⟩
  have hd : decide (i < g.base) = false := decide_eq_false h1
  by_cases h2 : i ≤ g.base + g.es.length
  · obtain ⟨k, x, hik, hx⟩ := Lg.at_form (g := g) (i := i) (by omega) h2
    obtain ⟨b, o, e, hA, _, _, p0, p1⟩ := h.at_ hx
    have HL : Hid (g.termAt i = (x.t, true)) := by rw [hik]; exact Lg.termAt_yes hx
    rw [HL.out]
    subst hA
    have hkl := (List.getElem?_eq_some_iff.1 hx).1
    have hi1 : IntKind.i64.wrap (i - g.base) = (k : Int) + 1 := by rw [show i - g.base = (k : Int) + 1 from by omega]; exact IntWalk.i64_in _ (by omega)
    have hi2 : IntKind.i64.wrap (k : Int) = (k : Int) := IntWalk.i64_in _ (by omega)
    have hk0 : (0 : Int) ≤ (k : Int) := by omega
    have hk1 : (k : Int) < (es.length : Int) := by omega
    have hk2 : decide ((es.length : Int) < (k : Int) + 1) = false := decide_eq_false (by omega)
    have hk3 : es.length ≤ c := hc1
    clear h hf hl hfl hx hc1 h0 h1 h2 hik hkl hlo hhi
    go_enter Try.func18, Try.ntmps18
    go_wp2_with fail
    go_region_held3 (fun w' => w'.cell? ⟨M, 0, none⟩ = some (.int .i64 g.base) ∧ w'.cell? ⟨M, 2, none⟩ = some (.slice (some ⟨b, o, none⟩) es.length c))
      (first | (refine ⟨?_, ?_⟩ <;> with_reducible assumption) | go_keep)
      (fail)
    all_goals go_wp2_with fail
    all_goals
      go_region_held3 (fun w' => w'.cell? ⟨M, 0, none⟩ = some (.int .i64 g.base) ∧ w'.cell? ⟨M, 2, none⟩ = some (.slice (some ⟨b, o, none⟩) es.length c) ∧ w'.cell? ⟨b, o + k * 15 + 1, none⟩ = some (.int .i64 x.t))
        (first | (refine ⟨?_, ?_, ?_⟩ <;> with_reducible assumption) | go_keep)
        (fail)
    all_goals go_wp2_with fail
    all_goals
      go_ret2
      exact ⟨rfl, (Same.refl _ _).drew.drew⟩
  · have HL : Hid (g.termAt i = (0, false)) := Lg.termAt_no h0 (by omega)
    rw [HL.out]
    have hi2 := hi.2
    have hi1 : IntKind.i64.wrap (i - g.base) = i - g.base := IntWalk.i64_in _ (by omega)
    have hk2 : decide ((es.length : Int) < i - g.base) = true := decide_eq_true (by omega)
    clear h hf hl hfl hc1 h0 h1 h2 hlo hhi hi hi2
    go_enter Try.func18, Try.ntmps18
    go_wp2_with fail
    go_region_held3 (fun w' => w'.cell? ⟨M, 0, none⟩ = some (.int .i64 g.base) ∧ w'.cell? ⟨M, 2, none⟩ = some (.slice A es.length c))
      (first | (refine ⟨?_, ?_⟩ <;> with_reducible assumption) | go_keep)
      (fail)
    all_goals go_wp2_with fail
    all_goals
      go_ret2
      exact ⟨rfl, (Same.refl _ _).drew⟩
end Go.Proofs.Ytlocfbjeljgblaa
