/- Layer 36: Merge's closure of the program. (printed by genRepT.py) -/
import Derived.Test.YtlocfbjeljgblaaRepK
import Derived.Test.YtlocfbjeljgblaaRepF
import Derived.Test.YtlocfbjeljgblaaLate
namespace Go.Proofs.Ytlocfbjeljgblaa
open Go Go.RowKit
set_option maxRecDepth 100000

def Lg.fresh (g : Lg) (i t : Int) : Bool := decide (g.base < i) && (!(g.termAt i).2 || (g.termAt i).1 != t)
def McS (M N B : Nat) (base i t : Int) (w' : World) : Prop := w'.cell? ⟨N, 0, none⟩ = some (.int .i64 i) ∧ w'.cell? ⟨N, 1, none⟩ = some (.int .i64 t) ∧ w'.cell? ⟨M, 0, none⟩ = some (.int .i64 base) ∧ w'.cell? ⟨B, 0, none⟩ = some (.pointer (some ⟨M, 0, none⟩))

set_option maxHeartbeats 8000000 in
theorem mc_a {w : World} {M B : Nat} {base tt : Int} {e : En} (c0 : w.cell? ⟨M, 0, none⟩ = some (.int .i64 base)) (cb : w.cell? ⟨B, 0, none⟩ = some (.pointer (some ⟨M, 0, none⟩))) (h1 : ¬ base < e.i) (qq : Bool)
    (HT : Hid (∀ W : World, Same noB w W → Calls Try.prog 18 #[.pointer (some ⟨M, 0, none⟩), .int .i64 e.i] W fun r w' => r = .returned (.tuple #[.int .i64 tt, .bool qq]) ∧ Same noB W w')) :
    Calls Try.prog 50 #[e.val, .pointer (some ⟨B, 0, none⟩)] w fun r w' => r = .returned (.bool false) ∧ Same noB w w' := by
  have b1 : decide (base < e.i) = false := decide_eq_false h1
  go_enter Try.func50, Try.ntmps50
  go_upto_region 1 with (fail)
  refine wp_abs (fun W => W.cell? ⟨w.heap.size, 0, none⟩ = some (.int .i64 e.i) ∧ W.cell? ⟨w.heap.size, 1, none⟩ = some (.int .i64 e.t) ∧ W.cell? ⟨M, 0, none⟩ = some (.int .i64 base) ∧ W.cell? ⟨B, 0, none⟩ = some (.pointer (some ⟨M, 0, none⟩)) ∧ Hid (Same noB w W)) ⟨(Blk.new w 57 e.cells.toArray).cell 0, (Blk.new w 57 e.cells.toArray).cell 1, ((Same.refl noB w).alloc _).cell c0 (fun x => x), ((Same.refl noB w).alloc _).cell cb (fun x => x), (Same.refl _ _).alloc _⟩ ?_
  clear c0 cb
  rintro W ⟨d0, d1, c0, cb, HS⟩
  obtain ⟨N, hN⟩ : ∃ N, w.heap.size = N := ⟨_, rfl⟩
  rw [hN] at d0 d1 ⊢
  go_wp2_with fail
  (with_reducible refine Calls.mono (HT.out W HS.out) ?_)
  rintro r W2 ⟨rfl, hs2⟩
  replace d0 := hs2.cell d0 (fun x => x)
  replace d1 := hs2.cell d1 (fun x => x)
  replace c0 := hs2.cell c0 (fun x => x)
  replace cb := hs2.cell cb (fun x => x)
  have HS2 := Lib.hid (HS.out.trans' hs2)
  clear hs2 HT HS
  go_wp2_with fail
  refine wp_region_T (S := McS M N B base e.i e.t) (late := fun j => [].contains j) (by kernel_rfl) ?_ (fun hHeld => ?_)
  · exact ⟨d0, d1, c0, cb⟩
  refine T_pure (i := 0) (v := ?va0) rfl (by kernel_rfl) (by kernel_rfl) (by kernel_rfl) (fun _ _ _ h => h) (Or.inl ⟨?_, ?_⟩) ?_
  rotate_left 1
  · rfl
  · (intro w hSw; clear hSw; go_simp; (try with_reducible rfl))
  go_simp
  refine T_take (i := 1) (v := ?va1) rfl (by kernel_rfl) (by kernel_rfl) (by kernel_rfl) (by kernel_rfl) (fun _ _ _ h => h) (Or.inl ⟨?_, ?_⟩) (by assumption) ?_
  rotate_left 1
  · rfl
  · (intro w hSw; unfold McS at hSw; go_simp; (try with_reducible rfl))
  go_simp
  refine T_take (i := 2) (v := ?va2) rfl (by kernel_rfl) (by kernel_rfl) (by kernel_rfl) (by kernel_rfl) (fun _ _ _ h => h) (Or.inl ⟨?_, ?_⟩) (by assumption) ?_
  rotate_left 1
  · rfl
  · (intro w hSw; unfold McS at hSw; go_simp; (try with_reducible rfl))
  go_simp
  refine T_pure (i := 3) (v := ?va3) rfl (by kernel_rfl) (by kernel_rfl) (by kernel_rfl) (fun _ _ _ h => h) (Or.inl ⟨?_, ?_⟩) ?_
  rotate_left 1
  · rfl
  · (intro w hSw; clear hSw; go_simp; (try with_reducible rfl))
  go_simp
  refine T_pure (i := 4) (v := ?va4) rfl (by kernel_rfl) (by kernel_rfl) (by kernel_rfl) (fun _ _ _ h => h) (Or.inl ⟨?_, ?_⟩) ?_
  rotate_left 1
  · rfl
  · (intro w hSw; clear hSw; go_simp; (try with_reducible rfl))
  go_simp
  refine T_take (i := 5) (v := ?va5) rfl (by kernel_rfl) (by kernel_rfl) (by kernel_rfl) (by kernel_rfl) (fun _ _ _ h => h) (Or.inl ⟨?_, ?_⟩) (by assumption) ?_
  rotate_left 1
  · rfl
  · (intro w hSw; unfold McS at hSw; go_simp; (try with_reducible rfl))
  go_simp
  refine T_pure (i := 6) (v := ?va6) rfl (by kernel_rfl) (by kernel_rfl) (by kernel_rfl) (fun _ _ _ h => h) (Or.inl ⟨?_, ?_⟩) ?_
  rotate_left 1
  · rfl
  · (intro w hSw; clear hSw; go_simp; (try with_reducible rfl))
  go_simp
  refine T_pure (i := 7) (v := ?va7) rfl (by kernel_rfl) (by kernel_rfl) (by kernel_rfl) (fun _ _ _ h => h) (Or.inl ⟨?_, ?_⟩) ?_
  rotate_left 1
  · rfl
  · (intro w hSw; clear hSw; go_simp; (try with_reducible rfl))
  go_simp
  refine T_pure (i := 8) (v := undef) rfl (by kernel_rfl) (by kernel_rfl) (by kernel_rfl) (fun _ _ _ h => h) (Or.inr ⟨?_, rfl⟩) ?_
  · rfl
  go_simp
  refine T_pure (i := 9) (v := undef) rfl (by kernel_rfl) (by kernel_rfl) (by kernel_rfl) (fun _ _ _ h => h) (Or.inr ⟨?_, rfl⟩) ?_
  · rfl
  go_simp
  refine T_pure (i := 10) (v := undef) rfl (by kernel_rfl) (by kernel_rfl) (by kernel_rfl) (fun _ _ _ h => h) (Or.inr ⟨?_, rfl⟩) ?_
  · rfl
  go_simp
  refine T_pure (i := 11) (v := undef) rfl (by kernel_rfl) (by kernel_rfl) (by kernel_rfl) (fun _ _ _ h => h) (Or.inr ⟨?_, rfl⟩) ?_
  · rfl
  go_simp
  refine T_pure (i := 12) (v := undef) rfl (by kernel_rfl) (by kernel_rfl) (by kernel_rfl) (fun _ _ _ h => h) (Or.inr ⟨?_, rfl⟩) ?_
  · rfl
  go_simp
  refine T_pure (i := 13) (v := undef) rfl (by kernel_rfl) (by kernel_rfl) (by kernel_rfl) (fun _ _ _ h => h) (Or.inr ⟨?_, rfl⟩) ?_
  · rfl
  go_simp
  refine T_pure (i := 14) (v := undef) rfl (by kernel_rfl) (by kernel_rfl) (by kernel_rfl) (fun _ _ _ h => h) (Or.inr ⟨?_, rfl⟩) ?_
  · rfl
  go_simp
  refine T_pure (i := 15) (v := undef) rfl (by kernel_rfl) (by kernel_rfl) (by kernel_rfl) (fun _ _ _ h => h) (Or.inr ⟨?_, rfl⟩) ?_
  · rfl
  go_simp
  refine T_pure (i := 16) (v := ?va16) rfl (by kernel_rfl) (by kernel_rfl) (by kernel_rfl) (fun _ _ _ h => h) (Or.inl ⟨?_, ?_⟩) ?_
  rotate_left 1
  · rfl
  · (intro w hSw; clear hSw; go_simp; (try with_reducible rfl))
  go_simp
  refine T_pure (i := 17) (v := ?va17) rfl (by kernel_rfl) (by kernel_rfl) (by kernel_rfl) (fun _ _ _ h => h) (Or.inl ⟨?_, ?_⟩) ?_
  rotate_left 1
  · rfl
  · (intro w hSw; clear hSw; go_simp; (try with_reducible rfl))
  go_simp
  refine T_done (by kernel_rfl) ?_ _
  go_wp2_with fail
  go_ret
  exact ⟨rfl, HS2.out.drew⟩
set_option maxHeartbeats 8000000 in
theorem mc_b {w : World} {M B : Nat} {base tt : Int} {e : En} (c0 : w.cell? ⟨M, 0, none⟩ = some (.int .i64 base)) (cb : w.cell? ⟨B, 0, none⟩ = some (.pointer (some ⟨M, 0, none⟩))) (h1 : base < e.i)
    (HT : Hid (∀ W : World, Same noB w W → Calls Try.prog 18 #[.pointer (some ⟨M, 0, none⟩), .int .i64 e.i] W fun r w' => r = .returned (.tuple #[.int .i64 tt, .bool false]) ∧ Same noB W w')) :
    Calls Try.prog 50 #[e.val, .pointer (some ⟨B, 0, none⟩)] w fun r w' => r = .returned (.bool true) ∧ Same noB w w' := by
  have b1 : decide (base < e.i) = true := decide_eq_true h1
  go_enter Try.func50, Try.ntmps50
  go_upto_region 1 with (fail)
  refine wp_abs (fun W => W.cell? ⟨w.heap.size, 0, none⟩ = some (.int .i64 e.i) ∧ W.cell? ⟨w.heap.size, 1, none⟩ = some (.int .i64 e.t) ∧ W.cell? ⟨M, 0, none⟩ = some (.int .i64 base) ∧ W.cell? ⟨B, 0, none⟩ = some (.pointer (some ⟨M, 0, none⟩)) ∧ Hid (Same noB w W)) ⟨(Blk.new w 57 e.cells.toArray).cell 0, (Blk.new w 57 e.cells.toArray).cell 1, ((Same.refl noB w).alloc _).cell c0 (fun x => x), ((Same.refl noB w).alloc _).cell cb (fun x => x), (Same.refl _ _).alloc _⟩ ?_
  clear c0 cb
  rintro W ⟨d0, d1, c0, cb, HS⟩
  obtain ⟨N, hN⟩ : ∃ N, w.heap.size = N := ⟨_, rfl⟩
  rw [hN] at d0 d1 ⊢
  go_wp2_with fail
  (with_reducible refine Calls.mono (HT.out W HS.out) ?_)
  rintro r W2 ⟨rfl, hs2⟩
  replace d0 := hs2.cell d0 (fun x => x)
  replace d1 := hs2.cell d1 (fun x => x)
  replace c0 := hs2.cell c0 (fun x => x)
  replace cb := hs2.cell cb (fun x => x)
  have HS2 := Lib.hid (HS.out.trans' hs2)
  clear hs2 HT HS
  go_wp2_with fail
  refine wp_region_T (S := McS M N B base e.i e.t) (late := fun j => [].contains j) (by kernel_rfl) ?_ (fun hHeld => ?_)
  · exact ⟨d0, d1, c0, cb⟩
  refine T_pure (i := 0) (v := ?va0) rfl (by kernel_rfl) (by kernel_rfl) (by kernel_rfl) (fun _ _ _ h => h) (Or.inl ⟨?_, ?_⟩) ?_
  rotate_left 1
  · rfl
  · (intro w hSw; clear hSw; go_simp; (try with_reducible rfl))
  go_simp
  refine T_take (i := 1) (v := ?va1) rfl (by kernel_rfl) (by kernel_rfl) (by kernel_rfl) (by kernel_rfl) (fun _ _ _ h => h) (Or.inl ⟨?_, ?_⟩) (by assumption) ?_
  rotate_left 1
  · rfl
  · (intro w hSw; unfold McS at hSw; go_simp; (try with_reducible rfl))
  go_simp
  refine T_take (i := 2) (v := ?va2) rfl (by kernel_rfl) (by kernel_rfl) (by kernel_rfl) (by kernel_rfl) (fun _ _ _ h => h) (Or.inl ⟨?_, ?_⟩) (by assumption) ?_
  rotate_left 1
  · rfl
  · (intro w hSw; unfold McS at hSw; go_simp; (try with_reducible rfl))
  go_simp
  refine T_pure (i := 3) (v := ?va3) rfl (by kernel_rfl) (by kernel_rfl) (by kernel_rfl) (fun _ _ _ h => h) (Or.inl ⟨?_, ?_⟩) ?_
  rotate_left 1
  · rfl
  · (intro w hSw; clear hSw; go_simp; (try with_reducible rfl))
  go_simp
  refine T_pure (i := 4) (v := ?va4) rfl (by kernel_rfl) (by kernel_rfl) (by kernel_rfl) (fun _ _ _ h => h) (Or.inl ⟨?_, ?_⟩) ?_
  rotate_left 1
  · rfl
  · (intro w hSw; clear hSw; go_simp; (try with_reducible rfl))
  go_simp
  refine T_take (i := 5) (v := ?va5) rfl (by kernel_rfl) (by kernel_rfl) (by kernel_rfl) (by kernel_rfl) (fun _ _ _ h => h) (Or.inl ⟨?_, ?_⟩) (by assumption) ?_
  rotate_left 1
  · rfl
  · (intro w hSw; unfold McS at hSw; go_simp; (try with_reducible rfl))
  go_simp
  refine T_pure (i := 6) (v := ?va6) rfl (by kernel_rfl) (by kernel_rfl) (by kernel_rfl) (fun _ _ _ h => h) (Or.inl ⟨?_, ?_⟩) ?_
  rotate_left 1
  · rfl
  · (intro w hSw; clear hSw; go_simp; (try with_reducible rfl))
  go_simp
  refine T_pure (i := 7) (v := ?va7) rfl (by kernel_rfl) (by kernel_rfl) (by kernel_rfl) (fun _ _ _ h => h) (Or.inl ⟨?_, ?_⟩) ?_
  rotate_left 1
  · rfl
  · (intro w hSw; clear hSw; go_simp; (try with_reducible rfl))
  go_simp
  refine T_pure (i := 8) (v := ?va8) rfl (by kernel_rfl) (by kernel_rfl) (by kernel_rfl) (fun _ _ _ h => h) (Or.inl ⟨?_, ?_⟩) ?_
  rotate_left 1
  · rfl
  · (intro w hSw; clear hSw; go_simp; (try with_reducible rfl))
  go_simp
  refine T_pure (i := 9) (v := ?va9) rfl (by kernel_rfl) (by kernel_rfl) (by kernel_rfl) (fun _ _ _ h => h) (Or.inl ⟨?_, ?_⟩) ?_
  rotate_left 1
  · rfl
  · (intro w hSw; clear hSw; go_simp; (try with_reducible rfl))
  go_simp
  refine T_pure (i := 10) (v := ?va10) rfl (by kernel_rfl) (by kernel_rfl) (by kernel_rfl) (fun _ _ _ h => h) (Or.inl ⟨?_, ?_⟩) ?_
  rotate_left 1
  · rfl
  · (intro w hSw; clear hSw; go_simp; (try with_reducible rfl))
  go_simp
  refine T_pure (i := 11) (v := undef) rfl (by kernel_rfl) (by kernel_rfl) (by kernel_rfl) (fun _ _ _ h => h) (Or.inr ⟨?_, rfl⟩) ?_
  · rfl
  go_simp
  refine T_pure (i := 12) (v := undef) rfl (by kernel_rfl) (by kernel_rfl) (by kernel_rfl) (fun _ _ _ h => h) (Or.inr ⟨?_, rfl⟩) ?_
  · rfl
  go_simp
  refine T_pure (i := 13) (v := undef) rfl (by kernel_rfl) (by kernel_rfl) (by kernel_rfl) (fun _ _ _ h => h) (Or.inr ⟨?_, rfl⟩) ?_
  · rfl
  go_simp
  refine T_pure (i := 14) (v := undef) rfl (by kernel_rfl) (by kernel_rfl) (by kernel_rfl) (fun _ _ _ h => h) (Or.inr ⟨?_, rfl⟩) ?_
  · rfl
  go_simp
  refine T_pure (i := 15) (v := ?va15) rfl (by kernel_rfl) (by kernel_rfl) (by kernel_rfl) (fun _ _ _ h => h) (Or.inl ⟨?_, ?_⟩) ?_
  rotate_left 1
  · rfl
  · (intro w hSw; clear hSw; go_simp; (try with_reducible rfl))
  go_simp
  refine T_pure (i := 16) (v := ?va16) rfl (by kernel_rfl) (by kernel_rfl) (by kernel_rfl) (fun _ _ _ h => h) (Or.inl ⟨?_, ?_⟩) ?_
  rotate_left 1
  · rfl
  · (intro w hSw; clear hSw; go_simp; (try with_reducible rfl))
  go_simp
  refine T_pure (i := 17) (v := ?va17) rfl (by kernel_rfl) (by kernel_rfl) (by kernel_rfl) (fun _ _ _ h => h) (Or.inl ⟨?_, ?_⟩) ?_
  rotate_left 1
  · rfl
  · (intro w hSw; clear hSw; go_simp; (try with_reducible rfl))
  go_simp
  refine T_done (by kernel_rfl) ?_ _
  go_wp2_with fail
  go_ret
  exact ⟨rfl, HS2.out.drew⟩
set_option maxHeartbeats 8000000 in
theorem mc_c {w : World} {M B : Nat} {base tt : Int} {e : En} (c0 : w.cell? ⟨M, 0, none⟩ = some (.int .i64 base)) (cb : w.cell? ⟨B, 0, none⟩ = some (.pointer (some ⟨M, 0, none⟩))) (h1 : base < e.i)
    (HT : Hid (∀ W : World, Same noB w W → Calls Try.prog 18 #[.pointer (some ⟨M, 0, none⟩), .int .i64 e.i] W fun r w' => r = .returned (.tuple #[.int .i64 tt, .bool true]) ∧ Same noB W w')) :
    Calls Try.prog 50 #[e.val, .pointer (some ⟨B, 0, none⟩)] w fun r w' => r = .returned (.bool (tt != e.t)) ∧ Same noB w w' := by
  have b1 : decide (base < e.i) = true := decide_eq_true h1
  go_enter Try.func50, Try.ntmps50
  go_upto_region 1 with (fail)
  refine wp_abs (fun W => W.cell? ⟨w.heap.size, 0, none⟩ = some (.int .i64 e.i) ∧ W.cell? ⟨w.heap.size, 1, none⟩ = some (.int .i64 e.t) ∧ W.cell? ⟨M, 0, none⟩ = some (.int .i64 base) ∧ W.cell? ⟨B, 0, none⟩ = some (.pointer (some ⟨M, 0, none⟩)) ∧ Hid (Same noB w W)) ⟨(Blk.new w 57 e.cells.toArray).cell 0, (Blk.new w 57 e.cells.toArray).cell 1, ((Same.refl noB w).alloc _).cell c0 (fun x => x), ((Same.refl noB w).alloc _).cell cb (fun x => x), (Same.refl _ _).alloc _⟩ ?_
  clear c0 cb
  rintro W ⟨d0, d1, c0, cb, HS⟩
  obtain ⟨N, hN⟩ : ∃ N, w.heap.size = N := ⟨_, rfl⟩
  rw [hN] at d0 d1 ⊢
  go_wp2_with fail
  (with_reducible refine Calls.mono (HT.out W HS.out) ?_)
  rintro r W2 ⟨rfl, hs2⟩
  replace d0 := hs2.cell d0 (fun x => x)
  replace d1 := hs2.cell d1 (fun x => x)
  replace c0 := hs2.cell c0 (fun x => x)
  replace cb := hs2.cell cb (fun x => x)
  have HS2 := Lib.hid (HS.out.trans' hs2)
  clear hs2 HT HS
  go_wp2_with fail
  refine wp_region_T (S := McS M N B base e.i e.t) (late := fun j => [].contains j) (by kernel_rfl) ?_ (fun hHeld => ?_)
  · exact ⟨d0, d1, c0, cb⟩
  refine T_pure (i := 0) (v := ?va0) rfl (by kernel_rfl) (by kernel_rfl) (by kernel_rfl) (fun _ _ _ h => h) (Or.inl ⟨?_, ?_⟩) ?_
  rotate_left 1
  · rfl
  · (intro w hSw; clear hSw; go_simp; (try with_reducible rfl))
  go_simp
  refine T_take (i := 1) (v := ?va1) rfl (by kernel_rfl) (by kernel_rfl) (by kernel_rfl) (by kernel_rfl) (fun _ _ _ h => h) (Or.inl ⟨?_, ?_⟩) (by assumption) ?_
  rotate_left 1
  · rfl
  · (intro w hSw; unfold McS at hSw; go_simp; (try with_reducible rfl))
  go_simp
  refine T_take (i := 2) (v := ?va2) rfl (by kernel_rfl) (by kernel_rfl) (by kernel_rfl) (by kernel_rfl) (fun _ _ _ h => h) (Or.inl ⟨?_, ?_⟩) (by assumption) ?_
  rotate_left 1
  · rfl
  · (intro w hSw; unfold McS at hSw; go_simp; (try with_reducible rfl))
  go_simp
  refine T_pure (i := 3) (v := ?va3) rfl (by kernel_rfl) (by kernel_rfl) (by kernel_rfl) (fun _ _ _ h => h) (Or.inl ⟨?_, ?_⟩) ?_
  rotate_left 1
  · rfl
  · (intro w hSw; clear hSw; go_simp; (try with_reducible rfl))
  go_simp
  refine T_pure (i := 4) (v := ?va4) rfl (by kernel_rfl) (by kernel_rfl) (by kernel_rfl) (fun _ _ _ h => h) (Or.inl ⟨?_, ?_⟩) ?_
  rotate_left 1
  · rfl
  · (intro w hSw; clear hSw; go_simp; (try with_reducible rfl))
  go_simp
  refine T_take (i := 5) (v := ?va5) rfl (by kernel_rfl) (by kernel_rfl) (by kernel_rfl) (by kernel_rfl) (fun _ _ _ h => h) (Or.inl ⟨?_, ?_⟩) (by assumption) ?_
  rotate_left 1
  · rfl
  · (intro w hSw; unfold McS at hSw; go_simp; (try with_reducible rfl))
  go_simp
  refine T_pure (i := 6) (v := ?va6) rfl (by kernel_rfl) (by kernel_rfl) (by kernel_rfl) (fun _ _ _ h => h) (Or.inl ⟨?_, ?_⟩) ?_
  rotate_left 1
  · rfl
  · (intro w hSw; clear hSw; go_simp; (try with_reducible rfl))
  go_simp
  refine T_pure (i := 7) (v := ?va7) rfl (by kernel_rfl) (by kernel_rfl) (by kernel_rfl) (fun _ _ _ h => h) (Or.inl ⟨?_, ?_⟩) ?_
  rotate_left 1
  · rfl
  · (intro w hSw; clear hSw; go_simp; (try with_reducible rfl))
  go_simp
  refine T_pure (i := 8) (v := ?va8) rfl (by kernel_rfl) (by kernel_rfl) (by kernel_rfl) (fun _ _ _ h => h) (Or.inl ⟨?_, ?_⟩) ?_
  rotate_left 1
  · rfl
  · (intro w hSw; clear hSw; go_simp; (try with_reducible rfl))
  go_simp
  refine T_pure (i := 9) (v := ?va9) rfl (by kernel_rfl) (by kernel_rfl) (by kernel_rfl) (fun _ _ _ h => h) (Or.inl ⟨?_, ?_⟩) ?_
  rotate_left 1
  · rfl
  · (intro w hSw; clear hSw; go_simp; (try with_reducible rfl))
  go_simp
  refine T_pure (i := 10) (v := ?va10) rfl (by kernel_rfl) (by kernel_rfl) (by kernel_rfl) (fun _ _ _ h => h) (Or.inl ⟨?_, ?_⟩) ?_
  rotate_left 1
  · rfl
  · (intro w hSw; clear hSw; go_simp; (try with_reducible rfl))
  go_simp
  refine T_pure (i := 11) (v := ?va11) rfl (by kernel_rfl) (by kernel_rfl) (by kernel_rfl) (fun _ _ _ h => h) (Or.inl ⟨?_, ?_⟩) ?_
  rotate_left 1
  · rfl
  · (intro w hSw; clear hSw; go_simp; (try with_reducible rfl))
  go_simp
  refine T_pure (i := 12) (v := ?va12) rfl (by kernel_rfl) (by kernel_rfl) (by kernel_rfl) (fun _ _ _ h => h) (Or.inl ⟨?_, ?_⟩) ?_
  rotate_left 1
  · rfl
  · (intro w hSw; clear hSw; go_simp; (try with_reducible rfl))
  go_simp
  refine T_take (i := 13) (v := ?va13) rfl (by kernel_rfl) (by kernel_rfl) (by kernel_rfl) (by kernel_rfl) (fun _ _ _ h => h) (Or.inl ⟨?_, ?_⟩) (by assumption) ?_
  rotate_left 1
  · rfl
  · (intro w hSw; unfold McS at hSw; go_simp; (try with_reducible rfl))
  go_simp
  refine T_pure (i := 14) (v := ?va14) rfl (by kernel_rfl) (by kernel_rfl) (by kernel_rfl) (fun _ _ _ h => h) (Or.inl ⟨?_, ?_⟩) ?_
  rotate_left 1
  · rfl
  · (intro w hSw; clear hSw; go_simp; (try with_reducible rfl))
  go_simp
  refine T_pure (i := 15) (v := ?va15) rfl (by kernel_rfl) (by kernel_rfl) (by kernel_rfl) (fun _ _ _ h => h) (Or.inl ⟨?_, ?_⟩) ?_
  rotate_left 1
  · rfl
  · (intro w hSw; clear hSw; go_simp; (try with_reducible rfl))
  go_simp
  refine T_pure (i := 16) (v := ?va16) rfl (by kernel_rfl) (by kernel_rfl) (by kernel_rfl) (fun _ _ _ h => h) (Or.inl ⟨?_, ?_⟩) ?_
  rotate_left 1
  · rfl
  · (intro w hSw; clear hSw; go_simp; (try with_reducible rfl))
  go_simp
  refine T_pure (i := 17) (v := ?va17) rfl (by kernel_rfl) (by kernel_rfl) (by kernel_rfl) (fun _ _ _ h => h) (Or.inl ⟨?_, ?_⟩) ?_
  rotate_left 1
  · rfl
  · (intro w hSw; clear hSw; go_simp; (try with_reducible rfl))
  go_simp
  refine T_done (by kernel_rfl) ?_ _
  go_wp2_with fail
  go_ret
  exact ⟨rfl, HS2.out.drew⟩
theorem mc_any {w : World} {M B : Nat} {v : Value} {es : List En} {g : Lg} (h : LogIs w M v es g) (hf : g.Fit) (cb : w.cell? ⟨B, 0, none⟩ = some (.pointer (some ⟨M, 0, none⟩))) {e : En} (hi : inI64 e.i) :
    Calls Try.prog 50 #[e.val, .pointer (some ⟨B, 0, none⟩)] w fun r w' => r = .returned (.bool (g.fresh e.i e.t)) ∧ Same noB w w' := by
  have hT := fun (W : World) (hs : Same noB w W) => term_any (h.keep hs) hf hi
  have c0 := h.cells.1
  unfold Lg.fresh
  by_cases h1 : g.base < e.i
  · rw [decide_eq_true h1]
    cases hq : (g.termAt e.i).2 with
    | false =>
      rw [hq] at hT
      exact mc_b c0 cb h1 (Lib.hid hT)
    | true =>
      rw [hq] at hT
      exact mc_c c0 cb h1 (Lib.hid hT)
  · rw [decide_eq_false h1]
    exact mc_a c0 cb h1 _ (Lib.hid hT)
end Go.Proofs.Ytlocfbjeljgblaa
