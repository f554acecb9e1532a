/- Layer 36: Merge of the reference: where the entries do not follow. (printed by genRepMA.py) -/
import Derived.Test.YtlocfbjeljgblaaRepN
import Derived.Test.YtlocfbjeljgblaaRepW
import Derived.Test.YtlocfbjeljgblaaRepX
import Derived.Test.YtlocfbjeljgblaaLate
namespace Go.Proofs.Ytlocfbjeljgblaa
open Go Go.RowKit
set_option maxRecDepth 100000

set_option maxHeartbeats 8000000 in
theorem rmerge_no1 {w : World} {n c ln lc : Nat} {A L : Option Addr} {base term i t : Int} (H60 : Hid (∀ W : World, Same noB w W → Calls Try.prog 60 #[.int .i64 i, .int .i64 t, .slice A n c] W fun r w' => r = .returned (.bool false) ∧ Same noB W w')) :
    Calls Try.prog 42 #[.agg #[.int .i64 base, .int .i64 term, .slice L ln lc], .int .i64 i, .int .i64 t, .slice A n c] w fun r w' => r = .returned (.tuple #[.agg #[.int .i64 base, .int .i64 term, .slice L ln lc], .int .i64 0, .slice none 0 0, .bool false]) ∧ Same noB w w' := by
  go_enter Try.func42, Try.ntmps42
  go_upto_region 1 with (fail)
  refine wp_abs (fun W => W.cell? ⟨w.heap.size, 0, none⟩ = some (.int .i64 base) ∧ W.cell? ⟨w.heap.size, 1, none⟩ = some (.int .i64 term) ∧ W.cell? ⟨w.heap.size, 2, none⟩ = some (.slice L ln lc) ∧ Hid (Blk W w.heap.size 29 #[.int .i64 base, .int .i64 term, .slice L ln lc]) ∧ Hid (Blk W (w.heap.size + 1) 29 #[.int .i64 0, .int .i64 0, .slice none 0 0]) ∧ Hid (Same noB w W)) ⟨by go_simp, by go_simp, by go_simp, (Blk.new w 29 _).alloc _, by have := Blk.new (w.alloc (.cells #[.int .i64 base, .int .i64 term, .slice L ln lc] 29)) 29 #[.int .i64 0, .int .i64 0, .slice none 0 0]; rw [World.size_alloc] at this; exact this, ((Same.refl _ _).alloc _).alloc _⟩ ?_
  rintro W0 ⟨d0, d1, d2, HN, HB, HS⟩
  obtain ⟨N, hN⟩ : ∃ N, w.heap.size = N := ⟨_, rfl⟩
  rw [hN] at d0 d1 d2 HN HB ⊢
  go_wp2_with fail
  (with_reducible refine Calls.mono (H60.out W0 HS.out) ?_)
  rintro r W1 ⟨rfl, hs1⟩
  replace d0 := hs1.cell d0 (fun x => x)
  replace d1 := hs1.cell d1 (fun x => x)
  replace d2 := hs1.cell d2 (fun x => x)
  replace HN := Lib.hid (HN.out.same hs1 (fun x => x))
  replace HB := Lib.hid (HB.out.same hs1 (fun x => x))
  replace HS := Lib.hid (HS.out.trans' hs1)
  clear hs1 H60
  have HB7 := Lib.hid (row_stored HB.out #[.int .i64 base, .int .i64 term, .slice L ln lc])
  go_wp2_with (refine wpList_store_row rfl 29 _ _ rfl (N + 1) #[.int .i64 base, .int .i64 term, .slice L ln lc] rfl rfl 29 _ HB.out (by kernel_rfl) rfl (row29_one base term L ln lc) ?_)
  (try simp only [Exit.inBlock, Exit.then])
  refine bodyPost_ret (res_cttt rfl HB7.out.1 rfl rfl rfl rfl) rfl ?_
  exact ⟨rfl, HS.out.trans HB7.out.2 (fun b hb hx => by have h3 : b = N + 1 := hx; omega)⟩

def RmS (N : Nat) (base term : Int) (v : Value) (w' : World) : Prop := w'.cell? ⟨N, 0, none⟩ = some (.int .i64 base) ∧ w'.cell? ⟨N, 1, none⟩ = some (.int .i64 term) ∧ w'.cell? ⟨N, 2, none⟩ = some v
set_option maxHeartbeats 8000000 in
theorem rmerge_no2 {w : World} {n c ln lc : Nat} {A L : Option Addr} {base term i t last lt j j2 : Int} (hw : IntKind.i64.wrap (i - 1) = i - 1) (hj1 : (if i - 1 < last then i - 1 else last) = j) (hj2 : (if base < j then j else base) = j2) (H60 : Hid (∀ W : World, Same noB w W → Calls Try.prog 60 #[.int .i64 i, .int .i64 t, .slice A n c] W fun r w' => r = .returned (.bool true) ∧ Same noB W w')) (H39 : Hid (∀ W : World, Same noB w W → Calls Try.prog 39 #[.agg #[.int .i64 base, .int .i64 term, .slice L ln lc]] W fun r w' => r = .returned (.tuple #[.int .i64 last, .int .i64 lt]) ∧ Same noB W w')) (H61 : Hid (∀ W : World, Same noB w W → Calls Try.prog 61 #[.agg #[.int .i64 base, .int .i64 term, .slice L ln lc], .int .i64 i, .int .i64 t] W fun r w' => r = .returned (.bool false) ∧ Same noB W w'))  :
    Calls Try.prog 42 #[.agg #[.int .i64 base, .int .i64 term, .slice L ln lc], .int .i64 i, .int .i64 t, .slice A n c] w fun r w' => r = .returned (.tuple #[.agg #[.int .i64 base, .int .i64 term, .slice L ln lc], .int .i64 j2, .slice none 0 0, .bool false]) ∧ Same noB w w' := by
  have HJ := Lib.hid (And.intro hj1 hj2)
  clear hj1 hj2
  go_enter Try.func42, Try.ntmps42
  go_upto_region 1 with (fail)
  refine wp_abs (fun W => W.cell? ⟨w.heap.size, 0, none⟩ = some (.int .i64 base) ∧ W.cell? ⟨w.heap.size, 1, none⟩ = some (.int .i64 term) ∧ W.cell? ⟨w.heap.size, 2, none⟩ = some (.slice L ln lc) ∧ Hid (Blk W w.heap.size 29 #[.int .i64 base, .int .i64 term, .slice L ln lc]) ∧ Hid (Blk W (w.heap.size + 1) 29 #[.int .i64 0, .int .i64 0, .slice none 0 0]) ∧ Hid (Same noB w W)) ⟨by go_simp, by go_simp, by go_simp, (Blk.new w 29 _).alloc _, by have := Blk.new (w.alloc (.cells #[.int .i64 base, .int .i64 term, .slice L ln lc] 29)) 29 #[.int .i64 0, .int .i64 0, .slice none 0 0]; rw [World.size_alloc] at this; exact this, ((Same.refl _ _).alloc _).alloc _⟩ ?_
  rintro W0 ⟨d0, d1, d2, HN, HB, HS⟩
  obtain ⟨N, hN⟩ : ∃ N, w.heap.size = N := ⟨_, rfl⟩
  rw [hN] at d0 d1 d2 HN HB ⊢
  go_wp2_with fail
  (with_reducible refine Calls.mono (H60.out W0 HS.out) ?_)
  rintro r W1 ⟨rfl, hs1⟩
  replace d0 := hs1.cell d0 (fun x => x)
  replace d1 := hs1.cell d1 (fun x => x)
  replace d2 := hs1.cell d2 (fun x => x)
  replace HN := Lib.hid (HN.out.same hs1 (fun x => x))
  replace HB := Lib.hid (HB.out.same hs1 (fun x => x))
  replace HS := Lib.hid (HS.out.trans' hs1)
  clear hs1 H60
  go_wp2_with fail
  (with_reducible refine Calls.mono (H39.out W1 HS.out) ?_)
  rintro r W2 ⟨rfl, hs1⟩
  replace d0 := hs1.cell d0 (fun x => x)
  replace d1 := hs1.cell d1 (fun x => x)
  replace d2 := hs1.cell d2 (fun x => x)
  replace HN := Lib.hid (HN.out.same hs1 (fun x => x))
  replace HB := Lib.hid (HB.out.same hs1 (fun x => x))
  replace HS := Lib.hid (HS.out.trans' hs1)
  clear hs1 H39
  go_wp2_with fail
  (with_reducible refine Calls.mono (H61.out W2 HS.out) ?_)
  rintro r W3 ⟨rfl, hs1⟩
  replace d0 := hs1.cell d0 (fun x => x)
  replace d1 := hs1.cell d1 (fun x => x)
  replace d2 := hs1.cell d2 (fun x => x)
  replace HN := Lib.hid (HN.out.same hs1 (fun x => x))
  replace HB := Lib.hid (HB.out.same hs1 (fun x => x))
  replace HS := Lib.hid (HS.out.trans' hs1)
  clear hs1 H61
  go_wp2_with fail
  have hj1 := HJ.out.1
  have hj2 := HJ.out.2
  have z0 := HB.out.frozen 0
  have z1 := HB.out.frozen 1
  have z2 := HB.out.frozen 2
  have y0 : W3.cell? ⟨N + 1, 0, none⟩ = some (.int .i64 0) := HB.out.cell 0
  have y1 : W3.cell? ⟨N + 1, 1, none⟩ = some (.int .i64 0) := HB.out.cell 1
  have y2 : W3.cell? ⟨N + 1, 2, none⟩ = some (.slice none 0 0) := HB.out.cell 2
  have HB7 := Lib.hid (((HB.out.drew.set_ 0 (.int .i64 base)).set_ 1 (.int .i64 term)).set_ 2 (.slice L ln lc))
  have HS7 := Lib.hid ((((Same.refl (oneB (N + 1)) W3).drew.set1 0 (.int .i64 base)).set1 1 (.int .i64 term)).set1 2 (.slice L ln lc))
  refine wp_region_T (S := RmS N base term (.slice L ln lc)) (late := fun j => [].contains j) (by kernel_rfl) ?_ (fun hHeld => ?_)
  · exact ⟨d0, d1, d2⟩
  refine T_take (i := 0) (v := ?va0) rfl (by kernel_rfl) (by kernel_rfl) (by kernel_rfl) (by kernel_rfl) (fun _ _ _ h => h) (Or.inl ⟨?_, ?_⟩) (by assumption) ?_
  rotate_left 1
  · rfl
  · (intro w hSw; unfold RmS at hSw; go_simp; (try with_reducible rfl))
  go_simp
  refine T_pure (i := 1) (v := ?va1) rfl (by kernel_rfl) (by kernel_rfl) (by kernel_rfl) (fun _ _ _ h => h) (Or.inl ⟨?_, ?_⟩) ?_
  rotate_left 1
  · rfl
  · (intro w hSw; clear hSw; go_simp; (try with_reducible rfl))
  go_simp
  refine T_take (i := 2) (v := ?va2) rfl (by kernel_rfl) (by kernel_rfl) (by kernel_rfl) (by kernel_rfl) (fun _ _ _ h => h) (Or.inl ⟨?_, ?_⟩) (by assumption) ?_
  rotate_left 1
  · rfl
  · (intro w hSw; unfold RmS at hSw; go_simp; (try with_reducible rfl))
  go_simp
  refine T_pure (i := 3) (v := ?va3) rfl (by kernel_rfl) (by kernel_rfl) (by kernel_rfl) (fun _ _ _ h => h) (Or.inl ⟨?_, ?_⟩) ?_
  rotate_left 1
  · rfl
  · (intro w hSw; clear hSw; go_simp; (try with_reducible rfl))
  go_simp
  refine T_pure (i := 4) (v := ?va4) rfl (by kernel_rfl) (by kernel_rfl) (by kernel_rfl) (fun _ _ _ h => h) (Or.inl ⟨?_, ?_⟩) ?_
  rotate_left 1
  · rfl
  · (intro w hSw; clear hSw; go_simp; (try with_reducible rfl))
  go_simp
  refine T_pure (i := 5) (v := ?va5) rfl (by kernel_rfl) (by kernel_rfl) (by kernel_rfl) (fun _ _ _ h => h) (Or.inl ⟨?_, ?_⟩) ?_
  rotate_left 1
  · rfl
  · (intro w hSw; clear hSw; go_simp; (try with_reducible rfl))
  go_simp
  refine T_pure (i := 6) (v := ?va6) rfl (by kernel_rfl) (by kernel_rfl) (by kernel_rfl) (fun _ _ _ h => h) (Or.inl ⟨?_, ?_⟩) ?_
  rotate_left 1
  · rfl
  · (intro w hSw; clear hSw; go_simp; (try with_reducible rfl))
  go_simp
  refine T_pure (i := 7) (v := ?va7) rfl (by kernel_rfl) (by kernel_rfl) (by kernel_rfl) (fun _ _ _ h => h) (Or.inl ⟨?_, ?_⟩) ?_
  rotate_left 1
  · rfl
  · (intro w hSw; clear hSw; go_simp; (try with_reducible rfl))
  go_simp
  refine T_ready (rs := [8]) (by kernel_rfl) (by simp) ?_
  refine ReadyT.early rfl (fun K hK => ?_) ReadyT.nil
  go_simp
  refine hK.out _ _ ?_ (fun hHeld => ?_)
  · exact ⟨HS7.out.cell d0 (fun e => absurd e (Nat.ne_of_lt (Nat.lt_succ_self N))), HS7.out.cell d1 (fun e => absurd e (Nat.ne_of_lt (Nat.lt_succ_self N))), HS7.out.cell d2 (fun e => absurd e (Nat.ne_of_lt (Nat.lt_succ_self N)))⟩
  clear hK K
  refine T_pure (i := 9) (v := ?va9) rfl (by kernel_rfl) (by kernel_rfl) (by kernel_rfl) (fun _ _ _ h => h) (Or.inl ⟨?_, ?_⟩) ?_
  rotate_left 1
  · rfl
  · (intro w hSw; clear hSw; go_simp; (try with_reducible rfl))
  go_simp
  refine T_pure (i := 10) (v := ?va10) rfl (by kernel_rfl) (by kernel_rfl) (by kernel_rfl) (fun _ _ _ h => h) (Or.inl ⟨?_, ?_⟩) ?_
  rotate_left 1
  · rfl
  · (intro w hSw; clear hSw; go_simp; (try with_reducible rfl))
  go_simp
  refine T_pure (i := 11) (v := ?va11) rfl (by kernel_rfl) (by kernel_rfl) (by kernel_rfl) (fun _ _ _ h => h) (Or.inl ⟨?_, ?_⟩) ?_
  rotate_left 1
  · rfl
  · (intro w hSw; clear hSw; go_simp; (try with_reducible rfl))
  go_simp
  refine T_done (by kernel_rfl) ?_ _
  go_wp2_with fail
  (try simp only [Exit.inBlock, Exit.then])
  refine bodyPost_ret (res_cttt rfl HB7.out rfl rfl rfl rfl) rfl ?_
  exact ⟨rfl, HS.out.trans HS7.out (fun b hb hx => by have h3 : b = N + 1 := hx; omega)⟩
set_option maxHeartbeats 8000000 in
theorem rmerge_no3 {w : World} {n c ln lc : Nat} {A L : Option Addr} {base term i t last lt j j2 : Int} (hw : IntKind.i64.wrap (i - 1) = i - 1) (hj1 : (if i - 1 < last then i - 1 else last) = j) (hj2 : (if base < j then j else base) = j2) (H60 : Hid (∀ W : World, Same noB w W → Calls Try.prog 60 #[.int .i64 i, .int .i64 t, .slice A n c] W fun r w' => r = .returned (.bool true) ∧ Same noB W w')) (H39 : Hid (∀ W : World, Same noB w W → Calls Try.prog 39 #[.agg #[.int .i64 base, .int .i64 term, .slice L ln lc]] W fun r w' => r = .returned (.tuple #[.int .i64 last, .int .i64 lt]) ∧ Same noB W w')) (H61 : Hid (∀ W : World, Same noB w W → Calls Try.prog 61 #[.agg #[.int .i64 base, .int .i64 term, .slice L ln lc], .int .i64 i, .int .i64 t] W fun r w' => r = .returned (.bool true) ∧ Same noB W w')) (H62 : Hid (∀ W : World, Same noB w W → Calls Try.prog 62 #[.agg #[.int .i64 base, .int .i64 term, .slice L ln lc], .slice A n c] W fun r w' => r = .returned (.bool true) ∧ Same noB W w')) :
    Calls Try.prog 42 #[.agg #[.int .i64 base, .int .i64 term, .slice L ln lc], .int .i64 i, .int .i64 t, .slice A n c] w fun r w' => r = .returned (.tuple #[.agg #[.int .i64 base, .int .i64 term, .slice L ln lc], .int .i64 j2, .slice none 0 0, .bool false]) ∧ Same noB w w' := by
  have HJ := Lib.hid (And.intro hj1 hj2)
  clear hj1 hj2
  go_enter Try.func42, Try.ntmps42
  go_upto_region 1 with (fail)
  refine wp_abs (fun W => W.cell? ⟨w.heap.size, 0, none⟩ = some (.int .i64 base) ∧ W.cell? ⟨w.heap.size, 1, none⟩ = some (.int .i64 term) ∧ W.cell? ⟨w.heap.size, 2, none⟩ = some (.slice L ln lc) ∧ Hid (Blk W w.heap.size 29 #[.int .i64 base, .int .i64 term, .slice L ln lc]) ∧ Hid (Blk W (w.heap.size + 1) 29 #[.int .i64 0, .int .i64 0, .slice none 0 0]) ∧ Hid (Same noB w W)) ⟨by go_simp, by go_simp, by go_simp, (Blk.new w 29 _).alloc _, by have := Blk.new (w.alloc (.cells #[.int .i64 base, .int .i64 term, .slice L ln lc] 29)) 29 #[.int .i64 0, .int .i64 0, .slice none 0 0]; rw [World.size_alloc] at this; exact this, ((Same.refl _ _).alloc _).alloc _⟩ ?_
  rintro W0 ⟨d0, d1, d2, HN, HB, HS⟩
  obtain ⟨N, hN⟩ : ∃ N, w.heap.size = N := ⟨_, rfl⟩
  rw [hN] at d0 d1 d2 HN HB ⊢
  go_wp2_with fail
  (with_reducible refine Calls.mono (H60.out W0 HS.out) ?_)
  rintro r W1 ⟨rfl, hs1⟩
  replace d0 := hs1.cell d0 (fun x => x)
  replace d1 := hs1.cell d1 (fun x => x)
  replace d2 := hs1.cell d2 (fun x => x)
  replace HN := Lib.hid (HN.out.same hs1 (fun x => x))
  replace HB := Lib.hid (HB.out.same hs1 (fun x => x))
  replace HS := Lib.hid (HS.out.trans' hs1)
  clear hs1 H60
  go_wp2_with fail
  (with_reducible refine Calls.mono (H39.out W1 HS.out) ?_)
  rintro r W2 ⟨rfl, hs1⟩
  replace d0 := hs1.cell d0 (fun x => x)
  replace d1 := hs1.cell d1 (fun x => x)
  replace d2 := hs1.cell d2 (fun x => x)
  replace HN := Lib.hid (HN.out.same hs1 (fun x => x))
  replace HB := Lib.hid (HB.out.same hs1 (fun x => x))
  replace HS := Lib.hid (HS.out.trans' hs1)
  clear hs1 H39
  go_wp2_with fail
  (with_reducible refine Calls.mono (H61.out W2 HS.out) ?_)
  rintro r W3 ⟨rfl, hs1⟩
  replace d0 := hs1.cell d0 (fun x => x)
  replace d1 := hs1.cell d1 (fun x => x)
  replace d2 := hs1.cell d2 (fun x => x)
  replace HN := Lib.hid (HN.out.same hs1 (fun x => x))
  replace HB := Lib.hid (HB.out.same hs1 (fun x => x))
  replace HS := Lib.hid (HS.out.trans' hs1)
  clear hs1 H61
  go_wp2_with fail
  (with_reducible refine Calls.mono (H62.out W3 HS.out) ?_)
  rintro r W4 ⟨rfl, hs1⟩
  replace d0 := hs1.cell d0 (fun x => x)
  replace d1 := hs1.cell d1 (fun x => x)
  replace d2 := hs1.cell d2 (fun x => x)
  replace HN := Lib.hid (HN.out.same hs1 (fun x => x))
  replace HB := Lib.hid (HB.out.same hs1 (fun x => x))
  replace HS := Lib.hid (HS.out.trans' hs1)
  clear hs1 H62
  go_wp2_with fail
  have hj1 := HJ.out.1
  have hj2 := HJ.out.2
  have z0 := HB.out.frozen 0
  have z1 := HB.out.frozen 1
  have z2 := HB.out.frozen 2
  have y0 : W4.cell? ⟨N + 1, 0, none⟩ = some (.int .i64 0) := HB.out.cell 0
  have y1 : W4.cell? ⟨N + 1, 1, none⟩ = some (.int .i64 0) := HB.out.cell 1
  have y2 : W4.cell? ⟨N + 1, 2, none⟩ = some (.slice none 0 0) := HB.out.cell 2
  have HB7 := Lib.hid (((HB.out.drew.set_ 0 (.int .i64 base)).set_ 1 (.int .i64 term)).set_ 2 (.slice L ln lc))
  have HS7 := Lib.hid ((((Same.refl (oneB (N + 1)) W4).drew.set1 0 (.int .i64 base)).set1 1 (.int .i64 term)).set1 2 (.slice L ln lc))
  refine wp_region_T (S := RmS N base term (.slice L ln lc)) (late := fun j => [].contains j) (by kernel_rfl) ?_ (fun hHeld => ?_)
  · exact ⟨d0, d1, d2⟩
  refine T_take (i := 0) (v := ?va0) rfl (by kernel_rfl) (by kernel_rfl) (by kernel_rfl) (by kernel_rfl) (fun _ _ _ h => h) (Or.inl ⟨?_, ?_⟩) (by assumption) ?_
  rotate_left 1
  · rfl
  · (intro w hSw; unfold RmS at hSw; go_simp; (try with_reducible rfl))
  go_simp
  refine T_pure (i := 1) (v := ?va1) rfl (by kernel_rfl) (by kernel_rfl) (by kernel_rfl) (fun _ _ _ h => h) (Or.inl ⟨?_, ?_⟩) ?_
  rotate_left 1
  · rfl
  · (intro w hSw; clear hSw; go_simp; (try with_reducible rfl))
  go_simp
  refine T_take (i := 2) (v := ?va2) rfl (by kernel_rfl) (by kernel_rfl) (by kernel_rfl) (by kernel_rfl) (fun _ _ _ h => h) (Or.inl ⟨?_, ?_⟩) (by assumption) ?_
  rotate_left 1
  · rfl
  · (intro w hSw; unfold RmS at hSw; go_simp; (try with_reducible rfl))
  go_simp
  refine T_pure (i := 3) (v := ?va3) rfl (by kernel_rfl) (by kernel_rfl) (by kernel_rfl) (fun _ _ _ h => h) (Or.inl ⟨?_, ?_⟩) ?_
  rotate_left 1
  · rfl
  · (intro w hSw; clear hSw; go_simp; (try with_reducible rfl))
  go_simp
  refine T_pure (i := 4) (v := ?va4) rfl (by kernel_rfl) (by kernel_rfl) (by kernel_rfl) (fun _ _ _ h => h) (Or.inl ⟨?_, ?_⟩) ?_
  rotate_left 1
  · rfl
  · (intro w hSw; clear hSw; go_simp; (try with_reducible rfl))
  go_simp
  refine T_pure (i := 5) (v := ?va5) rfl (by kernel_rfl) (by kernel_rfl) (by kernel_rfl) (fun _ _ _ h => h) (Or.inl ⟨?_, ?_⟩) ?_
  rotate_left 1
  · rfl
  · (intro w hSw; clear hSw; go_simp; (try with_reducible rfl))
  go_simp
  refine T_pure (i := 6) (v := ?va6) rfl (by kernel_rfl) (by kernel_rfl) (by kernel_rfl) (fun _ _ _ h => h) (Or.inl ⟨?_, ?_⟩) ?_
  rotate_left 1
  · rfl
  · (intro w hSw; clear hSw; go_simp; (try with_reducible rfl))
  go_simp
  refine T_pure (i := 7) (v := ?va7) rfl (by kernel_rfl) (by kernel_rfl) (by kernel_rfl) (fun _ _ _ h => h) (Or.inl ⟨?_, ?_⟩) ?_
  rotate_left 1
  · rfl
  · (intro w hSw; clear hSw; go_simp; (try with_reducible rfl))
  go_simp
  refine T_ready (rs := [8]) (by kernel_rfl) (by simp) ?_
  refine ReadyT.early rfl (fun K hK => ?_) ReadyT.nil
  go_simp
  refine hK.out _ _ ?_ (fun hHeld => ?_)
  · exact ⟨HS7.out.cell d0 (fun e => absurd e (Nat.ne_of_lt (Nat.lt_succ_self N))), HS7.out.cell d1 (fun e => absurd e (Nat.ne_of_lt (Nat.lt_succ_self N))), HS7.out.cell d2 (fun e => absurd e (Nat.ne_of_lt (Nat.lt_succ_self N)))⟩
  clear hK K
  refine T_pure (i := 9) (v := ?va9) rfl (by kernel_rfl) (by kernel_rfl) (by kernel_rfl) (fun _ _ _ h => h) (Or.inl ⟨?_, ?_⟩) ?_
  rotate_left 1
  · rfl
  · (intro w hSw; clear hSw; go_simp; (try with_reducible rfl))
  go_simp
  refine T_pure (i := 10) (v := ?va10) rfl (by kernel_rfl) (by kernel_rfl) (by kernel_rfl) (fun _ _ _ h => h) (Or.inl ⟨?_, ?_⟩) ?_
  rotate_left 1
  · rfl
  · (intro w hSw; clear hSw; go_simp; (try with_reducible rfl))
  go_simp
  refine T_pure (i := 11) (v := ?va11) rfl (by kernel_rfl) (by kernel_rfl) (by kernel_rfl) (fun _ _ _ h => h) (Or.inl ⟨?_, ?_⟩) ?_
  rotate_left 1
  · rfl
  · (intro w hSw; clear hSw; go_simp; (try with_reducible rfl))
  go_simp
  refine T_done (by kernel_rfl) ?_ _
  go_wp2_with fail
  (try simp only [Exit.inBlock, Exit.then])
  refine bodyPost_ret (res_cttt rfl HB7.out rfl rfl rfl rfl) rfl ?_
  exact ⟨rfl, HS.out.trans HS7.out (fun b hb hx => by have h3 : b = N + 1 := hx; omega)⟩
end Go.Proofs.Ytlocfbjeljgblaa
