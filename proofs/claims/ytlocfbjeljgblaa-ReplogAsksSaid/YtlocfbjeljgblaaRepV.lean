/- Layer 36: Merge of the program. (printed by genRepV.py) -/
import Derived.Test.YtlocfbjeljgblaaRepU
import Derived.Test.YtlocfbjeljgblaaRepR
import Derived.Test.YtlocfbjeljgblaaRepQ
import Derived.Laws.EntriesVeiled
namespace Go.Proofs.Ytlocfbjeljgblaa
open Go Go.RowKit
set_option maxRecDepth 100000

theorem results_3 {fn : Func} {t u v : Tmp} (h : fn.results = #[.tmp t, .tmp u, .tmp v]) (tmps : Array Value) (P : Program) (w : World) :
    (results fn tmps).run P w = .ok (.tuple #[tmps.getD t undef, tmps.getD u undef, tmps.getD v undef]) w := by
  simp [results, h]
theorem slice_to {A : Option Addr} {n c m : Nat} (hm : m ≤ c) (hA : ∀ a, A = some a → ∃ g, a = ⟨g, 0, none⟩) (wx : World) : (Instr.slice 27 (.slice A n c) none (some (.int .i64 m)) none).run Try.prog wx = .ok (.slice A m c) wx := by
  rw [run_slice_h (P := Try.prog) (h0 := by omega) (h2 := by omega) (ht := rfl)]
  cases A with
  | none => simp [sliced, go_sem]
  | some a =>
    obtain ⟨g, rfl⟩ := hA a rfl
    simp [sliced, go_sem, Addr.add]

theorem merge_no1 {w : World} {M n c : Nat} {A : Option Addr} {i t : Int} (H45 : Hid (∀ W : World, Same noB w W → Calls Try.prog 45 #[.int .i64 i, .int .i64 t, .slice A n c] W fun r w' => r = .returned (.bool false) ∧ Same noB W w')) :
    Calls Try.prog 17 #[.pointer (some ⟨M, 0, none⟩), .int .i64 i, .int .i64 t, .slice A n c] w fun r w' => r = .returned (.tuple #[.int .i64 0, .slice none 0 0, .bool false]) ∧ Same noB w w' := by
  go_enter Try.func17, Try.ntmps17
  go_upto_region 1 with (fail)
  refine wp_abs (fun W => W.cell? ⟨w.heap.size, 0, none⟩ = some (.pointer (some ⟨M, 0, none⟩)) ∧ Hid (Same noB w W)) ⟨by go_simp, (Same.refl _ _).alloc _⟩ ?_
  rintro W0 ⟨cb, HS⟩
  obtain ⟨N, hN⟩ : ∃ N, w.heap.size = N := ⟨_, rfl⟩
  rw [hN] at cb ⊢
  go_wp2_with fail
  (with_reducible refine Calls.mono (H45.out W0 HS.out) ?_)
  rintro r W1 ⟨rfl, hs1⟩
  replace cb := hs1.cell cb (fun x => x)
  replace HS := Lib.hid (HS.out.trans' hs1)
  clear hs1 H45
  go_wp2_with fail
  (try simp only [Exit.inBlock, Exit.then])
  refine bodyPost_ret (results_3 rfl _ _ _) rfl ?_
  exact ⟨rfl, HS.out⟩
theorem merge_no2 {w : World} {M n c : Nat} {A : Option Addr} {i t base last lt j : Int} (c0 : w.cell? ⟨M, 0, none⟩ = some (.int .i64 base)) (hw : IntKind.i64.wrap (i - 1) = i - 1) (hj1 : (if i - 1 < last then i - 1 else last) = j) {j2 : Int} (hj2 : (if base < j then j else base) = j2) (H45 : Hid (∀ W : World, Same noB w W → Calls Try.prog 45 #[.int .i64 i, .int .i64 t, .slice A n c] W fun r w' => r = .returned (.bool true) ∧ Same noB W w')) (H23 : Hid (∀ W : World, Same noB w W → Calls Try.prog 23 #[.pointer (some ⟨M, 0, none⟩)] W fun r w' => r = .returned (.tuple #[.int .i64 last, .int .i64 lt]) ∧ Same noB W w')) (H46 : Hid (∀ W : World, Same noB w W → Calls Try.prog 46 #[.pointer (some ⟨M, 0, none⟩), .int .i64 i, .int .i64 t] W fun r w' => r = .returned (.bool false) ∧ Same noB W w'))  :
    Calls Try.prog 17 #[.pointer (some ⟨M, 0, none⟩), .int .i64 i, .int .i64 t, .slice A n c] w fun r w' => r = .returned (.tuple #[.int .i64 j2, .slice none 0 0, .bool false]) ∧ Same noB w w' := by
  go_enter Try.func17, Try.ntmps17
  go_upto_region 1 with (fail)
  refine wp_abs (fun W => W.cell? ⟨w.heap.size, 0, none⟩ = some (.pointer (some ⟨M, 0, none⟩)) ∧ Hid (Same noB w W)) ⟨by go_simp, (Same.refl _ _).alloc _⟩ ?_
  rintro W0 ⟨cb, HS⟩
  obtain ⟨N, hN⟩ : ∃ N, w.heap.size = N := ⟨_, rfl⟩
  rw [hN] at cb ⊢
  go_wp2_with fail
  (with_reducible refine Calls.mono (H45.out W0 HS.out) ?_)
  rintro r W1 ⟨rfl, hs1⟩
  replace cb := hs1.cell cb (fun x => x)
  replace HS := Lib.hid (HS.out.trans' hs1)
  clear hs1 H45
  go_wp2_with fail
  (with_reducible refine Calls.mono (H23.out W1 HS.out) ?_)
  rintro r W2 ⟨rfl, hs1⟩
  replace cb := hs1.cell cb (fun x => x)
  replace HS := Lib.hid (HS.out.trans' hs1)
  clear hs1 H23
  go_wp2_with fail
  (with_reducible refine Calls.mono (H46.out W2 HS.out) ?_)
  rintro r W3 ⟨rfl, hs1⟩
  replace cb := hs1.cell cb (fun x => x)
  replace HS := Lib.hid (HS.out.trans' hs1)
  clear hs1 H46
  have d0 := HS.out.cell c0 (fun x => x)
  go_wp2_with fail
  (try simp only [Exit.inBlock, Exit.then])
  refine bodyPost_ret (results_3 rfl _ _ _) rfl ?_
  exact ⟨rfl, HS.out⟩
theorem merge_no3 {w : World} {M n c : Nat} {A : Option Addr} {i t base last lt j : Int} (c0 : w.cell? ⟨M, 0, none⟩ = some (.int .i64 base)) (hw : IntKind.i64.wrap (i - 1) = i - 1) (hj1 : (if i - 1 < last then i - 1 else last) = j) {j2 : Int} (hj2 : (if base < j then j else base) = j2) (H45 : Hid (∀ W : World, Same noB w W → Calls Try.prog 45 #[.int .i64 i, .int .i64 t, .slice A n c] W fun r w' => r = .returned (.bool true) ∧ Same noB W w')) (H23 : Hid (∀ W : World, Same noB w W → Calls Try.prog 23 #[.pointer (some ⟨M, 0, none⟩)] W fun r w' => r = .returned (.tuple #[.int .i64 last, .int .i64 lt]) ∧ Same noB W w')) (H46 : Hid (∀ W : World, Same noB w W → Calls Try.prog 46 #[.pointer (some ⟨M, 0, none⟩), .int .i64 i, .int .i64 t] W fun r w' => r = .returned (.bool true) ∧ Same noB W w')) (H47 : Hid (∀ W : World, Same noB w W → Calls Try.prog 47 #[.slice A n c, .func (.func 48) #[.pointer (some ⟨M, 0, none⟩)] #[]] W fun r w' => r = .returned (.bool true) ∧ Same noB W w')) :
    Calls Try.prog 17 #[.pointer (some ⟨M, 0, none⟩), .int .i64 i, .int .i64 t, .slice A n c] w fun r w' => r = .returned (.tuple #[.int .i64 j2, .slice none 0 0, .bool false]) ∧ Same noB w w' := by
  go_enter Try.func17, Try.ntmps17
  go_upto_region 1 with (fail)
  refine wp_abs (fun W => W.cell? ⟨w.heap.size, 0, none⟩ = some (.pointer (some ⟨M, 0, none⟩)) ∧ Hid (Same noB w W)) ⟨by go_simp, (Same.refl _ _).alloc _⟩ ?_
  rintro W0 ⟨cb, HS⟩
  obtain ⟨N, hN⟩ : ∃ N, w.heap.size = N := ⟨_, rfl⟩
  rw [hN] at cb ⊢
  go_wp2_with fail
  (with_reducible refine Calls.mono (H45.out W0 HS.out) ?_)
  rintro r W1 ⟨rfl, hs1⟩
  replace cb := hs1.cell cb (fun x => x)
  replace HS := Lib.hid (HS.out.trans' hs1)
  clear hs1 H45
  go_wp2_with fail
  (with_reducible refine Calls.mono (H23.out W1 HS.out) ?_)
  rintro r W2 ⟨rfl, hs1⟩
  replace cb := hs1.cell cb (fun x => x)
  replace HS := Lib.hid (HS.out.trans' hs1)
  clear hs1 H23
  go_wp2_with fail
  (with_reducible refine Calls.mono (H46.out W2 HS.out) ?_)
  rintro r W3 ⟨rfl, hs1⟩
  replace cb := hs1.cell cb (fun x => x)
  replace HS := Lib.hid (HS.out.trans' hs1)
  clear hs1 H46
  go_wp2_with fail
  (with_reducible refine Calls.mono (H47.out W3 HS.out) ?_)
  rintro r W4 ⟨rfl, hs1⟩
  replace cb := hs1.cell cb (fun x => x)
  replace HS := Lib.hid (HS.out.trans' hs1)
  clear hs1 H47
  have d0 := HS.out.cell c0 (fun x => x)
  go_wp2_with fail
  (try simp only [Exit.inBlock, Exit.then])
  refine bodyPost_ret (results_3 rfl _ _ _) rfl ?_
  exact ⟨rfl, HS.out⟩
theorem merge_none {w : World} {M n c : Nat} {A : Option Addr} {i t last lt : Int} (hw : IntKind.i64.wrap (i + n) = i + n) (H45 : Hid (∀ W : World, Same noB w W → Calls Try.prog 45 #[.int .i64 i, .int .i64 t, .slice A n c] W fun r w' => r = .returned (.bool true) ∧ Same noB W w')) (H23 : Hid (∀ W : World, Same noB w W → Calls Try.prog 23 #[.pointer (some ⟨M, 0, none⟩)] W fun r w' => r = .returned (.tuple #[.int .i64 last, .int .i64 lt]) ∧ Same noB W w')) (H46 : Hid (∀ W : World, Same noB w W → Calls Try.prog 46 #[.pointer (some ⟨M, 0, none⟩), .int .i64 i, .int .i64 t] W fun r w' => r = .returned (.bool true) ∧ Same noB W w')) (H47 : Hid (∀ W : World, Same noB w W → Calls Try.prog 47 #[.slice A n c, .func (.func 48) #[.pointer (some ⟨M, 0, none⟩)] #[]] W fun r w' => r = .returned (.bool false) ∧ Same noB W w')) (H49 : Hid (∀ (W : World) (B : Nat), Same noB w W → W.cell? ⟨B, 0, none⟩ = some (.pointer (some ⟨M, 0, none⟩)) → Calls Try.prog 49 #[.slice A n c, .func (.func 50) #[] #[.pointer (some ⟨B, 0, none⟩)]] W fun r w' => r = .returned (.int .i64 (-1)) ∧ Same noB W w')) :
    Calls Try.prog 17 #[.pointer (some ⟨M, 0, none⟩), .int .i64 i, .int .i64 t, .slice A n c] w fun r w' => r = .returned (.tuple #[.int .i64 (i + n), .slice none 0 0, .bool true]) ∧ Same noB w w' := by
  go_enter Try.func17, Try.ntmps17
  go_upto_region 1 with (fail)
  refine wp_abs (fun W => W.cell? ⟨w.heap.size, 0, none⟩ = some (.pointer (some ⟨M, 0, none⟩)) ∧ Hid (Same noB w W)) ⟨by go_simp, (Same.refl _ _).alloc _⟩ ?_
  rintro W0 ⟨cb, HS⟩
  obtain ⟨N, hN⟩ : ∃ N, w.heap.size = N := ⟨_, rfl⟩
  rw [hN] at cb ⊢
  go_wp2_with fail
  (with_reducible refine Calls.mono (H45.out W0 HS.out) ?_)
  rintro r W1 ⟨rfl, hs1⟩
  replace cb := hs1.cell cb (fun x => x)
  replace HS := Lib.hid (HS.out.trans' hs1)
  clear hs1 H45
  go_wp2_with fail
  (with_reducible refine Calls.mono (H23.out W1 HS.out) ?_)
  rintro r W2 ⟨rfl, hs1⟩
  replace cb := hs1.cell cb (fun x => x)
  replace HS := Lib.hid (HS.out.trans' hs1)
  clear hs1 H23
  go_wp2_with fail
  (with_reducible refine Calls.mono (H46.out W2 HS.out) ?_)
  rintro r W3 ⟨rfl, hs1⟩
  replace cb := hs1.cell cb (fun x => x)
  replace HS := Lib.hid (HS.out.trans' hs1)
  clear hs1 H46
  go_wp2_with fail
  (with_reducible refine Calls.mono (H47.out W3 HS.out) ?_)
  rintro r W4 ⟨rfl, hs1⟩
  replace cb := hs1.cell cb (fun x => x)
  replace HS := Lib.hid (HS.out.trans' hs1)
  clear hs1 H47
  go_wp2_with fail
  (with_reducible refine Calls.mono (H49.out W4 N HS.out cb) ?_)
  rintro r W5 ⟨rfl, hs1⟩
  replace cb := hs1.cell cb (fun x => x)
  replace HS := Lib.hid (HS.out.trans' hs1)
  clear hs1 H49
  go_wp2_with fail
  (try simp only [Exit.inBlock, Exit.then])
  refine bodyPost_ret (results_3 rfl _ _ _) rfl ?_
  exact ⟨rfl, HS.out⟩
def MgS (M N fb fo : Nat) (base fi : Int) (v : Value) (w' : World) : Prop := w'.cell? ⟨N, 0, none⟩ = some (.pointer (some ⟨M, 0, none⟩)) ∧ w'.cell? ⟨M, 2, none⟩ = some v ∧ w'.cell? ⟨M, 0, none⟩ = some (.int .i64 base) ∧ w'.cell? ⟨fb, fo, none⟩ = some (.int .i64 fi)
theorem own_len (L : Option Addr) (m n c d : Nat) : (Value.slice L m c).ownBlock = (Value.slice L n d).ownBlock := by cases L <;> rfl
set_option maxHeartbeats 8000000 in
theorem merge_yes {w : World} {M n c k fb fo n2 c2 ln lc m : Nat} {A L : Option Addr} {i t last lt base term fi : Int} {es0 : List En} {Q : World → Value → List En → World → Prop} (hw : IntKind.i64.wrap (i + n) = i + n)
    (hb : Blk w M 80 #[.int .i64 base, .int .i64 term, .slice L ln lc]) (hown : w.ownsRow 0 57 15 (.slice L m lc) m (ecells es0)) (hMA : (Value.slice L ln lc).ownBlock ≠ some M) (hFA : (Value.slice L ln lc).ownBlock ≠ some fb) (hm : m ≤ 100000) (hn2 : n2 ≤ 100000) (hn0 : 0 < n2)
    (cf : w.cell? ⟨fb, fo, none⟩ = some (.int .i64 fi)) (hw1 : IntKind.i64.wrap (fi - base) = (m : Int) + 1) (hw2 : IntKind.i64.wrap (m : Int) = (m : Int))
    (hsl1 : ∀ wx, (Instr.slice 27 (.slice A n c) (some (.int .i64 (k : Int))) none none).run Try.prog wx = .ok (.slice (some ⟨fb, fo, none⟩) n2 c2) wx)
    (hsl2 : ∀ wx, (Instr.slice 27 (.slice L ln lc) none (some (.int .i64 (m : Int))) none).run Try.prog wx = .ok (.slice L m lc) wx)
    (HC : Hid (∀ W : World, Same (lgB M (.slice L ln lc)) w W → Calls Try.prog 51 #[.slice (some ⟨fb, fo, none⟩) n2 c2] W fun r w' => ∃ O on oc os, r = .returned (.slice O on oc) ∧ os.length = on ∧ on = n2 ∧ w'.ownsRow 0 57 15 (.slice O on oc) on (ecells os) ∧ Same noB W w' ∧ Q W (.slice O on oc) os w'))
    (H45 : Hid (∀ W : World, Same noB w W → Calls Try.prog 45 #[.int .i64 i, .int .i64 t, .slice A n c] W fun r w' => r = .returned (.bool true) ∧ Same noB W w')) (H23 : Hid (∀ W : World, Same noB w W → Calls Try.prog 23 #[.pointer (some ⟨M, 0, none⟩)] W fun r w' => r = .returned (.tuple #[.int .i64 last, .int .i64 lt]) ∧ Same noB W w')) (H46 : Hid (∀ W : World, Same noB w W → Calls Try.prog 46 #[.pointer (some ⟨M, 0, none⟩), .int .i64 i, .int .i64 t] W fun r w' => r = .returned (.bool true) ∧ Same noB W w')) (H47 : Hid (∀ W : World, Same noB w W → Calls Try.prog 47 #[.slice A n c, .func (.func 48) #[.pointer (some ⟨M, 0, none⟩)] #[]] W fun r w' => r = .returned (.bool false) ∧ Same noB W w')) (H49 : Hid (∀ (W : World) (B : Nat), Same noB w W → W.cell? ⟨B, 0, none⟩ = some (.pointer (some ⟨M, 0, none⟩)) → Calls Try.prog 49 #[.slice A n c, .func (.func 50) #[] #[.pointer (some ⟨B, 0, none⟩)]] W fun r w' => r = .returned (.int .i64 k) ∧ Same noB W w')) :
    Calls Try.prog 17 #[.pointer (some ⟨M, 0, none⟩), .int .i64 i, .int .i64 t, .slice A n c] w fun r w' => ∃ W1 W2 W3 v1 v2 os1 os2 A3 c3, r = .returned (.tuple #[.int .i64 (i + n), v2, .bool true]) ∧ Same noB w W1 ∧ Q W1 v1 os1 W2 ∧ Same noB W1 W2 ∧ Same (lgB M (.slice L ln lc)) W2 W3 ∧ W3.ownsRow 0 57 15 (.slice A3 (m + n2) c3) (m + n2) (ecells (es0 ++ os1)) ∧ ((Value.slice A3 (m + n2) c3).ownBlock = (Value.slice L ln lc).ownBlock ∨ ∀ b, (Value.slice A3 (m + n2) c3).ownBlock = some b → W2.heap.size ≤ b) ∧
      Blk W3 M 80 #[.int .i64 base, .int .i64 term, .slice A3 (m + n2) c3] ∧ Q W3 v2 os2 w' ∧ Same noB W3 w' := by
  have HB := Lib.hid hb
  have HOW := Lib.hid hown
  have HMA := Lib.hid hMA
  have HFO : Hid (¬ some fb = (Value.slice L m lc).ownBlock) := fun e => hFA ((own_len L ln m lc lc).trans e.symm)
  have hk0 : (0 : Int) < (n2 : Int) := by omega
  have hkk : ¬ (k : Int) < 0 := by omega
  have hkd : decide ((k : Int) < 0) = false := decide_eq_false hkk
  clear hb hown hMA hFA
  go_enter Try.func17, Try.ntmps17
  go_upto_region 1 with (fail)
  refine wp_abs (fun W => W.cell? ⟨w.heap.size, 0, none⟩ = some (.pointer (some ⟨M, 0, none⟩)) ∧ Hid (Same noB w W)) ⟨by go_simp, (Same.refl _ _).alloc _⟩ ?_
  rintro W0 ⟨cb, HS⟩
  obtain ⟨N, hN⟩ : ∃ N, w.heap.size = N := ⟨_, rfl⟩
  rw [hN] at cb ⊢
  go_wp2_with fail
  (with_reducible refine Calls.mono (H45.out W0 HS.out) ?_)
  rintro r W1 ⟨rfl, hs1⟩
  replace cb := hs1.cell cb (fun x => x)
  replace HS := Lib.hid (HS.out.trans' hs1)
  clear hs1 H45
  go_wp2_with fail
  (with_reducible refine Calls.mono (H23.out W1 HS.out) ?_)
  rintro r W2 ⟨rfl, hs1⟩
  replace cb := hs1.cell cb (fun x => x)
  replace HS := Lib.hid (HS.out.trans' hs1)
  clear hs1 H23
  go_wp2_with fail
  (with_reducible refine Calls.mono (H46.out W2 HS.out) ?_)
  rintro r W3 ⟨rfl, hs1⟩
  replace cb := hs1.cell cb (fun x => x)
  replace HS := Lib.hid (HS.out.trans' hs1)
  clear hs1 H46
  go_wp2_with fail
  (with_reducible refine Calls.mono (H47.out W3 HS.out) ?_)
  rintro r W4 ⟨rfl, hs1⟩
  replace cb := hs1.cell cb (fun x => x)
  replace HS := Lib.hid (HS.out.trans' hs1)
  clear hs1 H47
  go_wp2_with fail
  (with_reducible refine Calls.mono (H49.out W4 N HS.out cb) ?_)
  rintro r W5 ⟨rfl, hs1⟩
  replace cb := hs1.cell cb (fun x => x)
  replace HS := Lib.hid (HS.out.trans' hs1)
  clear hs1 H49
  go_upto_region 10 with (fail)
  have HB3 := Lib.hid (HB.out.same HS.out (fun x => x))
  have HOW3 := Lib.hid (own_same HOW.out HS.out (fun _ _ x => x))
  have HNO : Hid (¬ some N = (Value.slice L m lc).ownBlock) := fun e => by have := (HOW.out.lt N e.symm).2; omega
  have d0 : W5.cell? ⟨M, 0, none⟩ = some (.int .i64 base) := HB3.out.cell 0
  have d2 : W5.cell? ⟨M, 2, none⟩ = some (.slice L ln lc) := HB3.out.cell 2
  have df := HS.out.cell cf (fun x => x)
  clear cf
  refine wp_region_T (S := MgS M N fb fo base fi (.slice L ln lc)) (late := fun j => [21].contains j) (by kernel_rfl) ?_ (fun hHeld => ?_)
  · exact ⟨cb, d2, d0, df⟩
  refine T_take (i := 0) (v := ?va0) rfl (by kernel_rfl) (by kernel_rfl) (by kernel_rfl) (by kernel_rfl) (fun _ _ _ h => h) (Or.inl ⟨?_, ?_⟩) (by assumption) ?_
  rotate_left 1
  · rfl
  · (intro w hSw; unfold MgS at hSw; go_simp; (try with_reducible rfl))
  go_simp
  refine T_take (i := 1) (v := ?va1) rfl (by kernel_rfl) (by kernel_rfl) (by kernel_rfl) (by kernel_rfl) (fun _ _ _ h => h) (Or.inl ⟨?_, ?_⟩) (by assumption) ?_
  rotate_left 1
  · rfl
  · (intro w hSw; unfold MgS at hSw; go_simp; (try with_reducible rfl))
  go_simp
  refine T_pure (i := 2) (v := ?va2) rfl (by kernel_rfl) (by kernel_rfl) (by kernel_rfl) (fun _ _ _ h => h) (Or.inl ⟨?_, ?_⟩) ?_
  rotate_left 1
  · rfl
  · (intro w hSw; clear hSw; go_simp; (try with_reducible rfl))
  go_simp
  refine T_pure (i := 3) (v := ?va3) rfl (by kernel_rfl) (by kernel_rfl) (by kernel_rfl) (fun _ _ _ h => h) (Or.inl ⟨?_, ?_⟩) ?_
  rotate_left 1
  · rfl
  · (intro w hSw; clear hSw; go_simp; (try with_reducible rfl))
  go_simp
  refine T_take (i := 4) (v := ?va4) rfl (by kernel_rfl) (by kernel_rfl) (by kernel_rfl) (by kernel_rfl) (fun _ _ _ h => h) (Or.inl ⟨?_, ?_⟩) (by assumption) ?_
  rotate_left 1
  · rfl
  · (intro w hSw; unfold MgS at hSw; go_simp; (try with_reducible rfl))
  go_simp
  refine T_pure (i := 5) (v := ?va5) rfl (by kernel_rfl) (by kernel_rfl) (by kernel_rfl) (fun _ _ _ h => h) (Or.inl ⟨?_, ?_⟩) ?_
  rotate_left 1
  · rfl
  · (intro w hSw; clear hSw; go_simp; (try with_reducible rfl))
  go_simp
  refine T_pure (i := 6) (v := ?va6) rfl (by kernel_rfl) (by kernel_rfl) (by kernel_rfl) (fun _ _ _ h => h) (Or.inl ⟨?_, ?_⟩) ?_
  rotate_left 1
  · rfl
  · (intro w hSw; clear hSw; go_simp; (try with_reducible rfl))
  go_simp
  refine T_pure (i := 7) (v := ?va7) rfl (by kernel_rfl) (by kernel_rfl) (by kernel_rfl) (fun _ _ _ h => h) (Or.inl ⟨?_, ?_⟩) ?_
  rotate_left 1
  · rfl
  · (intro w hSw; clear hSw; go_simp; (try with_reducible rfl))
  go_simp
  refine T_take (i := 8) (v := ?va8) rfl (by kernel_rfl) (by kernel_rfl) (by kernel_rfl) (by kernel_rfl) (fun _ _ _ h => h) (Or.inl ⟨?_, ?_⟩) (by assumption) ?_
  rotate_left 1
  · rfl
  · (intro w hSw; unfold MgS at hSw; go_simp; (try with_reducible rfl))
  go_simp
  refine T_take (i := 9) (v := ?va9) rfl (by kernel_rfl) (by kernel_rfl) (by kernel_rfl) (by kernel_rfl) (fun _ _ _ h => h) (Or.inl ⟨?_, ?_⟩) (by assumption) ?_
  rotate_left 1
  · rfl
  · (intro w hSw; unfold MgS at hSw; go_simp; (try with_reducible rfl))
  go_simp
  refine T_pure (i := 10) (v := ?va10) rfl (by kernel_rfl) (by kernel_rfl) (by kernel_rfl) (fun _ _ _ h => h) (Or.inl ⟨?_, ?_⟩) ?_
  rotate_left 1
  · rfl
  · (intro w hSw; clear hSw; go_simp; (try with_reducible rfl))
  go_simp
  refine T_pure (i := 11) (v := ?va11) rfl (by kernel_rfl) (by kernel_rfl) (by kernel_rfl) (fun _ _ _ h => h) (Or.inl ⟨?_, ?_⟩) ?_
  rotate_left 1
  · rfl
  · (intro w hSw; clear hSw; go_simp; (try with_reducible rfl))
  go_simp
  refine T_take (i := 12) (v := ?va12) rfl (by kernel_rfl) (by kernel_rfl) (by kernel_rfl) (by kernel_rfl) (fun _ _ _ h => h) (Or.inl ⟨?_, ?_⟩) (by assumption) ?_
  rotate_left 1
  · rfl
  · (intro w hSw; unfold MgS at hSw; go_simp; (try with_reducible rfl))
  go_simp
  refine T_pure (i := 13) (v := ?va13) rfl (by kernel_rfl) (by kernel_rfl) (by kernel_rfl) (fun _ _ _ h => h) (Or.inl ⟨?_, ?_⟩) ?_
  rotate_left 1
  · rfl
  · (intro w hSw; clear hSw; go_simp; (try with_reducible rfl))
  go_simp
  refine T_pure (i := 14) (v := ?va14) rfl (by kernel_rfl) (by kernel_rfl) (by kernel_rfl) (fun _ _ _ h => h) (Or.inl ⟨?_, ?_⟩) ?_
  rotate_left 1
  · rfl
  · (intro w hSw; clear hSw; go_simp; (try with_reducible rfl))
  go_simp
  refine T_pure (i := 15) (v := ?va15) rfl (by kernel_rfl) (by kernel_rfl) (by kernel_rfl) (fun _ _ _ h => h) (Or.inl ⟨?_, ?_⟩) ?_
  rotate_left 1
  · rfl
  · (intro w hSw; clear hSw; go_simp; (try with_reducible rfl))
  go_simp
  refine T_pure (i := 16) (v := ?va16) rfl (by kernel_rfl) (by kernel_rfl) (by kernel_rfl) (fun _ _ _ h => h) (Or.inl ⟨?_, ?_⟩) ?_
  rotate_left 1
  · rfl
  · (intro w hSw; clear hSw; go_simp; (try with_reducible rfl))
  go_simp
  refine T_ready (rs := [17]) (by kernel_rfl) (by simp) ?_
  refine ReadyT.early rfl (fun K hK => ?_) ReadyT.nil
  go_simp
  (with_reducible refine Calls.mono (HC.out W5.drew HS.out.drew.of_no) ?_)
  rintro r W6 ⟨O, on, oc, os, rfl, hon, hon2, hoo, hs5, hq⟩
  have HS5 := Lib.hid hs5
  have HQ := Lib.hid hq
  have HON := Lib.hid (And.intro hon hon2)
  have HOO := Lib.hid hoo
  have HB5 := Lib.hid (HB3.out.drew.same hs5 (fun x => x))
  have HOW5 := Lib.hid (own_same (w := W5.drew) HOW3.out hs5 (fun _ _ x => x))
  replace d2 := hs5.cell (w := W5.drew) d2 (fun x => x)
  replace d0 := hs5.cell (w := W5.drew) d0 (fun x => x)
  replace cb := hs5.cell (w := W5.drew) cb (fun x => x)
  replace df := hs5.cell (w := W5.drew) df (fun x => x)
  clear hs5 hq hon hon2 hoo
  clear hHeld
  go_wp2_with fail
  refine hK.out _ _ ?_ (fun hHeld => ?_)
  · exact ⟨cb, d2, d0, df⟩
  clear hK K
  refine T_ready (rs := [18]) (by kernel_rfl) (by simp) ?_
  refine ReadyT.early rfl (fun K hK => ?_) ReadyT.nil
  refine step_app slE rfl _ _ rfl rfl HOW5.out rfl (Rd.of_own (bad := noB) HOO.out (fun _ _ x => x)) (ecells_one os) (by have := HON.out.2; omega) (Nat.zero_le _) ?_
  intro A7 c7 W7 hown7 hgrow7 hat7 _
  have HG7 := Lib.hid (And.intro hown7 (And.intro hgrow7 hat7))
  have HB7 : Hid (Blk W7 M 80 #[.int .i64 base, .int .i64 term, .slice L ln lc]) := HB5.out.same (Same.of_grown hgrow7) (fun e => HMA.out ((own_len L ln m lc lc).trans e.symm))
  have z2 := HB7.out.frozen 2
  replace d2 : W7.cell? ⟨M, 2, none⟩ = some (.slice L ln lc) := HB7.out.cell 2
  replace d0 : W7.cell? ⟨M, 0, none⟩ = some (.int .i64 base) := HB7.out.cell 0
  replace cb := (Same.of_grown hgrow7).cell cb (fun e => HNO.out e)
  replace df := (Same.of_grown hgrow7).cell df (fun e => HFO.out e)
  clear hown7 hgrow7 hat7
  clear hHeld
  refine hK.out _ _ ?_ (fun hHeld => ?_)
  · exact ⟨cb, d2, d0, df⟩
  clear hK K
  go_simp
  refine T_pure (i := 19) (v := ?va19) rfl (by kernel_rfl) (by kernel_rfl) (by kernel_rfl) (fun _ _ _ h => h) (Or.inl ⟨?_, ?_⟩) ?_
  rotate_left 1
  · rfl
  · (intro w hSw; clear hSw; go_simp; (try with_reducible rfl))
  go_simp
  refine T_pure (i := 20) (v := ?va20) rfl (by kernel_rfl) (by kernel_rfl) (by kernel_rfl) (fun _ _ _ h => h) (Or.inl ⟨?_, ?_⟩) ?_
  rotate_left 1
  · rfl
  · (intro w hSw; clear hSw; go_simp; (try with_reducible rfl))
  go_simp
  refine T_ready (rs := [21]) (by kernel_rfl) (by simp) ?_
  refine ReadyT.behind rfl rfl (fun K hK => ?_) ReadyT.nil
  go_simp
  skip
  refine hK.out _ _ ?_
  clear hK K
  refine T_done (by kernel_rfl) ?_ _
  have hown7 : W7.ownsRow 0 57 15 (.slice A7 (m + on) c7) (m + on) (ecells es0 ++ ecells os) := HG7.out.1
  have hgrow7 : W6.grownBy W7 (Value.slice L m lc).ownBlock := HG7.out.2.1
  have hat7 : (Value.slice A7 (m + on) c7).ownBlock = (Value.slice L m lc).ownBlock ∨ (Value.slice A7 (m + on) c7).ownBlock = some W6.heap.size := HG7.out.2.2
  rw [own_len L m ln lc lc] at hgrow7 hat7
  have hs7 : Same (lgB M (.slice L ln lc)) W6 W7 := (Same.of_grown hgrow7).mono (fun b _ hb => .inr hb)
  have hs8 : Same (lgB M (.slice L ln lc)) W6 (W7.setCell ⟨M, 2, none⟩ (.slice A7 (m + on) c7)) := hs7.trans' ((Same.refl (lgB M (.slice L ln lc)) W7).setCell (fun _ => .inl rfl) _)
  have hw5 : Same noB w W6 := HS.out.drew.trans' HS5.out
  have HS8 := Lib.hid (hw5.of_no.trans' hs8)
  have hne7 : ∀ b, (Value.slice A7 (m + on) c7).ownBlock = some b → b ≠ M := fun b hb e => by
    rcases hat7 with h | h
    · exact HMA.out (by rw [← h, hb, e])
    · rw [h] at hb
      injection hb with hb
      have := HB5.out.lt
      omega
  have HO8 := Lib.hid (own_same hown7 ((Same.refl (oneB M) W7).set1 2 (.slice A7 (m + on) c7)) (fun b hb hx => hne7 b hb hx))
  have HB8 := Lib.hid (HB7.out.set_ 2 (.slice A7 (m + on) c7))
  have HS78 := Lib.hid hs8
  have HAT := Lib.hid hat7
  have hon := HON.out.2
  subst hon
  clear hown7 hgrow7 hat7 hs7 hs8 hw5 hne7 HG7
  go_wp2_with fail
  (with_reducible refine Calls.mono (HC.out _ HS8.out) ?_)
  rintro r W9 ⟨O9, on9, oc9, os9, rfl, hz9, hy9, _, hs9, hq9⟩
  subst hy9
  have HQ9 := Lib.hid (And.intro hs9 hq9)
  clear hs9 hq9 hz9
  go_wp2_with fail
  (try simp only [Exit.inBlock, Exit.then])
  refine bodyPost_ret (results_3 rfl _ _ _) rfl ?_
  refine ⟨W5.drew, W6, _, _, _, os, os9, A7, c7, rfl, HS.out.drew, HQ.out, HS5.out, HS78.out, ?_, ?_, HB8.out, HQ9.out.2, HQ9.out.1⟩
  · rw [ecells_app]
    exact HO8.out
  · rcases HAT.out with h | h
    · exact .inl h
    · exact .inr (fun b hb => by rw [h] at hb; injection hb with hb; omega)
end Go.Proofs.Ytlocfbjeljgblaa
