/- Layer 10: Simple of the reference, where it says yes. -/
import Derived.Test.YtpalacfgpcpppaaPatA
import Derived.Test.YtpalacfgpcpppaaFloE
namespace Go.Proofs.Ytpalacfgpcpppaa
open Go Go.RowKit
set_option maxRecDepth 100000

set_option maxHeartbeats 16000000 in
theorem simple_yes {w : World} {n : NetV} {A : Option Addr} {m c : Nat} {p : List Int} (hsp : SimpleP n p) (hl : p.length = m) (hr : Rd w noB 1 (.slice A m c) m (icells p)) :
    Calls Try.prog 20 #[n.val, .slice A m c] w fun r w' => r = .returned (.bool true) ∧ Same noB w w' := by
  have hcaps := hr.caps
  have hm2 : 2 ≤ m := by have := hsp.len; omega
  obtain ⟨b, o, rfl, r⟩ := hr.at_ (by omega)
  have a0 := r.cell 0 _ (icells_at hsp.head)
  have a9 := r.cell (m - 1) _ (icells_at (by rw [← hl]; exact hsp.last))
  obtain ⟨m1, hm1⟩ : ∃ m1, m - 1 = m1 := ⟨_, rfl⟩
  rw [hm1] at a9
  have hw1 : IntKind.i64.wrap ((m : Int) - 1) = (m1 : Int) := by
    rw [IntWalk.i64_in _ (by have h9 := hcaps.2; unfold maxLen at h9; omega)]; omega
  have hi2 : (0 : Int) ≤ (m1 : Int) := by omega
  have hi3 : (m1 : Int) < (m : Int) := by omega
  have hi4 : (0 : Int) < (m : Int) := by omega
  have hi5 : 0 < m := by omega
  have e1 : (n.source != n.source) = false := by simp
  have e2 : (n.sink != n.sink) = false := by simp
  have l2 : ¬ ((m : Int) < 2) := by omega
  have HP := Lib.hid hsp
  have HL := Lib.hid hl
  have A0 : Hid (w.cell? ⟨b, o, none⟩ = some (.int .i64 n.source)) := a0
  have A9 := Lib.hid a9
  have HR := Lib.hid hr
  unfold NetV.val
  clear hsp hl r hr hm1
  go_enter Try.func20, Try.ntmps20
  go_upto_region 1 with (fail)
  refine wp_abs (fun W => Hid (Blk W w.heap.size 24 #[.int .i64 n.nodes, .int .i64 n.source, .int .i64 n.sink, .slice n.sl.addr n.sl.len n.sl.cap, .int .i64 n.hold]) ∧ Hid (Same noB w W)) ⟨Blk.new w 24 _, (Same.refl _ _).alloc _⟩ ?_
  clear a0 a9
  rintro W0 ⟨HN, HS⟩
  obtain ⟨N, hN⟩ : ∃ N, w.heap.size = N := ⟨_, rfl⟩
  rw [hN] at HN ⊢
  clear hN
  have x1 : W0.cell? ⟨N, 1, none⟩ = some (.int .i64 n.source) := HN.out.cell 1
  have x2 : W0.cell? ⟨N, 2, none⟩ = some (.int .i64 n.sink) := HN.out.cell 2
  have a0 : W0.cell? ⟨b, o, none⟩ = some (.int .i64 n.source) := HS.out.cell A0.out (fun x => x)
  have a9 : W0.cell? ⟨b, o + m1, none⟩ = some (.int .i64 n.sink) := HS.out.cell A9.out (fun x => x)
  clear A0 A9
  go_quiet (fail)
  go_wp2_with fail
  go_loopg [5] (m) (fun gk q wr => ∃ (k : Nat), k ≤ m ∧ Hid (gk + k = m) ∧ q = .int .i64 k ∧ Hid (Blk wr N 24 #[.int .i64 n.nodes, .int .i64 n.source, .int .i64 n.sink, .slice n.sl.addr n.sl.len n.sl.cap, .int .i64 n.hold]) ∧ Hid (Same noB w wr))
  case atStart => exact ⟨0, Nat.zero_le _, rfl, rfl, HN.out.drewN _, HS.out.drewN _⟩
  case round =>
    clear HN HS x1 x2 a0 a9 hw1 hi2 hi3 hi4 hi5 e1 e2 l2
    obtain ⟨k, hk, HK, rfl, HN, HS⟩ := hrel
    by_cases hlt : k < m
    · obtain ⟨x, hx⟩ : ∃ e, p[k]? = some e := ⟨_, List.getElem?_eq_getElem (by have := HL.out; omega)⟩
      have hxr := HP.out.rng x (List.mem_of_getElem? hx)
      have x0 : wr.cell? ⟨N, 0, none⟩ = some (.int .i64 n.nodes) := HN.out.cell 0
      obtain ⟨b', o', e, r⟩ := (HR.out.keep HS.out).at_ (by omega)
      simp only [Option.some.injEq, Addr.mk.injEq, and_true] at e
      obtain ⟨rfl, rfl⟩ := e
      have c0 := r.cell k _ (icells_at hx)
      have hi0 : (0 : Int) ≤ (k : Int) := by omega
      have hi1 : (k : Int) < (m : Int) := by omega
      have g1 : ¬ (x < 0) := by omega
      have g2 : ¬ (n.nodes ≤ x) := by omega
      have g3 : x < n.nodes := by omega
      have HX := Lib.hid hx
      clear r hx hxr
      obtain ⟨ko, rfl⟩ : ∃ ko : Nat, ko = gk := ⟨_, rfl⟩
      go_wp2_with fail
      go_quiet (fail)
      go_wp2_with fail
      go_loopg [6] (k) (fun gk q wr => ∃ (j : Nat), j ≤ k ∧ Hid (gk + j = k) ∧ q = .int .i64 j ∧ Hid (Blk wr N 24 #[.int .i64 n.nodes, .int .i64 n.source, .int .i64 n.sink, .slice n.sl.addr n.sl.len n.sl.cap, .int .i64 n.hold]) ∧ Hid (Same noB w wr))
      case atStart => exact ⟨0, Nat.zero_le _, rfl, rfl, HN.out.drewN _, HS.out.drewN _⟩
      case round =>
        clear HN HS x0 c0 g1 g2 g3
        obtain ⟨j, hj, HJ, rfl, HN, HS⟩ := hrel
        by_cases hjk : j < k
        · obtain ⟨y, hy⟩ : ∃ e, p[j]? = some e := ⟨_, List.getElem?_eq_getElem (by have := HL.out; omega)⟩
          have hne : y ≠ x := fun e => by
            have q1 := HX.out
            obtain ⟨z1, z2⟩ := List.getElem?_eq_some_iff.1 hy
            obtain ⟨z3, z4⟩ := List.getElem?_eq_some_iff.1 q1
            exact absurd ((List.getElem_inj (h₀ := z1) (h₁ := z3) HP.out.nd).1 (by rw [z2, z4, e])) (by omega)
          have g1 : (y == x) = false := beq_eq_false_iff_ne.2 hne
          obtain ⟨b', o', e, r⟩ := (HR.out.keep HS.out).at_ (by omega)
          simp only [Option.some.injEq, Addr.mk.injEq, and_true] at e
          obtain ⟨rfl, rfl⟩ := e
          have c0 := r.cell k _ (icells_at HX.out)
          have c1 := r.cell j _ (icells_at hy)
          have hj0 : (0 : Int) ≤ (j : Int) := by omega
          have hj1 : (j : Int) < (m : Int) := by omega
          have hj2 : (j : Int) < (k : Int) := by omega
          clear r hy hne
          go_wp2_with fail
          go_quiet (fail)
          go_wp2_with fail
          go_roundg (gk - 1)
          case measure => have h1 := HJ.out; omega
          case rel => exact ⟨j + 1, by omega, by show _ = _; have h1 := HJ.out; omega, by go_num, HN.out.drewN _, HS.out.drewN _⟩
        · obtain rfl : j = k := by omega
          go_wp2_with fail
          go_roundg (ko - 1)
          case measure => have h1 := HK.out; omega
          case rel => exact ⟨j + 1, by omega, by show _ = _; have h1 := HK.out; omega, by go_num, HN.out, HS.out⟩
    · obtain rfl : k = m := by omega
      go_wp2_with fail
      go_ret
      exact ⟨rfl, HS.out⟩
end Go.Proofs.Ytpalacfgpcpppaa
