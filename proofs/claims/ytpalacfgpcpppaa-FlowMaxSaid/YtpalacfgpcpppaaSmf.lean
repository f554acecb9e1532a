/- Layer 10: SameFlow of the reference says yes to equal flows. (printed by genSmf.py) -/
import Derived.Test.YtpalacfgpcpppaaFloD
namespace Go.Proofs.Ytpalacfgpcpppaa
open Go Go.RowKit
set_option maxRecDepth 100000

set_option maxHeartbeats 8000000 in
theorem samefl_core {w : World} {x : Int} {A1 A2 S1 S2 : Option Addr} {m c1 c2 k d1 d2 : Nat} {am : List Int} {sd : List Bool} (h1 : Rd w noB 1 (.slice A1 m c1) m (icells am)) (h2 : Rd w noB 1 (.slice A2 m c2) m (icells am))
    (g1 : Rd w noB 1 (.slice S1 k d1) k (bcells sd)) (g2 : Rd w noB 1 (.slice S2 k d2) k (bcells sd)) (hm : m = am.length) (hk : k = sd.length) :
    Calls Try.prog 13 #[.agg #[.int .i64 x, .slice A1 m c1, .slice S1 k d1], .agg #[.int .i64 x, .slice A2 m c2, .slice S2 k d2]] w fun r w' => r = .returned (.bool true) ∧ Same noB w w' := by
  have hc1 := h1.caps
  have hc2 := h2.caps
  have hc3 := g1.caps
  have hc4 := g2.caps
  have HA := Lib.hid h1
  have HB := Lib.hid h2
  have HC := Lib.hid g1
  have HD := Lib.hid g2
  have HAL := Lib.hid hm
  have HCL := Lib.hid hk
  clear h1 h2 g1 g2 hm hk
  go_enter Try.func13, Try.ntmps13
  go_upto_region 1 with (fail)
  have HP0 := Lib.hid (Blk.new w 29 #[.int .i64 x, .slice A1 m c1, .slice S1 k d1])
  have HQ0 := Lib.hid (Blk.new (w.alloc (.cells #[.int .i64 x, .slice A1 m c1, .slice S1 k d1] 29)) 29 #[.int .i64 x, .slice A2 m c2, .slice S2 k d2])
  rw [World.size_alloc] at HQ0
  refine wp_abs (fun W => Hid (Blk W w.heap.size 29 #[.int .i64 x, .slice A1 m c1, .slice S1 k d1]) ∧ Hid (Blk W (w.heap.size + 1) 29 #[.int .i64 x, .slice A2 m c2, .slice S2 k d2]) ∧ Hid (Same noB w W)) ⟨HP0.out.alloc _, HQ0.out, ((Same.refl _ _).alloc _).alloc _⟩ ?_
  clear HP0 HQ0
  rintro W0 ⟨HP, HQ, HS⟩
  obtain ⟨P, hP⟩ : ∃ P, w.heap.size = P := ⟨_, rfl⟩
  obtain ⟨Q, hQ⟩ : ∃ Q, P + 1 = Q := ⟨_, rfl⟩
  rw [hP] at HP HQ ⊢
  rw [hQ] at HQ ⊢
  clear hP hQ
  have p0 : W0.cell? ⟨P, 0, none⟩ = some (.int .i64 x) := HP.out.cell 0
  have p1 : W0.cell? ⟨P, 1, none⟩ = some (.slice A1 m c1) := HP.out.cell 1
  have p2 : W0.cell? ⟨P, 2, none⟩ = some (.slice S1 k d1) := HP.out.cell 2
  have q0 : W0.cell? ⟨Q, 0, none⟩ = some (.int .i64 x) := HQ.out.cell 0
  have q1 : W0.cell? ⟨Q, 1, none⟩ = some (.slice A2 m c2) := HQ.out.cell 1
  have q2 : W0.cell? ⟨Q, 2, none⟩ = some (.slice S2 k d2) := HQ.out.cell 2
  have e1 : (x != x) = false := by simp
  have e2 : ((m : Int) != (m : Int)) = false := by simp
  have e3 : ((k : Int) != (k : Int)) = false := by simp
  go_wp2_with fail
  go_loopg [5] (m) (fun gk q wr => ∃ (i : Nat), i ≤ m ∧ Hid (gk + i = m) ∧ q = .int .i64 i ∧ Hid (Blk wr P 29 #[.int .i64 x, .slice A1 m c1, .slice S1 k d1]) ∧ Hid (Blk wr Q 29 #[.int .i64 x, .slice A2 m c2, .slice S2 k d2]) ∧ Hid (Same noB w wr))
  case atStart => exact ⟨0, Nat.zero_le _, rfl, rfl, HP.out, HQ.out, HS.out⟩
  case round =>
    clear HP HQ HS p0 p1 p2 q0 q1 q2 e1 e2 e3
    obtain ⟨i, hi, HK, rfl, HP, HQ, HS⟩ := hrel
    by_cases hlt : i < m
    · obtain ⟨y, hy⟩ : ∃ e, am[i]? = some e := ⟨_, List.getElem?_eq_getElem (by have := HAL.out; omega)⟩
      obtain ⟨b1, o1, rfl, r1⟩ := (HA.out.keep HS.out).at_ (by omega)
      obtain ⟨b2, o2, rfl, r2⟩ := (HB.out.keep HS.out).at_ (by omega)
      have q1 := r1.cell i _ (icells_at hy)
      have q2 := r2.cell i _ (icells_at hy)
      have p1 : wr.cell? ⟨P, 1, none⟩ = some _ := HP.out.cell 1
      have p2 : wr.cell? ⟨Q, 1, none⟩ = some _ := HQ.out.cell 1
      have hi0 : (0 : Int) ≤ (i : Int) := by omega
      have hi1 : (i : Int) < (m : Int) := by omega
      have e1 : (y != y) = false := by simp
      clear r1 r2 hy
      go_wp2_with fail
      go_quiet (fail)
      go_wp2_with fail
      go_roundg (gk - 1)
      case measure => have h1 := HK.out; omega
      case rel => exact ⟨i + 1, by omega, by show _ = _; have h1 := HK.out; omega, by go_num, HP.out.drewN _, HQ.out.drewN _, HS.out.drewN _⟩
    · obtain rfl : m = i := by omega
      have p1 : wr.cell? ⟨P, 1, none⟩ = some _ := HP.out.cell 1
      go_wp2_with fail
      go_loopg [6] (k) (fun gk q wr => ∃ (i : Nat), i ≤ k ∧ Hid (gk + i = k) ∧ q = .int .i64 i ∧ Hid (Blk wr P 29 #[.int .i64 x, .slice A1 m c1, .slice S1 k d1]) ∧ Hid (Blk wr Q 29 #[.int .i64 x, .slice A2 m c2, .slice S2 k d2]) ∧ Hid (Same noB w wr))
      case atStart => exact ⟨0, Nat.zero_le _, rfl, rfl, HP.out, HQ.out, HS.out⟩
      case round =>
        clear HP HQ HS p1
        obtain ⟨i, hi, HK, rfl, HP, HQ, HS⟩ := hrel
        by_cases hlt : i < k
        · obtain ⟨y, hy⟩ : ∃ e, sd[i]? = some e := ⟨_, List.getElem?_eq_getElem (by have := HCL.out; omega)⟩
          obtain ⟨b1, o1, rfl, r1⟩ := (HC.out.keep HS.out).at_ (by omega)
          obtain ⟨b2, o2, rfl, r2⟩ := (HD.out.keep HS.out).at_ (by omega)
          have q1 := r1.cell i _ (bcells_at hy)
          have q2 := r2.cell i _ (bcells_at hy)
          have p1 : wr.cell? ⟨P, 2, none⟩ = some _ := HP.out.cell 2
          have p2 : wr.cell? ⟨Q, 2, none⟩ = some _ := HQ.out.cell 2
          have hi0 : (0 : Int) ≤ (i : Int) := by omega
          have hi1 : (i : Int) < (k : Int) := by omega
          have e1 : (y != y) = false := by simp
          clear r1 r2 hy
          go_wp2_with fail
          go_quiet (fail)
          go_wp2_with fail
          go_roundg (gk - 1)
          case measure => have h1 := HK.out; omega
          case rel => exact ⟨i + 1, by omega, by show _ = _; have h1 := HK.out; omega, by go_num, HP.out.drewN _, HQ.out.drewN _, HS.out.drewN _⟩
        · obtain rfl : k = i := by omega
          have p1 : wr.cell? ⟨P, 2, none⟩ = some _ := HP.out.cell 2
          go_wp2_with fail
          go_ret
          exact ⟨rfl, HS.out⟩
theorem samefl_true {w : World} {f g : FlowV} (hf : FlowIs w f) (hg : FlowIs w g) (hv : f.value = g.value) (ha : f.am = g.am) (hs : f.side = g.side) :
    Calls Try.prog 13 #[f.val, g.val] w fun r w' => r = .returned (.bool true) ∧ Same noB w w' := by
  obtain ⟨x, am, sd, ⟨A1, m1, c1⟩, ⟨S1, k1, d1⟩⟩ := f
  obtain ⟨y, an, se, ⟨A2, m2, c2⟩, ⟨S2, k2, d2⟩⟩ := g
  dsimp only at hv ha hs
  subst hv ha hs
  obtain ⟨⟨l1, r1⟩, ⟨l2, r2⟩⟩ := hf
  obtain ⟨⟨l3, r3⟩, ⟨l4, r4⟩⟩ := hg
  dsimp only at l1 r1 l2 r2 l3 r3 l4 r4
  obtain rfl : m2 = m1 := by omega
  obtain rfl : k2 = k1 := by omega
  exact samefl_core r1 r3 r2 r4 l1 l2
end Go.Proofs.Ytpalacfgpcpppaa
