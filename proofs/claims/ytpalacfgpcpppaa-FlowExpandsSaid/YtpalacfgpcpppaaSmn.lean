/- Layer 10: Same of the reference says yes to equal networks. (printed by genSmn.py) -/
import Derived.Test.YtpalacfgpcpppaaFloA
import Derived.Laws.StructEq
namespace Go.Proofs.Ytpalacfgpcpppaa
open Go Go.RowKit
set_option maxRecDepth 100000

set_option maxHeartbeats 8000000 in
theorem samenet_core {w : World} {n0 n1 n2 n4 : Int} {A1 A2 : Option Addr} {m c1 c2 : Nat} {arcs : List ArcV} (h1 : Rd w noB 4 (.slice A1 m c1) m (acells arcs)) (h2 : Rd w noB 4 (.slice A2 m c2) m (acells arcs)) (hm : m = arcs.length) :
    Calls Try.prog 24 #[.agg #[.int .i64 n0, .int .i64 n1, .int .i64 n2, .slice A1 m c1, .int .i64 n4], .agg #[.int .i64 n0, .int .i64 n1, .int .i64 n2, .slice A2 m c2, .int .i64 n4]] w fun r w' => r = .returned (.bool true) ∧ Same noB w w' := by
  have hc1 := h1.caps
  have hc2 := h2.caps
  have HA := Lib.hid h1
  have HB := Lib.hid h2
  have HAL := Lib.hid hm
  clear h1 h2 hm
  go_enter Try.func24, Try.ntmps24
  go_upto_region 1 with (fail)
  have HP0 := Lib.hid (Blk.new w 24 #[.int .i64 n0, .int .i64 n1, .int .i64 n2, .slice A1 m c1, .int .i64 n4])
  have HQ0 := Lib.hid (Blk.new (w.alloc (.cells #[.int .i64 n0, .int .i64 n1, .int .i64 n2, .slice A1 m c1, .int .i64 n4] 24)) 24 #[.int .i64 n0, .int .i64 n1, .int .i64 n2, .slice A2 m c2, .int .i64 n4])
  rw [World.size_alloc] at HQ0
  refine wp_abs (fun W => Hid (Blk W w.heap.size 24 #[.int .i64 n0, .int .i64 n1, .int .i64 n2, .slice A1 m c1, .int .i64 n4]) ∧ Hid (Blk W (w.heap.size + 1) 24 #[.int .i64 n0, .int .i64 n1, .int .i64 n2, .slice A2 m c2, .int .i64 n4]) ∧ Hid (Same noB w W)) ⟨HP0.out.alloc _, HQ0.out, ((Same.refl _ _).alloc _).alloc _⟩ ?_
  clear HP0 HQ0
  rintro W0 ⟨HP, HQ, HS⟩
  obtain ⟨P, hP⟩ : ∃ P, w.heap.size = P := ⟨_, rfl⟩
  obtain ⟨Q, hQ⟩ : ∃ Q, P + 1 = Q := ⟨_, rfl⟩
  rw [hP] at HP HQ ⊢
  rw [hQ] at HQ ⊢
  clear hP hQ
  have p0 : W0.cell? ⟨P, 0, none⟩ = some (.int .i64 n0) := HP.out.cell 0
  have p1 : W0.cell? ⟨P, 1, none⟩ = some (.int .i64 n1) := HP.out.cell 1
  have p2 : W0.cell? ⟨P, 2, none⟩ = some (.int .i64 n2) := HP.out.cell 2
  have p3 : W0.cell? ⟨P, 3, none⟩ = some (.slice A1 m c1) := HP.out.cell 3
  have p4 : W0.cell? ⟨P, 4, none⟩ = some (.int .i64 n4) := HP.out.cell 4
  have q0 : W0.cell? ⟨Q, 0, none⟩ = some (.int .i64 n0) := HQ.out.cell 0
  have q1 : W0.cell? ⟨Q, 1, none⟩ = some (.int .i64 n1) := HQ.out.cell 1
  have q2 : W0.cell? ⟨Q, 2, none⟩ = some (.int .i64 n2) := HQ.out.cell 2
  have q3 : W0.cell? ⟨Q, 3, none⟩ = some (.slice A2 m c2) := HQ.out.cell 3
  have q4 : W0.cell? ⟨Q, 4, none⟩ = some (.int .i64 n4) := HQ.out.cell 4
  have e0 : (n0 != n0) = false := by simp
  have e1 : (n1 != n1) = false := by simp
  have e2 : (n2 != n2) = false := by simp
  have e3 : ((m : Int) != (m : Int)) = false := by simp
  have e4 : (n4 != n4) = false := by simp
  go_wp2_with fail
  go_loopg [5] (m) (fun gk q wr => ∃ (i : Nat), i ≤ m ∧ Hid (gk + i = m) ∧ q = .int .i64 i ∧ Hid (Blk wr P 24 #[.int .i64 n0, .int .i64 n1, .int .i64 n2, .slice A1 m c1, .int .i64 n4]) ∧ Hid (Blk wr Q 24 #[.int .i64 n0, .int .i64 n1, .int .i64 n2, .slice A2 m c2, .int .i64 n4]) ∧ Hid (Same noB w wr))
  case atStart => exact ⟨0, Nat.zero_le _, rfl, rfl, HP.out, HQ.out, HS.out⟩
  case round =>
    clear HP HQ HS p0 p1 p2 p3 p4 q0 q1 q2 q3 q4 e0 e1 e2 e3 e4
    obtain ⟨i, hi, HK, rfl, HP, HQ, HS⟩ := hrel
    have p3 : wr.cell? ⟨P, 3, none⟩ = some (.slice A1 m c1) := HP.out.cell 3
    have q3 : wr.cell? ⟨Q, 3, none⟩ = some (.slice A2 m c2) := HQ.out.cell 3
    by_cases hlt : i < m
    · obtain ⟨y, hy⟩ : ∃ e, arcs[i]? = some e := ⟨_, List.getElem?_eq_getElem (by have := HAL.out; omega)⟩
      obtain ⟨b1, o1, rfl, r1⟩ := (HA.out.keep HS.out).at_ (by omega)
      obtain ⟨b2, o2, rfl, r2⟩ := (HB.out.keep HS.out).at_ (by omega)
      obtain ⟨a0, a1, a2, a3⟩ := arc_at r1 hy
      obtain ⟨g0, g1, g2, g3⟩ := arc_at r2 hy
      have hi0 : (0 : Int) ≤ (i : Int) := by omega
      have hi1 : (i : Int) < (m : Int) := by omega
      obtain ⟨yf, yt, yc, yd⟩ := y
      dsimp only at a0 a1 a2 a3 g0 g1 g2 g3
      have f0 : (yf == yf) = true := by simp
      have f1 : (yt == yt) = true := by simp
      have f2 : (yc == yc) = true := by simp
      have f3 : (yd == yd) = true := by simp
      clear r1 r2 hy
      go_wp2_with fail
      go_quiet (fail)
      go_wp2_with fail
      go_roundg (gk - 1)
      case measure => have h1 := HK.out; omega
      case rel => exact ⟨i + 1, by omega, by show _ = _; have h1 := HK.out; omega, by go_num, HP.out.drewN _, HQ.out.drewN _, HS.out.drewN _⟩
    · obtain rfl : m = i := by omega
      go_wp2_with fail
      go_ret
      exact ⟨rfl, HS.out⟩
theorem samenet_true {w : World} {a b : NetV} (ha : NetIs w a) (hb : NetIs w b) (h0 : a.nodes = b.nodes) (h1 : a.source = b.source) (h2 : a.sink = b.sink) (h3 : a.arcs = b.arcs) (h4 : a.hold = b.hold) :
    Calls Try.prog 24 #[a.val, b.val] w fun r w' => r = .returned (.bool true) ∧ Same noB w w' := by
  obtain ⟨n0, n1, n2, arcs, n4, ⟨A1, m1, c1⟩⟩ := a
  obtain ⟨k0, k1, k2, brcs, k4, ⟨A2, m2, c2⟩⟩ := b
  dsimp only at h0 h1 h2 h3 h4
  subst h0 h1 h2 h3 h4
  have l1 := ha.len
  have l2 := hb.len
  have r1 := ha.rd
  have r2 := hb.rd
  dsimp only at l1 l2 r1 r2
  obtain rfl : m2 = m1 := by omega
  exact samenet_core r1 r2 l1
end Go.Proofs.Ytpalacfgpcpppaa
