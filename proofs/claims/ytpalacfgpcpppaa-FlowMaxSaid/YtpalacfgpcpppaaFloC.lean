/- Layer 10: Valid of the reference. (printed by genFloC.py) -/
import Derived.Test.YtpalacfgpcpppaaFloA
namespace Go.Proofs.Ytpalacfgpcpppaa
open Go Go.RowKit
set_option maxRecDepth 100000

set_option maxHeartbeats 16000000 in
theorem rvalid_any {w : World} {n : NetV} (h : NetIs w n) :
    Calls Try.prog 12 #[n.val] w fun r w' => r = .returned (.bool n.validB) ∧ Same noB w w' := by
  have HB := Lib.hid h
  have hcaps := h.rd.caps
  clear h
  unfold NetV.val
  go_enter Try.func12, Try.ntmps12
  go_upto_region 1 with (fail)
  refine wp_abs (fun W => Hid (Blk W w.heap.size 24 #[.int .i64 n.nodes, .int .i64 n.source, .int .i64 n.sink, .slice n.sl.addr n.sl.len n.sl.cap, .int .i64 n.hold]) ∧ Hid (Same noB w W)) ⟨Blk.new w 24 _, (Same.refl _ _).alloc _⟩ ?_
  rintro W0 ⟨HN, HS⟩
  obtain ⟨N, hN⟩ : ∃ N, w.heap.size = N := ⟨_, rfl⟩
  rw [hN] at HN ⊢
  clear hN
  have x0 : W0.cell? ⟨N, 0, none⟩ = some (.int .i64 n.nodes) := HN.out.cell 0
  have x1 : W0.cell? ⟨N, 1, none⟩ = some (.int .i64 n.source) := HN.out.cell 1
  have x2 : W0.cell? ⟨N, 2, none⟩ = some (.int .i64 n.sink) := HN.out.cell 2
  have x3 : W0.cell? ⟨N, 3, none⟩ = some (.slice n.sl.addr n.sl.len n.sl.cap) := HN.out.cell 3
  have x4 : W0.cell? ⟨N, 4, none⟩ = some (.int .i64 n.hold) := HN.out.cell 4
  by_cases h0 : n.nodes < 2
  · have HF : Hid (n.validB = false) := by
      show _ = _
      unfold NetV.validB NetV.headB exB amB
      rw [show decide (n.nodes < 2) = true from decide_eq_true (by omega)]
      simp
    have d0 : decide (n.nodes < 2) = true := decide_eq_true h0
    clear h0
    go_wp2_with fail
    go_ret
    exact ⟨by rw [HF.out] <;> rfl, HS.out⟩
  have d0 : decide (n.nodes < 2) = false := decide_eq_false h0
  by_cases h1 : 400 < n.nodes
  · have HF : Hid (n.validB = false) := by
      show _ = _
      unfold NetV.validB NetV.headB exB amB
      rw [show decide (400 < n.nodes) = true from decide_eq_true (by omega)]
      simp
    have d1 : decide (400 < n.nodes) = true := decide_eq_true h1
    clear h1
    go_wp2_with fail
    go_ret
    exact ⟨by rw [HF.out] <;> rfl, HS.out⟩
  have d1 : decide (400 < n.nodes) = false := decide_eq_false h1
  by_cases h2 : n.source < 0
  · have HF : Hid (n.validB = false) := by
      show _ = _
      unfold NetV.validB NetV.headB exB amB
      rw [show decide (0 ≤ n.source) = false from decide_eq_false (by omega)]
      simp
    have d2 : decide (n.source < 0) = true := decide_eq_true h2
    clear h2
    go_wp2_with fail
    go_ret
    exact ⟨by rw [HF.out] <;> rfl, HS.out⟩
  have d2 : decide (n.source < 0) = false := decide_eq_false h2
  by_cases h3 : n.nodes ≤ n.source
  · have HF : Hid (n.validB = false) := by
      show _ = _
      unfold NetV.validB NetV.headB exB amB
      rw [show decide (n.source < n.nodes) = false from decide_eq_false (by omega)]
      simp
    have d3 : decide (n.nodes ≤ n.source) = true := decide_eq_true h3
    clear h3
    go_wp2_with fail
    go_ret
    exact ⟨by rw [HF.out] <;> rfl, HS.out⟩
  have d3 : decide (n.nodes ≤ n.source) = false := decide_eq_false h3
  by_cases h4 : n.sink < 0
  · have HF : Hid (n.validB = false) := by
      show _ = _
      unfold NetV.validB NetV.headB exB amB
      rw [show decide (0 ≤ n.sink) = false from decide_eq_false (by omega)]
      simp
    have d4 : decide (n.sink < 0) = true := decide_eq_true h4
    clear h4
    go_wp2_with fail
    go_ret
    exact ⟨by rw [HF.out] <;> rfl, HS.out⟩
  have d4 : decide (n.sink < 0) = false := decide_eq_false h4
  by_cases h5 : n.nodes ≤ n.sink
  · have HF : Hid (n.validB = false) := by
      show _ = _
      unfold NetV.validB NetV.headB exB amB
      rw [show decide (n.sink < n.nodes) = false from decide_eq_false (by omega)]
      simp
    have d5 : decide (n.nodes ≤ n.sink) = true := decide_eq_true h5
    clear h5
    go_wp2_with fail
    go_ret
    exact ⟨by rw [HF.out] <;> rfl, HS.out⟩
  have d5 : decide (n.nodes ≤ n.sink) = false := decide_eq_false h5
  by_cases h6 : n.source = n.sink
  · have HF : Hid (n.validB = false) := by
      show _ = _
      unfold NetV.validB NetV.headB exB amB
      rw [show (n.source == n.sink) = true from beq_iff_eq.2 h6]
      simp
    rw [h6] at x1
    clear h6
    go_wp2_with fail
    go_ret
    exact ⟨by rw [HF.out] <;> rfl, HS.out⟩
  have d6 : (n.source == n.sink) = false := beq_eq_false_iff_ne.2 h6
  by_cases h7 : 4000 < (n.sl.len : Int)
  · have HF : Hid (n.validB = false) := by
      show _ = _
      unfold NetV.validB NetV.headB exB amB
      rw [show decide (4000 < (n.arcs.length : Int)) = true from decide_eq_true (by have := HB.out.len; omega)]
      simp
    have d7 : decide (4000 < (n.sl.len : Int)) = true := decide_eq_true h7
    clear h7
    go_wp2_with fail
    go_ret
    exact ⟨by rw [HF.out] <;> rfl, HS.out⟩
  have d7 : decide (4000 < (n.sl.len : Int)) = false := decide_eq_false h7
  by_cases h8 : n.hold < 0
  · have HF : Hid (n.validB = false) := by
      show _ = _
      unfold NetV.validB NetV.headB exB amB
      rw [show decide (0 ≤ n.hold) = false from decide_eq_false (by omega)]
      simp
    have d8 : decide (n.hold < 0) = true := decide_eq_true h8
    clear h8
    go_wp2_with fail
    go_ret
    exact ⟨by rw [HF.out] <;> rfl, HS.out⟩
  have d8 : decide (n.hold < 0) = false := decide_eq_false h8
  by_cases h9 : 1099511627776 < n.hold
  · have HF : Hid (n.validB = false) := by
      show _ = _
      unfold NetV.validB NetV.headB exB amB
      rw [show decide (n.hold ≤ 1099511627776) = false from decide_eq_false (by omega)]
      simp
    have d9 : decide (1099511627776 < n.hold) = true := decide_eq_true h9
    clear h9
    go_wp2_with fail
    go_ret
    exact ⟨by rw [HF.out] <;> rfl, HS.out⟩
  have d9 : decide (1099511627776 < n.hold) = false := decide_eq_false h9
  have hhd : n.headB = true := by
    unfold NetV.headB exB amB
    rw [d0, d1, d6, decide_eq_true (show 0 ≤ n.source by omega), decide_eq_true (show n.source < n.nodes by omega), decide_eq_true (show 0 ≤ n.sink by omega), decide_eq_true (show n.sink < n.nodes by omega), decide_eq_true (show 0 ≤ n.hold by omega), decide_eq_true (show n.hold ≤ 1099511627776 by omega), show decide (4000 < (n.arcs.length : Int)) = false from decide_eq_false (by have := HB.out.len; omega)]
    rfl
  have HHD := Lib.hid hhd
  clear hhd h0 h1 h2 h3 h4 h5 h6 h8 h9
  obtain ⟨A, hA⟩ : ∃ A, n.sl.addr = A := ⟨_, rfl⟩
  obtain ⟨m, hm⟩ : ∃ m, n.sl.len = m := ⟨_, rfl⟩
  obtain ⟨c, hcc⟩ : ∃ c, n.sl.cap = c := ⟨_, rfl⟩
  have HR : Hid (Rd w noB 4 (.slice A m c) m (acells n.arcs)) := by show Rd _ _ _ _ _ _; rw [← hA, ← hm, ← hcc]; exact HB.out.rd
  have HL : Hid (m = n.arcs.length) := by rw [← hm]; exact HB.out.len
  rw [hA, hm, hcc] at HN x3
  rw [hm, hcc] at hcaps
  rw [hm] at h7 d7
  have hmb : m ≤ 100000 := by omega
  clear hA hm hcc h7
  go_upto_region 4 with (fail)
  clear d0 d1 d2 d3 d4 d5 d6 d7 d8 d9 x0 x1 x2 x3 x4
  go_loopg [3] (m) (fun gk q wr => ∃ (k : Nat), k ≤ m ∧ Hid (gk + k = m) ∧ q = .int .i64 k ∧ Hid (∀ (j : Nat) (z : ArcV), j < k → n.arcs[j]? = some z → arcBad n.nodes z = false) ∧ Hid (Blk wr N 24 #[.int .i64 n.nodes, .int .i64 n.source, .int .i64 n.sink, .slice A m c, .int .i64 n.hold]) ∧ Hid (Same noB w wr))
  case atStart => exact ⟨0, Nat.zero_le _, rfl, rfl, fun j z hj => absurd hj (Nat.not_lt_zero _), HN.out, HS.out⟩
  case round =>
    clear HN HS
    obtain ⟨k, hk, HK, rfl, HA, HN, HS⟩ := hrel
    have x3 : wr.cell? ⟨N, 3, none⟩ = some (.slice A m c) := HN.out.cell 3
    by_cases hlt : k < m
    · obtain ⟨x, hx⟩ : ∃ e, n.arcs[k]? = some e := ⟨_, List.getElem?_eq_getElem (by have := HL.out; omega)⟩
      obtain ⟨b, o, rfl, r⟩ := (HR.out.keep HS.out).at_ (by omega)
      obtain ⟨p0, p1, p2, p3⟩ := arc_at r hx
      have hi0 : (0 : Int) ≤ (k : Int) := by omega
      have hi1 : (k : Int) < (m : Int) := by omega
      have HY := Lib.hid hx
      have HB5 := Lib.hid (row_stored (Blk.new wr 43 #[.int .i64 0, .int .i64 0, .int .i64 0, .int .i64 0]) #[.int .i64 x.f, .int .i64 x.t, .int .i64 x.c, .int .i64 x.d])
      have hsx : Same noB wr ((wr.alloc (.cells #[.int .i64 0, .int .i64 0, .int .i64 0, .int .i64 0] 43)).setRow wr.heap.size #[.int .i64 x.f, .int .i64 x.t, .int .i64 x.c, .int .i64 x.d]) := ((Same.refl noB wr).alloc _).trans HB5.out.2 (fun b hb e => by have h3 : b = wr.heap.size := e; omega)
      clear r hx
      go_upto_region 7 with (refine wpList_store_row rfl 43 _ _ rfl wr.heap.size #[.int .i64 x.f, .int .i64 x.t, .int .i64 x.c, .int .i64 x.d] rfl rfl 43 _ (Blk.new wr 43 #[.int .i64 0, .int .i64 0, .int .i64 0, .int .i64 0]) (by kernel_rfl) rfl (by kernel_rfl) ?_)
      refine wp_abs (fun W => Hid (Blk W wr.heap.size 43 #[.int .i64 x.f, .int .i64 x.t, .int .i64 x.c, .int .i64 x.d]) ∧ Hid (Same noB wr W)) ⟨HB5.out.1, hsx⟩ ?_
      clear p0 p1 p2 p3 HB5 hsx x3
      rintro W ⟨HE, HSW⟩
      obtain ⟨E, hE⟩ : ∃ E, wr.heap.size = E := ⟨_, rfl⟩
      rw [hE] at HE ⊢
      clear hE
      have HN5 := Lib.hid (HN.out.same HSW.out (fun x => x))
      have HS5 := Lib.hid (HS.out.trans' HSW.out)
      have x0 : W.cell? ⟨N, 0, none⟩ = some (.int .i64 n.nodes) := HN5.out.cell 0
      have q0 : W.cell? ⟨E, 0, none⟩ = some (.int .i64 x.f) := HE.out.cell 0
      have q1 : W.cell? ⟨E, 1, none⟩ = some (.int .i64 x.t) := HE.out.cell 1
      have q2 : W.cell? ⟨E, 2, none⟩ = some (.int .i64 x.c) := HE.out.cell 2
      have q3 : W.cell? ⟨E, 3, none⟩ = some (.int .i64 x.d) := HE.out.cell 3
      clear HE HN HS HSW
      by_cases h10 : x.f < 0
      · have hbad : arcBad n.nodes x = true := by
          unfold arcBad exB amB
          rw [show decide (0 ≤ x.f) = false from decide_eq_false (by omega)]
          simp
        have HF : Hid (n.validB = false) := by
          show _ = _
          unfold NetV.validB
          rw [show n.arcs.any (arcBad n.nodes) = true from List.any_eq_true.2 ⟨x, List.mem_of_getElem? HY.out, hbad⟩]
          simp
        clear hbad
        have d10 : decide (x.f < 0) = true := decide_eq_true h10
        clear h10
        go_wp2_with fail
        go_ret
        exact ⟨by rw [HF.out] <;> rfl, HS5.out⟩
      have d10 : decide (x.f < 0) = false := decide_eq_false h10
      by_cases h11 : n.nodes ≤ x.f
      · have hbad : arcBad n.nodes x = true := by
          unfold arcBad exB amB
          rw [show decide (x.f < n.nodes) = false from decide_eq_false (by omega)]
          simp
        have HF : Hid (n.validB = false) := by
          show _ = _
          unfold NetV.validB
          rw [show n.arcs.any (arcBad n.nodes) = true from List.any_eq_true.2 ⟨x, List.mem_of_getElem? HY.out, hbad⟩]
          simp
        clear hbad
        have d11 : decide (n.nodes ≤ x.f) = true := decide_eq_true h11
        clear h11
        go_wp2_with fail
        go_ret
        exact ⟨by rw [HF.out] <;> rfl, HS5.out⟩
      have d11 : decide (n.nodes ≤ x.f) = false := decide_eq_false h11
      by_cases h12 : x.t < 0
      · have hbad : arcBad n.nodes x = true := by
          unfold arcBad exB amB
          rw [show decide (0 ≤ x.t) = false from decide_eq_false (by omega)]
          simp
        have HF : Hid (n.validB = false) := by
          show _ = _
          unfold NetV.validB
          rw [show n.arcs.any (arcBad n.nodes) = true from List.any_eq_true.2 ⟨x, List.mem_of_getElem? HY.out, hbad⟩]
          simp
        clear hbad
        have d12 : decide (x.t < 0) = true := decide_eq_true h12
        clear h12
        go_wp2_with fail
        go_ret
        exact ⟨by rw [HF.out] <;> rfl, HS5.out⟩
      have d12 : decide (x.t < 0) = false := decide_eq_false h12
      by_cases h13 : n.nodes ≤ x.t
      · have hbad : arcBad n.nodes x = true := by
          unfold arcBad exB amB
          rw [show decide (x.t < n.nodes) = false from decide_eq_false (by omega)]
          simp
        have HF : Hid (n.validB = false) := by
          show _ = _
          unfold NetV.validB
          rw [show n.arcs.any (arcBad n.nodes) = true from List.any_eq_true.2 ⟨x, List.mem_of_getElem? HY.out, hbad⟩]
          simp
        clear hbad
        have d13 : decide (n.nodes ≤ x.t) = true := decide_eq_true h13
        clear h13
        go_wp2_with fail
        go_ret
        exact ⟨by rw [HF.out] <;> rfl, HS5.out⟩
      have d13 : decide (n.nodes ≤ x.t) = false := decide_eq_false h13
      by_cases h14 : x.f = x.t
      · have hbad : arcBad n.nodes x = true := by
          unfold arcBad exB amB
          rw [show (x.f == x.t) = true from beq_iff_eq.2 h14]
          simp
        have HF : Hid (n.validB = false) := by
          show _ = _
          unfold NetV.validB
          rw [show n.arcs.any (arcBad n.nodes) = true from List.any_eq_true.2 ⟨x, List.mem_of_getElem? HY.out, hbad⟩]
          simp
        clear hbad
        rw [h14] at q0
        clear h14
        go_wp2_with fail
        go_ret
        exact ⟨by rw [HF.out] <;> rfl, HS5.out⟩
      have d14 : (x.f == x.t) = false := beq_eq_false_iff_ne.2 h14
      by_cases h15 : x.c < 0
      · have hbad : arcBad n.nodes x = true := by
          unfold arcBad exB amB
          rw [show decide (0 ≤ x.c) = false from decide_eq_false (by omega)]
          simp
        have HF : Hid (n.validB = false) := by
          show _ = _
          unfold NetV.validB
          rw [show n.arcs.any (arcBad n.nodes) = true from List.any_eq_true.2 ⟨x, List.mem_of_getElem? HY.out, hbad⟩]
          simp
        clear hbad
        have d15 : decide (x.c < 0) = true := decide_eq_true h15
        clear h15
        go_wp2_with fail
        go_ret
        exact ⟨by rw [HF.out] <;> rfl, HS5.out⟩
      have d15 : decide (x.c < 0) = false := decide_eq_false h15
      by_cases h16 : 1099511627776 < x.c
      · have hbad : arcBad n.nodes x = true := by
          unfold arcBad exB amB
          rw [show decide (x.c ≤ 1099511627776) = false from decide_eq_false (by omega)]
          simp
        have HF : Hid (n.validB = false) := by
          show _ = _
          unfold NetV.validB
          rw [show n.arcs.any (arcBad n.nodes) = true from List.any_eq_true.2 ⟨x, List.mem_of_getElem? HY.out, hbad⟩]
          simp
        clear hbad
        have d16 : decide (1099511627776 < x.c) = true := decide_eq_true h16
        clear h16
        go_wp2_with fail
        go_ret
        exact ⟨by rw [HF.out] <;> rfl, HS5.out⟩
      have d16 : decide (1099511627776 < x.c) = false := decide_eq_false h16
      by_cases h17 : x.d < 0
      · have hbad : arcBad n.nodes x = true := by
          unfold arcBad exB amB
          rw [show decide (x.d < 0) = true from decide_eq_true (by omega)]
          simp
        have HF : Hid (n.validB = false) := by
          show _ = _
          unfold NetV.validB
          rw [show n.arcs.any (arcBad n.nodes) = true from List.any_eq_true.2 ⟨x, List.mem_of_getElem? HY.out, hbad⟩]
          simp
        clear hbad
        have d17 : decide (x.d < 0) = true := decide_eq_true h17
        clear h17
        go_wp2_with fail
        go_ret
        exact ⟨by rw [HF.out] <;> rfl, HS5.out⟩
      have d17 : decide (x.d < 0) = false := decide_eq_false h17
      by_cases h18 : 16 < x.d
      · have hbad : arcBad n.nodes x = true := by
          unfold arcBad exB amB
          rw [show decide (16 < x.d) = true from decide_eq_true (by omega)]
          simp
        have HF : Hid (n.validB = false) := by
          show _ = _
          unfold NetV.validB
          rw [show n.arcs.any (arcBad n.nodes) = true from List.any_eq_true.2 ⟨x, List.mem_of_getElem? HY.out, hbad⟩]
          simp
        clear hbad
        have d18 : decide (16 < x.d) = true := decide_eq_true h18
        clear h18
        go_wp2_with fail
        go_ret
        exact ⟨by rw [HF.out] <;> rfl, HS5.out⟩
      have d18 : decide (16 < x.d) = false := decide_eq_false h18
      have HP : Hid (arcBad n.nodes x = false) := by
        show _ = _
        unfold arcBad exB amB
        rw [decide_eq_true (show 0 ≤ x.f by omega), decide_eq_true (show x.f < n.nodes by omega), decide_eq_true (show 0 ≤ x.t by omega), decide_eq_true (show x.t < n.nodes by omega), d14, decide_eq_true (show 0 ≤ x.c by omega), decide_eq_true (show x.c ≤ 1099511627776 by omega), d17, d18]
        rfl
      clear h10 h11 h12 h13 h14 h15 h16 h17 h18
      go_wp2_with fail
      go_roundg (gk - 1)
      case measure => have h1 := HK.out; omega
      case rel => exact ⟨k + 1, by omega, by show _ = _; have h1 := HK.out; omega, by go_num, fun j z hj hz => by
        by_cases e : j = k
        · subst e
          have := hz.symm.trans HY.out
          injection this with this
          rw [this]
          exact HP.out
        · exact HA.out j z (by omega) hz, HN5.out, HS5.out⟩
    · obtain rfl : k = m := by omega
      have HF : Hid (n.validB = true) := by
        show _ = _
        unfold NetV.validB
        rw [HHD.out, Bool.true_and, Bool.not_eq_true', List.any_eq_false]
        intro x hx
        obtain ⟨j, hj, rfl⟩ := List.getElem_of_mem hx
        rw [HA.out j _ (by have := HL.out; omega) (List.getElem?_eq_getElem hj)]
        decide
      go_wp2_with fail
      go_ret
      exact ⟨by rw [HF.out] <;> rfl, HS.out⟩
end Go.Proofs.Ytpalacfgpcpppaa
