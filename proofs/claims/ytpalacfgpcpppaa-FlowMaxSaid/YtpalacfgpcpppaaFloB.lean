/- Layer 10: Valid of the program and of the reference. (printed by genFloB.py) -/
import Derived.Test.YtpalacfgpcpppaaFloA
import Derived.Laws.EntriesVeiled
namespace Go.Proofs.Ytpalacfgpcpppaa
open Go Go.RowKit
set_option maxRecDepth 100000

set_option maxHeartbeats 4000000 in
theorem idx43 {w : World} {n : NetV} {N P Q : Nat} {nodes : Int} (h : NetIs w n) (hc : VlC w N P Q nodes) :
    Calls Try.prog 43 #[.slice n.sl.addr n.sl.len n.sl.cap, .func (.func 35) #[] #[.pointer (some ⟨P, 0, none⟩), .pointer (some ⟨Q, 0, none⟩)]] w fun r w' => r = .returned (.int .i64 (fidx (arcBad nodes) n.arcs)) ∧ Same noB w w' := by
  have HB := Lib.hid h
  have HC := Lib.hid hc
  have hcaps := h.rd.caps
  have HL := Lib.hid h.len
  clear h hc
  obtain ⟨A, hA⟩ : ∃ A, n.sl.addr = A := ⟨_, rfl⟩
  obtain ⟨m, hm⟩ : ∃ m, n.sl.len = m := ⟨_, rfl⟩
  obtain ⟨c, hcc⟩ : ∃ c, n.sl.cap = c := ⟨_, rfl⟩
  have HR : Hid (Rd w noB 4 (.slice A m c) m (acells n.arcs)) := by show Rd _ _ _ _ _ _; rw [← hA, ← hm, ← hcc]; exact HB.out.rd
  rw [hm] at HL
  rw [hA, hm, hcc]
  rw [hm, hcc] at hcaps
  clear hA hm hcc HB
  go_enter Try.func43, Try.ntmps43
  go_wp2_with fail
  go_loopw [8] (fun i wr => ∃ k : Nat, k ≤ m ∧ i = .int .i64 k ∧ Hid ((∀ (j : Nat) (z : ArcV), j < k → n.arcs[j]? = some z → arcBad nodes z = false) ∧ Same noB w wr)) (fun i _ => m - (intOf i).toNat)
  case atStart => exact ⟨0, Nat.zero_le _, rfl, ⟨fun j z hj => by omega, Same.refl _ _⟩⟩
  case round =>
    obtain ⟨k, hk, rfl, HS⟩ := hrel
    by_cases hlt : k < m
    · obtain ⟨x, hx⟩ : ∃ e, n.arcs[k]? = some e := ⟨_, List.getElem?_eq_getElem (by have := HL.out; omega)⟩
      obtain ⟨b, o, rfl, r⟩ := (HR.out.keep HS.out.2).at_ (by omega)
      obtain ⟨p0, p1, p2, p3⟩ := arc_at r hx
      have hC := bad35 (HC.out.keep HS.out.2) x
      unfold ArcV.val at hC
      have hi0 : (0 : Int) ≤ (k : Int) := by omega
      have hi1 : (k : Int) < (m : Int) := by omega
      have HY := Lib.hid hx
      cases hp : arcBad nodes x
      · rw [hp] at hC
        have HC2 := Lib.hid hC
        have HP := Lib.hid hp
        clear hC hp hx r
        go_wp2_with fail
        have hZ := HC2.out
        (with_reducible refine Calls.mono hZ ?_)
        clear hZ HC2
        rintro e3 w3 ⟨rfl, hs⟩
        have HS3 : Hid (Same noB w w3) := HS.out.2.trans' hs
        clear hs p0 p1 p2 p3
        go_wp2_with fail
        go_roundw
        case rel => exact ⟨k + 1, by omega, by go_num, ⟨fun j z hj hz => by
          by_cases e : j = k
          · subst e
            have := hz.symm.trans HY.out
            injection this with this
            rw [this]
            exact HP.out
          · exact HS.out.1 j z (by omega) hz, HS3.out⟩⟩
        case measure => simp [intOf]; omega
      · rw [hp] at hC
        have HC2 := Lib.hid hC
        have HF := Lib.hid (fidx_some (p := arcBad nodes) hx hp HS.out.1)
        clear hC hp hx r
        go_wp2_with fail
        have hZ := HC2.out
        (with_reducible refine Calls.mono hZ ?_)
        clear hZ HC2
        rintro e3 w3 ⟨rfl, hs⟩
        have HS3 : Hid (Same noB w w3) := HS.out.2.trans' hs
        clear hs p0 p1 p2 p3
        go_wp2_with fail
        go_ret
        exact ⟨by rw [HF.out] <;> rfl, HS3.out⟩
    · obtain rfl : k = m := by omega
      have HF := Lib.hid (fidx_none (p := arcBad nodes) (l := n.arcs) (fun j z hz => HS.out.1 j z (by have := HL.out; have := (List.getElem?_eq_some_iff.1 hz).1; omega) hz))
      go_wp2_with fail
      go_ret
      exact ⟨by rw [HF.out] <;> rfl, HS.out.2⟩
theorem cont34 {w : World} {n : NetV} {N P Q : Nat} {nodes : Int} (h : NetIs w n) (hc : VlC w N P Q nodes) :
    Calls Try.prog 34 #[.slice n.sl.addr n.sl.len n.sl.cap, .func (.func 35) #[] #[.pointer (some ⟨P, 0, none⟩), .pointer (some ⟨Q, 0, none⟩)]] w fun r w' => r = .returned (.bool (n.arcs.any (arcBad nodes))) ∧ Same noB w w' := by
  have HZ := Lib.hid (idx43 h hc)
  have HA := Lib.hid (fidx_any (arcBad nodes) n.arcs)
  clear h hc
  go_enter Try.func34, Try.ntmps34
  go_wp2_with fail
  (with_reducible refine Calls.mono HZ.out ?_)
  rintro r W ⟨rfl, hs⟩
  have HS := Lib.hid hs
  clear hs
  go_wp2_with fail
  go_ret
  exact ⟨by rw [← HA.out] <;> rfl, HS.out⟩

set_option maxHeartbeats 16000000 in
theorem valid_any {w : World} {n : NetV} (h : NetIs w n) :
    Calls Try.prog 11 #[n.val] w fun r w' => r = .returned (.bool n.validB) ∧ Same noB w w' := by
  have HB := Lib.hid h
  have hcaps := h.rd.caps
  clear h
  unfold NetV.val
  go_enter Try.func11, Try.ntmps11
  have hb1 := Blk.new w 24 #[.int .i64 n.nodes, .int .i64 n.source, .int .i64 n.sink, .slice n.sl.addr n.sl.len n.sl.cap, .int .i64 n.hold]
  have hb2 := Blk.new (w.alloc (.cells #[.int .i64 n.nodes, .int .i64 n.source, .int .i64 n.sink, .slice n.sl.addr n.sl.len n.sl.cap, .int .i64 n.hold] 24)) 67 #[.func (.func 32) #[] #[.pointer (some ⟨w.heap.size, 0, none⟩)]]
  have hs2 : Same noB w ((w.alloc (.cells #[.int .i64 n.nodes, .int .i64 n.source, .int .i64 n.sink, .slice n.sl.addr n.sl.len n.sl.cap, .int .i64 n.hold] 24)).alloc (.cells #[.func (.func 32) #[] #[.pointer (some ⟨w.heap.size, 0, none⟩)]] 67)) := ((Same.refl _ _).alloc _).alloc _
  simp only [World.size_alloc] at hb2
  have HB1 := Lib.hid (hb1.alloc (.cells #[.func (.func 32) #[] #[.pointer (some ⟨w.heap.size, 0, none⟩)]] 67))
  have HB2 := Lib.hid hb2
  have HS2 := Lib.hid hs2
  clear hb1 hb2 hs2
  go_upto_region 2 with (fail)
  refine wp_abs (fun W => Hid (Blk W w.heap.size 24 #[.int .i64 n.nodes, .int .i64 n.source, .int .i64 n.sink, .slice n.sl.addr n.sl.len n.sl.cap, .int .i64 n.hold]) ∧ Hid (Blk W (w.heap.size + 1) 67 #[.func (.func 32) #[] #[.pointer (some ⟨w.heap.size, 0, none⟩)]]) ∧ Hid (Same noB w W)) ⟨HB1.out, HB2.out, HS2.out⟩ ?_
  clear HB1 HB2 HS2
  rintro U ⟨HN, HP, HS⟩
  obtain ⟨N, hN⟩ : ∃ N, w.heap.size = N := ⟨_, rfl⟩
  rw [hN] at HN HP ⊢
  clear hN
  have hb3 := Blk.new U 68 #[.func (.func 33) #[] #[]]
  have HB3 := Lib.hid hb3
  clear hb3
  go_upto_region 3 with (fail)
  refine wp_abs (fun W => Hid (VlC W N (N + 1) U.heap.size n.nodes) ∧ Hid (Blk W N 24 #[.int .i64 n.nodes, .int .i64 n.source, .int .i64 n.sink, .slice n.sl.addr n.sl.len n.sl.cap, .int .i64 n.hold]) ∧ Hid (Same noB w W)) ?_ ?_
  · have h1 := HN.out.alloc (.cells #[.func (.func 33) #[] #[]] 68)
    have h2 := HP.out.alloc (.cells #[.func (.func 33) #[] #[]] 68)
    exact ⟨⟨h1.cell 0, h2.cell 0, HB3.out.cell 0⟩, h1, HS.out.alloc _⟩
  clear HN HP HS HB3
  · rintro V0 ⟨HC, HN, HS⟩
    obtain ⟨Q, hQ⟩ : ∃ Q, U.heap.size = Q := ⟨_, rfl⟩
    rw [hQ] at HC ⊢
    clear hQ
    have cp := HC.out.p
    have cq := HC.out.q
    have x0 : V0.cell? ⟨N, 0, none⟩ = some (.int .i64 n.nodes) := HN.out.cell 0
    have x1 : V0.cell? ⟨N, 1, none⟩ = some (.int .i64 n.source) := HN.out.cell 1
    have x2 : V0.cell? ⟨N, 2, none⟩ = some (.int .i64 n.sink) := HN.out.cell 2
    have x3 : V0.cell? ⟨N, 3, none⟩ = some (.slice n.sl.addr n.sl.len n.sl.cap) := HN.out.cell 3
    have x4 : V0.cell? ⟨N, 4, none⟩ = some (.int .i64 n.hold) := HN.out.cell 4
    by_cases h0 : n.nodes < 2
    · have HF : Hid (n.validB = false) := by show _ = _; unfold NetV.validB NetV.headB; simp [h0]
      have d0 : decide (n.nodes < 2) = true := decide_eq_true h0
      clear h0
      go_wp2_with fail
      go_ret
      exact ⟨by rw [HF.out] <;> rfl, HS.out⟩
    have d0 : decide (n.nodes < 2) = false := decide_eq_false h0
    by_cases h1 : 400 < n.nodes
    · have HF : Hid (n.validB = false) := by show _ = _; unfold NetV.validB NetV.headB; simp [h1]
      have d1 : decide (400 < n.nodes) = true := decide_eq_true h1
      clear h1
      go_wp2_with fail
      go_ret
      exact ⟨by rw [HF.out] <;> rfl, HS.out⟩
    have d1 : decide (400 < n.nodes) = false := decide_eq_false h1
    have HZ := Lib.hid (ex32 HC.out.n n.source)
    go_wp2_with fail
    (with_reducible refine Calls.mono HZ.out ?_)
    clear HZ x0 x1 x2 x3 x4 cp cq
    rintro r V1 ⟨rfl, hs1⟩
    replace HC := Lib.hid (HC.out.keep hs1)
    replace HS := Lib.hid (HS.out.trans' hs1)
    replace HN := Lib.hid (HN.out.same hs1 (fun x => x))
    clear hs1
    have cp := HC.out.p
    have cq := HC.out.q
    have x0 : V1.cell? ⟨N, 0, none⟩ = some (.int .i64 n.nodes) := HN.out.cell 0
    have x1 : V1.cell? ⟨N, 1, none⟩ = some (.int .i64 n.source) := HN.out.cell 1
    have x2 : V1.cell? ⟨N, 2, none⟩ = some (.int .i64 n.sink) := HN.out.cell 2
    have x3 : V1.cell? ⟨N, 3, none⟩ = some (.slice n.sl.addr n.sl.len n.sl.cap) := HN.out.cell 3
    have x4 : V1.cell? ⟨N, 4, none⟩ = some (.int .i64 n.hold) := HN.out.cell 4
    cases hb2 : exB n.nodes n.source with
    | false =>
      have HF : Hid (n.validB = false) := by show _ = _; unfold NetV.validB NetV.headB; simp [hb2]
      clear hb2
      go_wp2_with fail
      go_ret
      exact ⟨by rw [HF.out] <;> rfl, HS.out⟩
    | true =>
    have HZ := Lib.hid (ex32 HC.out.n n.sink)
    go_wp2_with fail
    (with_reducible refine Calls.mono HZ.out ?_)
    clear HZ x0 x1 x2 x3 x4 cp cq
    rintro r V2 ⟨rfl, hs1⟩
    replace HC := Lib.hid (HC.out.keep hs1)
    replace HS := Lib.hid (HS.out.trans' hs1)
    replace HN := Lib.hid (HN.out.same hs1 (fun x => x))
    clear hs1
    have cp := HC.out.p
    have cq := HC.out.q
    have x0 : V2.cell? ⟨N, 0, none⟩ = some (.int .i64 n.nodes) := HN.out.cell 0
    have x1 : V2.cell? ⟨N, 1, none⟩ = some (.int .i64 n.source) := HN.out.cell 1
    have x2 : V2.cell? ⟨N, 2, none⟩ = some (.int .i64 n.sink) := HN.out.cell 2
    have x3 : V2.cell? ⟨N, 3, none⟩ = some (.slice n.sl.addr n.sl.len n.sl.cap) := HN.out.cell 3
    have x4 : V2.cell? ⟨N, 4, none⟩ = some (.int .i64 n.hold) := HN.out.cell 4
    cases hb3 : exB n.nodes n.sink with
    | false =>
      have HF : Hid (n.validB = false) := by show _ = _; unfold NetV.validB NetV.headB; simp [hb3]
      clear hb3
      go_wp2_with fail
      go_ret
      exact ⟨by rw [HF.out] <;> rfl, HS.out⟩
    | true =>
    by_cases h4 : n.source = n.sink
    · have HF : Hid (n.validB = false) := by show _ = _; unfold NetV.validB NetV.headB; simp [h4]
      have d4 : (n.source == n.sink) = true := beq_iff_eq.2 h4
      rw [h4] at x1
      clear h4 d4
      go_wp2_with fail
      go_ret
      exact ⟨by rw [HF.out] <;> rfl, HS.out⟩
    have d4 : (n.source == n.sink) = false := beq_eq_false_iff_ne.2 h4
    by_cases h5 : 4000 < (n.sl.len : Int)
    · have HF : Hid (n.validB = false) := by
        show _ = _
        have h5b : decide (4000 < (n.arcs.length : Int)) = true := decide_eq_true (by have := HB.out.len; omega)
        unfold NetV.validB NetV.headB
        rw [h5b]
        simp
      have d5 : decide (4000 < (n.sl.len : Int)) = true := decide_eq_true h5
      clear h5
      go_wp2_with fail
      go_ret
      exact ⟨by rw [HF.out] <;> rfl, HS.out⟩
    have d5 : decide (4000 < (n.sl.len : Int)) = false := decide_eq_false h5
    have HZ := Lib.hid (am33 V2 n.hold)
    go_wp2_with fail
    (with_reducible refine Calls.mono HZ.out ?_)
    clear HZ x0 x1 x2 x3 x4 cp cq
    rintro r V3 ⟨rfl, hs1⟩
    replace HC := Lib.hid (HC.out.keep hs1)
    replace HS := Lib.hid (HS.out.trans' hs1)
    replace HN := Lib.hid (HN.out.same hs1 (fun x => x))
    clear hs1
    have cp := HC.out.p
    have cq := HC.out.q
    have x0 : V3.cell? ⟨N, 0, none⟩ = some (.int .i64 n.nodes) := HN.out.cell 0
    have x1 : V3.cell? ⟨N, 1, none⟩ = some (.int .i64 n.source) := HN.out.cell 1
    have x2 : V3.cell? ⟨N, 2, none⟩ = some (.int .i64 n.sink) := HN.out.cell 2
    have x3 : V3.cell? ⟨N, 3, none⟩ = some (.slice n.sl.addr n.sl.len n.sl.cap) := HN.out.cell 3
    have x4 : V3.cell? ⟨N, 4, none⟩ = some (.int .i64 n.hold) := HN.out.cell 4
    cases hb6 : amB n.hold with
    | false =>
      have HF : Hid (n.validB = false) := by show _ = _; unfold NetV.validB NetV.headB; simp [hb6]
      clear hb6
      go_wp2_with fail
      go_ret
      exact ⟨by rw [HF.out] <;> rfl, HS.out⟩
    | true =>
    have hhd : n.headB = true := by
      have h5b : ¬ 4000 < (n.arcs.length : Int) := by have := HB.out.len; omega
      unfold NetV.headB
      rw [d0, d1, hb2, hb3, d4, decide_eq_false h5b, hb6]
      rfl
    have HHD := Lib.hid hhd
    have HZ := Lib.hid (cont34 (HB.out.keep HS.out) HC.out)
    clear hhd h0 h1 h4 h5 hb2 hb3 hb6
    go_wp2_with fail
    (with_reducible refine Calls.mono HZ.out ?_)
    clear HZ x0 x1 x2 x3 x4 cp cq
    rintro r V9 ⟨rfl, hs1⟩
    replace HS := Lib.hid (HS.out.trans' hs1)
    clear hs1
    go_wp2_with fail
    go_ret
    exact ⟨by unfold NetV.validB; rw [HHD.out, Bool.true_and] <;> rfl, HS.out⟩
end Go.Proofs.Ytpalacfgpcpppaa
