/- Layer 10: the law FlowLeast, walked. (printed by genLawLea.py) -/
import Derived.Test.YtpalacfgpcpppaaFloEx
import Derived.Test.YtpalacfgpcpppaaFloZ
namespace Go.Proofs.Ytpalacfgpcpppaa
open Go Go.RowKit
set_option maxRecDepth 100000

def LeaS (N G : Nat) (n : NetV) (g : FlowV) (w : World) : Prop := w.cell? ⟨N, 0, none⟩ = some (.int .i64 n.nodes) ∧ w.cell? ⟨N, 1, none⟩ = some (.int .i64 n.source) ∧ w.cell? ⟨N, 2, none⟩ = some (.int .i64 n.sink) ∧ w.cell? ⟨N, 3, none⟩ = some (.slice n.sl.addr n.sl.len n.sl.cap) ∧ w.cell? ⟨N, 4, none⟩ = some (.int .i64 n.hold) ∧
  w.cell? ⟨G, 0, none⟩ = some (.int .i64 g.value)
set_option maxHeartbeats 16000000 in
theorem lawLeast_any {w : World} {n : NetV} (h : NetIs w n) :
    Calls Try.prog 4 #[n.val] w fun r w' => r = .returned (.bool true) ∧ Same noB w w' := by
  have hcaps := h.rd.caps
  have hZR := fun (W : World) (hs : Same noB w W) => rvalid_any (h.keep hs)
  have hZM := fun (W : World) (hs : Same noB w W) (hv : n.validB = true) => max_ok (h.keep hs) hv
  have hZL := fun (W : World) (hs : Same noB w W) (hv : n.validB = true) (hn : n.nodes ≤ 8) => rleast_any (h.keep hs) hv hn
  unfold NetV.val at hZR hZM hZL ⊢
  have HZR := Lib.hid hZR
  have HZM := Lib.hid hZM
  have HZL := Lib.hid hZL
  clear h hZR hZM hZL
  go_enter Try.func4, Try.ntmps4
  go_upto_region 1 with (fail)
  refine wp_abs (fun W => Hid (Blk W w.heap.size 24 #[.int .i64 n.nodes, .int .i64 n.source, .int .i64 n.sink, .slice n.sl.addr n.sl.len n.sl.cap, .int .i64 n.hold]) ∧ Hid (Same noB w W)) ⟨Blk.new w 24 _, (Same.refl _ _).alloc _⟩ ?_
  rintro W0 ⟨HN, HS⟩
  obtain ⟨N, hN⟩ : ∃ N, w.heap.size = N := ⟨_, rfl⟩
  rw [hN] at HN ⊢
  clear hN
  go_wp2_with fail
  (with_reducible refine Calls.mono (awake_any _) ?_)
  rintro r W1 ⟨rfl, hs1⟩
  replace HN := Lib.hid (HN.out.same hs1 (fun x => x))
  replace HS := Lib.hid (HS.out.trans' hs1)
  clear hs1
  have x0 : W1.cell? ⟨N, 0, none⟩ = some (.int .i64 n.nodes) := HN.out.cell 0
  have x1 : W1.cell? ⟨N, 1, none⟩ = some (.int .i64 n.source) := HN.out.cell 1
  have x2 : W1.cell? ⟨N, 2, none⟩ = some (.int .i64 n.sink) := HN.out.cell 2
  have x3 : W1.cell? ⟨N, 3, none⟩ = some (.slice n.sl.addr n.sl.len n.sl.cap) := HN.out.cell 3
  have x4 : W1.cell? ⟨N, 4, none⟩ = some (.int .i64 n.hold) := HN.out.cell 4
  by_cases h1 : (20 : Int) < (n.sl.len : Int)
  · clear x0 x1 x2 x4
    go_wp2_with fail
    (with_reducible refine Calls.mono (awake_any _) ?_)
    rintro r W9 ⟨rfl, hs9⟩
    go_wp2_with fail
    go_ret
    exact ⟨rfl, HS.out.trans' hs9⟩
  by_cases h2 : 8 < n.nodes
  · clear x1 x2 x4
    go_wp2_with fail
    (with_reducible refine Calls.mono (awake_any _) ?_)
    rintro r W9 ⟨rfl, hs9⟩
    go_wp2_with fail
    go_ret
    exact ⟨rfl, HS.out.trans' hs9⟩
  cases hv : n.validB with
  | false =>
    have hZ := HZR.out W1 HS.out
    rw [hv] at hZ
    have HZ := Lib.hid hZ
    clear hZ hv
    go_wp2_with fail
    (with_reducible refine Calls.mono HZ.out ?_)
    clear HZ x0 x1 x2 x3 x4
    rintro r W2 ⟨rfl, hs1⟩
    replace HN := Lib.hid (HN.out.same hs1 (fun x => x))
    replace HS := Lib.hid (HS.out.trans' hs1)
    clear hs1
    go_wp2_with fail
    (with_reducible refine Calls.mono (awake_any _) ?_)
    rintro r W9 ⟨rfl, hs9⟩
    go_wp2_with fail
    go_ret
    exact ⟨rfl, HS.out.trans' hs9⟩
  | true =>
    have HV := Lib.hid hv
    have hZ := HZR.out W1 HS.out
    rw [hv] at hZ
    have HZ := Lib.hid hZ
    have HN8 : Hid (n.nodes ≤ 8) := by show _ ≤ _; omega
    clear hZ hv
    go_wp2_with fail
    (with_reducible refine Calls.mono HZ.out ?_)
    clear HZ x0 x1 x2 x3 x4
    rintro r W2 ⟨rfl, hs1⟩
    replace HN := Lib.hid (HN.out.same hs1 (fun x => x))
    replace HS := Lib.hid (HS.out.trans' hs1)
    clear hs1
    have x0 : W2.cell? ⟨N, 0, none⟩ = some (.int .i64 n.nodes) := HN.out.cell 0
    have x1 : W2.cell? ⟨N, 1, none⟩ = some (.int .i64 n.source) := HN.out.cell 1
    have x2 : W2.cell? ⟨N, 2, none⟩ = some (.int .i64 n.sink) := HN.out.cell 2
    have x3 : W2.cell? ⟨N, 3, none⟩ = some (.slice n.sl.addr n.sl.len n.sl.cap) := HN.out.cell 3
    have x4 : W2.cell? ⟨N, 4, none⟩ = some (.int .i64 n.hold) := HN.out.cell 4
    have HZ := Lib.hid (HZM.out W2 HS.out HV.out)
    go_wp2_with fail
    (with_reducible refine Calls.mono HZ.out ?_)
    clear HZ x0 x1 x2 x3 x4
    rintro r W4 ⟨g, rfl, hg, hmx, hsd, hs1⟩
    replace HN := Lib.hid (HN.out.same hs1 (fun x => x))
    replace HS := Lib.hid (HS.out.trans' hs1)
    clear hs1
    have HMX := Lib.hid hmx
    have HG0 := Lib.hid (row_stored (Blk.new W4 29 #[.int .i64 0, .slice none 0 0, .slice none 0 0]) #[.int .i64 g.value, .slice g.sa.addr g.sa.len g.sa.cap, .slice g.ss.addr g.ss.len g.ss.cap])
    unfold FlowV.val
    clear hmx hsd hg
    go_upto_region 4 with (refine wpList_store_row rfl 29 _ _ rfl W4.heap.size #[.int .i64 g.value, .slice g.sa.addr g.sa.len g.sa.cap, .slice g.ss.addr g.ss.len g.ss.cap] rfl rfl 29 _ (Blk.new W4 29 #[.int .i64 0, .slice none 0 0, .slice none 0 0]) (by kernel_rfl) rfl (by kernel_rfl) ?_)
    have hs0 : Same noB W4 ((W4.alloc (.cells #[.int .i64 0, .slice none 0 0, .slice none 0 0] 29)).setRow W4.heap.size #[.int .i64 g.value, .slice g.sa.addr g.sa.len g.sa.cap, .slice g.ss.addr g.ss.len g.ss.cap]) := ((Same.refl noB W4).alloc _).trans HG0.out.2 (fun b hb hx => by have h3 : b = W4.heap.size := hx; omega)
    refine wp_abs (fun W => Hid (Blk W N 24 #[.int .i64 n.nodes, .int .i64 n.source, .int .i64 n.sink, .slice n.sl.addr n.sl.len n.sl.cap, .int .i64 n.hold]) ∧ Hid (Blk W W4.heap.size 29 #[.int .i64 g.value, .slice g.sa.addr g.sa.len g.sa.cap, .slice g.ss.addr g.ss.len g.ss.cap]) ∧ Hid (Same noB w W)) ⟨HN.out.same hs0 (fun x => x), HG0.out.1, HS.out.trans' hs0⟩ ?_
    clear hs0 HG0 HS HN
    rintro W5 ⟨HN, HG, HS⟩
    obtain ⟨G, hG⟩ : ∃ G, W4.heap.size = G := ⟨_, rfl⟩
    rw [hG] at HG ⊢
    clear hG
    refine wp_region_T (S := LeaS N G n g) (late := fun j => [].contains j) (by kernel_rfl) ?_ (fun hHeld => ?_)
    · exact ⟨HN.out.cell 0, HN.out.cell 1, HN.out.cell 2, HN.out.cell 3, HN.out.cell 4, HG.out.cell 0⟩
    refine T_pure (i := 0) (v := ?va0) rfl (by kernel_rfl) (by kernel_rfl) (by kernel_rfl) (fun _ _ _ h => h) (Or.inl ⟨?_, ?_⟩) ?_
    rotate_left 1
    · rfl
    · (intro w hSw; clear hSw; go_simp; (try with_reducible rfl))
    go_simp
    refine T_pure (i := 1) (v := ?va1) rfl (by kernel_rfl) (by kernel_rfl) (by kernel_rfl) (fun _ _ _ h => h) (Or.inl ⟨?_, ?_⟩) ?_
    rotate_left 1
    · rfl
    · (intro w hSw; clear hSw; go_simp; (try with_reducible rfl))
    go_simp
    refine T_pure (i := 2) (v := ?va2) rfl (by kernel_rfl) (by kernel_rfl) (by kernel_rfl) (fun _ _ _ h => h) (Or.inl ⟨?_, ?_⟩) ?_
    rotate_left 1
    · rfl
    · (intro w hSw; clear hSw; go_simp; (try with_reducible rfl))
    go_simp
    refine T_pure (i := 3) (v := ?va3) rfl (by kernel_rfl) (by kernel_rfl) (by kernel_rfl) (fun _ _ _ h => h) (Or.inl ⟨?_, ?_⟩) ?_
    rotate_left 1
    · rfl
    · (intro w hSw; clear hSw; go_simp; (try with_reducible rfl))
    go_simp
    refine T_take (i := 4) (v := ?va4) rfl (by kernel_rfl) (by kernel_rfl) (by kernel_rfl) (by kernel_rfl) (fun _ _ _ h => h) (Or.inl ⟨?_, ?_⟩) (by assumption) ?_
    rotate_left 1
    · rfl
    · (intro w hSw; unfold LeaS at hSw; go_simp; (try with_reducible rfl))
    go_simp
    refine T_take (i := 5) (v := ?va5) rfl (by kernel_rfl) (by kernel_rfl) (by kernel_rfl) (by kernel_rfl) (fun _ _ _ h => h) (Or.inl ⟨?_, ?_⟩) (by assumption) ?_
    rotate_left 1
    · rfl
    · (intro w hSw; unfold LeaS at hSw; go_simp; (try with_reducible rfl))
    go_simp
    refine T_ready (rs := [6]) (by kernel_rfl) (by simp) ?_
    refine ReadyT.early rfl (fun K hK => ?_) ReadyT.nil
    go_simp
    (with_reducible refine Calls.mono (HZL.out _ HS.out.drew HV.out HN8.out) ?_)
    rintro r W6 ⟨best, rfl, hbest, hs1⟩
    have hbq : (g.value == best) = true := beq_iff_eq.2 (least_max (NetV.validB_ok HV.out) HMX.out hbest)
    clear hbest
    replace hs1 := ((Same.refl noB _).drew).trans' hs1
    replace HN := Lib.hid (HN.out.same hs1 (fun x => x))
    replace HG := Lib.hid (HG.out.same hs1 (fun x => x))
    replace HS := Lib.hid (HS.out.trans' hs1)
    clear hs1
    clear hHeld
    go_wp2_with fail
    refine hK.out _ _ ?_ (fun hHeld => ?_)
    · exact ⟨HN.out.cell 0, HN.out.cell 1, HN.out.cell 2, HN.out.cell 3, HN.out.cell 4, HG.out.cell 0⟩
    clear hK K
    refine T_pure (i := 7) (v := ?va7) rfl (by kernel_rfl) (by kernel_rfl) (by kernel_rfl) (fun _ _ _ h => h) (Or.inl ⟨?_, ?_⟩) ?_
    rotate_left 1
    · rfl
    · (intro w hSw; clear hSw; go_simp; (try with_reducible rfl))
    go_simp
    refine T_pure (i := 8) (v := ?va8) rfl (by kernel_rfl) (by kernel_rfl) (by kernel_rfl) (fun _ _ _ h => h) (Or.inl ⟨?_, ?_⟩) ?_
    rotate_left 1
    · rfl
    · (intro w hSw; clear hSw; go_simp; (try with_reducible rfl))
    go_simp
    refine T_pure (i := 9) (v := ?va9) rfl (by kernel_rfl) (by kernel_rfl) (by kernel_rfl) (fun _ _ _ h => h) (Or.inl ⟨?_, ?_⟩) ?_
    rotate_left 1
    · rfl
    · (intro w hSw; clear hSw; go_simp; (try with_reducible rfl))
    go_simp
    refine T_done (by kernel_rfl) ?_ _
    go_wp2_with fail
    go_ret
    exact ⟨rfl, HS.out⟩
end Go.Proofs.Ytpalacfgpcpppaa
