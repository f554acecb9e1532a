/- Layer 10: Check of the program, where it accepts. (printed by genFloU.py) -/
import Derived.Test.YtpalacfgpcpppaaFloT
namespace Go.Proofs.Ytpalacfgpcpppaa
open Go Go.RowKit
set_option maxRecDepth 100000

def ChkS (N F b o sK tK : Nat) (n : NetV) (f : FlowV) (w : World) : Prop := w.cell? ⟨N, 0, none⟩ = some (.int .i64 (f.ss.len : Int)) ∧ w.cell? ⟨N, 1, none⟩ = some (.int .i64 (sK : Int)) ∧ w.cell? ⟨N, 2, none⟩ = some (.int .i64 (tK : Int)) ∧ w.cell? ⟨N, 3, none⟩ = some (.slice n.sl.addr n.sl.len n.sl.cap) ∧ w.cell? ⟨N, 4, none⟩ = some (.int .i64 n.hold) ∧
  w.cell? ⟨F, 0, none⟩ = some (.int .i64 f.value) ∧ w.cell? ⟨F, 1, none⟩ = some (.slice f.sa.addr f.sa.len f.sa.cap) ∧ w.cell? ⟨F, 2, none⟩ = some (.slice (some ⟨b, o, none⟩) f.ss.len f.ss.cap) ∧ w.cell? ⟨b, o + sK, none⟩ = some (.bool true) ∧ w.cell? ⟨b, o + tK, none⟩ = some (.bool false)
set_option maxHeartbeats 16000000 in
theorem check_ok {w : World} {n : NetV} {f : FlowV} (h : NetIs w n) (hv : n.validB = true) (hf : FlowIs w f) (hfl : IsFl n f.am f.value) (hsl : (f.side.length : Int) = n.nodes) (h1 : inB f.side n.source = true) (h2 : inB f.side n.sink = false) (hc : capSum f.side n.arcs = f.value) :
    Calls Try.prog 26 #[n.val, f.val] w fun r w' => r = .returned (.int .i64 0) ∧ Same noB w w' := by
  have hok := NetV.validB_ok hv
  have HFL := Lib.hid hfl
  obtain ⟨sK, hsK⟩ : ∃ sK : Nat, n.source = (sK : Int) := ⟨n.source.toNat, by have := hok.source; omega⟩
  obtain ⟨tK, htK⟩ : ∃ tK : Nat, n.sink = (tK : Int) := ⟨n.sink.toNat, by have := hok.sink; omega⟩
  have hss := hok.source
  have htt := hok.sink
  have hZ := fun (W : World) (hs : Same noB w W) => valid_any (h.keep hs)
  have hZF := fun (W : World) (hs : Same noB w W) => flows_any (h.keep hs) hv (hf.keep hs)
  have hZC := fun (W : World) (hs : Same noB w W) => cap_any (h.keep hs) hv (hf.s.keep hs)
  have hfl2 := hf.s.1
  have hRd := hf.s.2
  have hcaps := hf.s.2.caps
  rw [hsK, inB, Int.toNat_natCast] at h1
  rw [htK, inB, Int.toNat_natCast] at h2
  rw [hsK] at hss
  rw [htK] at htt
  rw [hc] at hZC
  rw [hv] at hZ
  unfold NetV.val at hZ hZF hZC ⊢
  unfold FlowV.val at hZF ⊢
  rw [hsK, htK] at hZ hZF hZC ⊢
  obtain ⟨b, o, hb, r⟩ := hRd.at_ (by omega)
  have hsv : f.ss = ⟨some ⟨b, o, none⟩, f.ss.len, f.ss.cap⟩ := by
    cases hq : f.ss with
    | mk a l c => rw [hq] at hb; exact congrArg (fun a => Sl.mk a l c) hb
  have B0 := r.cell sK _ (bcells_at (l := f.side) (i := sK) (x := true) (by
    rw [List.getD_eq_getElem?_getD] at h1
    cases hq : f.side[sK]? with
    | none => rw [hq] at h1; exact absurd h1 (by decide)
    | some x => rw [hq] at h1; exact congrArg some h1))
  have B1 := r.cell tK _ (bcells_at (l := f.side) (i := tK) (x := false) (by
    rw [List.getD_eq_getElem?_getD] at h2
    cases hq : f.side[tK]? with
    | none => exact absurd (List.getElem?_eq_none_iff.1 hq) (by omega)
    | some x => rw [hq] at h2; exact congrArg some h2))
  rw [hb] at hZF hZC ⊢
  have hnn : n.nodes = (f.ss.len : Int) := by omega
  have hi0 : (0 : Int) ≤ (sK : Int) := by omega
  have hi1 : (sK : Int) < (f.ss.len : Int) := by omega
  have hi2 : (0 : Int) ≤ (tK : Int) := by omega
  have hi3 : (tK : Int) < (f.ss.len : Int) := by omega
  have HZV := Lib.hid hZ
  have HZF := Lib.hid hZF
  have HZC := Lib.hid hZC
  have b0 := Lib.hid B0
  have b1 := Lib.hid B1
  have HNN := Lib.hid hnn
  clear h hv hf hok hZ hsK htK hZF hZC hss htt r hRd hb hsv B0 B1 h1 h2 hc hsl hfl hnn hfl2
  go_enter Try.func26, Try.ntmps26
  go_upto_region 1 with (fail)
  have HN0 := Lib.hid (Blk.new w 24 #[.int .i64 n.nodes, .int .i64 (sK : Int), .int .i64 (tK : Int), .slice n.sl.addr n.sl.len n.sl.cap, .int .i64 n.hold])
  have HF0 := Lib.hid (Blk.new (w.alloc (.cells #[.int .i64 n.nodes, .int .i64 (sK : Int), .int .i64 (tK : Int), .slice n.sl.addr n.sl.len n.sl.cap, .int .i64 n.hold] 24)) 29 #[.int .i64 f.value, .slice f.sa.addr f.sa.len f.sa.cap, .slice (some ⟨b, o, none⟩) f.ss.len f.ss.cap])
  rw [World.size_alloc] at HF0
  have hs0 : Same noB w ((w.alloc (.cells #[.int .i64 n.nodes, .int .i64 (sK : Int), .int .i64 (tK : Int), .slice n.sl.addr n.sl.len n.sl.cap, .int .i64 n.hold] 24)).alloc (.cells #[.int .i64 f.value, .slice f.sa.addr f.sa.len f.sa.cap, .slice (some ⟨b, o, none⟩) f.ss.len f.ss.cap] 29)) := ((Same.refl _ _).alloc _).alloc _
  refine wp_abs (fun W => Hid (Blk W w.heap.size 24 #[.int .i64 n.nodes, .int .i64 (sK : Int), .int .i64 (tK : Int), .slice n.sl.addr n.sl.len n.sl.cap, .int .i64 n.hold]) ∧ Hid (Blk W (w.heap.size + 1) 29 #[.int .i64 f.value, .slice f.sa.addr f.sa.len f.sa.cap, .slice (some ⟨b, o, none⟩) f.ss.len f.ss.cap]) ∧ Hid (W.cell? ⟨b, o + sK, none⟩ = some (.bool true)) ∧ Hid (W.cell? ⟨b, o + tK, none⟩ = some (.bool false)) ∧ Hid (Same noB w W)) ⟨HN0.out.alloc _, HF0.out, hs0.cell b0.out (fun x => x), hs0.cell b1.out (fun x => x), hs0⟩ ?_
  clear HN0 HF0 hs0 b0 b1
  rintro W0 ⟨HN, HF, b0, b1, HS⟩
  obtain ⟨N, hN⟩ : ∃ N, w.heap.size = N := ⟨_, rfl⟩
  obtain ⟨F, hF⟩ : ∃ F, N + 1 = F := ⟨_, rfl⟩
  rw [hN] at HN HF ⊢
  rw [hF] at HF ⊢
  clear hN hF
  have x0 : W0.cell? ⟨N, 0, none⟩ = some (.int .i64 n.nodes) := HN.out.cell 0
  have x1 : W0.cell? ⟨N, 1, none⟩ = some (.int .i64 (sK : Int)) := HN.out.cell 1
  have x2 : W0.cell? ⟨N, 2, none⟩ = some (.int .i64 (tK : Int)) := HN.out.cell 2
  have x3 : W0.cell? ⟨N, 3, none⟩ = some (.slice n.sl.addr n.sl.len n.sl.cap) := HN.out.cell 3
  have x4 : W0.cell? ⟨N, 4, none⟩ = some (.int .i64 n.hold) := HN.out.cell 4
  go_wp2_with fail
  (with_reducible refine Calls.mono (HZV.out _ HS.out) ?_)
  clear HZV x0 x1 x2 x3 x4
  rintro r W1 ⟨rfl, hs1⟩
  replace HN := Lib.hid (HN.out.same hs1 (fun x => x))
  replace HF := Lib.hid (HF.out.same hs1 (fun x => x))
  replace b0 := Lib.hid (hs1.cell b0.out (fun x => x))
  replace b1 := Lib.hid (hs1.cell b1.out (fun x => x))
  replace HS := Lib.hid (HS.out.trans' hs1)
  clear hs1
  rw [HNN.out] at HN HZF HZC
  go_upto_region 3 with (fail)
  refine wp_region_T (S := ChkS N F b o sK tK n f) (late := fun j => [].contains j) (by kernel_rfl) ?_ (fun hHeld => ?_)
  · exact ⟨HN.out.cell 0, HN.out.cell 1, HN.out.cell 2, HN.out.cell 3, HN.out.cell 4, HF.out.cell 0, HF.out.cell 1, HF.out.cell 2, b0.out, b1.out⟩
  refine T_take (i := 0) (v := ?va0) rfl (by kernel_rfl) (by kernel_rfl) (by kernel_rfl) (by kernel_rfl) (fun _ _ _ h => h) (Or.inl ⟨?_, ?_⟩) (by assumption) ?_
  rotate_left 1
  · rfl
  · (intro w hSw; unfold ChkS at hSw; go_simp; (try with_reducible rfl))
  go_simp
  refine T_take (i := 1) (v := ?va1) rfl (by kernel_rfl) (by kernel_rfl) (by kernel_rfl) (by kernel_rfl) (fun _ _ _ h => h) (Or.inl ⟨?_, ?_⟩) (by assumption) ?_
  rotate_left 1
  · rfl
  · (intro w hSw; unfold ChkS at hSw; go_simp; (try with_reducible rfl))
  go_simp
  refine T_ready (rs := [2]) (by kernel_rfl) (by simp) ?_
  refine ReadyT.early rfl (fun K hK => ?_) ReadyT.nil
  go_simp
  (with_reducible refine Calls.mono (HZF.out _ HS.out.drew) ?_)
  rintro r W5 ⟨bb, rfl, hbb, hs1⟩
  obtain rfl : bb = true := hbb.2 HFL.out
  clear hbb
  replace hs1 := ((Same.refl noB _).drew).trans' hs1
  replace HN := Lib.hid (HN.out.same hs1 (fun x => x))
  replace HF := Lib.hid (HF.out.same hs1 (fun x => x))
  replace b0 := Lib.hid (hs1.cell b0.out (fun x => x))
  replace b1 := Lib.hid (hs1.cell b1.out (fun x => x))
  replace HS := Lib.hid (HS.out.trans' hs1)
  clear hs1
  clear hHeld
  go_wp2_with fail
  refine hK.out _ _ ?_ (fun hHeld => ?_)
  · exact ⟨HN.out.cell 0, HN.out.cell 1, HN.out.cell 2, HN.out.cell 3, HN.out.cell 4, HF.out.cell 0, HF.out.cell 1, HF.out.cell 2, b0.out, b1.out⟩
  clear hK K
  refine T_pure (i := 3) (v := ?va3) rfl (by kernel_rfl) (by kernel_rfl) (by kernel_rfl) (fun _ _ _ h => h) (Or.inl ⟨?_, ?_⟩) ?_
  rotate_left 1
  · rfl
  · (intro w hSw; clear hSw; go_simp; (try with_reducible rfl))
  go_simp
  refine T_pure (i := 4) (v := ?va4) rfl (by kernel_rfl) (by kernel_rfl) (by kernel_rfl) (fun _ _ _ h => h) (Or.inl ⟨?_, ?_⟩) ?_
  rotate_left 1
  · rfl
  · (intro w hSw; clear hSw; go_simp; (try with_reducible rfl))
  go_simp
  refine T_pure (i := 5) (v := ?va5) rfl (by kernel_rfl) (by kernel_rfl) (by kernel_rfl) (fun _ _ _ h => h) (Or.inl ⟨?_, ?_⟩) ?_
  rotate_left 1
  · rfl
  · (intro w hSw; clear hSw; go_simp; (try with_reducible rfl))
  go_simp
  refine T_take (i := 6) (v := ?va6) rfl (by kernel_rfl) (by kernel_rfl) (by kernel_rfl) (by kernel_rfl) (fun _ _ _ h => h) (Or.inl ⟨?_, ?_⟩) (by assumption) ?_
  rotate_left 1
  · rfl
  · (intro w hSw; unfold ChkS at hSw; go_simp; (try with_reducible rfl))
  go_simp
  refine T_pure (i := 7) (v := ?va7) rfl (by kernel_rfl) (by kernel_rfl) (by kernel_rfl) (fun _ _ _ h => h) (Or.inl ⟨?_, ?_⟩) ?_
  rotate_left 1
  · rfl
  · (intro w hSw; clear hSw; go_simp; (try with_reducible rfl))
  go_simp
  refine T_pure (i := 8) (v := ?va8) rfl (by kernel_rfl) (by kernel_rfl) (by kernel_rfl) (fun _ _ _ h => h) (Or.inl ⟨?_, ?_⟩) ?_
  rotate_left 1
  · rfl
  · (intro w hSw; clear hSw; go_simp; (try with_reducible rfl))
  go_simp
  refine T_take (i := 9) (v := ?va9) rfl (by kernel_rfl) (by kernel_rfl) (by kernel_rfl) (by kernel_rfl) (fun _ _ _ h => h) (Or.inl ⟨?_, ?_⟩) (by assumption) ?_
  rotate_left 1
  · rfl
  · (intro w hSw; unfold ChkS at hSw; go_simp; (try with_reducible rfl))
  go_simp
  refine T_pure (i := 10) (v := ?va10) rfl (by kernel_rfl) (by kernel_rfl) (by kernel_rfl) (fun _ _ _ h => h) (Or.inl ⟨?_, ?_⟩) ?_
  rotate_left 1
  · rfl
  · (intro w hSw; clear hSw; go_simp; (try with_reducible rfl))
  go_simp
  refine T_pure (i := 11) (v := ?va11) rfl (by kernel_rfl) (by kernel_rfl) (by kernel_rfl) (fun _ _ _ h => h) (Or.inl ⟨?_, ?_⟩) ?_
  rotate_left 1
  · rfl
  · (intro w hSw; clear hSw; go_simp; (try with_reducible rfl))
  go_simp
  refine T_pure (i := 12) (v := ?va12) rfl (by kernel_rfl) (by kernel_rfl) (by kernel_rfl) (fun _ _ _ h => h) (Or.inl ⟨?_, ?_⟩) ?_
  rotate_left 1
  · rfl
  · (intro w hSw; clear hSw; go_simp; (try with_reducible rfl))
  go_simp
  refine T_pure (i := 13) (v := ?va13) rfl (by kernel_rfl) (by kernel_rfl) (by kernel_rfl) (fun _ _ _ h => h) (Or.inl ⟨?_, ?_⟩) ?_
  rotate_left 1
  · rfl
  · (intro w hSw; clear hSw; go_simp; (try with_reducible rfl))
  go_simp
  refine T_take (i := 14) (v := ?va14) rfl (by kernel_rfl) (by kernel_rfl) (by kernel_rfl) (by kernel_rfl) (fun _ _ _ h => h) (Or.inl ⟨?_, ?_⟩) (by assumption) ?_
  rotate_left 1
  · rfl
  · (intro w hSw; unfold ChkS at hSw; go_simp; (try with_reducible rfl))
  go_simp
  refine T_pure (i := 15) (v := ?va15) rfl (by kernel_rfl) (by kernel_rfl) (by kernel_rfl) (fun _ _ _ h => h) (Or.inl ⟨?_, ?_⟩) ?_
  rotate_left 1
  · rfl
  · (intro w hSw; clear hSw; go_simp; (try with_reducible rfl))
  go_simp
  refine T_take (i := 16) (v := ?va16) rfl (by kernel_rfl) (by kernel_rfl) (by kernel_rfl) (by kernel_rfl) (fun _ _ _ h => h) (Or.inl ⟨?_, ?_⟩) (by assumption) ?_
  rotate_left 1
  · rfl
  · (intro w hSw; unfold ChkS at hSw; go_simp; (try with_reducible rfl))
  go_simp
  refine T_pure (i := 17) (v := ?va17) rfl (by kernel_rfl) (by kernel_rfl) (by kernel_rfl) (fun _ _ _ h => h) (Or.inl ⟨?_, ?_⟩) ?_
  rotate_left 1
  · rfl
  · (intro w hSw; clear hSw; go_simp; (try with_reducible rfl))
  go_simp
  refine T_take (i := 18) (v := ?va18) rfl (by kernel_rfl) (by kernel_rfl) (by kernel_rfl) (by kernel_rfl) (fun _ _ _ h => h) (Or.inl ⟨?_, ?_⟩) (by assumption) ?_
  rotate_left 1
  · rfl
  · (intro w hSw; unfold ChkS at hSw; go_simp; (try with_reducible rfl))
  go_simp
  refine T_pure (i := 19) (v := ?va19) rfl (by kernel_rfl) (by kernel_rfl) (by kernel_rfl) (fun _ _ _ h => h) (Or.inl ⟨?_, ?_⟩) ?_
  rotate_left 1
  · rfl
  · (intro w hSw; clear hSw; go_simp; (try with_reducible rfl))
  go_simp
  refine T_pure (i := 20) (v := ?va20) rfl (by kernel_rfl) (by kernel_rfl) (by kernel_rfl) (fun _ _ _ h => h) (Or.inl ⟨?_, ?_⟩) ?_
  rotate_left 1
  · rfl
  · (intro w hSw; clear hSw; go_simp; (try with_reducible rfl))
  go_simp
  refine T_pure (i := 21) (v := ?va21) rfl (by kernel_rfl) (by kernel_rfl) (by kernel_rfl) (fun _ _ _ h => h) (Or.inl ⟨?_, ?_⟩) ?_
  rotate_left 1
  · rfl
  · (intro w hSw; clear hSw; go_simp; (try with_reducible rfl))
  go_simp
  refine T_pure (i := 22) (v := ?va22) rfl (by kernel_rfl) (by kernel_rfl) (by kernel_rfl) (fun _ _ _ h => h) (Or.inl ⟨?_, ?_⟩) ?_
  rotate_left 1
  · rfl
  · (intro w hSw; clear hSw; go_simp; (try with_reducible rfl))
  go_simp
  refine T_take (i := 23) (v := ?va23) rfl (by kernel_rfl) (by kernel_rfl) (by kernel_rfl) (by kernel_rfl) (fun _ _ _ h => h) (Or.inl ⟨?_, ?_⟩) (by assumption) ?_
  rotate_left 1
  · rfl
  · (intro w hSw; unfold ChkS at hSw; go_simp; (try with_reducible rfl))
  go_simp
  refine T_pure (i := 24) (v := ?va24) rfl (by kernel_rfl) (by kernel_rfl) (by kernel_rfl) (fun _ _ _ h => h) (Or.inl ⟨?_, ?_⟩) ?_
  rotate_left 1
  · rfl
  · (intro w hSw; clear hSw; go_simp; (try with_reducible rfl))
  go_simp
  refine T_take (i := 25) (v := ?va25) rfl (by kernel_rfl) (by kernel_rfl) (by kernel_rfl) (by kernel_rfl) (fun _ _ _ h => h) (Or.inl ⟨?_, ?_⟩) (by assumption) ?_
  rotate_left 1
  · rfl
  · (intro w hSw; unfold ChkS at hSw; go_simp; (try with_reducible rfl))
  go_simp
  refine T_pure (i := 26) (v := ?va26) rfl (by kernel_rfl) (by kernel_rfl) (by kernel_rfl) (fun _ _ _ h => h) (Or.inl ⟨?_, ?_⟩) ?_
  rotate_left 1
  · rfl
  · (intro w hSw; clear hSw; go_simp; (try with_reducible rfl))
  go_simp
  refine T_take (i := 27) (v := ?va27) rfl (by kernel_rfl) (by kernel_rfl) (by kernel_rfl) (by kernel_rfl) (fun _ _ _ h => h) (Or.inl ⟨?_, ?_⟩) (by assumption) ?_
  rotate_left 1
  · rfl
  · (intro w hSw; unfold ChkS at hSw; go_simp; (try with_reducible rfl))
  go_simp
  refine T_pure (i := 28) (v := ?va28) rfl (by kernel_rfl) (by kernel_rfl) (by kernel_rfl) (fun _ _ _ h => h) (Or.inl ⟨?_, ?_⟩) ?_
  rotate_left 1
  · rfl
  · (intro w hSw; clear hSw; go_simp; (try with_reducible rfl))
  go_simp
  refine T_pure (i := 29) (v := ?va29) rfl (by kernel_rfl) (by kernel_rfl) (by kernel_rfl) (fun _ _ _ h => h) (Or.inl ⟨?_, ?_⟩) ?_
  rotate_left 1
  · rfl
  · (intro w hSw; clear hSw; go_simp; (try with_reducible rfl))
  go_simp
  refine T_take (i := 30) (v := ?va30) rfl (by kernel_rfl) (by kernel_rfl) (by kernel_rfl) (by kernel_rfl) (fun _ _ _ h => h) (Or.inl ⟨?_, ?_⟩) (by assumption) ?_
  rotate_left 1
  · rfl
  · (intro w hSw; unfold ChkS at hSw; go_simp; (try with_reducible rfl))
  go_simp
  refine T_pure (i := 31) (v := ?va31) rfl (by kernel_rfl) (by kernel_rfl) (by kernel_rfl) (fun _ _ _ h => h) (Or.inl ⟨?_, ?_⟩) ?_
  rotate_left 1
  · rfl
  · (intro w hSw; clear hSw; go_simp; (try with_reducible rfl))
  go_simp
  refine T_take (i := 32) (v := ?va32) rfl (by kernel_rfl) (by kernel_rfl) (by kernel_rfl) (by kernel_rfl) (fun _ _ _ h => h) (Or.inl ⟨?_, ?_⟩) (by assumption) ?_
  rotate_left 1
  · rfl
  · (intro w hSw; unfold ChkS at hSw; go_simp; (try with_reducible rfl))
  go_simp
  refine T_pure (i := 34) (v := ?va34) rfl (by kernel_rfl) (by kernel_rfl) (by kernel_rfl) (fun _ _ _ h => h) (Or.inl ⟨?_, ?_⟩) ?_
  rotate_left 1
  · rfl
  · (intro w hSw; clear hSw; go_simp; (try with_reducible rfl))
  go_simp
  refine T_take (i := 35) (v := ?va35) rfl (by kernel_rfl) (by kernel_rfl) (by kernel_rfl) (by kernel_rfl) (fun _ _ _ h => h) (Or.inl ⟨?_, ?_⟩) (by assumption) ?_
  rotate_left 1
  · rfl
  · (intro w hSw; unfold ChkS at hSw; go_simp; (try with_reducible rfl))
  go_simp
  refine T_ready (rs := [33]) (by kernel_rfl) (by simp) ?_
  refine ReadyT.early rfl (fun K hK => ?_) ReadyT.nil
  go_simp
  (with_reducible refine Calls.mono (HZC.out _ HS.out) ?_)
  rintro r W6 ⟨rfl, hs1⟩
  replace HN := Lib.hid (HN.out.same hs1 (fun x => x))
  replace HF := Lib.hid (HF.out.same hs1 (fun x => x))
  replace b0 := Lib.hid (hs1.cell b0.out (fun x => x))
  replace b1 := Lib.hid (hs1.cell b1.out (fun x => x))
  replace HS := Lib.hid (HS.out.trans' hs1)
  clear hs1
  clear hHeld
  go_wp2_with fail
  refine hK.out _ _ ?_ (fun hHeld => ?_)
  · exact ⟨HN.out.cell 0, HN.out.cell 1, HN.out.cell 2, HN.out.cell 3, HN.out.cell 4, HF.out.cell 0, HF.out.cell 1, HF.out.cell 2, b0.out, b1.out⟩
  clear hK K
  refine T_pure (i := 36) (v := ?va36) rfl (by kernel_rfl) (by kernel_rfl) (by kernel_rfl) (fun _ _ _ h => h) (Or.inl ⟨?_, ?_⟩) ?_
  rotate_left 1
  · rfl
  · (intro w hSw; clear hSw; go_simp; (try with_reducible rfl))
  go_simp
  refine T_pure (i := 37) (v := ?va37) rfl (by kernel_rfl) (by kernel_rfl) (by kernel_rfl) (fun _ _ _ h => h) (Or.inl ⟨?_, ?_⟩) ?_
  rotate_left 1
  · rfl
  · (intro w hSw; clear hSw; go_simp; (try with_reducible rfl))
  go_simp
  refine T_pure (i := 38) (v := ?va38) rfl (by kernel_rfl) (by kernel_rfl) (by kernel_rfl) (fun _ _ _ h => h) (Or.inl ⟨?_, ?_⟩) ?_
  rotate_left 1
  · rfl
  · (intro w hSw; clear hSw; go_simp; (try with_reducible rfl))
  go_simp
  refine T_done (by kernel_rfl) ?_ _
  go_wp2_with fail
  go_ret
  exact ⟨rfl, HS.out⟩
end Go.Proofs.Ytpalacfgpcpppaa
