/- Layer 10: the law FlowWeak, walked. (printed by genLawWea.py) -/
import Derived.Test.YtpalacfgpcpppaaFloEx
import Derived.Test.YtpalacfgpcpppaaFloY
namespace Go.Proofs.Ytpalacfgpcpppaa
open Go Go.RowKit
set_option maxRecDepth 100000

def WeaS (N F G : Nat) (n : NetV) (f g : FlowV) (w : World) : Prop := w.cell? ⟨N, 0, none⟩ = some (.int .i64 n.nodes) ∧ w.cell? ⟨N, 1, none⟩ = some (.int .i64 n.source) ∧ w.cell? ⟨N, 2, none⟩ = some (.int .i64 n.sink) ∧ w.cell? ⟨N, 3, none⟩ = some (.slice n.sl.addr n.sl.len n.sl.cap) ∧ w.cell? ⟨N, 4, none⟩ = some (.int .i64 n.hold) ∧
  w.cell? ⟨F, 0, none⟩ = some (.int .i64 f.value) ∧ w.cell? ⟨G, 0, none⟩ = some (.int .i64 g.value)
set_option maxHeartbeats 16000000 in
theorem lawWeak_any {w : World} {n : NetV} {f : FlowV} {s : Sl} {side : List Bool} (h : NetIs w n) (hf : FlowIs w f) (hb : IsBo w noB s side) :
    Calls Try.prog 5 #[n.val, f.val, .slice s.addr s.len s.cap] w fun r w' => r = .returned (.bool true) ∧ Same noB w w' := by
  have hcaps := h.rd.caps
  have hcb := hb.2.caps
  have hZR := fun (W : World) (hs : Same noB w W) => rvalid_any (h.keep hs)
  have hZF := fun (W : World) (hs : Same noB w W) (hv : n.validB = true) => isflow_any (h.keep hs) hv (hf.keep hs)
  have hZM := fun (W : World) (hs : Same noB w W) (hv : n.validB = true) => max_ok (h.keep hs) hv
  have hZC := fun (W : World) (hs : Same noB w W) (hv : n.validB = true) => cap_any (h.keep hs) hv (hb.keep hs)
  have HBO := Lib.hid hb
  unfold NetV.val at hZR hZF hZM hZC ⊢
  unfold FlowV.val at hZF ⊢
  have HZR := Lib.hid hZR
  have HZF := Lib.hid hZF
  have HZM := Lib.hid hZM
  have HZC := Lib.hid hZC
  clear h hf hb hZR hZF hZM hZC
  go_enter Try.func5, Try.ntmps5
  go_upto_region 1 with (fail)
  have HN0 := Lib.hid (Blk.new w 24 #[.int .i64 n.nodes, .int .i64 n.source, .int .i64 n.sink, .slice n.sl.addr n.sl.len n.sl.cap, .int .i64 n.hold])
  have HF0 := Lib.hid (Blk.new (w.alloc (.cells #[.int .i64 n.nodes, .int .i64 n.source, .int .i64 n.sink, .slice n.sl.addr n.sl.len n.sl.cap, .int .i64 n.hold] 24)) 29 #[.int .i64 f.value, .slice f.sa.addr f.sa.len f.sa.cap, .slice f.ss.addr f.ss.len f.ss.cap])
  rw [World.size_alloc] at HF0
  refine wp_abs (fun W => Hid (Blk W w.heap.size 24 #[.int .i64 n.nodes, .int .i64 n.source, .int .i64 n.sink, .slice n.sl.addr n.sl.len n.sl.cap, .int .i64 n.hold]) ∧ Hid (Blk W (w.heap.size + 1) 29 #[.int .i64 f.value, .slice f.sa.addr f.sa.len f.sa.cap, .slice f.ss.addr f.ss.len f.ss.cap]) ∧ Hid (Same noB w W)) ⟨HN0.out.alloc _, HF0.out, ((Same.refl _ _).alloc _).alloc _⟩ ?_
  clear HN0 HF0
  rintro W0 ⟨HN, HF, HS⟩
  obtain ⟨N, hN⟩ : ∃ N, w.heap.size = N := ⟨_, rfl⟩
  obtain ⟨F, hF⟩ : ∃ F, N + 1 = F := ⟨_, rfl⟩
  rw [hN] at HN HF ⊢
  rw [hF] at HF ⊢
  clear hN hF
  go_wp2_with fail
  (with_reducible refine Calls.mono (awake_any _) ?_)
  rintro r W1 ⟨rfl, hs1⟩
  replace HN := Lib.hid (HN.out.same hs1 (fun x => x))
  replace HF := Lib.hid (HF.out.same hs1 (fun x => x))
  replace HS := Lib.hid (HS.out.trans' hs1)
  clear hs1
  have x0 : W1.cell? ⟨N, 0, none⟩ = some (.int .i64 n.nodes) := HN.out.cell 0
  have x1 : W1.cell? ⟨N, 1, none⟩ = some (.int .i64 n.source) := HN.out.cell 1
  have x2 : W1.cell? ⟨N, 2, none⟩ = some (.int .i64 n.sink) := HN.out.cell 2
  have x3 : W1.cell? ⟨N, 3, none⟩ = some (.slice n.sl.addr n.sl.len n.sl.cap) := HN.out.cell 3
  have x4 : W1.cell? ⟨N, 4, none⟩ = some (.int .i64 n.hold) := HN.out.cell 4
  by_cases h1 : (30 : Int) < (n.sl.len : Int)
  · clear x0 x1 x2 x4
    go_wp2_with fail
    (with_reducible refine Calls.mono (awake_any _) ?_)
    rintro r W9 ⟨rfl, hs9⟩
    go_wp2_with fail
    go_ret
    exact ⟨rfl, HS.out.trans' hs9⟩
  by_cases h2 : 12 < n.nodes
  · clear x1 x2 x4
    go_wp2_with fail
    (with_reducible refine Calls.mono (awake_any _) ?_)
    rintro r W9 ⟨rfl, hs9⟩
    go_wp2_with fail
    go_ret
    exact ⟨rfl, HS.out.trans' hs9⟩
  cases hv : n.validB with
  | false =>
    have hZ := HZR.out W1 HS.out
    rw [hv] at hZ
    have HZ := Lib.hid hZ
    clear hZ hv
    go_wp2_with fail
    (with_reducible refine Calls.mono HZ.out ?_)
    clear HZ x0 x1 x2 x3 x4
    rintro r W2 ⟨rfl, hs1⟩
    replace HN := Lib.hid (HN.out.same hs1 (fun x => x))
    replace HF := Lib.hid (HF.out.same hs1 (fun x => x))
    replace HS := Lib.hid (HS.out.trans' hs1)
    clear hs1
    go_wp2_with fail
    (with_reducible refine Calls.mono (awake_any _) ?_)
    rintro r W9 ⟨rfl, hs9⟩
    go_wp2_with fail
    go_ret
    exact ⟨rfl, HS.out.trans' hs9⟩
  | true =>
    have HV := Lib.hid hv
    have hZ := HZR.out W1 HS.out
    rw [hv] at hZ
    have HZ := Lib.hid hZ
    clear hZ hv
    have f0 : W1.cell? ⟨F, 0, none⟩ = some (.int .i64 f.value) := HF.out.cell 0
    go_wp2_with fail
    (with_reducible refine Calls.mono HZ.out ?_)
    clear HZ x0 x1 x2 x3 x4 f0
    rintro r W2 ⟨rfl, hs1⟩
    replace HN := Lib.hid (HN.out.same hs1 (fun x => x))
    replace HF := Lib.hid (HF.out.same hs1 (fun x => x))
    replace HS := Lib.hid (HS.out.trans' hs1)
    clear hs1
    have x0 : W2.cell? ⟨N, 0, none⟩ = some (.int .i64 n.nodes) := HN.out.cell 0
    have x1 : W2.cell? ⟨N, 1, none⟩ = some (.int .i64 n.source) := HN.out.cell 1
    have x2 : W2.cell? ⟨N, 2, none⟩ = some (.int .i64 n.sink) := HN.out.cell 2
    have x3 : W2.cell? ⟨N, 3, none⟩ = some (.slice n.sl.addr n.sl.len n.sl.cap) := HN.out.cell 3
    have x4 : W2.cell? ⟨N, 4, none⟩ = some (.int .i64 n.hold) := HN.out.cell 4
    have f0 : W2.cell? ⟨F, 0, none⟩ = some (.int .i64 f.value) := HF.out.cell 0
    have f1 : W2.cell? ⟨F, 1, none⟩ = some (.slice f.sa.addr f.sa.len f.sa.cap) := HF.out.cell 1
    have f2 : W2.cell? ⟨F, 2, none⟩ = some (.slice f.ss.addr f.ss.len f.ss.cap) := HF.out.cell 2
    have HZ := Lib.hid (HZF.out W2 HS.out HV.out)
    go_wp2_with fail
    (with_reducible refine Calls.mono HZ.out ?_)
    clear HZ x0 x1 x2 x3 x4 f0 f1 f2
    rintro r W3 ⟨bb, rfl, hbb, hs1⟩
    replace HN := Lib.hid (HN.out.same hs1 (fun x => x))
    replace HF := Lib.hid (HF.out.same hs1 (fun x => x))
    replace HS := Lib.hid (HS.out.trans' hs1)
    clear hs1
    cases bb with
    | false =>
      clear hbb
      go_wp2_with fail
      (with_reducible refine Calls.mono (awake_any _) ?_)
      rintro r W9 ⟨rfl, hs9⟩
      go_wp2_with fail
      go_ret
      exact ⟨rfl, HS.out.trans' hs9⟩
    | true =>
      have HFL := Lib.hid (hbb.1 rfl)
      clear hbb
      have x0 : W3.cell? ⟨N, 0, none⟩ = some (.int .i64 n.nodes) := HN.out.cell 0
      have x1 : W3.cell? ⟨N, 1, none⟩ = some (.int .i64 n.source) := HN.out.cell 1
      have x2 : W3.cell? ⟨N, 2, none⟩ = some (.int .i64 n.sink) := HN.out.cell 2
      have x3 : W3.cell? ⟨N, 3, none⟩ = some (.slice n.sl.addr n.sl.len n.sl.cap) := HN.out.cell 3
      have x4 : W3.cell? ⟨N, 4, none⟩ = some (.int .i64 n.hold) := HN.out.cell 4
      have HZ := Lib.hid (HZM.out W3 HS.out HV.out)
      go_wp2_with fail
      (with_reducible refine Calls.mono HZ.out ?_)
      clear HZ x0 x1 x2 x3 x4
      rintro r W4 ⟨g, rfl, hg, hmx, hsd, hs1⟩
      replace HN := Lib.hid (HN.out.same hs1 (fun x => x))
      replace HF := Lib.hid (HF.out.same hs1 (fun x => x))
      replace HS := Lib.hid (HS.out.trans' hs1)
      clear hs1
      have hok := NetV.validB_ok HV.out
      have hfl : IsFl n f.am f.value := HFL.out
      have hgt : ¬ g.value < f.value := by have := hmx.greatest hok hfl; omega
      have HGF : Hid (IsFl n g.am g.value) := hmx.flow
      have HG0 := Lib.hid (row_stored (Blk.new W4 29 #[.int .i64 0, .slice none 0 0, .slice none 0 0]) #[.int .i64 g.value, .slice g.sa.addr g.sa.len g.sa.cap, .slice g.ss.addr g.ss.len g.ss.cap])
      obtain ⟨sK, hsK⟩ : ∃ sK : Nat, n.source = (sK : Int) := ⟨n.source.toNat, by have := hok.source; omega⟩
      obtain ⟨tK, htK⟩ : ∃ tK : Nat, n.sink = (tK : Int) := ⟨n.sink.toNat, by have := hok.sink; omega⟩
      have hsb := hok.source
      have htb := hok.sink
      rw [hsK] at hsb
      rw [htK] at htb
      have HSK := Lib.hid hsK
      have HTK := Lib.hid htK
      have HOK := Lib.hid hok
      unfold FlowV.val
      clear hmx hsd hg hok hfl hsK htK
      go_upto_region 4 with (refine wpList_store_row rfl 29 _ _ rfl W4.heap.size #[.int .i64 g.value, .slice g.sa.addr g.sa.len g.sa.cap, .slice g.ss.addr g.ss.len g.ss.cap] rfl rfl 29 _ (Blk.new W4 29 #[.int .i64 0, .slice none 0 0, .slice none 0 0]) (by kernel_rfl) rfl (by kernel_rfl) ?_)
      have hs0 : Same noB W4 ((W4.alloc (.cells #[.int .i64 0, .slice none 0 0, .slice none 0 0] 29)).setRow W4.heap.size #[.int .i64 g.value, .slice g.sa.addr g.sa.len g.sa.cap, .slice g.ss.addr g.ss.len g.ss.cap]) := ((Same.refl noB W4).alloc _).trans HG0.out.2 (fun b hb hx => by have h3 : b = W4.heap.size := hx; omega)
      refine wp_abs (fun W => Hid (Blk W N 24 #[.int .i64 n.nodes, .int .i64 n.source, .int .i64 n.sink, .slice n.sl.addr n.sl.len n.sl.cap, .int .i64 n.hold]) ∧ Hid (Blk W F 29 #[.int .i64 f.value, .slice f.sa.addr f.sa.len f.sa.cap, .slice f.ss.addr f.ss.len f.ss.cap]) ∧ Hid (Blk W W4.heap.size 29 #[.int .i64 g.value, .slice g.sa.addr g.sa.len g.sa.cap, .slice g.ss.addr g.ss.len g.ss.cap]) ∧ Hid (Same noB w W)) ⟨HN.out.same hs0 (fun x => x), HF.out.same hs0 (fun x => x), HG0.out.1, HS.out.trans' hs0⟩ ?_
      clear hs0 HG0 HS HN HF
      rintro W5 ⟨HN, HF, HG, HS⟩
      obtain ⟨G, hG⟩ : ∃ G, W4.heap.size = G := ⟨_, rfl⟩
      rw [hG] at HG ⊢
      clear hG
      have x0 : W5.cell? ⟨N, 0, none⟩ = some (.int .i64 n.nodes) := HN.out.cell 0
      have x1 : W5.cell? ⟨N, 1, none⟩ = some (.int .i64 (sK : Int)) := by rw [← HSK.out]; exact HN.out.cell 1
      have x2 : W5.cell? ⟨N, 2, none⟩ = some (.int .i64 (tK : Int)) := by rw [← HTK.out]; exact HN.out.cell 2
      have f0 : W5.cell? ⟨F, 0, none⟩ = some (.int .i64 f.value) := HF.out.cell 0
      have g0 : W5.cell? ⟨G, 0, none⟩ = some (.int .i64 g.value) := HG.out.cell 0
      by_cases hl : (s.len : Int) = n.nodes
      · have hbn : ((s.len : Int) != n.nodes) = false := by rw [hl]; simp
        have hslen := HBO.out.1
        obtain ⟨b, o, hb, r⟩ := (HBO.out.keep HS.out).2.at_ (by omega)
        obtain ⟨p, hp⟩ : ∃ p, side[sK]? = some p := ⟨_, List.getElem?_eq_getElem (by omega)⟩
        obtain ⟨q, hq⟩ : ∃ q, side[tK]? = some q := ⟨_, List.getElem?_eq_getElem (by omega)⟩
        have b0 := r.cell sK _ (bcells_at hp)
        have b1 := r.cell tK _ (bcells_at hq)
        have hi0 : (0 : Int) ≤ (sK : Int) := by omega
        have hi1 : (sK : Int) < (s.len : Int) := by omega
        have hi2 : (0 : Int) ≤ (tK : Int) := by omega
        have hi3 : (tK : Int) < (s.len : Int) := by omega
        have HP1 : Hid (inB side n.source = p) := by show _ = _; rw [HSK.out, inB, Int.toNat_natCast, List.getD_eq_getElem?_getD, hp]; rfl
        have HQ1 : Hid (inB side n.sink = q) := by show _ = _; rw [HTK.out, inB, Int.toNat_natCast, List.getD_eq_getElem?_getD, hq]; rfl
        have HZC1 := HZC
        rw [hb] at HZC1 ⊢
        clear r hp hq hslen hb hl
        cases p with
        | false =>
          go_wp2_with fail
          go_ret
          exact ⟨rfl, HS.out⟩
        | true =>
          cases q with
          | true =>
            go_wp2_with fail
            go_ret
            exact ⟨rfl, HS.out⟩
          | false =>
            have hle1 : f.value ≤ capSum side n.arcs := flow_weak HOK.out HFL.out side HP1.out HQ1.out
            have hle2 : g.value ≤ capSum side n.arcs := flow_weak HOK.out HGF.out side HP1.out HQ1.out
            go_upto_region 8 with (fail)
            clear x0 x1 x2 f0 g0
            refine wp_region_T (S := WeaS N F G n f g) (late := fun j => [].contains j) (by kernel_rfl) ?_ (fun hHeld => ?_)
            · exact ⟨HN.out.cell 0, HN.out.cell 1, HN.out.cell 2, HN.out.cell 3, HN.out.cell 4, HF.out.cell 0, HG.out.cell 0⟩
            refine T_pure (i := 0) (v := ?va0) rfl (by kernel_rfl) (by kernel_rfl) (by kernel_rfl) (fun _ _ _ h => h) (Or.inl ⟨?_, ?_⟩) ?_
            rotate_left 1
            · rfl
            · (intro w hSw; clear hSw; go_simp; (try with_reducible rfl))
            go_simp
            refine T_take (i := 1) (v := ?va1) rfl (by kernel_rfl) (by kernel_rfl) (by kernel_rfl) (by kernel_rfl) (fun _ _ _ h => h) (Or.inl ⟨?_, ?_⟩) (by assumption) ?_
            rotate_left 1
            · rfl
            · (intro w hSw; unfold WeaS at hSw; go_simp; (try with_reducible rfl))
            go_simp
            refine T_take (i := 2) (v := ?va2) rfl (by kernel_rfl) (by kernel_rfl) (by kernel_rfl) (by kernel_rfl) (fun _ _ _ h => h) (Or.inl ⟨?_, ?_⟩) (by assumption) ?_
            rotate_left 1
            · rfl
            · (intro w hSw; unfold WeaS at hSw; go_simp; (try with_reducible rfl))
            go_simp
            refine T_pure (i := 3) (v := ?va3) rfl (by kernel_rfl) (by kernel_rfl) (by kernel_rfl) (fun _ _ _ h => h) (Or.inl ⟨?_, ?_⟩) ?_
            rotate_left 1
            · rfl
            · (intro w hSw; clear hSw; go_simp; (try with_reducible rfl))
            go_simp
            refine T_ready (rs := [4]) (by kernel_rfl) (by simp) ?_
            refine ReadyT.early rfl (fun K hK => ?_) ReadyT.nil
            go_simp
            (with_reducible refine Calls.mono (HZC1.out _ HS.out.drew HV.out) ?_)
            rintro r W6 ⟨rfl, hs1⟩
            replace hs1 := ((Same.refl noB _).drew).trans' hs1
            replace HN := Lib.hid (HN.out.same hs1 (fun x => x))
            replace HF := Lib.hid (HF.out.same hs1 (fun x => x))
            replace HG := Lib.hid (HG.out.same hs1 (fun x => x))
            replace HS := Lib.hid (HS.out.trans' hs1)
            clear hs1
            clear hHeld
            go_wp2_with fail
            refine hK.out _ _ ?_ (fun hHeld => ?_)
            · exact ⟨HN.out.cell 0, HN.out.cell 1, HN.out.cell 2, HN.out.cell 3, HN.out.cell 4, HF.out.cell 0, HG.out.cell 0⟩
            clear hK K
            refine T_pure (i := 5) (v := ?va5) rfl (by kernel_rfl) (by kernel_rfl) (by kernel_rfl) (fun _ _ _ h => h) (Or.inl ⟨?_, ?_⟩) ?_
            rotate_left 1
            · rfl
            · (intro w hSw; clear hSw; go_simp; (try with_reducible rfl))
            go_simp
            refine T_pure (i := 6) (v := ?va6) rfl (by kernel_rfl) (by kernel_rfl) (by kernel_rfl) (fun _ _ _ h => h) (Or.inl ⟨?_, ?_⟩) ?_
            rotate_left 1
            · rfl
            · (intro w hSw; clear hSw; go_simp; (try with_reducible rfl))
            go_simp
            refine T_pure (i := 7) (v := ?va7) rfl (by kernel_rfl) (by kernel_rfl) (by kernel_rfl) (fun _ _ _ h => h) (Or.inl ⟨?_, ?_⟩) ?_
            rotate_left 1
            · rfl
            · (intro w hSw; clear hSw; go_simp; (try with_reducible rfl))
            go_simp
            refine T_take (i := 8) (v := ?va8) rfl (by kernel_rfl) (by kernel_rfl) (by kernel_rfl) (by kernel_rfl) (fun _ _ _ h => h) (Or.inl ⟨?_, ?_⟩) (by assumption) ?_
            rotate_left 1
            · rfl
            · (intro w hSw; unfold WeaS at hSw; go_simp; (try with_reducible rfl))
            go_simp
            refine T_take (i := 9) (v := ?va9) rfl (by kernel_rfl) (by kernel_rfl) (by kernel_rfl) (by kernel_rfl) (fun _ _ _ h => h) (Or.inl ⟨?_, ?_⟩) (by assumption) ?_
            rotate_left 1
            · rfl
            · (intro w hSw; unfold WeaS at hSw; go_simp; (try with_reducible rfl))
            go_simp
            refine T_pure (i := 10) (v := ?va10) rfl (by kernel_rfl) (by kernel_rfl) (by kernel_rfl) (fun _ _ _ h => h) (Or.inl ⟨?_, ?_⟩) ?_
            rotate_left 1
            · rfl
            · (intro w hSw; clear hSw; go_simp; (try with_reducible rfl))
            go_simp
            refine T_ready (rs := [11]) (by kernel_rfl) (by simp) ?_
            refine ReadyT.early rfl (fun K hK => ?_) ReadyT.nil
            go_simp
            (with_reducible refine Calls.mono (HZC1.out _ HS.out HV.out) ?_)
            rintro r W7 ⟨rfl, hs1⟩
            replace HN := Lib.hid (HN.out.same hs1 (fun x => x))
            replace HF := Lib.hid (HF.out.same hs1 (fun x => x))
            replace HG := Lib.hid (HG.out.same hs1 (fun x => x))
            replace HS := Lib.hid (HS.out.trans' hs1)
            clear hs1
            clear hHeld
            go_wp2_with fail
            refine hK.out _ _ ?_ (fun hHeld => ?_)
            · exact ⟨HN.out.cell 0, HN.out.cell 1, HN.out.cell 2, HN.out.cell 3, HN.out.cell 4, HF.out.cell 0, HG.out.cell 0⟩
            clear hK K
            refine T_pure (i := 12) (v := ?va12) rfl (by kernel_rfl) (by kernel_rfl) (by kernel_rfl) (fun _ _ _ h => h) (Or.inl ⟨?_, ?_⟩) ?_
            rotate_left 1
            · rfl
            · (intro w hSw; clear hSw; go_simp; (try with_reducible rfl))
            go_simp
            refine T_pure (i := 13) (v := ?va13) rfl (by kernel_rfl) (by kernel_rfl) (by kernel_rfl) (fun _ _ _ h => h) (Or.inl ⟨?_, ?_⟩) ?_
            rotate_left 1
            · rfl
            · (intro w hSw; clear hSw; go_simp; (try with_reducible rfl))
            go_simp
            refine T_pure (i := 14) (v := ?va14) rfl (by kernel_rfl) (by kernel_rfl) (by kernel_rfl) (fun _ _ _ h => h) (Or.inl ⟨?_, ?_⟩) ?_
            rotate_left 1
            · rfl
            · (intro w hSw; clear hSw; go_simp; (try with_reducible rfl))
            go_simp
            refine T_done (by kernel_rfl) ?_ _
            go_wp2_with fail
            go_ret
            exact ⟨rfl, HS.out⟩
      · have hbn : ((s.len : Int) != n.nodes) = true := bne_iff_ne.2 hl
        clear hl
        go_wp2_with fail
        go_ret
        exact ⟨rfl, HS.out⟩
end Go.Proofs.Ytpalacfgpcpppaa
