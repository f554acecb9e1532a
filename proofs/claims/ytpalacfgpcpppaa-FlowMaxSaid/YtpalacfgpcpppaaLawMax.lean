/- Layer 10: the law FlowMax, walked. (printed by genLawMax.py) -/
import Derived.Test.YtpalacfgpcpppaaFloEx
import Derived.Test.YtpalacfgpcpppaaFloUr
import Derived.Test.YtpalacfgpcpppaaSmf
import Derived.Test.YtpalacfgpcpppaaResB
namespace Go.Proofs.Ytpalacfgpcpppaa
open Go Go.RowKit
set_option maxRecDepth 100000

set_option maxHeartbeats 16000000 in
theorem lawMax_any {w : World} {n : NetV} (h : NetIs w n) :
    Calls Try.prog 3 #[n.val] w fun r w' => r = .returned (.bool true) ∧ Same noB w w' := by
  have hcaps := h.rd.caps
  have hZV := fun (W : World) (hs : Same noB w W) => valid_any (h.keep hs)
  have hZR := fun (W : World) (hs : Same noB w W) => rvalid_any (h.keep hs)
  have hZM := fun (W : World) (hs : Same noB w W) (hv : n.validB = true) => max_ok (h.keep hs) hv
  have hZN := fun (W : World) (hs : Same noB w W) (hv : n.validB = false) => max_no (h.keep hs) hv
  have hZC := fun (W : World) (f : FlowV) (hs : Same noB w W) (hv : n.validB = true) (hf : FlowIs W f) => rcheck_ok (h.keep hs) hv hf
  have hZD := fun (W : World) (sa : Sl) (am : List Int) (hs : Same noB w W) (hv : n.validB = true) (ha : IsI W noB sa am) (hl : am.length = n.arcs.length) => resid_ref (h.keep hs) hv ha hl
  have hZF := fun (W : World) (f g : FlowV) (hf : FlowIs W f) (hg : FlowIs W g) => samefl_true hf hg
  unfold NetV.val at hZV hZR hZM hZN hZC hZD ⊢
  unfold FlowV.val at hZM hZC hZF
  have HZV := Lib.hid hZV
  have HZR := Lib.hid hZR
  have HZM := Lib.hid hZM
  have HZN := Lib.hid hZN
  have HZC := Lib.hid hZC
  have HZD := Lib.hid hZD
  have HZF := Lib.hid hZF
  clear h hZV hZR hZM hZN hZC hZD hZF
  go_enter Try.func3, Try.ntmps3
  go_upto_region 1 with (fail)
  refine wp_abs (fun W => Hid (Blk W w.heap.size 24 #[.int .i64 n.nodes, .int .i64 n.source, .int .i64 n.sink, .slice n.sl.addr n.sl.len n.sl.cap, .int .i64 n.hold]) ∧ Hid (Same noB w W)) ⟨Blk.new w 24 _, (Same.refl _ _).alloc _⟩ ?_
  rintro W0 ⟨HN, HS⟩
  obtain ⟨N, hN⟩ : ∃ N, w.heap.size = N := ⟨_, rfl⟩
  rw [hN] at HN ⊢
  clear hN
  go_wp2_with fail
  (with_reducible refine Calls.mono (awake_any _) ?_)
  rintro r W1 ⟨rfl, hs1⟩
  replace HN := Lib.hid (HN.out.same hs1 (fun x => x))
  replace HS := Lib.hid (HS.out.trans' hs1)
  clear hs1
  have x0 : W1.cell? ⟨N, 0, none⟩ = some (.int .i64 n.nodes) := HN.out.cell 0
  have x1 : W1.cell? ⟨N, 1, none⟩ = some (.int .i64 n.source) := HN.out.cell 1
  have x2 : W1.cell? ⟨N, 2, none⟩ = some (.int .i64 n.sink) := HN.out.cell 2
  have x3 : W1.cell? ⟨N, 3, none⟩ = some (.slice n.sl.addr n.sl.len n.sl.cap) := HN.out.cell 3
  have x4 : W1.cell? ⟨N, 4, none⟩ = some (.int .i64 n.hold) := HN.out.cell 4
  by_cases h1 : (30 : Int) < (n.sl.len : Int)
  · clear x0 x1 x2 x4
    go_wp2_with fail
    (with_reducible refine Calls.mono (awake_any _) ?_)
    rintro r W9 ⟨rfl, hs9⟩
    go_wp2_with fail
    go_ret
    exact ⟨rfl, HS.out.trans' hs9⟩
  by_cases h2 : 12 < n.nodes
  · clear x1 x2 x4
    go_wp2_with fail
    (with_reducible refine Calls.mono (awake_any _) ?_)
    rintro r W9 ⟨rfl, hs9⟩
    go_wp2_with fail
    go_ret
    exact ⟨rfl, HS.out.trans' hs9⟩
  cases hv : n.validB with
  | false =>
    have HZ := Lib.hid (HZN.out W1 HS.out hv)
    have HV := Lib.hid hv
    unfold noFlow at HZ
    clear hv
    go_wp2_with fail
    (with_reducible refine Calls.mono HZ.out ?_)
    clear HZ x0 x1 x2 x3 x4
    rintro r W2 ⟨rfl, hs1⟩
    replace HN := Lib.hid (HN.out.same hs1 (fun x => x))
    replace HS := Lib.hid (HS.out.trans' hs1)
    clear hs1
    have HG0 := Lib.hid (row_stored (Blk.new W2 29 #[.int .i64 0, .slice none 0 0, .slice none 0 0]) #[.int .i64 0, .slice none 0 0, .slice none 0 0])
    go_upto_region 4 with (refine wpList_store_row rfl 29 _ _ rfl W2.heap.size #[.int .i64 0, .slice none 0 0, .slice none 0 0] rfl rfl 29 _ (Blk.new W2 29 #[.int .i64 0, .slice none 0 0, .slice none 0 0]) (by kernel_rfl) rfl (by kernel_rfl) ?_)
    have hs0 : Same noB W2 ((W2.alloc (.cells #[.int .i64 0, .slice none 0 0, .slice none 0 0] 29)).setRow W2.heap.size #[.int .i64 0, .slice none 0 0, .slice none 0 0]) := ((Same.refl noB W2).alloc _).trans HG0.out.2 (fun b hb hx => by have h3 : b = W2.heap.size := hx; omega)
    refine wp_abs (fun W => Hid (Blk W N 24 #[.int .i64 n.nodes, .int .i64 n.source, .int .i64 n.sink, .slice n.sl.addr n.sl.len n.sl.cap, .int .i64 n.hold]) ∧ Hid (Blk W W2.heap.size 29 #[.int .i64 0, .slice none 0 0, .slice none 0 0]) ∧ Hid (Same noB w W)) ⟨HN.out.same hs0 (fun x => x), HG0.out.1, HS.out.trans' hs0⟩ ?_
    clear hs0 HG0 HN HS
    rintro W3 ⟨HN, HF, HS⟩
    obtain ⟨F, hF⟩ : ∃ F, W2.heap.size = F := ⟨_, rfl⟩
    rw [hF] at HF ⊢
    clear hF
    have x0 : W3.drew.cell? ⟨N, 0, none⟩ = some (.int .i64 n.nodes) := HN.out.cell 0
    have x1 : W3.drew.cell? ⟨N, 1, none⟩ = some (.int .i64 n.source) := HN.out.cell 1
    have x2 : W3.drew.cell? ⟨N, 2, none⟩ = some (.int .i64 n.sink) := HN.out.cell 2
    have x3 : W3.drew.cell? ⟨N, 3, none⟩ = some (.slice n.sl.addr n.sl.len n.sl.cap) := HN.out.cell 3
    have x4 : W3.drew.cell? ⟨N, 4, none⟩ = some (.int .i64 n.hold) := HN.out.cell 4
    have hZ1 := fun W hs => HZV.out W hs
    have hZ2 := fun W hs => HZR.out W hs
    rw [HV.out] at hZ1 hZ2
    have HZ1 := Lib.hid hZ1
    have HZ2 := Lib.hid hZ2
    have HSD : Hid (Same noB w W3.drew) := HS.out.drew
    have HFD : Hid (Blk W3.drew F 29 #[.int .i64 0, .slice none 0 0, .slice none 0 0]) := HF.out.drew
    have HND : Hid (Blk W3.drew N 24 #[.int .i64 n.nodes, .int .i64 n.source, .int .i64 n.sink, .slice n.sl.addr n.sl.len n.sl.cap, .int .i64 n.hold]) := HN.out.drew
    clear hZ1 hZ2 HN HF HS
    go_wp2_with fail
    go_region_held3 (fun w' => w'.cell? ⟨N, 0, none⟩ = some (.int .i64 n.nodes) ∧ w'.cell? ⟨N, 1, none⟩ = some (.int .i64 n.source) ∧ w'.cell? ⟨N, 2, none⟩ = some (.int .i64 n.sink) ∧ w'.cell? ⟨N, 3, none⟩ = some (.slice n.sl.addr n.sl.len n.sl.cap) ∧ w'.cell? ⟨N, 4, none⟩ = some (.int .i64 n.hold))
      (first | (refine ⟨?_, ?_, ?_, ?_, ?_⟩ <;> with_reducible assumption) | go_keep)
      (first
        | (go_at_call 11; have hZ := HZ1.out _ HSD.out; (with_reducible refine Calls.mono hZ ?_); clear hZ; rintro e Wc ⟨rfl, hs⟩; have HND := Lib.hid (HND.out.same hs (fun x => x)); have HFD := Lib.hid (HFD.out.same hs (fun x => x)); have HSD := Lib.hid (HSD.out.trans' hs); have x0 := hs.cell x0 (fun x => x); have x1 := hs.cell x1 (fun x => x); have x2 := hs.cell x2 (fun x => x); have x3 := hs.cell x3 (fun x => x); have x4 := hs.cell x4 (fun x => x); clear hs)
        | (go_at_call 12; have hZ := HZ2.out _ HSD.out; (with_reducible refine Calls.mono hZ ?_); clear hZ; rintro e Wc ⟨rfl, hs⟩; have HND := Lib.hid (HND.out.same hs (fun x => x)); have HFD := Lib.hid (HFD.out.same hs (fun x => x)); have HSD := Lib.hid (HSD.out.trans' hs); have x0 := hs.cell x0 (fun x => x); have x1 := hs.cell x1 (fun x => x); have x2 := hs.cell x2 (fun x => x); have x3 := hs.cell x3 (fun x => x); have x4 := hs.cell x4 (fun x => x); clear hs))
    all_goals
      have HZ := Lib.hid (HZ2.out _ HSD.out)
      go_wp2_with fail
      (with_reducible refine Calls.mono HZ.out ?_)
      clear HZ x0 x1 x2 x3 x4
      rintro r W5 ⟨rfl, hs1⟩
      replace HFD := Lib.hid (HFD.out.same hs1 (fun x => x))
      replace HSD := Lib.hid (HSD.out.trans' hs1)
      clear hs1
      have f0 : W5.cell? ⟨F, 0, none⟩ = some (.int .i64 0) := HFD.out.cell 0
      have f1 : W5.cell? ⟨F, 1, none⟩ = some (.slice none 0 0) := HFD.out.cell 1
      have f2 : W5.cell? ⟨F, 2, none⟩ = some (.slice none 0 0) := HFD.out.cell 2
      have HZ := Lib.hid (HZF.out W5 ⟨0, [], [], ⟨none, 0, 0⟩, ⟨none, 0, 0⟩⟩ ⟨0, [], [], ⟨none, 0, 0⟩, ⟨none, 0, 0⟩⟩ ⟨⟨rfl, Rd.nil_ _ _ _⟩, ⟨rfl, Rd.nil_ _ _ _⟩⟩ ⟨⟨rfl, Rd.nil_ _ _ _⟩, ⟨rfl, Rd.nil_ _ _ _⟩⟩ rfl rfl rfl)
      dsimp only at HZ
      go_wp2_with fail
      (with_reducible refine Calls.mono HZ.out ?_)
      clear HZ f0 f1 f2
      rintro r W6 ⟨rfl, hs1⟩
      go_wp2_with fail
      go_ret
      exact ⟨rfl, HSD.out.trans' hs1⟩
  | true =>
    have HV := Lib.hid hv
    have HOK := Lib.hid (NetV.validB_ok hv)
    have HZ := Lib.hid (HZM.out W1 HS.out hv)
    clear hv
    go_wp2_with fail
    (with_reducible refine Calls.mono HZ.out ?_)
    clear HZ x0 x1 x2 x3 x4
    rintro r W2 ⟨f, rfl, hfi, hmf, hsf, hs1⟩
    have HFI := Lib.hid hfi
    have HMF := Lib.hid hmf
    have HSF := Lib.hid hsf
    clear hfi hmf hsf
    replace HN := Lib.hid (HN.out.same hs1 (fun x => x))
    replace HS := Lib.hid (HS.out.trans' hs1)
    clear hs1
    have HG0 := Lib.hid (row_stored (Blk.new W2 29 #[.int .i64 0, .slice none 0 0, .slice none 0 0]) #[.int .i64 f.value, .slice f.sa.addr f.sa.len f.sa.cap, .slice f.ss.addr f.ss.len f.ss.cap])
    go_upto_region 4 with (refine wpList_store_row rfl 29 _ _ rfl W2.heap.size #[.int .i64 f.value, .slice f.sa.addr f.sa.len f.sa.cap, .slice f.ss.addr f.ss.len f.ss.cap] rfl rfl 29 _ (Blk.new W2 29 #[.int .i64 0, .slice none 0 0, .slice none 0 0]) (by kernel_rfl) rfl (by kernel_rfl) ?_)
    have hs0 : Same noB W2 ((W2.alloc (.cells #[.int .i64 0, .slice none 0 0, .slice none 0 0] 29)).setRow W2.heap.size #[.int .i64 f.value, .slice f.sa.addr f.sa.len f.sa.cap, .slice f.ss.addr f.ss.len f.ss.cap]) := ((Same.refl noB W2).alloc _).trans HG0.out.2 (fun b hb hx => by have h3 : b = W2.heap.size := hx; omega)
    refine wp_abs (fun W => Hid (Blk W N 24 #[.int .i64 n.nodes, .int .i64 n.source, .int .i64 n.sink, .slice n.sl.addr n.sl.len n.sl.cap, .int .i64 n.hold]) ∧ Hid (Blk W W2.heap.size 29 #[.int .i64 f.value, .slice f.sa.addr f.sa.len f.sa.cap, .slice f.ss.addr f.ss.len f.ss.cap]) ∧ Hid (FlowIs W f) ∧ Hid (Same noB w W)) ⟨HN.out.same hs0 (fun x => x), HG0.out.1, HFI.out.keep hs0, HS.out.trans' hs0⟩ ?_
    clear hs0 HG0 HN HS HFI
    rintro W3 ⟨HN, HF, HFI, HS⟩
    obtain ⟨F, hF⟩ : ∃ F, W2.heap.size = F := ⟨_, rfl⟩
    rw [hF] at HF ⊢
    clear hF
    have x0 : W3.drew.cell? ⟨N, 0, none⟩ = some (.int .i64 n.nodes) := HN.out.cell 0
    have x1 : W3.drew.cell? ⟨N, 1, none⟩ = some (.int .i64 n.source) := HN.out.cell 1
    have x2 : W3.drew.cell? ⟨N, 2, none⟩ = some (.int .i64 n.sink) := HN.out.cell 2
    have x3 : W3.drew.cell? ⟨N, 3, none⟩ = some (.slice n.sl.addr n.sl.len n.sl.cap) := HN.out.cell 3
    have x4 : W3.drew.cell? ⟨N, 4, none⟩ = some (.int .i64 n.hold) := HN.out.cell 4
    have hZ1 := fun W hs => HZV.out W hs
    have hZ2 := fun W hs => HZR.out W hs
    rw [HV.out] at hZ1 hZ2
    have HZ1 := Lib.hid hZ1
    have HZ2 := Lib.hid hZ2
    have HSD : Hid (Same noB w W3.drew) := HS.out.drew
    have HFD : Hid (Blk W3.drew F 29 #[.int .i64 f.value, .slice f.sa.addr f.sa.len f.sa.cap, .slice f.ss.addr f.ss.len f.ss.cap]) := HF.out.drew
    have HID : Hid (FlowIs W3.drew f) := HFI.out.keep ((Same.refl noB W3).drew)
    have HND : Hid (Blk W3.drew N 24 #[.int .i64 n.nodes, .int .i64 n.source, .int .i64 n.sink, .slice n.sl.addr n.sl.len n.sl.cap, .int .i64 n.hold]) := HN.out.drew
    clear hZ1 hZ2 HN HF HS HFI
    go_wp2_with fail
    go_region_held3 (fun w' => w'.cell? ⟨N, 0, none⟩ = some (.int .i64 n.nodes) ∧ w'.cell? ⟨N, 1, none⟩ = some (.int .i64 n.source) ∧ w'.cell? ⟨N, 2, none⟩ = some (.int .i64 n.sink) ∧ w'.cell? ⟨N, 3, none⟩ = some (.slice n.sl.addr n.sl.len n.sl.cap) ∧ w'.cell? ⟨N, 4, none⟩ = some (.int .i64 n.hold))
      (first | (refine ⟨?_, ?_, ?_, ?_, ?_⟩ <;> with_reducible assumption) | go_keep)
      (first
        | (go_at_call 11; have hZ := HZ1.out _ HSD.out; (with_reducible refine Calls.mono hZ ?_); clear hZ; rintro e Wc ⟨rfl, hs⟩; have HND := Lib.hid (HND.out.same hs (fun x => x)); have HFD := Lib.hid (HFD.out.same hs (fun x => x)); have HID := Lib.hid (HID.out.keep hs); have HSD := Lib.hid (HSD.out.trans' hs); have x0 := hs.cell x0 (fun x => x); have x1 := hs.cell x1 (fun x => x); have x2 := hs.cell x2 (fun x => x); have x3 := hs.cell x3 (fun x => x); have x4 := hs.cell x4 (fun x => x); clear hs)
        | (go_at_call 12; have hZ := HZ2.out _ HSD.out; (with_reducible refine Calls.mono hZ ?_); clear hZ; rintro e Wc ⟨rfl, hs⟩; have HND := Lib.hid (HND.out.same hs (fun x => x)); have HFD := Lib.hid (HFD.out.same hs (fun x => x)); have HID := Lib.hid (HID.out.keep hs); have HSD := Lib.hid (HSD.out.trans' hs); have x0 := hs.cell x0 (fun x => x); have x1 := hs.cell x1 (fun x => x); have x2 := hs.cell x2 (fun x => x); have x3 := hs.cell x3 (fun x => x); have x4 := hs.cell x4 (fun x => x); clear hs))
    all_goals
      have HZ := Lib.hid (HZ2.out _ HSD.out)
      go_wp2_with fail
      (with_reducible refine Calls.mono HZ.out ?_)
      clear HZ x0 x1 x2 x3 x4
      rintro r W5 ⟨rfl, hs1⟩
      replace HND := Lib.hid (HND.out.same hs1 (fun x => x))
      replace HFD := Lib.hid (HFD.out.same hs1 (fun x => x))
      replace HID := Lib.hid (HID.out.keep hs1)
      replace HSD := Lib.hid (HSD.out.trans' hs1)
      clear hs1
      have x0 : W5.cell? ⟨N, 0, none⟩ = some (.int .i64 n.nodes) := HND.out.cell 0
      have x1 : W5.cell? ⟨N, 1, none⟩ = some (.int .i64 n.source) := HND.out.cell 1
      have x2 : W5.cell? ⟨N, 2, none⟩ = some (.int .i64 n.sink) := HND.out.cell 2
      have x3 : W5.cell? ⟨N, 3, none⟩ = some (.slice n.sl.addr n.sl.len n.sl.cap) := HND.out.cell 3
      have x4 : W5.cell? ⟨N, 4, none⟩ = some (.int .i64 n.hold) := HND.out.cell 4
      have HZ := Lib.hid (HZM.out W5 HSD.out HV.out)
      go_wp2_with fail
      (with_reducible refine Calls.mono HZ.out ?_)
      clear HZ x0 x1 x2 x3 x4
      rintro r W6 ⟨g, rfl, hgi, hmg, hsg, hs1⟩
      have HGI := Lib.hid hgi
      have HFG : Hid (f.value = g.value ∧ f.am = g.am ∧ f.side = g.side) := by
        obtain ⟨e1, e2⟩ := HMF.out.run.det hmg.run
        exact ⟨e2, e1, by rw [HSF.out, hsg, e1]⟩
      replace HND := Lib.hid (HND.out.same hs1 (fun x => x))
      replace HFD := Lib.hid (HFD.out.same hs1 (fun x => x))
      replace HFI := Lib.hid (HID.out.keep hs1)
      replace HSD := Lib.hid (HSD.out.trans' hs1)
      clear hs1 hgi hmg hsg HID HZ1 HZ2
      have HG0 := Lib.hid (row_stored (Blk.new W6 29 #[.int .i64 0, .slice none 0 0, .slice none 0 0]) #[.int .i64 g.value, .slice g.sa.addr g.sa.len g.sa.cap, .slice g.ss.addr g.ss.len g.ss.cap])
      go_upto_region 9 with (refine wpList_store_row rfl 29 _ _ rfl W6.heap.size #[.int .i64 g.value, .slice g.sa.addr g.sa.len g.sa.cap, .slice g.ss.addr g.ss.len g.ss.cap] rfl rfl 29 _ (Blk.new W6 29 #[.int .i64 0, .slice none 0 0, .slice none 0 0]) (by kernel_rfl) rfl (by kernel_rfl) ?_)
      have hs0 : Same noB W6 ((W6.alloc (.cells #[.int .i64 0, .slice none 0 0, .slice none 0 0] 29)).setRow W6.heap.size #[.int .i64 g.value, .slice g.sa.addr g.sa.len g.sa.cap, .slice g.ss.addr g.ss.len g.ss.cap]) := ((Same.refl noB W6).alloc _).trans HG0.out.2 (fun b hb hx => by have h3 : b = W6.heap.size := hx; omega)
      refine wp_abs (fun W => Hid (Blk W N 24 #[.int .i64 n.nodes, .int .i64 n.source, .int .i64 n.sink, .slice n.sl.addr n.sl.len n.sl.cap, .int .i64 n.hold]) ∧ Hid (Blk W F 29 #[.int .i64 f.value, .slice f.sa.addr f.sa.len f.sa.cap, .slice f.ss.addr f.ss.len f.ss.cap]) ∧ Hid (Blk W W6.heap.size 29 #[.int .i64 g.value, .slice g.sa.addr g.sa.len g.sa.cap, .slice g.ss.addr g.ss.len g.ss.cap]) ∧ Hid (FlowIs W f) ∧ Hid (FlowIs W g) ∧ Hid (Same noB w W)) ⟨HND.out.same hs0 (fun x => x), HFD.out.same hs0 (fun x => x), HG0.out.1, HFI.out.keep hs0, HGI.out.keep hs0, HSD.out.trans' hs0⟩ ?_
      clear hs0 HG0 HND HFD HSD HFI HGI
      rintro W7 ⟨HN, HF, HG, HFI, HGI, HS⟩
      obtain ⟨G, hG⟩ : ∃ G, W6.heap.size = G := ⟨_, rfl⟩
      rw [hG] at HG ⊢
      clear hG
      have HFL : Hid (IsFl n f.am f.value) := HMF.out.flow
      have HSL : Hid ((f.side.length : Int) = n.nodes ∧ inB f.side n.source = true ∧ inB f.side n.sink = false ∧ capSum f.side n.arcs = f.value) := by
        have hok := HOK.out
        refine ⟨?_, ?_, ?_, ?_⟩
        · rw [HSF.out, sideL_len]; have := hok.nodes; omega
        · rw [HSF.out, sideL_in hok _ hok.source.1]; exact Option.isSome_iff_ne_none.2 (search_src hok _)
        · rw [HSF.out, sideL_in hok _ hok.sink.1, HMF.out.stop]; rfl
        · rw [HSF.out]; exact (max_cut hok HMF.out.flow HMF.out.stop).symm
      have x0 : W7.cell? ⟨N, 0, none⟩ = some (.int .i64 n.nodes) := HN.out.cell 0
      have x1 : W7.cell? ⟨N, 1, none⟩ = some (.int .i64 n.source) := HN.out.cell 1
      have x2 : W7.cell? ⟨N, 2, none⟩ = some (.int .i64 n.sink) := HN.out.cell 2
      have x3 : W7.cell? ⟨N, 3, none⟩ = some (.slice n.sl.addr n.sl.len n.sl.cap) := HN.out.cell 3
      have x4 : W7.cell? ⟨N, 4, none⟩ = some (.int .i64 n.hold) := HN.out.cell 4
      have f0 : W7.cell? ⟨F, 0, none⟩ = some (.int .i64 f.value) := HF.out.cell 0
      have f1 : W7.cell? ⟨F, 1, none⟩ = some (.slice f.sa.addr f.sa.len f.sa.cap) := HF.out.cell 1
      have f2 : W7.cell? ⟨F, 2, none⟩ = some (.slice f.ss.addr f.ss.len f.ss.cap) := HF.out.cell 2
      have g0 : W7.cell? ⟨G, 0, none⟩ = some (.int .i64 g.value) := HG.out.cell 0
      have g1 : W7.cell? ⟨G, 1, none⟩ = some (.slice g.sa.addr g.sa.len g.sa.cap) := HG.out.cell 1
      have g2 : W7.cell? ⟨G, 2, none⟩ = some (.slice g.ss.addr g.ss.len g.ss.cap) := HG.out.cell 2
      have HSD : Hid (Same noB w W7.drew) := HS.out.drew
      have HFD : Hid (FlowIs W7.drew f) := HFI.out.keep ((Same.refl noB W7).drew)
      have HGD : Hid (FlowIs W7.drew g) := HGI.out.keep ((Same.refl noB W7).drew)
      clear HN HF HG HS HFI HGI
      go_wp2_with fail
      go_region_held3 (fun w' => w'.cell? ⟨N, 0, none⟩ = some (.int .i64 n.nodes) ∧ w'.cell? ⟨N, 1, none⟩ = some (.int .i64 n.source) ∧ w'.cell? ⟨N, 2, none⟩ = some (.int .i64 n.sink) ∧ w'.cell? ⟨N, 3, none⟩ = some (.slice n.sl.addr n.sl.len n.sl.cap) ∧ w'.cell? ⟨N, 4, none⟩ = some (.int .i64 n.hold) ∧ w'.cell? ⟨F, 0, none⟩ = some (.int .i64 f.value) ∧ w'.cell? ⟨F, 1, none⟩ = some (.slice f.sa.addr f.sa.len f.sa.cap) ∧ w'.cell? ⟨F, 2, none⟩ = some (.slice f.ss.addr f.ss.len f.ss.cap) ∧ w'.cell? ⟨G, 0, none⟩ = some (.int .i64 g.value) ∧ w'.cell? ⟨G, 1, none⟩ = some (.slice g.sa.addr g.sa.len g.sa.cap) ∧ w'.cell? ⟨G, 2, none⟩ = some (.slice g.ss.addr g.ss.len g.ss.cap))
        (first | (refine ⟨?_, ?_, ?_, ?_, ?_, ?_, ?_, ?_, ?_, ?_, ?_⟩ <;> with_reducible assumption) | go_keep)
        (first
          | (go_at_call 14; have hZ := HZC.out _ f HSD.out HV.out HFD.out HFL.out HSL.out.1 HSL.out.2.1 HSL.out.2.2.1 HSL.out.2.2.2; (try dsimp only at hZ); (with_reducible refine Calls.mono hZ ?_); clear hZ; rintro e Wc ⟨rfl, hs⟩; have HSD := Lib.hid (HSD.out.trans' hs); have HFD := Lib.hid (HFD.out.keep hs); have HGD := Lib.hid (HGD.out.keep hs); have x0 := hs.cell x0 (fun x => x); have x1 := hs.cell x1 (fun x => x); have x2 := hs.cell x2 (fun x => x); have x3 := hs.cell x3 (fun x => x); have x4 := hs.cell x4 (fun x => x); have f0 := hs.cell f0 (fun x => x); have f1 := hs.cell f1 (fun x => x); have f2 := hs.cell f2 (fun x => x); have g0 := hs.cell g0 (fun x => x); have g1 := hs.cell g1 (fun x => x); have g2 := hs.cell g2 (fun x => x); clear hs)
          | (go_at_call 13; have hZ := HZF.out _ f g HFD.out HGD.out HFG.out.1 HFG.out.2.1 HFG.out.2.2; (try dsimp only at hZ); (with_reducible refine Calls.mono hZ ?_); clear hZ; rintro e Wc ⟨rfl, hs⟩; have HSD := Lib.hid (HSD.out.trans' hs); have HFD := Lib.hid (HFD.out.keep hs); have HGD := Lib.hid (HGD.out.keep hs); have x0 := hs.cell x0 (fun x => x); have x1 := hs.cell x1 (fun x => x); have x2 := hs.cell x2 (fun x => x); have x3 := hs.cell x3 (fun x => x); have x4 := hs.cell x4 (fun x => x); have f0 := hs.cell f0 (fun x => x); have f1 := hs.cell f1 (fun x => x); have f2 := hs.cell f2 (fun x => x); have g0 := hs.cell g0 (fun x => x); have g1 := hs.cell g1 (fun x => x); have g2 := hs.cell g2 (fun x => x); clear hs)
          | (go_at_call 15; have hZ := HZD.out _ f.sa f.am HSD.out HV.out HFD.out.a HFL.out.cap.1; (try dsimp only at hZ); (with_reducible refine Calls.mono hZ ?_); clear hZ; rintro e Wc ⟨RS, rfl, hrs, hs⟩; have HRS := Lib.hid hrs; clear hrs; have HSD := Lib.hid (HSD.out.trans' hs); have HFD := Lib.hid (HFD.out.keep hs); have HGD := Lib.hid (HGD.out.keep hs); have x0 := hs.cell x0 (fun x => x); have x1 := hs.cell x1 (fun x => x); have x2 := hs.cell x2 (fun x => x); have x3 := hs.cell x3 (fun x => x); have x4 := hs.cell x4 (fun x => x); have f0 := hs.cell f0 (fun x => x); have f1 := hs.cell f1 (fun x => x); have f2 := hs.cell f2 (fun x => x); have g0 := hs.cell g0 (fun x => x); have g1 := hs.cell g1 (fun x => x); have g2 := hs.cell g2 (fun x => x); clear hs)
          | (go_at_call 13; have hZ := HZF.out _ f ⟨f.value, f.am, sideL n f.am, f.sa, RS⟩ HFD.out ⟨HFD.out.a, HRS.out⟩ rfl rfl HSF.out; (try dsimp only at hZ); (with_reducible refine Calls.mono hZ ?_); clear hZ; rintro e Wc ⟨rfl, hs⟩; have HSD := Lib.hid (HSD.out.trans' hs); have HFD := Lib.hid (HFD.out.keep hs); have HGD := Lib.hid (HGD.out.keep hs); have x0 := hs.cell x0 (fun x => x); have x1 := hs.cell x1 (fun x => x); have x2 := hs.cell x2 (fun x => x); have x3 := hs.cell x3 (fun x => x); have x4 := hs.cell x4 (fun x => x); have f0 := hs.cell f0 (fun x => x); have f1 := hs.cell f1 (fun x => x); have f2 := hs.cell f2 (fun x => x); have g0 := hs.cell g0 (fun x => x); have g1 := hs.cell g1 (fun x => x); have g2 := hs.cell g2 (fun x => x); clear hs))
      all_goals
        go_wp2_with fail
        go_ret
        exact ⟨rfl, HSD.out⟩
end Go.Proofs.Ytpalacfgpcpppaa
