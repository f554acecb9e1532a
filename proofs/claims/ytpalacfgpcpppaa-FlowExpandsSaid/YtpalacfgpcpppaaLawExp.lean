/- Layer 10: the law FlowExpands, walked. (printed by genLawExp.py) -/
import Derived.Test.YtpalacfgpcpppaaFloEx
import Derived.Test.YtpalacfgpcpppaaExpR
import Derived.Test.YtpalacfgpcpppaaSmn
namespace Go.Proofs.Ytpalacfgpcpppaa
open Go Go.RowKit
set_option maxRecDepth 100000

set_option maxHeartbeats 16000000 in
theorem lawExpands_any {w : World} {n : NetV} {s : Int} (h : NetIs w n) :
    Calls Try.prog 8 #[n.val, .int .i64 s] w fun r w' => r = .returned (.bool true) ∧ Same noB w w' := by
  have hcaps := h.rd.caps
  have hZN := fun (W : World) (hno : n.validB = false ∨ s < 0 ∨ 16 < s) (hs : Same noB w W) => expand_no (h.keep hs) hno
  have hZQ := fun (W : World) (hno : n.validB = false ∨ s < 0 ∨ 16 < s) (hs : Same noB w W) => rexpand_no (h.keep hs) hno
  have hZO := fun (W : World) (S : Nat) (hv : n.validB = true) (hS : S ≤ 16) (hs : Same noB w W) => expand_ok (h.keep hs) hv hS
  have hZP := fun (W : World) (S : Nat) (hv : n.validB = true) (hS : S ≤ 16) (hs : Same noB w W) => rexpand_ok (h.keep hs) hv hS
  have hZE : ∀ W, Calls Try.prog 24 #[.agg #[.int .i64 0, .int .i64 0, .int .i64 0, .slice none 0 0, .int .i64 0], .agg #[.int .i64 0, .int .i64 0, .int .i64 0, .slice none 0 0, .int .i64 0]] W fun r w' => r = .returned (.bool true) ∧ Same noB W w' := fun W => samenet_true (a := ⟨0, 0, 0, [], 0, ⟨none, 0, 0⟩⟩) (b := ⟨0, 0, 0, [], 0, ⟨none, 0, 0⟩⟩) ⟨rfl, Rd.nil_ _ _ _⟩ ⟨rfl, Rd.nil_ _ _ _⟩ rfl rfl rfl rfl rfl
  have HIN := Lib.hid h
  unfold noNet at hZN hZQ hZO hZP
  have HZI := Lib.hid (fun (W : World) (a b : NetV) (ha : NetIs W a) (hb : NetIs W b) => samenet_true ha hb)
  have HZV := Lib.hid (fun (W : World) (a : NetV) (ha : NetIs W a) => valid_any ha)
  have HZM := Lib.hid (fun (W : World) (a : NetV) (ha : NetIs W a) => max_ok ha)
  unfold NetV.val at *
  have HZN := Lib.hid hZN
  have HZQ := Lib.hid hZQ
  have HZO := Lib.hid hZO
  have HZP := Lib.hid hZP
  have HZE := Lib.hid hZE
  clear h hZN hZQ hZO hZP hZE
  go_enter Try.func8, Try.ntmps8
  go_upto_region 1 with (fail)
  refine wp_abs (fun W => Hid (Blk W w.heap.size 24 #[.int .i64 n.nodes, .int .i64 n.source, .int .i64 n.sink, .slice n.sl.addr n.sl.len n.sl.cap, .int .i64 n.hold]) ∧ Hid (Same noB w W)) ⟨Blk.new w 24 _, (Same.refl _ _).alloc _⟩ ?_
  rintro W0 ⟨HN, HS⟩
  obtain ⟨N, hN⟩ : ∃ N, w.heap.size = N := ⟨_, rfl⟩
  rw [hN] at HN ⊢
  clear hN
  go_wp2_with fail
  (with_reducible refine Calls.mono (awake_any _) ?_)
  rintro r W1 ⟨rfl, hs1⟩
  replace HN := Lib.hid (HN.out.same hs1 (fun x => x))
  replace HS := Lib.hid (HS.out.trans' hs1)
  clear hs1
  have x0 : W1.cell? ⟨N, 0, none⟩ = some (.int .i64 n.nodes) := HN.out.cell 0
  have x1 : W1.cell? ⟨N, 1, none⟩ = some (.int .i64 n.source) := HN.out.cell 1
  have x2 : W1.cell? ⟨N, 2, none⟩ = some (.int .i64 n.sink) := HN.out.cell 2
  have x3 : W1.cell? ⟨N, 3, none⟩ = some (.slice n.sl.addr n.sl.len n.sl.cap) := HN.out.cell 3
  have x4 : W1.cell? ⟨N, 4, none⟩ = some (.int .i64 n.hold) := HN.out.cell 4
  by_cases h1 : (12 : Int) < (n.sl.len : Int)
  · clear x0 x1 x2 x4
    go_wp2_with fail
    (with_reducible refine Calls.mono (awake_any _) ?_)
    rintro r W9 ⟨rfl, hs9⟩
    go_wp2_with fail
    go_ret
    exact ⟨rfl, HS.out.trans' hs9⟩
  by_cases h2 : 6 < n.nodes
  · clear x1 x2 x4
    go_wp2_with fail
    (with_reducible refine Calls.mono (awake_any _) ?_)
    rintro r W9 ⟨rfl, hs9⟩
    go_wp2_with fail
    go_ret
    exact ⟨rfl, HS.out.trans' hs9⟩
  by_cases hno : n.validB = false ∨ s < 0 ∨ 16 < s
  · have HNO := Lib.hid hno
    clear hno
    have HZ := Lib.hid (HZN.out W1 HNO.out HS.out)
    go_wp2_with fail
    (with_reducible refine Calls.mono HZ.out ?_)
    clear HZ x0 x1 x2 x3 x4
    rintro r W2 ⟨rfl, hs1⟩
    replace HN := Lib.hid (HN.out.same hs1 (fun x => x))
    replace HS := Lib.hid (HS.out.trans' hs1)
    clear hs1
    have HG0 := Lib.hid (row_stored (Blk.new W2 24 #[.int .i64 0, .int .i64 0, .int .i64 0, .slice none 0 0, .int .i64 0]) #[.int .i64 0, .int .i64 0, .int .i64 0, .slice none 0 0, .int .i64 0])
    go_upto_region 4 with (refine wpList_store_row rfl 24 _ _ rfl W2.heap.size #[.int .i64 0, .int .i64 0, .int .i64 0, .slice none 0 0, .int .i64 0] rfl rfl 24 _ (Blk.new W2 24 #[.int .i64 0, .int .i64 0, .int .i64 0, .slice none 0 0, .int .i64 0]) (by kernel_rfl) rfl (by kernel_rfl) ?_)
    have hs0 : Same noB W2 ((W2.alloc (.cells #[.int .i64 0, .int .i64 0, .int .i64 0, .slice none 0 0, .int .i64 0] 24)).setRow W2.heap.size #[.int .i64 0, .int .i64 0, .int .i64 0, .slice none 0 0, .int .i64 0]) := ((Same.refl noB W2).alloc _).trans HG0.out.2 (fun b hb hx => by have h3 : b = W2.heap.size := hx; omega)
    refine wp_abs (fun W => Hid (Blk W N 24 #[.int .i64 n.nodes, .int .i64 n.source, .int .i64 n.sink, .slice n.sl.addr n.sl.len n.sl.cap, .int .i64 n.hold]) ∧ Hid (Same noB w W) ∧ Hid (Blk W W2.heap.size 24 #[.int .i64 0, .int .i64 0, .int .i64 0, .slice none 0 0, .int .i64 0])) ⟨HN.out.same hs0 (fun x => x), HS.out.trans' hs0, HG0.out.1⟩ ?_
    clear hs0 HG0 HN HS
    rintro W3 ⟨HN, HS, HM⟩
    obtain ⟨M, hM⟩ : ∃ M, W2.heap.size = M := ⟨_, rfl⟩
    rw [hM] at HM ⊢
    clear hM
    have x0 : W3.cell? ⟨N, 0, none⟩ = some (.int .i64 n.nodes) := HN.out.cell 0
    have x1 : W3.cell? ⟨N, 1, none⟩ = some (.int .i64 n.source) := HN.out.cell 1
    have x2 : W3.cell? ⟨N, 2, none⟩ = some (.int .i64 n.sink) := HN.out.cell 2
    have x3 : W3.cell? ⟨N, 3, none⟩ = some (.slice n.sl.addr n.sl.len n.sl.cap) := HN.out.cell 3
    have x4 : W3.cell? ⟨N, 4, none⟩ = some (.int .i64 n.hold) := HN.out.cell 4
    have HZ := Lib.hid (HZQ.out W3 HNO.out HS.out)
    go_wp2_with fail
    (with_reducible refine Calls.mono HZ.out ?_)
    clear HZ x0 x1 x2 x3 x4
    rintro r W4 ⟨rfl, hs1⟩
    replace HN := Lib.hid (HN.out.same hs1 (fun x => x))
    replace HM := Lib.hid (HM.out.same hs1 (fun x => x))
    replace HS := Lib.hid (HS.out.trans' hs1)
    clear hs1
    have HG0 := Lib.hid (row_stored (Blk.new W4 24 #[.int .i64 0, .int .i64 0, .int .i64 0, .slice none 0 0, .int .i64 0]) #[.int .i64 0, .int .i64 0, .int .i64 0, .slice none 0 0, .int .i64 0])
    go_upto_region 5 with (refine wpList_store_row rfl 24 _ _ rfl W4.heap.size #[.int .i64 0, .int .i64 0, .int .i64 0, .slice none 0 0, .int .i64 0] rfl rfl 24 _ (Blk.new W4 24 #[.int .i64 0, .int .i64 0, .int .i64 0, .slice none 0 0, .int .i64 0]) (by kernel_rfl) rfl (by kernel_rfl) ?_)
    have hs0 : Same noB W4 ((W4.alloc (.cells #[.int .i64 0, .int .i64 0, .int .i64 0, .slice none 0 0, .int .i64 0] 24)).setRow W4.heap.size #[.int .i64 0, .int .i64 0, .int .i64 0, .slice none 0 0, .int .i64 0]) := ((Same.refl noB W4).alloc _).trans HG0.out.2 (fun b hb hx => by have h3 : b = W4.heap.size := hx; omega)
    refine wp_abs (fun W => Hid (Blk W N 24 #[.int .i64 n.nodes, .int .i64 n.source, .int .i64 n.sink, .slice n.sl.addr n.sl.len n.sl.cap, .int .i64 n.hold]) ∧ Hid (Blk W M 24 #[.int .i64 0, .int .i64 0, .int .i64 0, .slice none 0 0, .int .i64 0]) ∧ Hid (Same noB w W) ∧ Hid (Blk W W4.heap.size 24 #[.int .i64 0, .int .i64 0, .int .i64 0, .slice none 0 0, .int .i64 0])) ⟨HN.out.same hs0 (fun x => x), HM.out.same hs0 (fun x => x), HS.out.trans' hs0, HG0.out.1⟩ ?_
    clear hs0 HG0 HN HM HS
    rintro W5 ⟨HN, HM, HS, HB⟩
    obtain ⟨B, hB⟩ : ∃ B, W4.heap.size = B := ⟨_, rfl⟩
    rw [hB] at HB ⊢
    clear hB
    have m0 : W5.cell? ⟨M, 0, none⟩ = some (.int .i64 0) := HM.out.cell 0
    have m1 : W5.cell? ⟨M, 1, none⟩ = some (.int .i64 0) := HM.out.cell 1
    have m2 : W5.cell? ⟨M, 2, none⟩ = some (.int .i64 0) := HM.out.cell 2
    have m3 : W5.cell? ⟨M, 3, none⟩ = some (.slice none 0 0) := HM.out.cell 3
    have m4 : W5.cell? ⟨M, 4, none⟩ = some (.int .i64 0) := HM.out.cell 4
    have b0 : W5.cell? ⟨B, 0, none⟩ = some (.int .i64 0) := HB.out.cell 0
    have b1 : W5.cell? ⟨B, 1, none⟩ = some (.int .i64 0) := HB.out.cell 1
    have b2 : W5.cell? ⟨B, 2, none⟩ = some (.int .i64 0) := HB.out.cell 2
    have b3 : W5.cell? ⟨B, 3, none⟩ = some (.slice none 0 0) := HB.out.cell 3
    have b4 : W5.cell? ⟨B, 4, none⟩ = some (.int .i64 0) := HB.out.cell 4
    have HZ := Lib.hid (HZE.out W5)
    go_wp2_with fail
    (with_reducible refine Calls.mono HZ.out ?_)
    clear HZ m0 m1 m2 m3 m4 b0 b1 b2 b3 b4
    rintro r W6 ⟨rfl, hs1⟩
    replace HS := Lib.hid (HS.out.trans' hs1)
    clear hs1
    go_wp2_with fail
    go_ret
    exact ⟨rfl, HS.out⟩
  have hv : n.validB = true := by
    cases hq : n.validB with
    | true => rfl
    | false => exact absurd (.inl hq) hno
  obtain ⟨S, rfl⟩ : ∃ S : Nat, s = (S : Int) := ⟨s.toNat, by omega⟩
  have hS : S ≤ 16 := by omega
  have HV := Lib.hid hv
  have HOK := Lib.hid (NetV.validB_ok hv)
  clear hno hv
  have HZ := Lib.hid (HZO.out W1 S HV.out hS HS.out)
  go_wp2_with fail
  (with_reducible refine Calls.mono HZ.out ?_)
  clear HZ x0 x1 x2 x3 x4
  rintro r W2 ⟨⟨hf, s1, rfl, hi1⟩ | ⟨hf, rfl⟩, hs1⟩
  · have HF := Lib.hid hf
    have HI1 := Lib.hid hi1
    clear hf hi1
    replace HN := Lib.hid (HN.out.same hs1 (fun x => x))
    replace HS := Lib.hid (HS.out.trans' hs1)
    clear hs1
    have HG0 := Lib.hid (row_stored (Blk.new W2 24 #[.int .i64 0, .int .i64 0, .int .i64 0, .slice none 0 0, .int .i64 0]) #[.int .i64 (n.exp S s1).nodes, .int .i64 (n.exp S s1).source, .int .i64 (n.exp S s1).sink, .slice (n.exp S s1).sl.addr (n.exp S s1).sl.len (n.exp S s1).sl.cap, .int .i64 (n.exp S s1).hold])
    go_upto_region 4 with (refine wpList_store_row rfl 24 _ _ rfl W2.heap.size #[.int .i64 (n.exp S s1).nodes, .int .i64 (n.exp S s1).source, .int .i64 (n.exp S s1).sink, .slice (n.exp S s1).sl.addr (n.exp S s1).sl.len (n.exp S s1).sl.cap, .int .i64 (n.exp S s1).hold] rfl rfl 24 _ (Blk.new W2 24 #[.int .i64 0, .int .i64 0, .int .i64 0, .slice none 0 0, .int .i64 0]) (by kernel_rfl) rfl (by kernel_rfl) ?_)
    have hs0 : Same noB W2 ((W2.alloc (.cells #[.int .i64 0, .int .i64 0, .int .i64 0, .slice none 0 0, .int .i64 0] 24)).setRow W2.heap.size #[.int .i64 (n.exp S s1).nodes, .int .i64 (n.exp S s1).source, .int .i64 (n.exp S s1).sink, .slice (n.exp S s1).sl.addr (n.exp S s1).sl.len (n.exp S s1).sl.cap, .int .i64 (n.exp S s1).hold]) := ((Same.refl noB W2).alloc _).trans HG0.out.2 (fun b hb hx => by have h3 : b = W2.heap.size := hx; omega)
    refine wp_abs (fun W => Hid (Blk W N 24 #[.int .i64 n.nodes, .int .i64 n.source, .int .i64 n.sink, .slice n.sl.addr n.sl.len n.sl.cap, .int .i64 n.hold]) ∧ Hid (NetIs W (n.exp S s1)) ∧ Hid (Same noB w W) ∧ Hid (Blk W W2.heap.size 24 #[.int .i64 (n.exp S s1).nodes, .int .i64 (n.exp S s1).source, .int .i64 (n.exp S s1).sink, .slice (n.exp S s1).sl.addr (n.exp S s1).sl.len (n.exp S s1).sl.cap, .int .i64 (n.exp S s1).hold])) ⟨HN.out.same hs0 (fun x => x), HI1.out.keep hs0, HS.out.trans' hs0, HG0.out.1⟩ ?_
    clear hs0 HG0 HN HI1 HS
    rintro W3 ⟨HN, HI1, HS, HM⟩
    obtain ⟨M, hM⟩ : ∃ M, W2.heap.size = M := ⟨_, rfl⟩
    rw [hM] at HM ⊢
    clear hM
    have x0 : W3.cell? ⟨N, 0, none⟩ = some (.int .i64 n.nodes) := HN.out.cell 0
    have x1 : W3.cell? ⟨N, 1, none⟩ = some (.int .i64 n.source) := HN.out.cell 1
    have x2 : W3.cell? ⟨N, 2, none⟩ = some (.int .i64 n.sink) := HN.out.cell 2
    have x3 : W3.cell? ⟨N, 3, none⟩ = some (.slice n.sl.addr n.sl.len n.sl.cap) := HN.out.cell 3
    have x4 : W3.cell? ⟨N, 4, none⟩ = some (.int .i64 n.hold) := HN.out.cell 4
    have HZ := Lib.hid (HZP.out W3 S HV.out hS HS.out)
    go_wp2_with fail
    (with_reducible refine Calls.mono HZ.out ?_)
    clear HZ x0 x1 x2 x3 x4
    rintro r W4 ⟨⟨_, s2, rfl, hi2⟩ | ⟨hf, _⟩, hs1⟩
    · have HI2 := Lib.hid hi2
      clear hi2
      replace HN := Lib.hid (HN.out.same hs1 (fun x => x))
      replace HM := Lib.hid (HM.out.same hs1 (fun x => x))
      replace HI1 := Lib.hid (HI1.out.keep hs1)
      replace HS := Lib.hid (HS.out.trans' hs1)
      clear hs1
      have HG0 := Lib.hid (row_stored (Blk.new W4 24 #[.int .i64 0, .int .i64 0, .int .i64 0, .slice none 0 0, .int .i64 0]) #[.int .i64 (n.exp S s2).nodes, .int .i64 (n.exp S s2).source, .int .i64 (n.exp S s2).sink, .slice (n.exp S s2).sl.addr (n.exp S s2).sl.len (n.exp S s2).sl.cap, .int .i64 (n.exp S s2).hold])
      go_upto_region 5 with (refine wpList_store_row rfl 24 _ _ rfl W4.heap.size #[.int .i64 (n.exp S s2).nodes, .int .i64 (n.exp S s2).source, .int .i64 (n.exp S s2).sink, .slice (n.exp S s2).sl.addr (n.exp S s2).sl.len (n.exp S s2).sl.cap, .int .i64 (n.exp S s2).hold] rfl rfl 24 _ (Blk.new W4 24 #[.int .i64 0, .int .i64 0, .int .i64 0, .slice none 0 0, .int .i64 0]) (by kernel_rfl) rfl (by kernel_rfl) ?_)
      have hs0 : Same noB W4 ((W4.alloc (.cells #[.int .i64 0, .int .i64 0, .int .i64 0, .slice none 0 0, .int .i64 0] 24)).setRow W4.heap.size #[.int .i64 (n.exp S s2).nodes, .int .i64 (n.exp S s2).source, .int .i64 (n.exp S s2).sink, .slice (n.exp S s2).sl.addr (n.exp S s2).sl.len (n.exp S s2).sl.cap, .int .i64 (n.exp S s2).hold]) := ((Same.refl noB W4).alloc _).trans HG0.out.2 (fun b hb hx => by have h3 : b = W4.heap.size := hx; omega)
      refine wp_abs (fun W => Hid (Blk W N 24 #[.int .i64 n.nodes, .int .i64 n.source, .int .i64 n.sink, .slice n.sl.addr n.sl.len n.sl.cap, .int .i64 n.hold]) ∧ Hid (Blk W M 24 #[.int .i64 (n.exp S s1).nodes, .int .i64 (n.exp S s1).source, .int .i64 (n.exp S s1).sink, .slice (n.exp S s1).sl.addr (n.exp S s1).sl.len (n.exp S s1).sl.cap, .int .i64 (n.exp S s1).hold]) ∧ Hid (NetIs W (n.exp S s1)) ∧ Hid (NetIs W (n.exp S s2)) ∧ Hid (Same noB w W) ∧ Hid (Blk W W4.heap.size 24 #[.int .i64 (n.exp S s2).nodes, .int .i64 (n.exp S s2).source, .int .i64 (n.exp S s2).sink, .slice (n.exp S s2).sl.addr (n.exp S s2).sl.len (n.exp S s2).sl.cap, .int .i64 (n.exp S s2).hold])) ⟨HN.out.same hs0 (fun x => x), HM.out.same hs0 (fun x => x), HI1.out.keep hs0, HI2.out.keep hs0, HS.out.trans' hs0, HG0.out.1⟩ ?_
      clear hs0 HG0 HN HM HI1 HI2 HS
      rintro W5 ⟨HN, HM, HI1, HI2, HS, HB⟩
      obtain ⟨B, hB⟩ : ∃ B, W4.heap.size = B := ⟨_, rfl⟩
      rw [hB] at HB ⊢
      clear hB
      have m0 : W5.cell? ⟨M, 0, none⟩ = some (.int .i64 (n.exp S s1).nodes) := HM.out.cell 0
      have m1 : W5.cell? ⟨M, 1, none⟩ = some (.int .i64 (n.exp S s1).source) := HM.out.cell 1
      have m2 : W5.cell? ⟨M, 2, none⟩ = some (.int .i64 (n.exp S s1).sink) := HM.out.cell 2
      have m3 : W5.cell? ⟨M, 3, none⟩ = some (.slice (n.exp S s1).sl.addr (n.exp S s1).sl.len (n.exp S s1).sl.cap) := HM.out.cell 3
      have m4 : W5.cell? ⟨M, 4, none⟩ = some (.int .i64 (n.exp S s1).hold) := HM.out.cell 4
      have b0 : W5.cell? ⟨B, 0, none⟩ = some (.int .i64 (n.exp S s2).nodes) := HB.out.cell 0
      have b1 : W5.cell? ⟨B, 1, none⟩ = some (.int .i64 (n.exp S s2).source) := HB.out.cell 1
      have b2 : W5.cell? ⟨B, 2, none⟩ = some (.int .i64 (n.exp S s2).sink) := HB.out.cell 2
      have b3 : W5.cell? ⟨B, 3, none⟩ = some (.slice (n.exp S s2).sl.addr (n.exp S s2).sl.len (n.exp S s2).sl.cap) := HB.out.cell 3
      have b4 : W5.cell? ⟨B, 4, none⟩ = some (.int .i64 (n.exp S s2).hold) := HB.out.cell 4
      have HZ := Lib.hid (HZI.out W5 (n.exp S s1) (n.exp S s2) HI1.out HI2.out rfl rfl rfl rfl rfl)
      go_wp2_with fail
      (with_reducible refine Calls.mono HZ.out ?_)
      clear HZ m0 m1 m2 m3 m4 b0 b1 b2 b3 b4
      rintro r W6 ⟨rfl, hs1⟩
      clear HI2 HB
      replace HN := Lib.hid (HN.out.same hs1 (fun x => x))
      replace HM := Lib.hid (HM.out.same hs1 (fun x => x))
      replace HI1 := Lib.hid (HI1.out.keep hs1)
      replace HS := Lib.hid (HS.out.trans' hs1)
      clear hs1
      have hZ := HZV.out W6 (n.exp S s1) HI1.out
      rw [exp_valid HOK.out HF.out s1] at hZ
      have HZX := Lib.hid hZ
      clear hZ
      by_cases hs1' : (S : Int) < 1
      · have HM' := HM
        have m0 : W6.cell? ⟨M, 0, none⟩ = some (.int .i64 (n.exp S s1).nodes) := HM.out.cell 0
        have m1 : W6.cell? ⟨M, 1, none⟩ = some (.int .i64 (n.exp S s1).source) := HM.out.cell 1
        have m2 : W6.cell? ⟨M, 2, none⟩ = some (.int .i64 (n.exp S s1).sink) := HM.out.cell 2
        have m3 : W6.cell? ⟨M, 3, none⟩ = some (.slice (n.exp S s1).sl.addr (n.exp S s1).sl.len (n.exp S s1).sl.cap) := HM.out.cell 3
        have m4 : W6.cell? ⟨M, 4, none⟩ = some (.int .i64 (n.exp S s1).hold) := HM.out.cell 4
        go_wp2_with fail
        (with_reducible refine Calls.mono HZX.out ?_)
        clear HZX m0 m1 m2 m3 m4
        rintro r W7 ⟨rfl, hs1⟩
        go_wp2_with fail
        go_ret
        exact ⟨rfl, HS.out.trans' hs1⟩
      by_cases hs4 : (4 : Int) < (S : Int)
      · have HM' := HM
        have m0 : W6.cell? ⟨M, 0, none⟩ = some (.int .i64 (n.exp S s1).nodes) := HM.out.cell 0
        have m1 : W6.cell? ⟨M, 1, none⟩ = some (.int .i64 (n.exp S s1).source) := HM.out.cell 1
        have m2 : W6.cell? ⟨M, 2, none⟩ = some (.int .i64 (n.exp S s1).sink) := HM.out.cell 2
        have m3 : W6.cell? ⟨M, 3, none⟩ = some (.slice (n.exp S s1).sl.addr (n.exp S s1).sl.len (n.exp S s1).sl.cap) := HM.out.cell 3
        have m4 : W6.cell? ⟨M, 4, none⟩ = some (.int .i64 (n.exp S s1).hold) := HM.out.cell 4
        go_wp2_with fail
        (with_reducible refine Calls.mono HZX.out ?_)
        clear HZX m0 m1 m2 m3 m4
        rintro r W7 ⟨rfl, hs1⟩
        go_wp2_with fail
        go_ret
        exact ⟨rfl, HS.out.trans' hs1⟩
      have x3 : W6.cell? ⟨N, 3, none⟩ = some (.slice n.sl.addr n.sl.len n.sl.cap) := HN.out.cell 3
      go_wp2_with fail
      go_loopg [9, 72] (n.sl.len) (fun gk t q wr => ∃ (k : Nat), k ≤ n.sl.len ∧ Hid (gk + k = n.sl.len) ∧ q = .int .i64 (k : Int) ∧ t = .int .i64 (capTot (n.arcs.take k)) ∧ Hid (Blk wr N 24 #[.int .i64 n.nodes, .int .i64 n.source, .int .i64 n.sink, .slice n.sl.addr n.sl.len n.sl.cap, .int .i64 n.hold]) ∧ Hid (Blk wr M 24 #[.int .i64 (n.exp S s1).nodes, .int .i64 (n.exp S s1).source, .int .i64 (n.exp S s1).sink, .slice (n.exp S s1).sl.addr (n.exp S s1).sl.len (n.exp S s1).sl.cap, .int .i64 (n.exp S s1).hold]) ∧ Hid (NetIs wr (n.exp S s1)) ∧ Hid (Same noB w wr))
      case atStart => exact ⟨0, by omega, rfl, rfl, by simp [capTot], HN.out, HM.out, HI1.out, HS.out⟩
      case round =>
        clear HN HM HI1 HS HZX x3
        obtain ⟨k, hk, HK, rfl, rfl, HN, HM, HI1, HS⟩ := hrel
        by_cases hka : k < n.sl.len
        · obtain ⟨x, hx⟩ : ∃ e, n.arcs[k]? = some e := ⟨_, List.getElem?_eq_getElem (by have := HIN.out.len; omega)⟩
          have HXO := Lib.hid (HOK.out.arcs x (List.mem_of_getElem? hx))
          obtain ⟨b, o, hb, r⟩ := (HIN.out.rd.keep HS.out).at_ (by omega)
          obtain ⟨p0, p1, p2, p3⟩ := arc_at r hx
          have hk0 : (0 : Int) ≤ (k : Int) := by omega
          have hk1 : (k : Int) < (n.sl.len : Int) := by omega
          have HX := Lib.hid (capTot_next hx)
          have hwa : IntKind.i64.wrap (capTot (n.arcs.take k) + x.c) = capTot (n.arcs.take k) + x.c := IntWalk.i64_in _ (by
            have q1 := capTot_small (l := n.arcs.take k) (fun a ha => HOK.out.arcs a (List.mem_of_mem_take ha))
            have q2 := HXO.out.c
            rw [List.length_take] at q1
            have q3 : min k n.arcs.length ≤ 4000 := by have := HOK.out.len; omega
            omega)
          have HA0 := Lib.hid (row_stored (Blk.new wr 43 #[.int .i64 0, .int .i64 0, .int .i64 0, .int .i64 0]) #[.int .i64 x.f, .int .i64 x.t, .int .i64 x.c, .int .i64 x.d])
          clear r hx
          rw [hb]
          go_upto_region 13 with (refine wpList_store_row rfl 43 _ _ rfl wr.heap.size #[.int .i64 x.f, .int .i64 x.t, .int .i64 x.c, .int .i64 x.d] rfl rfl 43 _ (Blk.new wr 43 #[.int .i64 0, .int .i64 0, .int .i64 0, .int .i64 0]) (by kernel_rfl) rfl (by kernel_rfl) ?_)
          have hs0 : Same noB wr ((wr.alloc (.cells #[.int .i64 0, .int .i64 0, .int .i64 0, .int .i64 0] 43)).setRow wr.heap.size #[.int .i64 x.f, .int .i64 x.t, .int .i64 x.c, .int .i64 x.d]) := ((Same.refl noB wr).alloc _).trans HA0.out.2 (fun b hb hx => by have h3 : b = wr.heap.size := hx; omega)
          rw [← hb]
          refine wp_abs (fun W => Hid (Blk W wr.heap.size 43 #[.int .i64 x.f, .int .i64 x.t, .int .i64 x.c, .int .i64 x.d]) ∧ Hid (Blk W N 24 #[.int .i64 n.nodes, .int .i64 n.source, .int .i64 n.sink, .slice n.sl.addr n.sl.len n.sl.cap, .int .i64 n.hold]) ∧ Hid (Blk W M 24 #[.int .i64 (n.exp S s1).nodes, .int .i64 (n.exp S s1).source, .int .i64 (n.exp S s1).sink, .slice (n.exp S s1).sl.addr (n.exp S s1).sl.len (n.exp S s1).sl.cap, .int .i64 (n.exp S s1).hold]) ∧ Hid (NetIs W (n.exp S s1)) ∧ Hid (Same noB w W)) ⟨HA0.out.1, HN.out.same hs0 (fun x => x), HM.out.same hs0 (fun x => x), HI1.out.keep hs0, HS.out.trans' hs0⟩ ?_
          clear hs0 HA0 p0 p1 p2 p3 hb HN HM HI1 HS
          rintro W7 ⟨HA, HN, HM, HI1, HS⟩
          obtain ⟨E, hE⟩ : ∃ E, wr.heap.size = E := ⟨_, rfl⟩
          rw [hE] at HA ⊢
          clear hE
          have p2 : W7.cell? ⟨E, 2, none⟩ = some (.int .i64 x.c) := HA.out.cell 2
          go_wp2_with fail
          go_roundg (gk - 1)
          case measure => have h1 := HK.out; omega
          case rel => exact ⟨k + 1, by omega, by show _ = _; have h1 := HK.out; omega, by go_num, by rw [HX.out], HN.out, HM.out, HI1.out, HS.out⟩
        · have HTE : Hid (capTot (n.arcs.take k) = capTot n.arcs) := by
            show _ = _
            rw [List.take_of_length_le (by have := HIN.out.len; omega)]
          have hkl : ¬ ((k : Int) < (n.sl.len : Int)) := by omega
          rw [HTE.out]
          have HTB := Lib.hid (capTot_small HOK.out.arcs)
          have hwm : IntKind.i64.wrap (20 * capTot n.arcs) = 20 * capTot n.arcs := IntWalk.i64_in _ (by have := HTB.out; have := HOK.out.len; omega)
          clear hka
          have x4 : wr.cell? ⟨N, 4, none⟩ = some (.int .i64 n.hold) := HN.out.cell 4
          have hZ := HZV.out wr (n.exp S s1) HI1.out
          rw [exp_valid HOK.out HF.out s1] at hZ
          have HZX := Lib.hid hZ
          clear hZ
          by_cases hho : n.hold < 20 * capTot n.arcs
          · have d1 : decide (n.hold < 20 * capTot n.arcs) = true := decide_eq_true hho
            have m0 : wr.cell? ⟨M, 0, none⟩ = some (.int .i64 (n.exp S s1).nodes) := HM.out.cell 0
            have m1 : wr.cell? ⟨M, 1, none⟩ = some (.int .i64 (n.exp S s1).source) := HM.out.cell 1
            have m2 : wr.cell? ⟨M, 2, none⟩ = some (.int .i64 (n.exp S s1).sink) := HM.out.cell 2
            have m3 : wr.cell? ⟨M, 3, none⟩ = some (.slice (n.exp S s1).sl.addr (n.exp S s1).sl.len (n.exp S s1).sl.cap) := HM.out.cell 3
            have m4 : wr.cell? ⟨M, 4, none⟩ = some (.int .i64 (n.exp S s1).hold) := HM.out.cell 4
            go_wp2_with fail
            (with_reducible refine Calls.mono HZX.out ?_)
            clear HZX m0 m1 m2 m3 m4 x4
            rintro r W7 ⟨rfl, hs1⟩
            go_wp2_with fail
            go_ret
            exact ⟨rfl, HS.out.trans' hs1⟩
          have d1 : decide (n.hold < 20 * capTot n.arcs) = false := decide_eq_false hho
          have HHO : Hid (20 * capTot n.arcs ≤ n.hold) := by show _ ≤ _; omega
          obtain ⟨T, rfl⟩ : ∃ T, S = T + 1 := ⟨S - 1, by omega⟩
          have hwS : IntKind.i64.wrap (((T + 1 : Nat) : Int) - 1) = (T : Int) := by rw [IntWalk.i64_in _ (by omega)]; omega
          have HFT := Lib.hid (fits_less HOK.out HF.out)
          clear hho HZX x4
          have x0 : wr.cell? ⟨N, 0, none⟩ = some (.int .i64 n.nodes) := HN.out.cell 0
          have x1 : wr.cell? ⟨N, 1, none⟩ = some (.int .i64 n.source) := HN.out.cell 1
          have x2 : wr.cell? ⟨N, 2, none⟩ = some (.int .i64 n.sink) := HN.out.cell 2
          have x3 : wr.cell? ⟨N, 3, none⟩ = some (.slice n.sl.addr n.sl.len n.sl.cap) := HN.out.cell 3
          have x4 : wr.cell? ⟨N, 4, none⟩ = some (.int .i64 n.hold) := HN.out.cell 4
          have HZ := Lib.hid (HZO.out wr T HV.out (by omega) HS.out)
          go_wp2_with fail
          (with_reducible refine Calls.mono HZ.out ?_)
          clear HZ x0 x1 x2 x3 x4
          rintro r W8 ⟨⟨_, s3, rfl, hi3⟩ | ⟨hf, _⟩, hs1⟩
          · have HI3 := Lib.hid hi3
            clear hi3
            replace HM := Lib.hid (HM.out.same hs1 (fun x => x))
            replace HI1 := Lib.hid (HI1.out.keep hs1)
            replace HS := Lib.hid (HS.out.trans' hs1)
            clear hs1
            have HG0 := Lib.hid (row_stored (Blk.new W8 24 #[.int .i64 0, .int .i64 0, .int .i64 0, .slice none 0 0, .int .i64 0]) #[.int .i64 (n.exp T s3).nodes, .int .i64 (n.exp T s3).source, .int .i64 (n.exp T s3).sink, .slice (n.exp T s3).sl.addr (n.exp T s3).sl.len (n.exp T s3).sl.cap, .int .i64 (n.exp T s3).hold])
            go_upto_region 18 with (refine wpList_store_row rfl 24 _ _ rfl W8.heap.size #[.int .i64 (n.exp T s3).nodes, .int .i64 (n.exp T s3).source, .int .i64 (n.exp T s3).sink, .slice (n.exp T s3).sl.addr (n.exp T s3).sl.len (n.exp T s3).sl.cap, .int .i64 (n.exp T s3).hold] rfl rfl 24 _ (Blk.new W8 24 #[.int .i64 0, .int .i64 0, .int .i64 0, .slice none 0 0, .int .i64 0]) (by kernel_rfl) rfl (by kernel_rfl) ?_)
            have hs0 : Same noB W8 ((W8.alloc (.cells #[.int .i64 0, .int .i64 0, .int .i64 0, .slice none 0 0, .int .i64 0] 24)).setRow W8.heap.size #[.int .i64 (n.exp T s3).nodes, .int .i64 (n.exp T s3).source, .int .i64 (n.exp T s3).sink, .slice (n.exp T s3).sl.addr (n.exp T s3).sl.len (n.exp T s3).sl.cap, .int .i64 (n.exp T s3).hold]) := ((Same.refl noB W8).alloc _).trans HG0.out.2 (fun b hb hx => by have h3 : b = W8.heap.size := hx; omega)
            refine wp_abs (fun W => Hid (Blk W M 24 #[.int .i64 (n.exp (T + 1) s1).nodes, .int .i64 (n.exp (T + 1) s1).source, .int .i64 (n.exp (T + 1) s1).sink, .slice (n.exp (T + 1) s1).sl.addr (n.exp (T + 1) s1).sl.len (n.exp (T + 1) s1).sl.cap, .int .i64 (n.exp (T + 1) s1).hold]) ∧ Hid (NetIs W (n.exp (T + 1) s1)) ∧ Hid (NetIs W (n.exp T s3)) ∧ Hid (Same noB w W) ∧ Hid (Blk W W8.heap.size 24 #[.int .i64 (n.exp T s3).nodes, .int .i64 (n.exp T s3).source, .int .i64 (n.exp T s3).sink, .slice (n.exp T s3).sl.addr (n.exp T s3).sl.len (n.exp T s3).sl.cap, .int .i64 (n.exp T s3).hold])) ⟨HM.out.same hs0 (fun x => x), HI1.out.keep hs0, HI3.out.keep hs0, HS.out.trans' hs0, HG0.out.1⟩ ?_
            clear hs0 HG0 HM HI1 HI3 HS
            rintro W9 ⟨HM, HI1, HI3, HS, HL⟩
            obtain ⟨L, hL⟩ : ∃ L, W8.heap.size = L := ⟨_, rfl⟩
            rw [hL] at HL ⊢
            clear hL
            have l0 : W9.cell? ⟨L, 0, none⟩ = some (.int .i64 (n.exp T s3).nodes) := HL.out.cell 0
            have l1 : W9.cell? ⟨L, 1, none⟩ = some (.int .i64 (n.exp T s3).source) := HL.out.cell 1
            have l2 : W9.cell? ⟨L, 2, none⟩ = some (.int .i64 (n.exp T s3).sink) := HL.out.cell 2
            have l3 : W9.cell? ⟨L, 3, none⟩ = some (.slice (n.exp T s3).sl.addr (n.exp T s3).sl.len (n.exp T s3).sl.cap) := HL.out.cell 3
            have l4 : W9.cell? ⟨L, 4, none⟩ = some (.int .i64 (n.exp T s3).hold) := HL.out.cell 4
            have HZ := Lib.hid (HZM.out W9 (n.exp T s3) HI3.out (exp_valid HOK.out HFT.out s3))
            go_wp2_with fail
            (with_reducible refine Calls.mono HZ.out ?_)
            clear HZ l0 l1 l2 l3 l4 HI3 HL
            rintro r W10 ⟨fa, rfl, _, hma, _, hs1⟩
            have HMA := Lib.hid hma
            clear hma
            replace HM := Lib.hid (HM.out.same hs1 (fun x => x))
            replace HI1 := Lib.hid (HI1.out.keep hs1)
            replace HS := Lib.hid (HS.out.trans' hs1)
            clear hs1
            unfold FlowV.val
            have HG0 := Lib.hid (row_stored (Blk.new W10 29 #[.int .i64 0, .slice none 0 0, .slice none 0 0]) #[.int .i64 fa.value, .slice fa.sa.addr fa.sa.len fa.sa.cap, .slice fa.ss.addr fa.ss.len fa.ss.cap])
            go_upto_region 19 with (refine wpList_store_row rfl 29 _ _ rfl W10.heap.size #[.int .i64 fa.value, .slice fa.sa.addr fa.sa.len fa.sa.cap, .slice fa.ss.addr fa.ss.len fa.ss.cap] rfl rfl 29 _ (Blk.new W10 29 #[.int .i64 0, .slice none 0 0, .slice none 0 0]) (by kernel_rfl) rfl (by kernel_rfl) ?_)
            have hs0 : Same noB W10 ((W10.alloc (.cells #[.int .i64 0, .slice none 0 0, .slice none 0 0] 29)).setRow W10.heap.size #[.int .i64 fa.value, .slice fa.sa.addr fa.sa.len fa.sa.cap, .slice fa.ss.addr fa.ss.len fa.ss.cap]) := ((Same.refl noB W10).alloc _).trans HG0.out.2 (fun b hb hx => by have h3 : b = W10.heap.size := hx; omega)
            refine wp_abs (fun W => Hid (Blk W M 24 #[.int .i64 (n.exp (T + 1) s1).nodes, .int .i64 (n.exp (T + 1) s1).source, .int .i64 (n.exp (T + 1) s1).sink, .slice (n.exp (T + 1) s1).sl.addr (n.exp (T + 1) s1).sl.len (n.exp (T + 1) s1).sl.cap, .int .i64 (n.exp (T + 1) s1).hold]) ∧ Hid (NetIs W (n.exp (T + 1) s1)) ∧ Hid (Same noB w W) ∧ Hid (Blk W W10.heap.size 29 #[.int .i64 fa.value, .slice fa.sa.addr fa.sa.len fa.sa.cap, .slice fa.ss.addr fa.ss.len fa.ss.cap])) ⟨HM.out.same hs0 (fun x => x), HI1.out.keep hs0, HS.out.trans' hs0, HG0.out.1⟩ ?_
            clear hs0 HG0 HM HI1 HS
            rintro W11 ⟨HM, HI1, HS, HA⟩
            obtain ⟨A, hA⟩ : ∃ A, W10.heap.size = A := ⟨_, rfl⟩
            rw [hA] at HA ⊢
            clear hA
            have m0 : W11.cell? ⟨M, 0, none⟩ = some (.int .i64 (n.exp (T + 1) s1).nodes) := HM.out.cell 0
            have m1 : W11.cell? ⟨M, 1, none⟩ = some (.int .i64 (n.exp (T + 1) s1).source) := HM.out.cell 1
            have m2 : W11.cell? ⟨M, 2, none⟩ = some (.int .i64 (n.exp (T + 1) s1).sink) := HM.out.cell 2
            have m3 : W11.cell? ⟨M, 3, none⟩ = some (.slice (n.exp (T + 1) s1).sl.addr (n.exp (T + 1) s1).sl.len (n.exp (T + 1) s1).sl.cap) := HM.out.cell 3
            have m4 : W11.cell? ⟨M, 4, none⟩ = some (.int .i64 (n.exp (T + 1) s1).hold) := HM.out.cell 4
            have HZ := Lib.hid (HZM.out W11 (n.exp (T + 1) s1) HI1.out (exp_valid HOK.out HF.out s1))
            go_wp2_with fail
            (with_reducible refine Calls.mono HZ.out ?_)
            clear HZ m0 m1 m2 m3 m4 HI1
            rintro r W12 ⟨fb, rfl, _, hmb, _, hs1⟩
            have HMB := Lib.hid hmb
            clear hmb
            replace HA := Lib.hid (HA.out.same hs1 (fun x => x))
            replace HS := Lib.hid (HS.out.trans' hs1)
            clear hs1
            unfold FlowV.val
            have HG0 := Lib.hid (row_stored (Blk.new W12 29 #[.int .i64 0, .slice none 0 0, .slice none 0 0]) #[.int .i64 fb.value, .slice fb.sa.addr fb.sa.len fb.sa.cap, .slice fb.ss.addr fb.ss.len fb.ss.cap])
            go_upto_region 20 with (refine wpList_store_row rfl 29 _ _ rfl W12.heap.size #[.int .i64 fb.value, .slice fb.sa.addr fb.sa.len fb.sa.cap, .slice fb.ss.addr fb.ss.len fb.ss.cap] rfl rfl 29 _ (Blk.new W12 29 #[.int .i64 0, .slice none 0 0, .slice none 0 0]) (by kernel_rfl) rfl (by kernel_rfl) ?_)
            have hs0 : Same noB W12 ((W12.alloc (.cells #[.int .i64 0, .slice none 0 0, .slice none 0 0] 29)).setRow W12.heap.size #[.int .i64 fb.value, .slice fb.sa.addr fb.sa.len fb.sa.cap, .slice fb.ss.addr fb.ss.len fb.ss.cap]) := ((Same.refl noB W12).alloc _).trans HG0.out.2 (fun b hb hx => by have h3 : b = W12.heap.size := hx; omega)
            refine wp_abs (fun W => Hid (Blk W A 29 #[.int .i64 fa.value, .slice fa.sa.addr fa.sa.len fa.sa.cap, .slice fa.ss.addr fa.ss.len fa.ss.cap]) ∧ Hid (Same noB w W) ∧ Hid (Blk W W12.heap.size 29 #[.int .i64 fb.value, .slice fb.sa.addr fb.sa.len fb.sa.cap, .slice fb.ss.addr fb.ss.len fb.ss.cap])) ⟨HA.out.same hs0 (fun x => x), HS.out.trans' hs0, HG0.out.1⟩ ?_
            clear hs0 HG0 HA HS
            rintro W13 ⟨HA, HS, HC⟩
            obtain ⟨C, hC⟩ : ∃ C, W12.heap.size = C := ⟨_, rfl⟩
            rw [hC] at HC ⊢
            clear hC
            have a0 : W13.cell? ⟨A, 0, none⟩ = some (.int .i64 fa.value) := HA.out.cell 0
            have a1 : W13.cell? ⟨A, 1, none⟩ = some (.slice fa.sa.addr fa.sa.len fa.sa.cap) := HA.out.cell 1
            have a2 : W13.cell? ⟨A, 2, none⟩ = some (.slice fa.ss.addr fa.ss.len fa.ss.cap) := HA.out.cell 2
            have c0 : W13.cell? ⟨C, 0, none⟩ = some (.int .i64 fb.value) := HC.out.cell 0
            have c1 : W13.cell? ⟨C, 1, none⟩ = some (.slice fb.sa.addr fb.sa.len fb.sa.cap) := HC.out.cell 1
            have c2 : W13.cell? ⟨C, 2, none⟩ = some (.slice fb.ss.addr fb.ss.len fb.ss.cap) := HC.out.cell 2
            have hle : decide (fa.value ≤ fb.value) = true := decide_eq_true (exp_grows HOK.out (S := T) (by omega) HF.out HHO.out HMA.out HMB.out)
            go_wp2_with fail
            go_ret
            exact ⟨rfl, HS.out⟩
          · exact absurd HFT.out hf
    · exact absurd HF.out hf
  · have HNF := Lib.hid hf
    clear hf
    replace HN := Lib.hid (HN.out.same hs1 (fun x => x))
    replace HS := Lib.hid (HS.out.trans' hs1)
    clear hs1
    have HG0 := Lib.hid (row_stored (Blk.new W2 24 #[.int .i64 0, .int .i64 0, .int .i64 0, .slice none 0 0, .int .i64 0]) #[.int .i64 0, .int .i64 0, .int .i64 0, .slice none 0 0, .int .i64 0])
    go_upto_region 4 with (refine wpList_store_row rfl 24 _ _ rfl W2.heap.size #[.int .i64 0, .int .i64 0, .int .i64 0, .slice none 0 0, .int .i64 0] rfl rfl 24 _ (Blk.new W2 24 #[.int .i64 0, .int .i64 0, .int .i64 0, .slice none 0 0, .int .i64 0]) (by kernel_rfl) rfl (by kernel_rfl) ?_)
    have hs0 : Same noB W2 ((W2.alloc (.cells #[.int .i64 0, .int .i64 0, .int .i64 0, .slice none 0 0, .int .i64 0] 24)).setRow W2.heap.size #[.int .i64 0, .int .i64 0, .int .i64 0, .slice none 0 0, .int .i64 0]) := ((Same.refl noB W2).alloc _).trans HG0.out.2 (fun b hb hx => by have h3 : b = W2.heap.size := hx; omega)
    refine wp_abs (fun W => Hid (Blk W N 24 #[.int .i64 n.nodes, .int .i64 n.source, .int .i64 n.sink, .slice n.sl.addr n.sl.len n.sl.cap, .int .i64 n.hold]) ∧ Hid (Same noB w W) ∧ Hid (Blk W W2.heap.size 24 #[.int .i64 0, .int .i64 0, .int .i64 0, .slice none 0 0, .int .i64 0])) ⟨HN.out.same hs0 (fun x => x), HS.out.trans' hs0, HG0.out.1⟩ ?_
    clear hs0 HG0 HN HS
    rintro W3 ⟨HN, HS, HM⟩
    obtain ⟨M, hM⟩ : ∃ M, W2.heap.size = M := ⟨_, rfl⟩
    rw [hM] at HM ⊢
    clear hM
    have x0 : W3.cell? ⟨N, 0, none⟩ = some (.int .i64 n.nodes) := HN.out.cell 0
    have x1 : W3.cell? ⟨N, 1, none⟩ = some (.int .i64 n.source) := HN.out.cell 1
    have x2 : W3.cell? ⟨N, 2, none⟩ = some (.int .i64 n.sink) := HN.out.cell 2
    have x3 : W3.cell? ⟨N, 3, none⟩ = some (.slice n.sl.addr n.sl.len n.sl.cap) := HN.out.cell 3
    have x4 : W3.cell? ⟨N, 4, none⟩ = some (.int .i64 n.hold) := HN.out.cell 4
    have HZ := Lib.hid (HZP.out W3 S HV.out hS HS.out)
    go_wp2_with fail
    (with_reducible refine Calls.mono HZ.out ?_)
    clear HZ x0 x1 x2 x3 x4
    rintro r W4 ⟨⟨hf, _⟩ | ⟨_, rfl⟩, hs1⟩
    · exact absurd hf HNF.out
    · skip
      replace HN := Lib.hid (HN.out.same hs1 (fun x => x))
      replace HM := Lib.hid (HM.out.same hs1 (fun x => x))
      replace HS := Lib.hid (HS.out.trans' hs1)
      clear hs1
      have HG0 := Lib.hid (row_stored (Blk.new W4 24 #[.int .i64 0, .int .i64 0, .int .i64 0, .slice none 0 0, .int .i64 0]) #[.int .i64 0, .int .i64 0, .int .i64 0, .slice none 0 0, .int .i64 0])
      go_upto_region 5 with (refine wpList_store_row rfl 24 _ _ rfl W4.heap.size #[.int .i64 0, .int .i64 0, .int .i64 0, .slice none 0 0, .int .i64 0] rfl rfl 24 _ (Blk.new W4 24 #[.int .i64 0, .int .i64 0, .int .i64 0, .slice none 0 0, .int .i64 0]) (by kernel_rfl) rfl (by kernel_rfl) ?_)
      have hs0 : Same noB W4 ((W4.alloc (.cells #[.int .i64 0, .int .i64 0, .int .i64 0, .slice none 0 0, .int .i64 0] 24)).setRow W4.heap.size #[.int .i64 0, .int .i64 0, .int .i64 0, .slice none 0 0, .int .i64 0]) := ((Same.refl noB W4).alloc _).trans HG0.out.2 (fun b hb hx => by have h3 : b = W4.heap.size := hx; omega)
      refine wp_abs (fun W => Hid (Blk W N 24 #[.int .i64 n.nodes, .int .i64 n.source, .int .i64 n.sink, .slice n.sl.addr n.sl.len n.sl.cap, .int .i64 n.hold]) ∧ Hid (Blk W M 24 #[.int .i64 0, .int .i64 0, .int .i64 0, .slice none 0 0, .int .i64 0]) ∧ Hid (Same noB w W) ∧ Hid (Blk W W4.heap.size 24 #[.int .i64 0, .int .i64 0, .int .i64 0, .slice none 0 0, .int .i64 0])) ⟨HN.out.same hs0 (fun x => x), HM.out.same hs0 (fun x => x), HS.out.trans' hs0, HG0.out.1⟩ ?_
      clear hs0 HG0 HN HM HS
      rintro W5 ⟨HN, HM, HS, HB⟩
      obtain ⟨B, hB⟩ : ∃ B, W4.heap.size = B := ⟨_, rfl⟩
      rw [hB] at HB ⊢
      clear hB
      have m0 : W5.cell? ⟨M, 0, none⟩ = some (.int .i64 0) := HM.out.cell 0
      have m1 : W5.cell? ⟨M, 1, none⟩ = some (.int .i64 0) := HM.out.cell 1
      have m2 : W5.cell? ⟨M, 2, none⟩ = some (.int .i64 0) := HM.out.cell 2
      have m3 : W5.cell? ⟨M, 3, none⟩ = some (.slice none 0 0) := HM.out.cell 3
      have m4 : W5.cell? ⟨M, 4, none⟩ = some (.int .i64 0) := HM.out.cell 4
      have b0 : W5.cell? ⟨B, 0, none⟩ = some (.int .i64 0) := HB.out.cell 0
      have b1 : W5.cell? ⟨B, 1, none⟩ = some (.int .i64 0) := HB.out.cell 1
      have b2 : W5.cell? ⟨B, 2, none⟩ = some (.int .i64 0) := HB.out.cell 2
      have b3 : W5.cell? ⟨B, 3, none⟩ = some (.slice none 0 0) := HB.out.cell 3
      have b4 : W5.cell? ⟨B, 4, none⟩ = some (.int .i64 0) := HB.out.cell 4
      have HZ := Lib.hid (HZE.out W5)
      go_wp2_with fail
      (with_reducible refine Calls.mono HZ.out ?_)
      clear HZ m0 m1 m2 m3 m4 b0 b1 b2 b3 b4
      rintro r W6 ⟨rfl, hs1⟩
      replace HS := Lib.hid (HS.out.trans' hs1)
      clear hs1
      go_wp2_with fail
      go_ret
      exact ⟨rfl, HS.out⟩
end Go.Proofs.Ytpalacfgpcpppaa
