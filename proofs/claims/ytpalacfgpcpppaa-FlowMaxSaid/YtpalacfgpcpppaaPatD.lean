/- Layer 10: Paths of the program, where it refuses. -/
import Derived.Test.YtpalacfgpcpppaaPatC
namespace Go.Proofs.Ytpalacfgpcpppaa
open Go Go.RowKit Go.Maps
set_option maxRecDepth 100000

set_option maxHeartbeats 16000000 in
theorem paths_no2 {w : World} {n : NetV} {f : FlowV} (h : NetIs w n) (hv : n.validB = true) (hf : FlowIs w f) (hno : ¬ (IsFl n f.am f.value ∧ 0 ≤ f.value)) :
    Calls Try.prog 19 #[n.val, f.val] w fun r w' => r = .returned (.tuple #[.slice none 0 0, .slice none 0 0, .int .i64 13]) ∧ Same noB w w' := by
  have HB := Lib.hid h
  have hok := NetV.validB_ok hv
  have HOK := Lib.hid hok
  have hcaps := h.rd.caps
  have HFI := Lib.hid hf
  have hZ := fun (W : World) (hs : Same noB w W) => valid_any (h.keep hs)
  have hZF := fun (W : World) (hs : Same noB w W) => flows_any (h.keep hs) hv (hf.keep hs)
  have HNO := Lib.hid hno
  rw [hv] at hZ
  unfold NetV.val at hZ hZF ⊢
  unfold FlowV.val at hZF ⊢
  obtain ⟨A, hA⟩ : ∃ A, n.sl.addr = A := ⟨_, rfl⟩
  obtain ⟨m, hm⟩ : ∃ m, n.sl.len = m := ⟨_, rfl⟩
  obtain ⟨c, hcc⟩ : ∃ c, n.sl.cap = c := ⟨_, rfl⟩
  have HR : Hid (Rd w noB 4 (.slice A m c) m (acells n.arcs)) := by show Rd _ _ _ _ _ _; rw [← hA, ← hm, ← hcc]; exact HB.out.rd
  have hL : m = n.arcs.length := by rw [← hm]; exact h.len
  have HAL := Lib.hid (And.intro hA (And.intro hm hcc))
  rw [hA, hm, hcc] at hZ hZF ⊢
  rw [hm, hcc] at hcaps
  have hmb : m ≤ 4000 := by have := hok.len; omega
  have HL := Lib.hid hL
  have HZV := Lib.hid hZ
  have HZF := Lib.hid hZF
  clear h hv hf hok hno hZ hZF hA hm hcc hL
  go_enter Try.func19, Try.ntmps19
  go_upto_region 1 with (fail)
  have HN0 := Lib.hid (Blk.new w 24 #[.int .i64 n.nodes, .int .i64 n.source, .int .i64 n.sink, .slice A m c, .int .i64 n.hold])
  have HF0 := Lib.hid (Blk.new (w.alloc (.cells #[.int .i64 n.nodes, .int .i64 n.source, .int .i64 n.sink, .slice A m c, .int .i64 n.hold] 24)) 29 #[.int .i64 f.value, .slice f.sa.addr f.sa.len f.sa.cap, .slice f.ss.addr f.ss.len f.ss.cap])
  rw [World.size_alloc] at HF0
  refine wp_abs (fun W => Hid (Blk W w.heap.size 24 #[.int .i64 n.nodes, .int .i64 n.source, .int .i64 n.sink, .slice A m c, .int .i64 n.hold]) ∧ Hid (Blk W (w.heap.size + 1) 29 #[.int .i64 f.value, .slice f.sa.addr f.sa.len f.sa.cap, .slice f.ss.addr f.ss.len f.ss.cap]) ∧ Hid (Same noB w W)) ⟨HN0.out.alloc _, HF0.out, ((Same.refl _ _).alloc _).alloc _⟩ ?_
  clear HN0 HF0
  rintro W0 ⟨HN, HF, HS⟩
  obtain ⟨N, hN⟩ : ∃ N, w.heap.size = N := ⟨_, rfl⟩
  obtain ⟨F, hF⟩ : ∃ F, N + 1 = F := ⟨_, rfl⟩
  rw [hN] at HN HF ⊢
  rw [hF] at HF ⊢
  clear hN hF
  have x0 : W0.cell? ⟨N, 0, none⟩ = some (.int .i64 n.nodes) := HN.out.cell 0
  have x1 : W0.cell? ⟨N, 1, none⟩ = some (.int .i64 n.source) := HN.out.cell 1
  have x2 : W0.cell? ⟨N, 2, none⟩ = some (.int .i64 n.sink) := HN.out.cell 2
  have x3 : W0.cell? ⟨N, 3, none⟩ = some (.slice A m c) := HN.out.cell 3
  have x4 : W0.cell? ⟨N, 4, none⟩ = some (.int .i64 n.hold) := HN.out.cell 4
  go_wp2_with fail
  (with_reducible refine Calls.mono (HZV.out _ HS.out) ?_)
  clear HZV x0 x1 x2 x3 x4
  rintro r W1 ⟨rfl, hs1⟩
  replace HN := Lib.hid (HN.out.same hs1 (fun x => x))
  replace HF := Lib.hid (HF.out.same hs1 (fun x => x))
  replace HS := Lib.hid (HS.out.trans' hs1)
  clear hs1
  have x0 : W1.cell? ⟨N, 0, none⟩ = some (.int .i64 n.nodes) := HN.out.cell 0
  have x1 : W1.cell? ⟨N, 1, none⟩ = some (.int .i64 n.source) := HN.out.cell 1
  have x2 : W1.cell? ⟨N, 2, none⟩ = some (.int .i64 n.sink) := HN.out.cell 2
  have x3 : W1.cell? ⟨N, 3, none⟩ = some (.slice A m c) := HN.out.cell 3
  have x4 : W1.cell? ⟨N, 4, none⟩ = some (.int .i64 n.hold) := HN.out.cell 4
  have f0 : W1.cell? ⟨F, 0, none⟩ = some (.int .i64 f.value) := HF.out.cell 0
  have f1 : W1.cell? ⟨F, 1, none⟩ = some (.slice f.sa.addr f.sa.len f.sa.cap) := HF.out.cell 1
  have f2 : W1.cell? ⟨F, 2, none⟩ = some (.slice f.ss.addr f.ss.len f.ss.cap) := HF.out.cell 2
  go_wp2_with fail
  (with_reducible refine Calls.mono (HZF.out _ HS.out) ?_)
  clear HZF x0 x1 x2 x3 x4 f0 f1 f2
  rintro r W2 ⟨bb, rfl, hbb, hs1⟩
  replace HN := Lib.hid (HN.out.same hs1 (fun x => x))
  replace HF := Lib.hid (HF.out.same hs1 (fun x => x))
  replace HS := Lib.hid (HS.out.trans' hs1)
  clear hs1
  cases bb with
  | false =>
    clear hbb
    go_wp2_with fail
    refine bodyPost_ret (results_3 rfl _ _ _) rfl ?_
    exact ⟨rfl, HS.out⟩
  | true =>
    have hval : f.value < 0 := by
      have h1 := hbb.1 rfl
      have h2 := HNO.out
      refine Classical.byContradiction fun h3 => h2 ⟨h1, by omega⟩
    have f0 : W2.cell? ⟨F, 0, none⟩ = some (.int .i64 f.value) := HF.out.cell 0
    clear hbb
    go_wp2_with fail
    refine bodyPost_ret (results_3 rfl _ _ _) rfl ?_
    exact ⟨rfl, HS.out⟩
set_option maxHeartbeats 16000000 in
theorem paths_no1 {w : World} {n : NetV} {f : FlowV} (h : NetIs w n) (hv : n.validB = false) :
    Calls Try.prog 19 #[n.val, f.val] w fun r w' => r = .returned (.tuple #[.slice none 0 0, .slice none 0 0, .int .i64 1]) ∧ Same noB w w' := by
  have hZ := fun (W : World) (hs : Same noB w W) => valid_any (h.keep hs)
  rw [hv] at hZ
  unfold NetV.val at hZ ⊢
  unfold FlowV.val
  have HZV := Lib.hid hZ
  clear h hv hZ
  go_enter Try.func19, Try.ntmps19
  go_upto_region 1 with (fail)
  have HN0 := Lib.hid (Blk.new w 24 #[.int .i64 n.nodes, .int .i64 n.source, .int .i64 n.sink, .slice n.sl.addr n.sl.len n.sl.cap, .int .i64 n.hold])
  have HF0 := Lib.hid (Blk.new (w.alloc (.cells #[.int .i64 n.nodes, .int .i64 n.source, .int .i64 n.sink, .slice n.sl.addr n.sl.len n.sl.cap, .int .i64 n.hold] 24)) 29 #[.int .i64 f.value, .slice f.sa.addr f.sa.len f.sa.cap, .slice f.ss.addr f.ss.len f.ss.cap])
  rw [World.size_alloc] at HF0
  refine wp_abs (fun W => Hid (Blk W w.heap.size 24 #[.int .i64 n.nodes, .int .i64 n.source, .int .i64 n.sink, .slice n.sl.addr n.sl.len n.sl.cap, .int .i64 n.hold]) ∧ Hid (Blk W (w.heap.size + 1) 29 #[.int .i64 f.value, .slice f.sa.addr f.sa.len f.sa.cap, .slice f.ss.addr f.ss.len f.ss.cap]) ∧ Hid (Same noB w W)) ⟨HN0.out.alloc _, HF0.out, ((Same.refl _ _).alloc _).alloc _⟩ ?_
  clear HN0 HF0
  rintro W0 ⟨HN, HF, HS⟩
  obtain ⟨N, hN⟩ : ∃ N, w.heap.size = N := ⟨_, rfl⟩
  obtain ⟨F, hF⟩ : ∃ F, N + 1 = F := ⟨_, rfl⟩
  rw [hN] at HN HF ⊢
  rw [hF] at HF ⊢
  clear hN hF
  have x0 : W0.cell? ⟨N, 0, none⟩ = some (.int .i64 n.nodes) := HN.out.cell 0
  have x1 : W0.cell? ⟨N, 1, none⟩ = some (.int .i64 n.source) := HN.out.cell 1
  have x2 : W0.cell? ⟨N, 2, none⟩ = some (.int .i64 n.sink) := HN.out.cell 2
  have x3 : W0.cell? ⟨N, 3, none⟩ = some (.slice n.sl.addr n.sl.len n.sl.cap) := HN.out.cell 3
  have x4 : W0.cell? ⟨N, 4, none⟩ = some (.int .i64 n.hold) := HN.out.cell 4
  go_wp2_with fail
  (with_reducible refine Calls.mono (HZV.out _ HS.out) ?_)
  clear HZV x0 x1 x2 x3 x4
  rintro r W1 ⟨rfl, hs1⟩
  replace HS := Lib.hid (HS.out.trans' hs1)
  clear hs1
  go_wp2_with fail
  refine bodyPost_ret (results_3 rfl _ _ _) rfl ?_
  exact ⟨rfl, HS.out⟩
end Go.Proofs.Ytpalacfgpcpppaa
