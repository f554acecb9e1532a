/- Layer 10: the law FlowPaths, walked. (printed by genLawPth.py) -/
import Derived.Test.YtpalacfgpcpppaaFloEx
import Derived.Test.YtpalacfgpcpppaaFloY
import Derived.Test.YtpalacfgpcpppaaBetw
import Derived.Test.YtpalacfgpcpppaaSimp
import Derived.Test.YtpalacfgpcpppaaPthM
import Derived.BigRegion
namespace Go.Proofs.Ytpalacfgpcpppaa
open Go Go.RowKit
set_option maxRecDepth 100000

/-- The paths, their sizes and the count as they lie. -/
structure PlS (w W6 W : World) (M : Nat) (c : Int → Int → Int) : Prop where
  cnt : CntIs W M c
  since6 : Same noB W6 W
  lb : W6.heap.size ≤ M
set_option maxHeartbeats 16000000 in
theorem lawPaths_any {w : World} {n : NetV} {f : FlowV} (h : NetIs w n) (hf : FlowIs w f) :
    Calls Try.prog 7 #[n.val, f.val] w fun r w' => r = .returned (.bool true) ∧ Same noB w w' := by
  have hcaps := h.rd.caps
  have hcaf := hf.a.2.caps
  have hZR := fun (W : World) (hs : Same noB w W) => rvalid_any (h.keep hs)
  have hZI := fun (W : World) (hs : Same noB w W) (hv : n.validB = true) => isflow_any (h.keep hs) hv (hf.keep hs)
  have hZ1 := fun (W : World) (hs : Same noB w W) (hv : n.validB = false) => paths_no1 (f := f) (h.keep hs) hv
  have hZ2 := fun (W : World) (hs : Same noB w W) (hv : n.validB = true) (hno : ¬ (IsFl n f.am f.value ∧ 0 ≤ f.value)) => paths_no2 (h.keep hs) hv (hf.keep hs) hno
  have hZP := fun (W : World) (hs : Same noB w W) (hv : n.validB = true) (hfl : IsFl n f.am f.value) (h0 : 0 ≤ f.value) => paths_ok (h.keep hs) hv (hf.keep hs) hfl h0
  have hZB := fun (W : World) (hs : Same noB w W) (hl : f.am.length = n.arcs.length) (hn : n.arcs.length ≤ 4000) (hsm : Small f.am) (u v : Int) => btw_any (h.keep hs) (hf.a.keep hs) hl hn hsm u v
  have hZS := fun (W : World) (A : Option Addr) (m c : Nat) (p : List Int) (hsp : SimpleP n p) (hl : p.length = m) (hr : Rd W noB 1 (.slice A m c) m (icells p)) => simple_yes (w := W) hsp hl hr
  have hNL := h.len
  unfold NetV.val at hZR hZI hZ1 hZ2 hZP hZB hZS ⊢
  unfold FlowV.val at hZI hZ1 hZ2 hZP ⊢
  have HNL := Lib.hid hNL
  have HZR := Lib.hid hZR
  have HZI := Lib.hid hZI
  have HZ1 := Lib.hid hZ1
  have HZ2 := Lib.hid hZ2
  have HZP := Lib.hid hZP
  have HZB := Lib.hid hZB
  have HZS := Lib.hid hZS
  clear h hf hZR hZI hZ1 hZ2 hZP hZB hZS hNL
  go_enter Try.func7, Try.ntmps7
  go_upto_region 1 with (fail)
  have HN0 := Lib.hid (Blk.new w 24 #[.int .i64 n.nodes, .int .i64 n.source, .int .i64 n.sink, .slice n.sl.addr n.sl.len n.sl.cap, .int .i64 n.hold])
  have HF0 := Lib.hid (Blk.new (w.alloc (.cells #[.int .i64 n.nodes, .int .i64 n.source, .int .i64 n.sink, .slice n.sl.addr n.sl.len n.sl.cap, .int .i64 n.hold] 24)) 29 #[.int .i64 f.value, .slice f.sa.addr f.sa.len f.sa.cap, .slice f.ss.addr f.ss.len f.ss.cap])
  rw [World.size_alloc] at HF0
  refine wp_abs (fun W => Hid (Blk W w.heap.size 24 #[.int .i64 n.nodes, .int .i64 n.source, .int .i64 n.sink, .slice n.sl.addr n.sl.len n.sl.cap, .int .i64 n.hold]) ∧ Hid (Blk W (w.heap.size + 1) 29 #[.int .i64 f.value, .slice f.sa.addr f.sa.len f.sa.cap, .slice f.ss.addr f.ss.len f.ss.cap]) ∧ Hid (Same noB w W)) ⟨HN0.out.alloc _, HF0.out, ((Same.refl _ _).alloc _).alloc _⟩ ?_
  clear HN0 HF0
  rintro W0 ⟨HN, HF, HS⟩
  obtain ⟨N, hN⟩ : ∃ N, w.heap.size = N := ⟨_, rfl⟩
  obtain ⟨F, hF⟩ : ∃ F, N + 1 = F := ⟨_, rfl⟩
  rw [hN] at HN HF ⊢
  rw [hF] at HF ⊢
  clear hN hF
  go_wp2_with fail
  (with_reducible refine Calls.mono (awake_any _) ?_)
  rintro r W1 ⟨rfl, hs1⟩
  replace HN := Lib.hid (HN.out.same hs1 (fun x => x))
  replace HF := Lib.hid (HF.out.same hs1 (fun x => x))
  replace HS := Lib.hid (HS.out.trans' hs1)
  clear hs1
  have x0 : W1.cell? ⟨N, 0, none⟩ = some (.int .i64 n.nodes) := HN.out.cell 0
  have x1 : W1.cell? ⟨N, 1, none⟩ = some (.int .i64 n.source) := HN.out.cell 1
  have x2 : W1.cell? ⟨N, 2, none⟩ = some (.int .i64 n.sink) := HN.out.cell 2
  have x3 : W1.cell? ⟨N, 3, none⟩ = some (.slice n.sl.addr n.sl.len n.sl.cap) := HN.out.cell 3
  have x4 : W1.cell? ⟨N, 4, none⟩ = some (.int .i64 n.hold) := HN.out.cell 4
  have f0 : W1.cell? ⟨F, 0, none⟩ = some (.int .i64 f.value) := HF.out.cell 0
  have f1 : W1.cell? ⟨F, 1, none⟩ = some (.slice f.sa.addr f.sa.len f.sa.cap) := HF.out.cell 1
  have f2 : W1.cell? ⟨F, 2, none⟩ = some (.slice f.ss.addr f.ss.len f.ss.cap) := HF.out.cell 2
  by_cases h1 : (30 : Int) < (n.sl.len : Int)
  · clear x0 x1 x2 x4 f0 f1 f2
    go_wp2_with fail
    (with_reducible refine Calls.mono (awake_any _) ?_)
    rintro r W9 ⟨rfl, hs9⟩
    go_wp2_with fail
    go_ret
    exact ⟨rfl, HS.out.trans' hs9⟩
  by_cases h2 : 12 < n.nodes
  · clear x1 x2 x4 f0 f1 f2
    go_wp2_with fail
    (with_reducible refine Calls.mono (awake_any _) ?_)
    rintro r W9 ⟨rfl, hs9⟩
    go_wp2_with fail
    go_ret
    exact ⟨rfl, HS.out.trans' hs9⟩
  by_cases h3 : (40 : Int) < (f.sa.len : Int)
  · clear x1 x2 x4 f0 f2
    go_wp2_with fail
    (with_reducible refine Calls.mono (awake_any _) ?_)
    rintro r W9 ⟨rfl, hs9⟩
    go_wp2_with fail
    go_ret
    exact ⟨rfl, HS.out.trans' hs9⟩
  cases hv : n.validB with
  | false =>
    have HZ := Lib.hid (HZ1.out W1 HS.out hv)
    have HV := Lib.hid hv
    clear hv
    go_wp2_with fail
    (with_reducible refine Calls.mono HZ.out ?_)
    clear HZ x0 x1 x2 x3 x4 f0 f1 f2
    rintro r W2 ⟨rfl, hs1⟩
    replace HN := Lib.hid (HN.out.same hs1 (fun x => x))
    replace HF := Lib.hid (HF.out.same hs1 (fun x => x))
    replace HS := Lib.hid (HS.out.trans' hs1)
    clear hs1
    have x0 : W2.cell? ⟨N, 0, none⟩ = some (.int .i64 n.nodes) := HN.out.cell 0
    have x1 : W2.cell? ⟨N, 1, none⟩ = some (.int .i64 n.source) := HN.out.cell 1
    have x2 : W2.cell? ⟨N, 2, none⟩ = some (.int .i64 n.sink) := HN.out.cell 2
    have x3 : W2.cell? ⟨N, 3, none⟩ = some (.slice n.sl.addr n.sl.len n.sl.cap) := HN.out.cell 3
    have x4 : W2.cell? ⟨N, 4, none⟩ = some (.int .i64 n.hold) := HN.out.cell 4
    have hZ := HZR.out W2 HS.out
    rw [HV.out] at hZ
    have HZ := Lib.hid hZ
    clear hZ
    go_wp2_with fail
    (with_reducible refine Calls.mono HZ.out ?_)
    clear HZ x0 x1 x2 x3 x4
    rintro r W3 ⟨rfl, hs1⟩
    replace HN := Lib.hid (HN.out.same hs1 (fun x => x))
    replace HF := Lib.hid (HF.out.same hs1 (fun x => x))
    replace HS := Lib.hid (HS.out.trans' hs1)
    clear hs1
    go_wp2_with fail
    go_ret
    exact ⟨rfl, HS.out⟩
  | true =>
    have HV := Lib.hid hv
    clear hv
    by_cases hfl : IsFl n f.am f.value ∧ 0 ≤ f.value
    · have HFL := Lib.hid hfl.1
      have hf9 := hfl.2
      have HZ := Lib.hid (HZP.out W1 HS.out HV.out HFL.out hf9)
      clear hfl
      go_wp2_with fail
      (with_reducible refine Calls.mono HZ.out ?_)
      clear HZ x0 x1 x2 x3 x4 f0 f1 f2
      rintro r W2 ⟨PR, ZR, P, Z, am', rfl, hpt, hpi, hzi, hs1⟩
      have HPT := Lib.hid hpt
      obtain ⟨vs, hvl, hpr, hps⟩ := hpi
      obtain ⟨PA, pc, rfl, hpc1, hpc2, hpr⟩ := hpr.form
      obtain ⟨ZA, zl, zc⟩ := ZR
      obtain ⟨hzl, hzr⟩ := hzi
      have hzcap := hzr.caps
      have HPR := Lib.hid hpr
      have HPS := Lib.hid hps
      have HZRD := Lib.hid hzr
      have HVL := Lib.hid hvl
      have hPZ := hpt.len
      dsimp only at hzl
      obtain rfl : zl = P.length := by omega
      have HPZ := Lib.hid hPZ
      clear hpr hps hzr hpt hvl hPZ hzl
      dsimp only at HZRD
      replace HN := Lib.hid (HN.out.same hs1 (fun x => x))
      replace HF := Lib.hid (HF.out.same hs1 (fun x => x))
      replace HS := Lib.hid (HS.out.trans' hs1)
      clear hs1
      have x0 : W2.cell? ⟨N, 0, none⟩ = some (.int .i64 n.nodes) := HN.out.cell 0
      have x1 : W2.cell? ⟨N, 1, none⟩ = some (.int .i64 n.source) := HN.out.cell 1
      have x2 : W2.cell? ⟨N, 2, none⟩ = some (.int .i64 n.sink) := HN.out.cell 2
      have x3 : W2.cell? ⟨N, 3, none⟩ = some (.slice n.sl.addr n.sl.len n.sl.cap) := HN.out.cell 3
      have x4 : W2.cell? ⟨N, 4, none⟩ = some (.int .i64 n.hold) := HN.out.cell 4
      have hZ := HZR.out W2 HS.out
      rw [HV.out] at hZ
      have HZ := Lib.hid hZ
      clear hZ
      go_wp2_with fail
      (with_reducible refine Calls.mono HZ.out ?_)
      clear HZ x0 x1 x2 x3 x4
      rintro r W3 ⟨rfl, hs1⟩
      replace HPR := Lib.hid (HPR.out.keep hs1)
      replace HZRD := Lib.hid (HZRD.out.keep hs1)
      replace HPS : Hid (∀ (i : Nat) (u : Value) (p : List Int), vs[i]? = some u → P[i]? = some p → ∃ A c, u = .slice A p.length c ∧ Rd W3 noB 1 u p.length (icells p)) := fun i u p a b => by
        obtain ⟨A, c, e, r⟩ := HPS.out i u p a b
        exact ⟨A, c, e, r.keep hs1⟩
      replace HN := Lib.hid (HN.out.same hs1 (fun x => x))
      replace HF := Lib.hid (HF.out.same hs1 (fun x => x))
      replace HS := Lib.hid (HS.out.trans' hs1)
      clear hs1
      have x0 : W3.cell? ⟨N, 0, none⟩ = some (.int .i64 n.nodes) := HN.out.cell 0
      have x1 : W3.cell? ⟨N, 1, none⟩ = some (.int .i64 n.source) := HN.out.cell 1
      have x2 : W3.cell? ⟨N, 2, none⟩ = some (.int .i64 n.sink) := HN.out.cell 2
      have x3 : W3.cell? ⟨N, 3, none⟩ = some (.slice n.sl.addr n.sl.len n.sl.cap) := HN.out.cell 3
      have x4 : W3.cell? ⟨N, 4, none⟩ = some (.int .i64 n.hold) := HN.out.cell 4
      have f0 : W3.cell? ⟨F, 0, none⟩ = some (.int .i64 f.value) := HF.out.cell 0
      have f1 : W3.cell? ⟨F, 1, none⟩ = some (.slice f.sa.addr f.sa.len f.sa.cap) := HF.out.cell 1
      have f2 : W3.cell? ⟨F, 2, none⟩ = some (.slice f.ss.addr f.ss.len f.ss.cap) := HF.out.cell 2
      have HZ := Lib.hid (HZI.out W3 HS.out HV.out)
      have g9 : ¬ (f.value < 0) := by omega
      go_wp2_with fail
      (with_reducible refine Calls.mono HZ.out ?_)
      clear HZ x0 x1 x2 x3 x4 f0 f1 f2
      rintro r W4 ⟨bb, rfl, hbb, hs1⟩
      obtain rfl : bb = true := hbb.2 HFL.out
      clear hbb
      replace HPR := Lib.hid (HPR.out.keep hs1)
      replace HZRD := Lib.hid (HZRD.out.keep hs1)
      replace HPS : Hid (∀ (i : Nat) (u : Value) (p : List Int), vs[i]? = some u → P[i]? = some p → ∃ A c, u = .slice A p.length c ∧ Rd W4 noB 1 u p.length (icells p)) := fun i u p a b => by
        obtain ⟨A, c, e, r⟩ := HPS.out i u p a b
        exact ⟨A, c, e, r.keep hs1⟩
      replace HN := Lib.hid (HN.out.same hs1 (fun x => x))
      replace HF := Lib.hid (HF.out.same hs1 (fun x => x))
      replace HS := Lib.hid (HS.out.trans' hs1)
      clear hs1
      have x0 : W4.cell? ⟨N, 0, none⟩ = some (.int .i64 n.nodes) := HN.out.cell 0
      have x1 : W4.cell? ⟨N, 1, none⟩ = some (.int .i64 n.source) := HN.out.cell 1
      have x2 : W4.cell? ⟨N, 2, none⟩ = some (.int .i64 n.sink) := HN.out.cell 2
      have x3 : W4.cell? ⟨N, 3, none⟩ = some (.slice n.sl.addr n.sl.len n.sl.cap) := HN.out.cell 3
      have x4 : W4.cell? ⟨N, 4, none⟩ = some (.int .i64 n.hold) := HN.out.cell 4
      have f0 : W4.cell? ⟨F, 0, none⟩ = some (.int .i64 f.value) := HF.out.cell 0
      have f1 : W4.cell? ⟨F, 1, none⟩ = some (.slice f.sa.addr f.sa.len f.sa.cap) := HF.out.cell 1
      have f2 : W4.cell? ⟨F, 2, none⟩ = some (.slice f.ss.addr f.ss.len f.ss.cap) := HF.out.cell 2
      have hle : decide ((n.sl.len : Int) < (P.length : Int)) = false := decide_eq_false (by have := HPT.out.cnt.2; have := HNL.out; omega)
      have hle2 : decide (n.sl.len < P.length) = false := decide_eq_false (by have := HPT.out.cnt.2; have := HNL.out; omega)
      have HM0 := Lib.hid (CntIs.made W4)
      have hmm := @run_makeMap Try.prog
      go_upto_region 11 with (fail)
      refine wp_abs (fun W => Hid (CntIs W W4.heap.size (fun _ _ => 0)) ∧ Hid (Same noB W4 W)) ⟨HM0.out, (Same.refl _ _).alloc _⟩ ?_
      clear hmm HM0 x0 x1 x2 x3 x4 f0 f1 f2 g9 hle hle2
      rintro W5 ⟨HM, HS5⟩
      have HLB : Hid (W4.heap.size ≤ W4.heap.size ∧ N < W4.heap.size ∧ F < W4.heap.size ∧ w.heap.size ≤ W4.heap.size) := ⟨Nat.le_refl _, HN.out.lt, HF.out.lt, HS.out.size⟩
      obtain ⟨M, hM⟩ : ∃ M, W4.heap.size = M := ⟨_, rfl⟩
      have HS6 := Lib.hid hM
      rw [hM] at HM ⊢
      have HMB : Hid (∀ W, Same noB W4 W → Blk W N 24 #[.int .i64 n.nodes, .int .i64 n.source, .int .i64 n.sink, .slice n.sl.addr n.sl.len n.sl.cap, .int .i64 n.hold] ∧ Blk W F 29 #[.int .i64 f.value, .slice f.sa.addr f.sa.len f.sa.cap, .slice f.ss.addr f.ss.len f.ss.cap] ∧ Same noB w W) := fun W hs => ⟨HN.out.same hs (fun x => x), HF.out.same hs (fun x => x), HS.out.trans' hs⟩
      clear hM HN HF HS
      have HPL : Hid (PlS w W4 W5 M (cntAt P Z 0 0)) := ⟨by rw [cnt_zero]; exact HM.out, HS5.out, Nat.le_of_eq HS6.out⟩
      clear HM HS5
      have HOK := Lib.hid (NetV.validB_ok HV.out)
      have HVB : Hid (f.value ≤ 4398046511104000 ∧ ∀ u v, usedS u v P Z ≤ 4398046511104000) := by
        have hsm := HFL.out.cap.small HOK.out
        have hlen : f.am.length ≤ 30 := by have := HFL.out.cap.1; have := HNL.out; omega
        refine ⟨?_, fun u v => ?_⟩
        · have q1 := HFL.out.src
          have q2 := (netSum_small (l := n.arcs) hsm n.source).2
          omega
        · have q1 := HPT.out.use u v
          have q2 := (btw_small (l := n.arcs) (HPT.out.fl.cap.small HOK.out) u v).1
          have q3 := (btw_small (l := n.arcs) hsm u v).2
          omega
      go_wp2_with fail
      go_loopg [9, 97] (P.length) (fun gk s q wr => ∃ (i : Nat), i ≤ P.length ∧ Hid (gk + i = P.length) ∧ q = .int .i64 i ∧ s = .int .i64 (Z.take i).sum ∧ Hid (PlS w W4 wr M (cntAt P Z i 0)))
      case atStart => exact ⟨0, Nat.zero_le _, rfl, rfl, by simp, HPL.out⟩
      case round =>
        clear HPL
        obtain ⟨i, hi, HK, rfl, rfl, HPL⟩ := hrel
        by_cases hlt : i < P.length
        · obtain ⟨p, hp⟩ : ∃ e, P[i]? = some e := ⟨_, List.getElem?_eq_getElem hlt⟩
          obtain ⟨z, hz⟩ : ∃ e, Z[i]? = some e := ⟨_, List.getElem?_eq_getElem (by have := HPZ.out; omega)⟩
          obtain ⟨u, hu⟩ : ∃ e, vs[i]? = some e := ⟨_, List.getElem?_eq_getElem (by have := HVL.out; omega)⟩
          obtain ⟨RA, rc, rfl, hrr⟩ := HPS.out i u p hu hp
          have HRR := Lib.hid hrr
          have hsimp := HPT.out.simple p (List.mem_of_getElem? hp)
          have hzpos := HPT.out.pos z (List.mem_of_getElem? hz)
          obtain ⟨bp, op, rfl, rp⟩ := HPR.out.at_ (by omega)
          obtain ⟨bz, oz, rfl, rz⟩ := HZRD.out.at_ (by omega)
          obtain ⟨br, or, rfl, rr⟩ := hrr.at_ (by have := hsimp.len; omega)
          have pu := rp.cell i _ hu
          have zu := rz.cell i _ (icells_at hz)
          have HPU := Lib.hid pu
          have HZU := Lib.hid zu
          have HRRA := Lib.hid rr
          obtain ⟨HN, HF, HS⟩ : Hid (Blk wr N 24 #[.int .i64 n.nodes, .int .i64 n.source, .int .i64 n.sink, .slice n.sl.addr n.sl.len n.sl.cap, .int .i64 n.hold]) ∧ Hid (Blk wr F 29 #[.int .i64 f.value, .slice f.sa.addr f.sa.len f.sa.cap, .slice f.ss.addr f.ss.len f.ss.cap]) ∧ Hid (Same noB w wr) := HMB.out wr HPL.out.since6
          replace pu := HPL.out.since6.cell pu (fun x => x)
          replace zu := HPL.out.since6.cell zu (fun x => x)
          have x0 : wr.cell? ⟨N, 0, none⟩ = some (.int .i64 n.nodes) := HN.out.cell 0
          have x1 : wr.cell? ⟨N, 1, none⟩ = some (.int .i64 n.source) := HN.out.cell 1
          have x2 : wr.cell? ⟨N, 2, none⟩ = some (.int .i64 n.sink) := HN.out.cell 2
          have x3 : wr.cell? ⟨N, 3, none⟩ = some (.slice n.sl.addr n.sl.len n.sl.cap) := HN.out.cell 3
          have x4 : wr.cell? ⟨N, 4, none⟩ = some (.int .i64 n.hold) := HN.out.cell 4
          have hi0 : (0 : Int) ≤ (i : Int) := by omega
          have hi1 : (i : Int) < (P.length : Int) := by omega
          have hz9 : ¬ (z ≤ 0) := by omega
          have HPD := Lib.hid hp
          have HZD := Lib.hid hz
          have HSP := Lib.hid hsimp
          have hcr := hrr.caps
          clear hp hz hu hrr hsimp rp rz rr
          have HSW : Hid (Same noB W4 wr) := HPL.out.since6
          go_wp2_with fail
          go_region_held3 (fun w' => w'.cell? ⟨N, 0, none⟩ = some (.int .i64 n.nodes) ∧ w'.cell? ⟨N, 1, none⟩ = some (.int .i64 n.source) ∧ w'.cell? ⟨N, 2, none⟩ = some (.int .i64 n.sink) ∧ w'.cell? ⟨N, 3, none⟩ = some (.slice n.sl.addr n.sl.len n.sl.cap) ∧ w'.cell? ⟨N, 4, none⟩ = some (.int .i64 n.hold) ∧ w'.cell? ⟨bp, op + i, none⟩ = some (.slice (some ⟨br, or, none⟩) p.length rc) ∧ w'.cell? ⟨bz, oz + i, none⟩ = some (.int .i64 z))
            (first | (refine ⟨?_, ?_, ?_, ?_, ?_, ?_, ?_⟩ <;> with_reducible assumption) | go_keep)
            ((go_at_call 20; have hZ := HZS.out wr.drew _ _ _ p HSP.out rfl ((HRR.out.keep HSW.out).drew); (with_reducible refine Calls.mono hZ ?_); clear hZ; rintro e Wc ⟨rfl, hs⟩; have hs' := ((Same.refl noB wr).drew).trans' hs; have HPL := Lib.hid (PlS.mk (w := w) (HPL.out.cnt.same hs' (fun x => x)) (HPL.out.since6.trans' hs') HPL.out.lb); have x0 := hs'.cell x0 (fun x => x); have x1 := hs'.cell x1 (fun x => x); have x2 := hs'.cell x2 (fun x => x); have x3 := hs'.cell x3 (fun x => x); have x4 := hs'.cell x4 (fun x => x); have pu := hs'.cell pu (fun x => x); have zu := hs'.cell zu (fun x => x); clear hs hs'))
          have hsn := sum_next HZD.out
          have hwa : IntKind.i64.wrap ((Z.take i).sum + z) = (Z.take i).sum + z := IntWalk.i64_in _ (by
            have h1 := sum_le HPT.out.pos (i + 1)
            have h2 := HVB.out.1
            have h3 := HPT.out.sum
            rw [hsn] at h1
            omega)
          have HSN := Lib.hid hsn
          clear hsn HN HF HS HSW
          obtain ⟨ko, rfl⟩ : ∃ ko : Nat, ko = gk := ⟨_, rfl⟩
          go_wp2_with fail
          go_loopg [11] (p.length - 1) (fun gk q wr => ∃ (j : Nat), 1 ≤ j ∧ j ≤ p.length ∧ Hid (gk + j = p.length) ∧ q = .int .i64 j ∧ Hid (PlS w W4 wr M (cntAt P Z i j)))
          case atStart => exact ⟨1, Nat.le_refl _, by have := HSP.out.len; omega, by show _ = _; have := HSP.out.len; omega, rfl, by rw [cnt_one]; exact HPL.out⟩
          case round =>
            clear HPL x0 x1 x2 x3 x4 pu zu
            obtain ⟨j, hj1, hjp, HJ, rfl, HPL⟩ := hrel
            obtain ⟨j, rfl⟩ : ∃ j', j = j' + 1 := ⟨j - 1, by omega⟩
            have pu := HPL.out.since6.cell HPU.out (fun x => x)
            by_cases hjl : j + 1 < p.length
            · obtain ⟨a, ha⟩ : ∃ e, p[j]? = some e := ⟨_, List.getElem?_eq_getElem (by omega)⟩
              obtain ⟨b, hb⟩ : ∃ e, p[j + 1]? = some e := ⟨_, List.getElem?_eq_getElem hjl⟩
              have hra := HSP.out.rng a (List.mem_of_getElem? ha)
              have hrb := HSP.out.rng b (List.mem_of_getElem? hb)
              have hna : inI64 a := inI64_node HOK.out hra
              have hnb : inI64 b := inI64_node HOK.out hrb
              have q0 := HPL.out.since6.cell (HRRA.out.cell j _ (icells_at ha)) (fun x => x)
              have q1 := HPL.out.since6.cell (HRRA.out.cell (j + 1) _ (icells_at hb)) (fun x => x)
              have zu := HPL.out.since6.cell HZU.out (fun x => x)
              have hcs := cnt_step HPD.out HZD.out ha hb
              have hbd := (cnt_bound HPZ.out HPT.out.pos HPD.out (j := j + 2) (by omega) a b)
              have hbe := (cnt_bound HPZ.out HPT.out.pos HPD.out (j := j + 1) (by omega) a b)
              have hub := HVB.out.2 a b
              have hsd : CntIs wr.drew M (cntAt P Z i (j + 1)) := HPL.out.cnt.same ((Same.refl noB wr).drew) (fun e => e)
              have hlk := hsd.lookup hna hnb
              obtain ⟨sk, w3, w4, hme, hlk2, hes, hm4, hg4, hg3⟩ := hsd.incr hna hnb z
              rw [← hcs] at hm4
              have HPL4 : Hid (PlS w W4 w4 M (cntAt P Z i (j + 2))) := ⟨hm4, (HPL.out.since6.drew).trans hg4 (fun b' hb' e => by have h3 : b' = M := e; have := HPL.out.lb; omega), HPL.out.lb⟩
              have pne : bp ≠ M := fun e => by have h1 := World.block_lt_of_cell? W4 _ HPU.out; have h2 := HPL.out.lb; rw [e] at h1; exact absurd h1 (by dsimp only; omega)
              have zne : bz ≠ M := fun e => by have h1 := World.block_lt_of_cell? W4 _ HZU.out; have h2 := HPL.out.lb; rw [e] at h1; exact absurd h1 (by dsimp only; omega)
              have rne : br ≠ M := fun e => by have h1 := World.block_lt_of_cell? W4 _ (HRRA.out.cell j _ (icells_at ha)); have h2 := HPL.out.lb; rw [e] at h1; exact absurd h1 (by dsimp only; omega)
              have pu3 := hg3.cell (show wr.drew.cell? _ = _ from pu) (fun e => pne e)
              have zu3 := hg3.cell (show wr.drew.cell? _ = _ from zu) (fun e => zne e)
              have q03 := hg3.cell (show wr.drew.cell? _ = _ from q0) (fun e => rne e)
              have q13 := hg3.cell (show wr.drew.cell? _ = _ from q1) (fun e => rne e)
              have hb9 : cntAt P Z i (j + 2) a b = cntAt P Z i (j + 1) a b + z := by rw [hcs]; unfold bump2; rw [if_pos ⟨rfl, rfl⟩]
              rw [hb9] at hbd
              generalize cntAt P Z i (j + 1) a b = cv at hlk hme hlk2 hes hbd hbe
              have hwr : IntKind.i64.wrap (cv + z) = cv + z := IntWalk.i64_in _ (by omega)
              have hwj : IntKind.i64.wrap (((j + 1 : Nat) : Int) - 1) = (j : Int) := by rw [IntWalk.i64_in _ (by omega)]; omega
              have hj0 : (0 : Int) ≤ (j : Int) := by omega
              have hjl2 : (j : Int) < (p.length : Int) := by omega
              have hj2 : (0 : Int) ≤ ((j + 1 : Nat) : Int) := by omega
              have hj3 : ((j + 1 : Nat) : Int) < (p.length : Int) := by omega
              clear ha hb hra hrb hna hnb hcs hsd hm4 hg4 hg3 hb9 pne zne rne hbd hbe hub
              go_wp2_with fail
              go_region
              all_goals
                go_wp2_with fail
                go_roundg (gk - 1)
                case measure => have h1 := HJ.out; omega
                case rel => exact ⟨j + 2, by omega, by omega, by show _ = _; have h1 := HJ.out; omega, by go_num, HPL4.out⟩
            · have hje : j + 1 = p.length := by omega
              have HPN : Hid (PlS w W4 wr M (cntAt P Z (i + 1) 0)) := by
                have h1 := HPL.out
                rw [hje, cnt_done HPZ.out HPD.out] at h1
                exact h1
              have hj3 : ¬ (((j + 1 : Nat) : Int) < (p.length : Int)) := by omega
              clear hjl
              go_wp2_with fail
              go_roundg (ko - 1)
              case measure => have h1 := HK.out; omega
              case rel => exact ⟨i + 1, by omega, by show _ = _; have h1 := HK.out; omega, by go_num, by rw [HSN.out], HPN.out⟩
        · obtain rfl : i = P.length := by omega
          have HSUM : Hid ((Z.take P.length).sum = f.value) := by
            show _ = _
            have h1 := HPT.out.sum
            rw [List.take_of_length_le (by have := HPZ.out; omega)]
            omega
          rw [HSUM.out]
          obtain ⟨nm, fm, hmf, hfm⟩ := HPL.out.cnt
          rw [cnt_all HPZ.out (Nat.le_refl _)] at hfm
          have HMF := Lib.hid hmf
          have HFM := Lib.hid hfm
          clear hmf hfm hlt
          go_wp2_with (at_range; refine wpL_range rfl _ 48 2 rfl Try.underlying48 rfl HMF.out ?_; intro W6 cnt hit0 hc0 hs0 hz0)
          have HIT := Lib.hid hit0
          have HS6 : Hid (Same noB W4 W6) := HPL.out.since6.trans' hs0
          have HTL : Hid (W4.heap.size ≤ wr.heap.size) := HPL.out.since6.size
          obtain ⟨T, hT⟩ : ∃ T, wr.heap.size = T := ⟨_, rfl⟩
          rw [hT] at HIT HTL ⊢
          clear hit0 hc0 hs0 hz0 hT
          go_loopg [13] (cnt) (fun gc _ wi => ∃ (done : Int × Int → Bool), Hid (MapIt eP wi M T fm done gc) ∧ Hid (Same noB W4 wi))
          case atStart => exact ⟨_, HIT.out, HS6.out⟩
          case round =>
            clear HIT HS6 HPL HMF
            obtain ⟨done, HI, HS6⟩ := hrel
            obtain ⟨HN, HF, HS⟩ : Hid (Blk wr N 24 #[.int .i64 n.nodes, .int .i64 n.source, .int .i64 n.sink, .slice n.sl.addr n.sl.len n.sl.cap, .int .i64 n.hold]) ∧ Hid (Blk wr F 29 #[.int .i64 f.value, .slice f.sa.addr f.sa.len f.sa.cap, .slice f.ss.addr f.ss.len f.ss.cap]) ∧ Hid (Same noB w wr) := HMB.out wr HS6.out
            have f0 : wr.cell? ⟨F, 0, none⟩ = some (.int .i64 f.value) := HF.out.cell 0
            go_wp2_with (at_next; refine wpL_next rfl _ rfl rfl HI.out ?_ ?_)
            · intro _ _
              go_wp2_with fail
              go_ret
              exact ⟨rfl, HS.out⟩
            · intro a b v w1 cnt1 hf hd hin hlt hit1 hg1 hen
              have hvv := HFM.out a b
              rw [hf] at hvv
              have hvv' : v = .int .i64 (usedS a b P Z) := hvv
              subst hvv'
              have he : eP.enc (a, b) = .agg #[.int .i64 a, .int .i64 b] := rfl
              rw [he] at hen ⊢
              have hsT : Same (oneB T) wr w1 := (Same.of_grown hg1).mono (fun b _ e => by injection e)
              have HS7 : Hid (Same noB W4 w1) := HS6.out.trans hsT (fun b hb e => by have h3 : b = T := e; have := HTL.out; omega)
              have HIT1 := Lib.hid hit1
              have HLT := Lib.hid hlt
              clear f0 HN HF HS HI hf hd hin hlt hit1 hg1 hvv he hsT HS6
              have HK0 := Lib.hid (row_stored (Blk.new w1 51 #[.int .i64 0, .int .i64 0]) #[.int .i64 a, .int .i64 b])
              go_upto_region 26 with (refine wpList_store_row rfl 51 _ _ rfl w1.heap.size #[.int .i64 a, .int .i64 b] rfl rfl 51 _ (Blk.new w1 51 #[.int .i64 0, .int .i64 0]) (by kernel_rfl) rfl (by kernel_rfl) ?_)
              have hs0 : Same noB w1 ((w1.alloc (.cells #[.int .i64 0, .int .i64 0] 51)).setRow w1.heap.size #[.int .i64 a, .int .i64 b]) := ((Same.refl noB w1).alloc _).trans HK0.out.2 (fun b hb hx => by have h3 : b = w1.heap.size := hx; omega)
              refine wp_abs (fun W => Hid (Blk W w1.heap.size 51 #[.int .i64 a, .int .i64 b]) ∧ Hid (∃ dn, MapIt eP W M T fm dn cnt1) ∧ Hid (Same noB W4 W)) ⟨HK0.out.1, ⟨_, HIT1.out.same hs0 (fun x => x) (fun x => x)⟩, HS7.out.trans' hs0⟩ ?_
              clear hs0 HK0 HIT1 HS7 hen
              rintro W8 ⟨HKB, ⟨dn, hit9⟩, HS6⟩
              have HI := Lib.hid hit9
              clear hit9
              obtain ⟨KB, hKB⟩ : ∃ KB, w1.heap.size = KB := ⟨_, rfl⟩
              rw [hKB] at HKB ⊢
              clear hKB
              obtain ⟨HN, HF, HS⟩ : Hid (Blk W8 N 24 #[.int .i64 n.nodes, .int .i64 n.source, .int .i64 n.sink, .slice n.sl.addr n.sl.len n.sl.cap, .int .i64 n.hold]) ∧ Hid (Blk W8 F 29 #[.int .i64 f.value, .slice f.sa.addr f.sa.len f.sa.cap, .slice f.ss.addr f.ss.len f.ss.cap]) ∧ Hid (Same noB w W8) := HMB.out W8 HS6.out
              have f1 : W8.cell? ⟨F, 1, none⟩ = some (.slice f.sa.addr f.sa.len f.sa.cap) := HF.out.cell 1
              have k0 : W8.cell? ⟨KB, 0, none⟩ = some (.int .i64 a) := HKB.out.cell 0
              have k1 : W8.cell? ⟨KB, 1, none⟩ = some (.int .i64 b) := HKB.out.cell 1
              have x0 : W8.cell? ⟨N, 0, none⟩ = some (.int .i64 n.nodes) := HN.out.cell 0
              have x1 : W8.cell? ⟨N, 1, none⟩ = some (.int .i64 n.source) := HN.out.cell 1
              have x2 : W8.cell? ⟨N, 2, none⟩ = some (.int .i64 n.sink) := HN.out.cell 2
              have x3 : W8.cell? ⟨N, 3, none⟩ = some (.slice n.sl.addr n.sl.len n.sl.cap) := HN.out.cell 3
              have x4 : W8.cell? ⟨N, 4, none⟩ = some (.int .i64 n.hold) := HN.out.cell 4
              have HZ := Lib.hid (HZB.out W8 HS.out HFL.out.cap.1 HOK.out.len (HFL.out.cap.small HOK.out) a b)
              have HLE : Hid (¬ (btwSum n.arcs f.am a b < usedS a b P Z)) := by
                show ¬ _
                have h1 := HPT.out.use a b
                have h2 := (btw_small (l := n.arcs) (HPT.out.fl.cap.small HOK.out) a b).1
                omega
              clear HKB HN HF
              go_wp2_with fail
              (with_reducible refine Calls.mono HZ.out ?_)
              clear HZ x0 x1 x2 x3 x4 f1 k0 k1
              rintro r W9 ⟨rfl, hs1⟩
              have h9 := HLE.out
              go_wp2_with fail
              go_roundg cnt1
              case measure => exact HLT.out
              case rel => exact ⟨_, HI.out.same hs1 (fun x => x) (fun x => x), HS6.out.trans' hs1⟩
    · have HNO := Lib.hid hfl
      have HZ := Lib.hid (HZ2.out W1 HS.out HV.out hfl)
      clear hfl
      go_wp2_with fail
      (with_reducible refine Calls.mono HZ.out ?_)
      clear HZ x0 x1 x2 x3 x4 f0 f1 f2
      rintro r W2 ⟨rfl, hs1⟩
      replace HN := Lib.hid (HN.out.same hs1 (fun x => x))
      replace HF := Lib.hid (HF.out.same hs1 (fun x => x))
      replace HS := Lib.hid (HS.out.trans' hs1)
      clear hs1
      have x0 : W2.cell? ⟨N, 0, none⟩ = some (.int .i64 n.nodes) := HN.out.cell 0
      have x1 : W2.cell? ⟨N, 1, none⟩ = some (.int .i64 n.source) := HN.out.cell 1
      have x2 : W2.cell? ⟨N, 2, none⟩ = some (.int .i64 n.sink) := HN.out.cell 2
      have x3 : W2.cell? ⟨N, 3, none⟩ = some (.slice n.sl.addr n.sl.len n.sl.cap) := HN.out.cell 3
      have x4 : W2.cell? ⟨N, 4, none⟩ = some (.int .i64 n.hold) := HN.out.cell 4
      have hZ := HZR.out W2 HS.out
      rw [HV.out] at hZ
      have HZ := Lib.hid hZ
      clear hZ
      go_wp2_with fail
      (with_reducible refine Calls.mono HZ.out ?_)
      clear HZ x0 x1 x2 x3 x4
      rintro r W3 ⟨rfl, hs1⟩
      replace HN := Lib.hid (HN.out.same hs1 (fun x => x))
      replace HF := Lib.hid (HF.out.same hs1 (fun x => x))
      replace HS := Lib.hid (HS.out.trans' hs1)
      clear hs1
      have x0 : W3.cell? ⟨N, 0, none⟩ = some (.int .i64 n.nodes) := HN.out.cell 0
      have x1 : W3.cell? ⟨N, 1, none⟩ = some (.int .i64 n.source) := HN.out.cell 1
      have x2 : W3.cell? ⟨N, 2, none⟩ = some (.int .i64 n.sink) := HN.out.cell 2
      have x3 : W3.cell? ⟨N, 3, none⟩ = some (.slice n.sl.addr n.sl.len n.sl.cap) := HN.out.cell 3
      have x4 : W3.cell? ⟨N, 4, none⟩ = some (.int .i64 n.hold) := HN.out.cell 4
      have f0 : W3.cell? ⟨F, 0, none⟩ = some (.int .i64 f.value) := HF.out.cell 0
      have f1 : W3.cell? ⟨F, 1, none⟩ = some (.slice f.sa.addr f.sa.len f.sa.cap) := HF.out.cell 1
      have f2 : W3.cell? ⟨F, 2, none⟩ = some (.slice f.ss.addr f.ss.len f.ss.cap) := HF.out.cell 2
      have HZ := Lib.hid (HZI.out W3 HS.out HV.out)
      go_wp2_with fail
      (with_reducible refine Calls.mono HZ.out ?_)
      rintro r W4 ⟨bb, rfl, hbb, hs1⟩
      replace f0 := hs1.cell f0 (fun x => x)
      replace HN := Lib.hid (HN.out.same hs1 (fun x => x))
      replace HF := Lib.hid (HF.out.same hs1 (fun x => x))
      replace HS := Lib.hid (HS.out.trans' hs1)
      clear hs1
      cases bb with
      | false =>
        clear hbb HZ x0 x1 x2 x3 x4 f1 f2
        go_wp2_with fail
        go_ret
        exact ⟨rfl, HS.out⟩
      | true =>
        have g9 : f.value < 0 := by
          have h1 := HNO.out
          have h2 := hbb.1 rfl
          by_cases h3 : 0 ≤ f.value
          · exact absurd ⟨h2, h3⟩ h1
          · omega
        clear hbb HZ x0 x1 x2 x3 x4 f1 f2
        go_wp2_with fail
        go_ret
        exact ⟨rfl, HS.out⟩
end Go.Proofs.Ytpalacfgpcpppaa
