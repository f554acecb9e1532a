/- ReplogCompacts: its plain law and its walk. (printed by genLawCmp.py) -/
import Derived.Test.YtlocfbjeljgblaaRepSK
import Derived.Test.YtlocfbjeljgblaaLawAgr
namespace Go.Proofs.Ytlocfbjeljgblaa
open Go Go.RowKit
set_option maxRecDepth 100000

/-- A copy's blocks lie between the two sizes. -/
theorem CopyIs.fresh {w w' : World} {v : Value} {es : List En} {vs : List EnV} (h : CopyIs w w' v es vs) : EnL w' (fun b => b < w.heap.size ∨ w'.heap.size ≤ b) v es vs :=
  ⟨Rd.of_own h.own (fun g hg hx => by
    have h1 := h.new g hg
    have h2 := own_lt h.own hg
    omega), h.is.imp fun _ _ k => k.same (Same.refl noB _) (fun _ _ x => x.elim) (fun b hb hx => .inl (by omega))⟩
/-- Compacting to an index of the log. -/
theorem Lg.Inv.compact_at {g : Lg} (h : g.Inv) {a : Nat} (ha : a ≤ g.es.length) : ∃ t, g.termAt (g.base + a) = (t, true) ∧ g.compact (g.base + a) = (⟨g.base + a, t, g.es.drop a⟩, 0) ∧ (⟨g.base + a, t, g.es.drop a⟩ : Lg).last = g.last := by
  obtain ⟨hl1, hl2, hl3⟩ := h.last
  have hc : ∀ t, g.termAt (g.base + a) = (t, true) → g.compact (g.base + a) = (⟨g.base + a, t, g.es.drop a⟩, 0) := by
    intro t ht
    unfold Lg.compact
    rw [ht, if_pos rfl, show (g.base + (a : Int) - g.base).toNat = a from by omega]
  cases a with
  | zero =>
    have ht : g.termAt (g.base + ((0 : Nat) : Int)) = (g.term, true) := by rw [show g.base + ((0 : Nat) : Int) = g.base from by omega]; exact g.termAt_base
    refine ⟨g.term, ht, hc _ ht, ?_⟩
    rw [List.drop_zero, show g.base + ((0 : Nat) : Int) = g.base from by omega]
  | succ a =>
    obtain ⟨x, hx⟩ : ∃ x, g.es[a]? = some x := ⟨_, List.getElem?_eq_getElem (by omega)⟩
    have hxi := h.idx a x hx
    have ht : g.termAt (g.base + ((a + 1 : Nat) : Int)) = (x.t, true) := Lg.termAt_at (by omega) hx
    refine ⟨x.t, ht, hc _ ht, ?_⟩
    cases hn : (g.es.drop (a + 1)).length with
    | zero =>
      rw [List.length_drop] at hn
      rw [Lg.last_nil (List.eq_nil_of_length_eq_zero (by rw [List.length_drop]; exact hn)), Lg.last_at (k := a) (by omega) hx, hxi]
      simp only [Prod.mk.injEq, and_true]
      omega
    | succ k =>
      have hn2 := hn
      rw [List.length_drop] at hn2
      obtain ⟨y, hy⟩ : ∃ y, g.es[a + 1 + k]? = some y := ⟨_, List.getElem?_eq_getElem (by omega)⟩
      have hy2 : (g.es.drop (a + 1))[k]? = some y := by rw [List.getElem?_drop]; exact hy
      rw [Lg.last_at (g := ⟨_, _, g.es.drop (a + 1)⟩) hn hy2, Lg.last_at (k := a + 1 + k) (by omega) hy]
theorem Lg.compact_no {g : Lg} {i : Int} (h : i < g.base ∨ g.base + g.es.length < i) : g.compact i = (g, 2) := by
  have ht : g.termAt i = (0, false) := Lg.termAt_no (by omega) (by omega)
  unfold Lg.compact
  rw [ht]
  rfl
theorem Lg.compact_from {g : Lg} {a : Nat} (t : Int) (h0 : 0 ≤ g.base) : (⟨g.base + a, t, g.es.drop a⟩ : Lg).fromL 0 1000 = g.fromL (g.base + a + 1) 1000 := by
  unfold Lg.fromL Lg.atOf
  simp only
  rw [show (0 - (g.base + (a : Int)) - 1).toNat = 0 from by omega, List.drop_zero, show (g.base + (a : Int) + 1 - g.base - 1).toNat = a from by omega]
theorem Lg.compact_gone {g : Lg} {a : Nat} (t : Int) : ((⟨g.base + a, t, g.es.drop a⟩ : Lg).entry (g.base + a)).2 = false := by
  unfold Lg.entry
  rw [Lg.at_no (by simp only; omega)]
theorem Lg.newer_last {g g' : Lg} (h : g'.last = g.last) (i t : Int) : g'.newer i t = g.newer i t := by unfold Lg.newer; rw [h]
set_option maxHeartbeats 16000000 in
theorem lawCompacts_any {w : World} {ov : Value} {os : List OpR} {ys : List OpV} (ho : OpL w noB ov os ys) {n : Int} (hn : 0 ≤ n ∧ n ≤ 255) (i t : Int) :
    Calls Try.prog 6 #[ov, .int .u8 n, .int .i64 i, .int .i64 t] w fun r w' => r = .returned (.bool true) ∧ Same noB w w' := by
  have HOL := Lib.hid ho.is.len
  have HO := Lib.hid ho
  have HNN := Lib.hid hn
  clear ho hn
  go_enter Try.func6, Try.ntmps6
  go_wp2_with fail
  (with_reducible refine Calls.mono (awake_any w) ?_)
  rintro r Wa ⟨rfl, hs1⟩
  have HS := Lib.hid hs1
  clear hs1
  go_wp2_with fail
  (with_reducible refine Calls.mono (few10_any (HO.out.keep HS.out) 12) ?_)
  rintro r Wb ⟨qa, rfl, hqa, hs1⟩
  replace HS := Lib.hid (HS.out.trans' hs1)
  have HQA := Lib.hid hqa
  clear hs1 hqa
  cases qa with
  | false =>
    go_wp2_with fail
    go_ret
    exact ⟨rfl, HS.out⟩
  | true =>
  have hqa := HQA.out (by trivial)
  have HBD : Hid (((Lg.new 0 0).runK ys os.length).Bd ys.length ∧ ys.length ≤ 12) := ⟨by rw [HOL.out]; exact run_bd hqa.2, by omega⟩
  obtain ⟨g, hg⟩ : ∃ g, (Lg.new 0 0).runK ys os.length = g := ⟨_, rfl⟩
  have hr1 := run_any (w := Wb) (B := noB) (HO.out.keep HS.out) (fun b e => e.elim) (by omega) hqa.2
  rw [hg] at hr1 HBD
  have HR1 := Lib.hid hr1
  clear hr1 hg HO HQA hqa HOL
  go_wp2_with fail
  (with_reducible refine Calls.mono HR1.out ?_)
  clear HR1
  rintro r W1 ⟨M, v, es, L1, n1, c1, ls1, rfl, hst, hs1, hm⟩
  have HL := Lib.hid hst.sl
  have HM0 : Hid (∀ b, lgB M v b → w.heap.size ≤ b) := fun b hb => Nat.le_trans HS.out.size (hm b hb)
  replace HS := Lib.hid (HS.out.trans' hs1)
  clear hst hs1 hm
  have HRX := Lib.hid (row_stored (Blk.new W1 29 #[.int .i64 0, .int .i64 0, .slice none 0 0]) #[.int .i64 g.base, .int .i64 g.term, .slice L1 n1 c1])
  have hsx : Same noB W1 ((W1.alloc (.cells #[.int .i64 0, .int .i64 0, .slice none 0 0] 29)).setRow W1.heap.size #[.int .i64 g.base, .int .i64 g.term, .slice L1 n1 c1]) := ((Same.refl noB W1).alloc _).trans HRX.out.2 (fun b hb e => by have h3 : b = W1.heap.size := e; omega)
  go_upto_region 6 with (refine wpList_store_row rfl 29 _ _ rfl W1.heap.size #[.int .i64 g.base, .int .i64 g.term, .slice L1 n1 c1] rfl rfl 29 _ (Blk.new W1 29 #[.int .i64 0, .int .i64 0, .slice none 0 0]) (by kernel_rfl) rfl (row29_one g.base g.term L1 n1 c1) ?_)
  refine wp_abs (fun W => Hid (Same noB W1 W)) hsx ?_
  rintro W2 HS1
  replace HS := Lib.hid (HS.out.trans' HS1.out)
  replace HL := Lib.hid (HL.out.keep HS1.out)
  clear HS1 HRX hsx
  -- the numbers
  have hbd := HBD.out.1
  have hk := HBD.out.2
  have HFT := Lib.hid (hbd.fit (by omega))
  have HINV := Lib.hid hbd.inv
  have hlen : g.es.length ≤ 96 := by have := hbd.len; omega
  have hhi : g.base + g.es.length ≤ 1099511628000 := by have := hbd.hi; omega
  have hb0 := hbd.inv.b0
  have hla := hbd.inv.last.1
  obtain ⟨a, haa⟩ : ∃ a : Nat, n.tmod (g.es.length + 1 : Int) = (a : Int) := ⟨(n.tmod (g.es.length + 1 : Int)).toNat, by
    have := Int.tmod_nonneg (g.es.length + 1 : Int) HNN.out.1
    omega⟩
  have hal : a ≤ g.es.length := by
    have := Int.tmod_lt_of_pos n (show (0 : Int) < (g.es.length : Int) + 1 by omega)
    omega
  obtain ⟨tt, hta, hca, hcl⟩ := hbd.inv.compact_at hal
  have hsub : IntKind.i64.wrap (g.last.1 - g.base) = (g.es.length : Int) := by rw [hla]; rw [IntWalk.i64_in _ (by omega)]; omega
  have hadd : IntKind.i64.wrap ((g.es.length : Int) + 1) = (g.es.length : Int) + 1 := IntWalk.i64_in _ (by omega)
  have hnz : ¬ (g.es.length : Int) + 1 = 0 := by omega
  have hat : IntKind.i64.wrap (g.base + (a : Int)) = g.base + (a : Int) := IntWalk.i64_in _ (by omega)
  have hat1 : IntKind.i64.wrap (g.base + (a : Int) + 1) = g.base + (a : Int) + 1 := IntWalk.i64_in _ (by omega)
  have hl1 : IntKind.i64.wrap (g.last.1 + 1) = g.last.1 + 1 := IntWalk.i64_in _ (by omega)
  have hbm : IntKind.i64.wrap (g.base - 1) = g.base - 1 := IntWalk.i64_in _ (by omega)
  have hc1 : g.compact (g.last.1 + 1) = (g, 2) := Lg.compact_no (by omega)
  have hc2 : g.compact (g.base - 1) = (g, 2) := Lg.compact_no (by omega)
  have hwn : IntKind.i64.wrap n = n := IntWalk.i64_in _ (by have := HNN.out; omega)
  have HNUM := Lib.hid (And.intro hlen (And.intro hhi (And.intro hb0 (And.intro hla hal))))
  have HC1 := Lib.hid hc1
  have HC2 := Lib.hid hc2
  have HCA := Lib.hid hca
  have HTA := Lib.hid hta
  have HCL := Lib.hid hcl
  have HSM := Lib.hid hbd.inv.sm
  clear hbd hk hlen hhi hb0 hla hal hc1 hc2 hca hta hcl
  have HZ := Lib.hid (base_any HL.out.log)
  go_wp2_with fail
  (with_reducible refine Calls.mono HZ.out ?_)
  clear HZ
  rintro r W3 ⟨rfl, hs1⟩
  replace HL := Lib.hid (HL.out.keep hs1)
  replace HS := Lib.hid (HS.out.trans' hs1)
  clear hs1
  have HZ := Lib.hid (last_any HL.out.log HFT.out)
  go_wp2_with fail
  (with_reducible refine Calls.mono HZ.out ?_)
  clear HZ
  rintro r W4 ⟨rfl, hs1⟩
  replace HL := Lib.hid (HL.out.keep hs1)
  replace HS := Lib.hid (HS.out.trans' hs1)
  clear hs1
  have hwr : IntKind.i64.wrap (n.tmod ((g.es.length : Int) + 1)) = (a : Int) := by rw [haa]; exact IntWalk.i64_in _ (by have := HNUM.out; omega)
  have HZ := Lib.hid (term_any HL.out.log HFT.out (i := g.base + a) ⟨by have := HNUM.out; omega, by have := HNUM.out; omega⟩)
  rw [HTA.out] at HZ
  go_wp2_with fail
  (with_reducible refine Calls.mono HZ.out ?_)
  clear HZ
  rintro r W5 ⟨rfl, hs1⟩
  replace HL := Lib.hid (HL.out.keep hs1)
  replace HS := Lib.hid (HS.out.trans' hs1)
  clear hs1
  have hZ := from_any HL.out.log HFT.out HSM.out (i := g.base + a + 1) (most := 1000) ⟨by have := HNUM.out; omega, by have := HNUM.out; omega⟩ ⟨by omega, by omega⟩
  have HZ := Lib.hid hZ
  clear hZ
  go_wp2_with fail
  (with_reducible refine Calls.mono HZ.out ?_)
  clear HZ
  rintro r W6 ⟨rv, rfl, res, hcp⟩
  have HFR := Lib.hid hcp.fresh
  have HLB : Hid (∀ b, lgB M v b → b < W5.heap.size ∨ W6.heap.size ≤ b) := fun b hb => .inl (HL.out.log.blt b hb)
  have HN0 : Hid (w.heap.size ≤ W5.heap.size) := HS.out.size
  have HN01 : Hid (W5.heap.size ≤ W6.heap.size) := hcp.since.size
  replace HL := Lib.hid (HL.out.keep hcp.since)
  replace HS := Lib.hid (HS.out.trans' hcp.since)
  clear hcp
  have HSZ : Hid (W6.heap.size ≤ W6.heap.size) := Nat.le_refl _
  obtain ⟨N0, hN0⟩ : ∃ N, W5.heap.size = N := ⟨_, rfl⟩
  obtain ⟨N1, hN1⟩ : ∃ N, W6.heap.size = N := ⟨_, rfl⟩
  replace HSZ : Hid (N1 ≤ W6.heap.size) := by rw [hN1]; exact Nat.le_refl _
  rw [hN0, hN1] at HLB HFR HN01
  rw [hN0] at HN0
  clear hN0 hN1
  have HZ := Lib.hid (newer_any HL.out.log HFT.out i t)
  go_wp2_with fail
  (with_reducible refine Calls.mono HZ.out ?_)
  clear HZ
  rintro r W7 ⟨rfl, hs1⟩
  replace HL := Lib.hid (HL.out.keep hs1)
  replace HS := Lib.hid (HS.out.trans' hs1)
  replace HFR := Lib.hid (HFR.out.keep hs1)
  replace HSZ := Lib.hid (Nat.le_trans HSZ.out hs1.size)
  clear hs1
  have hZ := compact_anyB HL.out.log HFT.out (i := g.last.1 + 1) ⟨by have := HNUM.out; omega, by have := HNUM.out; omega⟩
  rw [HC1.out] at hZ
  have HZ := Lib.hid hZ
  clear hZ
  go_wp2_with fail
  (with_reducible refine Calls.mono HZ.out ?_)
  clear HZ
  rintro r W8 ⟨rfl, hl⟩
  obtain ⟨va, esva, h1, h2, h3⟩ := HL.out.step hl (Same.refl noB _)
  have HL2 := Lib.hid h1
  replace HFR := Lib.hid (HFR.out.same h2 (fun b _ e => HLB.out b e) (fun _ _ x => x))
  replace HS := Lib.hid (HS.out.trans h2 (fun b hb e => by have := HM0.out b e; omega))
  have hsz : N1 ≤ W8.heap.size := Nat.le_trans HSZ.out h2.size
  have HLB2 : Hid (∀ b, lgB M va b → b < N0 ∨ N1 ≤ b) := fun b hb => (h3 b hb).elim (HLB.out b) (fun e => .inr (Nat.le_trans HSZ.out e))
  have HM2 : Hid (∀ b, lgB M va b → w.heap.size ≤ b) := fun b hb => (h3 b hb).elim (HM0.out b) (fun e => Nat.le_trans (Nat.le_trans HN0.out (Nat.le_trans HN01.out HSZ.out)) e)
  clear HL HLB HM0 HSZ hl h1 h2 h3
  have HL := HL2
  have HLB := HLB2
  have HM0 := HM2
  have HSZ := Lib.hid hsz
  clear HL2 HLB2 HM2 hsz
  have hZ := compact_anyB HL.out.log HFT.out (i := g.base - 1) ⟨by have := HNUM.out; omega, by have := HNUM.out; omega⟩
  rw [HC2.out] at hZ
  have HZ := Lib.hid hZ
  clear hZ
  go_wp2_with fail
  (with_reducible refine Calls.mono HZ.out ?_)
  clear HZ
  rintro r W9 ⟨rfl, hl⟩
  obtain ⟨vb, esvb, h1, h2, h3⟩ := HL.out.step hl (Same.refl noB _)
  have HL2 := Lib.hid h1
  replace HFR := Lib.hid (HFR.out.same h2 (fun b _ e => HLB.out b e) (fun _ _ x => x))
  replace HS := Lib.hid (HS.out.trans h2 (fun b hb e => by have := HM0.out b e; omega))
  have hsz : N1 ≤ W9.heap.size := Nat.le_trans HSZ.out h2.size
  have HLB2 : Hid (∀ b, lgB M vb b → b < N0 ∨ N1 ≤ b) := fun b hb => (h3 b hb).elim (HLB.out b) (fun e => .inr (Nat.le_trans HSZ.out e))
  have HM2 : Hid (∀ b, lgB M vb b → w.heap.size ≤ b) := fun b hb => (h3 b hb).elim (HM0.out b) (fun e => Nat.le_trans (Nat.le_trans HN0.out (Nat.le_trans HN01.out HSZ.out)) e)
  clear HL HLB HM0 HSZ hl h1 h2 h3
  have HL := HL2
  have HLB := HLB2
  have HM0 := HM2
  have HSZ := Lib.hid hsz
  clear HL2 HLB2 HM2 hsz
  have hZ := compact_anyB HL.out.log HFT.out (i := g.base + a) ⟨by have := HNUM.out; omega, by have := HNUM.out; omega⟩
  rw [HCA.out] at hZ
  have HZ := Lib.hid hZ
  clear hZ
  go_wp2_with fail
  (with_reducible refine Calls.mono HZ.out ?_)
  clear HZ
  rintro r W10 ⟨rfl, hl⟩
  obtain ⟨vc, esvc, h1, h2, h3⟩ := HL.out.step hl (Same.refl noB _)
  have HL2 := Lib.hid h1
  replace HFR := Lib.hid (HFR.out.same h2 (fun b _ e => HLB.out b e) (fun _ _ x => x))
  replace HS := Lib.hid (HS.out.trans h2 (fun b hb e => by have := HM0.out b e; omega))
  have hsz : N1 ≤ W10.heap.size := Nat.le_trans HSZ.out h2.size
  have HLB2 : Hid (∀ b, lgB M vc b → b < N0 ∨ N1 ≤ b) := fun b hb => (h3 b hb).elim (HLB.out b) (fun e => .inr (Nat.le_trans HSZ.out e))
  have HM2 : Hid (∀ b, lgB M vc b → w.heap.size ≤ b) := fun b hb => (h3 b hb).elim (HM0.out b) (fun e => Nat.le_trans (Nat.le_trans HN0.out (Nat.le_trans HN01.out HSZ.out)) e)
  clear HL HLB HM0 HSZ hl h1 h2 h3
  have HL := HL2
  have HLB := HLB2
  have HM0 := HM2
  have HSZ := Lib.hid hsz
  clear HL2 HLB2 HM2 hsz
  have hg2 := (HINV.out.compact (g.base + a)).1
  rw [HCA.out] at hg2
  have hfr := Lg.compact_from (a := a) tt HNUM.out.2.2.1
  have hgo := Lg.compact_gone (g := g) (a := a) tt
  have hft2 : (⟨g.base + a, tt, g.es.drop a⟩ : Lg).Fit := ⟨by have := HNUM.out; simp only; omega, by have := HNUM.out; simp only [List.length_drop]; omega, by have := HNUM.out; simp only [List.length_drop]; omega⟩
  have hnw := Lg.newer_last HCL.out i t
  have HSM2 := Lib.hid hg2.sm
  have HFR2 := Lib.hid hfr
  have HGO := Lib.hid hgo
  have HFT2 := Lib.hid hft2
  have HNW := Lib.hid hnw
  clear hg2 hfr hgo hft2 hnw
  have HZ := Lib.hid (base_any HL.out.log)
  go_wp2_with fail
  (with_reducible refine Calls.mono HZ.out ?_)
  clear HZ
  rintro r W11 ⟨rfl, hs1⟩
  replace HL := Lib.hid (HL.out.keep hs1)
  replace HS := Lib.hid (HS.out.trans' hs1)
  replace HFR := Lib.hid (HFR.out.keep hs1)
  clear hs1
  have HZ := Lib.hid (last_any HL.out.log HFT2.out)
  rw [HCL.out] at HZ
  go_wp2_with fail
  (with_reducible refine Calls.mono HZ.out ?_)
  clear HZ
  rintro r W12 ⟨rfl, hs1⟩
  replace HL := Lib.hid (HL.out.keep hs1)
  replace HS := Lib.hid (HS.out.trans' hs1)
  replace HFR := Lib.hid (HFR.out.keep hs1)
  clear hs1
  have hZ := entry_any HL.out.log HFT2.out HSM2.out (i := g.base + a) ⟨by have := HNUM.out; omega, by have := HNUM.out; omega⟩
  rw [HGO.out] at hZ
  have HZ := Lib.hid hZ
  clear hZ
  go_wp2_with fail
  (with_reducible refine Calls.mono HZ.out ?_)
  clear HZ
  rintro r W13 ⟨e, rfl, _, hs1⟩
  replace HL := Lib.hid (HL.out.keep hs1)
  replace HS := Lib.hid (HS.out.trans' hs1)
  replace HFR := Lib.hid (HFR.out.keep hs1)
  clear hs1
  have HRE := Lib.hid (en_stored (Blk.new W13 57 en0.cells.toArray) e)
  have hsx : Same noB W13 ((W13.alloc (.cells en0.cells.toArray 57)).setRow W13.heap.size e.cells.toArray) := ((Same.refl noB W13).alloc _).trans HRE.out.2 (fun b hb e => by have h3 : b = W13.heap.size := e; omega)
  go_upto_region 19 with (refine wpList_store_row rfl 57 _ _ rfl W13.heap.size e.cells.toArray rfl rfl 57 _ (Blk.new W13 57 en0.cells.toArray) (by kernel_rfl) rfl (by kernel_rfl) ?_)
  refine wp_abs (fun W => Hid (Same noB W13 W)) hsx ?_
  rintro W14 HS1
  replace HS := Lib.hid (HS.out.trans' HS1.out)
  replace HL := Lib.hid (HL.out.keep HS1.out)
  replace HFR := Lib.hid (HFR.out.keep HS1.out)
  clear HS1 HRE hsx
  have hZ := from_any HL.out.log HFT2.out HSM2.out (i := 0) (most := 1000) ⟨by omega, by omega⟩ ⟨by omega, by omega⟩
  rw [HFR2.out] at hZ
  have HZ := Lib.hid hZ
  clear hZ
  go_wp2_with fail
  (with_reducible refine Calls.mono HZ.out ?_)
  clear HZ
  rintro r W15 ⟨rv2, rfl, res2, hcp⟩
  have HCP := Lib.hid hcp.enl
  replace HL := Lib.hid (HL.out.keep hcp.since)
  replace HS := Lib.hid (HS.out.trans' hcp.since)
  replace HFR := Lib.hid (HFR.out.keep hcp.since)
  clear hcp
  have HZ := Lib.hid (sameents_true HCP.out HFR.out)
  go_wp2_with fail
  (with_reducible refine Calls.mono HZ.out ?_)
  clear HZ
  rintro r W16 ⟨rfl, hs1⟩
  replace HL := Lib.hid (HL.out.keep hs1)
  replace HS := Lib.hid (HS.out.trans' hs1)
  clear hs1
  have HZ := Lib.hid (newer_any HL.out.log HFT2.out i t)
  rw [HNW.out] at HZ
  go_wp2_with fail
  (with_reducible refine Calls.mono HZ.out ?_)
  clear HZ
  rintro r W17 ⟨rfl, hs1⟩
  replace HL := Lib.hid (HL.out.keep hs1)
  replace HS := Lib.hid (HS.out.trans' hs1)
  clear hs1
  go_wp2_with fail
  go_ret
  exact ⟨rfl, HS.out⟩
end Go.Proofs.Ytlocfbjeljgblaa
