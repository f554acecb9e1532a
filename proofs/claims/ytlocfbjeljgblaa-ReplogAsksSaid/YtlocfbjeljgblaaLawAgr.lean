/- ReplogAgrees: its walk. (printed by genLawAgr.py) -/
import Derived.Test.YtlocfbjeljgblaaRepSK
namespace Go.Proofs.Ytlocfbjeljgblaa
open Go Go.RowKit
set_option maxRecDepth 100000

/-- A call with Fit set. -/
def OpV.fits (y : OpV) : OpV := ⟨y.k, y.a, y.b, true, y.es⟩
theorem OpV.Small.fits {y : OpV} (h : y.Small) : y.fits.Small := ⟨h.n, h.a, h.b, h.sm⟩
theorem op_one {w : World} {x : OpR} {y : OpV} (hx : OpIs w noB x y) : OpL (w.alloc (.cells x.cells.toArray 35)) noB (.slice (some ⟨w.heap.size, 0, none⟩) 1 1) [x] [y] :=
  ⟨Rd.of_blk (Blk.new w 35 (ocells [x]).toArray) (fun x => x) rfl (Nat.le_refl _) (by simp [maxLen]), .cons (hx.keep ((Same.refl _ _).alloc _)) .nil⟩
theorem OpL.cut {w W : World} {B : Nat → Prop} {v : Value} {os : List OpR} {ys : List OpV} (h : OpL w noB v os ys) (hs : Same noB w W) (hB : ∀ b, B b → w.heap.size ≤ b) : OpL W B v os ys :=
  h.same hs (fun _ _ x => x.elim) (fun b hb hx => by have := hB b hx; omega)
theorem OpIs.cut {w W : World} {B : Nat → Prop} {x : OpR} {y : OpV} (h : OpIs w noB x y) (hs : Same noB w W) (hB : ∀ b, B b → w.heap.size ≤ b) : OpIs W B x y :=
  h.same hs (fun _ _ x => x.elim) (fun b hb hx => by have := hB b hx; omega)
theorem run_bd {ys : List OpV} (hs : ∀ y ∈ ys, y.Small) : ((Lg.new 0 0).runK ys ys.length).Bd ys.length := Lg.runK_bd (Lg.Bd.new_ (i := 0) (t := 0) (by omega) 0) hs (Nat.le_refl _)
set_option maxHeartbeats 16000000 in
theorem lawAgrees_any {w : World} {ov pv : Value} {os ps : List OpR} {ys zs : List OpV} {x : OpR} {y : OpV} (ho : OpL w noB ov os ys) (hp : OpL w noB pv ps zs) (hx : OpIs w noB x y) :
    Calls Try.prog 4 #[ov, pv, x.val] w fun r w' => r = .returned (.bool true) ∧ Same noB w w' := by
  have hol := ho.is.len
  have hpl := hp.is.len
  have HO := Lib.hid ho
  have HP := Lib.hid hp
  have HOL := Lib.hid (And.intro hol hpl)
  have HX0 := Lib.hid hx
  obtain ⟨xk, xa, xb, xf, ⟨XA, xn, xc⟩⟩ := x
  obtain ⟨xes, hn, he⟩ := hx.l
  have h2 := hx.a
  have h3 := hx.b
  simp only at hn he h2 h3
  subst hn
  have HX := Lib.hid (And.intro he (And.intro h2 h3))
  clear hx ho hp hol hpl he h2 h3
  unfold OpR.val
  dsimp only
  go_enter Try.func4, Try.ntmps4
  go_upto_region 1 with (fail)
  refine wp_abs (fun W => Hid (Blk W w.heap.size 35 #[.int .i64 xk, .int .i64 xa, .int .i64 xb, .bool xf, .slice XA xes.length xc]) ∧ Hid (Same noB w W)) ⟨Blk.new w 35 _, (Same.refl _ _).alloc _⟩ ?_
  rintro W0 ⟨HN, HS⟩
  have HWN : Hid (w.heap.size = w.heap.size) := rfl
  obtain ⟨N, hN⟩ : ∃ N, w.heap.size = N := ⟨_, rfl⟩
  replace HWN : Hid (w.heap.size = N) := hN
  rw [hN] at HN ⊢
  clear hN
  go_wp2_with fail
  (with_reducible refine Calls.mono (awake_any W0) ?_)
  rintro r Wa ⟨rfl, hs1⟩
  replace HN := Lib.hid (HN.out.same hs1 (fun x => x))
  replace HS := Lib.hid (HS.out.trans' hs1)
  clear hs1
  go_wp2_with fail
  (with_reducible refine Calls.mono (few10_any (HO.out.keep HS.out) 10) ?_)
  rintro r Wb ⟨qa, rfl, hqa, hs1⟩
  replace HN := Lib.hid (HN.out.same hs1 (fun x => x))
  replace HS := Lib.hid (HS.out.trans' hs1)
  have HQA := Lib.hid hqa
  clear hs1 hqa
  cases qa with
  | false =>
    go_wp2_with fail
    go_ret
    exact ⟨rfl, HS.out⟩
  | true =>
  go_wp2_with fail
  (with_reducible refine Calls.mono (few10_any (HP.out.keep HS.out) 10) ?_)
  rintro r Wc ⟨qb, rfl, hqb, hs1⟩
  replace HN := Lib.hid (HN.out.same hs1 (fun x => x))
  replace HS := Lib.hid (HS.out.trans' hs1)
  have HQB := Lib.hid hqb
  clear hs1 hqb
  cases qb with
  | false =>
    go_wp2_with fail
    go_ret
    exact ⟨rfl, HS.out⟩
  | true =>
  have x0 := HN.out.cell 0
  have x1 := HN.out.cell 1
  have x2 := HN.out.cell 2
  have x3 := HN.out.cell 3
  have x4 := HN.out.cell 4
  simp only [List.getElem?_toArray, List.getElem?_cons_zero, List.getElem?_cons_succ] at x0 x1 x2 x3 x4
  have hZ : Calls Try.prog 10 #[.slice (some ⟨Wc.heap.size, 0, none⟩) 1 1, .int .i64 1] (Wc.alloc (.cells #[.int .i64 xk, .int .i64 xa, .int .i64 xb, .bool xf, .slice XA xes.length xc] 35)) (FewsP (Wc.alloc (.cells #[.int .i64 xk, .int .i64 xa, .int .i64 xb, .bool xf, .slice XA xes.length xc] 35)) [y] 1) := few10_any (op_one (HX0.out.keep HS.out)) 1
  have HZ := Lib.hid hZ
  clear hZ
  go_wp2_with fail
  (with_reducible refine Calls.mono HZ.out ?_)
  clear HZ x0 x1 x2 x3 x4
  rintro r Wd ⟨qc, rfl, hqc, hs1⟩
  replace hs1 : Same noB Wc Wd := ((Same.refl noB Wc).alloc _).trans' hs1
  replace HN := Lib.hid (HN.out.same hs1 (fun x => x))
  replace HS := Lib.hid (HS.out.trans' hs1)
  have HQC := Lib.hid hqc
  clear hs1 hqc
  cases qc with
  | false =>
    go_wp2_with fail
    go_ret
    exact ⟨rfl, HS.out⟩
  | true =>
  have hqa := HQA.out (by trivial)
  have hqb := HQB.out (by trivial)
  have hys : y.Small := (HQC.out (by trivial)).2 y (List.mem_cons_self ..)
  have HYS := Lib.hid hys
  have HY1 : Hid (ys.length ≤ 90 ∧ ∀ y ∈ ys, y.Small) := ⟨by omega, hqa.2⟩
  have HY2 : Hid (zs.length ≤ 90 ∧ ∀ y ∈ zs, y.Small) := ⟨by omega, hqb.2⟩
  have HBD1 : Hid (((Lg.new 0 0).runK ys os.length).Bd ys.length ∧ ys.length ≤ 10) := ⟨by rw [HOL.out.1]; exact run_bd hqa.2, by omega⟩
  have HBD2 : Hid (((Lg.new 0 0).runK zs ps.length).Bd zs.length ∧ zs.length ≤ 10) := ⟨by rw [HOL.out.2]; exact run_bd hqb.2, by omega⟩
  clear hqa hqb hys HQA HQB HQC HOL
  obtain ⟨g1, hg1⟩ : ∃ g1, (Lg.new 0 0).runK ys os.length = g1 := ⟨_, rfl⟩
  have hr1 := run_any (w := Wd) (B := oneB N) (HO.out.cut HS.out (fun b e => by have h3 : b = N := e; have := HWN.out; omega)) (fun b e => by have h3 : b = N := e; have := HN.out.lt; omega) HY1.out.1 HY1.out.2
  rw [hg1] at hr1 HBD1
  have HR1 := Lib.hid hr1
  clear hr1 hg1 HO HY1
  go_wp2_with fail
  (with_reducible refine Calls.mono HR1.out ?_)
  clear HR1
  rintro r W1 ⟨M1, v1, es1, L1, n1, c1, ls1, rfl, hst, hs1, hm⟩
  have HL1 := Lib.hid hst.sl
  have HM1 : Hid (∀ b, lgB M1 v1 b → N < b) := fun b hb => by have := hm b hb; have := HN.out.lt; omega
  replace HN := Lib.hid (HN.out.same hs1 (fun x => x))
  replace HS := Lib.hid (HS.out.trans' hs1)
  clear hst hs1 hm
  have HRX := Lib.hid (row_stored (Blk.new W1 29 #[.int .i64 0, .int .i64 0, .slice none 0 0]) #[.int .i64 g1.base, .int .i64 g1.term, .slice L1 n1 c1])
  have hsx : Same noB W1 ((W1.alloc (.cells #[.int .i64 0, .int .i64 0, .slice none 0 0] 29)).setRow W1.heap.size #[.int .i64 g1.base, .int .i64 g1.term, .slice L1 n1 c1]) := ((Same.refl noB W1).alloc _).trans HRX.out.2 (fun b hb e => by have h3 : b = W1.heap.size := e; omega)
  go_upto_region 6 with (refine wpList_store_row rfl 29 _ _ rfl W1.heap.size #[.int .i64 g1.base, .int .i64 g1.term, .slice L1 n1 c1] rfl rfl 29 _ (Blk.new W1 29 #[.int .i64 0, .int .i64 0, .slice none 0 0]) (by kernel_rfl) rfl (row29_one g1.base g1.term L1 n1 c1) ?_)
  refine wp_abs (fun W => Hid (Same noB W1 W)) hsx ?_
  rintro W2 HS1
  replace HN := Lib.hid (HN.out.same HS1.out (fun x => x))
  replace HS := Lib.hid (HS.out.trans' HS1.out)
  replace HL1 := Lib.hid (HL1.out.keep HS1.out)
  clear HS1 HRX hsx
  obtain ⟨g2, hg2⟩ : ∃ g2, (Lg.new 0 0).runK zs ps.length = g2 := ⟨_, rfl⟩
  have hr1 := run_any (w := W2) (B := fun b => b = N ∨ lgB M1 v1 b) (HP.out.cut HS.out (fun b e => by have := HWN.out; rcases e with e | e; omega; have := HM1.out b e; omega)) (fun b e => by rcases e with e | e; have := HN.out.lt; omega; exact HL1.out.log.blt b e) HY2.out.1 HY2.out.2
  rw [hg2] at hr1 HBD2
  have HR1 := Lib.hid hr1
  clear hr1 hg2 HP HY2
  go_wp2_with fail
  (with_reducible refine Calls.mono HR1.out ?_)
  clear HR1
  rintro r W3 ⟨M2, v2, es2, L2, n2, c2, ls2, rfl, hst, hs1, hm⟩
  have HL2 := Lib.hid hst.sl
  have HM2 : Hid (∀ b, lgB M2 v2 b → N < b) := fun b hb => by have := hm b hb; have := HN.out.lt; omega
  replace HL1 : Hid (SL (fun b => b = N ∨ lgB M2 v2 b) W3 M1 v1 es1 g1) := HL1.out.more hs1 (fun b hb => hb.elim (fun e => .inl e) (fun e => .inr ⟨hm b e, hst.log.blt b e⟩))
  replace HN := Lib.hid (HN.out.same hs1 (fun x => x))
  replace HS := Lib.hid (HS.out.trans' hs1)
  clear hst hs1 hm
  have HRX := Lib.hid (row_stored (Blk.new W3 29 #[.int .i64 0, .int .i64 0, .slice none 0 0]) #[.int .i64 g2.base, .int .i64 g2.term, .slice L2 n2 c2])
  have hsx : Same noB W3 ((W3.alloc (.cells #[.int .i64 0, .int .i64 0, .slice none 0 0] 29)).setRow W3.heap.size #[.int .i64 g2.base, .int .i64 g2.term, .slice L2 n2 c2]) := ((Same.refl noB W3).alloc _).trans HRX.out.2 (fun b hb e => by have h3 : b = W3.heap.size := e; omega)
  go_upto_region 9 with (refine wpList_store_row rfl 29 _ _ rfl W3.heap.size #[.int .i64 g2.base, .int .i64 g2.term, .slice L2 n2 c2] rfl rfl 29 _ (Blk.new W3 29 #[.int .i64 0, .int .i64 0, .slice none 0 0]) (by kernel_rfl) rfl (row29_one g2.base g2.term L2 n2 c2) ?_)
  refine wp_abs (fun W => Hid (Same noB W3 W)) hsx ?_
  rintro W4 HS1
  replace HN := Lib.hid (HN.out.same HS1.out (fun x => x))
  replace HS := Lib.hid (HS.out.trans' HS1.out)
  replace HL1 := Lib.hid (HL1.out.keep HS1.out)
  replace HL2 := Lib.hid (HL2.out.keep HS1.out)
  clear HS1 HRX hsx
  have x3 := HN.out.cell 3
  have z3 := HN.out.frozen 3
  simp only [List.getElem?_toArray, List.getElem?_cons_zero, List.getElem?_cons_succ] at x3
  have HN5 := Lib.hid (HN.out.set_ 3 (.bool true))
  have HS5 := Lib.hid ((Same.refl (oneB N) W4).set1 3 (.bool true))
  go_upto_region 10 with (fail)
  refine wp_abs (fun W => Hid (Blk W N 35 #[.int .i64 xk, .int .i64 xa, .int .i64 xb, .bool true, .slice XA xes.length xc]) ∧ Hid (Same noB w W) ∧ Hid (SL (fun b => b = N ∨ lgB M2 v2 b) W M1 v1 es1 g1) ∧ Hid (SL (fun b => b = N ∨ lgB M1 v1 b) W M2 v2 es2 g2)) ⟨HN5.out, HS.out.trans HS5.out (fun b hb e => by have h3 : b = N := e; have := HWN.out; omega), HL1.out.put HS5.out (fun b e => .inl e), HL2.out.put HS5.out (fun b e => .inl e)⟩ ?_
  clear HN HS HL1 HL2 HN5 HS5 x3 z3
  rintro W5 ⟨HN, HS, HL1, HL2⟩
  have x0 := HN.out.cell 0
  have x1 := HN.out.cell 1
  have x2 := HN.out.cell 2
  have x3 := HN.out.cell 3
  have x4 := HN.out.cell 4
  simp only [List.getElem?_toArray, List.getElem?_cons_zero, List.getElem?_cons_succ] at x0 x1 x2 x3 x4
  have hZ := fit_any (w := W5) (bad := fun b => lgB M1 v1 b ∨ lgB M2 v2 b) (fun b hb => hb.elim (HL1.out.log.blt b) (HL2.out.log.blt b)) (x := ⟨xk, xa, xb, true, ⟨XA, xes.length, xc⟩⟩) (v := y.fits) (by
    have h := HX0.out.cut (B := fun b => lgB M1 v1 b ∨ lgB M2 v2 b) HS.out (fun b hb => by have := HWN.out; rcases hb with hb | hb; have := HM1.out b hb; omega; have := HM2.out b hb; omega)
    exact ⟨h.k, h.a, h.b, rfl, h.l⟩) HYS.out.fits
  unfold OpR.val at hZ
  dsimp only at hZ
  have HFL := Lib.hid HYS.out.fits.fitL
  obtain ⟨vs, hvs⟩ : ∃ vs, y.fits.fitL = vs := ⟨_, rfl⟩
  rw [hvs] at hZ HFL
  clear hvs
  have HZ := Lib.hid hZ
  clear hZ
  go_wp2_with fail
  (with_reducible refine Calls.mono HZ.out ?_)
  clear HZ x0 x1 x2 x3 x4 HX0
  rintro r W6 ⟨fv, fs, rfl, hfe, hs1⟩
  have HFE := Lib.hid hfe
  replace HN := Lib.hid (HN.out.same hs1 (fun x => x))
  replace HS := Lib.hid (HS.out.trans' hs1)
  replace HL1 := Lib.hid (HL1.out.keep hs1)
  replace HL2 := Lib.hid (HL2.out.keep hs1)
  clear hfe hs1
  have hxa : -1099511627776 ≤ xa ∧ xa ≤ 1099511627776 := by have := HYS.out.a; have := HX.out.2.1; omega
  have HXA := Lib.hid hxa
  clear hxa HX HYS
  -- the first merge
  obtain ⟨⟨ga, q1, want1, ok1⟩, hm1⟩ : ∃ p, g1.merge xa xb vs = p := ⟨_, rfl⟩
  obtain ⟨⟨gb, q2, want2, ok2⟩, hm2⟩ : ∃ p, g2.merge xa xb vs = p := ⟨_, rfl⟩
  have HZ1 := Lib.hid (sl_merge HL1.out (HBD1.out.1.fit (by have := HBD1.out.2; omega)) (HBD1.out.1.last (by have := HBD1.out.2; omega)) HFE.out (fun b hb => .inl hb) HFL.out.2 (by have := HFL.out.1; omega) (by have := HXA.out; omega) (by have := HXA.out; omega) hm1)
  have HFI1 := Lib.hid (HBD1.out.1.merge xa xb HFL.out.1 HFL.out.2)
  have HFI2 := Lib.hid (HBD2.out.1.merge xa xb HFL.out.1 HFL.out.2)
  rw [hm1] at HFI1
  rw [hm2] at HFI2
  have HM := Lib.hid (And.intro hm1 hm2)
  clear hm1 hm2
  have x1 := HN.out.cell 1
  have x2 := HN.out.cell 2
  simp only [List.getElem?_toArray, List.getElem?_cons_zero, List.getElem?_cons_succ] at x1 x2
  go_wp2_with fail
  (with_reducible refine Calls.mono HZ1.out ?_)
  clear HZ1 x1 x2
  rintro r W7 ⟨O1, oc1, va, esa, rfl, hl, hs1, hbb⟩
  have HLA : Hid (SL (fun b => b = N ∨ lgB M2 v2 b) W7 M1 va esa ga) := hl
  have HLB : Hid (SL (fun b => b = N ∨ lgB M1 v1 b) W7 M2 v2 es2 g2) := HL2.out.put hs1 (fun b e => .inr e)
  replace HFE : Hid (EnL W7 (fun b => lgB M1 v1 b ∨ lgB M2 v2 b) fv fs vs) := HFE.out.same hs1 (fun b _ e => .inl e) (fun _ _ x => x)
  replace HN := Lib.hid (HN.out.same hs1 (fun e => by have := HM1.out N e; omega))
  replace HS := Lib.hid (HS.out.trans hs1 (fun b hb e => by have := HM1.out b e; have := HWN.out; omega))
  clear hl hs1 hbb HL1 HL2
  have HZ2 := Lib.hid (sl_merge HLB.out (HBD2.out.1.fit (by have := HBD2.out.2; omega)) (HBD2.out.1.last (by have := HBD2.out.2; omega)) HFE.out (fun b hb => .inr hb) HFL.out.2 (by have := HFL.out.1; omega) (by have := HXA.out; omega) (by have := HXA.out; omega) HM.out.2)
  have x1 := HN.out.cell 1
  have x2 := HN.out.cell 2
  simp only [List.getElem?_toArray, List.getElem?_cons_zero, List.getElem?_cons_succ] at x1 x2
  go_wp2_with fail
  (with_reducible refine Calls.mono HZ2.out ?_)
  clear HZ2 x1 x2
  rintro r W8 ⟨O2, oc2, vb, esb, rfl, hl, hs1, hbb⟩
  replace HLB := Lib.hid hl.log
  replace HLA := Lib.hid (HLA.out.put hs1 (fun b e => .inr e)).log
  replace HN := Lib.hid (HN.out.same hs1 (fun e => by have := HM2.out N e; omega))
  replace HS := Lib.hid (HS.out.trans hs1 (fun b hb e => by have := HM2.out b e; have := HWN.out; omega))
  clear hl hs1 hbb HFE HM1 HM2
  cases ok1 with
  | false =>
    go_wp2_with fail
    go_ret
    exact ⟨rfl, HS.out⟩
  | true =>
  cases ok2 with
  | false =>
    go_wp2_with fail
    go_ret
    exact ⟨rfl, HS.out⟩
  | true =>
  obtain ⟨hq1, hk1⟩ := Lg.merge_ok HM.out.1
  obtain ⟨hq2, hk2⟩ := Lg.merge_ok HM.out.2
  have HK1 := Lib.hid hk1
  have HK2 := Lib.hid hk2
  have HFA := Lib.hid (HFI1.out.fit (by have := HBD1.out.2; omega))
  have HFB := Lib.hid (HFI2.out.fit (by have := HBD2.out.2; omega))
  have HVL : Hid (vs.length ≤ 8) := HFL.out.1
  clear hk1 hk2 HFI1 HFI2 HBD1 HBD2 HFL HM
  subst hq2
  subst hq1
  have x1 := HN.out.cell 1
  simp only [List.getElem?_toArray, List.getElem?_cons_zero, List.getElem?_cons_succ] at x1
  have hw0 : IntKind.i64.wrap (xa + 1) = xa + 1 := IntWalk.i64_in _ (by have := HXA.out; omega)
  obtain ⟨z, hz⟩ : ∃ z, xa + (vs.length : Int) = z := ⟨_, rfl⟩
  have HZE := Lib.hid hz
  rw [hz]
  clear hz
  go_upto_region 16 with (fail)
  clear x1
  go_loopg [18] (vs.length) (fun gk q wr => ∃ (k : Nat) (j : Int), k ≤ vs.length ∧ Hid (gk + k = vs.length) ∧ q = .int .i64 j ∧ Hid (j = xa + 1 + k) ∧ Hid (LogIs wr M1 va esa ga ∧ LogIs wr M2 vb esb gb ∧ Same noB w wr))
  case atStart => exact ⟨0, _, Nat.zero_le _, rfl, rfl, by show _ = _; simp, HLA.out, HLB.out, HS.out⟩
  case round =>
    clear HLA HLB HS
    obtain ⟨k, j, hk, HK, rfl, HJ, HL⟩ := hrel
    by_cases hlt : k < vs.length
    · have hj0 : decide (j ≤ z) = true := decide_eq_true (by have := HJ.out; have := HZE.out; omega)
      have hw : IntKind.i64.wrap (j + 1) = j + 1 := IntWalk.i64_in _ (by have := HXA.out; have := HJ.out; have := HVL.out; omega)
      obtain ⟨e, he⟩ : ∃ e, vs[k]? = some e := ⟨_, List.getElem?_eq_getElem hlt⟩
      have hej : e.i = j := by have h1 := follow_at HK1.out.fol he; have := HJ.out; omega
      have h1 := fun h => HK1.out.term_eq he h
      have h2 := fun h => HK2.out.term_eq he h
      rw [hej] at h1 h2
      have hji : inI64 j := ⟨by have := HXA.out; have := HJ.out; omega, by have := HXA.out; have := HJ.out; have := HVL.out; omega⟩
      have hZ1 := fun (W : World) (hs : Same noB wr W) => term_any (HL.out.1.keep hs) HFA.out hji
      have hZ2 := fun (W : World) (hs : Same noB wr W) => term_any (HL.out.2.1.keep hs) HFB.out hji
      obtain ⟨⟨s1, p1⟩, hs1⟩ : ∃ p, ga.termAt j = p := ⟨_, rfl⟩
      obtain ⟨⟨s2, p2⟩, hs2⟩ : ∃ p, gb.termAt j = p := ⟨_, rfl⟩
      rw [hs1] at h1 hZ1
      rw [hs2] at h2 hZ2
      have HZ1 := Lib.hid hZ1
      have HZ2 := Lib.hid hZ2
      have HEQ : Hid (p1 = true → p2 = true → s1 = s2) := fun a b => (h1 a).trans (h2 b).symm
      clear h1 h2 hZ1 hZ2 hs1 hs2 he hej hji
      go_wp2_with fail
      (with_reducible refine Calls.mono (HZ1.out wr (Same.refl _ _)) ?_)
      clear HZ1
      rintro r Wm ⟨rfl, hs1⟩
      go_wp2_with fail
      (with_reducible refine Calls.mono (HZ2.out Wm hs1) ?_)
      clear HZ2
      rintro r Wn ⟨rfl, hs2⟩
      replace HL : Hid (LogIs Wn M1 va esa ga ∧ LogIs Wn M2 vb esb gb ∧ Same noB w Wn) := ⟨HL.out.1.keep (hs1.trans' hs2), HL.out.2.1.keep (hs1.trans' hs2), HL.out.2.2.trans' (hs1.trans' hs2)⟩
      clear hs1 hs2
      cases p1 with
      | false =>
        go_wp2_with fail
        go_roundg (gk - 1)
        case measure => have h1 := HK.out; omega
        case rel => exact ⟨k + 1, _, by omega, by show _ = _; have h1 := HK.out; omega, rfl, by show _ = _; have := HJ.out; omega, HL.out⟩
      | true =>
        cases p2 with
        | false =>
          go_wp2_with fail
          go_roundg (gk - 1)
          case measure => have h1 := HK.out; omega
          case rel => exact ⟨k + 1, _, by omega, by show _ = _; have h1 := HK.out; omega, rfl, by show _ = _; have := HJ.out; omega, HL.out⟩
        | true =>
          obtain rfl := HEQ.out rfl rfl
          go_wp2_with fail
          go_roundg (gk - 1)
          case measure => have h1 := HK.out; omega
          case rel => exact ⟨k + 1, _, by omega, by show _ = _; have h1 := HK.out; omega, rfl, by show _ = _; have := HJ.out; omega, HL.out⟩
    · have hj0 : decide (j ≤ z) = false := decide_eq_false (by have := HJ.out; have := HZE.out; omega)
      go_wp2_with fail
      go_ret
      exact ⟨rfl, HL.out.2.2⟩
end Go.Proofs.Ytlocfbjeljgblaa
