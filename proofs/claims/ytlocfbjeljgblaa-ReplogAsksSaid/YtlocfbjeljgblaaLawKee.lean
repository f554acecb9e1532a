/- ReplogKeeps: its walk. (printed by genLawKee.py) -/
import Derived.Test.YtlocfbjeljgblaaRepSN
namespace Go.Proofs.Ytlocfbjeljgblaa
open Go Go.RowKit
set_option maxRecDepth 100000

theorem enl_two {W : World} {bad bad' : Nat → Prop} {e e2 : En} {x : EnV} (h2 : EnIs W bad e2 x) (h : EnIs W bad' e x) :
    EnL ((W.alloc (.cells e2.cells.toArray 57)).alloc (.cells e.cells.toArray 57)) noB (.slice (some ⟨W.heap.size, 0, none⟩) 1 1) [e2] [x] ∧ EnL ((W.alloc (.cells e2.cells.toArray 57)).alloc (.cells e.cells.toArray 57)) noB (.slice (some ⟨W.heap.size + 1, 0, none⟩) 1 1) [e] [x] := by
  refine ⟨enl_one h2 _, ?_⟩
  have hs := ((Same.refl noB W).alloc (.cells e2.cells.toArray 57)).alloc (.cells e.cells.toArray 57)
  have hb := Blk.new (W.alloc (.cells e2.cells.toArray 57)) 57 (ecells [e]).toArray
  rw [World.size_alloc] at hb
  exact ⟨Rd.of_blk hb (fun x => x) rfl (Nat.le_refl _) (by simp [maxLen]), .cons (h.same hs (fun _ _ x => x.elim) (fun _ _ x => x.elim)) .nil⟩
/-- What the loops of Keeps hold on to. -/
structure KeI (w W : World) (M N : Nat) (v : Value) (es : List En) (g : Lg) (bv av fv : Value) (bs ats fs : List En) (bl al vs : List EnV) (xa xb : Int) (oc : Array Value) (n2 n3 : Nat) : Prop where
  log : SL (oneB N) W M v es g
  box : Blk W N 35 oc
  bef : EnL W noB bv bs bl
  aft : EnL W (fun b => b < n2 ∨ n3 ≤ b) av ats al
  ent : EnL W (lgB M v) fv fs vs
  since : Same noB w W
  m0 : ∀ b, lgB M v b → w.heap.size ≤ b ∧ b < n2
  nn : n2 ≤ n3 ∧ n3 ≤ W.heap.size
theorem KeI.keep {w W W' : World} {M N n2 n3 : Nat} {v bv av fv : Value} {es bs ats fs : List En} {g : Lg} {bl al vs : List EnV} {xa xb : Int} {oc : Array Value} (h : KeI w W M N v es g bv av fv bs ats fs bl al vs xa xb oc n2 n3) (hs : Same noB W W') : KeI w W' M N v es g bv av fv bs ats fs bl al vs xa xb oc n2 n3 :=
  ⟨h.log.keep hs, h.box.same hs (fun x => x), h.bef.keep hs, h.aft.keep hs, h.ent.keep hs, h.since.trans' hs, h.m0, ⟨h.nn.1, Nat.le_trans h.nn.2 hs.size⟩⟩
def KeS (b o j p : Nat) (i1 t1 i2 t2 : Int) (W : World) : Prop := W.cell? ⟨b, o + j * 15, none⟩ = some (.int .i64 i1) ∧ W.cell? ⟨b, o + j * 15 + 1, none⟩ = some (.int .i64 t1) ∧ W.cell? ⟨b, o + p * 15, none⟩ = some (.int .i64 i2) ∧ W.cell? ⟨b, o + p * 15 + 1, none⟩ = some (.int .i64 t2)
set_option maxHeartbeats 32000000 in
theorem lawKeeps_any {w : World} {ov : Value} {os : List OpR} {ys : List OpV} {x : OpR} {y : OpV} (ho : OpL w noB ov os ys) (hx : OpIs w noB x y) :
    Calls Try.prog 5 #[ov, x.val] w fun r w' => r = .returned (.bool true) ∧ Same noB w w' := by
  have HOL := Lib.hid ho.is.len
  have HO := Lib.hid ho
  have HX0 := Lib.hid hx
  obtain ⟨xk, xa, xb, xf, ⟨XA, xn, xc⟩⟩ := x
  obtain ⟨xes, hn, he⟩ := hx.l
  have h2 := hx.a
  simp only at hn he h2
  subst hn
  have HX := Lib.hid h2
  clear hx ho he h2
  unfold OpR.val
  dsimp only
  go_enter Try.func5, Try.ntmps5
  go_upto_region 1 with (fail)
  refine wp_abs (fun W => Hid (Blk W w.heap.size 35 #[.int .i64 xk, .int .i64 xa, .int .i64 xb, .bool xf, .slice XA xes.length xc]) ∧ Hid (Same noB w W)) ⟨Blk.new w 35 _, (Same.refl _ _).alloc _⟩ ?_
  rintro W0 ⟨HN, HS⟩
  have HWN : Hid (w.heap.size = w.heap.size) := rfl
  obtain ⟨N, hN⟩ : ∃ N, w.heap.size = N := ⟨_, rfl⟩
  replace HWN : Hid (w.heap.size = N) := hN
  rw [hN] at HN ⊢
  clear hN
  go_wp2_with fail
  (with_reducible refine Calls.mono (awake_any W0) ?_)
  rintro r Wa ⟨rfl, hs1⟩
  replace HN := Lib.hid (HN.out.same hs1 (fun x => x))
  replace HS := Lib.hid (HS.out.trans' hs1)
  clear hs1
  go_wp2_with fail
  (with_reducible refine Calls.mono (few10_any (HO.out.keep HS.out) 12) ?_)
  rintro r Wc ⟨qa, rfl, hqa, hs1⟩
  replace HN := Lib.hid (HN.out.same hs1 (fun x => x))
  replace HS := Lib.hid (HS.out.trans' hs1)
  have HQA := Lib.hid hqa
  clear hs1 hqa
  cases qa with
  | false =>
    go_wp2_with fail
    go_ret
    exact ⟨rfl, HS.out⟩
  | true =>
  have x0 := HN.out.cell 0
  have x1 := HN.out.cell 1
  have x2 := HN.out.cell 2
  have x3 := HN.out.cell 3
  have x4 := HN.out.cell 4
  simp only [List.getElem?_toArray, List.getElem?_cons_zero, List.getElem?_cons_succ] at x0 x1 x2 x3 x4
  have hZ : Calls Try.prog 10 #[.slice (some ⟨Wc.heap.size, 0, none⟩) 1 1, .int .i64 1] (Wc.alloc (.cells #[.int .i64 xk, .int .i64 xa, .int .i64 xb, .bool xf, .slice XA xes.length xc] 35)) (FewsP (Wc.alloc (.cells #[.int .i64 xk, .int .i64 xa, .int .i64 xb, .bool xf, .slice XA xes.length xc] 35)) [y] 1) := few10_any (op_one (HX0.out.keep HS.out)) 1
  have HZ := Lib.hid hZ
  clear hZ
  go_wp2_with fail
  (with_reducible refine Calls.mono HZ.out ?_)
  clear HZ x0 x1 x2 x3 x4
  rintro r Wd ⟨qc, rfl, hqc, hs1⟩
  replace hs1 : Same noB Wc Wd := ((Same.refl noB Wc).alloc _).trans' hs1
  replace HN := Lib.hid (HN.out.same hs1 (fun x => x))
  replace HS := Lib.hid (HS.out.trans' hs1)
  have HQC := Lib.hid hqc
  clear hs1 hqc
  cases qc with
  | false =>
    go_wp2_with fail
    go_ret
    exact ⟨rfl, HS.out⟩
  | true =>
  have hqa := HQA.out (by trivial)
  have hys : y.Small := (HQC.out (by trivial)).2 y (List.mem_cons_self ..)
  have HYS := Lib.hid hys
  have HBD : Hid (((Lg.new 0 0).runK ys os.length).Bd ys.length ∧ ys.length ≤ 12) := ⟨by rw [HOL.out]; exact run_bd hqa.2, by omega⟩
  obtain ⟨g, hg⟩ : ∃ g, (Lg.new 0 0).runK ys os.length = g := ⟨_, rfl⟩
  have hr1 := run_any (w := Wd) (B := oneB N) (HO.out.cut HS.out (fun b e => by have h3 : b = N := e; have := HWN.out; omega)) (fun b e => by have h3 : b = N := e; have := HN.out.lt; omega) (by omega) hqa.2
  rw [hg] at hr1 HBD
  have HR1 := Lib.hid hr1
  clear hr1 hg HO HQA HQC HOL hqa hys
  go_wp2_with fail
  (with_reducible refine Calls.mono HR1.out ?_)
  clear HR1
  rintro r W1 ⟨M, v, es, L1, n1, c1, ls1, rfl, hst, hs1, hm⟩
  have HL := Lib.hid hst.sl
  have HM0 : Hid (∀ b, lgB M v b → N < b) := fun b hb => by have := hm b hb; have := HN.out.lt; omega
  replace HN := Lib.hid (HN.out.same hs1 (fun x => x))
  replace HS := Lib.hid (HS.out.trans' hs1)
  clear hst hs1 hm
  have HRX := Lib.hid (row_stored (Blk.new W1 29 #[.int .i64 0, .int .i64 0, .slice none 0 0]) #[.int .i64 g.base, .int .i64 g.term, .slice L1 n1 c1])
  have hsx : Same noB W1 ((W1.alloc (.cells #[.int .i64 0, .int .i64 0, .slice none 0 0] 29)).setRow W1.heap.size #[.int .i64 g.base, .int .i64 g.term, .slice L1 n1 c1]) := ((Same.refl noB W1).alloc _).trans HRX.out.2 (fun b hb e => by have h3 : b = W1.heap.size := e; omega)
  go_upto_region 8 with (refine wpList_store_row rfl 29 _ _ rfl W1.heap.size #[.int .i64 g.base, .int .i64 g.term, .slice L1 n1 c1] rfl rfl 29 _ (Blk.new W1 29 #[.int .i64 0, .int .i64 0, .slice none 0 0]) (by kernel_rfl) rfl (row29_one g.base g.term L1 n1 c1) ?_)
  refine wp_abs (fun W => Hid (Same noB W1 W)) hsx ?_
  rintro W2 HS1
  replace HN := Lib.hid (HN.out.same HS1.out (fun x => x))
  replace HS := Lib.hid (HS.out.trans' HS1.out)
  replace HL := Lib.hid (HL.out.keep HS1.out)
  clear HS1 HRX hsx
  have x3 := HN.out.cell 3
  have z3 := HN.out.frozen 3
  simp only [List.getElem?_toArray, List.getElem?_cons_zero, List.getElem?_cons_succ] at x3
  have HN5 := Lib.hid (HN.out.set_ 3 (.bool true))
  have HS5 := Lib.hid ((Same.refl (oneB N) W2).set1 3 (.bool true))
  go_upto_region 9 with (fail)
  refine wp_abs (fun W => Hid (Blk W N 35 #[.int .i64 xk, .int .i64 xa, .int .i64 xb, .bool true, .slice XA xes.length xc]) ∧ Hid (Same noB w W) ∧ Hid (SL (oneB N) W M v es g)) ⟨HN5.out, HS.out.trans HS5.out (fun b hb e => by have h3 : b = N := e; have := HWN.out; omega), HL.out.put HS5.out (fun b e => e)⟩ ?_
  clear HN HS HL HN5 HS5 x3 z3
  rintro W5 ⟨HN, HS, HL⟩
  have x0 := HN.out.cell 0
  have x1 := HN.out.cell 1
  have x2 := HN.out.cell 2
  have x3 := HN.out.cell 3
  have x4 := HN.out.cell 4
  simp only [List.getElem?_toArray, List.getElem?_cons_zero, List.getElem?_cons_succ] at x0 x1 x2 x3 x4
  have hZ := fit_any (w := W5) (bad := lgB M v) (HL.out.log.blt) (x := ⟨xk, xa, xb, true, ⟨XA, xes.length, xc⟩⟩) (v := y.fits) (by
    have h := HX0.out.cut (B := lgB M v) HS.out (fun b hb => by have := HWN.out; have := HM0.out b hb; omega)
    exact ⟨h.k, h.a, h.b, rfl, h.l⟩) HYS.out.fits
  unfold OpR.val at hZ
  dsimp only at hZ
  have HFL := Lib.hid HYS.out.fits.fitL
  obtain ⟨vs, hvs⟩ : ∃ vs, y.fits.fitL = vs := ⟨_, rfl⟩
  rw [hvs] at hZ HFL
  clear hvs
  have HZ := Lib.hid hZ
  clear hZ
  go_wp2_with fail
  (with_reducible refine Calls.mono HZ.out ?_)
  clear HZ x0 x1 x2 x3 x4 HX0
  rintro r W6 ⟨fv, fs, rfl, hfe, hs1⟩
  have HFE := Lib.hid hfe
  replace HN := Lib.hid (HN.out.same hs1 (fun x => x))
  replace HS := Lib.hid (HS.out.trans' hs1)
  replace HL := Lib.hid (HL.out.keep hs1)
  clear hfe hs1
  have hxa : -1099511627776 ≤ xa ∧ xa ≤ 1099511627776 := by have := HYS.out.a; have := HX.out; omega
  have HXA := Lib.hid hxa
  have HFT := Lib.hid (HBD.out.1.fit (by have := HBD.out.2; omega))
  have HLA := Lib.hid (HBD.out.1.last (by have := HBD.out.2; omega))
  have HINV := Lib.hid HBD.out.1.inv
  have HGL : Hid (g.es.length ≤ 96) := by have := HBD.out.1.len; have := HBD.out.2; show _ ≤ _; omega
  clear hxa HX HYS
  -- before
  have hZ := from_any HL.out.log HFT.out HINV.out.sm (i := 0) (most := 1000) ⟨by omega, by omega⟩ ⟨by omega, by omega⟩
  rw [Lg.from_all HINV.out.b0 (by have := HGL.out; omega)] at hZ
  have HZ := Lib.hid hZ
  clear hZ
  go_wp2_with fail
  (with_reducible refine Calls.mono HZ.out ?_)
  clear HZ
  rintro r W7 ⟨bv, rfl, bs, hcp⟩
  have HBE := Lib.hid hcp.fresh
  have HLB : Hid (∀ b, lgB M v b → b < W6.heap.size) := HL.out.log.blt
  replace HN := Lib.hid (HN.out.same hcp.since (fun x => x))
  replace HS := Lib.hid (HS.out.trans' hcp.since)
  replace HL := Lib.hid (HL.out.keep hcp.since)
  replace HFE := Lib.hid (HFE.out.keep hcp.since)
  clear hcp
  -- the first merge
  obtain ⟨⟨g', q, want, ok⟩, hm⟩ : ∃ p, g.merge xa xb vs = p := ⟨_, rfl⟩
  have HZ := Lib.hid (sl_merge HL.out HFT.out HLA.out HFE.out (fun b hb => hb) HFL.out.2 (by have := HFL.out.1; omega) (by have := HXA.out; omega) (by have := HXA.out; omega) hm)
  have hbd2 := HBD.out.1.merge xa xb HFL.out.1 HFL.out.2
  rw [hm] at hbd2
  have HBD2 := Lib.hid hbd2
  have HM := Lib.hid hm
  clear hm hbd2
  have x1 := HN.out.cell 1
  have x2 := HN.out.cell 2
  simp only [List.getElem?_toArray, List.getElem?_cons_zero, List.getElem?_cons_succ] at x1 x2
  go_wp2_with fail
  (with_reducible refine Calls.mono HZ.out ?_)
  clear HZ x1 x2
  rintro r W8 ⟨O1, oc1, va, esa, rfl, hl, hs1, hbb⟩
  have HBF : Hid (EnL W8 noB bv bs g.es) := HBE.out.same hs1 (fun b _ e => .inl (HLB.out b e)) (fun _ _ x => x.elim)
  replace HFE : Hid (EnL W8 (lgB M va) fv fs vs) := HFE.out.same hs1 (fun b _ e => e) (fun b hb e => (hbb b e).elim id (fun h => by omega))
  replace HN := Lib.hid (HN.out.same hs1 (fun e => by have := HM0.out N e; omega))
  have HMA : Hid (∀ b, lgB M va b → N < b) := fun b hb => (hbb b hb).elim (HM0.out b) (fun h => by have := HWN.out; have := HS.out.size; have := HN.out.lt; have h4 := HLB.out M (.inl rfl); have := HM0.out M (.inl rfl); have := (HL.out.log.blt M (.inl rfl)); omega)
  replace HS := Lib.hid (HS.out.trans hs1 (fun b hb e => by have := HM0.out b e; have := HWN.out; omega))
  replace HL := Lib.hid hl
  clear hl hs1 hbb HBE HLB HM0
  have HFT2 := Lib.hid (HBD2.out.fit (by have := HBD.out.2; omega))
  have HLA2 := Lib.hid (HBD2.out.last (by have := HBD.out.2; omega))
  have HINV2 := Lib.hid HBD2.out.inv
  have HGL2 : Hid (g'.es.length ≤ 104) := by have := HBD2.out.len; have := HBD.out.2; show _ ≤ _; omega
  clear HBD HBD2
  -- after
  have hZ := from_any HL.out.log HFT2.out HINV2.out.sm (i := 0) (most := 1000) ⟨by omega, by omega⟩ ⟨by omega, by omega⟩
  rw [Lg.from_all HINV2.out.b0 (by have := HGL2.out; omega)] at hZ
  have HZ := Lib.hid hZ
  clear hZ
  go_wp2_with fail
  (with_reducible refine Calls.mono HZ.out ?_)
  clear HZ
  rintro r W9 ⟨av, rfl, ats, hcp⟩
  have HAE := Lib.hid hcp.fresh
  have HA0 : Hid (KeI w W9 M N va esa g' bv av fv bs ats fs g.es g'.es vs xa xb #[.int .i64 xk, .int .i64 xa, .int .i64 xb, .bool true, .slice XA xes.length xc] W8.heap.size W9.heap.size) := ⟨HL.out.keep hcp.since, HN.out.same hcp.since (fun x => x), HBF.out.keep hcp.since, hcp.fresh, HFE.out.keep hcp.since, HS.out.trans' hcp.since, fun b hb => ⟨by have := HMA.out b hb; have := HWN.out; omega, HL.out.log.blt b hb⟩, ⟨hcp.since.size, Nat.le_refl _⟩⟩
  clear hcp HN HS HL HFE HBF HAE HMA HWN
  obtain ⟨n2, hn2⟩ : ∃ n, W8.heap.size = n := ⟨_, rfl⟩
  obtain ⟨n3, hn3⟩ : ∃ n, W9.heap.size = n := ⟨_, rfl⟩
  rw [hn2, hn3] at HA0
  clear hn2 hn3
  cases ok with
  | false =>
    obtain ⟨rfl, rfl⟩ := Lg.merge_not HM.out
    have HZ := Lib.hid (sameents_true HA0.out.bef HA0.out.aft)
    go_wp2_with fail
    (with_reducible refine Calls.mono HZ.out ?_)
    rintro r W10 ⟨rfl, hs1⟩
    have HS1 := Lib.hid (HA0.out.since.trans' hs1)
    clear hs1
    go_wp2_with fail
    go_ret
    exact ⟨rfl, HS1.out⟩
  | true =>
  obtain ⟨hq, hk1⟩ := Lg.merge_ok HM.out
  have HK1 := Lib.hid hk1
  subst hq
  clear hk1 HM
  obtain ⟨BA, bc, rfl, hb1, hb2, _⟩ := HA0.out.bef.rd.form
  obtain ⟨AA, ac, rfl, ha1, ha2, _⟩ := HA0.out.aft.rd.form
  obtain ⟨FA, fc, rfl, hf1, hf2, _⟩ := HA0.out.ent.rd.form
  have HBN : Hid (bs.length = g.es.length ∧ ats.length = g'.es.length ∧ fs.length = vs.length) := ⟨HA0.out.bef.len, HA0.out.aft.len, HA0.out.ent.len⟩
  have hbl : bs.length ≤ 1000 := by have := HBN.out; have := HGL.out; omega
  have hal : ats.length ≤ 1000 := by have := HBN.out; have := HGL2.out; omega
  have hfl : fs.length ≤ 1000 := by have := HBN.out; have := HFL.out.1; omega
  have hvf : (vs.length : Int) = fs.length := by have := HBN.out; omega
  rw [hvf]
  clear hb1 hb2 ha1 ha2 hf1 hf2 hvf
  -- base
  have HZ := Lib.hid (base_any HA0.out.log.log)
  go_wp2_with fail
  (with_reducible refine Calls.mono HZ.out ?_)
  clear HZ
  rintro r W10 ⟨rfl, hs1⟩
  have HA := Lib.hid (HA0.out.keep hs1)
  clear hs1 HA0
  obtain ⟨OC, hOC⟩ : ∃ a : Array Value, #[.int .i64 xk, .int .i64 xa, .int .i64 xb, .bool true, .slice XA xes.length xc] = a := ⟨_, rfl⟩
  have HOC := Lib.hid hOC
  rw [hOC] at HA
  clear hOC
  go_wp2_with fail
  -- what was before
  go_loopg [80] (bs.length) (fun gk q wr => ∃ (k : Nat), k ≤ bs.length ∧ Hid (gk + k = bs.length) ∧ q = .int .i64 k ∧ Hid (KeI w wr M N va esa g' (.slice BA bs.length bc) (.slice AA ats.length ac) (.slice FA fs.length fc) bs ats fs g.es g'.es vs xa xb OC n2 n3))
  case atStart => exact ⟨0, Nat.zero_le _, rfl, rfl, HA.out⟩
  case round =>
    clear HA
    obtain ⟨k, hk, HK, rfl, HA⟩ := hrel
    by_cases hlt : k < bs.length
    · obtain ⟨e, he⟩ : ∃ e, bs[k]? = some e := ⟨_, List.getElem?_eq_getElem hlt⟩
      obtain ⟨x, hx, hix⟩ := HA.out.bef.is.at_ he
      have HIX := Lib.hid hix
      have HXE := Lib.hid hx
      have hi1 : (k : Int) < (bs.length : Int) := by omega
      clear hx hix
      obtain ⟨b, o, rfl, r⟩ := (HA.out.bef).rd.at_ (by omega)
      obtain ⟨p0, p1, p2, p3, p4, p5, p6, p7, p8, p9, p10, p11, p12, p13, p14⟩ := en_at r he
      have hi0 : (0 : Int) ≤ (k : Int) := by omega
      have HB5 := Lib.hid (row_stored (Blk.new wr 57 en0.cells.toArray) e.cells.toArray)
      have hsx : Same noB wr ((wr.alloc (.cells en0.cells.toArray 57)).setRow wr.heap.size e.cells.toArray) := ((Same.refl noB wr).alloc _).trans HB5.out.2 (fun b hb e => by have h3 : b = wr.heap.size := e; omega)
      clear r
      go_upto_region 19 with (refine wpList_store_row rfl 57 _ _ rfl wr.heap.size e.cells.toArray rfl rfl 57 _ (Blk.new wr 57 en0.cells.toArray) (by kernel_rfl) rfl (by kernel_rfl) ?_)
      refine wp_abs (fun W => Hid (Blk W wr.heap.size 57 e.cells.toArray) ∧ Hid (Same noB wr W)) ⟨HB5.out.1, hsx⟩ ?_
      clear p0 p1 p2 p3 p4 p5 p6 p7 p8 p9 p10 p11 p12 p13 p14 HB5 hsx
      rintro W ⟨HE, HSW⟩
      obtain ⟨E, hE⟩ : ∃ E, wr.heap.size = E := ⟨_, rfl⟩
      rw [hE] at HE ⊢
      clear hE
      replace HA := Lib.hid (HA.out.keep HSW.out)
      have HI2 := Lib.hid (HIX.out.keep HSW.out)
      have q0 : W.cell? ⟨E, 0, none⟩ = some (.int .i64 x.i) := by rw [← HIX.out.i]; exact HE.out.cell 0
      have x1 : W.cell? ⟨N, 1, none⟩ = some (.int .i64 xa) := by have := HA.out.box.cell 1; rw [← HOC.out] at this; exact this
      clear HSW HIX he
      by_cases h3 : xa < x.i
      · have d3 : decide (xa < x.i) = true := decide_eq_true h3
        clear h3
        go_wp2_with fail
        go_roundg (gk - 1)
        case measure => have h1 := HK.out; omega
        case rel => exact ⟨k + 1, by omega, by show _ = _; have h1 := HK.out; omega, by go_num, HA.out⟩
      · have d3 : decide (xa < x.i) = false := decide_eq_false h3
        have hkx := HK1.out.keeps HINV.out HXE.out (by omega)
        have hen := Lg.entry_at HINV2.out hkx
        have hxb := HINV2.out.idx _ x hkx
        have hkl := (List.getElem?_eq_some_iff.1 hkx).1
        have hZ := entry_any HA.out.log.log HFT2.out HINV2.out.sm (i := x.i) ⟨by have := HINV2.out.b0; omega, by have := HFT2.out.hi; omega⟩
        rw [hen] at hZ
        have HZ := Lib.hid hZ
        clear hZ hkx hen h3 hxb hkl
        go_wp2_with fail
        (with_reducible refine Calls.mono HZ.out ?_)
        clear HZ q0 x1
        rintro r Wf ⟨e2, rfl, he2, hs1⟩
        have HI3 := Lib.hid he2
        replace HA := Lib.hid (HA.out.keep hs1)
        replace HI2 := Lib.hid (HI2.out.keep hs1)
        replace HE := Lib.hid (HE.out.same hs1 (fun x => x))
        clear he2 hs1
        have HB5 := Lib.hid (row_stored (Blk.new Wf 57 en0.cells.toArray) e2.cells.toArray)
        have hsx : Same noB Wf ((Wf.alloc (.cells en0.cells.toArray 57)).setRow Wf.heap.size e2.cells.toArray) := ((Same.refl noB Wf).alloc _).trans HB5.out.2 (fun b hb e => by have h3 : b = Wf.heap.size := e; omega)
        go_upto_region 21 with (refine wpList_store_row rfl 57 _ _ rfl Wf.heap.size e2.cells.toArray rfl rfl 57 _ (Blk.new Wf 57 en0.cells.toArray) (by kernel_rfl) rfl (by kernel_rfl) ?_)
        refine wp_abs (fun W => Hid (Blk W Wf.heap.size 57 e2.cells.toArray) ∧ Hid (Same noB Wf W)) ⟨HB5.out.1, hsx⟩ ?_
        clear HB5 hsx
        rintro Wg ⟨HE2, HSW⟩
        obtain ⟨E2, hE⟩ : ∃ E, Wf.heap.size = E := ⟨_, rfl⟩
        rw [hE] at HE2 ⊢
        clear hE
        replace HA := Lib.hid (HA.out.keep HSW.out)
        replace HI2 := Lib.hid (HI2.out.keep HSW.out)
        replace HI3 := Lib.hid (HI3.out.keep HSW.out)
        replace HE := Lib.hid (HE.out.same HSW.out (fun x => x))
        clear HSW
        have hneE : Wg.heap.size ≠ E := by have := HE.out.lt; omega
        have q0 : Wg.cell? ⟨E, 0, none⟩ = some (.int .i64 e.i) := HE.out.cell 0
        have q1 : Wg.cell? ⟨E, 1, none⟩ = some (.int .i64 e.t) := HE.out.cell 1
        have q2 : Wg.cell? ⟨E, 2, none⟩ = some (.int .i64 e.c.s.k) := HE.out.cell 2
        have q3 : Wg.cell? ⟨E, 3, none⟩ = some (.int .i64 e.c.s.c) := HE.out.cell 3
        have q4 : Wg.cell? ⟨E, 4, none⟩ = some (.int .i64 e.c.s.n) := HE.out.cell 4
        have q5 : Wg.cell? ⟨E, 5, none⟩ = some (.string e.c.s.b) := HE.out.cell 5
        have q6 : Wg.cell? ⟨E, 6, none⟩ = some (.int .i64 e.c.s.g) := HE.out.cell 6
        have q7 : Wg.cell? ⟨E, 7, none⟩ = some (.int .i64 e.c.s.s) := HE.out.cell 7
        have q8 : Wg.cell? ⟨E, 8, none⟩ = some (.int .i64 e.c.s.ck) := HE.out.cell 8
        have q9 : Wg.cell? ⟨E, 9, none⟩ = some (.int .i64 e.c.s.cm) := HE.out.cell 9
        have q10 : Wg.cell? ⟨E, 10, none⟩ = some (.slice e.c.f1.addr e.c.f1.len e.c.f1.cap) := HE.out.cell 10
        have q11 : Wg.cell? ⟨E, 11, none⟩ = some (.slice e.c.f2.addr e.c.f2.len e.c.f2.cap) := HE.out.cell 11
        have q12 : Wg.cell? ⟨E, 12, none⟩ = some (.slice e.c.f3.addr e.c.f3.len e.c.f3.cap) := HE.out.cell 12
        have q13 : Wg.cell? ⟨E, 13, none⟩ = some (.slice e.c.f4.addr e.c.f4.len e.c.f4.cap) := HE.out.cell 13
        have q14 : Wg.cell? ⟨E, 14, none⟩ = some (.slice e.c.f5.addr e.c.f5.len e.c.f5.cap) := HE.out.cell 14
        have s0 : (Wg.alloc (.cells #[.int .i64 e2.i, .int .i64 e2.t, .int .i64 e2.c.s.k, .int .i64 e2.c.s.c, .int .i64 e2.c.s.n, .string e2.c.s.b, .int .i64 e2.c.s.g, .int .i64 e2.c.s.s, .int .i64 e2.c.s.ck, .int .i64 e2.c.s.cm, .slice e2.c.f1.addr e2.c.f1.len e2.c.f1.cap, .slice e2.c.f2.addr e2.c.f2.len e2.c.f2.cap, .slice e2.c.f3.addr e2.c.f3.len e2.c.f3.cap, .slice e2.c.f4.addr e2.c.f4.len e2.c.f4.cap, .slice e2.c.f5.addr e2.c.f5.len e2.c.f5.cap] 57)).cell? ⟨E, 0, none⟩ = some (.int .i64 e.i) := (HE.out.alloc _).cell 0
        have s1 : (Wg.alloc (.cells #[.int .i64 e2.i, .int .i64 e2.t, .int .i64 e2.c.s.k, .int .i64 e2.c.s.c, .int .i64 e2.c.s.n, .string e2.c.s.b, .int .i64 e2.c.s.g, .int .i64 e2.c.s.s, .int .i64 e2.c.s.ck, .int .i64 e2.c.s.cm, .slice e2.c.f1.addr e2.c.f1.len e2.c.f1.cap, .slice e2.c.f2.addr e2.c.f2.len e2.c.f2.cap, .slice e2.c.f3.addr e2.c.f3.len e2.c.f3.cap, .slice e2.c.f4.addr e2.c.f4.len e2.c.f4.cap, .slice e2.c.f5.addr e2.c.f5.len e2.c.f5.cap] 57)).cell? ⟨E, 1, none⟩ = some (.int .i64 e.t) := (HE.out.alloc _).cell 1
        have s2 : (Wg.alloc (.cells #[.int .i64 e2.i, .int .i64 e2.t, .int .i64 e2.c.s.k, .int .i64 e2.c.s.c, .int .i64 e2.c.s.n, .string e2.c.s.b, .int .i64 e2.c.s.g, .int .i64 e2.c.s.s, .int .i64 e2.c.s.ck, .int .i64 e2.c.s.cm, .slice e2.c.f1.addr e2.c.f1.len e2.c.f1.cap, .slice e2.c.f2.addr e2.c.f2.len e2.c.f2.cap, .slice e2.c.f3.addr e2.c.f3.len e2.c.f3.cap, .slice e2.c.f4.addr e2.c.f4.len e2.c.f4.cap, .slice e2.c.f5.addr e2.c.f5.len e2.c.f5.cap] 57)).cell? ⟨E, 2, none⟩ = some (.int .i64 e.c.s.k) := (HE.out.alloc _).cell 2
        have s3 : (Wg.alloc (.cells #[.int .i64 e2.i, .int .i64 e2.t, .int .i64 e2.c.s.k, .int .i64 e2.c.s.c, .int .i64 e2.c.s.n, .string e2.c.s.b, .int .i64 e2.c.s.g, .int .i64 e2.c.s.s, .int .i64 e2.c.s.ck, .int .i64 e2.c.s.cm, .slice e2.c.f1.addr e2.c.f1.len e2.c.f1.cap, .slice e2.c.f2.addr e2.c.f2.len e2.c.f2.cap, .slice e2.c.f3.addr e2.c.f3.len e2.c.f3.cap, .slice e2.c.f4.addr e2.c.f4.len e2.c.f4.cap, .slice e2.c.f5.addr e2.c.f5.len e2.c.f5.cap] 57)).cell? ⟨E, 3, none⟩ = some (.int .i64 e.c.s.c) := (HE.out.alloc _).cell 3
        have s4 : (Wg.alloc (.cells #[.int .i64 e2.i, .int .i64 e2.t, .int .i64 e2.c.s.k, .int .i64 e2.c.s.c, .int .i64 e2.c.s.n, .string e2.c.s.b, .int .i64 e2.c.s.g, .int .i64 e2.c.s.s, .int .i64 e2.c.s.ck, .int .i64 e2.c.s.cm, .slice e2.c.f1.addr e2.c.f1.len e2.c.f1.cap, .slice e2.c.f2.addr e2.c.f2.len e2.c.f2.cap, .slice e2.c.f3.addr e2.c.f3.len e2.c.f3.cap, .slice e2.c.f4.addr e2.c.f4.len e2.c.f4.cap, .slice e2.c.f5.addr e2.c.f5.len e2.c.f5.cap] 57)).cell? ⟨E, 4, none⟩ = some (.int .i64 e.c.s.n) := (HE.out.alloc _).cell 4
        have s5 : (Wg.alloc (.cells #[.int .i64 e2.i, .int .i64 e2.t, .int .i64 e2.c.s.k, .int .i64 e2.c.s.c, .int .i64 e2.c.s.n, .string e2.c.s.b, .int .i64 e2.c.s.g, .int .i64 e2.c.s.s, .int .i64 e2.c.s.ck, .int .i64 e2.c.s.cm, .slice e2.c.f1.addr e2.c.f1.len e2.c.f1.cap, .slice e2.c.f2.addr e2.c.f2.len e2.c.f2.cap, .slice e2.c.f3.addr e2.c.f3.len e2.c.f3.cap, .slice e2.c.f4.addr e2.c.f4.len e2.c.f4.cap, .slice e2.c.f5.addr e2.c.f5.len e2.c.f5.cap] 57)).cell? ⟨E, 5, none⟩ = some (.string e.c.s.b) := (HE.out.alloc _).cell 5
        have s6 : (Wg.alloc (.cells #[.int .i64 e2.i, .int .i64 e2.t, .int .i64 e2.c.s.k, .int .i64 e2.c.s.c, .int .i64 e2.c.s.n, .string e2.c.s.b, .int .i64 e2.c.s.g, .int .i64 e2.c.s.s, .int .i64 e2.c.s.ck, .int .i64 e2.c.s.cm, .slice e2.c.f1.addr e2.c.f1.len e2.c.f1.cap, .slice e2.c.f2.addr e2.c.f2.len e2.c.f2.cap, .slice e2.c.f3.addr e2.c.f3.len e2.c.f3.cap, .slice e2.c.f4.addr e2.c.f4.len e2.c.f4.cap, .slice e2.c.f5.addr e2.c.f5.len e2.c.f5.cap] 57)).cell? ⟨E, 6, none⟩ = some (.int .i64 e.c.s.g) := (HE.out.alloc _).cell 6
        have s7 : (Wg.alloc (.cells #[.int .i64 e2.i, .int .i64 e2.t, .int .i64 e2.c.s.k, .int .i64 e2.c.s.c, .int .i64 e2.c.s.n, .string e2.c.s.b, .int .i64 e2.c.s.g, .int .i64 e2.c.s.s, .int .i64 e2.c.s.ck, .int .i64 e2.c.s.cm, .slice e2.c.f1.addr e2.c.f1.len e2.c.f1.cap, .slice e2.c.f2.addr e2.c.f2.len e2.c.f2.cap, .slice e2.c.f3.addr e2.c.f3.len e2.c.f3.cap, .slice e2.c.f4.addr e2.c.f4.len e2.c.f4.cap, .slice e2.c.f5.addr e2.c.f5.len e2.c.f5.cap] 57)).cell? ⟨E, 7, none⟩ = some (.int .i64 e.c.s.s) := (HE.out.alloc _).cell 7
        have s8 : (Wg.alloc (.cells #[.int .i64 e2.i, .int .i64 e2.t, .int .i64 e2.c.s.k, .int .i64 e2.c.s.c, .int .i64 e2.c.s.n, .string e2.c.s.b, .int .i64 e2.c.s.g, .int .i64 e2.c.s.s, .int .i64 e2.c.s.ck, .int .i64 e2.c.s.cm, .slice e2.c.f1.addr e2.c.f1.len e2.c.f1.cap, .slice e2.c.f2.addr e2.c.f2.len e2.c.f2.cap, .slice e2.c.f3.addr e2.c.f3.len e2.c.f3.cap, .slice e2.c.f4.addr e2.c.f4.len e2.c.f4.cap, .slice e2.c.f5.addr e2.c.f5.len e2.c.f5.cap] 57)).cell? ⟨E, 8, none⟩ = some (.int .i64 e.c.s.ck) := (HE.out.alloc _).cell 8
        have s9 : (Wg.alloc (.cells #[.int .i64 e2.i, .int .i64 e2.t, .int .i64 e2.c.s.k, .int .i64 e2.c.s.c, .int .i64 e2.c.s.n, .string e2.c.s.b, .int .i64 e2.c.s.g, .int .i64 e2.c.s.s, .int .i64 e2.c.s.ck, .int .i64 e2.c.s.cm, .slice e2.c.f1.addr e2.c.f1.len e2.c.f1.cap, .slice e2.c.f2.addr e2.c.f2.len e2.c.f2.cap, .slice e2.c.f3.addr e2.c.f3.len e2.c.f3.cap, .slice e2.c.f4.addr e2.c.f4.len e2.c.f4.cap, .slice e2.c.f5.addr e2.c.f5.len e2.c.f5.cap] 57)).cell? ⟨E, 9, none⟩ = some (.int .i64 e.c.s.cm) := (HE.out.alloc _).cell 9
        have s10 : (Wg.alloc (.cells #[.int .i64 e2.i, .int .i64 e2.t, .int .i64 e2.c.s.k, .int .i64 e2.c.s.c, .int .i64 e2.c.s.n, .string e2.c.s.b, .int .i64 e2.c.s.g, .int .i64 e2.c.s.s, .int .i64 e2.c.s.ck, .int .i64 e2.c.s.cm, .slice e2.c.f1.addr e2.c.f1.len e2.c.f1.cap, .slice e2.c.f2.addr e2.c.f2.len e2.c.f2.cap, .slice e2.c.f3.addr e2.c.f3.len e2.c.f3.cap, .slice e2.c.f4.addr e2.c.f4.len e2.c.f4.cap, .slice e2.c.f5.addr e2.c.f5.len e2.c.f5.cap] 57)).cell? ⟨E, 10, none⟩ = some (.slice e.c.f1.addr e.c.f1.len e.c.f1.cap) := (HE.out.alloc _).cell 10
        have s11 : (Wg.alloc (.cells #[.int .i64 e2.i, .int .i64 e2.t, .int .i64 e2.c.s.k, .int .i64 e2.c.s.c, .int .i64 e2.c.s.n, .string e2.c.s.b, .int .i64 e2.c.s.g, .int .i64 e2.c.s.s, .int .i64 e2.c.s.ck, .int .i64 e2.c.s.cm, .slice e2.c.f1.addr e2.c.f1.len e2.c.f1.cap, .slice e2.c.f2.addr e2.c.f2.len e2.c.f2.cap, .slice e2.c.f3.addr e2.c.f3.len e2.c.f3.cap, .slice e2.c.f4.addr e2.c.f4.len e2.c.f4.cap, .slice e2.c.f5.addr e2.c.f5.len e2.c.f5.cap] 57)).cell? ⟨E, 11, none⟩ = some (.slice e.c.f2.addr e.c.f2.len e.c.f2.cap) := (HE.out.alloc _).cell 11
        have s12 : (Wg.alloc (.cells #[.int .i64 e2.i, .int .i64 e2.t, .int .i64 e2.c.s.k, .int .i64 e2.c.s.c, .int .i64 e2.c.s.n, .string e2.c.s.b, .int .i64 e2.c.s.g, .int .i64 e2.c.s.s, .int .i64 e2.c.s.ck, .int .i64 e2.c.s.cm, .slice e2.c.f1.addr e2.c.f1.len e2.c.f1.cap, .slice e2.c.f2.addr e2.c.f2.len e2.c.f2.cap, .slice e2.c.f3.addr e2.c.f3.len e2.c.f3.cap, .slice e2.c.f4.addr e2.c.f4.len e2.c.f4.cap, .slice e2.c.f5.addr e2.c.f5.len e2.c.f5.cap] 57)).cell? ⟨E, 12, none⟩ = some (.slice e.c.f3.addr e.c.f3.len e.c.f3.cap) := (HE.out.alloc _).cell 12
        have s13 : (Wg.alloc (.cells #[.int .i64 e2.i, .int .i64 e2.t, .int .i64 e2.c.s.k, .int .i64 e2.c.s.c, .int .i64 e2.c.s.n, .string e2.c.s.b, .int .i64 e2.c.s.g, .int .i64 e2.c.s.s, .int .i64 e2.c.s.ck, .int .i64 e2.c.s.cm, .slice e2.c.f1.addr e2.c.f1.len e2.c.f1.cap, .slice e2.c.f2.addr e2.c.f2.len e2.c.f2.cap, .slice e2.c.f3.addr e2.c.f3.len e2.c.f3.cap, .slice e2.c.f4.addr e2.c.f4.len e2.c.f4.cap, .slice e2.c.f5.addr e2.c.f5.len e2.c.f5.cap] 57)).cell? ⟨E, 13, none⟩ = some (.slice e.c.f4.addr e.c.f4.len e.c.f4.cap) := (HE.out.alloc _).cell 13
        have s14 : (Wg.alloc (.cells #[.int .i64 e2.i, .int .i64 e2.t, .int .i64 e2.c.s.k, .int .i64 e2.c.s.c, .int .i64 e2.c.s.n, .string e2.c.s.b, .int .i64 e2.c.s.g, .int .i64 e2.c.s.s, .int .i64 e2.c.s.ck, .int .i64 e2.c.s.cm, .slice e2.c.f1.addr e2.c.f1.len e2.c.f1.cap, .slice e2.c.f2.addr e2.c.f2.len e2.c.f2.cap, .slice e2.c.f3.addr e2.c.f3.len e2.c.f3.cap, .slice e2.c.f4.addr e2.c.f4.len e2.c.f4.cap, .slice e2.c.f5.addr e2.c.f5.len e2.c.f5.cap] 57)).cell? ⟨E, 14, none⟩ = some (.slice e.c.f5.addr e.c.f5.len e.c.f5.cap) := (HE.out.alloc _).cell 14
        have r0 : Wg.cell? ⟨E2, 0, none⟩ = some (.int .i64 e2.i) := HE2.out.cell 0
        have r1 : Wg.cell? ⟨E2, 1, none⟩ = some (.int .i64 e2.t) := HE2.out.cell 1
        have r2 : Wg.cell? ⟨E2, 2, none⟩ = some (.int .i64 e2.c.s.k) := HE2.out.cell 2
        have r3 : Wg.cell? ⟨E2, 3, none⟩ = some (.int .i64 e2.c.s.c) := HE2.out.cell 3
        have r4 : Wg.cell? ⟨E2, 4, none⟩ = some (.int .i64 e2.c.s.n) := HE2.out.cell 4
        have r5 : Wg.cell? ⟨E2, 5, none⟩ = some (.string e2.c.s.b) := HE2.out.cell 5
        have r6 : Wg.cell? ⟨E2, 6, none⟩ = some (.int .i64 e2.c.s.g) := HE2.out.cell 6
        have r7 : Wg.cell? ⟨E2, 7, none⟩ = some (.int .i64 e2.c.s.s) := HE2.out.cell 7
        have r8 : Wg.cell? ⟨E2, 8, none⟩ = some (.int .i64 e2.c.s.ck) := HE2.out.cell 8
        have r9 : Wg.cell? ⟨E2, 9, none⟩ = some (.int .i64 e2.c.s.cm) := HE2.out.cell 9
        have r10 : Wg.cell? ⟨E2, 10, none⟩ = some (.slice e2.c.f1.addr e2.c.f1.len e2.c.f1.cap) := HE2.out.cell 10
        have r11 : Wg.cell? ⟨E2, 11, none⟩ = some (.slice e2.c.f2.addr e2.c.f2.len e2.c.f2.cap) := HE2.out.cell 11
        have r12 : Wg.cell? ⟨E2, 12, none⟩ = some (.slice e2.c.f3.addr e2.c.f3.len e2.c.f3.cap) := HE2.out.cell 12
        have r13 : Wg.cell? ⟨E2, 13, none⟩ = some (.slice e2.c.f4.addr e2.c.f4.len e2.c.f4.cap) := HE2.out.cell 13
        have r14 : Wg.cell? ⟨E2, 14, none⟩ = some (.slice e2.c.f5.addr e2.c.f5.len e2.c.f5.cap) := HE2.out.cell 14
        have hen := enl_two HI3.out HI2.out
        have hZ : Calls Try.prog 20 #[.slice (some ⟨Wg.heap.size, 0, none⟩) 1 1, .slice (some ⟨Wg.heap.size + 1, 0, none⟩) 1 1] ((Wg.alloc (.cells #[.int .i64 e2.i, .int .i64 e2.t, .int .i64 e2.c.s.k, .int .i64 e2.c.s.c, .int .i64 e2.c.s.n, .string e2.c.s.b, .int .i64 e2.c.s.g, .int .i64 e2.c.s.s, .int .i64 e2.c.s.ck, .int .i64 e2.c.s.cm, .slice e2.c.f1.addr e2.c.f1.len e2.c.f1.cap, .slice e2.c.f2.addr e2.c.f2.len e2.c.f2.cap, .slice e2.c.f3.addr e2.c.f3.len e2.c.f3.cap, .slice e2.c.f4.addr e2.c.f4.len e2.c.f4.cap, .slice e2.c.f5.addr e2.c.f5.len e2.c.f5.cap] 57)).alloc (.cells #[.int .i64 e.i, .int .i64 e.t, .int .i64 e.c.s.k, .int .i64 e.c.s.c, .int .i64 e.c.s.n, .string e.c.s.b, .int .i64 e.c.s.g, .int .i64 e.c.s.s, .int .i64 e.c.s.ck, .int .i64 e.c.s.cm, .slice e.c.f1.addr e.c.f1.len e.c.f1.cap, .slice e.c.f2.addr e.c.f2.len e.c.f2.cap, .slice e.c.f3.addr e.c.f3.len e.c.f3.cap, .slice e.c.f4.addr e.c.f4.len e.c.f4.cap, .slice e.c.f5.addr e.c.f5.len e.c.f5.cap] 57)) _ := sameents_true hen.1 hen.2
        have HZ := Lib.hid hZ
        have hal := ((Same.refl noB Wg).alloc (.cells #[.int .i64 e2.i, .int .i64 e2.t, .int .i64 e2.c.s.k, .int .i64 e2.c.s.c, .int .i64 e2.c.s.n, .string e2.c.s.b, .int .i64 e2.c.s.g, .int .i64 e2.c.s.s, .int .i64 e2.c.s.ck, .int .i64 e2.c.s.cm, .slice e2.c.f1.addr e2.c.f1.len e2.c.f1.cap, .slice e2.c.f2.addr e2.c.f2.len e2.c.f2.cap, .slice e2.c.f3.addr e2.c.f3.len e2.c.f3.cap, .slice e2.c.f4.addr e2.c.f4.len e2.c.f4.cap, .slice e2.c.f5.addr e2.c.f5.len e2.c.f5.cap] 57)).alloc (.cells #[.int .i64 e.i, .int .i64 e.t, .int .i64 e.c.s.k, .int .i64 e.c.s.c, .int .i64 e.c.s.n, .string e.c.s.b, .int .i64 e.c.s.g, .int .i64 e.c.s.s, .int .i64 e.c.s.ck, .int .i64 e.c.s.cm, .slice e.c.f1.addr e.c.f1.len e.c.f1.cap, .slice e.c.f2.addr e.c.f2.len e.c.f2.cap, .slice e.c.f3.addr e.c.f3.len e.c.f3.cap, .slice e.c.f4.addr e.c.f4.len e.c.f4.cap, .slice e.c.f5.addr e.c.f5.len e.c.f5.cap] 57)
        have HAL := Lib.hid hal
        clear hen hZ hal
        go_wp2_with fail
        (with_reducible refine Calls.mono HZ.out ?_)
        clear HZ hneE q0 r0 s0 q1 r1 s1 q2 r2 s2 q3 r3 s3 q4 r4 s4 q5 r5 s5 q6 r6 s6 q7 r7 s7 q8 r8 s8 q9 r9 s9 q10 r10 s10 q11 r11 s11 q12 r12 s12 q13 r13 s13 q14 r14 s14
        rintro r Wh ⟨rfl, hs1⟩
        replace HA := Lib.hid (HA.out.keep (HAL.out.trans' hs1))
        clear hs1 HAL HE HE2 HI2 HI3
        go_wp2_with fail
        go_roundg (gk - 1)
        case measure => have h1 := HK.out; omega
        case rel => exact ⟨k + 1, by omega, by show _ = _; have h1 := HK.out; omega, by go_num, HA.out⟩
    · obtain rfl : k = bs.length := by omega
      -- the entries
      go_wp2_with fail
      go_loopg [109] (fs.length) (fun gk q wr => ∃ (k : Nat), k ≤ fs.length ∧ Hid (gk + k = fs.length) ∧ q = .int .i64 k ∧ Hid (KeI w wr M N va esa g' (.slice BA bs.length bc) (.slice AA ats.length ac) (.slice FA fs.length fc) bs ats fs g.es g'.es vs xa xb OC n2 n3))
      case atStart => exact ⟨0, Nat.zero_le _, rfl, rfl, HA.out⟩
      case round =>
        clear HA HK hlt hk
        obtain ⟨k, hk, HK, rfl, HA⟩ := hrel
        by_cases hlt : k < fs.length
        · obtain ⟨e, he⟩ : ∃ e, fs[k]? = some e := ⟨_, List.getElem?_eq_getElem hlt⟩
          obtain ⟨x, hx, hix⟩ := HA.out.ent.is.at_ he
          have hxi := follow_at HK1.out.fol hx
          have HIX := Lib.hid (And.intro hix.i (And.intro hix.t hxi))
          have hth := fun hb => HK1.out.has hx hb
          rw [hxi, ← HK1.out.base] at hth
          have HTH := Lib.hid hth
          have hi1 : (k : Int) < (fs.length : Int) := by omega
          clear hx hix hxi hth
          obtain ⟨b, o, rfl, r⟩ := (HA.out.ent).rd.at_ (by omega)
          obtain ⟨p0, p1, p2, p3, p4, p5, p6, p7, p8, p9, p10, p11, p12, p13, p14⟩ := en_at r he
          have hi0 : (0 : Int) ≤ (k : Int) := by omega
          have HB5 := Lib.hid (row_stored (Blk.new wr 57 en0.cells.toArray) e.cells.toArray)
          have hsx : Same noB wr ((wr.alloc (.cells en0.cells.toArray 57)).setRow wr.heap.size e.cells.toArray) := ((Same.refl noB wr).alloc _).trans HB5.out.2 (fun b hb e => by have h3 : b = wr.heap.size := e; omega)
          clear r
          go_upto_region 27 with (refine wpList_store_row rfl 57 _ _ rfl wr.heap.size e.cells.toArray rfl rfl 57 _ (Blk.new wr 57 en0.cells.toArray) (by kernel_rfl) rfl (by kernel_rfl) ?_)
          refine wp_abs (fun W => Hid (Blk W wr.heap.size 57 e.cells.toArray) ∧ Hid (Same noB wr W)) ⟨HB5.out.1, hsx⟩ ?_
          clear p0 p1 p2 p3 p4 p5 p6 p7 p8 p9 p10 p11 p12 p13 p14 HB5 hsx
          rintro W ⟨HE, HSW⟩
          obtain ⟨E, hE⟩ : ∃ E, wr.heap.size = E := ⟨_, rfl⟩
          rw [hE] at HE ⊢
          clear hE
          replace HA := Lib.hid (HA.out.keep HSW.out)
          have q0 : W.cell? ⟨E, 0, none⟩ = some (.int .i64 (xa + 1 + (k : Int))) := by rw [← HIX.out.2.2, ← HIX.out.1]; exact HE.out.cell 0
          have q1 : W.cell? ⟨E, 1, none⟩ = some (.int .i64 x.t) := by rw [← HIX.out.2.1]; exact HE.out.cell 1
          have x1 : W.cell? ⟨N, 1, none⟩ = some (.int .i64 xa) := by have := HA.out.box.cell 1; rw [← HOC.out] at this; exact this
          clear HSW HIX he HE
          have hZ := term_any HA.out.log.log HFT2.out (i := xa + 1 + (k : Int)) ⟨by have := HXA.out; omega, by have := HXA.out; omega⟩
          obtain ⟨⟨s, p⟩, hsp⟩ : ∃ p, g'.termAt (xa + 1 + (k : Int)) = p := ⟨_, rfl⟩
          rw [hsp] at hZ HTH
          have HZ := Lib.hid hZ
          have hw1 : IntKind.i64.wrap (xa + 1) = xa + 1 := IntWalk.i64_in _ (by have := HXA.out; omega)
          have hw2 : IntKind.i64.wrap (xa + 1 + (k : Int)) = xa + 1 + (k : Int) := IntWalk.i64_in _ (by have := HXA.out; omega)
          clear hZ hsp
          go_wp2_with fail
          (with_reducible refine Calls.mono HZ.out ?_)
          clear HZ
          rintro r Wf ⟨rfl, hs1⟩
          replace HA := Lib.hid (HA.out.keep hs1)
          replace q0 := hs1.cell q0 (fun x => x)
          replace q1 := hs1.cell q1 (fun x => x)
          replace x1 := hs1.cell x1 (fun x => x)
          clear hs1
          by_cases h3 : g'.base < xa + 1 + (k : Int)
          · have d3 : decide (g'.base < xa + 1 + (k : Int)) = true := decide_eq_true h3
            have h4 := HTH.out h3
            simp only [Prod.mk.injEq] at h4
            obtain ⟨rfl, rfl⟩ := h4
            clear h3
            go_wp2_with fail
            go_roundg (gk - 1)
            case measure => have h1 := HK.out; omega
            case rel => exact ⟨k + 1, by omega, by show _ = _; have h1 := HK.out; omega, by go_num, HA.out⟩
          · have d3 : decide (g'.base < xa + 1 + (k : Int)) = false := decide_eq_false h3
            clear h3
            go_wp2_with fail
            go_roundg (gk - 1)
            case measure => have h1 := HK.out; omega
            case rel => exact ⟨k + 1, by omega, by show _ = _; have h1 := HK.out; omega, by go_num, HA.out⟩
        · obtain rfl : k = fs.length := by omega
          -- what is after
          go_wp2_with fail
          go_loopg [23] (ats.length) (fun gk q wr => ∃ (k j : Nat), k ≤ ats.length ∧ Hid (gk + k = ats.length) ∧ q = .int .i64 j ∧ Hid (j = k + 1) ∧ Hid (KeI w wr M N va esa g' (.slice BA bs.length bc) (.slice AA ats.length ac) (.slice FA fs.length fc) bs ats fs g.es g'.es vs xa xb OC n2 n3))
          case atStart => exact ⟨0, 1, Nat.zero_le _, rfl, rfl, rfl, HA.out⟩
          case round =>
            clear HA HK hlt hk
            obtain ⟨k, j, hk, HK, rfl, HJ, HA⟩ := hrel
            by_cases hlt : j < ats.length
            · have hj := HJ.out
              obtain ⟨e, he⟩ : ∃ e, ats[k]? = some e := ⟨_, List.getElem?_eq_getElem (by omega)⟩
              obtain ⟨e2, he2⟩ : ∃ e, ats[j]? = some e := ⟨_, List.getElem?_eq_getElem hlt⟩
              obtain ⟨x, hx, hix⟩ := HA.out.aft.is.at_ he
              obtain ⟨y, hy, hiy⟩ := HA.out.aft.is.at_ he2
              obtain ⟨b, o, rfl, r⟩ := HA.out.aft.rd.at_ (by omega)
              obtain ⟨p0, p1, _⟩ := en_at r he
              obtain ⟨r0, r1, _⟩ := en_at r he2
              rw [hix.i] at p0
              rw [hix.t] at p1
              rw [hiy.i] at r0
              rw [hiy.t] at r1
              rw [hj] at hy
              obtain ⟨h5, h6⟩ := HINV2.out.next hx hy
              rw [h5] at r0
              have hx2 := HINV2.out.idx _ x hx
              have hxl := (List.getElem?_eq_some_iff.1 hx).1
              have d6 : decide (y.t < x.t) = false := decide_eq_false (by omega)
              have hi0 : (0 : Int) ≤ (j : Int) := by omega
              have hi1 : (j : Int) < (ats.length : Int) := by omega
              have hk0 : (0 : Int) ≤ (k : Int) := by omega
              have hk1 : (k : Int) < (ats.length : Int) := by omega
              have hwk : IntKind.i64.wrap ((j : Int) - 1) = (k : Int) := by rw [IntWalk.i64_in _ (by omega)]; omega
              have hwx : IntKind.i64.wrap (x.i + 1) = x.i + 1 := IntWalk.i64_in _ (by have := HINV2.out.b0; have := HFT2.out.hi; omega)
              have HKS : Hid (KeS b o j k (x.i + 1) y.t x.i x.t wr) := ⟨r0, r1, p0, p1⟩
              clear r he he2 hx hy hix hiy h5 h6 hx2 hxl p0 p1 r0 r1 hj
              go_upto_region 34 with (fail)
              replace HA := Lib.hid (HA.out.keep (Same.refl noB wr).drew)
              refine wp_region_T (S := KeS b o j k (x.i + 1) y.t x.i x.t) (late := fun j => [].contains j) (by kernel_rfl) ?_ (fun hHeld => ?_)
              · exact HKS.out
              obtain ⟨Wa, hWd⟩ : ∃ Wx, wr.drew = Wx := ⟨_, rfl⟩
              rw [hWd] at hHeld HA ⊢
              clear hWd
              refine T_pure (i := 0) (v := ?va1) rfl (by kernel_rfl) (by kernel_rfl) (by kernel_rfl) (fun _ _ _ h => h) (Or.inl ⟨?_, ?_⟩) ?_
              rotate_left 1
              · rfl
              · (intro w hSw; clear hSw; go_simp; (try with_reducible rfl))
              go_simp
              refine T_pure (i := 1) (v := ?va2) rfl (by kernel_rfl) (by kernel_rfl) (by kernel_rfl) (fun _ _ _ h => h) (Or.inl ⟨?_, ?_⟩) ?_
              rotate_left 1
              · rfl
              · (intro w hSw; clear hSw; go_simp; (try with_reducible rfl))
              go_simp
              refine T_pure (i := 2) (v := ?va3) rfl (by kernel_rfl) (by kernel_rfl) (by kernel_rfl) (fun _ _ _ h => h) (Or.inl ⟨?_, ?_⟩) ?_
              rotate_left 1
              · rfl
              · (intro w hSw; clear hSw; go_simp; (try with_reducible rfl))
              go_simp
              refine T_pure (i := 3) (v := ?va4) rfl (by kernel_rfl) (by kernel_rfl) (by kernel_rfl) (fun _ _ _ h => h) (Or.inl ⟨?_, ?_⟩) ?_
              rotate_left 1
              · rfl
              · (intro w hSw; clear hSw; go_simp; (try with_reducible rfl))
              go_simp
              refine T_take (i := 4) (v := ?va5) rfl (by kernel_rfl) (by kernel_rfl) (by kernel_rfl) (by kernel_rfl) (fun _ _ _ h => h) (Or.inl ⟨?_, ?_⟩) (by assumption) ?_
              rotate_left 1
              · rfl
              · (intro w hSw; unfold KeS at hSw; go_simp; (try with_reducible rfl))
              go_simp
              refine T_pure (i := 5) (v := ?va6) rfl (by kernel_rfl) (by kernel_rfl) (by kernel_rfl) (fun _ _ _ h => h) (Or.inl ⟨?_, ?_⟩) ?_
              rotate_left 1
              · rfl
              · (intro w hSw; clear hSw; go_simp; (try with_reducible rfl))
              go_simp
              refine T_pure (i := 6) (v := ?va7) rfl (by kernel_rfl) (by kernel_rfl) (by kernel_rfl) (fun _ _ _ h => h) (Or.inl ⟨?_, ?_⟩) ?_
              rotate_left 1
              · rfl
              · (intro w hSw; clear hSw; go_simp; (try with_reducible rfl))
              go_simp
              refine T_pure (i := 7) (v := ?va8) rfl (by kernel_rfl) (by kernel_rfl) (by kernel_rfl) (fun _ _ _ h => h) (Or.inl ⟨?_, ?_⟩) ?_
              rotate_left 1
              · rfl
              · (intro w hSw; clear hSw; go_simp; (try with_reducible rfl))
              go_simp
              refine T_pure (i := 8) (v := ?va9) rfl (by kernel_rfl) (by kernel_rfl) (by kernel_rfl) (fun _ _ _ h => h) (Or.inl ⟨?_, ?_⟩) ?_
              rotate_left 1
              · rfl
              · (intro w hSw; clear hSw; go_simp; (try with_reducible rfl))
              go_simp
              refine T_pure (i := 9) (v := ?va10) rfl (by kernel_rfl) (by kernel_rfl) (by kernel_rfl) (fun _ _ _ h => h) (Or.inl ⟨?_, ?_⟩) ?_
              rotate_left 1
              · rfl
              · (intro w hSw; clear hSw; go_simp; (try with_reducible rfl))
              go_simp
              refine T_take (i := 10) (v := ?va11) rfl (by kernel_rfl) (by kernel_rfl) (by kernel_rfl) (by kernel_rfl) (fun _ _ _ h => h) (Or.inl ⟨?_, ?_⟩) (by assumption) ?_
              rotate_left 1
              · rfl
              · (intro w hSw; unfold KeS at hSw; go_simp; (try with_reducible rfl))
              go_simp
              refine T_pure (i := 11) (v := ?va12) rfl (by kernel_rfl) (by kernel_rfl) (by kernel_rfl) (fun _ _ _ h => h) (Or.inl ⟨?_, ?_⟩) ?_
              rotate_left 1
              · rfl
              · (intro w hSw; clear hSw; go_simp; (try with_reducible rfl))
              go_simp
              refine T_pure (i := 12) (v := ?va13) rfl (by kernel_rfl) (by kernel_rfl) (by kernel_rfl) (fun _ _ _ h => h) (Or.inl ⟨?_, ?_⟩) ?_
              rotate_left 1
              · rfl
              · (intro w hSw; clear hSw; go_simp; (try with_reducible rfl))
              go_simp
              refine T_pure (i := 13) (v := ?va14) rfl (by kernel_rfl) (by kernel_rfl) (by kernel_rfl) (fun _ _ _ h => h) (Or.inl ⟨?_, ?_⟩) ?_
              rotate_left 1
              · rfl
              · (intro w hSw; clear hSw; go_simp; (try with_reducible rfl))
              go_simp
              refine T_pure (i := 14) (v := ?va15) rfl (by kernel_rfl) (by kernel_rfl) (by kernel_rfl) (fun _ _ _ h => h) (Or.inl ⟨?_, ?_⟩) ?_
              rotate_left 1
              · rfl
              · (intro w hSw; clear hSw; go_simp; (try with_reducible rfl))
              go_simp
              refine T_pure (i := 15) (v := ?va16) rfl (by kernel_rfl) (by kernel_rfl) (by kernel_rfl) (fun _ _ _ h => h) (Or.inl ⟨?_, ?_⟩) ?_
              rotate_left 1
              · rfl
              · (intro w hSw; clear hSw; go_simp; (try with_reducible rfl))
              go_simp
              refine T_pure (i := 16) (v := ?va17) rfl (by kernel_rfl) (by kernel_rfl) (by kernel_rfl) (fun _ _ _ h => h) (Or.inl ⟨?_, ?_⟩) ?_
              rotate_left 1
              · rfl
              · (intro w hSw; clear hSw; go_simp; (try with_reducible rfl))
              go_simp
              refine T_pure (i := 17) (v := ?va18) rfl (by kernel_rfl) (by kernel_rfl) (by kernel_rfl) (fun _ _ _ h => h) (Or.inl ⟨?_, ?_⟩) ?_
              rotate_left 1
              · rfl
              · (intro w hSw; clear hSw; go_simp; (try with_reducible rfl))
              go_simp
              refine T_take (i := 18) (v := ?va19) rfl (by kernel_rfl) (by kernel_rfl) (by kernel_rfl) (by kernel_rfl) (fun _ _ _ h => h) (Or.inl ⟨?_, ?_⟩) (by assumption) ?_
              rotate_left 1
              · rfl
              · (intro w hSw; unfold KeS at hSw; go_simp; (try with_reducible rfl))
              go_simp
              refine T_pure (i := 19) (v := ?va20) rfl (by kernel_rfl) (by kernel_rfl) (by kernel_rfl) (fun _ _ _ h => h) (Or.inl ⟨?_, ?_⟩) ?_
              rotate_left 1
              · rfl
              · (intro w hSw; clear hSw; go_simp; (try with_reducible rfl))
              go_simp
              refine T_pure (i := 20) (v := ?va21) rfl (by kernel_rfl) (by kernel_rfl) (by kernel_rfl) (fun _ _ _ h => h) (Or.inl ⟨?_, ?_⟩) ?_
              rotate_left 1
              · rfl
              · (intro w hSw; clear hSw; go_simp; (try with_reducible rfl))
              go_simp
              refine T_pure (i := 21) (v := ?va22) rfl (by kernel_rfl) (by kernel_rfl) (by kernel_rfl) (fun _ _ _ h => h) (Or.inl ⟨?_, ?_⟩) ?_
              rotate_left 1
              · rfl
              · (intro w hSw; clear hSw; go_simp; (try with_reducible rfl))
              go_simp
              refine T_pure (i := 22) (v := ?va23) rfl (by kernel_rfl) (by kernel_rfl) (by kernel_rfl) (fun _ _ _ h => h) (Or.inl ⟨?_, ?_⟩) ?_
              rotate_left 1
              · rfl
              · (intro w hSw; clear hSw; go_simp; (try with_reducible rfl))
              go_simp
              refine T_pure (i := 23) (v := ?va24) rfl (by kernel_rfl) (by kernel_rfl) (by kernel_rfl) (fun _ _ _ h => h) (Or.inl ⟨?_, ?_⟩) ?_
              rotate_left 1
              · rfl
              · (intro w hSw; clear hSw; go_simp; (try with_reducible rfl))
              go_simp
              refine T_take (i := 24) (v := ?va25) rfl (by kernel_rfl) (by kernel_rfl) (by kernel_rfl) (by kernel_rfl) (fun _ _ _ h => h) (Or.inl ⟨?_, ?_⟩) (by assumption) ?_
              rotate_left 1
              · rfl
              · (intro w hSw; unfold KeS at hSw; go_simp; (try with_reducible rfl))
              go_simp
              refine T_pure (i := 25) (v := ?va26) rfl (by kernel_rfl) (by kernel_rfl) (by kernel_rfl) (fun _ _ _ h => h) (Or.inl ⟨?_, ?_⟩) ?_
              rotate_left 1
              · rfl
              · (intro w hSw; clear hSw; go_simp; (try with_reducible rfl))
              go_simp
              refine T_pure (i := 26) (v := ?va27) rfl (by kernel_rfl) (by kernel_rfl) (by kernel_rfl) (fun _ _ _ h => h) (Or.inl ⟨?_, ?_⟩) ?_
              rotate_left 1
              · rfl
              · (intro w hSw; clear hSw; go_simp; (try with_reducible rfl))
              go_simp
              refine T_done (by kernel_rfl) ?_ _
              go_wp2_with fail
              go_roundg (gk - 1)
              case measure => have h1 := HK.out; have h2 := HJ.out; omega
              case rel => exact ⟨k + 1, j + 1, by have h2 := HJ.out; omega, by show _ = _; have h1 := HK.out; have h2 := HJ.out; omega, by go_num, by show _ = _; have := HJ.out; omega, HA.out⟩
            · have hj0 : ¬ ((j : Int) < (ats.length : Int)) := by omega
              -- once more
              have hag := HK1.out.again
              have hvf : (vs.length : Int) = fs.length := by have := HBN.out; omega
              rw [hvf] at hag
              have HZ := Lib.hid (sl_merge HA.out.log HFT2.out HLA2.out HA.out.ent (fun b hb => hb) HFL.out.2 (by have := HFL.out.1; omega) (by have := HXA.out; omega) (by have := HXA.out; omega) hag)
              have x1 : wr.cell? ⟨N, 1, none⟩ = some (.int .i64 xa) := by have := HA.out.box.cell 1; rw [← HOC.out] at this; exact this
              have x2 : wr.cell? ⟨N, 2, none⟩ = some (.int .i64 xb) := by have := HA.out.box.cell 2; rw [← HOC.out] at this; exact this
              have hwz : IntKind.i64.wrap (xa + (fs.length : Int)) = xa + (fs.length : Int) := IntWalk.i64_in _ (by have := HXA.out; omega)
              clear hag hvf
              go_wp2_with fail
              (with_reducible refine Calls.mono HZ.out ?_)
              clear HZ x2
              rintro r Wf ⟨O2, oc2, vb, esb, rfl, hl, hs1, hbb⟩
              have HAF : Hid (EnL Wf noB (.slice AA ats.length ac) ats g'.es) := HA.out.aft.same hs1 (fun b _ e => .inl (HA.out.m0 b e).2) (fun _ _ x => x.elim)
              have HS : Hid (Same noB w Wf) := HA.out.since.trans hs1 (fun b hb e => by have := (HA.out.m0 b e).1; omega)
              have HL := Lib.hid hl.log
              replace x1 := hs1.cell x1 (fun e => (HA.out.log.old N rfl).2 e)
              clear hl hs1 hbb HA
              have hZ := from_any HL.out HFT2.out HINV2.out.sm (i := 0) (most := 1000) ⟨by omega, by omega⟩ ⟨by omega, by omega⟩
              rw [Lg.from_all HINV2.out.b0 (by have := HGL2.out; omega)] at hZ
              have HZ := Lib.hid hZ
              clear hZ
              go_wp2_with fail
              (with_reducible refine Calls.mono HZ.out ?_)
              clear HZ
              rintro r Wg ⟨lv, rfl, las, hcp⟩
              have HZ := Lib.hid (sameents_true (HAF.out.keep hcp.since) hcp.enl)
              replace HS := Lib.hid (HS.out.trans' hcp.since)
              clear hcp
              go_wp2_with fail
              (with_reducible refine Calls.mono HZ.out ?_)
              clear HZ
              rintro r Wh ⟨rfl, hs1⟩
              replace HS := Lib.hid (HS.out.trans' hs1)
              clear hs1
              go_wp2_with fail
              go_ret
              exact ⟨rfl, HS.out⟩
end Go.Proofs.Ytlocfbjeljgblaa
