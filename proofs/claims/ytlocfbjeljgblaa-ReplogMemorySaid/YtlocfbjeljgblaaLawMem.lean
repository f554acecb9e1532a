/- ReplogMemory: its walk. (printed by genLawMem.py) -/
import Derived.Test.YtlocfbjeljgblaaRepFs
import Derived.Test.YtlocfbjeljgblaaLawCmp
namespace Go.Proofs.Ytlocfbjeljgblaa
open Go Go.RowKit
set_option maxRecDepth 100000

theorem own_seven (w : World) (k : Int) : (w.alloc (.cells #[.int .i64 k] 3)).ownsRow 0 3 1 (.slice (some ⟨w.heap.size, 0, none⟩) 1 1) 1 [.int .i64 k] :=
  ⟨by simp, .inr ⟨w.heap.size, 1, #[.int .i64 k], rfl, by simp, heap_alloc_new w _, Nat.le_refl _, by simp [maxLen], by simp, by simp⟩⟩
theorem app_seven (w : World) (k : Int) : AppAt w (w.alloc (.cells #[.int .i64 k] 3)) (.slice (some ⟨w.heap.size, 0, none⟩) 1 1) 1 3 1 [.int .i64 k] :=
  ⟨own_seven w k, fun g hg => by simp [Value.ownBlock] at hg; omega, (Same.refl _ _).alloc _⟩
theorem enl_zero {W : World} {bad : Nat → Prop} {c : Cm} {v : CmV} (h : CmIs W bad c v) : EnL (W.alloc (.cells (En.cells ⟨0, 0, c⟩).toArray 57)) noB (.slice (some ⟨W.heap.size, 0, none⟩) 1 1) [⟨0, 0, c⟩] [⟨0, 0, v⟩] :=
  ⟨Rd.of_blk (Blk.new W 57 (ecells [⟨0, 0, c⟩]).toArray) (fun x => x) rfl (Nat.le_refl _) (by simp [maxLen]), .cons ⟨rfl, rfl, h.same ((Same.refl noB W).alloc _) (fun _ _ x => x.elim) (fun _ _ x => x.elim)⟩ .nil⟩
theorem cml_one {W : World} {bad : Nat → Prop} {c : Cm} {v : CmV} (hb : ∀ b, bad b → b < W.heap.size) (h : CmIs W bad c v) : CmL (W.alloc (.cells c.cells.toArray 55)) bad (.slice (some ⟨W.heap.size, 0, none⟩) 1 1) [c] [v] :=
  ⟨Rd.of_blk (Blk.new W 55 (ccells [c]).toArray) (fun x => by have := hb _ x; omega) rfl (Nat.le_refl _) (by simp [maxLen]), .cons (h.keep ((Same.refl noB W).alloc _)) .nil⟩
/-- Where the first of a list lies. -/
theorem SlIs.first {W : World} {bad : Nat → Prop} {s : Sl} {x : Int} {l : List Int} (h : SlIs W bad s (x :: l)) : ∃ b o, s.addr = some ⟨b, o, none⟩ ∧ s.len = l.length + 1 ∧ b < W.heap.size ∧ ¬ bad b ∧ W.cell? ⟨b, o, none⟩ = some (.int .i64 x) := by
  have hl : s.len = l.length + 1 := h.1
  obtain ⟨b, o, e, r⟩ := h.2.at_ (by omega)
  exact ⟨b, o, e, hl, r.lt, r.ok, by have := r.cell 0 (.int .i64 x) rfl; rwa [Nat.add_zero] at this⟩
/-- What appending one command in the last term leaves. -/
theorem Lg.append_one (g : Lg) (c : CmV) : g.append g.last.2 [c] = (⟨g.base, g.term, g.es ++ [⟨g.last.1 + 1, g.last.2, c⟩]⟩, [⟨g.last.1 + 1, g.last.2, c⟩]) := by
  unfold Lg.append
  rw [if_neg (by omega)]
  rfl
theorem copy_one {w w' : World} {v : Value} {es : List En} {x : EnV} (h : CopyIs w w' v es [x]) : ∃ G c e, v = .slice (some ⟨G, 0, none⟩) 1 c ∧ es = [e] ∧ EnIs w' (fun b => b < w.heap.size ∨ b = G) e x ∧ w.heap.size ≤ G ∧ G < w'.heap.size ∧ 1 ≤ c ∧ c ≤ 9223372036854775807 ∧ w'.cell? ⟨G, 12, none⟩ = some (.slice e.c.f3.addr e.c.f3.len e.c.f3.cap) := by
  have hl := h.is.len
  obtain ⟨e, rfl⟩ : ∃ e, es = [e] := by
    cases es with
    | nil => simp at hl
    | cons a l => cases l with
      | nil => exact ⟨a, rfl⟩
      | cons b l => simp at hl
  rcases h.own.2 with ⟨_, e0⟩ | ⟨G, cap, cur, rfl, _, hb, hnc, hcm, hcs, ht⟩
  · simp at e0
  · have hi := h.is
    cases hi with
    | cons hi _ =>
      refine ⟨G, cap, e, rfl, rfl, hi.same (Same.refl noB _) (fun _ _ x => x.elim) (fun b _ hb => hb.elim .inl (fun e => .inr (by rw [e]; rfl))), h.new G rfl, lt_of_heap hb, hnc, by simpa [maxLen] using hcm, ?_⟩
      have h12 := h.own.cellAt 12 (by simp)
      rw [h12]
      rfl
set_option maxHeartbeats 32000000 in
theorem lawMemory_any {w : World} {ov : Value} {os : List OpR} {ys : List OpV} {c : Cm} {cv : CmV} (ho : OpL w noB ov os ys) (hx : CmIs w noB c cv) :
    Calls Try.prog 7 #[ov, c.val] w fun r w' => r = .returned (.bool true) ∧ Same noB w w' := by
  have HOL := Lib.hid ho.is.len
  have HO := Lib.hid ho
  have HX := Lib.hid hx
  have h3 := hx.f3.1
  obtain ⟨⟨sk, sc, sn, sb, sg, ss, sck, scm⟩, a1, a2, a3, a4, a5⟩ := c
  simp only at h3
  have HL3 := Lib.hid h3
  clear hx ho h3
  unfold Cm.val
  dsimp only
  go_enter Try.func7, Try.ntmps7
  go_upto_region 1 with (fail)
  refine wp_abs (fun W => Hid (Blk W w.heap.size 55 #[.int .i64 sk, .int .i64 sc, .int .i64 sn, .string sb, .int .i64 sg, .int .i64 ss, .int .i64 sck, .int .i64 scm, .slice a1.addr a1.len a1.cap, .slice a2.addr a2.len a2.cap, .slice a3.addr a3.len a3.cap, .slice a4.addr a4.len a4.cap, .slice a5.addr a5.len a5.cap]) ∧ Hid (Same noB w W)) ⟨Blk.new w 55 _, (Same.refl _ _).alloc _⟩ ?_
  rintro W0 ⟨HN, HS⟩
  have HWN : Hid (w.heap.size = w.heap.size) := rfl
  obtain ⟨N, hN⟩ : ∃ N, w.heap.size = N := ⟨_, rfl⟩
  replace HWN : Hid (w.heap.size = N) := hN
  rw [hN] at HN ⊢
  clear hN
  go_wp2_with fail
  (with_reducible refine Calls.mono (awake_any W0) ?_)
  rintro r Wa ⟨rfl, hs1⟩
  replace HN := Lib.hid (HN.out.same hs1 (fun x => x))
  replace HS := Lib.hid (HS.out.trans' hs1)
  clear hs1
  go_wp2_with fail
  (with_reducible refine Calls.mono (few10_any (HO.out.keep HS.out) 8) ?_)
  rintro r Wc ⟨qa, rfl, hqa, hs1⟩
  replace HN := Lib.hid (HN.out.same hs1 (fun x => x))
  replace HS := Lib.hid (HS.out.trans' hs1)
  have HQA := Lib.hid hqa
  clear hs1 hqa
  cases qa with
  | false =>
    go_wp2_with fail
    go_ret
    exact ⟨rfl, HS.out⟩
  | true =>
  have x0 := HN.out.cell 0
  have x1 := HN.out.cell 1
  have x2 := HN.out.cell 2
  have x3 := HN.out.cell 3
  have x4 := HN.out.cell 4
  have x5 := HN.out.cell 5
  have x6 := HN.out.cell 6
  have x7 := HN.out.cell 7
  have x8 := HN.out.cell 8
  have x9 := HN.out.cell 9
  have x10 := HN.out.cell 10
  have x11 := HN.out.cell 11
  have x12 := HN.out.cell 12
  simp only [List.getElem?_toArray, List.getElem?_cons_zero, List.getElem?_cons_succ] at x0 x1 x2 x3 x4 x5 x6 x7 x8 x9 x10 x11 x12
  have hZ : Calls Try.prog 26 #[.slice (some ⟨Wc.heap.size, 0, none⟩) 1 1, .int .i64 1] (Wc.alloc (.cells #[.int .i64 0, .int .i64 0, .int .i64 sk, .int .i64 sc, .int .i64 sn, .string sb, .int .i64 sg, .int .i64 ss, .int .i64 sck, .int .i64 scm, .slice a1.addr a1.len a1.cap, .slice a2.addr a2.len a2.cap, .slice a3.addr a3.len a3.cap, .slice a4.addr a4.len a4.cap, .slice a5.addr a5.len a5.cap] 57)) (FewT (Wc.alloc (.cells #[.int .i64 0, .int .i64 0, .int .i64 sk, .int .i64 sc, .int .i64 sn, .string sb, .int .i64 sg, .int .i64 ss, .int .i64 sck, .int .i64 scm, .slice a1.addr a1.len a1.cap, .slice a2.addr a2.len a2.cap, .slice a3.addr a3.len a3.cap, .slice a4.addr a4.len a4.cap, .slice a5.addr a5.len a5.cap] 57)) [⟨0, 0, cv⟩] 1) := few26t_any (enl_zero (HX.out.keep HS.out)) 1
  have HZ := Lib.hid hZ
  clear hZ
  go_wp2_with fail
  (with_reducible refine Calls.mono HZ.out ?_)
  clear HZ x0 x1 x2 x3 x4 x5 x6 x7 x8 x9 x10 x11 x12
  rintro r Wd ⟨qc, rfl, hqc, hs1⟩
  replace hs1 : Same noB Wc Wd := ((Same.refl noB Wc).alloc _).trans' hs1
  replace HN := Lib.hid (HN.out.same hs1 (fun x => x))
  replace HS := Lib.hid (HS.out.trans' hs1)
  have HQC := Lib.hid hqc
  clear hs1 hqc
  cases qc with
  | false =>
    go_wp2_with fail
    go_ret
    exact ⟨rfl, HS.out⟩
  | true =>
  have hqa := HQA.out (by trivial)
  have hcs : cv.S10 := (HQC.out (by trivial)).2 _ (List.mem_cons_self ..)
  have HCS := Lib.hid hcs
  have HBD : Hid (((Lg.new 0 0).runK ys os.length).Bd ys.length ∧ ys.length ≤ 8) := ⟨by rw [HOL.out]; exact run_bd hqa.2, by omega⟩
  obtain ⟨g, hg⟩ : ∃ g, (Lg.new 0 0).runK ys os.length = g := ⟨_, rfl⟩
  have hr1 := run_any (w := Wd) (B := oneB N) (HO.out.cut HS.out (fun b e => by have h3 : b = N := e; have := HWN.out; omega)) (fun b e => by have h3 : b = N := e; have := HN.out.lt; omega) (by omega) hqa.2
  rw [hg] at hr1 HBD
  have HR1 := Lib.hid hr1
  clear hr1 hg HO HQA HQC HOL hqa hcs
  go_wp2_with fail
  (with_reducible refine Calls.mono HR1.out ?_)
  clear HR1
  rintro r W1 ⟨M, v, es, L1, n1, c1, ls1, rfl, hst, hs1, hm⟩
  have HL := Lib.hid hst.sl
  have HM0 : Hid (∀ b, lgB M v b → N < b) := fun b hb => by have := hm b hb; have := HN.out.lt; omega
  replace HN := Lib.hid (HN.out.same hs1 (fun x => x))
  replace HS := Lib.hid (HS.out.trans' hs1)
  clear hst hs1 hm
  have HRX := Lib.hid (row_stored (Blk.new W1 29 #[.int .i64 0, .int .i64 0, .slice none 0 0]) #[.int .i64 g.base, .int .i64 g.term, .slice L1 n1 c1])
  have hsx : Same noB W1 ((W1.alloc (.cells #[.int .i64 0, .int .i64 0, .slice none 0 0] 29)).setRow W1.heap.size #[.int .i64 g.base, .int .i64 g.term, .slice L1 n1 c1]) := ((Same.refl noB W1).alloc _).trans HRX.out.2 (fun b hb e => by have h3 : b = W1.heap.size := e; omega)
  go_upto_region 8 with (refine wpList_store_row rfl 29 _ _ rfl W1.heap.size #[.int .i64 g.base, .int .i64 g.term, .slice L1 n1 c1] rfl rfl 29 _ (Blk.new W1 29 #[.int .i64 0, .int .i64 0, .slice none 0 0]) (by kernel_rfl) rfl (row29_one g.base g.term L1 n1 c1) ?_)
  refine wp_abs (fun W => Hid (Same noB W1 W)) hsx ?_
  rintro W2 HS1
  replace HN := Lib.hid (HN.out.same HS1.out (fun x => x))
  replace HS := Lib.hid (HS.out.trans' HS1.out)
  replace HL := Lib.hid (HL.out.keep HS1.out)
  clear HS1 HRX hsx
  have HFT := Lib.hid (HBD.out.1.fit (by have := HBD.out.2; omega))
  have HLA := Lib.hid (HBD.out.1.last (by have := HBD.out.2; omega))
  have HINV := Lib.hid HBD.out.1.inv
  have HGL : Hid (g.es.length ≤ 64) := by have := HBD.out.1.len; have := HBD.out.2; show _ ≤ _; omega
  have HZ := Lib.hid (last_any HL.out.log HFT.out)
  go_wp2_with fail
  (with_reducible refine Calls.mono HZ.out ?_)
  clear HZ
  rintro r W3 ⟨rfl, hs1⟩
  replace HN := Lib.hid (HN.out.same hs1 (fun x => x))
  replace HS := Lib.hid (HS.out.trans' hs1)
  replace HL := Lib.hid (HL.out.keep hs1)
  clear hs1
  -- the command's own list is made anew
  have hne : W3.heap.size ≠ N := by have := HN.out.lt; omega
  have n10 : (W3.alloc (.cells #[.int .i64 7] 3)).cell? ⟨N, 10, none⟩ = some (.slice a3.addr a3.len a3.cap) := (HN.out.alloc _).cell 10
  have HR3 : Hid (Rd (W3.alloc (.cells #[.int .i64 7] 3)) noB 1 (.slice a3.addr a3.len a3.cap) a3.len (icells cv.l3)) := (HX.out.f3.2.keep HS.out).keep ((Same.refl _ _).alloc _)
  have hal : a3.len ≤ 10 := by have := HL3.out; have := HCS.out.l3; omega
  go_upto_region 10 with (at_builtin; refine wpL_app slI rfl _ _ rfl rfl (own_seven W3 7) rfl HR3.out (icells_one _) (by omega) (Nat.zero_le _) ?_; intro A6 pc W4 hown6 hgrow6 hat6 _; have HF := Lib.hid ((app_seven W3 7).next hgrow6 hat6 hown6); have HN4 := Lib.hid (HN.out.same HF.out.since (fun x => x)); have m10 : W4.cell? ⟨N, 10, none⟩ = some (.slice a3.addr a3.len a3.cap) := HN4.out.cell 10; have f10 := HN4.out.frozen 10; clear hown6 hgrow6 hat6)
  obtain ⟨P, hP⟩ : ∃ P, A6 = some ⟨P, 0, none⟩ := by
    rcases HF.out.own.2 with ⟨_, e⟩ | ⟨P, cap, cur, e, _⟩
    · omega
    · injection e with e
      exact ⟨P, e⟩
  subst hP
  have HPN : Hid (W3.heap.size ≤ P ∧ P < W4.heap.size) := ⟨HF.out.new P rfl, own_lt HF.out.own rfl⟩
  obtain ⟨cur, HPB0⟩ := own_blk HF.out.own rfl
  have HPB := Lib.hid HPB0
  have HS5 := Lib.hid ((Same.refl (oneB N) W4).set1 10 (.slice (some ⟨P, 0, none⟩) (1 + a3.len) pc))
  have HN5 := Lib.hid (HN4.out.set_ 10 (.slice (some ⟨P, 0, none⟩) (1 + a3.len) pc))
  have HPN2 : Hid (P ≠ N) := by have := HN.out.lt; have := HPN.out; show ¬ _; omega
  have HLP : Hid (SL (fun b => b = N ∨ b = P) W4 M v es g) := HL.out.more HF.out.since (fun b hb => hb.elim (fun e => .inl e) (fun e => .inr (by have := HPN.out; omega)))
  have HF3 : Hid (SlIs W4 (fun b => b < W3.heap.size) ⟨some ⟨P, 0, none⟩, 1 + a3.len, pc⟩ (7 :: cv.l3)) := ⟨by have := HL3.out; simp only [List.length_cons]; omega, HF.out.rd (fun _ h => h)⟩
  refine wp_abs (fun W => Hid (Blk W N 55 #[.int .i64 sk, .int .i64 sc, .int .i64 sn, .string sb, .int .i64 sg, .int .i64 ss, .int .i64 sck, .int .i64 scm, .slice a1.addr a1.len a1.cap, .slice a2.addr a2.len a2.cap, .slice (some ⟨P, 0, none⟩) (1 + a3.len) pc, .slice a4.addr a4.len a4.cap, .slice a5.addr a5.len a5.cap]) ∧ Hid (Same noB w W) ∧ Hid (SL (fun b => b = N ∨ b = P) W M v es g) ∧ Hid (Blk W P 3 cur) ∧ Hid (SlIs W (lgB M v) ⟨some ⟨P, 0, none⟩, 1 + a3.len, pc⟩ (7 :: cv.l3)) ∧ Hid (Same (oneB N) W4 W)) ⟨HN5.out, (HS.out.trans' HF.out.since).trans HS5.out (fun b hb e => by have h3 : b = N := e; have := HWN.out; omega), HLP.out.put HS5.out (fun b e => .inl e), HPB.out.same HS5.out (fun e => HPN2.out e), HF3.out.same HS5.out (fun b _ e => by have h3 : b = N := e; have := HN.out.lt; show b < _; omega) (fun b _ e => HL.out.log.blt b e), HS5.out⟩ ?_
  rintro W5 ⟨HNx, HSx, HLx, HPx, HFx, HSw⟩
  have HCM : Hid (CmIs W5 (lgB M v) ⟨⟨sk, sc, sn, sb, sg, ss, sck, scm⟩, a1, a2, ⟨some ⟨P, 0, none⟩, 1 + a3.len, pc⟩, a4, a5⟩ ⟨cv.s, cv.l1, cv.l2, 7 :: cv.l3, cv.l4, cv.l5⟩) := by
    have hB : ∀ b, b < w.heap.size → lgB M v b → noB b := fun b hb e => by have := HM0.out b e; have := HWN.out; omega
    have h := HX.out.same HSx.out (fun _ _ x => x.elim) hB
    exact ⟨h.s, h.f1, h.f2, HFx.out, h.f4, h.f5⟩
  have HP7 : Hid (W5.cell? ⟨P, 0, none⟩ = some (.int .i64 7)) := by
    obtain ⟨b, o, e1, _, _, _, e2⟩ := HFx.out.first
    injection e1 with e1
    injection e1 with e1 e3
    rw [e1, e3]
    exact e2
  have HPW : Hid (w.heap.size ≤ P) := Nat.le_trans HS.out.size HPN.out.1
  clear hne n10 HR3 m10 f10 HF HN4 HPB HPB0 HS5 HN5 HLP HF3 HN HS HL HX HFx HSw HPN
  have HVS : Hid (CmV.Sm ⟨cv.s, cv.l1, cv.l2, 7 :: cv.l3, cv.l4, cv.l5⟩) := ⟨by have := HCS.out.l1; simp only; omega, by have := HCS.out.l2; simp only; omega, by have := HCS.out.l3; simp only [List.length_cons]; omega, by have := HCS.out.l4; simp only; omega, by have := HCS.out.l5; simp only; omega⟩
  obtain ⟨cw, hcw⟩ : ∃ c : CmV, ⟨cv.s, cv.l1, cv.l2, 7 :: cv.l3, cv.l4, cv.l5⟩ = c := ⟨_, rfl⟩
  have HC3 : Hid (cw.l3 = 7 :: cv.l3) := by rw [← hcw]; rfl
  rw [hcw] at HCM HVS
  clear hcw
  -- the append
  have hap := g.append_one cw
  obtain ⟨g', hg'⟩ : ∃ g' : Lg, ⟨g.base, g.term, g.es ++ [⟨g.last.1 + 1, g.last.2, cw⟩]⟩ = g' := ⟨_, rfl⟩
  obtain ⟨xn, hxn⟩ : ∃ x : EnV, ⟨g.last.1 + 1, g.last.2, cw⟩ = x := ⟨_, rfl⟩
  rw [hxn] at hap hg'
  rw [hg'] at hap
  have hZ := append2_any (bad := lgB M v) (HLx.out.log.keep ((Same.refl noB W5).alloc (.cells #[.int .i64 sk, .int .i64 sc, .int .i64 sn, .string sb, .int .i64 sg, .int .i64 ss, .int .i64 sck, .int .i64 scm, .slice a1.addr a1.len a1.cap, .slice a2.addr a2.len a2.cap, .slice (some ⟨P, 0, none⟩) (1 + a3.len) pc, .slice a4.addr a4.len a4.cap, .slice a5.addr a5.len a5.cap] 55))) HFT.out HLA.out (cml_one HLx.out.log.blt HCM.out) (fun b hb => hb) (by simp) (fun x hx => by rw [List.mem_singleton.1 hx]; exact HVS.out) g.last.2
  rw [hap] at hZ
  replace hZ : Calls Try.prog 27 #[.pointer (some ⟨M, 0, none⟩), .int .i64 g.last.2, .slice (some ⟨W5.heap.size, 0, none⟩) 1 1] (W5.alloc (.cells #[.int .i64 sk, .int .i64 sc, .int .i64 sn, .string sb, .int .i64 sg, .int .i64 ss, .int .i64 sck, .int .i64 scm, .slice a1.addr a1.len a1.cap, .slice a2.addr a2.len a2.cap, .slice (some ⟨P, 0, none⟩) (1 + a3.len) pc, .slice a4.addr a4.len a4.cap, .slice a5.addr a5.len a5.cap] 55)) _ := hZ
  have HZ := Lib.hid hZ
  have hbd2 := HBD.out.1.append g.last.2 (vs := [cw]) (by simp) (fun x hx => by rw [List.mem_singleton.1 hx]; exact HVS.out)
  rw [hap] at hbd2
  have HFT2 : Hid g'.Fit := hbd2.fit (by have := HBD.out.2; omega)
  have HINV2 : Hid g'.Inv := hbd2.inv
  have hlx : g'.es[g.es.length]? = some xn := by rw [← hg']; simp
  have HLX := Lib.hid hlx
  have hll : g'.last = (g.last.1 + 1, g.last.2) := by
    have h1 := Lg.last_at (g := g') (k := g.es.length) (by rw [← hg']; simp) hlx
    rw [h1, ← hxn]
  have HLL := Lib.hid hll
  have HBE : Hid (g'.base + 1 + (g.es.length : Int) = g.last.1 + 1) := by
    have h1 := HINV.out.last.1
    have h2 : g'.base = g.base := by rw [← hg']
    show _ = _
    omega
  have HX3 : Hid (xn.c.l3 = 7 :: cv.l3) := by rw [← hxn]; exact HC3.out
  clear hap hg' hxn hZ hbd2 hlx hll HVS HCM HCS HL3 HBD HINV
  have x0 := HNx.out.cell 0
  have x1 := HNx.out.cell 1
  have x2 := HNx.out.cell 2
  have x3 := HNx.out.cell 3
  have x4 := HNx.out.cell 4
  have x5 := HNx.out.cell 5
  have x6 := HNx.out.cell 6
  have x7 := HNx.out.cell 7
  have x8 := HNx.out.cell 8
  have x9 := HNx.out.cell 9
  have x10 := HNx.out.cell 10
  have x11 := HNx.out.cell 11
  have x12 := HNx.out.cell 12
  simp only [List.getElem?_toArray, List.getElem?_cons_zero, List.getElem?_cons_succ] at x0 x1 x2 x3 x4 x5 x6 x7 x8 x9 x10 x11 x12
  go_wp2_with fail
  (with_reducible refine Calls.mono HZ.out ?_)
  clear HZ x0 x1 x2 x3 x4 x5 x6 x7 x8 x9 x10 x11 x12
  rintro r W7 ⟨W6, gv, gs, rfl, hl, hcf⟩
  have hal5 := (Same.refl noB W5).alloc (.cells #[.int .i64 sk, .int .i64 sc, .int .i64 sn, .string sb, .int .i64 sg, .int .i64 ss, .int .i64 sck, .int .i64 scm, .slice a1.addr a1.len a1.cap, .slice a2.addr a2.len a2.cap, .slice (some ⟨P, 0, none⟩) (1 + a3.len) pc, .slice a4.addr a4.len a4.cap, .slice a5.addr a5.len a5.cap] 55)
  obtain ⟨v2, es2, h1, h2, _⟩ := (HLx.out.keep hal5).step hl (Same.refl noB _)
  have hN6 := (HNx.out.same hal5 (fun x => x)).same h2 (fun e => (HLx.out.old N (.inl rfl)).2 e)
  have hP6 := (HPx.out.same hal5 (fun x => x)).same h2 (fun e => (HLx.out.old P (.inr rfl)).2 e)
  have hPl := hP6.lt
  have hNl := hN6.lt
  obtain ⟨G, oc, e, rfl, rfl, hei, hG1, hG2, hoc1, hoc2, hgc⟩ := copy_one hcf.1
  have hfe := hcf.2 e (List.mem_cons_self ..)
  have hs67 := hcf.1.since
  have hsw : Same noB w W7 := ((HSx.out.trans' hal5).trans h2 (fun b hb e => by have := HM0.out b e; have := HWN.out; omega)).trans' hs67
  have hef := hei.c.f3
  rw [HX3.out] at hef
  obtain ⟨Q, qo, hqa, hql, hqlt, hqok, hqc⟩ := hef.first
  have hqG : W6.heap.size ≤ Q := by
    rcases Nat.lt_or_ge Q W6.heap.size with h | h
    · exact absurd (.inl h) hqok
    · exact h
  obtain ⟨hq1, hq2⟩ := hfe Q qo hqa
  rw [hqa, hql] at hgc
  obtain ⟨qcap, hqcap⟩ : ∃ q, e.c.f3.cap = q := ⟨_, rfl⟩
  rw [hqcap] at hgc
  have hqk : cv.l3.length + 1 ≤ qcap ∧ qcap ≤ 9223372036854775807 := by have h9 := hef.2.caps; rw [hql, hqcap] at h9; exact h9
  have HL : Hid (SL (fun b => b = N ∨ b = P ∨ (W6.heap.size ≤ b ∧ b < W7.heap.size)) W7 M v2 es2 g') := h1.more hs67 (fun b hb => by
    rcases hb with hb | hb | hb
    · exact .inl (.inl hb)
    · exact .inl (.inr hb)
    · exact .inr hb)
  have hp7 : W7.cell? ⟨P, 0, none⟩ = some (.int .i64 7) := hs67.cell (h2.cell (hal5.cell HP7.out (fun x => x)) (fun e => (HLx.out.old P (.inr rfl)).2 e)) (fun x => x)
  have HPC := Lib.hid hp7
  have HN := Lib.hid (hN6.same hs67 (fun x => x))
  have HP := Lib.hid (hP6.same hs67 (fun x => x))
  have HS := Lib.hid hsw
  have HG := Lib.hid hgc
  have HQ := Lib.hid (And.intro hqc (And.intro hq2 hqlt))
  have HPL : Hid (w.heap.size ≤ P) := HPW.out
  have HQW : Hid (w.heap.size ≤ Q) := by have := HSx.out.size; have h8 := hal5.size; have h9 := h2.size; show _ ≤ _; omega
  have HQN : Hid (Q ≠ N ∧ Q ≠ P ∧ G ≠ N ∧ G ≠ P ∧ W6.heap.size ≤ Q ∧ Q ≠ G ∧ N < W6.heap.size ∧ P < W6.heap.size) := ⟨by omega, by omega, by omega, by omega, hqG, fun e => hqok (.inr e), hNl, hPl⟩
  have hoc3 : 1 ≤ oc := hoc1
  have HOC := Lib.hid (And.intro hoc1 hoc2)
  clear HLx HNx HPx HSx hal5 h1 h2 hN6 hP6 hPl hNl hei hG1 hG2 hgc hfe hs67 hsw hef hqa hql hqlt hqok hqc hqG hq1 hq2 hcf hl hoc3 hqcap HP7 hp7
  obtain ⟨q1, hq1⟩ : ∃ q, cv.l3.length + 1 = q := ⟨_, rfl⟩
  rw [hq1] at HG hqk
  have hq0 : (0 : Int) < (q1 : Int) := by omega
  have hqb : ((q1 : Int) == 0) = false := beq_eq_false_iff_ne.2 (by omega)
  have hqd : decide ((0 : Int) < (q1 : Int)) = true := decide_eq_true hq0
  have HQ1 := Lib.hid hq1
  obtain ⟨B, hB⟩ : ∃ B : Nat → Prop, (fun b => b = N ∨ b = P ∨ (W6.heap.size ≤ b ∧ b < W7.heap.size)) = B := ⟨_, rfl⟩
  have HBQ : Hid (B P ∧ B Q) := by rw [← hB]; exact ⟨.inr (.inl rfl), .inr (.inr ⟨HQN.out.2.2.2.2.1, HQ.out.2.2⟩)⟩
  rw [hB] at HL
  clear hq1 hB hoc1
  have HZ := Lib.hid (last_any HL.out.log HFT2.out)
  rw [HLL.out] at HZ
  go_wp2_with fail
  (with_reducible refine Calls.mono HZ.out ?_)
  clear HZ
  rintro r W8 ⟨rfl, hs1⟩
  replace HL := Lib.hid (HL.out.keep hs1)
  replace HN := Lib.hid (HN.out.same hs1 (fun x => x))
  replace HP := Lib.hid (HP.out.same hs1 (fun x => x))
  replace HPC := Lib.hid (hs1.cell HPC.out (fun x => x))
  replace HS := Lib.hid (HS.out.trans' hs1)
  replace HG := Lib.hid (hs1.cell HG.out (fun x => x))
  replace HQ := Lib.hid (And.intro (hs1.cell HQ.out.1 (fun x => x)) (And.intro (fun o' => (hs1.frozen (a := ⟨Q, o', none⟩) HQ.out.2.2 (fun x => x)).trans (HQ.out.2.1 o')) (Nat.lt_of_lt_of_le HQ.out.2.2 hs1.size)))
  clear hs1
  have n10 : W8.cell? ⟨N, 10, none⟩ = some (.slice (some ⟨P, 0, none⟩) (1 + a3.len) pc) := HN.out.cell 10
  have m0 : W8.cell? ⟨P, 0, none⟩ = some (.int .i64 7) := HPC.out
  have z0 := HP.out.frozen 0
  have hpl : (0 : Int) < ((1 + a3.len : Nat) : Int) := by omega
  have HS9 := Lib.hid ((Same.refl (oneB P) W8).set1 0 (.int .i64 8))
  go_upto_region 15 with (fail)
  refine wp_abs (fun W => W.cell? ⟨G, 12, none⟩ = some (.slice (some ⟨Q, qo, none⟩) q1 qcap) ∧ W.cell? ⟨Q, qo, none⟩ = some (.int .i64 7) ∧ W.frozen? ⟨Q, qo, none⟩ = false ∧ Hid (Same noB w W) ∧ Hid (SL B W M v2 es2 g')) ⟨HS9.out.cell HG.out (fun e => HQN.out.2.2.2.1 e), HS9.out.cell HQ.out.1 (fun e => HQN.out.2.1 e), (HS9.out.frozen (a := ⟨Q, qo, none⟩) HQ.out.2.2 (fun e => HQN.out.2.1 e)).trans (HQ.out.2.1 qo), HS.out.trans HS9.out (fun b hb e => by have h3 : b = P := e; have := HQN.out; have := HWN.out; have := HPL.out; omega), HL.out.put HS9.out (fun b e => by have h3 : b = P := e; rw [h3]; exact HBQ.out.1)⟩ ?_
  clear HS9 n10 m0 z0 hpl HL HN HP HPC HS HG HQ
  rintro W9 ⟨g12, c7, fz, HS, HL⟩
  have HS9 := Lib.hid ((Same.refl (oneB Q) W9).set1 qo (.int .i64 9))
  go_upto_region 18 with (fail)
  refine wp_abs (fun W => Hid (Same noB w W) ∧ Hid (SL B W M v2 es2 g')) ⟨HS.out.trans HS9.out (fun b hb e => by have h3 : b = Q := e; have := HQN.out; have := HQW.out; omega), HL.out.put HS9.out (fun b e => by have h3 : b = Q := e; rw [h3]; exact HBQ.out.2)⟩ ?_
  clear HS9 g12 c7 fz HL HS
  rintro W10 ⟨HS, HL⟩
  -- the entry
  have HSW10 : Hid (w.heap.size ≤ W10.heap.size) := HS.out.size
  have hZ := entry2_at HL.out.log HFT2.out HINV2.out.sm HLX.out
  rw [HBE.out] at hZ
  have HZ := Lib.hid hZ
  clear hZ
  go_wp2_with fail
  (with_reducible refine Calls.mono HZ.out ?_)
  clear HZ
  rintro r W11 ⟨e2, rfl, hei, hfe, hs1⟩
  have hef := hei.c.f3
  rw [HX3.out] at hef
  obtain ⟨Q2, q2o, hqa, hql, hqlt, hqok, hqc⟩ := hef.first
  obtain ⟨_, hfz⟩ := hfe (by omega) Q2 q2o hqa
  rw [HQ1.out] at hql
  obtain ⟨qc2, hqc2⟩ : ∃ q, e2.c.f3.cap = q := ⟨_, rfl⟩
  have hL2 : SL (fun b => W10.heap.size ≤ b ∧ b < W11.heap.size) W11 M v2 es2 g' := HL.out.more hs1 (fun b hb => .inr hb)
  have hq10 : W10.heap.size ≤ Q2 := by
    rcases Nat.lt_or_ge Q2 W10.heap.size with h | h
    · exact absurd h hqok
    · exact h
  have HRE := Lib.hid (en_stored (Blk.new W11 57 en0.cells.toArray) e2)
  have hsx : Same noB W11 ((W11.alloc (.cells en0.cells.toArray 57)).setRow W11.heap.size e2.cells.toArray) := ((Same.refl noB W11).alloc _).trans HRE.out.2 (fun b hb e => by have h3 : b = W11.heap.size := e; omega)
  have hcell : ((W11.alloc (.cells en0.cells.toArray 57)).setRow W11.heap.size e2.cells.toArray).cell? ⟨W11.heap.size, 12, none⟩ = some (.slice (some ⟨Q2, q2o, none⟩) q1 qc2) := by
    have h := HRE.out.1.cell 12
    rw [h]
    show some (Value.slice e2.c.f3.addr e2.c.f3.len e2.c.f3.cap) = _
    rw [hqa, hql, hqc2]
  have HSX := Lib.hid (And.intro hsx (And.intro hcell (And.intro hL2 (And.intro (hsx.cell hqc (fun x => x)) (And.intro ((hsx.frozen (a := ⟨Q2, q2o, none⟩) hqlt (fun x => x)).trans (hfz q2o)) (And.intro hq10 hqlt))))))
  have HS2 := Lib.hid (HS.out.trans' hs1)
  clear hei hfe hs1 hef hqa hql hqlt hqok hqc hfz hqc2 hL2 hq10 hsx hcell HL HS
  go_upto_region 19 with (refine wpList_store_row rfl 57 _ _ rfl W11.heap.size e2.cells.toArray rfl rfl 57 _ (Blk.new W11 57 en0.cells.toArray) (by kernel_rfl) rfl (by kernel_rfl) ?_)
  refine wp_abs (fun W => W.cell? ⟨W11.heap.size, 12, none⟩ = some (.slice (some ⟨Q2, q2o, none⟩) q1 qc2) ∧ W.cell? ⟨Q2, q2o, none⟩ = some (.int .i64 7) ∧ W.frozen? ⟨Q2, q2o, none⟩ = false ∧ Hid (Same noB w W) ∧ Hid (SL (fun b => W10.heap.size ≤ b ∧ b < W11.heap.size) W M v2 es2 g')) ⟨HSX.out.2.1, HSX.out.2.2.2.1, HSX.out.2.2.2.2.1, HS2.out.trans' HSX.out.1, HSX.out.2.2.1.keep HSX.out.1⟩ ?_
  have HQ2 : Hid (W10.heap.size ≤ Q2 ∧ Q2 < W11.heap.size) := HSX.out.2.2.2.2.2
  have HW10 : Hid (w.heap.size ≤ W10.heap.size) := HSW10.out
  clear HRE HSX HS2
  rintro W12 ⟨g12, c7, fz, HS, HL⟩
  have HS9 := Lib.hid ((Same.refl (oneB Q2) W12).set1 q2o (.int .i64 6))
  go_upto_region 22 with (fail)
  refine wp_abs (fun W => Hid (Same noB w W) ∧ Hid (SL (fun b => W10.heap.size ≤ b ∧ b < W11.heap.size) W M v2 es2 g')) ⟨HS.out.trans HS9.out (fun b hb e => by have h3 : b = Q2 := e; have := HQ2.out; have := HW10.out; omega), HL.out.put HS9.out (fun b e => by have h3 : b = Q2 := e; rw [h3]; exact HQ2.out)⟩ ?_
  clear HS9 g12 c7 fz HL HS
  rintro W13 ⟨HS, HL⟩
  have hfo := Lg.from_one_yes HLX.out
  rw [HBE.out] at hfo
  have hZ := from_any HL.out.log HFT2.out HINV2.out.sm (i := g.last.1 + 1) (most := 1) ⟨by have := HLA.out; omega, by have := HLA.out; omega⟩ ⟨by omega, by omega⟩
  rw [hfo] at hZ
  have HZ := Lib.hid hZ
  clear hZ hfo
  go_wp2_with fail
  (with_reducible refine Calls.mono HZ.out ?_)
  clear HZ
  rintro r W14 ⟨fv, rfl, fs, hcp⟩
  obtain ⟨F, fc, e3, rfl, rfl, hei, _, _, hfc1, hfc2, hgc⟩ := copy_one hcp
  have hef := hei.c.f3
  rw [HX3.out] at hef
  obtain ⟨Q3, q3o, hqa, hql, hqlt, hqok, hqc⟩ := hef.first
  rw [HQ1.out] at hql
  rw [hqa, hql] at hgc
  replace HS := Lib.hid (HS.out.trans' hcp.since)
  clear hcp hei hef hqa hql hqlt hqok
  go_wp2_with fail
  go_ret
  exact ⟨rfl, HS.out⟩

end Go.Proofs.Ytlocfbjeljgblaa
