/- ReplogAsks: its walk. (printed by genLawAsk.py) -/
import Derived.Test.YtlocfbjeljgblaaLawKee
import Derived.Test.YtlocfbjeljgblaaRepPa
import Derived.Test.YtlocfbjeljgblaaRepPb
import Derived.Test.YtlocfbjeljgblaaRepPc
namespace Go.Proofs.Ytlocfbjeljgblaa
open Go Go.RowKit
set_option maxRecDepth 100000

structure AsI (w W : World) (M X : Nat) (v : Value) (es : List En) (L1 : Option Addr) (n1 c1 : Nat) (ls : List En) (g : Lg) : Prop where
  st : St noB W M v es (.slice L1 n1 c1) ls g
  xb : Blk W X 29 #[.int .i64 g.base, .int .i64 g.term, .slice L1 n1 c1]
  since : Same noB w W
namespace AsI
variable {w W W' : World} {M X : Nat} {v : Value} {es ls : List En} {L1 : Option Addr} {n1 c1 : Nat} {g : Lg}
theorem keep (h : AsI w W M X v es L1 n1 c1 ls g) (hs : Same noB W W') : AsI w W' M X v es L1 n1 c1 ls g := ⟨h.st.keep hs, h.xb.same hs (fun x => x), h.since.trans' hs⟩
theorem s (h : AsI w W M X v es L1 n1 c1 ls g) : RnX X g.base g.term (.slice L1 n1 c1) W := ⟨h.xb.cell 0, h.xb.cell 1, h.xb.cell 2⟩
theorem ref (h : AsI w W M X v es L1 n1 c1 ls g) : EnL W noB (.slice L1 n1 c1) ls g.es := h.st.ref.same (Same.refl noB W) (fun _ _ x => x.elim) (fun _ _ x => x.elim)
end AsI
theorem EnIs.no {w : World} {bad : Nat → Prop} {e : En} {x : EnV} (h : EnIs w bad e x) : EnIs w noB e x := h.same (Same.refl noB w) (fun _ _ x => x.elim) (fun _ _ x => x.elim)
set_option maxHeartbeats 32000000 in
theorem lawAsks_any {w : World} {ov : Value} {os : List OpR} {ys : List OpV} (ho : OpL w noB ov os ys) {i t m : Int} (hi : inI64 i) (hm : inI64 m) :
    Calls Try.prog 8 #[ov, .int .i64 i, .int .i64 t, .int .i64 m] w fun r w' => r = .returned (.bool true) ∧ Same noB w w' := by
  have HOL := Lib.hid ho.is.len
  have HO := Lib.hid ho
  have HI := Lib.hid (And.intro hi hm)
  clear ho hi hm
  go_enter Try.func8, Try.ntmps8
  go_wp2_with fail
  (with_reducible refine Calls.mono (awake_any w) ?_)
  rintro r Wa ⟨rfl, hs1⟩
  have HS := Lib.hid hs1
  clear hs1
  go_wp2_with fail
  (with_reducible refine Calls.mono (few10_any (HO.out.keep HS.out) 12) ?_)
  rintro r Wb ⟨qa, rfl, hqa, hs1⟩
  replace HS := Lib.hid (HS.out.trans' hs1)
  have HQA := Lib.hid hqa
  clear hs1 hqa
  cases qa with
  | false =>
    go_wp2_with fail
    go_ret
    exact ⟨rfl, HS.out⟩
  | true =>
  have hqa := HQA.out (by trivial)
  have HBD : Hid (((Lg.new 0 0).runK ys os.length).Bd ys.length ∧ ys.length ≤ 12) := ⟨by rw [HOL.out]; exact run_bd hqa.2, by omega⟩
  obtain ⟨g, hg⟩ : ∃ g, (Lg.new 0 0).runK ys os.length = g := ⟨_, rfl⟩
  have hr1 := run_any (w := Wb) (B := noB) (HO.out.keep HS.out) (fun b e => e.elim) (by omega) hqa.2
  rw [hg] at hr1 HBD
  have HR1 := Lib.hid hr1
  clear hr1 hg HO HQA hqa HOL
  go_wp2_with fail
  (with_reducible refine Calls.mono HR1.out ?_)
  clear HR1
  rintro r W1 ⟨M, v, es, L1, n1, c1, ls, rfl, hst, hs1, _⟩
  replace HS := Lib.hid (HS.out.trans' hs1)
  have HST := Lib.hid hst
  clear hs1 hst
  have HRX := Lib.hid (row_stored (Blk.new W1 29 #[.int .i64 0, .int .i64 0, .slice none 0 0]) #[.int .i64 g.base, .int .i64 g.term, .slice L1 n1 c1])
  have hsx : Same noB W1 ((W1.alloc (.cells #[.int .i64 0, .int .i64 0, .slice none 0 0] 29)).setRow W1.heap.size #[.int .i64 g.base, .int .i64 g.term, .slice L1 n1 c1]) := ((Same.refl noB W1).alloc _).trans HRX.out.2 (fun b hb e => by have h3 : b = W1.heap.size := e; omega)
  go_upto_region 8 with (refine wpList_store_row rfl 29 _ _ rfl W1.heap.size #[.int .i64 g.base, .int .i64 g.term, .slice L1 n1 c1] rfl rfl 29 _ (Blk.new W1 29 #[.int .i64 0, .int .i64 0, .slice none 0 0]) (by kernel_rfl) rfl (row29_one g.base g.term L1 n1 c1) ?_)
  refine wp_abs (fun W => Hid (AsI w W M W1.heap.size v es L1 n1 c1 ls g)) ⟨HST.out.keep hsx, HRX.out.1, HS.out.trans' hsx⟩ ?_
  clear HRX hsx HS HST
  rintro W2 HA
  obtain ⟨X, hX⟩ : ∃ X, W1.heap.size = X := ⟨_, rfl⟩
  rw [hX] at HA ⊢
  clear hX
  have HFT := Lib.hid (HBD.out.1.fit (by have := HBD.out.2; omega))
  have HINV := Lib.hid HBD.out.1.inv
  have HLEN : Hid (g.es.length ≤ 100000) := by have := HBD.out.1.len; have := HBD.out.2; show _ ≤ _; omega
  clear HBD
  obtain ⟨⟨tt, tq⟩, htt⟩ : ∃ p, g.termAt i = p := ⟨_, rfl⟩
  obtain ⟨⟨xe, qe⟩, hxe⟩ : ∃ p, g.entry i = p := ⟨_, rfl⟩
  obtain ⟨cf, hcf⟩ : ∃ o, g.conf i = o := ⟨_, rfl⟩
  have HTT := Lib.hid htt
  have HXE := Lib.hid hxe
  have HCF := Lib.hid hcf
  clear htt hxe hcf
  have hZ := term_any HA.out.st.log HFT.out HI.out.1
  rw [HTT.out] at hZ
  have HZ := Lib.hid hZ
  clear hZ
  go_wp2_with fail
  (with_reducible refine Calls.mono HZ.out ?_)
  clear HZ
  rintro r W3 ⟨rfl, hs1⟩
  replace HA := Lib.hid (HA.out.keep hs1)
  clear hs1
  obtain ⟨d0, d1, d2⟩ := HA.out.s
  have hZ := rterm_any HA.out.ref HFT.out HI.out.1
  rw [HTT.out] at hZ
  have HZ := Lib.hid hZ
  clear hZ
  go_wp2_with fail
  (with_reducible refine Calls.mono HZ.out ?_)
  clear HZ d0 d1 d2
  rintro r W4 ⟨rfl, hs1⟩
  replace HA := Lib.hid (HA.out.keep hs1)
  clear hs1
  have hen := fun (W : World) (h : AsI w W M X v es L1 n1 c1 ls g) => entry_any h.st.log HFT.out HINV.out.sm HI.out.1
  rw [HXE.out] at hen
  have HEN := Lib.hid hen
  have hrn := fun (W : World) (h : AsI w W M X v es L1 n1 c1 ls g) => rentry_any h.ref HFT.out HI.out.1
  rw [HXE.out] at hrn
  have HRN := Lib.hid hrn
  clear hen hrn
  have HZ := Lib.hid (HEN.out W4 HA.out)
  go_wp2_with fail
  (with_reducible refine Calls.mono HZ.out ?_)
  clear HZ
  rintro r W5 ⟨e1, rfl, hei, hs1⟩
  replace HA := Lib.hid (HA.out.keep hs1)
  have HI1 := Lib.hid hei
  clear hei hs1
  have HR5 := Lib.hid (row_stored (Blk.new W5 57 en0.cells.toArray) e1.cells.toArray)
  have hsx : Same noB W5 ((W5.alloc (.cells en0.cells.toArray 57)).setRow W5.heap.size e1.cells.toArray) := ((Same.refl noB W5).alloc _).trans HR5.out.2 (fun b hb e => by have h3 : b = W5.heap.size := e; omega)
  go_upto_region 11 with (refine wpList_store_row rfl 57 _ _ rfl W5.heap.size e1.cells.toArray rfl rfl 57 _ (Blk.new W5 57 en0.cells.toArray) (by kernel_rfl) rfl (by kernel_rfl) ?_)
  refine wp_abs (fun W => Hid (Blk W W5.heap.size 57 e1.cells.toArray) ∧ Hid (Same noB W5 W)) ⟨HR5.out.1, hsx⟩ ?_
  clear HR5 hsx
  rintro W6 ⟨HB1, HSW⟩
  obtain ⟨Ee1, hE⟩ : ∃ E, W5.heap.size = E := ⟨_, rfl⟩
  rw [hE] at HB1 ⊢
  have hs1 := HSW.out
  replace HA := Lib.hid (HA.out.keep hs1)
  replace HI1 := Lib.hid (HI1.out.keep hs1)
  clear hE HSW hs1
  clear HEN
  obtain ⟨d0, d1, d2⟩ := HA.out.s
  have HZ := Lib.hid (HRN.out W6 HA.out)
  go_wp2_with fail
  (with_reducible refine Calls.mono HZ.out ?_)
  clear HZ
  rintro r W7 ⟨e2, rfl, hei, hs1⟩
  replace HA := Lib.hid (HA.out.keep hs1)
  replace HI1 := Lib.hid (HI1.out.keep hs1)
  replace HB1 := Lib.hid (HB1.out.same hs1 (fun x => x))
  have HI2 := Lib.hid hei
  clear hei hs1
  have HR5 := Lib.hid (row_stored (Blk.new W7 57 en0.cells.toArray) e2.cells.toArray)
  have hsx : Same noB W7 ((W7.alloc (.cells en0.cells.toArray 57)).setRow W7.heap.size e2.cells.toArray) := ((Same.refl noB W7).alloc _).trans HR5.out.2 (fun b hb e => by have h3 : b = W7.heap.size := e; omega)
  go_upto_region 12 with (refine wpList_store_row rfl 57 _ _ rfl W7.heap.size e2.cells.toArray rfl rfl 57 _ (Blk.new W7 57 en0.cells.toArray) (by kernel_rfl) rfl (by kernel_rfl) ?_)
  refine wp_abs (fun W => Hid (Blk W W7.heap.size 57 e2.cells.toArray) ∧ Hid (Same noB W7 W)) ⟨HR5.out.1, hsx⟩ ?_
  clear HR5 hsx
  rintro W8 ⟨HB2, HSW⟩
  obtain ⟨Ee2, hE⟩ : ∃ E, W7.heap.size = E := ⟨_, rfl⟩
  rw [hE] at HB2 ⊢
  have hs1 := HSW.out
  replace HA := Lib.hid (HA.out.keep hs1)
  replace HI1 := Lib.hid (HI1.out.keep hs1)
  replace HB1 := Lib.hid (HB1.out.same hs1 (fun x => x))
  replace HI2 := Lib.hid (HI2.out.keep hs1)
  clear hE HSW hs1
  clear HRN d0 d1 d2
  have hcn := conf_any HA.out.st.log HLEN.out HINV.out.sm i
  rw [HCF.out] at hcn
  have HZ := Lib.hid (hcn)
  go_wp2_with fail
  (with_reducible refine Calls.mono HZ.out ?_)
  clear HZ
  rintro r W9 ⟨u3, u4, u5, rfl, h3, h4, h5, hs1⟩
  replace HA := Lib.hid (HA.out.keep hs1)
  replace HI1 := Lib.hid (HI1.out.keep hs1)
  replace HB1 := Lib.hid (HB1.out.same hs1 (fun x => x))
  replace HI2 := Lib.hid (HI2.out.keep hs1)
  replace HB2 := Lib.hid (HB2.out.same hs1 (fun x => x))
  have Hu3 := Lib.hid h3
  have Hu4 := Lib.hid h4
  have Hu5 := Lib.hid h5
  clear h3 h4 h5 hs1
  have HR5 := Lib.hid (row_stored (Blk.new W9 53 #[.slice none 0 0, .slice none 0 0, .slice none 0 0]) #[.slice u3.addr u3.len u3.cap, .slice u4.addr u4.len u4.cap, .slice u5.addr u5.len u5.cap])
  have hsx : Same noB W9 ((W9.alloc (.cells #[.slice none 0 0, .slice none 0 0, .slice none 0 0] 53)).setRow W9.heap.size #[.slice u3.addr u3.len u3.cap, .slice u4.addr u4.len u4.cap, .slice u5.addr u5.len u5.cap]) := ((Same.refl noB W9).alloc _).trans HR5.out.2 (fun b hb e => by have h3 : b = W9.heap.size := e; omega)
  go_upto_region 13 with (refine wpList_store_row rfl 53 _ _ rfl W9.heap.size #[.slice u3.addr u3.len u3.cap, .slice u4.addr u4.len u4.cap, .slice u5.addr u5.len u5.cap] rfl rfl 53 _ (Blk.new W9 53 #[.slice none 0 0, .slice none 0 0, .slice none 0 0]) (by kernel_rfl) rfl (row53_one u3 u4 u5) ?_)
  refine wp_abs (fun W => Hid (Blk W W9.heap.size 53 #[.slice u3.addr u3.len u3.cap, .slice u4.addr u4.len u4.cap, .slice u5.addr u5.len u5.cap]) ∧ Hid (Same noB W9 W)) ⟨HR5.out.1, hsx⟩ ?_
  clear HR5 hsx
  rintro W10 ⟨HB3, HSW⟩
  obtain ⟨Ku, hE⟩ : ∃ E, W9.heap.size = E := ⟨_, rfl⟩
  rw [hE] at HB3 ⊢
  have hs1 := HSW.out
  replace HA := Lib.hid (HA.out.keep hs1)
  replace HI1 := Lib.hid (HI1.out.keep hs1)
  replace HB1 := Lib.hid (HB1.out.same hs1 (fun x => x))
  replace HI2 := Lib.hid (HI2.out.keep hs1)
  replace HB2 := Lib.hid (HB2.out.same hs1 (fun x => x))
  replace Hu3 := Lib.hid (Hu3.out.keep hs1)
  replace Hu4 := Lib.hid (Hu4.out.keep hs1)
  replace Hu5 := Lib.hid (Hu5.out.keep hs1)
  clear hE HSW hs1
  clear hcn
  obtain ⟨d0, d1, d2⟩ := HA.out.s
  have hcn := rconf_any HA.out.ref HLEN.out i
  rw [HCF.out] at hcn
  have HZ := Lib.hid (hcn)
  go_wp2_with fail
  (with_reducible refine Calls.mono HZ.out ?_)
  clear HZ
  rintro r W11 ⟨z3, z4, z5, rfl, h3, h4, h5, hs1⟩
  replace HA := Lib.hid (HA.out.keep hs1)
  replace HI1 := Lib.hid (HI1.out.keep hs1)
  replace HB1 := Lib.hid (HB1.out.same hs1 (fun x => x))
  replace HI2 := Lib.hid (HI2.out.keep hs1)
  replace HB2 := Lib.hid (HB2.out.same hs1 (fun x => x))
  replace HB3 := Lib.hid (HB3.out.same hs1 (fun x => x))
  replace Hu3 := Lib.hid (Hu3.out.keep hs1)
  replace Hu4 := Lib.hid (Hu4.out.keep hs1)
  replace Hu5 := Lib.hid (Hu5.out.keep hs1)
  have Hz3 := Lib.hid h3
  have Hz4 := Lib.hid h4
  have Hz5 := Lib.hid h5
  clear h3 h4 h5 hs1
  have HR5 := Lib.hid (row_stored (Blk.new W11 53 #[.slice none 0 0, .slice none 0 0, .slice none 0 0]) #[.slice z3.addr z3.len z3.cap, .slice z4.addr z4.len z4.cap, .slice z5.addr z5.len z5.cap])
  have hsx : Same noB W11 ((W11.alloc (.cells #[.slice none 0 0, .slice none 0 0, .slice none 0 0] 53)).setRow W11.heap.size #[.slice z3.addr z3.len z3.cap, .slice z4.addr z4.len z4.cap, .slice z5.addr z5.len z5.cap]) := ((Same.refl noB W11).alloc _).trans HR5.out.2 (fun b hb e => by have h3 : b = W11.heap.size := e; omega)
  go_upto_region 14 with (refine wpList_store_row rfl 53 _ _ rfl W11.heap.size #[.slice z3.addr z3.len z3.cap, .slice z4.addr z4.len z4.cap, .slice z5.addr z5.len z5.cap] rfl rfl 53 _ (Blk.new W11 53 #[.slice none 0 0, .slice none 0 0, .slice none 0 0]) (by kernel_rfl) rfl (row53_one z3 z4 z5) ?_)
  refine wp_abs (fun W => Hid (Blk W W11.heap.size 53 #[.slice z3.addr z3.len z3.cap, .slice z4.addr z4.len z4.cap, .slice z5.addr z5.len z5.cap]) ∧ Hid (Same noB W11 W)) ⟨HR5.out.1, hsx⟩ ?_
  clear HR5 hsx
  rintro W12 ⟨HB4, HSW⟩
  obtain ⟨Kz, hE⟩ : ∃ E, W11.heap.size = E := ⟨_, rfl⟩
  rw [hE] at HB4 ⊢
  have hs1 := HSW.out
  replace HA := Lib.hid (HA.out.keep hs1)
  replace HI1 := Lib.hid (HI1.out.keep hs1)
  replace HB1 := Lib.hid (HB1.out.same hs1 (fun x => x))
  replace HI2 := Lib.hid (HI2.out.keep hs1)
  replace HB2 := Lib.hid (HB2.out.same hs1 (fun x => x))
  replace HB3 := Lib.hid (HB3.out.same hs1 (fun x => x))
  replace Hu3 := Lib.hid (Hu3.out.keep hs1)
  replace Hu4 := Lib.hid (Hu4.out.keep hs1)
  replace Hu5 := Lib.hid (Hu5.out.keep hs1)
  replace Hz3 := Lib.hid (Hz3.out.keep hs1)
  replace Hz4 := Lib.hid (Hz4.out.keep hs1)
  replace Hz5 := Lib.hid (Hz5.out.keep hs1)
  clear hE HSW hs1
  clear hcn d0 d1 d2
  have q0 : W12.cell? ⟨Ee1, 0, none⟩ = some (.int .i64 e1.i) := HB1.out.cell 0
  have q1 : W12.cell? ⟨Ee1, 1, none⟩ = some (.int .i64 e1.t) := HB1.out.cell 1
  have q2 : W12.cell? ⟨Ee1, 2, none⟩ = some (.int .i64 e1.c.s.k) := HB1.out.cell 2
  have q3 : W12.cell? ⟨Ee1, 3, none⟩ = some (.int .i64 e1.c.s.c) := HB1.out.cell 3
  have q4 : W12.cell? ⟨Ee1, 4, none⟩ = some (.int .i64 e1.c.s.n) := HB1.out.cell 4
  have q5 : W12.cell? ⟨Ee1, 5, none⟩ = some (.string e1.c.s.b) := HB1.out.cell 5
  have q6 : W12.cell? ⟨Ee1, 6, none⟩ = some (.int .i64 e1.c.s.g) := HB1.out.cell 6
  have q7 : W12.cell? ⟨Ee1, 7, none⟩ = some (.int .i64 e1.c.s.s) := HB1.out.cell 7
  have q8 : W12.cell? ⟨Ee1, 8, none⟩ = some (.int .i64 e1.c.s.ck) := HB1.out.cell 8
  have q9 : W12.cell? ⟨Ee1, 9, none⟩ = some (.int .i64 e1.c.s.cm) := HB1.out.cell 9
  have q10 : W12.cell? ⟨Ee1, 10, none⟩ = some (.slice e1.c.f1.addr e1.c.f1.len e1.c.f1.cap) := HB1.out.cell 10
  have q11 : W12.cell? ⟨Ee1, 11, none⟩ = some (.slice e1.c.f2.addr e1.c.f2.len e1.c.f2.cap) := HB1.out.cell 11
  have q12 : W12.cell? ⟨Ee1, 12, none⟩ = some (.slice e1.c.f3.addr e1.c.f3.len e1.c.f3.cap) := HB1.out.cell 12
  have q13 : W12.cell? ⟨Ee1, 13, none⟩ = some (.slice e1.c.f4.addr e1.c.f4.len e1.c.f4.cap) := HB1.out.cell 13
  have q14 : W12.cell? ⟨Ee1, 14, none⟩ = some (.slice e1.c.f5.addr e1.c.f5.len e1.c.f5.cap) := HB1.out.cell 14
  have hneE : W12.heap.size ≠ Ee2 := by have := HB2.out.lt; omega
  have s0 : (W12.alloc (.cells #[.int .i64 e1.i, .int .i64 e1.t, .int .i64 e1.c.s.k, .int .i64 e1.c.s.c, .int .i64 e1.c.s.n, .string e1.c.s.b, .int .i64 e1.c.s.g, .int .i64 e1.c.s.s, .int .i64 e1.c.s.ck, .int .i64 e1.c.s.cm, .slice e1.c.f1.addr e1.c.f1.len e1.c.f1.cap, .slice e1.c.f2.addr e1.c.f2.len e1.c.f2.cap, .slice e1.c.f3.addr e1.c.f3.len e1.c.f3.cap, .slice e1.c.f4.addr e1.c.f4.len e1.c.f4.cap, .slice e1.c.f5.addr e1.c.f5.len e1.c.f5.cap] 57)).cell? ⟨Ee2, 0, none⟩ = some (.int .i64 e2.i) := (HB2.out.alloc _).cell 0
  have s1 : (W12.alloc (.cells #[.int .i64 e1.i, .int .i64 e1.t, .int .i64 e1.c.s.k, .int .i64 e1.c.s.c, .int .i64 e1.c.s.n, .string e1.c.s.b, .int .i64 e1.c.s.g, .int .i64 e1.c.s.s, .int .i64 e1.c.s.ck, .int .i64 e1.c.s.cm, .slice e1.c.f1.addr e1.c.f1.len e1.c.f1.cap, .slice e1.c.f2.addr e1.c.f2.len e1.c.f2.cap, .slice e1.c.f3.addr e1.c.f3.len e1.c.f3.cap, .slice e1.c.f4.addr e1.c.f4.len e1.c.f4.cap, .slice e1.c.f5.addr e1.c.f5.len e1.c.f5.cap] 57)).cell? ⟨Ee2, 1, none⟩ = some (.int .i64 e2.t) := (HB2.out.alloc _).cell 1
  have s2 : (W12.alloc (.cells #[.int .i64 e1.i, .int .i64 e1.t, .int .i64 e1.c.s.k, .int .i64 e1.c.s.c, .int .i64 e1.c.s.n, .string e1.c.s.b, .int .i64 e1.c.s.g, .int .i64 e1.c.s.s, .int .i64 e1.c.s.ck, .int .i64 e1.c.s.cm, .slice e1.c.f1.addr e1.c.f1.len e1.c.f1.cap, .slice e1.c.f2.addr e1.c.f2.len e1.c.f2.cap, .slice e1.c.f3.addr e1.c.f3.len e1.c.f3.cap, .slice e1.c.f4.addr e1.c.f4.len e1.c.f4.cap, .slice e1.c.f5.addr e1.c.f5.len e1.c.f5.cap] 57)).cell? ⟨Ee2, 2, none⟩ = some (.int .i64 e2.c.s.k) := (HB2.out.alloc _).cell 2
  have s3 : (W12.alloc (.cells #[.int .i64 e1.i, .int .i64 e1.t, .int .i64 e1.c.s.k, .int .i64 e1.c.s.c, .int .i64 e1.c.s.n, .string e1.c.s.b, .int .i64 e1.c.s.g, .int .i64 e1.c.s.s, .int .i64 e1.c.s.ck, .int .i64 e1.c.s.cm, .slice e1.c.f1.addr e1.c.f1.len e1.c.f1.cap, .slice e1.c.f2.addr e1.c.f2.len e1.c.f2.cap, .slice e1.c.f3.addr e1.c.f3.len e1.c.f3.cap, .slice e1.c.f4.addr e1.c.f4.len e1.c.f4.cap, .slice e1.c.f5.addr e1.c.f5.len e1.c.f5.cap] 57)).cell? ⟨Ee2, 3, none⟩ = some (.int .i64 e2.c.s.c) := (HB2.out.alloc _).cell 3
  have s4 : (W12.alloc (.cells #[.int .i64 e1.i, .int .i64 e1.t, .int .i64 e1.c.s.k, .int .i64 e1.c.s.c, .int .i64 e1.c.s.n, .string e1.c.s.b, .int .i64 e1.c.s.g, .int .i64 e1.c.s.s, .int .i64 e1.c.s.ck, .int .i64 e1.c.s.cm, .slice e1.c.f1.addr e1.c.f1.len e1.c.f1.cap, .slice e1.c.f2.addr e1.c.f2.len e1.c.f2.cap, .slice e1.c.f3.addr e1.c.f3.len e1.c.f3.cap, .slice e1.c.f4.addr e1.c.f4.len e1.c.f4.cap, .slice e1.c.f5.addr e1.c.f5.len e1.c.f5.cap] 57)).cell? ⟨Ee2, 4, none⟩ = some (.int .i64 e2.c.s.n) := (HB2.out.alloc _).cell 4
  have s5 : (W12.alloc (.cells #[.int .i64 e1.i, .int .i64 e1.t, .int .i64 e1.c.s.k, .int .i64 e1.c.s.c, .int .i64 e1.c.s.n, .string e1.c.s.b, .int .i64 e1.c.s.g, .int .i64 e1.c.s.s, .int .i64 e1.c.s.ck, .int .i64 e1.c.s.cm, .slice e1.c.f1.addr e1.c.f1.len e1.c.f1.cap, .slice e1.c.f2.addr e1.c.f2.len e1.c.f2.cap, .slice e1.c.f3.addr e1.c.f3.len e1.c.f3.cap, .slice e1.c.f4.addr e1.c.f4.len e1.c.f4.cap, .slice e1.c.f5.addr e1.c.f5.len e1.c.f5.cap] 57)).cell? ⟨Ee2, 5, none⟩ = some (.string e2.c.s.b) := (HB2.out.alloc _).cell 5
  have s6 : (W12.alloc (.cells #[.int .i64 e1.i, .int .i64 e1.t, .int .i64 e1.c.s.k, .int .i64 e1.c.s.c, .int .i64 e1.c.s.n, .string e1.c.s.b, .int .i64 e1.c.s.g, .int .i64 e1.c.s.s, .int .i64 e1.c.s.ck, .int .i64 e1.c.s.cm, .slice e1.c.f1.addr e1.c.f1.len e1.c.f1.cap, .slice e1.c.f2.addr e1.c.f2.len e1.c.f2.cap, .slice e1.c.f3.addr e1.c.f3.len e1.c.f3.cap, .slice e1.c.f4.addr e1.c.f4.len e1.c.f4.cap, .slice e1.c.f5.addr e1.c.f5.len e1.c.f5.cap] 57)).cell? ⟨Ee2, 6, none⟩ = some (.int .i64 e2.c.s.g) := (HB2.out.alloc _).cell 6
  have s7 : (W12.alloc (.cells #[.int .i64 e1.i, .int .i64 e1.t, .int .i64 e1.c.s.k, .int .i64 e1.c.s.c, .int .i64 e1.c.s.n, .string e1.c.s.b, .int .i64 e1.c.s.g, .int .i64 e1.c.s.s, .int .i64 e1.c.s.ck, .int .i64 e1.c.s.cm, .slice e1.c.f1.addr e1.c.f1.len e1.c.f1.cap, .slice e1.c.f2.addr e1.c.f2.len e1.c.f2.cap, .slice e1.c.f3.addr e1.c.f3.len e1.c.f3.cap, .slice e1.c.f4.addr e1.c.f4.len e1.c.f4.cap, .slice e1.c.f5.addr e1.c.f5.len e1.c.f5.cap] 57)).cell? ⟨Ee2, 7, none⟩ = some (.int .i64 e2.c.s.s) := (HB2.out.alloc _).cell 7
  have s8 : (W12.alloc (.cells #[.int .i64 e1.i, .int .i64 e1.t, .int .i64 e1.c.s.k, .int .i64 e1.c.s.c, .int .i64 e1.c.s.n, .string e1.c.s.b, .int .i64 e1.c.s.g, .int .i64 e1.c.s.s, .int .i64 e1.c.s.ck, .int .i64 e1.c.s.cm, .slice e1.c.f1.addr e1.c.f1.len e1.c.f1.cap, .slice e1.c.f2.addr e1.c.f2.len e1.c.f2.cap, .slice e1.c.f3.addr e1.c.f3.len e1.c.f3.cap, .slice e1.c.f4.addr e1.c.f4.len e1.c.f4.cap, .slice e1.c.f5.addr e1.c.f5.len e1.c.f5.cap] 57)).cell? ⟨Ee2, 8, none⟩ = some (.int .i64 e2.c.s.ck) := (HB2.out.alloc _).cell 8
  have s9 : (W12.alloc (.cells #[.int .i64 e1.i, .int .i64 e1.t, .int .i64 e1.c.s.k, .int .i64 e1.c.s.c, .int .i64 e1.c.s.n, .string e1.c.s.b, .int .i64 e1.c.s.g, .int .i64 e1.c.s.s, .int .i64 e1.c.s.ck, .int .i64 e1.c.s.cm, .slice e1.c.f1.addr e1.c.f1.len e1.c.f1.cap, .slice e1.c.f2.addr e1.c.f2.len e1.c.f2.cap, .slice e1.c.f3.addr e1.c.f3.len e1.c.f3.cap, .slice e1.c.f4.addr e1.c.f4.len e1.c.f4.cap, .slice e1.c.f5.addr e1.c.f5.len e1.c.f5.cap] 57)).cell? ⟨Ee2, 9, none⟩ = some (.int .i64 e2.c.s.cm) := (HB2.out.alloc _).cell 9
  have s10 : (W12.alloc (.cells #[.int .i64 e1.i, .int .i64 e1.t, .int .i64 e1.c.s.k, .int .i64 e1.c.s.c, .int .i64 e1.c.s.n, .string e1.c.s.b, .int .i64 e1.c.s.g, .int .i64 e1.c.s.s, .int .i64 e1.c.s.ck, .int .i64 e1.c.s.cm, .slice e1.c.f1.addr e1.c.f1.len e1.c.f1.cap, .slice e1.c.f2.addr e1.c.f2.len e1.c.f2.cap, .slice e1.c.f3.addr e1.c.f3.len e1.c.f3.cap, .slice e1.c.f4.addr e1.c.f4.len e1.c.f4.cap, .slice e1.c.f5.addr e1.c.f5.len e1.c.f5.cap] 57)).cell? ⟨Ee2, 10, none⟩ = some (.slice e2.c.f1.addr e2.c.f1.len e2.c.f1.cap) := (HB2.out.alloc _).cell 10
  have s11 : (W12.alloc (.cells #[.int .i64 e1.i, .int .i64 e1.t, .int .i64 e1.c.s.k, .int .i64 e1.c.s.c, .int .i64 e1.c.s.n, .string e1.c.s.b, .int .i64 e1.c.s.g, .int .i64 e1.c.s.s, .int .i64 e1.c.s.ck, .int .i64 e1.c.s.cm, .slice e1.c.f1.addr e1.c.f1.len e1.c.f1.cap, .slice e1.c.f2.addr e1.c.f2.len e1.c.f2.cap, .slice e1.c.f3.addr e1.c.f3.len e1.c.f3.cap, .slice e1.c.f4.addr e1.c.f4.len e1.c.f4.cap, .slice e1.c.f5.addr e1.c.f5.len e1.c.f5.cap] 57)).cell? ⟨Ee2, 11, none⟩ = some (.slice e2.c.f2.addr e2.c.f2.len e2.c.f2.cap) := (HB2.out.alloc _).cell 11
  have s12 : (W12.alloc (.cells #[.int .i64 e1.i, .int .i64 e1.t, .int .i64 e1.c.s.k, .int .i64 e1.c.s.c, .int .i64 e1.c.s.n, .string e1.c.s.b, .int .i64 e1.c.s.g, .int .i64 e1.c.s.s, .int .i64 e1.c.s.ck, .int .i64 e1.c.s.cm, .slice e1.c.f1.addr e1.c.f1.len e1.c.f1.cap, .slice e1.c.f2.addr e1.c.f2.len e1.c.f2.cap, .slice e1.c.f3.addr e1.c.f3.len e1.c.f3.cap, .slice e1.c.f4.addr e1.c.f4.len e1.c.f4.cap, .slice e1.c.f5.addr e1.c.f5.len e1.c.f5.cap] 57)).cell? ⟨Ee2, 12, none⟩ = some (.slice e2.c.f3.addr e2.c.f3.len e2.c.f3.cap) := (HB2.out.alloc _).cell 12
  have s13 : (W12.alloc (.cells #[.int .i64 e1.i, .int .i64 e1.t, .int .i64 e1.c.s.k, .int .i64 e1.c.s.c, .int .i64 e1.c.s.n, .string e1.c.s.b, .int .i64 e1.c.s.g, .int .i64 e1.c.s.s, .int .i64 e1.c.s.ck, .int .i64 e1.c.s.cm, .slice e1.c.f1.addr e1.c.f1.len e1.c.f1.cap, .slice e1.c.f2.addr e1.c.f2.len e1.c.f2.cap, .slice e1.c.f3.addr e1.c.f3.len e1.c.f3.cap, .slice e1.c.f4.addr e1.c.f4.len e1.c.f4.cap, .slice e1.c.f5.addr e1.c.f5.len e1.c.f5.cap] 57)).cell? ⟨Ee2, 13, none⟩ = some (.slice e2.c.f4.addr e2.c.f4.len e2.c.f4.cap) := (HB2.out.alloc _).cell 13
  have s14 : (W12.alloc (.cells #[.int .i64 e1.i, .int .i64 e1.t, .int .i64 e1.c.s.k, .int .i64 e1.c.s.c, .int .i64 e1.c.s.n, .string e1.c.s.b, .int .i64 e1.c.s.g, .int .i64 e1.c.s.s, .int .i64 e1.c.s.ck, .int .i64 e1.c.s.cm, .slice e1.c.f1.addr e1.c.f1.len e1.c.f1.cap, .slice e1.c.f2.addr e1.c.f2.len e1.c.f2.cap, .slice e1.c.f3.addr e1.c.f3.len e1.c.f3.cap, .slice e1.c.f4.addr e1.c.f4.len e1.c.f4.cap, .slice e1.c.f5.addr e1.c.f5.len e1.c.f5.cap] 57)).cell? ⟨Ee2, 14, none⟩ = some (.slice e2.c.f5.addr e2.c.f5.len e2.c.f5.cap) := (HB2.out.alloc _).cell 14
  have hen := enl_two HI1.out.no HI2.out.no
  have hZ : Calls Try.prog 20 #[.slice (some ⟨W12.heap.size, 0, none⟩) 1 1, .slice (some ⟨W12.heap.size + 1, 0, none⟩) 1 1] ((W12.alloc (.cells #[.int .i64 e1.i, .int .i64 e1.t, .int .i64 e1.c.s.k, .int .i64 e1.c.s.c, .int .i64 e1.c.s.n, .string e1.c.s.b, .int .i64 e1.c.s.g, .int .i64 e1.c.s.s, .int .i64 e1.c.s.ck, .int .i64 e1.c.s.cm, .slice e1.c.f1.addr e1.c.f1.len e1.c.f1.cap, .slice e1.c.f2.addr e1.c.f2.len e1.c.f2.cap, .slice e1.c.f3.addr e1.c.f3.len e1.c.f3.cap, .slice e1.c.f4.addr e1.c.f4.len e1.c.f4.cap, .slice e1.c.f5.addr e1.c.f5.len e1.c.f5.cap] 57)).alloc (.cells #[.int .i64 e2.i, .int .i64 e2.t, .int .i64 e2.c.s.k, .int .i64 e2.c.s.c, .int .i64 e2.c.s.n, .string e2.c.s.b, .int .i64 e2.c.s.g, .int .i64 e2.c.s.s, .int .i64 e2.c.s.ck, .int .i64 e2.c.s.cm, .slice e2.c.f1.addr e2.c.f1.len e2.c.f1.cap, .slice e2.c.f2.addr e2.c.f2.len e2.c.f2.cap, .slice e2.c.f3.addr e2.c.f3.len e2.c.f3.cap, .slice e2.c.f4.addr e2.c.f4.len e2.c.f4.cap, .slice e2.c.f5.addr e2.c.f5.len e2.c.f5.cap] 57)) _ := sameents_true hen.1 hen.2
  have HZ := Lib.hid hZ
  have hal := ((Same.refl noB W12).alloc (.cells #[.int .i64 e1.i, .int .i64 e1.t, .int .i64 e1.c.s.k, .int .i64 e1.c.s.c, .int .i64 e1.c.s.n, .string e1.c.s.b, .int .i64 e1.c.s.g, .int .i64 e1.c.s.s, .int .i64 e1.c.s.ck, .int .i64 e1.c.s.cm, .slice e1.c.f1.addr e1.c.f1.len e1.c.f1.cap, .slice e1.c.f2.addr e1.c.f2.len e1.c.f2.cap, .slice e1.c.f3.addr e1.c.f3.len e1.c.f3.cap, .slice e1.c.f4.addr e1.c.f4.len e1.c.f4.cap, .slice e1.c.f5.addr e1.c.f5.len e1.c.f5.cap] 57)).alloc (.cells #[.int .i64 e2.i, .int .i64 e2.t, .int .i64 e2.c.s.k, .int .i64 e2.c.s.c, .int .i64 e2.c.s.n, .string e2.c.s.b, .int .i64 e2.c.s.g, .int .i64 e2.c.s.s, .int .i64 e2.c.s.ck, .int .i64 e2.c.s.cm, .slice e2.c.f1.addr e2.c.f1.len e2.c.f1.cap, .slice e2.c.f2.addr e2.c.f2.len e2.c.f2.cap, .slice e2.c.f3.addr e2.c.f3.len e2.c.f3.cap, .slice e2.c.f4.addr e2.c.f4.len e2.c.f4.cap, .slice e2.c.f5.addr e2.c.f5.len e2.c.f5.cap] 57)
  have HAL := Lib.hid hal
  clear hen hZ hal
  go_wp2_with fail
  (with_reducible refine Calls.mono HZ.out ?_)
  clear HZ hneE q0 s0 q1 s1 q2 s2 q3 s3 q4 s4 q5 s5 q6 s6 q7 s7 q8 s8 q9 s9 q10 s10 q11 s11 q12 s12 q13 s13 q14 s14
  rintro r W13 ⟨rfl, hs2⟩
  have hs1 := HAL.out.trans' hs2
  replace HA := Lib.hid (HA.out.keep hs1)
  replace HB3 := Lib.hid (HB3.out.same hs1 (fun x => x))
  replace HB4 := Lib.hid (HB4.out.same hs1 (fun x => x))
  replace Hu3 := Lib.hid (Hu3.out.keep hs1)
  replace Hu4 := Lib.hid (Hu4.out.keep hs1)
  replace Hu5 := Lib.hid (Hu5.out.keep hs1)
  replace Hz3 := Lib.hid (Hz3.out.keep hs1)
  replace Hz4 := Lib.hid (Hz4.out.keep hs1)
  replace Hz5 := Lib.hid (Hz5.out.keep hs1)
  clear hs1 hs2 HAL HI1 HI2 HB1 HB2
  have u0 : W13.cell? ⟨Ku, 0, none⟩ = some (.slice u3.addr u3.len u3.cap) := HB3.out.cell 0
  have v1 : W13.cell? ⟨Ku, 1, none⟩ = some (.slice u4.addr u4.len u4.cap) := HB3.out.cell 1
  have v2 : W13.cell? ⟨Ku, 2, none⟩ = some (.slice u5.addr u5.len u5.cap) := HB3.out.cell 2
  have w0 : W13.cell? ⟨Kz, 0, none⟩ = some (.slice z3.addr z3.len z3.cap) := HB4.out.cell 0
  have w1 : W13.cell? ⟨Kz, 1, none⟩ = some (.slice z4.addr z4.len z4.cap) := HB4.out.cell 1
  have w2 : W13.cell? ⟨Kz, 2, none⟩ = some (.slice z5.addr z5.len z5.cap) := HB4.out.cell 2
  have HZ := Lib.hid (sameconf_true Hu3.out Hu4.out Hu5.out Hz3.out Hz4.out Hz5.out)
  go_wp2_with fail
  (with_reducible refine Calls.mono HZ.out ?_)
  clear HZ u0 v1 v2 w0 w1 w2
  rintro r W14 ⟨rfl, hs1⟩
  replace HA := Lib.hid (HA.out.keep hs1)
  clear hs1 HB3 HB4 Hu3 Hu4 Hu5 Hz3 Hz4 Hz5
  go_upto_region 16 with (fail)
  replace HA := Lib.hid (HA.out.keep (Same.refl noB W14).drew)
  refine wp_region_T (S := RnX X g.base g.term (.slice L1 n1 c1)) (late := fun j => [].contains j) (by kernel_rfl) ?_ (fun hHeld => ?_)
  · exact HA.out.s
  obtain ⟨Wz, hWd⟩ : ∃ Wx, W14.drew = Wx := ⟨_, rfl⟩
  rw [hWd] at hHeld HA ⊢
  clear hWd
  refine T_pure (i := 0) (v := ?va1) rfl (by kernel_rfl) (by kernel_rfl) (by kernel_rfl) (fun _ _ _ h => h) (Or.inl ⟨?_, ?_⟩) ?_
  rotate_left 1
  · rfl
  · (intro w hSw; clear hSw; go_simp; (try with_reducible rfl))
  go_simp
  refine T_pure (i := 1) (v := ?va2) rfl (by kernel_rfl) (by kernel_rfl) (by kernel_rfl) (fun _ _ _ h => h) (Or.inl ⟨?_, ?_⟩) ?_
  rotate_left 1
  · rfl
  · (intro w hSw; clear hSw; go_simp; (try with_reducible rfl))
  go_simp
  refine T_pure (i := 2) (v := ?va3) rfl (by kernel_rfl) (by kernel_rfl) (by kernel_rfl) (fun _ _ _ h => h) (Or.inl ⟨?_, ?_⟩) ?_
  rotate_left 1
  · rfl
  · (intro w hSw; clear hSw; go_simp; (try with_reducible rfl))
  go_simp
  refine T_take (i := 4) (v := ?va4) rfl (by kernel_rfl) (by kernel_rfl) (by kernel_rfl) (by kernel_rfl) (fun _ _ _ h => h) (Or.inl ⟨?_, ?_⟩) (by assumption) ?_
  rotate_left 1
  · rfl
  · (intro w hSw; unfold RnX at hSw; go_simp; (try with_reducible rfl))
  go_simp
  refine T_pure (i := 5) (v := ?va5) rfl (by kernel_rfl) (by kernel_rfl) (by kernel_rfl) (fun _ _ _ h => h) (Or.inl ⟨?_, ?_⟩) ?_
  rotate_left 1
  · rfl
  · (intro w hSw; clear hSw; go_simp; (try with_reducible rfl))
  go_simp
  refine T_pure (i := 6) (v := ?va6) rfl (by kernel_rfl) (by kernel_rfl) (by kernel_rfl) (fun _ _ _ h => h) (Or.inl ⟨?_, ?_⟩) ?_
  rotate_left 1
  · rfl
  · (intro w hSw; clear hSw; go_simp; (try with_reducible rfl))
  go_simp
  refine T_ready (rs := [3]) (by kernel_rfl) (by simp) ?_
  refine ReadyT.early rfl (fun K hK => ?_) ReadyT.nil
  go_simp
  have hZ := from_any HA.out.st.log HFT.out HINV.out.sm HI.out.1 HI.out.2
  (with_reducible refine Calls.mono hZ ?_)
  clear hZ
  rintro r Wn1 ⟨fv, rfl, fs, hcp⟩
  replace HA := Lib.hid (HA.out.keep hcp.since)
  have HF1 := Lib.hid hcp.enl
  clear hcp
  clear hHeld
  go_wp2_with fail
  refine hK.out _ _ ?_ (fun hHeld => ?_)
  · exact HA.out.s
  clear hK K
  refine T_ready (rs := [7]) (by kernel_rfl) (by simp) ?_
  refine ReadyT.early rfl (fun K hK => ?_) ReadyT.nil
  go_simp
  have hZ := rfrom_any (bad := noB) (fun b e => e.elim) HA.out.ref HINV.out HLEN.out i m
  (with_reducible refine Calls.mono hZ ?_)
  clear hZ
  rintro r Wn2 ⟨fv2, fs2, rfl, hen, hs1⟩
  replace HA := Lib.hid (HA.out.keep hs1)
  replace HF1 := Lib.hid (HF1.out.keep hs1)
  have HF2 := Lib.hid hen
  clear hen hs1
  clear hHeld
  go_wp2_with fail
  refine hK.out _ _ ?_ (fun hHeld => ?_)
  · exact HA.out.s
  clear hK K
  refine T_ready (rs := [8]) (by kernel_rfl) (by simp) ?_
  refine ReadyT.early rfl (fun K hK => ?_) ReadyT.nil
  go_simp
  have hZ := sameents_true HF1.out HF2.out
  (with_reducible refine Calls.mono hZ ?_)
  clear hZ
  rintro r Wn3 ⟨rfl, hs1⟩
  replace HA := Lib.hid (HA.out.keep hs1)
  clear HF1 HF2
  clear hs1
  clear hHeld
  go_wp2_with fail
  refine hK.out _ _ ?_ (fun hHeld => ?_)
  · exact HA.out.s
  clear hK K
  refine T_pure (i := 9) (v := ?va7) rfl (by kernel_rfl) (by kernel_rfl) (by kernel_rfl) (fun _ _ _ h => h) (Or.inl ⟨?_, ?_⟩) ?_
  rotate_left 1
  · rfl
  · (intro w hSw; clear hSw; go_simp; (try with_reducible rfl))
  go_simp
  refine T_pure (i := 10) (v := ?va8) rfl (by kernel_rfl) (by kernel_rfl) (by kernel_rfl) (fun _ _ _ h => h) (Or.inl ⟨?_, ?_⟩) ?_
  rotate_left 1
  · rfl
  · (intro w hSw; clear hSw; go_simp; (try with_reducible rfl))
  go_simp
  refine T_pure (i := 11) (v := ?va9) rfl (by kernel_rfl) (by kernel_rfl) (by kernel_rfl) (fun _ _ _ h => h) (Or.inl ⟨?_, ?_⟩) ?_
  rotate_left 1
  · rfl
  · (intro w hSw; clear hSw; go_simp; (try with_reducible rfl))
  go_simp
  refine T_pure (i := 12) (v := ?va10) rfl (by kernel_rfl) (by kernel_rfl) (by kernel_rfl) (fun _ _ _ h => h) (Or.inl ⟨?_, ?_⟩) ?_
  rotate_left 1
  · rfl
  · (intro w hSw; clear hSw; go_simp; (try with_reducible rfl))
  go_simp
  refine T_take (i := 14) (v := ?va11) rfl (by kernel_rfl) (by kernel_rfl) (by kernel_rfl) (by kernel_rfl) (fun _ _ _ h => h) (Or.inl ⟨?_, ?_⟩) (by assumption) ?_
  rotate_left 1
  · rfl
  · (intro w hSw; unfold RnX at hSw; go_simp; (try with_reducible rfl))
  go_simp
  refine T_pure (i := 15) (v := ?va12) rfl (by kernel_rfl) (by kernel_rfl) (by kernel_rfl) (fun _ _ _ h => h) (Or.inl ⟨?_, ?_⟩) ?_
  rotate_left 1
  · rfl
  · (intro w hSw; clear hSw; go_simp; (try with_reducible rfl))
  go_simp
  refine T_pure (i := 16) (v := ?va13) rfl (by kernel_rfl) (by kernel_rfl) (by kernel_rfl) (fun _ _ _ h => h) (Or.inl ⟨?_, ?_⟩) ?_
  rotate_left 1
  · rfl
  · (intro w hSw; clear hSw; go_simp; (try with_reducible rfl))
  go_simp
  refine T_ready (rs := [13]) (by kernel_rfl) (by simp) ?_
  refine ReadyT.early rfl (fun K hK => ?_) ReadyT.nil
  go_simp
  have hZ := newer_any HA.out.st.log HFT.out i t
  (with_reducible refine Calls.mono hZ ?_)
  clear hZ
  rintro r Wn4 ⟨rfl, hs1⟩
  replace HA := Lib.hid (HA.out.keep hs1)
  clear hs1
  clear hHeld
  go_wp2_with fail
  refine hK.out _ _ ?_ (fun hHeld => ?_)
  · exact HA.out.s
  clear hK K
  refine T_ready (rs := [17]) (by kernel_rfl) (by simp) ?_
  refine ReadyT.early rfl (fun K hK => ?_) ReadyT.nil
  go_simp
  have hZ := rnewer_any HA.out.ref HLEN.out i t
  (with_reducible refine Calls.mono hZ ?_)
  clear hZ
  rintro r Wn5 ⟨rfl, hs1⟩
  replace HA := Lib.hid (HA.out.keep hs1)
  clear hs1
  clear hHeld
  go_wp2_with fail
  refine hK.out _ _ ?_ (fun hHeld => ?_)
  · exact HA.out.s
  clear hK K
  refine T_pure (i := 18) (v := ?va14) rfl (by kernel_rfl) (by kernel_rfl) (by kernel_rfl) (fun _ _ _ h => h) (Or.inl ⟨?_, ?_⟩) ?_
  rotate_left 1
  · rfl
  · (intro w hSw; clear hSw; go_simp; (try with_reducible rfl))
  go_simp
  refine T_pure (i := 19) (v := ?va15) rfl (by kernel_rfl) (by kernel_rfl) (by kernel_rfl) (fun _ _ _ h => h) (Or.inl ⟨?_, ?_⟩) ?_
  rotate_left 1
  · rfl
  · (intro w hSw; clear hSw; go_simp; (try with_reducible rfl))
  go_simp
  refine T_pure (i := 20) (v := ?va16) rfl (by kernel_rfl) (by kernel_rfl) (by kernel_rfl) (fun _ _ _ h => h) (Or.inl ⟨?_, ?_⟩) ?_
  rotate_left 1
  · rfl
  · (intro w hSw; clear hSw; go_simp; (try with_reducible rfl))
  go_simp
  refine T_pure (i := 21) (v := ?va17) rfl (by kernel_rfl) (by kernel_rfl) (by kernel_rfl) (fun _ _ _ h => h) (Or.inl ⟨?_, ?_⟩) ?_
  rotate_left 1
  · rfl
  · (intro w hSw; clear hSw; go_simp; (try with_reducible rfl))
  go_simp
  refine T_pure (i := 22) (v := ?va18) rfl (by kernel_rfl) (by kernel_rfl) (by kernel_rfl) (fun _ _ _ h => h) (Or.inl ⟨?_, ?_⟩) ?_
  rotate_left 1
  · rfl
  · (intro w hSw; clear hSw; go_simp; (try with_reducible rfl))
  go_simp
  refine T_pure (i := 23) (v := ?va19) rfl (by kernel_rfl) (by kernel_rfl) (by kernel_rfl) (fun _ _ _ h => h) (Or.inl ⟨?_, ?_⟩) ?_
  rotate_left 1
  · rfl
  · (intro w hSw; clear hSw; go_simp; (try with_reducible rfl))
  go_simp
  refine T_pure (i := 24) (v := ?va20) rfl (by kernel_rfl) (by kernel_rfl) (by kernel_rfl) (fun _ _ _ h => h) (Or.inl ⟨?_, ?_⟩) ?_
  rotate_left 1
  · rfl
  · (intro w hSw; clear hSw; go_simp; (try with_reducible rfl))
  go_simp
  refine T_take (i := 26) (v := ?va21) rfl (by kernel_rfl) (by kernel_rfl) (by kernel_rfl) (by kernel_rfl) (fun _ _ _ h => h) (Or.inl ⟨?_, ?_⟩) (by assumption) ?_
  rotate_left 1
  · rfl
  · (intro w hSw; unfold RnX at hSw; go_simp; (try with_reducible rfl))
  go_simp
  refine T_pure (i := 27) (v := ?va22) rfl (by kernel_rfl) (by kernel_rfl) (by kernel_rfl) (fun _ _ _ h => h) (Or.inl ⟨?_, ?_⟩) ?_
  rotate_left 1
  · rfl
  · (intro w hSw; clear hSw; go_simp; (try with_reducible rfl))
  go_simp
  refine T_pure (i := 28) (v := ?va23) rfl (by kernel_rfl) (by kernel_rfl) (by kernel_rfl) (fun _ _ _ h => h) (Or.inl ⟨?_, ?_⟩) ?_
  rotate_left 1
  · rfl
  · (intro w hSw; clear hSw; go_simp; (try with_reducible rfl))
  go_simp
  refine T_pure (i := 29) (v := ?va24) rfl (by kernel_rfl) (by kernel_rfl) (by kernel_rfl) (fun _ _ _ h => h) (Or.inl ⟨?_, ?_⟩) ?_
  rotate_left 1
  · rfl
  · (intro w hSw; clear hSw; go_simp; (try with_reducible rfl))
  go_simp
  refine T_ready (rs := [25]) (by kernel_rfl) (by simp) ?_
  refine ReadyT.early rfl (fun K hK => ?_) ReadyT.nil
  go_simp
  have hZ := pend_any HA.out.st.log t m i
  (with_reducible refine Calls.mono hZ ?_)
  clear hZ
  rintro r Wn6 ⟨rfl, hs1⟩
  replace HA := Lib.hid (HA.out.keep hs1)
  clear hs1
  clear hHeld
  go_wp2_with fail
  refine hK.out _ _ ?_ (fun hHeld => ?_)
  · exact HA.out.s
  clear hK K
  refine T_ready (rs := [30]) (by kernel_rfl) (by simp) ?_
  refine ReadyT.early rfl (fun K hK => ?_) ReadyT.nil
  go_simp
  have hZ := rpend_any HA.out.ref HLEN.out t m i
  (with_reducible refine Calls.mono hZ ?_)
  clear hZ
  rintro r Wn7 ⟨rfl, hs1⟩
  replace HA := Lib.hid (HA.out.keep hs1)
  clear hs1
  clear hHeld
  go_wp2_with fail
  refine hK.out _ _ ?_ (fun hHeld => ?_)
  · exact HA.out.s
  clear hK K
  refine T_pure (i := 31) (v := ?va25) rfl (by kernel_rfl) (by kernel_rfl) (by kernel_rfl) (fun _ _ _ h => h) (Or.inl ⟨?_, ?_⟩) ?_
  rotate_left 1
  · rfl
  · (intro w hSw; clear hSw; go_simp; (try with_reducible rfl))
  go_simp
  refine T_pure (i := 32) (v := ?va26) rfl (by kernel_rfl) (by kernel_rfl) (by kernel_rfl) (fun _ _ _ h => h) (Or.inl ⟨?_, ?_⟩) ?_
  rotate_left 1
  · rfl
  · (intro w hSw; clear hSw; go_simp; (try with_reducible rfl))
  go_simp
  refine T_pure (i := 33) (v := ?va27) rfl (by kernel_rfl) (by kernel_rfl) (by kernel_rfl) (fun _ _ _ h => h) (Or.inl ⟨?_, ?_⟩) ?_
  rotate_left 1
  · rfl
  · (intro w hSw; clear hSw; go_simp; (try with_reducible rfl))
  go_simp
  refine T_pure (i := 34) (v := ?va28) rfl (by kernel_rfl) (by kernel_rfl) (by kernel_rfl) (fun _ _ _ h => h) (Or.inl ⟨?_, ?_⟩) ?_
  rotate_left 1
  · rfl
  · (intro w hSw; clear hSw; go_simp; (try with_reducible rfl))
  go_simp
  refine T_pure (i := 35) (v := ?va29) rfl (by kernel_rfl) (by kernel_rfl) (by kernel_rfl) (fun _ _ _ h => h) (Or.inl ⟨?_, ?_⟩) ?_
  rotate_left 1
  · rfl
  · (intro w hSw; clear hSw; go_simp; (try with_reducible rfl))
  go_simp
  refine T_pure (i := 36) (v := ?va30) rfl (by kernel_rfl) (by kernel_rfl) (by kernel_rfl) (fun _ _ _ h => h) (Or.inl ⟨?_, ?_⟩) ?_
  rotate_left 1
  · rfl
  · (intro w hSw; clear hSw; go_simp; (try with_reducible rfl))
  go_simp
  refine T_pure (i := 37) (v := ?va31) rfl (by kernel_rfl) (by kernel_rfl) (by kernel_rfl) (fun _ _ _ h => h) (Or.inl ⟨?_, ?_⟩) ?_
  rotate_left 1
  · rfl
  · (intro w hSw; clear hSw; go_simp; (try with_reducible rfl))
  go_simp
  refine T_take (i := 39) (v := ?va32) rfl (by kernel_rfl) (by kernel_rfl) (by kernel_rfl) (by kernel_rfl) (fun _ _ _ h => h) (Or.inl ⟨?_, ?_⟩) (by assumption) ?_
  rotate_left 1
  · rfl
  · (intro w hSw; unfold RnX at hSw; go_simp; (try with_reducible rfl))
  go_simp
  refine T_pure (i := 40) (v := ?va33) rfl (by kernel_rfl) (by kernel_rfl) (by kernel_rfl) (fun _ _ _ h => h) (Or.inl ⟨?_, ?_⟩) ?_
  rotate_left 1
  · rfl
  · (intro w hSw; clear hSw; go_simp; (try with_reducible rfl))
  go_simp
  refine T_pure (i := 41) (v := ?va34) rfl (by kernel_rfl) (by kernel_rfl) (by kernel_rfl) (fun _ _ _ h => h) (Or.inl ⟨?_, ?_⟩) ?_
  rotate_left 1
  · rfl
  · (intro w hSw; clear hSw; go_simp; (try with_reducible rfl))
  go_simp
  refine T_pure (i := 42) (v := ?va35) rfl (by kernel_rfl) (by kernel_rfl) (by kernel_rfl) (fun _ _ _ h => h) (Or.inl ⟨?_, ?_⟩) ?_
  rotate_left 1
  · rfl
  · (intro w hSw; clear hSw; go_simp; (try with_reducible rfl))
  go_simp
  refine T_ready (rs := [38]) (by kernel_rfl) (by simp) ?_
  refine ReadyT.early rfl (fun K hK => ?_) ReadyT.nil
  go_simp
  have hZ := pendA_any HA.out.st.log t m i
  (with_reducible refine Calls.mono hZ ?_)
  clear hZ
  rintro r Wn8 ⟨rfl, hs1⟩
  replace HA := Lib.hid (HA.out.keep hs1)
  clear hs1
  clear hHeld
  go_wp2_with fail
  refine hK.out _ _ ?_ (fun hHeld => ?_)
  · exact HA.out.s
  clear hK K
  refine T_ready (rs := [43]) (by kernel_rfl) (by simp) ?_
  refine ReadyT.early rfl (fun K hK => ?_) ReadyT.nil
  go_simp
  have hZ := rpendA_any HA.out.ref HLEN.out t m i
  (with_reducible refine Calls.mono hZ ?_)
  clear hZ
  rintro r Wn9 ⟨rfl, hs1⟩
  replace HA := Lib.hid (HA.out.keep hs1)
  clear hs1
  clear hHeld
  go_wp2_with fail
  refine hK.out _ _ ?_ (fun hHeld => ?_)
  · exact HA.out.s
  clear hK K
  refine T_pure (i := 44) (v := ?va36) rfl (by kernel_rfl) (by kernel_rfl) (by kernel_rfl) (fun _ _ _ h => h) (Or.inl ⟨?_, ?_⟩) ?_
  rotate_left 1
  · rfl
  · (intro w hSw; clear hSw; go_simp; (try with_reducible rfl))
  go_simp
  refine T_pure (i := 45) (v := ?va37) rfl (by kernel_rfl) (by kernel_rfl) (by kernel_rfl) (fun _ _ _ h => h) (Or.inl ⟨?_, ?_⟩) ?_
  rotate_left 1
  · rfl
  · (intro w hSw; clear hSw; go_simp; (try with_reducible rfl))
  go_simp
  refine T_pure (i := 46) (v := ?va38) rfl (by kernel_rfl) (by kernel_rfl) (by kernel_rfl) (fun _ _ _ h => h) (Or.inl ⟨?_, ?_⟩) ?_
  rotate_left 1
  · rfl
  · (intro w hSw; clear hSw; go_simp; (try with_reducible rfl))
  go_simp
  refine T_done (by kernel_rfl) ?_ _
  go_wp2_with fail
  go_ret
  exact ⟨rfl, HA.out.since⟩
end Go.Proofs.Ytlocfbjeljgblaa
