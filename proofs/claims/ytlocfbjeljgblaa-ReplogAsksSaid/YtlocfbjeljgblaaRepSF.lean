/- Layer 36: the law's step, whole. -/
import Derived.Test.YtlocfbjeljgblaaRepSD
import Derived.Test.YtlocfbjeljgblaaRepSE
namespace Go.Proofs.Ytlocfbjeljgblaa
open Go Go.RowKit
set_option maxRecDepth 100000

theorem step_any {B : Nat → Prop} {w : World} {M k : Nat} {v lv : Value} {es ls : List En} {g : Lg} {x : OpR} {y : OpV} (h : St B w M v es lv ls g) (hx : OpIs w (bd B M v) x y) (hb : g.Bd k) (hk : k ≤ 90) (hs : y.Small) :
    Calls Try.prog 14 #[.pointer (some ⟨M, 0, none⟩), .agg #[.int .i64 g.base, .int .i64 g.term, lv], x.val] w (StepTo B w M v (g.step y)) := by
  have hf := hb.fit (by omega)
  have hla := hb.last (by omega)
  obtain ⟨L, lc, rfl, hd1, hd2, _⟩ := h.ref.rd.form
  obtain ⟨xk, xa, xb, xf, ⟨XA, xn, xc⟩⟩ := x
  obtain ⟨xes, hn, he⟩ := hx.l
  have h1 := hx.k
  have h2 := hx.a
  have h3 := hx.b
  have h4 := hx.f
  have hsn := hs.n
  have hsa := hs.a
  have hsb := hs.b
  simp only at h1 h2 h3 h4 hn he
  subst hn
  have hO : StO B w M v es (.slice L ls.length lc) ls g (.slice XA xes.length xc) xes y.es := ⟨h, he⟩
  have hxl := he.len
  unfold Lg.step OpR.val
  dsimp only
  by_cases k0 : y.k = 0
  · rw [if_pos k0]
    obtain rfl : xk = 0 := by omega
    obtain rfl := h3
    refine step_core0 (cms := y.es.map EnV.c) (want := (g.append y.b (y.es.map EnV.c)).2) hO (Lib.hid fun B' W hS => ?_) (Lib.hid fun B' W cv cs hS hc => ?_) (Lib.hid fun B' W cv cs hS hc => ?_)
    · refine (commands_cml hS.st.bad hS.op (by omega)).mono ?_
      rintro r w' ⟨v', rfl, hc, hs1⟩
      exact ⟨v', _, rfl, hc, hs1⟩
    · refine (rappend_any hS.st.bad hS.st.ref hf hla hc (by have := hs.cms.1; omega) _).mono ?_
      rintro r w' ⟨v', es', o, os, rfl, h5, h6, hs1⟩
      obtain ⟨A, c, rfl, _, _, _⟩ := h5.rd.form
      exact ⟨A, _, c, es', o, os, rfl, h5, h6, hs1⟩
    · refine (append_any hS.st.log hf hla hc (fun b hb => .inl hb) (by have := hs.cms.1; omega) hs.cms.2 _).mono ?_
      rintro r w' ⟨W3, o, os, rfl, h5, h6⟩
      exact ⟨o, W3, os, rfl, h5, h6⟩
  · rw [if_neg k0]
    by_cases k1 : y.k = 1
    · rw [if_pos k1]
      obtain rfl : xk = 1 := by omega
      refine step_core1 (fits := y.fitL) (want := (g.merge y.a y.b y.fitL).2.2.1) (q := (g.merge y.a y.b y.fitL).2.1) (ok := (g.merge y.a y.b y.fitL).2.2.2) hO (Lib.hid fun B' W hS => ?_) (Lib.hid fun B' W cv cs hS hc => ?_) (Lib.hid fun B' W cv cs hS hc => ?_)
      · exact fit_any (x := ⟨1, xa, xb, xf, ⟨XA, xes.length, xc⟩⟩) hS.st.bad ⟨h1, h2, h3, h4, xes, rfl, hS.op⟩ hs
      · rw [h2, h3]
        refine (rmerge_any hS.st.bad hS.st.ref hf hc (by have := hs.fitL.1; omega) (by omega) (by omega)).mono ?_
        rintro r w' ⟨v', es', o, os, rfl, h5, h6, hs1⟩
        obtain ⟨A, c, rfl, _, _, _⟩ := h5.rd.form
        exact ⟨A, _, c, es', o, os, rfl, h5, h6, hs1⟩
      · rw [h2, h3]
        refine (merge_any hS.st.log hf hla hc (fun b hb => .inl hb) (by have := hs.fitL.1; omega) hs.fitL.2 (by omega) (by omega)).mono ?_
        rintro r w' ⟨W3, o, os, rfl, h5, h6⟩
        exact ⟨o, W3, os, rfl, h5, h6⟩
    · rw [if_neg k1]
      by_cases k2 : y.k = 2
      · rw [if_pos k2]
        obtain rfl : xk = 2 := by omega
        refine step_core2 (f2 := (g.compact y.a).2) hO (Lib.hid fun B' W hS => ?_) (Lib.hid fun B' W hS => ?_)
        · rw [h2]
          refine (rcompact_any hS.st.bad hS.st.ref hf ⟨by omega, by omega⟩).mono ?_
          rintro r w' ⟨v', es', rfl, h5, hs1⟩
          obtain ⟨A, c, rfl, _, _, _⟩ := h5.rd.form
          exact ⟨A, _, c, es', rfl, h5, hs1⟩
        · rw [h2]
          exact compact_anyB hS.st.log hf ⟨by omega, by omega⟩
      · rw [if_neg k2]
        by_cases k3 : y.k = 3
        · rw [if_pos k3, ← h2, ← h3]
          obtain rfl : xk = 3 := by omega
          exact step_core3 hO
        · rw [if_neg k3]
          exact step_core4 hO (by omega) (by omega) (by omega) (by omega)
end Go.Proofs.Ytlocfbjeljgblaa
