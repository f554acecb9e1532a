/- Layer 36: Pending and PendingAdmin of the program. (printed by genRepSH.py) -/
import Derived.Test.YtlocfbjeljgblaaRepU
namespace Go.Proofs.Ytlocfbjeljgblaa
open Go Go.RowKit
set_option maxRecDepth 100000

def ptr (N : Nat) : Value := .pointer (some ⟨N, 0, none⟩)

set_option maxHeartbeats 4000000 in
theorem pend58 {w : World} {P Q : Nat} {cl nu : Int} {c : Cm} (hp : w.cell? ⟨P, 0, none⟩ = some (.int .i64 cl)) (hq : w.cell? ⟨Q, 0, none⟩ = some (.int .i64 nu)) :
    Calls Try.prog 58 #[c.val, .pointer (some ⟨P, 0, none⟩), .pointer (some ⟨Q, 0, none⟩)] w fun r w' => r = .returned (.bool (c.s.k == 1 && c.s.c == cl && c.s.n == nu)) ∧ Same noB w w' := by
  obtain ⟨⟨sk, sc, sn, sb, sg, ss, sck, scm⟩, a1, a2, a3, a4, a5⟩ := c
  unfold Cm.val
  dsimp only
  have hs := (Same.refl noB w).alloc (.cells #[.int .i64 sk, .int .i64 sc, .int .i64 sn, .string sb, .int .i64 sg, .int .i64 ss, .int .i64 sck, .int .i64 scm, .slice a1.addr a1.len a1.cap, .slice a2.addr a2.len a2.cap, .slice a3.addr a3.len a3.cap, .slice a4.addr a4.len a4.cap, .slice a5.addr a5.len a5.cap] 55)
  have hp2 := hs.cell hp (fun x => x)
  have hq2 := hs.cell hq (fun x => x)
  have HS := Lib.hid hs
  clear hs hp hq
  by_cases h1 : sk = 1
  · subst h1
    by_cases h2 : sc = cl
    · have d2 : (sc == cl) = true := beq_iff_eq.2 h2
      by_cases h3 : sn = nu
      · have d3 : (sn == nu) = true := beq_iff_eq.2 h3
        rw [d2, d3]
        clear h2 h3
        go_enter Try.func58, Try.ntmps58
        go_wp2_with fail
        go_ret
        exact ⟨rfl, HS.out⟩
      · have d3 : (sn == nu) = false := beq_eq_false_iff_ne.2 h3
        rw [d2, d3]
        clear h2 h3
        go_enter Try.func58, Try.ntmps58
        go_wp2_with fail
        go_ret
        exact ⟨rfl, HS.out⟩
    · have d2 : (sc == cl) = false := beq_eq_false_iff_ne.2 h2
      rw [d2, Bool.and_false, Bool.false_and]
      clear h2
      go_enter Try.func58, Try.ntmps58
      go_wp2_with fail
      go_ret
      exact ⟨rfl, HS.out⟩
  · have d1 : (sk == 1) = false := beq_eq_false_iff_ne.2 h1
    rw [d1, Bool.false_and, Bool.false_and]
    clear h1
    go_enter Try.func58, Try.ntmps58
    go_wp2_with fail
    go_ret
    exact ⟨rfl, HS.out⟩
set_option maxHeartbeats 4000000 in
theorem pend59 {w : World} {P Q : Nat} {cl nu : Int} {c : Cm} (hp : w.cell? ⟨P, 0, none⟩ = some (.int .i64 cl)) (hq : w.cell? ⟨Q, 0, none⟩ = some (.int .i64 nu)) :
    Calls Try.prog 59 #[c.val, .pointer (some ⟨P, 0, none⟩), .pointer (some ⟨Q, 0, none⟩)] w fun r w' => r = .returned (.bool (c.s.k == 2 && c.s.g == cl && c.s.s == nu)) ∧ Same noB w w' := by
  obtain ⟨⟨sk, sc, sn, sb, sg, ss, sck, scm⟩, a1, a2, a3, a4, a5⟩ := c
  unfold Cm.val
  dsimp only
  have hs := (Same.refl noB w).alloc (.cells #[.int .i64 sk, .int .i64 sc, .int .i64 sn, .string sb, .int .i64 sg, .int .i64 ss, .int .i64 sck, .int .i64 scm, .slice a1.addr a1.len a1.cap, .slice a2.addr a2.len a2.cap, .slice a3.addr a3.len a3.cap, .slice a4.addr a4.len a4.cap, .slice a5.addr a5.len a5.cap] 55)
  have hp2 := hs.cell hp (fun x => x)
  have hq2 := hs.cell hq (fun x => x)
  have HS := Lib.hid hs
  clear hs hp hq
  by_cases h1 : sk = 2
  · subst h1
    by_cases h2 : sg = cl
    · have d2 : (sg == cl) = true := beq_iff_eq.2 h2
      by_cases h3 : ss = nu
      · have d3 : (ss == nu) = true := beq_iff_eq.2 h3
        rw [d2, d3]
        clear h2 h3
        go_enter Try.func59, Try.ntmps59
        go_wp2_with fail
        go_ret
        exact ⟨rfl, HS.out⟩
      · have d3 : (ss == nu) = false := beq_eq_false_iff_ne.2 h3
        rw [d2, d3]
        clear h2 h3
        go_enter Try.func59, Try.ntmps59
        go_wp2_with fail
        go_ret
        exact ⟨rfl, HS.out⟩
    · have d2 : (sg == cl) = false := beq_eq_false_iff_ne.2 h2
      rw [d2, Bool.and_false, Bool.false_and]
      clear h2
      go_enter Try.func59, Try.ntmps59
      go_wp2_with fail
      go_ret
      exact ⟨rfl, HS.out⟩
  · have d1 : (sk == 2) = false := beq_eq_false_iff_ne.2 h1
    rw [d1, Bool.false_and, Bool.false_and]
    clear h1
    go_enter Try.func59, Try.ntmps59
    go_wp2_with fail
    go_ret
    exact ⟨rfl, HS.out⟩
set_option maxHeartbeats 4000000 in
theorem behind64_58 {w : World} {C D P Q : Nat} {bh : Int} {e : En} {q : Bool} (hc : w.cell? ⟨C, 0, none⟩ = some (.int .i64 bh)) (hd : w.cell? ⟨D, 0, none⟩ = some (.func (.func 58) #[] #[.pointer (some ⟨P, 0, none⟩), .pointer (some ⟨Q, 0, none⟩)]))
    (HF : Hid (∀ W : World, Same noB w W → Calls Try.prog 58 #[e.c.val, .pointer (some ⟨P, 0, none⟩), .pointer (some ⟨Q, 0, none⟩)] W fun r w' => r = .returned (.bool q) ∧ Same noB W w')) :
    Calls Try.prog 64 #[e.val, .pointer (some ⟨C, 0, none⟩), .pointer (some ⟨D, 0, none⟩)] w fun r w' => r = .returned (.bool (decide (bh < e.i) && q)) ∧ Same noB w w' := by
  obtain ⟨ei, et, ⟨⟨sk, sc, sn, sb, sg, ss, sck, scm⟩, a1, a2, a3, a4, a5⟩⟩ := e
  unfold En.val
  unfold Cm.val at HF
  dsimp only at HF ⊢
  have hs := (Same.refl noB w).alloc (.cells #[.int .i64 ei, .int .i64 et, .int .i64 sk, .int .i64 sc, .int .i64 sn, .string sb, .int .i64 sg, .int .i64 ss, .int .i64 sck, .int .i64 scm, .slice a1.addr a1.len a1.cap, .slice a2.addr a2.len a2.cap, .slice a3.addr a3.len a3.cap, .slice a4.addr a4.len a4.cap, .slice a5.addr a5.len a5.cap] 57)
  have hc2 := hs.cell hc (fun x => x)
  have hd2 := hs.cell hd (fun x => x)
  have HS := Lib.hid hs
  clear hs hc hd
  by_cases h1 : bh < ei
  · have d1 : decide (bh < ei) = true := decide_eq_true h1
    rw [d1, Bool.true_and]
    clear h1
    go_enter Try.func64, Try.ntmps64
    go_wp2_with fail
    have hZ := HF.out _ HS.out
    (with_reducible refine Calls.mono hZ ?_)
    clear hZ HF
    rintro r W2 ⟨rfl, hs2⟩
    have HS2 := Lib.hid (HS.out.trans' hs2)
    clear hs2
    go_wp2_with fail
    go_ret
    exact ⟨rfl, HS2.out⟩
  · have d1 : decide (bh < ei) = false := decide_eq_false h1
    rw [d1, Bool.false_and]
    clear h1 HF
    go_enter Try.func64, Try.ntmps64
    go_wp2_with fail
    go_ret
    exact ⟨rfl, HS.out⟩

set_option maxHeartbeats 4000000 in
theorem behind64_59 {w : World} {C D P Q : Nat} {bh : Int} {e : En} {q : Bool} (hc : w.cell? ⟨C, 0, none⟩ = some (.int .i64 bh)) (hd : w.cell? ⟨D, 0, none⟩ = some (.func (.func 59) #[] #[.pointer (some ⟨P, 0, none⟩), .pointer (some ⟨Q, 0, none⟩)]))
    (HF : Hid (∀ W : World, Same noB w W → Calls Try.prog 59 #[e.c.val, .pointer (some ⟨P, 0, none⟩), .pointer (some ⟨Q, 0, none⟩)] W fun r w' => r = .returned (.bool q) ∧ Same noB W w')) :
    Calls Try.prog 64 #[e.val, .pointer (some ⟨C, 0, none⟩), .pointer (some ⟨D, 0, none⟩)] w fun r w' => r = .returned (.bool (decide (bh < e.i) && q)) ∧ Same noB w w' := by
  obtain ⟨ei, et, ⟨⟨sk, sc, sn, sb, sg, ss, sck, scm⟩, a1, a2, a3, a4, a5⟩⟩ := e
  unfold En.val
  unfold Cm.val at HF
  dsimp only at HF ⊢
  have hs := (Same.refl noB w).alloc (.cells #[.int .i64 ei, .int .i64 et, .int .i64 sk, .int .i64 sc, .int .i64 sn, .string sb, .int .i64 sg, .int .i64 ss, .int .i64 sck, .int .i64 scm, .slice a1.addr a1.len a1.cap, .slice a2.addr a2.len a2.cap, .slice a3.addr a3.len a3.cap, .slice a4.addr a4.len a4.cap, .slice a5.addr a5.len a5.cap] 57)
  have hc2 := hs.cell hc (fun x => x)
  have hd2 := hs.cell hd (fun x => x)
  have HS := Lib.hid hs
  clear hs hc hd
  by_cases h1 : bh < ei
  · have d1 : decide (bh < ei) = true := decide_eq_true h1
    rw [d1, Bool.true_and]
    clear h1
    go_enter Try.func64, Try.ntmps64
    go_wp2_with fail
    have hZ := HF.out _ HS.out
    (with_reducible refine Calls.mono hZ ?_)
    clear hZ HF
    rintro r W2 ⟨rfl, hs2⟩
    have HS2 := Lib.hid (HS.out.trans' hs2)
    clear hs2
    go_wp2_with fail
    go_ret
    exact ⟨rfl, HS2.out⟩
  · have d1 : decide (bh < ei) = false := decide_eq_false h1
    rw [d1, Bool.false_and]
    clear h1 HF
    go_enter Try.func64, Try.ntmps64
    go_wp2_with fail
    go_ret
    exact ⟨rfl, HS.out⟩

set_option maxHeartbeats 4000000 in
theorem idx64 {w : World} {bad : Nat → Prop} {v : Value} {es : List En} {vs : List EnV} {C D : Nat} (h : EnL w bad v es vs) {p : EnV → Bool}
    (HC : Hid (∀ (W : World) (e : En) (x : EnV), Same noB w W → EnIs W bad e x → Calls Try.prog 64 #[e.val, .pointer (some ⟨C, 0, none⟩), .pointer (some ⟨D, 0, none⟩)] W fun r w' => r = .returned (.bool (p x)) ∧ Same noB W w')) :
    Calls Try.prog 49 #[v, .func (.func 64) #[] #[.pointer (some ⟨C, 0, none⟩), .pointer (some ⟨D, 0, none⟩)]] w fun r w' => r = .returned (.int .i64 (fidx p vs)) ∧ Same noB w w' := by
  obtain ⟨A, c, rfl, hnc, hcm, hr⟩ := h.rd.form
  have HB := Lib.hid h
  have HL := Lib.hid h.len
  have hb : es.length ≤ 9223372036854775807 := by unfold maxLen at hcm; omega
  clear h hr hnc hcm
  go_enter Try.func49, Try.ntmps49
  go_wp2_with fail
  go_loopw [8] (fun i wr => ∃ k : Nat, k ≤ es.length ∧ i = .int .i64 k ∧ Hid ((∀ (j : Nat) (z : EnV), j < k → vs[j]? = some z → p z = false) ∧ Same noB w wr)) (fun i _ => es.length - (intOf i).toNat)
  case atStart => exact ⟨0, Nat.zero_le _, rfl, ⟨fun j z hj => by omega, Same.refl _ _⟩⟩
  case round =>
    obtain ⟨k, hk, rfl, HS⟩ := hrel
    by_cases hlt : k < es.length
    · obtain ⟨e, he⟩ : ∃ e, es[k]? = some e := ⟨_, List.getElem?_eq_getElem hlt⟩
      obtain ⟨x, hx, hix⟩ := HB.out.is.at_ he
      obtain ⟨b, o, rfl, r⟩ := (HB.out.rd.keep HS.out.2).at_ (by omega)
      obtain ⟨p0, p1, p2, p3, p4, p5, p6, p7, p8, p9, p10, p11, p12, p13, p14⟩ := en_at r he
      have hC := HC.out wr e x HS.out.2 (hix.keep HS.out.2)
      unfold En.val at hC
      have hi0 : (0 : Int) ≤ (k : Int) := by omega
      have hi1 : (k : Int) < (es.length : Int) := by omega
      cases hp : p x
      · rw [hp] at hC
        have HC2 := Lib.hid hC
        have HP := Lib.hid hp
        have HY := Lib.hid hx
        clear hC hp hx r hix he
        go_wp2_with fail
        have hZ := HC2.out
        (with_reducible refine Calls.mono hZ ?_)
        clear hZ HC2
        rintro e3 w3 ⟨rfl, hs⟩
        have HS3 : Hid (Same noB w w3) := HS.out.2.trans' hs
        clear hs p0 p1 p2 p3 p4 p5 p6 p7 p8 p9 p10 p11 p12 p13 p14
        go_wp2_with fail
        go_roundw
        case rel => exact ⟨k + 1, by omega, by go_num, ⟨fun j z hj hz => by
          by_cases e : j = k
          · subst e
            have := hz.symm.trans HY.out
            injection this with this
            rw [this]
            exact HP.out
          · exact HS.out.1 j z (by omega) hz, HS3.out⟩⟩
        case measure => simp [intOf]; omega
      · rw [hp] at hC
        have HC2 := Lib.hid hC
        have HF := Lib.hid (fidx_some (p := p) hx hp HS.out.1)
        clear hC hp hx r hix he
        go_wp2_with fail
        have hZ := HC2.out
        (with_reducible refine Calls.mono hZ ?_)
        clear hZ HC2
        rintro e3 w3 ⟨rfl, hs⟩
        have HS3 : Hid (Same noB w w3) := HS.out.2.trans' hs
        clear hs p0 p1 p2 p3 p4 p5 p6 p7 p8 p9 p10 p11 p12 p13 p14
        go_wp2_with fail
        go_ret
        exact ⟨by rw [HF.out] <;> rfl, HS3.out⟩
    · obtain rfl : k = es.length := by omega
      have HF := Lib.hid (fidx_none (p := p) (l := vs) (fun j z hz => HS.out.1 j z (by have := HL.out; have := (List.getElem?_eq_some_iff.1 hz).1; omega) hz))
      go_wp2_with fail
      go_ret
      exact ⟨by rw [HF.out] <;> rfl, HS.out.2⟩
theorem cont64 {w : World} {bad : Nat → Prop} {C D : Nat} {v : Value} {es : List En} {vs : List EnV} (h : EnL w bad v es vs) {p : EnV → Bool}
    (HC : Hid (∀ (W : World) (e : En) (x : EnV), Same noB w W → EnIs W bad e x → Calls Try.prog 64 #[e.val, .pointer (some ⟨C, 0, none⟩), .pointer (some ⟨D, 0, none⟩)] W fun r w' => r = .returned (.bool (p x)) ∧ Same noB W w')) :
    Calls Try.prog 47 #[v, .func (.func 64) #[] #[.pointer (some ⟨C, 0, none⟩), .pointer (some ⟨D, 0, none⟩)]] w fun r w' => r = .returned (.bool (vs.any p)) ∧ Same noB w w' := by
  have HZ := Lib.hid (idx64 (C := C) (D := D) h HC)
  have HA := Lib.hid (fidx_any p vs)
  clear h
  go_enter Try.func47, Try.ntmps47
  go_wp2_with fail
  (with_reducible refine Calls.mono HZ.out ?_)
  rintro r W ⟨rfl, hs⟩
  have HS := Lib.hid hs
  clear hs
  go_wp2_with fail
  go_ret
  exact ⟨by rw [← HA.out] <;> rfl, HS.out⟩

set_option maxHeartbeats 4000000 in
theorem behind57_58 {w : World} {M P Q : Nat} {bh : Int} {v : Value} {es : List En} {g : Lg} {p : CmS → Bool} (h : LogIs w M v es g)
    (HF : Hid (∀ (W : World) (c : Cm), Same noB w W → Calls Try.prog 58 #[c.val, .pointer (some ⟨P, 0, none⟩), .pointer (some ⟨Q, 0, none⟩)] W fun r w' => r = .returned (.bool (p c.s)) ∧ Same noB W w')) :
    Calls Try.prog 57 #[.pointer (some ⟨M, 0, none⟩), .int .i64 bh, .func (.func 58) #[] #[.pointer (some ⟨P, 0, none⟩), .pointer (some ⟨Q, 0, none⟩)]] w fun r w' => r = .returned (.bool (g.es.any (fun x => decide (bh < x.i) && p x.c.s))) ∧ Same noB w w' := by
  obtain ⟨c0, c1, c2⟩ := h.cells
  have H := Lib.hid h
  clear h
  go_enter Try.func57, Try.ntmps57
  go_upto_region 1 with (fail)
  refine wp_abs (fun W => W.cell? ⟨M, 2, none⟩ = some v ∧ Hid (W.cell? ⟨w.heap.size, 0, none⟩ = some (.int .i64 bh) ∧ W.cell? ⟨w.heap.size + 1, 0, none⟩ = some (.func (.func 58) #[] #[.pointer (some ⟨P, 0, none⟩), .pointer (some ⟨Q, 0, none⟩)])) ∧ Hid (Same noB w W)) ⟨(((Same.refl noB w).alloc _).alloc _).cell c2 (fun x => x), ⟨by go_simp, by go_simp⟩, ((Same.refl _ _).alloc _).alloc _⟩ ?_
  clear c0 c1 c2
  rintro W ⟨c2, HD, HS⟩
  obtain ⟨N, hN⟩ : ∃ N, w.heap.size = N := ⟨_, rfl⟩
  rw [hN] at HD ⊢
  have HZ := Lib.hid (cont64 (w := W) (C := N) (D := N + 1) (p := fun x => decide (bh < x.i) && p x.c.s) (H.out.keep HS.out).enl (Lib.hid fun W2 e x hs hx => by
    have h2 := behind64_58 (e := e) (q := p e.c.s) (hs.cell HD.out.1 (fun x => x)) (hs.cell HD.out.2 (fun x => x)) (Lib.hid fun W3 hs3 => HF.out W3 e.c (HS.out.trans' (hs.trans' hs3)))
    rw [hx.i, hx.c.s] at h2
    exact h2))
  go_wp2_with fail
  (with_reducible refine Calls.mono HZ.out ?_)
  rintro r W2 ⟨rfl, hs2⟩
  have HS2 := Lib.hid (HS.out.trans' hs2)
  clear hs2 HZ HF
  go_wp2_with fail
  go_ret
  exact ⟨rfl, HS2.out⟩

set_option maxHeartbeats 4000000 in
theorem behind57_59 {w : World} {M P Q : Nat} {bh : Int} {v : Value} {es : List En} {g : Lg} {p : CmS → Bool} (h : LogIs w M v es g)
    (HF : Hid (∀ (W : World) (c : Cm), Same noB w W → Calls Try.prog 59 #[c.val, .pointer (some ⟨P, 0, none⟩), .pointer (some ⟨Q, 0, none⟩)] W fun r w' => r = .returned (.bool (p c.s)) ∧ Same noB W w')) :
    Calls Try.prog 57 #[.pointer (some ⟨M, 0, none⟩), .int .i64 bh, .func (.func 59) #[] #[.pointer (some ⟨P, 0, none⟩), .pointer (some ⟨Q, 0, none⟩)]] w fun r w' => r = .returned (.bool (g.es.any (fun x => decide (bh < x.i) && p x.c.s))) ∧ Same noB w w' := by
  obtain ⟨c0, c1, c2⟩ := h.cells
  have H := Lib.hid h
  clear h
  go_enter Try.func57, Try.ntmps57
  go_upto_region 1 with (fail)
  refine wp_abs (fun W => W.cell? ⟨M, 2, none⟩ = some v ∧ Hid (W.cell? ⟨w.heap.size, 0, none⟩ = some (.int .i64 bh) ∧ W.cell? ⟨w.heap.size + 1, 0, none⟩ = some (.func (.func 59) #[] #[.pointer (some ⟨P, 0, none⟩), .pointer (some ⟨Q, 0, none⟩)])) ∧ Hid (Same noB w W)) ⟨(((Same.refl noB w).alloc _).alloc _).cell c2 (fun x => x), ⟨by go_simp, by go_simp⟩, ((Same.refl _ _).alloc _).alloc _⟩ ?_
  clear c0 c1 c2
  rintro W ⟨c2, HD, HS⟩
  obtain ⟨N, hN⟩ : ∃ N, w.heap.size = N := ⟨_, rfl⟩
  rw [hN] at HD ⊢
  have HZ := Lib.hid (cont64 (w := W) (C := N) (D := N + 1) (p := fun x => decide (bh < x.i) && p x.c.s) (H.out.keep HS.out).enl (Lib.hid fun W2 e x hs hx => by
    have h2 := behind64_59 (e := e) (q := p e.c.s) (hs.cell HD.out.1 (fun x => x)) (hs.cell HD.out.2 (fun x => x)) (Lib.hid fun W3 hs3 => HF.out W3 e.c (HS.out.trans' (hs.trans' hs3)))
    rw [hx.i, hx.c.s] at h2
    exact h2))
  go_wp2_with fail
  (with_reducible refine Calls.mono HZ.out ?_)
  rintro r W2 ⟨rfl, hs2⟩
  have HS2 := Lib.hid (HS.out.trans' hs2)
  clear hs2 HZ HF
  go_wp2_with fail
  go_ret
  exact ⟨rfl, HS2.out⟩

def Lg.pend (g : Lg) (cl nu bh : Int) : Bool := g.es.any (fun x => decide (bh < x.i) && (x.c.s.k == 1 && x.c.s.c == cl && x.c.s.n == nu))
def Lg.pendA (g : Lg) (cl nu bh : Int) : Bool := g.es.any (fun x => decide (bh < x.i) && (x.c.s.k == 2 && x.c.s.g == cl && x.c.s.s == nu))
set_option maxHeartbeats 4000000 in
theorem pend_any {w : World} {M : Nat} {v : Value} {es : List En} {g : Lg} (h : LogIs w M v es g) (cl nu bh : Int) :
    Calls Try.prog 35 #[.pointer (some ⟨M, 0, none⟩), .int .i64 cl, .int .i64 nu, .int .i64 bh] w fun r w' => r = .returned (.bool (g.pend cl nu bh)) ∧ Same noB w w' := by
  have H := Lib.hid h
  clear h
  unfold Lg.pend
  go_enter Try.func35, Try.ntmps35
  go_upto_region 1 with (fail)
  refine wp_abs (fun W => Hid (W.cell? ⟨w.heap.size, 0, none⟩ = some (.int .i64 cl) ∧ W.cell? ⟨w.heap.size + 1, 0, none⟩ = some (.int .i64 nu)) ∧ Hid (Same noB w W)) ⟨⟨by go_simp, by go_simp⟩, ((Same.refl _ _).alloc _).alloc _⟩ ?_
  rintro W ⟨HD, HS⟩
  obtain ⟨N, hN⟩ : ∃ N, w.heap.size = N := ⟨_, rfl⟩
  rw [hN] at HD ⊢
  have HZ := Lib.hid (behind57_58 (w := W) (P := N) (Q := N + 1) (bh := bh) (p := fun s => s.k == 1 && s.c == cl && s.n == nu) (H.out.keep HS.out) (Lib.hid fun W2 c hs => pend58 (c := c) (hs.cell HD.out.1 (fun x => x)) (hs.cell HD.out.2 (fun x => x))))
  go_wp2_with fail
  (with_reducible refine Calls.mono HZ.out ?_)
  rintro r W2 ⟨rfl, hs2⟩
  have HS2 := Lib.hid (HS.out.trans' hs2)
  clear hs2 HZ
  go_wp2_with fail
  go_ret
  exact ⟨rfl, HS2.out⟩
set_option maxHeartbeats 4000000 in
theorem pendA_any {w : World} {M : Nat} {v : Value} {es : List En} {g : Lg} (h : LogIs w M v es g) (cl nu bh : Int) :
    Calls Try.prog 37 #[.pointer (some ⟨M, 0, none⟩), .int .i64 cl, .int .i64 nu, .int .i64 bh] w fun r w' => r = .returned (.bool (g.pendA cl nu bh)) ∧ Same noB w w' := by
  have H := Lib.hid h
  clear h
  unfold Lg.pendA
  go_enter Try.func37, Try.ntmps37
  go_upto_region 1 with (fail)
  refine wp_abs (fun W => Hid (W.cell? ⟨w.heap.size, 0, none⟩ = some (.int .i64 cl) ∧ W.cell? ⟨w.heap.size + 1, 0, none⟩ = some (.int .i64 nu)) ∧ Hid (Same noB w W)) ⟨⟨by go_simp, by go_simp⟩, ((Same.refl _ _).alloc _).alloc _⟩ ?_
  rintro W ⟨HD, HS⟩
  obtain ⟨N, hN⟩ : ∃ N, w.heap.size = N := ⟨_, rfl⟩
  rw [hN] at HD ⊢
  have HZ := Lib.hid (behind57_59 (w := W) (P := N) (Q := N + 1) (bh := bh) (p := fun s => s.k == 2 && s.g == cl && s.s == nu) (H.out.keep HS.out) (Lib.hid fun W2 c hs => pend59 (c := c) (hs.cell HD.out.1 (fun x => x)) (hs.cell HD.out.2 (fun x => x))))
  go_wp2_with fail
  (with_reducible refine Calls.mono HZ.out ?_)
  rintro r W2 ⟨rfl, hs2⟩
  have HS2 := Lib.hid (HS.out.trans' hs2)
  clear hs2 HZ
  go_wp2_with fail
  go_ret
  exact ⟨rfl, HS2.out⟩
end Go.Proofs.Ytlocfbjeljgblaa
