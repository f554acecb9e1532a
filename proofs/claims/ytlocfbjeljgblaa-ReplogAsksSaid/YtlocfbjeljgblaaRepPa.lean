/- Layer 36: Pending and PendingAdmin of the reference. (printed by genRepPa.py) -/
import Derived.Test.YtlocfbjeljgblaaRepSH
import Derived.Test.YtlocfbjeljgblaaRepQ
namespace Go.Proofs.Ytlocfbjeljgblaa
open Go Go.RowKit
set_option maxRecDepth 100000

theorem any_take_false {α : Type} {p : α → Bool} {l : List α} (h : ∀ (j : Nat) (z : α), l[j]? = some z → p z = false) : l.any p = false := by
  rw [List.any_eq_false]
  intro x hx
  obtain ⟨j, hj, rfl⟩ := List.getElem_of_mem hx
  rw [h j _ (List.getElem?_eq_getElem hj)]
  decide

set_option maxHeartbeats 8000000 in
theorem rpend_any {w : World} {bad : Nat → Prop} {v : Value} {es : List En} {g : Lg} (h : EnL w bad v es g.es) (hlen : g.es.length ≤ 100000) (cl nu bh : Int) :
    Calls Try.prog 36 #[.agg #[.int .i64 g.base, .int .i64 g.term, v], .int .i64 cl, .int .i64 nu, .int .i64 bh] w fun r w' => r = .returned (.bool (g.pend cl nu bh)) ∧ Same noB w w' := by
  obtain ⟨A, c, rfl, hc1, hc2, hr⟩ := h.rd.form
  have HL := Lib.hid h.len
  have HB := Lib.hid h
  have hbl3 : es.length ≤ 100000 := by have := h.len; omega
  clear h hr hlen hc2
  unfold Lg.pend
  obtain ⟨p, hp⟩ : ∃ p : EnV → Bool, (fun x : EnV => decide (bh < x.i) && (x.c.s.k == 1 && x.c.s.c == cl && x.c.s.n == nu)) = p := ⟨_, rfl⟩
  have HPD := Lib.hid hp
  rw [hp]
  clear hp
  go_enter Try.func36, Try.ntmps36
  go_upto_region 1 with (fail)
  refine wp_abs (fun W => Hid (W.cell? ⟨w.heap.size, 2, none⟩ = some (.slice A es.length c)) ∧ Hid (Same noB w W)) ⟨(Blk.new w 29 _).cell 2, (Same.refl _ _).alloc _⟩ ?_
  rintro W0 ⟨HE0, HS0⟩
  obtain ⟨N, hN⟩ : ∃ N, w.heap.size = N := ⟨_, rfl⟩
  rw [hN] at HE0 ⊢
  go_wp2_with fail
  go_loopg [9] (es.length) (fun gk q wr => ∃ (k : Nat), k ≤ es.length ∧ Hid (gk + k = es.length) ∧ q = .int .i64 k ∧ Hid (∀ (j : Nat) (z : EnV), j < k → g.es[j]? = some z → p z = false) ∧ Hid (wr.cell? ⟨N, 2, none⟩ = some (.slice A es.length c)) ∧ Hid (Same noB w wr))
  case atStart => exact ⟨0, Nat.zero_le _, rfl, rfl, fun j z hj => absurd hj (Nat.not_lt_zero _), HE0.out, HS0.out⟩
  case round =>
    obtain ⟨k, hk, HK, rfl, HA, HE, HS⟩ := hrel
    clear HE0 HS0
    by_cases hlt : k < es.length
    · obtain ⟨e, he⟩ : ∃ e, es[k]? = some e := ⟨_, List.getElem?_eq_getElem hlt⟩
      obtain ⟨b, o, rfl, r⟩ := (HB.out.rd.keep HS.out).at_ (by omega)
      obtain ⟨x, hx, hix⟩ := HB.out.is.at_ he
      obtain ⟨p0, p1, p2, p3, p4, p5, p6, p7, p8, p9, p10, p11, p12, p13, p14⟩ := en_at r he
      have HX := Lib.hid (And.intro hix.i hix.c.s)
      have HY := Lib.hid hx
      have hi0 : (0 : Int) ≤ (k : Int) := by omega
      have hi1 : (k : Int) < (es.length : Int) := by omega
      have hlt2 : (k : Int) < (es.length : Int) := hi1
      have HB5 := Lib.hid (row_stored (Blk.new wr 55 cm0) e.c.cells.toArray)
      have d2 : wr.cell? ⟨N, 2, none⟩ = some (.slice (some ⟨b, o, none⟩) es.length c) := HE.out
      have P0 := Lib.hid p0
      clear r he hx hix
      go_upto_region 5 with (refine wpList_store_row rfl 55 _ _ rfl wr.heap.size e.c.cells.toArray rfl rfl 55 _ (Blk.new wr 55 cm0) (by kernel_rfl) rfl (by kernel_rfl) ?_)
      have hsx : Same noB wr ((wr.alloc (.cells cm0 55)).setRow wr.heap.size e.c.cells.toArray) := ((Same.refl noB wr).alloc _).trans HB5.out.2 (fun b hb e => by have h3 : b = wr.heap.size := e; omega)
      refine wp_abs (fun W => W.cell? ⟨wr.heap.size, 0, none⟩ = some (.int .i64 x.c.s.k) ∧ W.cell? ⟨wr.heap.size, 1, none⟩ = some (.int .i64 x.c.s.c) ∧ W.cell? ⟨wr.heap.size, 2, none⟩ = some (.int .i64 x.c.s.n) ∧ W.cell? ⟨N, 2, none⟩ = some (.slice (some ⟨b, o, none⟩) es.length c) ∧ W.cell? ⟨b, o + k * 15, none⟩ = some (.int .i64 x.i) ∧ Hid (Same noB w W)) ⟨by rw [← HX.out.2]; exact HB5.out.1.cell 0, by rw [← HX.out.2]; exact HB5.out.1.cell 1, by rw [← HX.out.2]; exact HB5.out.1.cell 2, hsx.cell d2 (fun x => x), by rw [← HX.out.1]; exact hsx.cell P0.out (fun x => x), HS.out.trans' hsx⟩ ?_
      clear p0 p1 p2 p3 p4 p5 p6 p7 p8 p9 p10 p11 p12 p13 p14 HB5 HS HE d2 P0 hsx
      rintro W ⟨q0, q1, q2, d2, b0, HS5⟩
      have HE5 := Lib.hid d2
      by_cases h1 : bh < x.i
      · have e1 : decide (bh < x.i) = true := decide_eq_true h1
        by_cases h2 : x.c.s.k = 1
        · have e2 : (x.c.s.k == 1) = true := beq_iff_eq.2 h2
          rw [h2] at q0
          by_cases h3 : x.c.s.c = cl
          · have e3 : (x.c.s.c == cl) = true := beq_iff_eq.2 h3
            by_cases h4 : x.c.s.n = nu
            · have e4 : (x.c.s.n == nu) = true := beq_iff_eq.2 h4
              have HF : Hid (g.es.any p = true) := by
                show _ = _
                refine List.any_eq_true.2 ⟨x, List.mem_of_getElem? HY.out, ?_⟩
                rw [← HPD.out]
                dsimp only
                rw [e1, e2, e3, e4]
                rfl
              clear h1 h2 h3 h4 e2
              go_wp2_with fail
              go_ret
              exact ⟨by rw [HF.out] <;> rfl, HS5.out⟩
            · have e4 : (x.c.s.n == nu) = false := beq_eq_false_iff_ne.2 h4
              have HP : Hid (p x = false) := by
                show _ = _
                rw [← HPD.out]
                dsimp only
                rw [e4, Bool.and_false, Bool.and_false]
              clear h1 h2 h3 h4 e2
              go_wp2_with fail
              go_roundg (gk - 1)
              case measure => have h1 := HK.out; omega
              case rel => exact ⟨k + 1, by omega, by show _ = _; have h1 := HK.out; omega, by go_num, fun j z hj hz => by
                by_cases e : j = k
                · subst e
                  have := hz.symm.trans HY.out
                  injection this with this
                  rw [this]
                  exact HP.out
                · exact HA.out j z (by omega) hz, HE5.out, HS5.out⟩
          · have e3 : (x.c.s.c == cl) = false := beq_eq_false_iff_ne.2 h3
            have HP : Hid (p x = false) := by
              show _ = _
              rw [← HPD.out]
              dsimp only
              rw [e3, Bool.and_false, Bool.false_and, Bool.and_false]
            clear h1 h2 h3 e2
            go_wp2_with fail
            go_roundg (gk - 1)
            case measure => have h1 := HK.out; omega
            case rel => exact ⟨k + 1, by omega, by show _ = _; have h1 := HK.out; omega, by go_num, fun j z hj hz => by
              by_cases e : j = k
              · subst e
                have := hz.symm.trans HY.out
                injection this with this
                rw [this]
                exact HP.out
              · exact HA.out j z (by omega) hz, HE5.out, HS5.out⟩
        · have e2 : (x.c.s.k == 1) = false := beq_eq_false_iff_ne.2 h2
          have HP : Hid (p x = false) := by
            show _ = _
            rw [← HPD.out]
            dsimp only
            rw [e2, Bool.false_and, Bool.false_and, Bool.and_false]
          clear h1 h2
          go_wp2_with fail
          go_roundg (gk - 1)
          case measure => have h1 := HK.out; omega
          case rel => exact ⟨k + 1, by omega, by show _ = _; have h1 := HK.out; omega, by go_num, fun j z hj hz => by
            by_cases e : j = k
            · subst e
              have := hz.symm.trans HY.out
              injection this with this
              rw [this]
              exact HP.out
            · exact HA.out j z (by omega) hz, HE5.out, HS5.out⟩
      · have e1 : decide (bh < x.i) = false := decide_eq_false h1
        have HP : Hid (p x = false) := by
          show _ = _
          rw [← HPD.out]
          dsimp only
          rw [e1, Bool.false_and]
        clear h1
        go_wp2_with fail
        go_roundg (gk - 1)
        case measure => have h1 := HK.out; omega
        case rel => exact ⟨k + 1, by omega, by show _ = _; have h1 := HK.out; omega, by go_num, fun j z hj hz => by
          by_cases e : j = k
          · subst e
            have := hz.symm.trans HY.out
            injection this with this
            rw [this]
            exact HP.out
          · exact HA.out j z (by omega) hz, HE5.out, HS5.out⟩
    · obtain rfl : k = es.length := by omega
      have HF : Hid (g.es.any p = false) := any_take_false (fun j z hz => HA.out j z (by have := (List.getElem?_eq_some_iff.1 hz).1; have := HL.out; omega) hz)
      have d2 := HE.out
      go_wp2_with fail
      go_ret
      exact ⟨by rw [HF.out] <;> rfl, HS.out⟩
set_option maxHeartbeats 8000000 in
theorem rpendA_any {w : World} {bad : Nat → Prop} {v : Value} {es : List En} {g : Lg} (h : EnL w bad v es g.es) (hlen : g.es.length ≤ 100000) (cl nu bh : Int) :
    Calls Try.prog 38 #[.agg #[.int .i64 g.base, .int .i64 g.term, v], .int .i64 cl, .int .i64 nu, .int .i64 bh] w fun r w' => r = .returned (.bool (g.pendA cl nu bh)) ∧ Same noB w w' := by
  obtain ⟨A, c, rfl, hc1, hc2, hr⟩ := h.rd.form
  have HL := Lib.hid h.len
  have HB := Lib.hid h
  have hbl3 : es.length ≤ 100000 := by have := h.len; omega
  clear h hr hlen hc2
  unfold Lg.pendA
  obtain ⟨p, hp⟩ : ∃ p : EnV → Bool, (fun x : EnV => decide (bh < x.i) && (x.c.s.k == 2 && x.c.s.g == cl && x.c.s.s == nu)) = p := ⟨_, rfl⟩
  have HPD := Lib.hid hp
  rw [hp]
  clear hp
  go_enter Try.func38, Try.ntmps38
  go_upto_region 1 with (fail)
  refine wp_abs (fun W => Hid (W.cell? ⟨w.heap.size, 2, none⟩ = some (.slice A es.length c)) ∧ Hid (Same noB w W)) ⟨(Blk.new w 29 _).cell 2, (Same.refl _ _).alloc _⟩ ?_
  rintro W0 ⟨HE0, HS0⟩
  obtain ⟨N, hN⟩ : ∃ N, w.heap.size = N := ⟨_, rfl⟩
  rw [hN] at HE0 ⊢
  go_wp2_with fail
  go_loopg [9] (es.length) (fun gk q wr => ∃ (k : Nat), k ≤ es.length ∧ Hid (gk + k = es.length) ∧ q = .int .i64 k ∧ Hid (∀ (j : Nat) (z : EnV), j < k → g.es[j]? = some z → p z = false) ∧ Hid (wr.cell? ⟨N, 2, none⟩ = some (.slice A es.length c)) ∧ Hid (Same noB w wr))
  case atStart => exact ⟨0, Nat.zero_le _, rfl, rfl, fun j z hj => absurd hj (Nat.not_lt_zero _), HE0.out, HS0.out⟩
  case round =>
    obtain ⟨k, hk, HK, rfl, HA, HE, HS⟩ := hrel
    clear HE0 HS0
    by_cases hlt : k < es.length
    · obtain ⟨e, he⟩ : ∃ e, es[k]? = some e := ⟨_, List.getElem?_eq_getElem hlt⟩
      obtain ⟨b, o, rfl, r⟩ := (HB.out.rd.keep HS.out).at_ (by omega)
      obtain ⟨x, hx, hix⟩ := HB.out.is.at_ he
      obtain ⟨p0, p1, p2, p3, p4, p5, p6, p7, p8, p9, p10, p11, p12, p13, p14⟩ := en_at r he
      have HX := Lib.hid (And.intro hix.i hix.c.s)
      have HY := Lib.hid hx
      have hi0 : (0 : Int) ≤ (k : Int) := by omega
      have hi1 : (k : Int) < (es.length : Int) := by omega
      have hlt2 : (k : Int) < (es.length : Int) := hi1
      have HB5 := Lib.hid (row_stored (Blk.new wr 55 cm0) e.c.cells.toArray)
      have d2 : wr.cell? ⟨N, 2, none⟩ = some (.slice (some ⟨b, o, none⟩) es.length c) := HE.out
      have P0 := Lib.hid p0
      clear r he hx hix
      go_upto_region 5 with (refine wpList_store_row rfl 55 _ _ rfl wr.heap.size e.c.cells.toArray rfl rfl 55 _ (Blk.new wr 55 cm0) (by kernel_rfl) rfl (by kernel_rfl) ?_)
      have hsx : Same noB wr ((wr.alloc (.cells cm0 55)).setRow wr.heap.size e.c.cells.toArray) := ((Same.refl noB wr).alloc _).trans HB5.out.2 (fun b hb e => by have h3 : b = wr.heap.size := e; omega)
      refine wp_abs (fun W => W.cell? ⟨wr.heap.size, 0, none⟩ = some (.int .i64 x.c.s.k) ∧ W.cell? ⟨wr.heap.size, 4, none⟩ = some (.int .i64 x.c.s.g) ∧ W.cell? ⟨wr.heap.size, 5, none⟩ = some (.int .i64 x.c.s.s) ∧ W.cell? ⟨N, 2, none⟩ = some (.slice (some ⟨b, o, none⟩) es.length c) ∧ W.cell? ⟨b, o + k * 15, none⟩ = some (.int .i64 x.i) ∧ Hid (Same noB w W)) ⟨by rw [← HX.out.2]; exact HB5.out.1.cell 0, by rw [← HX.out.2]; exact HB5.out.1.cell 4, by rw [← HX.out.2]; exact HB5.out.1.cell 5, hsx.cell d2 (fun x => x), by rw [← HX.out.1]; exact hsx.cell P0.out (fun x => x), HS.out.trans' hsx⟩ ?_
      clear p0 p1 p2 p3 p4 p5 p6 p7 p8 p9 p10 p11 p12 p13 p14 HB5 HS HE d2 P0 hsx
      rintro W ⟨q0, q1, q2, d2, b0, HS5⟩
      have HE5 := Lib.hid d2
      by_cases h1 : bh < x.i
      · have e1 : decide (bh < x.i) = true := decide_eq_true h1
        by_cases h2 : x.c.s.k = 2
        · have e2 : (x.c.s.k == 2) = true := beq_iff_eq.2 h2
          rw [h2] at q0
          by_cases h3 : x.c.s.g = cl
          · have e3 : (x.c.s.g == cl) = true := beq_iff_eq.2 h3
            by_cases h4 : x.c.s.s = nu
            · have e4 : (x.c.s.s == nu) = true := beq_iff_eq.2 h4
              have HF : Hid (g.es.any p = true) := by
                show _ = _
                refine List.any_eq_true.2 ⟨x, List.mem_of_getElem? HY.out, ?_⟩
                rw [← HPD.out]
                dsimp only
                rw [e1, e2, e3, e4]
                rfl
              clear h1 h2 h3 h4 e2
              go_wp2_with fail
              go_ret
              exact ⟨by rw [HF.out] <;> rfl, HS5.out⟩
            · have e4 : (x.c.s.s == nu) = false := beq_eq_false_iff_ne.2 h4
              have HP : Hid (p x = false) := by
                show _ = _
                rw [← HPD.out]
                dsimp only
                rw [e4, Bool.and_false, Bool.and_false]
              clear h1 h2 h3 h4 e2
              go_wp2_with fail
              go_roundg (gk - 1)
              case measure => have h1 := HK.out; omega
              case rel => exact ⟨k + 1, by omega, by show _ = _; have h1 := HK.out; omega, by go_num, fun j z hj hz => by
                by_cases e : j = k
                · subst e
                  have := hz.symm.trans HY.out
                  injection this with this
                  rw [this]
                  exact HP.out
                · exact HA.out j z (by omega) hz, HE5.out, HS5.out⟩
          · have e3 : (x.c.s.g == cl) = false := beq_eq_false_iff_ne.2 h3
            have HP : Hid (p x = false) := by
              show _ = _
              rw [← HPD.out]
              dsimp only
              rw [e3, Bool.and_false, Bool.false_and, Bool.and_false]
            clear h1 h2 h3 e2
            go_wp2_with fail
            go_roundg (gk - 1)
            case measure => have h1 := HK.out; omega
            case rel => exact ⟨k + 1, by omega, by show _ = _; have h1 := HK.out; omega, by go_num, fun j z hj hz => by
              by_cases e : j = k
              · subst e
                have := hz.symm.trans HY.out
                injection this with this
                rw [this]
                exact HP.out
              · exact HA.out j z (by omega) hz, HE5.out, HS5.out⟩
        · have e2 : (x.c.s.k == 2) = false := beq_eq_false_iff_ne.2 h2
          have HP : Hid (p x = false) := by
            show _ = _
            rw [← HPD.out]
            dsimp only
            rw [e2, Bool.false_and, Bool.false_and, Bool.and_false]
          clear h1 h2
          go_wp2_with fail
          go_roundg (gk - 1)
          case measure => have h1 := HK.out; omega
          case rel => exact ⟨k + 1, by omega, by show _ = _; have h1 := HK.out; omega, by go_num, fun j z hj hz => by
            by_cases e : j = k
            · subst e
              have := hz.symm.trans HY.out
              injection this with this
              rw [this]
              exact HP.out
            · exact HA.out j z (by omega) hz, HE5.out, HS5.out⟩
      · have e1 : decide (bh < x.i) = false := decide_eq_false h1
        have HP : Hid (p x = false) := by
          show _ = _
          rw [← HPD.out]
          dsimp only
          rw [e1, Bool.false_and]
        clear h1
        go_wp2_with fail
        go_roundg (gk - 1)
        case measure => have h1 := HK.out; omega
        case rel => exact ⟨k + 1, by omega, by show _ = _; have h1 := HK.out; omega, by go_num, fun j z hj hz => by
          by_cases e : j = k
          · subst e
            have := hz.symm.trans HY.out
            injection this with this
            rw [this]
            exact HP.out
          · exact HA.out j z (by omega) hz, HE5.out, HS5.out⟩
    · obtain rfl : k = es.length := by omega
      have HF : Hid (g.es.any p = false) := any_take_false (fun j z hz => HA.out j z (by have := (List.getElem?_eq_some_iff.1 hz).1; have := HL.out; omega) hz)
      have d2 := HE.out
      go_wp2_with fail
      go_ret
      exact ⟨by rw [HF.out] <;> rfl, HS.out⟩
end Go.Proofs.Ytlocfbjeljgblaa
