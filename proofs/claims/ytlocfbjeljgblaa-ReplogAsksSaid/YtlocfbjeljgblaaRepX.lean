/- Layer 36: contradicts of the reference. (printed by genRepX.py) -/
import Derived.Test.YtlocfbjeljgblaaRepL
import Derived.Test.YtlocfbjeljgblaaRepS
namespace Go.Proofs.Ytlocfbjeljgblaa
open Go Go.RowKit
set_option maxRecDepth 100000

set_option maxHeartbeats 8000000 in
theorem rcontra_any {w : World} {bad : Nat → Prop} {lv cv : Value} {cs : List En} {vs : List EnV} {base term : Int} (h : EnL w bad cv cs vs) (hlen : vs.length ≤ 100000) {L : Option Addr} {ln lc : Nat} (hlv : lv = .slice L ln lc) :
    Calls Try.prog 62 #[.agg #[.int .i64 base, .int .i64 term, lv], cv] w fun r w' => r = .returned (.bool (vs.any (fun x => contraB base term x.i x.t))) ∧ Same noB w w' := by
  obtain ⟨A, c, rfl, hc1, hc2, hr⟩ := h.rd.form
  subst hlv
  have HL := Lib.hid h.len
  have HB := Lib.hid h
  have HLN := Lib.hid hlen
  clear h hr hlen hc2
  go_enter Try.func62, Try.ntmps62
  go_upto_region 1 with (fail)
  refine wp_abs (fun W => Hid (W.cell? ⟨w.heap.size, 0, none⟩ = some (.int .i64 base) ∧ W.cell? ⟨w.heap.size, 1, none⟩ = some (.int .i64 term)) ∧ Hid (Same noB w W)) ⟨⟨(Blk.new w 29 _).cell 0, (Blk.new w 29 _).cell 1⟩, (Same.refl _ _).alloc _⟩ ?_
  rintro W0 ⟨HE0, HS0⟩
  obtain ⟨N, hN⟩ : ∃ N, w.heap.size = N := ⟨_, rfl⟩
  rw [hN] at HE0 ⊢
  go_wp2_with fail
  go_loopg [5] (cs.length) (fun gk q wr => ∃ (k : Nat), k ≤ cs.length ∧ Hid (gk + k = cs.length) ∧ q = .int .i64 k ∧ Hid (∀ (j : Nat) (z : EnV), j < k → vs[j]? = some z → contraB base term z.i z.t = false) ∧ Hid (wr.cell? ⟨N, 0, none⟩ = some (.int .i64 base) ∧ wr.cell? ⟨N, 1, none⟩ = some (.int .i64 term)) ∧ Hid (Same noB w wr))
  case atStart => exact ⟨0, Nat.zero_le _, rfl, rfl, fun j z hj => absurd hj (Nat.not_lt_zero _), HE0.out, HS0.out⟩
  case round =>
    obtain ⟨k, hk, HK, rfl, HA, HE, HS⟩ := hrel
    clear HE0 HS0
    by_cases hlt : k < cs.length
    · obtain ⟨e, he⟩ : ∃ e, cs[k]? = some e := ⟨_, List.getElem?_eq_getElem hlt⟩
      obtain ⟨b, o, rfl, r⟩ := (HB.out.rd.keep HS.out).at_ (by omega)
      obtain ⟨x, hx, hix⟩ := HB.out.is.at_ he
      obtain ⟨p0, p1, p2, p3, p4, p5, p6, p7, p8, p9, p10, p11, p12, p13, p14⟩ := en_at r he
      have HX := Lib.hid (And.intro hix.i hix.t)
      have HY := Lib.hid hx
      have hbl := HLN.out
      have hbl2 := HL.out
      have hbl3 : cs.length ≤ 100000 := by omega
      have hi0 : (0 : Int) ≤ (k : Int) := by omega
      have hi1 : (k : Int) < (cs.length : Int) := by omega
      have HB5 := Lib.hid (row_stored (Blk.new wr 57 en0.cells.toArray) e.cells.toArray)
      clear r he hx hix hbl hbl2
      go_upto_region 5 with (refine wpList_store_row rfl 57 _ _ rfl wr.heap.size e.cells.toArray rfl rfl 57 _ (Blk.new wr 57 en0.cells.toArray) (by kernel_rfl) rfl (by kernel_rfl) ?_)
      have hnew : ∀ {a : Addr} {u : Value}, wr.cell? a = some u → ((wr.alloc (.cells en0.cells.toArray 57)).setRow wr.heap.size e.cells.toArray).cell? a = some u := fun {a u} ha => HB5.out.2.cell (((Same.refl noB wr).alloc _).cell ha (fun x => x)) (fun hx => by
        have h3 : a.block = wr.heap.size := hx
        have h4 := World.block_lt_of_cell? wr a ha
        omega)
      refine wp_abs (fun W => W.cell? ⟨wr.heap.size, 0, none⟩ = some (.int .i64 x.i) ∧ W.cell? ⟨wr.heap.size, 1, none⟩ = some (.int .i64 x.t) ∧ W.cell? ⟨N, 0, none⟩ = some (.int .i64 base) ∧ W.cell? ⟨N, 1, none⟩ = some (.int .i64 term) ∧ Hid (Same noB w W)) ⟨by rw [← HX.out.1]; exact HB5.out.1.cell 0, by rw [← HX.out.2]; exact HB5.out.1.cell 1, hnew HE.out.1, hnew HE.out.2, (HS.out.alloc _).trans HB5.out.2 (fun b hb hx => by have h3 : b = wr.heap.size := hx; have := HS.out.size; omega)⟩ ?_
      rintro W ⟨d0, d1, e0, e1, HS5⟩
      have HE5 := Lib.hid (And.intro e0 e1)
      clear p0 p1 p2 p3 p4 p5 p6 p7 p8 p9 p10 p11 p12 p13 p14 HB5 HS HE hnew
      by_cases h3 : x.i = base
      · have d3 : (x.i == base) = true := beq_iff_eq.2 h3
        have d5 : decide (base < x.i) = false := decide_eq_false (by omega)
        by_cases h4 : x.t = term
        · have d4 : (x.t == term) = true := beq_iff_eq.2 h4
          have HP : Hid (contraB base term x.i x.t = false) := by
            show _ = _
            unfold contraB
            rw [d3, d5, show (x.t != term) = false from by simp [h4]]
            rfl
          rw [h3] at d0
          rw [h4] at d1
          clear h3 h4 d3 d4 d5
          go_wp2_with fail
          go_roundg (gk - 1)
          case measure => have h1 := HK.out; omega
          case rel => exact ⟨k + 1, by omega, by show _ = _; have h1 := HK.out; omega, by go_num, fun j z hj hz => by
            by_cases e : j = k
            · subst e
              have := hz.symm.trans HY.out
              injection this with this
              rw [this]
              exact HP.out
            · exact HA.out j z (by omega) hz, HE5.out, HS5.out⟩
        · have d4 : (x.t == term) = false := beq_eq_false_iff_ne.2 h4
          have HP : Hid (contraB base term x.i x.t = true) := by
            show _ = _
            unfold contraB
            rw [d3, show (x.t != term) = true from bne_iff_ne.2 h4]
            rfl
          rw [h3] at d0
          clear h3 d3 d5
          have HF := Lib.hid (show vs.any (fun x => contraB base term x.i x.t) = true from List.any_eq_true.2 ⟨x, List.mem_of_getElem? HY.out, HP.out⟩)
          go_wp2_with fail
          go_ret
          exact ⟨by rw [HF.out] <;> rfl, HS5.out⟩
      · have d3 : (x.i == base) = false := beq_eq_false_iff_ne.2 h3
        by_cases h5 : base < x.i
        · have d5 : decide (base < x.i) = true := decide_eq_true h5
          by_cases h6 : x.t < term
          · have d6 : decide (x.t < term) = true := decide_eq_true h6
            have HP : Hid (contraB base term x.i x.t = true) := by
              show _ = _
              unfold contraB
              rw [d3, d5, d6]
              rfl
            have HF := Lib.hid (show vs.any (fun x => contraB base term x.i x.t) = true from List.any_eq_true.2 ⟨x, List.mem_of_getElem? HY.out, HP.out⟩)
            go_wp2_with fail
            go_ret
            exact ⟨by rw [HF.out] <;> rfl, HS5.out⟩
          · have d6 : decide (x.t < term) = false := decide_eq_false h6
            have HP : Hid (contraB base term x.i x.t = false) := by
              show _ = _
              unfold contraB
              rw [d3, d5, d6]
              rfl
            go_wp2_with fail
            go_roundg (gk - 1)
            case measure => have h1 := HK.out; omega
            case rel => exact ⟨k + 1, by omega, by show _ = _; have h1 := HK.out; omega, by go_num, fun j z hj hz => by
              by_cases e : j = k
              · subst e
                have := hz.symm.trans HY.out
                injection this with this
                rw [this]
                exact HP.out
              · exact HA.out j z (by omega) hz, HE5.out, HS5.out⟩
        · have d5 : decide (base < x.i) = false := decide_eq_false h5
          have HP : Hid (contraB base term x.i x.t = false) := by
            show _ = _
            unfold contraB
            rw [d3, d5]
            rfl
          go_wp2_with fail
          go_roundg (gk - 1)
          case measure => have h1 := HK.out; omega
          case rel => exact ⟨k + 1, by omega, by show _ = _; have h1 := HK.out; omega, by go_num, fun j z hj hz => by
            by_cases e : j = k
            · subst e
              have := hz.symm.trans HY.out
              injection this with this
              rw [this]
              exact HP.out
            · exact HA.out j z (by omega) hz, HE5.out, HS5.out⟩
    · obtain rfl : k = cs.length := by omega
      have HF : Hid (vs.any (fun x => contraB base term x.i x.t) = false) := by
        show _ = _
        rw [List.any_eq_false]
        intro x hx
        obtain ⟨j, hj, rfl⟩ := List.getElem_of_mem hx
        rw [HA.out j _ (by have := HL.out; omega) (List.getElem?_eq_getElem hj)]
        decide
      go_wp2_with fail
      go_ret
      exact ⟨by rw [HF.out] <;> rfl, HS.out⟩
end Go.Proofs.Ytlocfbjeljgblaa
