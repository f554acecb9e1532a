/- Layer 36: follow of the program, Follow of the reference. (printed by genRepR.py) -/
import Derived.Test.YtlocfbjeljgblaaRepL
namespace Go.Proofs.Ytlocfbjeljgblaa
open Go Go.RowKit
set_option maxRecDepth 100000

def follB (i t : Int) : List EnV → Bool
  | [] => true
  | e :: l => e.i == i + 1 && decide (t ≤ e.t) && follB (i + 1) e.t l
def followB (i t : Int) (l : List EnV) : Bool := decide (0 ≤ i) && decide (0 ≤ t) && follB i t l
theorem foll_step {i t : Int} {l : List EnV} {k : Nat} {x : EnV} (h : l[k]? = some x) : follB i t (l.drop k) = (x.i == i + 1 && decide (t ≤ x.t) && follB (i + 1) x.t (l.drop (k + 1))) := by
  have hk := (List.getElem?_eq_some_iff.1 h).1
  rw [List.drop_eq_getElem_cons hk, (List.getElem?_eq_some_iff.1 h).2]
  rfl

set_option maxHeartbeats 8000000 in
theorem follow_any {w : World} {bad : Nat → Prop} {v : Value} {es : List En} {vs : List EnV} (h : EnL w bad v es vs) (hlen : vs.length ≤ 100000) {i t : Int} (hi : i ≤ 4398046511104) :
    Calls Try.prog 45 #[.int .i64 i, .int .i64 t, v] w fun r w' => r = .returned (.bool (followB i t vs)) ∧ Same noB w w' := by
  obtain ⟨A, c, rfl, hc1, hc2, hr⟩ := h.rd.form
  have HL := Lib.hid h.len
  have HB := Lib.hid h
  have HLN := Lib.hid hlen
  have HI := Lib.hid hi
  have hi' := hi
  clear h hr hlen hc2
  by_cases h1 : i < 0
  · have d : decide (i < 0) = true := decide_eq_true h1
    have HV : Hid (followB i t vs = false) := by show _ = _; unfold followB; rw [decide_eq_false (by omega : ¬ 0 ≤ i)]; rfl
    rw [HV.out]
    clear HI HB hi hi' h1
    go_enter Try.func45, Try.ntmps45
    go_wp2_with fail
    go_ret
    exact ⟨rfl, Same.refl _ _⟩
  by_cases h2 : t < 0
  · have d : decide (i < 0) = false := decide_eq_false h1
    have d2 : decide (t < 0) = true := decide_eq_true h2
    have HV : Hid (followB i t vs = false) := by show _ = _; unfold followB; rw [decide_eq_false (by omega : ¬ 0 ≤ t), Bool.and_false, Bool.false_and]
    rw [HV.out]
    clear HI HB hi hi' h1 h2
    go_enter Try.func45, Try.ntmps45
    go_wp2_with fail
    go_ret
    exact ⟨rfl, Same.refl _ _⟩
  have d : decide (i < 0) = false := decide_eq_false h1
  have d2 : decide (t < 0) = false := decide_eq_false h2
  have HV : Hid (followB i t vs = follB i t vs) := by show _ = _; unfold followB; rw [decide_eq_true (by omega : 0 ≤ i), decide_eq_true (by omega : 0 ≤ t)]; rfl
  rw [HV.out]
  clear hi hi' h2
  go_enter Try.func45, Try.ntmps45
  go_wp2_with fail
  go_loopg [0, 1, 17] (es.length) (fun gk i0 t0 q wr => ∃ (k : Nat) (tk : Int), k ≤ es.length ∧ Hid (gk + k = es.length) ∧ i0 = .int .i64 (i + k) ∧ t0 = .int .i64 tk ∧ q = .int .i64 k ∧ Hid (follB i t vs = follB (i + k) tk (vs.drop k)) ∧ Hid (Same noB w wr))
  case atStart => exact ⟨0, t, Nat.zero_le _, rfl, by go_num, rfl, rfl, by show _ = _; simp, Same.refl _ _⟩
  case round =>
    obtain ⟨k, tk, hk, HK, rfl, rfl, rfl, HF, HS⟩ := hrel
    by_cases hlt : k < es.length
    · obtain ⟨e, he⟩ : ∃ e, es[k]? = some e := ⟨_, List.getElem?_eq_getElem hlt⟩
      obtain ⟨b, o, rfl, r⟩ := (HB.out.rd.keep HS.out).at_ (by omega)
      obtain ⟨x, hx, hix⟩ := HB.out.is.at_ he
      obtain ⟨p0, p1, p2, p3, p4, p5, p6, p7, p8, p9, p10, p11, p12, p13, p14⟩ := en_at r he
      have HX := Lib.hid (And.intro hix.i hix.t)
      have HT := Lib.hid (foll_step (i := i + k) (t := tk) hx)
      have hbi := HI.out
      have hbl := HLN.out
      have hbl2 := HL.out
      have hbl3 : es.length ≤ 100000 := by omega
      have hi0 : (0 : Int) ≤ (k : Int) := by omega
      have hi1 : (k : Int) < (es.length : Int) := by omega
      have hw1 : IntKind.i64.wrap (i + k + 1) = i + k + 1 := IntWalk.i64_in _ (by omega)
      have HB5 := Lib.hid (row_stored (Blk.new wr 57 en0.cells.toArray) e.cells.toArray)
      have HCAP := Lib.hid hc1
      clear r he hx hix hbl hbl2
      go_upto_region 6 with (refine wpList_store_row rfl 57 _ _ rfl wr.heap.size e.cells.toArray rfl rfl 57 _ (Blk.new wr 57 en0.cells.toArray) (by kernel_rfl) rfl (by kernel_rfl) ?_)
      refine wp_abs (fun W => W.cell? ⟨wr.heap.size, 0, none⟩ = some (.int .i64 x.i) ∧ W.cell? ⟨wr.heap.size, 1, none⟩ = some (.int .i64 x.t) ∧ Hid (Same noB w W)) ⟨by rw [← HX.out.1]; exact HB5.out.1.cell 0, by rw [← HX.out.2]; exact HB5.out.1.cell 1, (HS.out.alloc _).trans HB5.out.2 (fun b hb hx => by have h3 : b = wr.heap.size := hx; have := HS.out.size; omega)⟩ ?_
      rintro W ⟨d0, d1, HS5⟩
      clear p0 p1 p2 p3 p4 p5 p6 p7 p8 p9 p10 p11 p12 p13 p14 HB5 HS
      by_cases h3 : x.i = i + k + 1
      · have d3 : (x.i == i + k + 1) = true := beq_iff_eq.2 h3
        by_cases h4 : x.t < tk
        · have d4 : decide (x.t < tk) = true := decide_eq_true h4
          have HF2 : Hid (follB i t vs = false) := by
            show _ = _
            rw [HF.out, HT.out, decide_eq_false (by omega : ¬ tk ≤ x.t), Bool.and_false, Bool.false_and]
          rw [h3] at d0
          clear h3 h4 HF HT
          go_wp2_with fail
          go_ret
          exact ⟨by rw [HF2.out] <;> rfl, HS5.out⟩
        · have d4 : decide (x.t < tk) = false := decide_eq_false h4
          have HF2 : Hid (follB i t vs = follB (i + k + 1) x.t (vs.drop (k + 1))) := by
            show _ = _
            rw [HF.out, HT.out, decide_eq_true (by omega : tk ≤ x.t), d3]
            rfl
          rw [h3] at d0
          clear h3 h4 HF HT
          go_wp2_with fail
          go_roundg (gk - 1)
          case measure => have h1 := HK.out; omega
          case rel => exact ⟨k + 1, x.t, by omega, by show _ = _; have h1 := HK.out; omega, by rw [show i + ((k + 1 : Nat) : Int) = i + k + 1 from by omega], rfl, by go_num, by show _ = _; rw [HF2.out, show i + ((k + 1 : Nat) : Int) = i + k + 1 from by omega], HS5.out⟩
      · have d3 : (x.i == i + k + 1) = false := beq_eq_false_iff_ne.2 h3
        have HF2 : Hid (follB i t vs = false) := by
          show _ = _
          rw [HF.out, HT.out, d3]
          rfl
        clear HF HT
        go_wp2_with fail
        go_ret
        exact ⟨by rw [HF2.out] <;> rfl, HS5.out⟩
    · obtain rfl : k = es.length := by omega
      have HF2 : Hid (follB i t vs = true) := by
        show _ = _
        rw [HF.out, List.drop_eq_nil_of_le (by rw [HL.out]; exact Nat.le_refl _)]
        rfl
      clear HF
      go_wp2_with fail
      go_ret
      exact ⟨by rw [HF2.out] <;> rfl, HS.out⟩
set_option maxHeartbeats 8000000 in
theorem rfollow_any {w : World} {bad : Nat → Prop} {v : Value} {es : List En} {vs : List EnV} (h : EnL w bad v es vs) (hlen : vs.length ≤ 100000) {i t : Int} (hi : i ≤ 4398046511104) :
    Calls Try.prog 60 #[.int .i64 i, .int .i64 t, v] w fun r w' => r = .returned (.bool (followB i t vs)) ∧ Same noB w w' := by
  obtain ⟨A, c, rfl, hc1, hc2, hr⟩ := h.rd.form
  have HL := Lib.hid h.len
  have HB := Lib.hid h
  have HLN := Lib.hid hlen
  have HI := Lib.hid hi
  have hi' := hi
  clear h hr hlen hc2
  by_cases h1 : i < 0
  · have d : decide (i < 0) = true := decide_eq_true h1
    have HV : Hid (followB i t vs = false) := by show _ = _; unfold followB; rw [decide_eq_false (by omega : ¬ 0 ≤ i)]; rfl
    rw [HV.out]
    clear HI HB hi hi' h1
    go_enter Try.func60, Try.ntmps60
    go_wp2_with fail
    go_ret
    exact ⟨rfl, Same.refl _ _⟩
  by_cases h2 : t < 0
  · have d : decide (i < 0) = false := decide_eq_false h1
    have d2 : decide (t < 0) = true := decide_eq_true h2
    have HV : Hid (followB i t vs = false) := by show _ = _; unfold followB; rw [decide_eq_false (by omega : ¬ 0 ≤ t), Bool.and_false, Bool.false_and]
    rw [HV.out]
    clear HI HB hi hi' h1 h2
    go_enter Try.func60, Try.ntmps60
    go_wp2_with fail
    go_ret
    exact ⟨rfl, Same.refl _ _⟩
  have d : decide (i < 0) = false := decide_eq_false h1
  have d2 : decide (t < 0) = false := decide_eq_false h2
  have HV : Hid (followB i t vs = follB i t vs) := by show _ = _; unfold followB; rw [decide_eq_true (by omega : 0 ≤ i), decide_eq_true (by omega : 0 ≤ t)]; rfl
  rw [HV.out]
  clear hi hi' h2
  go_enter Try.func60, Try.ntmps60
  go_wp2_with fail
  go_loopg [1, 7] (es.length) (fun gk t0 q wr => ∃ (k : Nat) (tk : Int), k ≤ es.length ∧ Hid (gk + k = es.length) ∧ t0 = .int .i64 tk ∧ q = .int .i64 k ∧ Hid (follB i t vs = follB (i + k) tk (vs.drop k)) ∧ Hid (Same noB w wr))
  case atStart => exact ⟨0, t, Nat.zero_le _, rfl, rfl, rfl, by show _ = _; simp, Same.refl _ _⟩
  case round =>
    obtain ⟨k, tk, hk, HK, rfl, rfl, HF, HS⟩ := hrel
    by_cases hlt : k < es.length
    · obtain ⟨e, he⟩ : ∃ e, es[k]? = some e := ⟨_, List.getElem?_eq_getElem hlt⟩
      obtain ⟨b, o, rfl, r⟩ := (HB.out.rd.keep HS.out).at_ (by omega)
      obtain ⟨x, hx, hix⟩ := HB.out.is.at_ he
      obtain ⟨p0, p1, _⟩ := en_at r he
      rw [hix.i] at p0
      rw [hix.t] at p1
      have HT := Lib.hid (foll_step (i := i + k) (t := tk) hx)
      have hbi := HI.out
      have hbl := HLN.out
      have hbl2 := HL.out
      have hbl3 : es.length ≤ 100000 := by omega
      have hi0 : (0 : Int) ≤ (k : Int) := by omega
      have hi1 : (k : Int) < (es.length : Int) := by omega
      have hw1 : IntKind.i64.wrap (i + 1) = i + 1 := IntWalk.i64_in _ (by omega)
      have hw2 : IntKind.i64.wrap (i + 1 + k) = i + 1 + k := IntWalk.i64_in _ (by omega)
      clear r he hx hix hbl hbl2
      by_cases h3 : x.i = i + 1 + k
      · have d3 : (x.i == i + k + 1) = true := beq_iff_eq.2 (by omega)
        have d5 : (x.i == i + 1 + k) = true := beq_iff_eq.2 h3
        by_cases h4 : x.t < tk
        · have d4 : decide (x.t < tk) = true := decide_eq_true h4
          have HF2 : Hid (follB i t vs = false) := by
            show _ = _
            rw [HF.out, HT.out, decide_eq_false (by omega : ¬ tk ≤ x.t), Bool.and_false, Bool.false_and]
          rw [h3] at p0
          clear h3 h4 HF HT d3
          go_wp2_with fail
          go_ret
          exact ⟨by rw [HF2.out] <;> rfl, HS.out⟩
        · have d4 : decide (x.t < tk) = false := decide_eq_false h4
          have HF2 : Hid (follB i t vs = follB (i + k + 1) x.t (vs.drop (k + 1))) := by
            show _ = _
            rw [HF.out, HT.out, decide_eq_true (by omega : tk ≤ x.t), d3]
            rfl
          rw [h3] at p0
          clear h3 h4 HF HT d3
          go_wp2_with fail
          go_roundg (gk - 1)
          case measure => have h1 := HK.out; omega
          case rel => exact ⟨k + 1, x.t, by omega, by show _ = _; have h1 := HK.out; omega, rfl, by go_num, by show _ = _; rw [HF2.out, show i + ((k + 1 : Nat) : Int) = i + k + 1 from by omega], HS.out⟩
      · have d3 : (x.i == i + k + 1) = false := beq_eq_false_iff_ne.2 (by omega)
        have d5 : (x.i == i + 1 + k) = false := beq_eq_false_iff_ne.2 h3
        have HF2 : Hid (follB i t vs = false) := by
          show _ = _
          rw [HF.out, HT.out, d3]
          rfl
        clear HF HT d3
        go_wp2_with fail
        go_ret
        exact ⟨by rw [HF2.out] <;> rfl, HS.out⟩
    · obtain rfl : k = es.length := by omega
      have HF2 : Hid (follB i t vs = true) := by
        show _ = _
        rw [HF.out, List.drop_eq_nil_of_le (by rw [HL.out]; exact Nat.le_refl _)]
        rfl
      clear HF
      go_wp2_with fail
      go_ret
      exact ⟨by rw [HF2.out] <;> rfl, HS.out⟩
end Go.Proofs.Ytlocfbjeljgblaa
