/- Layer 36: Newer and Matches of both; Entry and Reset of the program. (printed by genRepL.py) -/
import Derived.Test.YtlocfbjeljgblaaRepK
import Derived.Test.YtlocfbjeljgblaaRepI
namespace Go.Proofs.Ytlocfbjeljgblaa
open Go Go.RowKit
set_option maxRecDepth 100000

def Lg.newer (g : Lg) (i t : Int) : Bool := decide (g.last.2 < t) || (t == g.last.2 && decide (g.last.1 ≤ i))
def Lg.mat (g : Lg) (i t : Int) : Bool := decide (i < g.base) || ((g.termAt i).2 && (g.termAt i).1 == t)

set_option maxHeartbeats 4000000 in
theorem newer_any {w : World} {M : Nat} {v : Value} {es : List En} {g : Lg} (h : LogIs w M v es g) (hf : g.Fit) (i t : Int) :
    Calls Try.prog 24 #[.pointer (some ⟨M, 0, none⟩), .int .i64 i, .int .i64 t] w fun r w' => r = .returned (.bool (g.newer i t)) ∧ Same noB w w' := by
  have HZ := Lib.hid (fun (W : World) (hs : Same noB w W) => last_any (h.keep hs) hf)
  have HV : Hid (g.newer i t = (decide (g.last.2 < t) || (t == g.last.2 && decide (g.last.1 ≤ i)))) := rfl
  rw [HV.out]
  clear HV
  generalize g.last = q at HZ ⊢
  obtain ⟨a, b⟩ := q
  simp only at HZ ⊢
  clear h hf
  
  by_cases h1 : b < t
  · have d : decide (b < t) = true := decide_eq_true h1
    go_enter Try.func24, Try.ntmps24
    have HS : Hid (Same noB w w) := Same.refl _ _
    go_wp2_with fail
    (with_reducible refine Calls.mono (HZ.out _ HS.out) ?_)
    rintro r W2 ⟨rfl, hs2⟩
    have HS2 := Lib.hid (HS.out.trans' hs2)
    clear hs2
    go_wp2_with fail
    go_ret
    exact ⟨by simp [h1], HS2.out⟩
  · have d : decide (b < t) = false := decide_eq_false h1
    by_cases h2 : t = b
    · have d2 : (t == b) = true := beq_iff_eq.2 h2
      have h2b := Lib.hid h2
      clear h2
      have hd3 : ¬ b < t := h1
      go_enter Try.func24, Try.ntmps24
      have HS : Hid (Same noB w w) := Same.refl _ _
      go_wp2_with fail
      (with_reducible refine Calls.mono (HZ.out _ HS.out) ?_)
      rintro r W2 ⟨rfl, hs2⟩
      have HS2 := Lib.hid (HS.out.trans' hs2)
      clear hs2
      go_wp2_with fail
      go_ret
      exact ⟨by simp [h2b.out], HS2.out⟩
    · have d2 : (t == b) = false := beq_eq_false_iff_ne.2 h2
      go_enter Try.func24, Try.ntmps24
      have HS : Hid (Same noB w w) := Same.refl _ _
      go_wp2_with fail
      (with_reducible refine Calls.mono (HZ.out _ HS.out) ?_)
      rintro r W2 ⟨rfl, hs2⟩
      have HS2 := Lib.hid (HS.out.trans' hs2)
      clear hs2
      go_wp2_with fail
      go_ret
      exact ⟨by simp [h1, h2], HS2.out⟩
set_option maxHeartbeats 4000000 in
theorem rnewer_any {w : World} {bad : Nat → Prop} {v : Value} {es : List En} {g : Lg} (h : EnL w bad v es g.es) (hf : g.es.length ≤ 100000) (i t : Int) :
    Calls Try.prog 34 #[.agg #[.int .i64 g.base, .int .i64 g.term, v], .int .i64 i, .int .i64 t] w fun r w' => r = .returned (.bool (g.newer i t)) ∧ Same noB w w' := by
  have HZ := Lib.hid (fun (W : World) (hs : Same noB w W) => rlast_any (h.keep hs) hf)
  have HV : Hid (g.newer i t = (decide (g.last.2 < t) || (t == g.last.2 && decide (g.last.1 ≤ i)))) := rfl
  rw [HV.out]
  clear HV
  generalize g.last = q at HZ ⊢
  obtain ⟨a, b⟩ := q
  simp only at HZ ⊢
  obtain ⟨A, c, rfl, hc1, hc2, hr⟩ := h.rd.form
  clear h hf hr
  by_cases h1 : b < t
  · have d : decide (b < t) = true := decide_eq_true h1
    go_enter Try.func34, Try.ntmps34
    go_upto_region 1 with (fail)
    refine wp_abs (fun W => W.cell? ⟨w.heap.size, 0, none⟩ = some (.int .i64 g.base) ∧ W.cell? ⟨w.heap.size, 1, none⟩ = some (.int .i64 g.term) ∧ W.cell? ⟨w.heap.size, 2, none⟩ = some (.slice A es.length c) ∧ Hid (Same noB w W)) ⟨by go_simp, by go_simp, by go_simp, (Same.refl _ _).alloc _⟩ ?_
    rintro W ⟨d0, d1, d2, HS⟩
    obtain ⟨N, hN⟩ : ∃ N, w.heap.size = N := ⟨_, rfl⟩
    rw [hN] at d0 d1 d2 ⊢
    go_wp2_with fail
    (with_reducible refine Calls.mono (HZ.out _ HS.out) ?_)
    rintro r W2 ⟨rfl, hs2⟩
    have HS2 := Lib.hid (HS.out.trans' hs2)
    clear hs2
    go_wp2_with fail
    go_ret
    exact ⟨by simp [h1], HS2.out⟩
  · have d : decide (b < t) = false := decide_eq_false h1
    by_cases h2 : t = b
    · have d2 : (t == b) = true := beq_iff_eq.2 h2
      have h2b := Lib.hid h2
      clear h2
      have hd3 : ¬ b < t := h1
      go_enter Try.func34, Try.ntmps34
      go_upto_region 1 with (fail)
      refine wp_abs (fun W => W.cell? ⟨w.heap.size, 0, none⟩ = some (.int .i64 g.base) ∧ W.cell? ⟨w.heap.size, 1, none⟩ = some (.int .i64 g.term) ∧ W.cell? ⟨w.heap.size, 2, none⟩ = some (.slice A es.length c) ∧ Hid (Same noB w W)) ⟨by go_simp, by go_simp, by go_simp, (Same.refl _ _).alloc _⟩ ?_
      rintro W ⟨d0, d1, d2, HS⟩
      obtain ⟨N, hN⟩ : ∃ N, w.heap.size = N := ⟨_, rfl⟩
      rw [hN] at d0 d1 d2 ⊢
      go_wp2_with fail
      (with_reducible refine Calls.mono (HZ.out _ HS.out) ?_)
      rintro r W2 ⟨rfl, hs2⟩
      have HS2 := Lib.hid (HS.out.trans' hs2)
      clear hs2
      go_wp2_with fail
      go_ret
      exact ⟨by simp [h2b.out], HS2.out⟩
    · have d2 : (t == b) = false := beq_eq_false_iff_ne.2 h2
      go_enter Try.func34, Try.ntmps34
      go_upto_region 1 with (fail)
      refine wp_abs (fun W => W.cell? ⟨w.heap.size, 0, none⟩ = some (.int .i64 g.base) ∧ W.cell? ⟨w.heap.size, 1, none⟩ = some (.int .i64 g.term) ∧ W.cell? ⟨w.heap.size, 2, none⟩ = some (.slice A es.length c) ∧ Hid (Same noB w W)) ⟨by go_simp, by go_simp, by go_simp, (Same.refl _ _).alloc _⟩ ?_
      rintro W ⟨d0, d1, d2, HS⟩
      obtain ⟨N, hN⟩ : ∃ N, w.heap.size = N := ⟨_, rfl⟩
      rw [hN] at d0 d1 d2 ⊢
      go_wp2_with fail
      (with_reducible refine Calls.mono (HZ.out _ HS.out) ?_)
      rintro r W2 ⟨rfl, hs2⟩
      have HS2 := Lib.hid (HS.out.trans' hs2)
      clear hs2
      go_wp2_with fail
      go_ret
      exact ⟨by simp [h1, h2], HS2.out⟩
set_option maxHeartbeats 4000000 in
theorem matches_any {w : World} {M : Nat} {v : Value} {es : List En} {g : Lg} (h : LogIs w M v es g) (hf : g.Fit) {i : Int} (hi : inI64 i) (t : Int) :
    Calls Try.prog 46 #[.pointer (some ⟨M, 0, none⟩), .int .i64 i, .int .i64 t] w fun r w' => r = .returned (.bool (g.mat i t)) ∧ Same noB w w' := by
  have HZ := Lib.hid (fun (W : World) (hs : Same noB w W) => term_any (h.keep hs) hf hi)
  have HV : Hid (g.mat i t = (decide (i < g.base) || ((g.termAt i).2 && (g.termAt i).1 == t))) := rfl
  rw [HV.out]
  clear HV
  generalize g.termAt i = q at HZ ⊢
  obtain ⟨a, b⟩ := q
  simp only at HZ ⊢
  have c0 := Lib.hid h.cells.1
  clear h hf hi
  by_cases h1 : i < g.base
  · have d : decide (i < g.base) = true := decide_eq_true h1
    go_enter Try.func46, Try.ntmps46
    have HS : Hid (Same noB w w) := Same.refl _ _
    have d0 := c0.out
    go_wp2_with fail
    (with_reducible refine Calls.mono (HZ.out _ HS.out) ?_)
    rintro r W2 ⟨rfl, hs2⟩
    replace d0 := hs2.cell d0 (fun x => x)
    have HS2 := Lib.hid (HS.out.trans' hs2)
    clear hs2
    go_wp2_with fail
    go_ret
    exact ⟨by simp [h1], HS2.out⟩
  · have d : decide (i < g.base) = false := decide_eq_false h1
    cases b
    ·
      go_enter Try.func46, Try.ntmps46
      have HS : Hid (Same noB w w) := Same.refl _ _
      have d0 := c0.out
      go_wp2_with fail
      (with_reducible refine Calls.mono (HZ.out _ HS.out) ?_)
      rintro r W2 ⟨rfl, hs2⟩
      replace d0 := hs2.cell d0 (fun x => x)
      have HS2 := Lib.hid (HS.out.trans' hs2)
      clear hs2
      go_wp2_with fail
      go_ret
      exact ⟨by simp [h1], HS2.out⟩
    ·
      go_enter Try.func46, Try.ntmps46
      have HS : Hid (Same noB w w) := Same.refl _ _
      have d0 := c0.out
      go_wp2_with fail
      (with_reducible refine Calls.mono (HZ.out _ HS.out) ?_)
      rintro r W2 ⟨rfl, hs2⟩
      replace d0 := hs2.cell d0 (fun x => x)
      have HS2 := Lib.hid (HS.out.trans' hs2)
      clear hs2
      go_wp2_with fail
      go_ret
      exact ⟨by simp; intro h2; exact absurd (Int.lt_of_lt_of_le h2 h1) (Int.lt_irrefl _), HS2.out⟩
set_option maxHeartbeats 4000000 in
theorem rmatches_any {w : World} {bad : Nat → Prop} {v : Value} {es : List En} {g : Lg} (h : EnL w bad v es g.es) (hf : g.Fit) {i : Int} (hi : inI64 i) (t : Int) :
    Calls Try.prog 61 #[.agg #[.int .i64 g.base, .int .i64 g.term, v], .int .i64 i, .int .i64 t] w fun r w' => r = .returned (.bool (g.mat i t)) ∧ Same noB w w' := by
  have HZ := Lib.hid (fun (W : World) (hs : Same noB w W) => rterm_any (h.keep hs) hf hi)
  have HV : Hid (g.mat i t = (decide (i < g.base) || ((g.termAt i).2 && (g.termAt i).1 == t))) := rfl
  rw [HV.out]
  clear HV
  generalize g.termAt i = q at HZ ⊢
  obtain ⟨a, b⟩ := q
  simp only at HZ ⊢
  obtain ⟨A, c, rfl, hc1, hc2, hr⟩ := h.rd.form
  clear h hf hr hi
  by_cases h1 : i < g.base
  · have d : decide (i < g.base) = true := decide_eq_true h1
    go_enter Try.func61, Try.ntmps61
    go_upto_region 1 with (fail)
    refine wp_abs (fun W => W.cell? ⟨w.heap.size, 0, none⟩ = some (.int .i64 g.base) ∧ W.cell? ⟨w.heap.size, 1, none⟩ = some (.int .i64 g.term) ∧ W.cell? ⟨w.heap.size, 2, none⟩ = some (.slice A es.length c) ∧ Hid (Same noB w W)) ⟨by go_simp, by go_simp, by go_simp, (Same.refl _ _).alloc _⟩ ?_
    rintro W ⟨d0, d1, d2, HS⟩
    obtain ⟨N, hN⟩ : ∃ N, w.heap.size = N := ⟨_, rfl⟩
    rw [hN] at d0 d1 d2 ⊢
    go_wp2_with fail
    (with_reducible refine Calls.mono (HZ.out _ HS.out) ?_)
    rintro r W2 ⟨rfl, hs2⟩
    replace d0 := hs2.cell d0 (fun x => x)
    have HS2 := Lib.hid (HS.out.trans' hs2)
    clear hs2
    go_wp2_with fail
    go_ret
    exact ⟨by simp [h1], HS2.out⟩
  · have d : decide (i < g.base) = false := decide_eq_false h1
    cases b
    ·
      go_enter Try.func61, Try.ntmps61
      go_upto_region 1 with (fail)
      refine wp_abs (fun W => W.cell? ⟨w.heap.size, 0, none⟩ = some (.int .i64 g.base) ∧ W.cell? ⟨w.heap.size, 1, none⟩ = some (.int .i64 g.term) ∧ W.cell? ⟨w.heap.size, 2, none⟩ = some (.slice A es.length c) ∧ Hid (Same noB w W)) ⟨by go_simp, by go_simp, by go_simp, (Same.refl _ _).alloc _⟩ ?_
      rintro W ⟨d0, d1, d2, HS⟩
      obtain ⟨N, hN⟩ : ∃ N, w.heap.size = N := ⟨_, rfl⟩
      rw [hN] at d0 d1 d2 ⊢
      go_wp2_with fail
      (with_reducible refine Calls.mono (HZ.out _ HS.out) ?_)
      rintro r W2 ⟨rfl, hs2⟩
      replace d0 := hs2.cell d0 (fun x => x)
      have HS2 := Lib.hid (HS.out.trans' hs2)
      clear hs2
      go_wp2_with fail
      go_ret
      exact ⟨by simp [h1], HS2.out⟩
    ·
      go_enter Try.func61, Try.ntmps61
      go_upto_region 1 with (fail)
      refine wp_abs (fun W => W.cell? ⟨w.heap.size, 0, none⟩ = some (.int .i64 g.base) ∧ W.cell? ⟨w.heap.size, 1, none⟩ = some (.int .i64 g.term) ∧ W.cell? ⟨w.heap.size, 2, none⟩ = some (.slice A es.length c) ∧ Hid (Same noB w W)) ⟨by go_simp, by go_simp, by go_simp, (Same.refl _ _).alloc _⟩ ?_
      rintro W ⟨d0, d1, d2, HS⟩
      obtain ⟨N, hN⟩ : ∃ N, w.heap.size = N := ⟨_, rfl⟩
      rw [hN] at d0 d1 d2 ⊢
      go_wp2_with fail
      (with_reducible refine Calls.mono (HZ.out _ HS.out) ?_)
      rintro r W2 ⟨rfl, hs2⟩
      replace d0 := hs2.cell d0 (fun x => x)
      have HS2 := Lib.hid (HS.out.trans' hs2)
      clear hs2
      go_wp2_with fail
      go_ret
      exact ⟨by simp; intro h2; exact absurd (Int.lt_of_lt_of_le h2 h1) (Int.lt_irrefl _), HS2.out⟩
theorem Lg.from_one_yes {g : Lg} {k : Nat} {x : EnV} (h : g.es[k]? = some x) : g.fromL (g.base + 1 + k) 1 = [x] := by
  have hk := (List.getElem?_eq_some_iff.1 h).1
  unfold Lg.fromL Lg.atOf
  rw [show (g.base + 1 + k - g.base - 1).toNat = k from by omega, List.drop_eq_getElem_cons hk, show (1 : Int).toNat = 1 from rfl, List.take_succ_cons, List.take_zero, (List.getElem?_eq_some_iff.1 h).2]
theorem Lg.from_one_no {g : Lg} {i : Int} (h : g.base + g.es.length < i) : g.fromL i 1 = [] := by
  unfold Lg.fromL Lg.atOf
  rw [List.drop_eq_nil_of_le (by omega), List.take_nil]
/-- Blocks that are older than a call. -/
def oldB (w : World) : Nat → Prop := fun k => k < w.heap.size
set_option maxHeartbeats 8000000 in
theorem entry_low {w : World} {M : Nat} {base i : Int} (c0 : w.cell? ⟨M, 0, none⟩ = some (.int .i64 base)) (h : i ≤ base)
    (HZ : Hid (∀ W : World, Same noB w W → Calls Try.prog 19 #[.pointer (some ⟨M, 0, none⟩), .int .i64 i, .int .i64 1] W fun r w' => ∃ v, r = .returned v ∧ Same noB W w')) :
    Calls Try.prog 22 #[.pointer (some ⟨M, 0, none⟩), .int .i64 i] w fun r w' => r = .returned (.tuple #[en0.val, .bool false]) ∧ Same noB w w' := by
  have hd : decide (i ≤ base) = true := decide_eq_true h
  clear h
  go_enter Try.func22, Try.ntmps22
  go_upto_region 1 with (fail)
  refine wp_abs (fun W => Hid (Blk W w.heap.size 57 en0.cells.toArray) ∧ Hid (Same noB w W)) ⟨Blk.new _ _ _, (Same.refl _ _).alloc _⟩ ?_
  rintro W ⟨HB, HS⟩
  obtain ⟨N, hN⟩ : ∃ N, w.heap.size = N := ⟨_, rfl⟩
  rw [hN] at HB ⊢
  go_wp2_with fail
  (with_reducible refine Calls.mono (HZ.out _ HS.out) ?_)
  rintro r W2 ⟨v, rfl, hs2⟩
  have d0 := hs2.cell (HS.out.cell c0 (fun x => x)) (fun x => x)
  have HB1 := Lib.hid (HB.out.same hs2 (fun x => x))
  have HB2 := Lib.hid (en_stored HB1.out en0)
  have HS2 := Lib.hid (HS.out.trans' hs2)
  clear hs2 c0 HB HS HZ
  go_wp2_with (refine wpList_store_row rfl 57 _ _ rfl N en0.cells.toArray rfl rfl 57 _ HB1.out (by kernel_rfl) rfl (by kernel_rfl) ?_)
  (try simp only [Exit.inBlock, Exit.then])
  refine bodyPost_ret (res_et rfl HB2.out.1 rfl rfl) rfl ?_
  exact ⟨rfl, HS2.out.trans HB2.out.2 (fun b hb hx => by have h3 : b = N := hx; omega)⟩
set_option maxHeartbeats 8000000 in
theorem entry_out {w : World} {M : Nat} {base i : Int} (c0 : w.cell? ⟨M, 0, none⟩ = some (.int .i64 base)) (h : base < i)
    (HZ : Hid (∀ W : World, Same noB w W → Calls Try.prog 19 #[.pointer (some ⟨M, 0, none⟩), .int .i64 i, .int .i64 1] W fun r w' => ∃ A c, r = .returned (.slice A 0 c) ∧ Same noB W w')) :
    Calls Try.prog 22 #[.pointer (some ⟨M, 0, none⟩), .int .i64 i] w fun r w' => r = .returned (.tuple #[en0.val, .bool false]) ∧ Same noB w w' := by
  have hd : decide (i ≤ base) = false := decide_eq_false (by omega)
  clear h
  go_enter Try.func22, Try.ntmps22
  go_upto_region 1 with (fail)
  refine wp_abs (fun W => Hid (Blk W w.heap.size 57 en0.cells.toArray) ∧ Hid (Same noB w W)) ⟨Blk.new _ _ _, (Same.refl _ _).alloc _⟩ ?_
  rintro W ⟨HB, HS⟩
  obtain ⟨N, hN⟩ : ∃ N, w.heap.size = N := ⟨_, rfl⟩
  rw [hN] at HB ⊢
  go_wp2_with fail
  (with_reducible refine Calls.mono (HZ.out _ HS.out) ?_)
  rintro r W2 ⟨A, c, rfl, hs2⟩
  have d0 := hs2.cell (HS.out.cell c0 (fun x => x)) (fun x => x)
  have HB1 := Lib.hid (HB.out.same hs2 (fun x => x))
  have HB2 := Lib.hid (en_stored HB1.out en0)
  have HS2 := Lib.hid (HS.out.trans' hs2)
  clear hs2 c0 HB HS HZ
  go_wp2_with (refine wpList_store_row rfl 57 _ _ rfl N en0.cells.toArray rfl rfl 57 _ HB1.out (by kernel_rfl) rfl (by kernel_rfl) ?_)
  (try simp only [Exit.inBlock, Exit.then])
  refine bodyPost_ret (res_et rfl HB2.out.1 rfl rfl) rfl ?_
  exact ⟨rfl, HS2.out.trans HB2.out.2 (fun b hb hx => by have h3 : b = N := hx; omega)⟩
set_option maxHeartbeats 8000000 in
theorem entry_in {w : World} {M : Nat} {base i : Int} {x : EnV} (c0 : w.cell? ⟨M, 0, none⟩ = some (.int .i64 base)) (h : base < i)
    (HZ : Hid (∀ W : World, Same noB w W → Calls Try.prog 19 #[.pointer (some ⟨M, 0, none⟩), .int .i64 i, .int .i64 1] W fun r w' => ∃ v, r = .returned v ∧ ∃ es, CopyIs W w' v es [x])) :
    Calls Try.prog 22 #[.pointer (some ⟨M, 0, none⟩), .int .i64 i] w fun r w' => ∃ e, r = .returned (.tuple #[e.val, .bool true]) ∧ EnIs w' (oldB w) e x ∧ Same noB w w' := by
  have hd : decide (i ≤ base) = false := decide_eq_false (by omega)
  clear h
  go_enter Try.func22, Try.ntmps22
  go_upto_region 1 with (fail)
  refine wp_abs (fun W => Hid (Blk W w.heap.size 57 en0.cells.toArray) ∧ Hid (Same noB w W)) ⟨Blk.new _ _ _, (Same.refl _ _).alloc _⟩ ?_
  rintro W ⟨HB, HS⟩
  obtain ⟨N, hN⟩ : ∃ N, w.heap.size = N := ⟨_, rfl⟩
  rw [hN] at HB ⊢
  go_wp2_with fail
  (with_reducible refine Calls.mono (HZ.out _ HS.out) ?_)
  rintro r W2 ⟨v, rfl, es, hc⟩
  have hs2 := hc.since
  have hl := hc.is.len
  obtain ⟨e, rfl⟩ : ∃ e, es = [e] := by
    cases es with
    | nil => simp at hl
    | cons a l => cases l with
      | nil => exact ⟨a, rfl⟩
      | cons b l => simp at hl
  have hr := Rd.of_own (bad := noB) hc.own (fun _ _ x => x)
  obtain ⟨A, c, rfl, hc1, hc2, hr2⟩ := hr.form
  obtain ⟨b, o, rfl, r⟩ := hr2.at_ (by simp)
  obtain ⟨p0, p1, p2, p3, p4, p5, p6, p7, p8, p9, p10, p11, p12, p13, p14⟩ := en_at (k := 0) (e := e) r rfl
  simp only [Nat.zero_mul, Nat.add_zero, List.length_cons, List.length_nil, Nat.zero_add] at p0 p1 p2 p3 p4 p5 p6 p7 p8 p9 p10 p11 p12 p13 p14 hc1 ⊢
  have HNW := Lib.hid HB.out.lt
  have HE : Hid (EnIs W2 (oldB W) e x) := by
    have hi := hc.is
    cases hi with
    | cons hi _ => exact hi.same (Same.refl noB _) (fun _ _ x => x.elim) (fun b _ hb => .inl hb)
  clear r hr2 hr hl hc
  have d0 := hs2.cell (HS.out.cell c0 (fun x => x)) (fun x => x)
  have HB1 := Lib.hid (HB.out.same hs2 (fun x => x))
  have HB2 := Lib.hid (en_stored HB1.out e)
  have HS2 := Lib.hid (HS.out.trans' hs2)
  have HSZ := Lib.hid HS.out.size
  clear hs2 c0 HB HS HZ
  go_wp2_with (refine wpList_store_row rfl 57 _ _ rfl N e.cells.toArray rfl rfl 57 _ HB1.out (by kernel_rfl) rfl (by kernel_rfl) ?_)
  (try simp only [Exit.inBlock, Exit.then])
  refine bodyPost_ret (res_et rfl HB2.out.1 rfl rfl) rfl ?_
  exact ⟨e, rfl, HE.out.same HB2.out.2 (fun b hb hx => by have h3 : b = N := hx; rw [h3]; exact HNW.out) (fun b _ hb => Nat.lt_of_lt_of_le hb HSZ.out), HS2.out.trans HB2.out.2 (fun b hb hx => by have h3 : b = N := hx; omega)⟩
theorem entry_any {w : World} {M : Nat} {v : Value} {es : List En} {g : Lg} (h : LogIs w M v es g) (hf : g.Fit) (hsm : ∀ x ∈ g.es, x.c.Sm) {i : Int} (hi : inI64 i) :
    Calls Try.prog 22 #[.pointer (some ⟨M, 0, none⟩), .int .i64 i] w fun r w' => ∃ e, r = .returned (.tuple #[e.val, .bool (g.entry i).2]) ∧ EnIs w' (oldB w) e (g.entry i).1 ∧ Same noB w w' := by
  have hfr := fun (W : World) (hs : Same noB w W) => from_any (h.keep hs) hf hsm hi (most := 1) ⟨by omega, by omega⟩
  have c0 := h.cells.1
  by_cases h1 : i ≤ g.base
  · refine (entry_low c0 h1 (Lib.hid fun W hs => (hfr W hs).mono (R' := fun r w' => ∃ v, r = .returned v ∧ Same noB W w') (by rintro r w' ⟨v, rfl, es, hc⟩; exact ⟨v, rfl, hc.since⟩))).mono ?_
    rintro r w' ⟨rfl, hs⟩
    have : g.entry i = (env0, false) := by unfold Lg.entry; rw [Lg.at_no (by omega)]
    rw [this]
    exact ⟨en0, rfl, en0_is _ _, hs⟩
  · by_cases h2 : g.base + g.es.length < i
    · refine (entry_out c0 (by omega) (Lib.hid fun W hs => (hfr W hs).mono (R' := fun r w' => ∃ A c, r = .returned (.slice A 0 c) ∧ Same noB W w') (by
        rintro r w' ⟨v, rfl, es, hc⟩
        have hl := hc.is.len
        rw [Lg.from_one_no h2] at hl
        obtain ⟨A, c, hv, _⟩ := (Rd.of_own (bad := noB) hc.own (fun _ _ x => x)).form
        rw [hl] at hv
        exact ⟨A, c, by rw [hv]; rfl, hc.since⟩))).mono ?_
      rintro r w' ⟨rfl, hs⟩
      have : g.entry i = (env0, false) := by unfold Lg.entry; rw [Lg.at_no (by omega)]
      rw [this]
      exact ⟨en0, rfl, en0_is _ _, hs⟩
    · obtain ⟨k, x, rfl, hx⟩ := Lg.at_form (g := g) (i := i) (by omega) (by omega)
      refine (entry_in (x := x) c0 (by omega) (Lib.hid fun W hs => (hfr W hs).mono (R' := fun r w' => ∃ v, r = .returned v ∧ ∃ es, CopyIs W w' v es [x]) (by
        rintro r w' ⟨v, rfl, es, hc⟩
        rw [Lg.from_one_yes hx] at hc
        exact ⟨v, rfl, es, hc⟩))).mono ?_
      rintro r w' ⟨e, rfl, he, hs⟩
      have : g.entry (g.base + 1 + k) = (x, true) := by unfold Lg.entry; rw [Lg.at_yes hx]
      rw [this]
      exact ⟨e, rfl, he, hs⟩
theorem row_stored {w : World} {G : Nat} {t : TypeId} {cs : Array Value} (hb : Blk w G t cs) (ds : Array Value) : Blk (w.setRow G ds) G t ds ∧ Same (oneB G) w (w.setRow G ds) := by
  have h1 : Blk (w.setRow G ds) G t ds := setRow_heap w G cs _ t (0, 0) hb
  exact ⟨h1, rfl, rfl, rfl, by simp, fun b _ hn => setRow_other w G b _ (fun e => hn e)⟩
set_option maxHeartbeats 8000000 in
theorem reset_any {w : World} {M : Nat} {cs : Array Value} (hb : Blk w M 80 cs) (hcs : cs.size = 3) (i t : Int) :
    Calls Try.prog 44 #[.pointer (some ⟨M, 0, none⟩), .int .i64 i, .int .i64 t] w fun r w' => r = .returned (.tuple #[]) ∧ LogIs w' M (.slice none 0 0) [] (Lg.new i t) ∧ Same (oneB M) w w' := by
  have HZ := Lib.hid (new_any w i t)
  have HB := Lib.hid hb
  clear hb
  go_enter Try.func44, Try.ntmps44
  go_wp2_with fail
  (with_reducible refine Calls.mono HZ.out ?_)
  rintro r W ⟨M2, rfl, hM, hl, hs⟩
  obtain ⟨d0, d1, d2⟩ := hl.cells
  have HB1 := Lib.hid (HB.out.same hs (fun x => x))
  have HB2 := Lib.hid (row_stored HB1.out #[.int .i64 (Lg.new i t).base, .int .i64 (Lg.new i t).term, .slice none 0 0])
  have HS2 := Lib.hid hs
  clear hs hl HZ HB hM
  go_wp2_with (refine wpList_store_row rfl 80 _ _ rfl M #[.int .i64 (Lg.new i t).base, .int .i64 (Lg.new i t).term, .slice none 0 0] rfl rfl 80 _ HB1.out (by kernel_rfl) hcs (by kernel_rfl) ?_)

  go_end0
  exact ⟨rfl, ⟨HB2.out.1, World.ownsRow_nil _ _ _ _, .nil⟩, HS2.out.of_no.trans' HB2.out.2⟩
end Go.Proofs.Ytlocfbjeljgblaa
