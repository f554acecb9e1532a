/- Layer 36: Compact of the reference. -/
import Derived.Test.YtlocfbjeljgblaaRepM
namespace Go.Proofs.Ytlocfbjeljgblaa
open Go Go.RowKit
set_option maxRecDepth 100000

theorem row29_one (b t : Int) (A : Option Addr) (n c : Nat) : (#[Value.int .i64 b, .int .i64 t, .slice A n c]).all (·.oneCell') = true := by kernel_rfl
set_option maxHeartbeats 8000000 in
theorem rcompact_yes {w : World} {bad : Nat → Prop} {n c n2 c2 : Nat} {A A2 : Option Addr} {base term i t ai : Int} {xs : List Value}
    (hw : IntKind.i64.wrap (i - base) = ai)
    (hsl : ∀ wx, (Instr.slice 27 (.slice A n c) (some (.int .i64 ai)) none none).run Try.prog wx = .ok (.slice A2 n2 c2) wx)
    (HR : Hid (∀ W : World, Same noB w W → Rd W bad 15 (.slice A2 n2 c2) n2 xs)) (hone : ∀ u ∈ xs, u.oneCell' = true) (hn2 : n2 ≤ 100000)
    (HT : Hid (∀ W : World, Same noB w W → Calls Try.prog 28 #[.agg #[.int .i64 base, .int .i64 term, .slice A n c], .int .i64 i] W fun r w' => r = .returned (.tuple #[.int .i64 t, .bool true]) ∧ Same noB W w')) :
    Calls Try.prog 43 #[.agg #[.int .i64 base, .int .i64 term, .slice A n c], .int .i64 i] w fun r w' => ∃ A3 c3, r = .returned (.tuple #[.agg #[.int .i64 i, .int .i64 t, .slice A3 n2 c3], .int .i64 0]) ∧ AppAt w w' (.slice A3 n2 c3) n2 57 15 xs := by
  have HONE := Lib.hid hone
  clear hone
  go_enter Try.func43, Try.ntmps43
  go_upto_region 1 with (fail)
  refine wp_abs (fun W => W.cell? ⟨w.heap.size, 0, none⟩ = some (.int .i64 base) ∧ W.cell? ⟨w.heap.size, 1, none⟩ = some (.int .i64 term) ∧ W.cell? ⟨w.heap.size, 2, none⟩ = some (.slice A n c) ∧ Hid (Blk W w.heap.size 29 #[.int .i64 base, .int .i64 term, .slice A n c]) ∧ Hid (Blk W (w.heap.size + 1) 29 #[.int .i64 0, .int .i64 0, .slice none 0 0]) ∧ Hid (Same noB w W)) ⟨by go_simp, by go_simp, by go_simp, (Blk.new w 29 _).alloc _, by have := Blk.new (w.alloc (.cells #[.int .i64 base, .int .i64 term, .slice A n c] 29)) 29 #[.int .i64 0, .int .i64 0, .slice none 0 0]; rw [World.size_alloc] at this; exact this, ((Same.refl _ _).alloc _).alloc _⟩ ?_
  rintro W ⟨d0, d1, d2, HN, HB, HS⟩
  obtain ⟨N, hN⟩ : ∃ N, w.heap.size = N := ⟨_, rfl⟩
  rw [hN] at d0 d1 d2 HN HB ⊢
  go_wp2_with fail
  (with_reducible refine Calls.mono (HT.out W HS.out) ?_)
  rintro r W2 ⟨rfl, hs2⟩
  replace d0 := hs2.cell d0 (fun x => x)
  replace d1 := hs2.cell d1 (fun x => x)
  replace d2 := hs2.cell d2 (fun x => x)
  have HN2 := Lib.hid (HN.out.same hs2 (fun x => x))
  have HB2 := Lib.hid (HB.out.same hs2 (fun x => x))
  have HS2 := Lib.hid (HS.out.trans' hs2)
  have e0 : (W2.alloc (.cells #[] 57)).cell? ⟨N, 0, none⟩ = some (.int .i64 base) := (HN2.out.alloc _).cell 0
  have e2 : (W2.alloc (.cells #[] 57)).cell? ⟨N, 2, none⟩ = some (.slice A n c) := (HN2.out.alloc _).cell 2
  have hne : W2.heap.size ≠ N := by have := HN2.out.lt; omega
  clear hs2 HT HN HB HS
  go_upto_region 6 with (at_builtin; refine wpL_app slE rfl _ _ rfl rfl (own_lit W2 57 15) rfl (HR.out _ (HS2.out.alloc _)) HONE.out (by omega) (Nat.zero_le _) ?_; intro A3 c3 W3 hown3 hgrow3 hat3 _; rw [Nat.zero_add, List.nil_append] at hown3; have HA := Lib.hid ((AppAt.lit W2 57 15).next hgrow3 (by rw [Nat.zero_add] at hat3; exact hat3) hown3); have HN3 := Lib.hid (HN2.out.same HA.out.since (fun x => x)); have f0 := HN3.out.frozen 0; have f1 := HN3.out.frozen 1; have f2 := HN3.out.frozen 2; have g0 : W3.cell? ⟨N, 0, none⟩ = some (.int .i64 base) := HN3.out.cell 0; have g1 : W3.cell? ⟨N, 1, none⟩ = some (.int .i64 term) := HN3.out.cell 1; have g2 : W3.cell? ⟨N, 2, none⟩ = some (.slice A n c) := HN3.out.cell 2; clear hown3 hgrow3 hat3 d0 d1 d2 e0 e2)
  refine wp_abs (fun W6 => W6.cell? ⟨N, 0, none⟩ = some (.int .i64 i) ∧ W6.cell? ⟨N, 1, none⟩ = some (.int .i64 t) ∧ W6.cell? ⟨N, 2, none⟩ = some (.slice A3 n2 c3) ∧ Hid (Blk W6 (N + 1) 29 #[.int .i64 0, .int .i64 0, .slice none 0 0]) ∧ Hid (AppAt w W6 (.slice A3 n2 c3) n2 57 15 xs ∧ ∀ b, (Value.slice A3 n2 c3).ownBlock = some b → N + 1 < b)) ?_ ?_
  · have hb := ((HN3.out.set_ 2 (.slice A3 n2 c3)).set_ 0 (.int .i64 i)).set_ 1 (.int .i64 t)
    have hs := (((Same.refl (oneB N) W3).set1 2 (.slice A3 n2 c3)).set1 0 (.int .i64 i)).set1 1 (.int .i64 t)
    have hl := HN2.out.lt
    refine ⟨hb.cell 0, hb.cell 1, hb.cell 2, (HB2.out.same HA.out.since (fun x => x)).same hs (fun e => by have h3 : N + 1 = N := e; omega), ⟨⟨own_same HA.out.own hs (fun b hb hx => by have h3 : b = N := hx; have := HA.out.new b hb; omega), fun b hb => Nat.le_trans HS2.out.size (HA.out.new b hb), ?_⟩, fun b hb => by have := HA.out.new b hb; have := HB2.out.lt; omega⟩⟩
    exact (HS2.out.trans' HA.out.since).trans hs (fun b hb hx => by have h3 : b = N := hx; omega)
  · rintro W6 ⟨d0, d1, d2, HB6, HA6⟩
    have HB7 := Lib.hid (row_stored HB6.out #[.int .i64 i, .int .i64 t, .slice A3 n2 c3])
    go_wp2_with (refine wpList_store_row rfl 29 _ _ rfl (N + 1) #[.int .i64 i, .int .i64 t, .slice A3 n2 c3] rfl rfl 29 _ HB6.out (by kernel_rfl) rfl (row29_one i t A3 n2 c3) ?_)
    (try simp only [Exit.inBlock, Exit.then])
    refine bodyPost_ret (res_ct rfl HB7.out.1 rfl rfl) rfl ?_
    refine ⟨A3, c3, rfl, own_same HA6.out.1.own HB7.out.2 (fun b hb hx => by have h3 : b = N + 1 := hx; have := HA6.out.2 b hb; omega), HA6.out.1.new, HA6.out.1.since.trans HB7.out.2 (fun b hb hx => by have h3 : b = N + 1 := hx; omega)⟩
set_option maxHeartbeats 8000000 in
theorem rcompact_no {w : World} {n c : Nat} {A : Option Addr} {base term i t : Int}
    (HT : Hid (∀ W : World, Same noB w W → Calls Try.prog 28 #[.agg #[.int .i64 base, .int .i64 term, .slice A n c], .int .i64 i] W fun r w' => r = .returned (.tuple #[.int .i64 t, .bool false]) ∧ Same noB W w')) :
    Calls Try.prog 43 #[.agg #[.int .i64 base, .int .i64 term, .slice A n c], .int .i64 i] w fun r w' => r = .returned (.tuple #[.agg #[.int .i64 base, .int .i64 term, .slice A n c], .int .i64 2]) ∧ Same noB w w' := by
  go_enter Try.func43, Try.ntmps43
  go_upto_region 1 with (fail)
  refine wp_abs (fun W => W.cell? ⟨w.heap.size, 0, none⟩ = some (.int .i64 base) ∧ W.cell? ⟨w.heap.size, 1, none⟩ = some (.int .i64 term) ∧ W.cell? ⟨w.heap.size, 2, none⟩ = some (.slice A n c) ∧ Hid (Blk W (w.heap.size + 1) 29 #[.int .i64 0, .int .i64 0, .slice none 0 0]) ∧ Hid (Same noB w W)) ⟨by go_simp, by go_simp, by go_simp, by have := Blk.new (w.alloc (.cells #[.int .i64 base, .int .i64 term, .slice A n c] 29)) 29 #[.int .i64 0, .int .i64 0, .slice none 0 0]; rw [World.size_alloc] at this; exact this, ((Same.refl _ _).alloc _).alloc _⟩ ?_
  rintro W ⟨d0, d1, d2, HB, HS⟩
  obtain ⟨N, hN⟩ : ∃ N, w.heap.size = N := ⟨_, rfl⟩
  rw [hN] at d0 d1 d2 HB ⊢
  go_wp2_with fail
  (with_reducible refine Calls.mono (HT.out W HS.out) ?_)
  rintro r W2 ⟨rfl, hs2⟩
  replace d0 := hs2.cell d0 (fun x => x)
  replace d1 := hs2.cell d1 (fun x => x)
  replace d2 := hs2.cell d2 (fun x => x)
  have HB2 := Lib.hid (HB.out.same hs2 (fun x => x))
  have HS2 := Lib.hid (HS.out.trans' hs2)
  clear hs2 HT HB HS
  have HB7 := Lib.hid (row_stored HB2.out #[.int .i64 base, .int .i64 term, .slice A n c])
  go_wp2_with (refine wpList_store_row rfl 29 _ _ rfl (N + 1) #[.int .i64 base, .int .i64 term, .slice A n c] rfl rfl 29 _ HB2.out (by kernel_rfl) rfl (row29_one base term A n c) ?_)
  (try simp only [Exit.inBlock, Exit.then])
  refine bodyPost_ret (res_ct rfl HB7.out.1 rfl rfl) rfl ?_
  exact ⟨rfl, HS2.out.trans HB7.out.2 (fun b hb hx => by have h3 : b = N + 1 := hx; omega)⟩
theorem rcompact_any {w : World} {bad : Nat → Prop} (hbad : ∀ b, bad b → b < w.heap.size) {v : Value} {es : List En} {g : Lg} (h : EnL w bad v es g.es) (hf : g.Fit) {i : Int} (hi : inI64 i) :
    Calls Try.prog 43 #[.agg #[.int .i64 g.base, .int .i64 g.term, v], .int .i64 i] w fun r w' => ∃ v' es', r = .returned (.tuple #[.agg #[.int .i64 (g.compact i).1.base, .int .i64 (g.compact i).1.term, v'], .int .i64 (g.compact i).2]) ∧ EnL w' bad v' es' (g.compact i).1.es ∧ Same noB w w' := by
  have hT := fun (W : World) (hs : Same noB w W) => rterm_any (h.keep hs) hf hi
  obtain ⟨A, c, rfl, hc1, hc2, hr⟩ := h.rd.form
  unfold Lg.compact
  cases hq : (g.termAt i).2 with
  | false =>
    rw [hq] at hT
    refine (rcompact_no (Lib.hid hT)).mono ?_
    rintro r w' ⟨rfl, hs⟩
    exact ⟨_, es, rfl, h.keep hs, hs⟩
  | true =>
    rw [hq] at hT
    obtain ⟨h1, h2⟩ := Lg.termAt_in hq
    have hl := h.len
    have hfl := hf.len
    have hlo := hf.lo
    have hhi := hf.hi
    obtain ⟨a, ha⟩ : ∃ a : Nat, i - g.base = (a : Int) := ⟨(i - g.base).toNat, by omega⟩
    have han : a ≤ es.length := by omega
    have hen := enl_cut h han
    have hlen : (es.drop a).length = es.length - a := List.length_drop
    have hrd := hen.rd
    rw [hlen] at hrd
    refine (rcompact_yes (bad := bad) (by rw [IntWalk.i64_in _ (by omega), ha]) (slice_from han) (Lib.hid fun W hs => hrd.keep hs) (ecells_one _) (by omega) (Lib.hid hT)).mono ?_
    rintro r w' ⟨A3, c3, rfl, hA⟩
    have hta : (i - g.base).toNat = a := by omega
    refine ⟨_, es.drop a, rfl, ⟨?_, ?_⟩, hA.since⟩
    · rw [hlen]
      exact hA.rd hbad
    · show All2 _ _ (g.es.drop (i - g.base).toNat)
      rw [hta]
      exact (hen.keep hA.since).is
end Go.Proofs.Ytlocfbjeljgblaa
