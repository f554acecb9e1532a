/- Layer 36: Compact of the program. (printed by genRepM.py) -/
import Derived.Test.YtlocfbjeljgblaaRepL
import Derived.Test.YtlocfbjeljgblaaLate
namespace Go.Proofs.Ytlocfbjeljgblaa
open Go Go.RowKit
set_option maxRecDepth 100000

theorem enl_cut {w : World} {bad : Nat → Prop} {A : Option Addr} {c a : Nat} {es : List En} {vs : List EnV} (h : EnL w bad (.slice A es.length c) es vs) (ha : a ≤ es.length) :
    EnL w bad (.slice (if c = a then A else A.map (·.add (a * 15))) (es.length - a) (c - a)) (es.drop a) (vs.drop a) := by
  refine ⟨?_, h.is.drop a⟩
  rw [List.length_drop]
  obtain ⟨A', c', e, hnc, hcm, hlen, hA, hp⟩ := h.rd
  injection e with e1 e2 e3
  subst e1 e3
  cases Nat.eq_zero_or_pos es.length with
  | inl h0 =>
    obtain rfl : a = 0 := by omega
    obtain rfl : es = [] := List.eq_nil_of_length_eq_zero h0
    refine ⟨_, _, rfl, by omega, by omega, by simp [ecells], fun h => ?_, fun h => absurd h (by simp)⟩
    split at h
    · omega
    · cases A with
      | none => have := hA rfl; omega
      | some a => cases h
  | inr h0 =>
    obtain ⟨b, o, rfl, r⟩ := h.rd.at_ h0
    have h1 := h.rd.cut (k := a) ha h0
    rw [ecells_drop _ _ ha] at h1
    have h2 : Option.map (fun x => x.add (a * 15)) (some (⟨b, o, none⟩ : Addr)) = some ⟨b, o + a * 15, none⟩ := by simp [Addr.add]
    rw [h2]
    exact h1
theorem slice_from {A : Option Addr} {n c a : Nat} (ha : a ≤ n) (wx : World) : (Instr.slice 27 (.slice A n c) (some (.int .i64 a)) none none).run Try.prog wx = .ok (.slice (if c = a then A else A.map (·.add (a * 15))) (n - a) (c - a)) wx := by
  rw [run_slice_l (P := Try.prog) (h0 := by omega) (h1 := by omega) (ht := rfl)]
  simp [sliced, go_sem]
def CmpS (M : Nat) (base : Int) (v : Value) (w' : World) : Prop := w'.cell? ⟨M, 0, none⟩ = some (.int .i64 base) ∧ w'.cell? ⟨M, 2, none⟩ = some v
set_option maxHeartbeats 8000000 in
theorem compact_core {w : World} {M n c n2 c2 : Nat} {A A2 : Option Addr} {base term i t ai : Int} {Q : World → Value → World → Prop}
    (hb : Blk w M 80 #[.int .i64 base, .int .i64 term, .slice A n c]) (hw : IntKind.i64.wrap (i - base) = ai)
    (hsl : ∀ wx, (Instr.slice 27 (.slice A n c) (some (.int .i64 ai)) none none).run Try.prog wx = .ok (.slice A2 n2 c2) wx)
    (HT : Hid (Calls Try.prog 18 #[.pointer (some ⟨M, 0, none⟩), .int .i64 i] w fun r w' => r = .returned (.tuple #[.int .i64 t, .bool true]) ∧ Same noB w w'))
    (HC : Hid (∀ W : World, Same noB w W → Calls Try.prog 53 #[.slice A2 n2 c2] W fun r w' => ∃ A3 n3 c3, r = .returned (.slice A3 n3 c3) ∧ Same noB W w' ∧ Q W (.slice A3 n3 c3) w')) :
    Calls Try.prog 25 #[.pointer (some ⟨M, 0, none⟩), .int .i64 i] w fun r w' => r = .returned (.int .i64 0) ∧ ∃ W W2 v3, Same noB w W ∧ Same noB W W2 ∧ Q W v3 W2 ∧ Same (oneB M) W2 w' ∧ Blk w' M 80 #[.int .i64 i, .int .i64 t, v3] := by
  have HB := Lib.hid hb
  clear hb
  go_enter Try.func25, Try.ntmps25
  go_wp2_with fail
  (with_reducible refine Calls.mono HT.out ?_)
  rintro r W1 ⟨rfl, hs1⟩
  have HS1 := Lib.hid hs1
  have HB1 := Lib.hid (HB.out.same hs1 (fun x => x))
  have d0 : W1.cell? ⟨M, 0, none⟩ = some (.int .i64 base) := HB1.out.cell 0
  have d2 : W1.cell? ⟨M, 2, none⟩ = some (.slice A n c) := HB1.out.cell 2
  clear hs1 HB HT
  go_wp2_with fail
  refine wp_region_T (S := CmpS M base (.slice A n c)) (late := fun j => [15].contains j) (by kernel_rfl) ?_ (fun hHeld => ?_)
  · exact ⟨d0, d2⟩
  refine T_pure (i := 0) (v := ?va0) rfl (by kernel_rfl) (by kernel_rfl) (by kernel_rfl) (fun _ _ _ h => h) (Or.inl ⟨?_, ?_⟩) ?_
  rotate_left 1
  · rfl
  · (intro w hSw; clear hSw; go_simp; (try with_reducible rfl))
  go_simp
  refine T_pure (i := 1) (v := ?va1) rfl (by kernel_rfl) (by kernel_rfl) (by kernel_rfl) (fun _ _ _ h => h) (Or.inl ⟨?_, ?_⟩) ?_
  rotate_left 1
  · rfl
  · (intro w hSw; clear hSw; go_simp; (try with_reducible rfl))
  go_simp
  refine T_pure (i := 2) (v := ?va2) rfl (by kernel_rfl) (by kernel_rfl) (by kernel_rfl) (fun _ _ _ h => h) (Or.inl ⟨?_, ?_⟩) ?_
  rotate_left 1
  · rfl
  · (intro w hSw; clear hSw; go_simp; (try with_reducible rfl))
  go_simp
  refine T_pure (i := 3) (v := ?va3) rfl (by kernel_rfl) (by kernel_rfl) (by kernel_rfl) (fun _ _ _ h => h) (Or.inl ⟨?_, ?_⟩) ?_
  rotate_left 1
  · rfl
  · (intro w hSw; clear hSw; go_simp; (try with_reducible rfl))
  go_simp
  refine T_take (i := 4) (v := ?va4) rfl (by kernel_rfl) (by kernel_rfl) (by kernel_rfl) (by kernel_rfl) (fun _ _ _ h => h) (Or.inl ⟨?_, ?_⟩) (by assumption) ?_
  rotate_left 1
  · rfl
  · (intro w hSw; unfold CmpS at hSw; go_simp; (try with_reducible rfl))
  go_simp
  refine T_pure (i := 5) (v := ?va5) rfl (by kernel_rfl) (by kernel_rfl) (by kernel_rfl) (fun _ _ _ h => h) (Or.inl ⟨?_, ?_⟩) ?_
  rotate_left 1
  · rfl
  · (intro w hSw; clear hSw; go_simp; (try with_reducible rfl))
  go_simp
  refine T_pure (i := 6) (v := ?va6) rfl (by kernel_rfl) (by kernel_rfl) (by kernel_rfl) (fun _ _ _ h => h) (Or.inl ⟨?_, ?_⟩) ?_
  rotate_left 1
  · rfl
  · (intro w hSw; clear hSw; go_simp; (try with_reducible rfl))
  go_simp
  refine T_pure (i := 7) (v := ?va7) rfl (by kernel_rfl) (by kernel_rfl) (by kernel_rfl) (fun _ _ _ h => h) (Or.inl ⟨?_, ?_⟩) ?_
  rotate_left 1
  · rfl
  · (intro w hSw; clear hSw; go_simp; (try with_reducible rfl))
  go_simp
  refine T_pure (i := 8) (v := ?va8) rfl (by kernel_rfl) (by kernel_rfl) (by kernel_rfl) (fun _ _ _ h => h) (Or.inl ⟨?_, ?_⟩) ?_
  rotate_left 1
  · rfl
  · (intro w hSw; clear hSw; go_simp; (try with_reducible rfl))
  go_simp
  refine T_take (i := 9) (v := ?va9) rfl (by kernel_rfl) (by kernel_rfl) (by kernel_rfl) (by kernel_rfl) (fun _ _ _ h => h) (Or.inl ⟨?_, ?_⟩) (by assumption) ?_
  rotate_left 1
  · rfl
  · (intro w hSw; unfold CmpS at hSw; go_simp; (try with_reducible rfl))
  go_simp
  refine T_pure (i := 10) (v := ?va10) rfl (by kernel_rfl) (by kernel_rfl) (by kernel_rfl) (fun _ _ _ h => h) (Or.inl ⟨?_, ?_⟩) ?_
  rotate_left 1
  · rfl
  · (intro w hSw; clear hSw; go_simp; (try with_reducible rfl))
  go_simp
  refine T_pure (i := 11) (v := ?va11) rfl (by kernel_rfl) (by kernel_rfl) (by kernel_rfl) (fun _ _ _ h => h) (Or.inl ⟨?_, ?_⟩) ?_
  rotate_left 1
  · rfl
  · (intro w hSw; clear hSw; go_simp; (try with_reducible rfl))
  go_simp
  refine T_ready (rs := [12]) (by kernel_rfl) (by simp) ?_
  refine ReadyT.early rfl (fun K hK => ?_) ReadyT.nil
  go_simp
  (with_reducible refine Calls.mono (HC.out _ (HS1.out.drew)) ?_)
  rintro r W2 ⟨A3, n3, c3, rfl, hs2, hq⟩
  have HS2 := Lib.hid hs2
  have HQ := Lib.hid hq
  have HB2 := Lib.hid (HB1.out.drew.same hs2 (fun x => x))
  replace d0 := hs2.cell (w := W1.drew) d0 (fun x => x)
  replace d2 := hs2.cell (w := W1.drew) d2 (fun x => x)
  have z0 := HB2.out.frozen 0
  have z1 := HB2.out.frozen 1
  have z2 := HB2.out.frozen 2
  have d1 : W2.cell? ⟨M, 1, none⟩ = some (.int .i64 term) := HB2.out.cell 1
  clear hs2 hq HC
  clear hHeld
  go_wp2_with fail
  refine hK.out _ _ ?_ (fun hHeld => ?_)
  · exact ⟨d0, d2⟩
  clear hK K
  refine T_pure (i := 13) (v := ?va13) rfl (by kernel_rfl) (by kernel_rfl) (by kernel_rfl) (fun _ _ _ h => h) (Or.inl ⟨?_, ?_⟩) ?_
  rotate_left 1
  · rfl
  · (intro w hSw; clear hSw; go_simp; (try with_reducible rfl))
  go_simp
  refine T_pure (i := 14) (v := ?va14) rfl (by kernel_rfl) (by kernel_rfl) (by kernel_rfl) (fun _ _ _ h => h) (Or.inl ⟨?_, ?_⟩) ?_
  rotate_left 1
  · rfl
  · (intro w hSw; clear hSw; go_simp; (try with_reducible rfl))
  go_simp
  refine T_ready (rs := [15]) (by kernel_rfl) (by simp) ?_
  refine ReadyT.behind rfl rfl (fun K hK => ?_) ReadyT.nil
  go_simp
  skip
  refine hK.out _ _ ?_
  clear hK K
  refine T_done (by kernel_rfl) ?_ _
  have HB5 := Lib.hid (((HB2.out.set_ 2 (.slice A3 n3 c3)).set_ 0 (.int .i64 i)).set_ 1 (.int .i64 t))
  have HS5 := Lib.hid ((((Same.refl (oneB M) W2).set1 2 (.slice A3 n3 c3)).set1 0 (.int .i64 i)).set1 1 (.int .i64 t))
  go_wp2_with fail
  go_ret
  exact ⟨rfl, W1.drew, W2, _, HS1.out.drew, HS2.out, HQ.out, HS5.out, HB5.out⟩
theorem compact_fail {w : World} {M : Nat} {i t : Int}
    (HT : Hid (Calls Try.prog 18 #[.pointer (some ⟨M, 0, none⟩), .int .i64 i] w fun r w' => r = .returned (.tuple #[.int .i64 t, .bool false]) ∧ Same noB w w')) :
    Calls Try.prog 25 #[.pointer (some ⟨M, 0, none⟩), .int .i64 i] w fun r w' => r = .returned (.int .i64 2) ∧ Same noB w w' := by
  go_enter Try.func25, Try.ntmps25
  go_wp2_with fail
  (with_reducible refine Calls.mono HT.out ?_)
  rintro r W1 ⟨rfl, hs1⟩
  have HS1 := Lib.hid hs1
  clear hs1 HT
  go_wp2_with fail
  go_ret
  exact ⟨rfl, HS1.out⟩
def Lg.compact (g : Lg) (i : Int) : Lg × Int := if (g.termAt i).2 then (⟨i, (g.termAt i).1, g.es.drop (i - g.base).toNat⟩, 0) else (g, 2)
/-- What a call has made of a log. -/
def LogTo (w w' : World) (M : Nat) (v : Value) (g : Lg) : Prop := ∃ v' es', LogIs w' M v' es' g ∧ Same (lgB M v) w w' ∧ ∀ b, v'.ownBlock = some b → v.ownBlock = some b ∨ w.heap.size ≤ b
theorem LogTo.same {w w' : World} {M : Nat} {v : Value} {es : List En} {g : Lg} (h : LogIs w M v es g) (hs : Same noB w w') : LogTo w w' M v g := ⟨v, es, h.keep hs, hs.of_no, fun _ hb => .inl hb⟩
theorem Lg.termAt_in {g : Lg} {i : Int} (h : (g.termAt i).2 = true) : g.base ≤ i ∧ i ≤ g.base + g.es.length := by
  unfold Lg.termAt at h
  by_cases h0 : i = g.base
  · omega
  · rw [if_neg h0] at h
    by_cases h1 : g.base < i ∧ i ≤ g.base + g.es.length
    · omega
    · rw [Lg.at_no h1] at h
      cases h
theorem compact_any {w : World} {M : Nat} {v : Value} {es : List En} {g : Lg} (h : LogIs w M v es g) (hf : g.Fit) {i : Int} (hi : inI64 i) :
    Calls Try.prog 25 #[.pointer (some ⟨M, 0, none⟩), .int .i64 i] w fun r w' => r = .returned (.int .i64 (g.compact i).2) ∧ LogTo w w' M v (g.compact i).1 := by
  have hT := term_any h hf hi
  unfold Lg.compact
  cases hq : (g.termAt i).2 with
  | false =>
    rw [hq] at hT
    refine (compact_fail (Lib.hid hT)).mono ?_
    rintro r w' ⟨rfl, hs⟩
    exact ⟨rfl, LogTo.same h hs⟩
  | true =>
    rw [hq] at hT
    obtain ⟨h1, h2⟩ := Lg.termAt_in hq
    obtain ⟨A, c, rfl, hc1, hc2⟩ := h.form
    have hl := h.len
    have hfl := hf.len
    have hlo := hf.lo
    have hhi := hf.hi
    obtain ⟨a, ha⟩ : ∃ a : Nat, i - g.base = (a : Int) := ⟨(i - g.base).toNat, by omega⟩
    have han : a ≤ es.length := by omega
    have hen := enl_cut h.enl han
    have hlen : (es.drop a).length = es.length - a := List.length_drop
    refine (compact_core (Q := fun W v3 w' => AppAt W w' v3 (es.length - a) 57 15 (ecells (es.drop a))) h.box (by rw [IntWalk.i64_in _ (by omega), ha]) (slice_from han) (Lib.hid hT) (Lib.hid fun W hs => (clone53_any (w := W) (hen.keep hs).rd (by omega)).mono (by
      rintro r w' ⟨A3, c3, rfl, ha3⟩
      rw [hlen] at ha3
      exact ⟨A3, _, c3, by rw [hlen], ha3.since, ha3⟩))).mono ?_
    rintro r w' ⟨rfl, W, W2, v3, hs1, hs2, hq3, hs3, hb⟩
    have hML := h.box.lt
    have hsz := hs1.size
    have hsz2 := hs2.size
    have hall : Same (oneB M) w w' := (hs1.of_no.trans' hs2.of_no).trans' hs3
    have hv3 : ∀ b, v3.ownBlock = some b → w.heap.size ≤ b := fun b hb => Nat.le_trans hsz (hq3.new b hb)
    refine ⟨rfl, v3, es.drop a, ⟨?_, ?_, ?_⟩, hall.mono (fun b _ hb => .inl hb), fun b hb => .inr (hv3 b hb)⟩
    · exact hb
    · rw [hlen]
      exact own_same hq3.own hs3 (fun b hb hx => by have h3 : b = M := hx; have := hv3 b hb; omega)
    · have : (i - g.base).toNat = a := by omega
      show All2 _ _ (g.es.drop (i - g.base).toNat)
      rw [this]
      refine (h.is.drop a).imp fun x y hxy => hxy.same hall (fun b _ hb => .inl hb) (fun b hb hx => ?_)
      rcases hx with hx | hx
      · exact .inl hx
      · have := hv3 b hx.symm
        omega
end Go.Proofs.Ytlocfbjeljgblaa
