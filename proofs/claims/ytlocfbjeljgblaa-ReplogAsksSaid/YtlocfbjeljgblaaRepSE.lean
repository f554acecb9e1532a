/- Layer 36: the law's step, kinds 2 (compact), 3 (reset) and others. (printed by genRepSE.py) -/
import Derived.Test.YtlocfbjeljgblaaRepSC
namespace Go.Proofs.Ytlocfbjeljgblaa
open Go Go.RowKit
set_option maxRecDepth 100000

set_option maxHeartbeats 8000000 in
theorem step_core2 {B : Nat → Prop} {w : World} {M ln lc xn xc : Nat} {v : Value} {es ls xes : List En} {g : Lg} {ys : List EnV} {L XA : Option Addr} {aa bb : Int} {ff : Bool} (h : StO B w M v es (.slice L ln lc) ls g (.slice XA xn xc) xes ys) {g2 : Lg} {f2 : Int}
    (H43 : Hid (∀ (B' : Nat → Prop) (W : World), StO B' W M v es (.slice L ln lc) ls g (.slice XA xn xc) xes ys → Calls Try.prog 43 #[.agg #[.int .i64 g.base, .int .i64 g.term, .slice L ln lc], .int .i64 aa] W fun r w' => ∃ A n c ls', r = .returned (.tuple #[.agg #[.int .i64 g2.base, .int .i64 g2.term, .slice A n c], .int .i64 f2]) ∧ EnL w' (bd B' M v) (.slice A n c) ls' g2.es ∧ Same noB W w'))
    (H25 : Hid (∀ (B' : Nat → Prop) (W : World), StO B' W M v es (.slice L ln lc) ls g (.slice XA xn xc) xes ys → Calls Try.prog 25 #[.pointer (some ⟨M, 0, none⟩), .int .i64 aa] W fun r w' => r = .returned (.int .i64 f2) ∧ LogToB W w' M v es g g2)) :
    Calls Try.prog 14 #[.pointer (some ⟨M, 0, none⟩), .agg #[.int .i64 g.base, .int .i64 g.term, .slice L ln lc], .agg #[.int .i64 2, .int .i64 aa, .int .i64 bb, .bool ff, .slice XA xn xc]] w (StepTo B w M v g2) := by
  go_enter Try.func14, Try.ntmps14
  go_upto_region 1 with (fail)
  refine wp_abs (fun W => W.cell? ⟨w.heap.size + 1, 0, none⟩ = some (.int .i64 2) ∧ Hid (StX noB w W w.heap.size g.base g.term (.slice L ln lc) 2 aa bb ff (.slice XA xn xc))) ⟨(StX.start w g.base g.term (.slice L ln lc) 2 aa bb ff (.slice XA xn xc)).op.cell 0, StX.start w g.base g.term (.slice L ln lc) 2 aa bb ff (.slice XA xn xc)⟩ ?_
  rintro W0 ⟨k0, HX⟩
  have hlN := h.st.lgN (N := w.heap.size) rfl
  have HT := Lib.hid (h.more (B' := b2 B w.heap.size w.heap.size) HX.out.since (fun b hb => hb.elim .inl (fun hb => .inr (b2_in HX.out.rs.lt hb))))
  have HLN := Lib.hid hlN
  clear hlN
  obtain ⟨N, hN⟩ : ∃ N, w.heap.size = N := ⟨_, rfl⟩
  rw [hN] at k0 HX HT HLN ⊢
  clear h
  obtain ⟨d0, d1, d2, _, k1, _, _, _⟩ := HX.out.s
  go_wp2_with fail
  (with_reducible refine Calls.mono (H43.out _ W0 HT.out) ?_)
  rintro r W1 ⟨A3, n3, c3, ls3, rfl, he, hs1⟩
  replace HX := Lib.hid (HX.out.keep hs1)
  replace HT := Lib.hid (HT.out.keep hs1)
  have HE := Lib.hid he
  clear he hs1 d0 d1 d2 k0 k1 H43
  have HR := Lib.hid (row_stored (Blk.new W1 29 #[.int .i64 0, .int .i64 0, .slice none 0 0]) #[.int .i64 g2.base, .int .i64 g2.term, .slice A3 n3 c3])
  have hal := (Same.refl noB W1).alloc (.cells #[.int .i64 0, .int .i64 0, .slice none 0 0] 29)
  have HT1 := Lib.hid (HT.out.more (B' := b2 B N W1.heap.size) hal (fun b hb => b2_new hb))
  have HE1 := Lib.hid (HE.out.same (bad' := bd (b2 B N W1.heap.size) M v) hal (fun _ _ x => x.elim) (fun b hb hx => bd_new hb hx))
  have HX1 := Lib.hid (HX.out.keep hal)
  have hvn : N + 1 + 1 < W1.heap.size := HX.out.rs.lt
  go_upto_region 11 with (refine wpList_store_row rfl 29 _ _ rfl W1.heap.size #[.int .i64 g2.base, .int .i64 g2.term, .slice A3 n3 c3] rfl rfl 29 _ (Blk.new W1 29 #[.int .i64 0, .int .i64 0, .slice none 0 0]) (by kernel_rfl) rfl (row29_one g2.base g2.term A3 n3 c3) ?_)
  refine wp_abs (fun W => Hid (Blk W W1.heap.size 29 #[.int .i64 g2.base, .int .i64 g2.term, .slice A3 n3 c3]) ∧ Hid (StX noB w W N g.base g.term (.slice L ln lc) 2 aa bb ff (.slice XA xn xc)) ∧ Hid (StO (b2 B N W1.heap.size) W M v es (.slice L ln lc) ls g (.slice XA xn xc) xes ys) ∧ Hid (EnL W (bd (b2 B N W1.heap.size) M v) (.slice A3 n3 c3) ls3 g2.es)) ⟨HR.out.1, HX1.out.one HR.out.2 hvn, HT1.out.put HR.out.2 (fun b e => .inr (.inr e)), HE1.out.same HR.out.2 (fun b _ e => .inr (.inr (.inr e))) (fun _ _ x => x)⟩ ?_
  clear HR hal HT1 HE1 HX1 HX HT HE
  rintro W ⟨HV, HX, HT, HE⟩
  have HVN := Lib.hid hvn
  clear hvn
  obtain ⟨V, hVe⟩ : ∃ Vx, W1.heap.size = Vx := ⟨_, rfl⟩
  rw [hVe] at HV HT HE HVN ⊢
  clear hVe
  replace HX := Lib.hid HX.out.drew
  replace HV := Lib.hid HV.out.drew
  replace HT := Lib.hid (HT.out.keep (Same.refl noB W).drew)
  replace HE := Lib.hid (HE.out.keep (Same.refl noB W).drew)
  refine wp_region_T (S := StV N V g2.base g2.term (.slice A3 n3 c3) 2 aa bb ff (.slice XA xn xc)) (late := fun j => [].contains j) (by kernel_rfl) ?_ (fun hHeld => ?_)
  · exact HX.out.sv HV.out
  obtain ⟨Wb, hWd⟩ : ∃ Wx, W.drew = Wx := ⟨_, rfl⟩
  rw [hWd] at hHeld HX HT HV HE ⊢
  clear hWd
  refine T_take (i := 0) (v := ?vb1) rfl (by kernel_rfl) (by kernel_rfl) (by kernel_rfl) (by kernel_rfl) (fun _ _ _ h => h) (Or.inl ⟨?_, ?_⟩) (by assumption) ?_
  rotate_left 1
  · rfl
  · (intro w hSw; unfold StV at hSw; go_simp; (try with_reducible rfl))
  go_simp
  refine T_pure (i := 1) (v := ?vb2) rfl (by kernel_rfl) (by kernel_rfl) (by kernel_rfl) (fun _ _ _ h => h) (Or.inl ⟨?_, ?_⟩) ?_
  rotate_left 1
  · rfl
  · (intro w hSw; clear hSw; go_simp; (try with_reducible rfl))
  go_simp
  refine T_pure (i := 2) (v := ?vb3) rfl (by kernel_rfl) (by kernel_rfl) (by kernel_rfl) (fun _ _ _ h => h) (Or.inl ⟨?_, ?_⟩) ?_
  rotate_left 1
  · rfl
  · (intro w hSw; clear hSw; go_simp; (try with_reducible rfl))
  go_simp
  refine T_take (i := 3) (v := ?vb4) rfl (by kernel_rfl) (by kernel_rfl) (by kernel_rfl) (by kernel_rfl) (fun _ _ _ h => h) (Or.inl ⟨?_, ?_⟩) (by assumption) ?_
  rotate_left 1
  · rfl
  · (intro w hSw; unfold StV at hSw; go_simp; (try with_reducible rfl))
  go_simp
  refine T_pure (i := 5) (v := ?vb5) rfl (by kernel_rfl) (by kernel_rfl) (by kernel_rfl) (fun _ _ _ h => h) (Or.inl ⟨?_, ?_⟩) ?_
  rotate_left 1
  · rfl
  · (intro w hSw; clear hSw; go_simp; (try with_reducible rfl))
  go_simp
  refine T_ready (rs := [4]) (by kernel_rfl) (by simp) ?_
  refine ReadyT.early rfl (fun K hK => ?_) ReadyT.nil
  go_simp
  (with_reducible refine Calls.mono (H25.out _ (Wb) HT.out) ?_)
  rintro r Wn1 ⟨rfl, hl2⟩
  have hsz : w.heap.size ≤ (Wb).heap.size := HX.out.since.size
  obtain ⟨v2, es2, ht2, hsl, hob⟩ := HT.out.st.step hl2 (Same.refl noB _) HE.out
  replace HX := Lib.hid (HX.out.logs hsl HLN.out)
  replace HV := Lib.hid (HV.out.same hsl (fun x => by have := HLN.out _ x; have := HVN.out; omega))
  replace HT := Lib.hid (And.intro ht2 hob)
  clear ht2 hsl hob hl2 HE
  clear hHeld
  go_wp2_with fail
  refine hK.out _ _ ?_ (fun hHeld => ?_)
  · exact HX.out.sv HV.out
  clear hK K
  refine T_pure (i := 6) (v := ?vb6) rfl (by kernel_rfl) (by kernel_rfl) (by kernel_rfl) (fun _ _ _ h => h) (Or.inl ⟨?_, ?_⟩) ?_
  rotate_left 1
  · rfl
  · (intro w hSw; clear hSw; go_simp; (try with_reducible rfl))
  go_simp
  refine T_ready (rs := [7]) (by kernel_rfl) (by simp) ?_
  refine ReadyT.early rfl (fun K hK => ?_) ReadyT.nil
  have z0 := HX.out.rs.frozen 0
  have z1 := HX.out.rs.frozen 1
  have z2 := HX.out.rs.frozen 2
  have y0 : (Wn1).cell? ⟨N + 1 + 1, 0, none⟩ = some (.int .i64 0) := HX.out.rs.cell 0
  have y1 : (Wn1).cell? ⟨N + 1 + 1, 1, none⟩ = some (.int .i64 0) := HX.out.rs.cell 1
  have y2 : (Wn1).cell? ⟨N + 1 + 1, 2, none⟩ = some (.slice none 0 0) := HX.out.rs.cell 2
  have HB8 := Lib.hid (((HX.out.rs.set_ 0 (.int .i64 g2.base)).set_ 1 (.int .i64 g2.term)).set_ 2 (.slice A3 n3 c3))
  have HS8 := Lib.hid ((((Same.refl (oneB (N + 1 + 1)) (Wn1)).set1 0 (.int .i64 g2.base)).set1 1 (.int .i64 g2.term)).set1 2 (.slice A3 n3 c3))
  have HQ := Lib.hid (StX.tail HX.out HV.out HVN.out HS8.out)
  have HT8 := Lib.hid ((HT.out.1.put HS8.out (fun b e => .inr (.inl (b2_rs e)))).less (B' := B) (fun b hb => .inl hb))
  go_simp
  refine hK.out _ _ ?_ (fun hHeld => ?_)
  · exact HQ.out
  clear hK K z0 z1 z2 y0 y1 y2
  refine T_pure (i := 8) (v := ?vb7) rfl (by kernel_rfl) (by kernel_rfl) (by kernel_rfl) (fun _ _ _ h => h) (Or.inl ⟨?_, ?_⟩) ?_
  rotate_left 1
  · rfl
  · (intro w hSw; clear hSw; go_simp; (try with_reducible rfl))
  go_simp
  refine T_done (by kernel_rfl) ?_ _
  go_wp2_with fail
  (try simp only [Exit.inBlock, Exit.then])
  refine bodyPost_ret (res_ct rfl HB8.out rfl rfl) rfl ?_
  exact ⟨v2, es2, A3, n3, c3, ls3, rfl, HT8.out, HX.out.since.trans HS8.out (fun b hb e => by have h3 : b = N + 1 + 1 := e; have := HX.out.at_; omega), fun b hb => (HT.out.2 b hb).imp id (fun x => Nat.le_trans hsz x)⟩

set_option maxHeartbeats 8000000 in
theorem step_core3 {B : Nat → Prop} {w : World} {M ln lc xn xc : Nat} {v : Value} {es ls xes : List En} {g : Lg} {ys : List EnV} {L XA : Option Addr} {aa bb : Int} {ff : Bool} (h : StO B w M v es (.slice L ln lc) ls g (.slice XA xn xc) xes ys) :
    Calls Try.prog 14 #[.pointer (some ⟨M, 0, none⟩), .agg #[.int .i64 g.base, .int .i64 g.term, .slice L ln lc], .agg #[.int .i64 3, .int .i64 aa, .int .i64 bb, .bool ff, .slice XA xn xc]] w (StepTo B w M v (Lg.new aa bb)) := by
  go_enter Try.func14, Try.ntmps14
  go_upto_region 1 with (fail)
  refine wp_abs (fun W => W.cell? ⟨w.heap.size + 1, 0, none⟩ = some (.int .i64 3) ∧ Hid (StX noB w W w.heap.size g.base g.term (.slice L ln lc) 3 aa bb ff (.slice XA xn xc))) ⟨(StX.start w g.base g.term (.slice L ln lc) 3 aa bb ff (.slice XA xn xc)).op.cell 0, StX.start w g.base g.term (.slice L ln lc) 3 aa bb ff (.slice XA xn xc)⟩ ?_
  rintro W0 ⟨k0, HX⟩
  have hlN := h.st.lgN (N := w.heap.size) rfl
  have HT := Lib.hid (h.more (B' := b2 B w.heap.size w.heap.size) HX.out.since (fun b hb => hb.elim .inl (fun hb => .inr (b2_in HX.out.rs.lt hb))))
  have HLN := Lib.hid hlN
  clear hlN
  obtain ⟨N, hN⟩ : ∃ N, w.heap.size = N := ⟨_, rfl⟩
  rw [hN] at k0 HX HT HLN ⊢
  clear h
  obtain ⟨_, _, _, _, k1, k2, _, _⟩ := HX.out.s
  go_wp2_with fail
  (with_reducible refine Calls.mono (reset_any HT.out.st.log.box rfl aa bb) ?_)
  rintro r W1 ⟨rfl, hl2, hs2⟩
  have HT2 : Hid (St (b2 B N N) W1 M (.slice none 0 0) [] (.slice none 0 0) [] (Lg.new aa bb)) := ⟨hl2, .nil, ⟨Rd.nil_ _ _ _, .nil⟩, fun b hb => ⟨by have := (HT.out.st.old b hb).1; have := hs2.size; omega, fun e => by
    rcases e with e | e
    · exact (HT.out.st.old b hb).2 (.inl e)
    · simp [Value.ownBlock] at e⟩⟩
  replace HX := Lib.hid (HX.out.logs (hs2.mono (S' := lgB M v) (fun b _ e => .inl e)) HLN.out)
  clear hl2 hs2 HT k0 k1 k2
  obtain ⟨_, _, _, _, k1, k2, _, _⟩ := HX.out.s
  go_wp2_with fail
  (with_reducible refine Calls.mono (rnew_any W1 aa bb) ?_)
  rintro r W2 ⟨rfl, hs1⟩
  replace HX := Lib.hid (HX.out.keep hs1)
  replace HT2 := Lib.hid (HT2.out.keep hs1)
  clear hs1 k1 k2
  have HB8 := Lib.hid (row_stored HX.out.rs #[.int .i64 (Lg.new aa bb).base, .int .i64 (Lg.new aa bb).term, .slice none 0 0])
  have HT8 := Lib.hid ((HT2.out.put HB8.out.2 (fun b e => .inr (.inl (b2_rs e)))).less (B' := B) (fun b hb => .inl hb))
  go_wp2_with (refine wpList_store_row rfl 29 _ _ rfl (N + 1 + 1) #[.int .i64 (Lg.new aa bb).base, .int .i64 (Lg.new aa bb).term, .slice none 0 0] rfl rfl 29 _ HX.out.rs (by kernel_rfl) rfl (row29_one (Lg.new aa bb).base (Lg.new aa bb).term none 0 0) ?_)
  (try simp only [Exit.inBlock, Exit.then])
  refine bodyPost_ret (res_ct rfl HB8.out.1 rfl rfl) rfl ?_
  exact ⟨_, _, _, _, _, _, rfl, HT8.out, HX.out.since.trans HB8.out.2 (fun b hb e => by have h3 : b = N + 1 + 1 := e; have := HX.out.at_; omega), fun b hb => by simp [Value.ownBlock] at hb⟩
set_option maxHeartbeats 8000000 in
theorem step_core4 {B : Nat → Prop} {w : World} {M ln lc xn xc : Nat} {v : Value} {es ls xes : List En} {g : Lg} {ys : List EnV} {L XA : Option Addr} {aa bb : Int} {ff : Bool} (h : StO B w M v es (.slice L ln lc) ls g (.slice XA xn xc) xes ys) {kk : Int} (h0 : kk ≠ 0) (h1 : kk ≠ 1) (h2 : kk ≠ 2) (h3 : kk ≠ 3) :
    Calls Try.prog 14 #[.pointer (some ⟨M, 0, none⟩), .agg #[.int .i64 g.base, .int .i64 g.term, .slice L ln lc], .agg #[.int .i64 kk, .int .i64 aa, .int .i64 bb, .bool ff, .slice XA xn xc]] w (StepTo B w M v g) := by
  have e0 : (kk == 0) = false := beq_eq_false_iff_ne.2 h0
  have e1 : (kk == 1) = false := beq_eq_false_iff_ne.2 h1
  have e2 : (kk == 2) = false := beq_eq_false_iff_ne.2 h2
  have e3 : (kk == 3) = false := beq_eq_false_iff_ne.2 h3
  go_enter Try.func14, Try.ntmps14
  go_upto_region 1 with (fail)
  refine wp_abs (fun W => W.cell? ⟨w.heap.size + 1, 0, none⟩ = some (.int .i64 kk) ∧ Hid (StX noB w W w.heap.size g.base g.term (.slice L ln lc) kk aa bb ff (.slice XA xn xc))) ⟨(StX.start w g.base g.term (.slice L ln lc) kk aa bb ff (.slice XA xn xc)).op.cell 0, StX.start w g.base g.term (.slice L ln lc) kk aa bb ff (.slice XA xn xc)⟩ ?_
  rintro W0 ⟨k0, HX⟩
  have hlN := h.st.lgN (N := w.heap.size) rfl
  have HT := Lib.hid (h.more (B' := b2 B w.heap.size w.heap.size) HX.out.since (fun b hb => hb.elim .inl (fun hb => .inr (b2_in HX.out.rs.lt hb))))
  have HLN := Lib.hid hlN
  clear hlN
  obtain ⟨N, hN⟩ : ∃ N, w.heap.size = N := ⟨_, rfl⟩
  rw [hN] at k0 HX HT HLN ⊢
  clear h
  obtain ⟨d0, d1, d2, _, _, _, _, _⟩ := HX.out.s
  have HB8 := Lib.hid (row_stored HX.out.rs #[.int .i64 g.base, .int .i64 g.term, .slice L ln lc])
  have HT8 := Lib.hid ((HT.out.st.put HB8.out.2 (fun b e => .inr (.inl (b2_rs e)))).less (B' := B) (fun b hb => .inl hb))
  go_wp2_with (refine wpList_store_row rfl 29 _ _ rfl (N + 1 + 1) #[.int .i64 g.base, .int .i64 g.term, .slice L ln lc] rfl rfl 29 _ HX.out.rs (by kernel_rfl) rfl (row29_one g.base g.term L ln lc) ?_)
  (try simp only [Exit.inBlock, Exit.then])
  refine bodyPost_ret (res_ct rfl HB8.out.1 rfl rfl) rfl ?_
  exact ⟨v, es, L, ln, lc, ls, rfl, HT8.out, HX.out.since.of_no.trans HB8.out.2 (fun b hb e => by have h3 : b = N + 1 + 1 := e; have := HX.out.at_; omega), fun b hb => .inl hb⟩
end Go.Proofs.Ytlocfbjeljgblaa
