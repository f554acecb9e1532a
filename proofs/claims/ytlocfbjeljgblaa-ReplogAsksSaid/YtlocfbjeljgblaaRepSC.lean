/- Layer 36: the law's step, kind 0: append. (printed by genRepSC.py) -/
import Derived.Test.YtlocfbjeljgblaaRepSB
import Derived.Deep.CutRange
namespace Go.Proofs.Ytlocfbjeljgblaa
open Go Go.RowKit
set_option maxRecDepth 100000

theorem StX.start (w : World) (b t : Int) (lv : Value) (kk a bb : Int) (f : Bool) (xl : Value) : StX noB w (((w.alloc (.cells #[.int .i64 b, .int .i64 t, lv] 29)).alloc (.cells #[.int .i64 kk, .int .i64 a, .int .i64 bb, .bool f, xl] 35)).alloc (.cells #[.int .i64 0, .int .i64 0, .slice none 0 0] 29)) w.heap.size b t lv kk a bb f xl := by
  have h1 := Blk.new w 29 #[.int .i64 b, .int .i64 t, lv]
  have h2 := Blk.new (w.alloc (.cells #[.int .i64 b, .int .i64 t, lv] 29)) 35 #[.int .i64 kk, .int .i64 a, .int .i64 bb, .bool f, xl]
  have h3 := Blk.new ((w.alloc (.cells #[.int .i64 b, .int .i64 t, lv] 29)).alloc (.cells #[.int .i64 kk, .int .i64 a, .int .i64 bb, .bool f, xl] 35)) 29 #[.int .i64 0, .int .i64 0, .slice none 0 0]
  simp only [World.size_alloc] at h2 h3
  exact ⟨(h1.alloc _).alloc _, h2.alloc _, h3, (((Same.refl _ _).alloc _).alloc _).alloc _, rfl⟩
theorem b2_in {W : World} {N b : Nat} (h : N + 1 + 1 < W.heap.size) (hb : (N ≤ b ∧ b ≤ N + 1 + 1) ∨ b = N) : N ≤ b ∧ b < W.heap.size := by omega
theorem b2_new {B : Nat → Prop} {W : World} {o : Obj} {N b : Nat} (hb : b2 B N W.heap.size b) : b2 B N N b ∨ (W.heap.size ≤ b ∧ b < (W.alloc o).heap.size) := by
  rcases hb with hb | hb | hb
  · exact .inl (.inl hb)
  · exact .inl (.inr (.inl hb))
  · exact .inr ⟨by omega, by rw [World.size_alloc]; omega⟩
theorem bd_new {B : Nat → Prop} {W : World} {M N b : Nat} {v : Value} (h : b < W.heap.size) (hb : bd (b2 B N W.heap.size) M v b) : bd (b2 B N N) M v b := by
  rcases hb with hb | hb | hb | hb
  · exact .inl hb
  · exact .inr (.inl hb)
  · exact .inr (.inr (.inl hb))
  · omega
theorem b2_rs {N b : Nat} (e : oneB (N + 1 + 1) b) : N ≤ b ∧ b ≤ N + 1 + 1 := by
  have h3 : b = N + 1 + 1 := e
  omega
theorem StX.tail {S : Nat → Prop} {w W W' : World} {N V : Nat} {b t kk a bb b3 t3 : Int} {lv xl lv3 : Value} {f : Bool} (h : StX S w W N b t lv kk a bb f xl) (hv : Blk W V 29 #[.int .i64 b3, .int .i64 t3, lv3]) (hV : N + 1 + 1 < V) (hs : Same (oneB (N + 1 + 1)) W W') : StV N V b3 t3 lv3 kk a bb f xl W' := by
  have h1 := hv.same hs (fun e => by have h3 : V = N + 1 + 1 := e; omega)
  have h2 := h.op.same hs (fun e => by have h3 : N + 1 = N + 1 + 1 := e; omega)
  exact ⟨h1.cell 0, h1.cell 1, h1.cell 2, h2.cell 0, h2.cell 1, h2.cell 2, h2.cell 3, h2.cell 4⟩
set_option maxHeartbeats 8000000 in
theorem step_core0 {B : Nat → Prop} {w : World} {M ln lc xn xc : Nat} {v : Value} {es ls xes : List En} {g : Lg} {ys : List EnV} {L XA : Option Addr} {aa bb : Int} {ff : Bool} (h : StO B w M v es (.slice L ln lc) ls g (.slice XA xn xc) xes ys) {cms : List CmV} {g2 : Lg} {want : List EnV}
    (H41 : Hid (∀ (B' : Nat → Prop) (W : World), StO B' W M v es (.slice L ln lc) ls g (.slice XA xn xc) xes ys → Calls Try.prog 41 #[.slice XA xn xc] W fun r w' => ∃ cv cs, r = .returned cv ∧ CmL w' (bd B' M v) cv cs cms ∧ Same noB W w'))
    (H40 : Hid (∀ (B' : Nat → Prop) (W : World) (cv : Value) (cs : List Cm), StO B' W M v es (.slice L ln lc) ls g (.slice XA xn xc) xes ys → CmL W (bd B' M v) cv cs cms → Calls Try.prog 40 #[.agg #[.int .i64 g.base, .int .i64 g.term, .slice L ln lc], .int .i64 bb, cv] W fun r w' => ∃ A n c ls' o os, r = .returned (.tuple #[.agg #[.int .i64 g2.base, .int .i64 g2.term, .slice A n c], o]) ∧ EnL w' (bd B' M v) (.slice A n c) ls' g2.es ∧ EnL w' (bd B' M v) o os want ∧ Same noB W w'))
    (H27 : Hid (∀ (B' : Nat → Prop) (W : World) (cv : Value) (cs : List Cm), StO B' W M v es (.slice L ln lc) ls g (.slice XA xn xc) xes ys → CmL W (bd B' M v) cv cs cms → Calls Try.prog 27 #[.pointer (some ⟨M, 0, none⟩), .int .i64 bb, cv] W fun r w' => ∃ got W3 os, r = .returned got ∧ LogToB W W3 M v es g g2 ∧ CopyIs W3 w' got os want)) :
    Calls Try.prog 14 #[.pointer (some ⟨M, 0, none⟩), .agg #[.int .i64 g.base, .int .i64 g.term, .slice L ln lc], .agg #[.int .i64 0, .int .i64 aa, .int .i64 bb, .bool ff, .slice XA xn xc]] w (StepTo B w M v g2) := by
  go_enter Try.func14, Try.ntmps14
  go_upto_region 1 with (fail)
  refine wp_abs (fun W => W.cell? ⟨w.heap.size + 1, 0, none⟩ = some (.int .i64 0) ∧ Hid (StX noB w W w.heap.size g.base g.term (.slice L ln lc) 0 aa bb ff (.slice XA xn xc))) ⟨(StX.start w g.base g.term (.slice L ln lc) 0 aa bb ff (.slice XA xn xc)).op.cell 0, StX.start w g.base g.term (.slice L ln lc) 0 aa bb ff (.slice XA xn xc)⟩ ?_
  rintro W0 ⟨k0, HX⟩
  have hlN := h.st.lgN (N := w.heap.size) rfl
  have HT := Lib.hid (h.more (B' := b2 B w.heap.size w.heap.size) HX.out.since (fun b hb => hb.elim .inl (fun hb => .inr (b2_in HX.out.rs.lt hb))))
  have HLN := Lib.hid hlN
  clear hlN
  obtain ⟨N, hN⟩ : ∃ N, w.heap.size = N := ⟨_, rfl⟩
  rw [hN] at k0 HX HT HLN ⊢
  clear h
  go_upto_region 3 with (fail)
  go_cut [8, 9] from 23 to 32 (fun u o wx => ∃ V A n c ls' os, u = .pointer (some ⟨V, 0, none⟩) ∧ N + 1 + 1 < V ∧ Blk wx V 29 #[.int .i64 g2.base, .int .i64 g2.term, .slice A n c] ∧ EnL wx (bd (b2 B N V) M v) (.slice A n c) ls' g2.es ∧ EnL wx (bd (b2 B N V) M v) o os want ∧ StX noB w wx N g.base g.term (.slice L ln lc) 0 aa bb ff (.slice XA xn xc) ∧ StO (b2 B N V) wx M v es (.slice L ln lc) ls g (.slice XA xn xc) xes ys)
  case first =>
    clear k0 H27
    replace HX := Lib.hid HX.out.drew
    replace HT := Lib.hid (HT.out.keep (Same.refl noB W0).drew)
    refine wp_region_T (S := StS N g.base g.term (.slice L ln lc) 0 aa bb ff (.slice XA xn xc)) (late := fun j => [].contains j) (by kernel_rfl) ?_ (fun hHeld => ?_)
    · exact HX.out.s
    obtain ⟨Wa, hWd⟩ : ∃ Wx, W0.drew = Wx := ⟨_, rfl⟩
    rw [hWd] at hHeld HX HT ⊢
    clear hWd
    refine T_take (i := 0) (v := ?va1) rfl (by kernel_rfl) (by kernel_rfl) (by kernel_rfl) (by kernel_rfl) (fun _ _ _ h => h) (Or.inl ⟨?_, ?_⟩) (by assumption) ?_
    rotate_left 1
    · rfl
    · (intro w hSw; unfold StS at hSw; go_simp; (try with_reducible rfl))
    go_simp
    refine T_pure (i := 1) (v := ?va2) rfl (by kernel_rfl) (by kernel_rfl) (by kernel_rfl) (fun _ _ _ h => h) (Or.inl ⟨?_, ?_⟩) ?_
    rotate_left 1
    · rfl
    · (intro w hSw; clear hSw; go_simp; (try with_reducible rfl))
    go_simp
    refine T_take (i := 2) (v := ?va3) rfl (by kernel_rfl) (by kernel_rfl) (by kernel_rfl) (by kernel_rfl) (fun _ _ _ h => h) (Or.inl ⟨?_, ?_⟩) (by assumption) ?_
    rotate_left 1
    · rfl
    · (intro w hSw; unfold StS at hSw; go_simp; (try with_reducible rfl))
    go_simp
    refine T_pure (i := 3) (v := ?va4) rfl (by kernel_rfl) (by kernel_rfl) (by kernel_rfl) (fun _ _ _ h => h) (Or.inl ⟨?_, ?_⟩) ?_
    rotate_left 1
    · rfl
    · (intro w hSw; clear hSw; go_simp; (try with_reducible rfl))
    go_simp
    refine T_take (i := 4) (v := ?va5) rfl (by kernel_rfl) (by kernel_rfl) (by kernel_rfl) (by kernel_rfl) (fun _ _ _ h => h) (Or.inl ⟨?_, ?_⟩) (by assumption) ?_
    rotate_left 1
    · rfl
    · (intro w hSw; unfold StS at hSw; go_simp; (try with_reducible rfl))
    go_simp
    refine T_ready (rs := [5, 10]) (by kernel_rfl) (by simp) ?_
    refine ReadyT.early rfl (fun K hK => ?_) (ReadyT.early rfl (fun K hK => ?_) ReadyT.nil)
    · go_simp
      (with_reducible refine Calls.mono (H41.out _ (Wa) HT.out) ?_)
      rintro r Wn1 ⟨cv, cs, rfl, hc, hs1⟩
      replace HX := Lib.hid (HX.out.keep hs1)
      replace HT := Lib.hid (HT.out.keep hs1)
      have HC := Lib.hid hc
      clear hc hs1
      clear hHeld
      go_wp2_with fail
      refine hK.out _ _ ?_ (fun hHeld => ?_)
      · exact HX.out.s
      clear hK K
      refine T_ready (rs := [6, 10]) (by kernel_rfl) (by simp) ?_
      refine ReadyT.early rfl (fun K hK => ?_) (ReadyT.early rfl (fun K hK => ?_) ReadyT.nil)
      · go_simp
        (with_reducible refine Calls.mono (H40.out _ (Wn1) cv cs HT.out HC.out) ?_)
        rintro r Wn2 ⟨A3, n3, c3, ls3, o3, os3, rfl, he, ho, hs1⟩
        clear HC
        replace HX := Lib.hid (HX.out.keep hs1)
        replace HT := Lib.hid (HT.out.keep hs1)
        have HE := Lib.hid (And.intro he ho)
        clear he ho hs1
        clear hHeld
        go_wp2_with fail
        refine hK.out _ _ ?_ (fun hHeld => ?_)
        · exact HX.out.s
        clear hK K
        refine T_pure (i := 7) (v := ?va6) rfl (by kernel_rfl) (by kernel_rfl) (by kernel_rfl) (fun _ _ _ h => h) (Or.inl ⟨?_, ?_⟩) ?_
        rotate_left 1
        · rfl
        · (intro w hSw; clear hSw; go_simp; (try with_reducible rfl))
        go_simp
        refine T_pure (i := 8) (v := ?va7) rfl (by kernel_rfl) (by kernel_rfl) (by kernel_rfl) (fun _ _ _ h => h) (Or.inl ⟨?_, ?_⟩) ?_
        rotate_left 1
        · rfl
        · (intro w hSw; clear hSw; go_simp; (try with_reducible rfl))
        go_simp
        refine T_pure (i := 9) (v := ?va8) rfl (by kernel_rfl) (by kernel_rfl) (by kernel_rfl) (fun _ _ _ h => h) (Or.inl ⟨?_, ?_⟩) ?_
        rotate_left 1
        · rfl
        · (intro w hSw; clear hSw; go_simp; (try with_reducible rfl))
        go_simp
        refine T_ready (rs := [10]) (by kernel_rfl) (by simp) ?_
        refine ReadyT.early rfl (fun K hK => ?_) ReadyT.nil
        go_simp
        clear hHeld
        have HV := Lib.hid (Blk.new (Wn2) 29 #[.int .i64 0, .int .i64 0, .slice none 0 0])
        have hs1 := (Same.refl noB (Wn2)).alloc (.cells #[.int .i64 0, .int .i64 0, .slice none 0 0] 29)
        have HVN : Hid (N + 1 + 1 < (Wn2).heap.size) := HX.out.rs.lt
        replace HX := Lib.hid (HX.out.keep hs1)
        replace HT := Lib.hid (HT.out.more (B' := b2 B N (Wn2).heap.size) hs1 (fun b hb => b2_new hb))
        replace HE := Lib.hid (And.intro (HE.out.1.same (bad' := bd (b2 B N (Wn2).heap.size) M v) hs1 (fun _ _ x => x.elim) (fun b hb hx => bd_new hb hx)) (HE.out.2.same (bad' := bd (b2 B N (Wn2).heap.size) M v) hs1 (fun _ _ x => x.elim) (fun b hb hx => bd_new hb hx)))
        clear hs1
        obtain ⟨Wn3, hWe⟩ : ∃ Wx, (Wn2).alloc (.cells #[.int .i64 0, .int .i64 0, .slice none 0 0] 29) = Wx := ⟨_, rfl⟩
        obtain ⟨V3, hVe⟩ : ∃ Vx, (Wn2).heap.size = Vx := ⟨_, rfl⟩
        rw [hWe, hVe]
        rw [hWe, hVe] at HV
        rw [hWe] at HX
        rw [hWe, hVe] at HT
        rw [hVe] at HVN
        rw [hWe, hVe] at HE
        clear hWe hVe
        refine hK.out _ _ ?_ (fun hHeld => ?_)
        · exact HX.out.s
        clear hK K
        refine T_ready (rs := [11]) (by kernel_rfl) (by simp) ?_
        refine ReadyT.early rfl (fun K hK => ?_) ReadyT.nil
        have z0 := HV.out.frozen 0
        have z1 := HV.out.frozen 1
        have z2 := HV.out.frozen 2
        have y0 : (Wn3).cell? ⟨V3, 0, none⟩ = some (.int .i64 0) := HV.out.cell 0
        have y1 : (Wn3).cell? ⟨V3, 1, none⟩ = some (.int .i64 0) := HV.out.cell 1
        have y2 : (Wn3).cell? ⟨V3, 2, none⟩ = some (.slice none 0 0) := HV.out.cell 2
        have HB7 := Lib.hid (((HV.out.set_ 0 (.int .i64 g2.base)).set_ 1 (.int .i64 g2.term)).set_ 2 (.slice A3 n3 c3))
        have HS7 := Lib.hid ((((Same.refl (oneB V3) (Wn3)).set1 0 (.int .i64 g2.base)).set1 1 (.int .i64 g2.term)).set1 2 (.slice A3 n3 c3))
        replace HX := Lib.hid (HX.out.one HS7.out HVN.out)
        replace HT := Lib.hid (HT.out.put HS7.out (fun b e => .inr (.inr e)))
        replace HE := Lib.hid (And.intro (HE.out.1.same (bad' := bd (b2 B N V3) M v) HS7.out (fun b _ e => .inr (.inr (.inr e))) (fun _ _ x => x)) (HE.out.2.same (bad' := bd (b2 B N V3) M v) HS7.out (fun b _ e => .inr (.inr (.inr e))) (fun _ _ x => x)))
        go_simp
        refine hK.out _ _ ?_ (fun hHeld => ?_)
        · exact HX.out.s
        clear hK K
        clear z0 z1 z2 y0 y1 y2
        refine T_pure (i := 12) (v := ?va9) rfl (by kernel_rfl) (by kernel_rfl) (by kernel_rfl) (fun _ _ _ h => h) (Or.inl ⟨?_, ?_⟩) ?_
        rotate_left 1
        · rfl
        · (intro w hSw; clear hSw; go_simp; (try with_reducible rfl))
        go_simp
        refine T_done (by kernel_rfl) ?_ _
        go_wp2_with fail
        go_meet
        exact ⟨_, A3, n3, c3, ls3, os3, rfl, HVN.out, HB7.out, HE.out.1, HE.out.2, HX.out, HT.out⟩
      · go_simp
        clear hHeld
        have HV := Lib.hid (Blk.new (Wn1) 29 #[.int .i64 0, .int .i64 0, .slice none 0 0])
        have hs1 := (Same.refl noB (Wn1)).alloc (.cells #[.int .i64 0, .int .i64 0, .slice none 0 0] 29)
        have HVN : Hid (N + 1 + 1 < (Wn1).heap.size) := HX.out.rs.lt
        replace HX := Lib.hid (HX.out.keep hs1)
        replace HT := Lib.hid (HT.out.more (B' := b2 B N (Wn1).heap.size) hs1 (fun b hb => b2_new hb))
        replace HC := Lib.hid (HC.out.same (bad' := bd (b2 B N (Wn1).heap.size) M v) hs1 (fun _ _ x => x.elim) (fun b hb hx => bd_new hb hx))
        clear hs1
        obtain ⟨Wn4, hWe⟩ : ∃ Wx, (Wn1).alloc (.cells #[.int .i64 0, .int .i64 0, .slice none 0 0] 29) = Wx := ⟨_, rfl⟩
        obtain ⟨V4, hVe⟩ : ∃ Vx, (Wn1).heap.size = Vx := ⟨_, rfl⟩
        rw [hWe, hVe]
        rw [hWe, hVe] at HV
        rw [hWe] at HX
        rw [hWe, hVe] at HT
        rw [hVe] at HVN
        rw [hWe, hVe] at HC
        clear hWe hVe
        refine hK.out _ _ ?_ (fun hHeld => ?_)
        · exact HX.out.s
        clear hK K
        refine T_ready (rs := [6]) (by kernel_rfl) (by simp) ?_
        refine ReadyT.early rfl (fun K hK => ?_) ReadyT.nil
        go_simp
        (with_reducible refine Calls.mono (H40.out _ (Wn4) cv cs HT.out HC.out) ?_)
        rintro r Wn5 ⟨A3, n3, c3, ls3, o3, os3, rfl, he, ho, hs1⟩
        clear HC
        replace HX := Lib.hid (HX.out.keep hs1)
        replace HT := Lib.hid (HT.out.keep hs1)
        replace HV := Lib.hid (HV.out.same hs1 (fun x => x))
        have HE := Lib.hid (And.intro he ho)
        clear he ho hs1
        clear hHeld
        go_wp2_with fail
        refine hK.out _ _ ?_ (fun hHeld => ?_)
        · exact HX.out.s
        clear hK K
        refine T_pure (i := 7) (v := ?va10) rfl (by kernel_rfl) (by kernel_rfl) (by kernel_rfl) (fun _ _ _ h => h) (Or.inl ⟨?_, ?_⟩) ?_
        rotate_left 1
        · rfl
        · (intro w hSw; clear hSw; go_simp; (try with_reducible rfl))
        go_simp
        refine T_pure (i := 8) (v := ?va11) rfl (by kernel_rfl) (by kernel_rfl) (by kernel_rfl) (fun _ _ _ h => h) (Or.inl ⟨?_, ?_⟩) ?_
        rotate_left 1
        · rfl
        · (intro w hSw; clear hSw; go_simp; (try with_reducible rfl))
        go_simp
        refine T_pure (i := 9) (v := ?va12) rfl (by kernel_rfl) (by kernel_rfl) (by kernel_rfl) (fun _ _ _ h => h) (Or.inl ⟨?_, ?_⟩) ?_
        rotate_left 1
        · rfl
        · (intro w hSw; clear hSw; go_simp; (try with_reducible rfl))
        go_simp
        refine T_ready (rs := [11]) (by kernel_rfl) (by simp) ?_
        refine ReadyT.early rfl (fun K hK => ?_) ReadyT.nil
        have z0 := HV.out.frozen 0
        have z1 := HV.out.frozen 1
        have z2 := HV.out.frozen 2
        have y0 : (Wn5).cell? ⟨V4, 0, none⟩ = some (.int .i64 0) := HV.out.cell 0
        have y1 : (Wn5).cell? ⟨V4, 1, none⟩ = some (.int .i64 0) := HV.out.cell 1
        have y2 : (Wn5).cell? ⟨V4, 2, none⟩ = some (.slice none 0 0) := HV.out.cell 2
        have HB7 := Lib.hid (((HV.out.set_ 0 (.int .i64 g2.base)).set_ 1 (.int .i64 g2.term)).set_ 2 (.slice A3 n3 c3))
        have HS7 := Lib.hid ((((Same.refl (oneB V4) (Wn5)).set1 0 (.int .i64 g2.base)).set1 1 (.int .i64 g2.term)).set1 2 (.slice A3 n3 c3))
        replace HX := Lib.hid (HX.out.one HS7.out HVN.out)
        replace HT := Lib.hid (HT.out.put HS7.out (fun b e => .inr (.inr e)))
        replace HE := Lib.hid (And.intro (HE.out.1.same (bad' := bd (b2 B N V4) M v) HS7.out (fun b _ e => .inr (.inr (.inr e))) (fun _ _ x => x)) (HE.out.2.same (bad' := bd (b2 B N V4) M v) HS7.out (fun b _ e => .inr (.inr (.inr e))) (fun _ _ x => x)))
        go_simp
        refine hK.out _ _ ?_ (fun hHeld => ?_)
        · exact HX.out.s
        clear hK K
        clear z0 z1 z2 y0 y1 y2
        refine T_pure (i := 12) (v := ?va13) rfl (by kernel_rfl) (by kernel_rfl) (by kernel_rfl) (fun _ _ _ h => h) (Or.inl ⟨?_, ?_⟩) ?_
        rotate_left 1
        · rfl
        · (intro w hSw; clear hSw; go_simp; (try with_reducible rfl))
        go_simp
        refine T_done (by kernel_rfl) ?_ _
        go_wp2_with fail
        go_meet
        exact ⟨_, A3, n3, c3, ls3, os3, rfl, HVN.out, HB7.out, HE.out.1, HE.out.2, HX.out, HT.out⟩
    · go_simp
      clear hHeld
      have HV := Lib.hid (Blk.new (Wa) 29 #[.int .i64 0, .int .i64 0, .slice none 0 0])
      have hs1 := (Same.refl noB (Wa)).alloc (.cells #[.int .i64 0, .int .i64 0, .slice none 0 0] 29)
      have HVN : Hid (N + 1 + 1 < (Wa).heap.size) := HX.out.rs.lt
      replace HX := Lib.hid (HX.out.keep hs1)
      replace HT := Lib.hid (HT.out.more (B' := b2 B N (Wa).heap.size) hs1 (fun b hb => b2_new hb))
      clear hs1
      obtain ⟨Wn6, hWe⟩ : ∃ Wx, (Wa).alloc (.cells #[.int .i64 0, .int .i64 0, .slice none 0 0] 29) = Wx := ⟨_, rfl⟩
      obtain ⟨V6, hVe⟩ : ∃ Vx, (Wa).heap.size = Vx := ⟨_, rfl⟩
      rw [hWe, hVe]
      rw [hWe, hVe] at HV
      rw [hWe] at HX
      rw [hWe, hVe] at HT
      rw [hVe] at HVN
      clear hWe hVe
      refine hK.out _ _ ?_ (fun hHeld => ?_)
      · exact HX.out.s
      clear hK K
      refine T_ready (rs := [5]) (by kernel_rfl) (by simp) ?_
      refine ReadyT.early rfl (fun K hK => ?_) ReadyT.nil
      go_simp
      (with_reducible refine Calls.mono (H41.out _ (Wn6) HT.out) ?_)
      rintro r Wn7 ⟨cv, cs, rfl, hc, hs1⟩
      replace HX := Lib.hid (HX.out.keep hs1)
      replace HT := Lib.hid (HT.out.keep hs1)
      replace HV := Lib.hid (HV.out.same hs1 (fun x => x))
      have HC := Lib.hid hc
      clear hc hs1
      clear hHeld
      go_wp2_with fail
      refine hK.out _ _ ?_ (fun hHeld => ?_)
      · exact HX.out.s
      clear hK K
      refine T_ready (rs := [6]) (by kernel_rfl) (by simp) ?_
      refine ReadyT.early rfl (fun K hK => ?_) ReadyT.nil
      go_simp
      (with_reducible refine Calls.mono (H40.out _ (Wn7) cv cs HT.out HC.out) ?_)
      rintro r Wn8 ⟨A3, n3, c3, ls3, o3, os3, rfl, he, ho, hs1⟩
      clear HC
      replace HX := Lib.hid (HX.out.keep hs1)
      replace HT := Lib.hid (HT.out.keep hs1)
      replace HV := Lib.hid (HV.out.same hs1 (fun x => x))
      have HE := Lib.hid (And.intro he ho)
      clear he ho hs1
      clear hHeld
      go_wp2_with fail
      refine hK.out _ _ ?_ (fun hHeld => ?_)
      · exact HX.out.s
      clear hK K
      refine T_pure (i := 7) (v := ?va14) rfl (by kernel_rfl) (by kernel_rfl) (by kernel_rfl) (fun _ _ _ h => h) (Or.inl ⟨?_, ?_⟩) ?_
      rotate_left 1
      · rfl
      · (intro w hSw; clear hSw; go_simp; (try with_reducible rfl))
      go_simp
      refine T_pure (i := 8) (v := ?va15) rfl (by kernel_rfl) (by kernel_rfl) (by kernel_rfl) (fun _ _ _ h => h) (Or.inl ⟨?_, ?_⟩) ?_
      rotate_left 1
      · rfl
      · (intro w hSw; clear hSw; go_simp; (try with_reducible rfl))
      go_simp
      refine T_pure (i := 9) (v := ?va16) rfl (by kernel_rfl) (by kernel_rfl) (by kernel_rfl) (fun _ _ _ h => h) (Or.inl ⟨?_, ?_⟩) ?_
      rotate_left 1
      · rfl
      · (intro w hSw; clear hSw; go_simp; (try with_reducible rfl))
      go_simp
      refine T_ready (rs := [11]) (by kernel_rfl) (by simp) ?_
      refine ReadyT.early rfl (fun K hK => ?_) ReadyT.nil
      have z0 := HV.out.frozen 0
      have z1 := HV.out.frozen 1
      have z2 := HV.out.frozen 2
      have y0 : (Wn8).cell? ⟨V6, 0, none⟩ = some (.int .i64 0) := HV.out.cell 0
      have y1 : (Wn8).cell? ⟨V6, 1, none⟩ = some (.int .i64 0) := HV.out.cell 1
      have y2 : (Wn8).cell? ⟨V6, 2, none⟩ = some (.slice none 0 0) := HV.out.cell 2
      have HB7 := Lib.hid (((HV.out.set_ 0 (.int .i64 g2.base)).set_ 1 (.int .i64 g2.term)).set_ 2 (.slice A3 n3 c3))
      have HS7 := Lib.hid ((((Same.refl (oneB V6) (Wn8)).set1 0 (.int .i64 g2.base)).set1 1 (.int .i64 g2.term)).set1 2 (.slice A3 n3 c3))
      replace HX := Lib.hid (HX.out.one HS7.out HVN.out)
      replace HT := Lib.hid (HT.out.put HS7.out (fun b e => .inr (.inr e)))
      replace HE := Lib.hid (And.intro (HE.out.1.same (bad' := bd (b2 B N V6) M v) HS7.out (fun b _ e => .inr (.inr (.inr e))) (fun _ _ x => x)) (HE.out.2.same (bad' := bd (b2 B N V6) M v) HS7.out (fun b _ e => .inr (.inr (.inr e))) (fun _ _ x => x)))
      go_simp
      refine hK.out _ _ ?_ (fun hHeld => ?_)
      · exact HX.out.s
      clear hK K
      clear z0 z1 z2 y0 y1 y2
      refine T_pure (i := 12) (v := ?va17) rfl (by kernel_rfl) (by kernel_rfl) (by kernel_rfl) (fun _ _ _ h => h) (Or.inl ⟨?_, ?_⟩) ?_
      rotate_left 1
      · rfl
      · (intro w hSw; clear hSw; go_simp; (try with_reducible rfl))
      go_simp
      refine T_done (by kernel_rfl) ?_ _
      go_wp2_with fail
      go_meet
      exact ⟨_, A3, n3, c3, ls3, os3, rfl, HVN.out, HB7.out, HE.out.1, HE.out.2, HX.out, HT.out⟩
  case rest =>
    obtain ⟨V, A3, n3, c3, ls3, os3, rfl, hvn, hv, he, ho, hx, ht⟩ := hcut
    have HX := Lib.hid hx.drew
    have HT := Lib.hid (ht.keep (Same.refl noB wc).drew)
    have HV := Lib.hid hv.drew
    have HE := Lib.hid (And.intro (he.keep (Same.refl noB wc).drew) (ho.keep (Same.refl noB wc).drew))
    have HVN := Lib.hid hvn
    clear hx ht hv he ho hvn k0 H40
    go_wp2_with fail
    refine wp_region_T (S := StV N V g2.base g2.term (.slice A3 n3 c3) 0 aa bb ff (.slice XA xn xc)) (late := fun j => [].contains j) (by kernel_rfl) ?_ (fun hHeld => ?_)
    · exact HX.out.sv HV.out
    obtain ⟨Wb, hWd⟩ : ∃ Wx, wc.drew = Wx := ⟨_, rfl⟩
    rw [hWd] at hHeld HX HT HV HE ⊢
    clear hWd
    refine T_take (i := 0) (v := ?vb1) rfl (by kernel_rfl) (by kernel_rfl) (by kernel_rfl) (by kernel_rfl) (fun _ _ _ h => h) (Or.inl ⟨?_, ?_⟩) (by assumption) ?_
    rotate_left 1
    · rfl
    · (intro w hSw; unfold StV at hSw; go_simp; (try with_reducible rfl))
    go_simp
    refine T_pure (i := 1) (v := ?vb2) rfl (by kernel_rfl) (by kernel_rfl) (by kernel_rfl) (fun _ _ _ h => h) (Or.inl ⟨?_, ?_⟩) ?_
    rotate_left 1
    · rfl
    · (intro w hSw; clear hSw; go_simp; (try with_reducible rfl))
    go_simp
    refine T_pure (i := 2) (v := ?vb3) rfl (by kernel_rfl) (by kernel_rfl) (by kernel_rfl) (fun _ _ _ h => h) (Or.inl ⟨?_, ?_⟩) ?_
    rotate_left 1
    · rfl
    · (intro w hSw; clear hSw; go_simp; (try with_reducible rfl))
    go_simp
    refine T_take (i := 3) (v := ?vb4) rfl (by kernel_rfl) (by kernel_rfl) (by kernel_rfl) (by kernel_rfl) (fun _ _ _ h => h) (Or.inl ⟨?_, ?_⟩) (by assumption) ?_
    rotate_left 1
    · rfl
    · (intro w hSw; unfold StV at hSw; go_simp; (try with_reducible rfl))
    go_simp
    refine T_pure (i := 4) (v := ?vb5) rfl (by kernel_rfl) (by kernel_rfl) (by kernel_rfl) (fun _ _ _ h => h) (Or.inl ⟨?_, ?_⟩) ?_
    rotate_left 1
    · rfl
    · (intro w hSw; clear hSw; go_simp; (try with_reducible rfl))
    go_simp
    refine T_take (i := 5) (v := ?vb6) rfl (by kernel_rfl) (by kernel_rfl) (by kernel_rfl) (by kernel_rfl) (fun _ _ _ h => h) (Or.inl ⟨?_, ?_⟩) (by assumption) ?_
    rotate_left 1
    · rfl
    · (intro w hSw; unfold StV at hSw; go_simp; (try with_reducible rfl))
    go_simp
    refine T_pure (i := 8) (v := ?vb7) rfl (by kernel_rfl) (by kernel_rfl) (by kernel_rfl) (fun _ _ _ h => h) (Or.inl ⟨?_, ?_⟩) ?_
    rotate_left 1
    · rfl
    · (intro w hSw; clear hSw; go_simp; (try with_reducible rfl))
    go_simp
    refine T_ready (rs := [6]) (by kernel_rfl) (by simp) ?_
    refine ReadyT.early rfl (fun K hK => ?_) ReadyT.nil
    go_simp
    (with_reducible refine Calls.mono (H41.out _ (Wb) HT.out) ?_)
    rintro r Wn9 ⟨cv, cs, rfl, hc, hs1⟩
    replace HX := Lib.hid (HX.out.keep hs1)
    replace HV := Lib.hid (HV.out.same hs1 (fun x => x))
    replace HT := Lib.hid (HT.out.keep hs1)
    replace HE := Lib.hid (And.intro (HE.out.1.keep hs1) (HE.out.2.keep hs1))
    have HC := Lib.hid hc
    clear hc hs1
    clear hHeld
    go_wp2_with fail
    refine hK.out _ _ ?_ (fun hHeld => ?_)
    · exact HX.out.sv HV.out
    clear hK K
    refine T_ready (rs := [7]) (by kernel_rfl) (by simp) ?_
    refine ReadyT.early rfl (fun K hK => ?_) ReadyT.nil
    go_simp
    (with_reducible refine Calls.mono (H27.out _ (Wn9) cv cs HT.out HC.out) ?_)
    rintro r Wn10 ⟨got, Wy, os5, rfl, hl2, hcp⟩
    have hsz : w.heap.size ≤ (Wn9).heap.size := HX.out.since.size
    obtain ⟨v2, es2, ht2, hsl, hob⟩ := HT.out.st.step hl2 hcp.since HE.out.1
    replace HX := Lib.hid (HX.out.logs hsl HLN.out)
    replace HV := Lib.hid (HV.out.same hsl (fun x => by have := HLN.out _ x; have := HVN.out; omega))
    have HG := Lib.hid (And.intro hcp.enl (HE.out.2.same (bad' := noB) hsl (fun b _ hb => .inl hb) (fun _ _ x => x.elim)))
    replace HT := Lib.hid (And.intro ht2 hob)
    clear ht2 hsl hob hl2 hcp HE
    clear HC
    clear hHeld
    go_wp2_with fail
    refine hK.out _ _ ?_ (fun hHeld => ?_)
    · exact HX.out.sv HV.out
    clear hK K
    refine T_ready (rs := [9]) (by kernel_rfl) (by simp) ?_
    refine ReadyT.early rfl (fun K hK => ?_) ReadyT.nil
    go_simp
    (with_reducible refine Calls.mono (sameents_true HG.out.1 HG.out.2) ?_)
    rintro r Wn11 ⟨rfl, hs1⟩
    replace HX := Lib.hid (HX.out.keep hs1)
    replace HV := Lib.hid (HV.out.same hs1 (fun x => x))
    replace HT := Lib.hid (And.intro (HT.out.1.keep hs1) HT.out.2)
    clear hs1 HG
    clear hHeld
    go_wp2_with fail
    refine hK.out _ _ ?_ (fun hHeld => ?_)
    · exact HX.out.sv HV.out
    clear hK K
    refine T_ready (rs := [10]) (by kernel_rfl) (by simp) ?_
    refine ReadyT.early rfl (fun K hK => ?_) ReadyT.nil
    have z0 := HX.out.rs.frozen 0
    have z1 := HX.out.rs.frozen 1
    have z2 := HX.out.rs.frozen 2
    have y0 : (Wn11).cell? ⟨N + 1 + 1, 0, none⟩ = some (.int .i64 0) := HX.out.rs.cell 0
    have y1 : (Wn11).cell? ⟨N + 1 + 1, 1, none⟩ = some (.int .i64 0) := HX.out.rs.cell 1
    have y2 : (Wn11).cell? ⟨N + 1 + 1, 2, none⟩ = some (.slice none 0 0) := HX.out.rs.cell 2
    have HB8 := Lib.hid (((HX.out.rs.set_ 0 (.int .i64 g2.base)).set_ 1 (.int .i64 g2.term)).set_ 2 (.slice A3 n3 c3))
    have HS8 := Lib.hid ((((Same.refl (oneB (N + 1 + 1)) (Wn11)).set1 0 (.int .i64 g2.base)).set1 1 (.int .i64 g2.term)).set1 2 (.slice A3 n3 c3))
    have HQ := Lib.hid (StX.tail HX.out HV.out HVN.out HS8.out)
    have HT8 := Lib.hid ((HT.out.1.put HS8.out (fun b e => .inr (.inl (b2_rs e)))).less (B' := B) (fun b hb => .inl hb))
    go_simp
    refine hK.out _ _ ?_ (fun hHeld => ?_)
    · exact HQ.out
    clear hK K z0 z1 z2 y0 y1 y2
    refine T_pure (i := 11) (v := ?vb8) rfl (by kernel_rfl) (by kernel_rfl) (by kernel_rfl) (fun _ _ _ h => h) (Or.inl ⟨?_, ?_⟩) ?_
    rotate_left 1
    · rfl
    · (intro w hSw; clear hSw; go_simp; (try with_reducible rfl))
    go_simp
    refine T_done (by kernel_rfl) ?_ _
    go_wp2_with fail
    (try simp only [Exit.inBlock, Exit.then])
    refine bodyPost_ret (res_ct rfl HB8.out rfl rfl) rfl ?_
    exact ⟨v2, es2, A3, n3, c3, ls3, rfl, HT8.out, HX.out.since.trans HS8.out (fun b hb e => by have h3 : b = N + 1 + 1 := e; have := HX.out.at_; omega), fun b hb => (HT.out.2 b hb).imp id (fun x => Nat.le_trans hsz x)⟩
end Go.Proofs.Ytlocfbjeljgblaa
