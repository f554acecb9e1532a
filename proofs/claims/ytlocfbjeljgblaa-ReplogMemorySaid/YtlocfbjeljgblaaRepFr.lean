/- Layer 36: copies whose lists may be written. (printed by genRepFr.py) -/
import Derived.Test.YtlocfbjeljgblaaRepSK
namespace Go.Proofs.Ytlocfbjeljgblaa
open Go Go.RowKit
set_option maxRecDepth 100000

/-- Where a slice begins nothing is frozen. -/
def SlF (W : World) (s : Sl) : Prop := ∀ b o, s.addr = some ⟨b, o, none⟩ → b < W.heap.size ∧ ∀ o', W.frozen? ⟨b, o', none⟩ = false
def SlG (g : Nat) (W : World) (s : Sl) : Prop := ∀ b o, s.addr = some ⟨b, o, none⟩ → b ≠ g ∧ b < W.heap.size ∧ ∀ o', W.frozen? ⟨b, o', none⟩ = false
theorem SlG.f {g : Nat} {W : World} {s : Sl} (h : SlG g W s) : SlF W s := fun b o e => (h b o e).2
theorem SlG.same {g : Nat} {W W' : World} {S : Nat → Prop} {s : Sl} (h : SlG g W s) (hs : Same S W W') (hS : ∀ b, S b → b = g) : SlG g W' s := fun b o e => by
  obtain ⟨h1, h2, h3⟩ := h b o e
  exact ⟨h1, Nat.lt_of_lt_of_le h2 hs.size, fun o' => (hs.frozen (a := ⟨b, o', none⟩) h2 (fun x => h1 (hS b x))).trans (h3 o')⟩
theorem SlG.keep {g : Nat} {W W' : World} {s : Sl} (h : SlG g W s) (hs : Same noB W W') : SlG g W' s := h.same hs (fun _ x => x.elim)
theorem SlF.keep {W W' : World} {s : Sl} (h : SlF W s) (hs : Same noB W W') : SlF W' s := fun b o e => by
  obtain ⟨h2, h3⟩ := h b o e
  exact ⟨Nat.lt_of_lt_of_le h2 hs.size, fun o' => (hs.frozen (a := ⟨b, o', none⟩) h2 (fun x => x)).trans (h3 o')⟩
theorem SlF.put {W W' : World} {S : Nat → Prop} {s : Sl} (h : SlF W s) (hs : Same S W W') (hS : ∀ b o, s.addr = some ⟨b, o, none⟩ → ¬ S b) : SlF W' s := fun b o e => by
  obtain ⟨h2, h3⟩ := h b o e
  exact ⟨Nat.lt_of_lt_of_le h2 hs.size, fun o' => (hs.frozen (a := ⟨b, o', none⟩) h2 (hS b o e)).trans (h3 o')⟩
theorem NewI.slg {w w' : World} {s : Sl} {l : List Int} {g : Nat} (h : NewI w w' s l) (hg : g < w.heap.size) : SlG g w' s := by
  intro b o e
  rcases h.app.own.2 with ⟨e1, _⟩ | ⟨g', cap, cur, e1, _, hb, _⟩
  · injection e1 with e1
    rw [e1] at e
    cases e
  · injection e1 with e1
    rw [e1] at e
    injection e with e
    injection e with e2 e3
    subst e2
    have h1 := h.app.new g' (by rw [e1]; rfl)
    exact ⟨by omega, lt_of_heap hb, fun o' => frozen_of_row w' g' o' cur 3 hb⟩
theorem slg_three {W : World} {g k : Nat} {s s3 s4 s5 : Sl} (h : SlG g W s) : SlG g (((W.setCell ⟨g, k * 15 + 2 + 10, none⟩ (.slice s3.addr s3.len s3.cap)).setCell ⟨g, k * 15 + 2 + 10 + 1, none⟩ (.slice s4.addr s4.len s4.cap)).setCell ⟨g, k * 15 + 2 + 10 + 2, none⟩ (.slice s5.addr s5.len s5.cap)) s :=
  h.same (S := oneB g) ((((Same.refl (oneB g) W).set1 _ _).set1 _ _).set1 _ _) (fun _ e => e)
/-- A copy whose lists may be written. -/
def CopyF (w w' : World) (v : Value) (es : List En) (vs : List EnV) : Prop := CopyIs w w' v es vs ∧ ∀ e ∈ es, SlF w' e.c.f3
theorem CopyF.before {w0 w w' : World} {v : Value} {es : List En} {vs : List EnV} (h : CopyF w w' v es vs) (hs : Same noB w0 w) : CopyF w0 w' v es vs := ⟨h.1.before hs, h.2⟩
theorem copyF_nil {w w' : World} (hs : Same noB w w') : CopyF w w' (.slice none 0 0) [] [] := ⟨copy_nil hs, fun e he => by cases he⟩
set_option maxHeartbeats 16000000 in
theorem copied2_any {w : World} {bad : Nat → Prop} {v : Value} {es : List En} {vs : List EnV} (h : EnL w bad v es vs) (hlen : vs.length ≤ 100000) (hsm : ∀ x ∈ vs, x.c.Sm) :
    Calls Try.prog 51 #[v] w fun e w' => ∃ v' es', e = .returned v' ∧ CopyF w w' v' es' vs := by
  have hel := h.len
  have H := Lib.hid h
  have HSM := Lib.hid hsm
  have HEL := Lib.hid hel
  have hlen2 : es.length ≤ 100000 := by omega
  have hZ := clone53_any h.rd hlen2
  clear h hsm hel hlen
  go_enter Try.func51, Try.ntmps51
  go_wp2_with fail
  (with_reducible refine Calls.mono hZ ?_)
  clear hZ
  rintro e W1 ⟨A, c, rfl, ha⟩
  obtain ⟨n, hn⟩ : ∃ n, es.length = n := ⟨_, rfl⟩
  have HNL := Lib.hid hn
  cases A with
  | none =>
    have hn0 : n = 0 := by
      obtain ⟨A', c', e, h1, h2, h3, h4, h5⟩ := ha.rd (bad := noB) (fun _ e => e.elim)
      injection e with e1 e2 e3
      have := h4 e1.symm
      omega
    subst hn0
    obtain rfl : es = [] := List.eq_nil_of_length_eq_zero hn
    obtain rfl : vs = [] := List.eq_nil_of_length_eq_zero (by have := HEL.out; simpa using this.symm)
    have HC : Hid (CopyF w W1 (.slice none 0 c) [] []) := ⟨⟨ha.own, fun g hg => by simp [Value.ownBlock] at hg, .nil, ha.since⟩, fun e he => by cases he⟩
    clear ha hn
    simp only [List.length_nil]
    go_wp2_with fail
    refine wp_loop_rounds 1 ?_
    rw [rounds_succ]
    go_wp2_with fail
    go_ret
    exact ⟨_, [], rfl, HC.out⟩
  | some a =>
    obtain ⟨g, rfl⟩ : ∃ g, a = ⟨g, 0, none⟩ := by
      rcases ha.own.2 with ⟨e, _⟩ | ⟨g, cap, cur, e, _⟩
      · cases e
      · injection e with e1 e2 e3
        injection e1 with e1
        exact ⟨g, e1⟩
    have hcap := (ha.rd (bad := noB) (fun _ e => e.elim)).caps
    have HI0 : Hid (CpI w W1 g n c es) := ⟨by have := ha.own; rw [hn] at this; exact this, ha.new g rfl, ha.since⟩
    rw [hn] at hlen2 hcap ⊢
    clear ha hn
    go_wp2_with fail
    go_loopg [10] (n) (fun gk i wr => ∃ (k : Nat) (cur : List En), k ≤ n ∧ Hid (gk + k = n) ∧ i = .int .i64 k ∧ Hid (CpI w wr g n c cur ∧ cur.length = n ∧ (∀ j, k ≤ j → cur[j]? = es[j]?) ∧ ∀ j e x, j < k → cur[j]? = some e → vs[j]? = some x → EnIs wr (cpB w g) e x ∧ SlG g wr e.c.f3))
    case atStart => exact ⟨0, es, Nat.zero_le _, rfl, rfl, HI0.out, HNL.out, fun _ _ => rfl, fun j _ _ hj => absurd hj (Nat.not_lt_zero _)⟩
    case round =>
      obtain ⟨k, cur, hk, HK, rfl, HR⟩ := hrel
      clear HI0
      by_cases hlt : k < n
      · obtain ⟨x, hx⟩ : ∃ e, es[k]? = some e := ⟨_, List.getElem?_eq_getElem (by have := HNL.out; omega)⟩
        have hcx : cur[k]? = some x := (HR.out.2.2.1 k (Nat.le_refl _)).trans hx
        obtain ⟨y, hy, hi⟩ := (H.out.keep HR.out.1.since).is.at_ hx
        have hsm := HSM.out y (List.mem_of_getElem? hy)
        have HI := Lib.hid HR.out.1
        have HCX := Lib.hid (And.intro hcx (And.intro hy HR.out.2.1))
        have HE := Lib.hid hi
        have HZ1 := Lib.hid (fun (W' : World) (hs : Same noB wr W') => clone63_any (w := W') (hi.c.f1.keep hs) (Nat.le_trans hsm.l1 (by omega)))
        have HZ2 := Lib.hid (fun (W' : World) (hs : Same noB wr W') => clone63_any (w := W') (hi.c.f2.keep hs) (Nat.le_trans hsm.l2 (by omega)))
        have p10 := HI.out.at_ hcx HR.out.2.1 (j := 10) (by omega)
        have p11 := HI.out.at_ hcx HR.out.2.1 (j := 11) (by omega)
        have HE7 : Hid (∀ W', Same noB w W' → EnIs W' bad x y) := by
          show ∀ W', _
          intro W' hs
          obtain ⟨y', hy', hi'⟩ := (H.out.keep hs).is.at_ hx
          rw [hy] at hy'
          injection hy' with hy'
          rw [hy']
          exact hi'
        have HSM5 := Lib.hid hsm
        obtain ⟨xi, xt, ⟨⟨sk, sc, sn, sb, sg, ss, sck, scm⟩, a1, a2, a3, a4, a5⟩⟩ := x
        simp only [En.cells, List.getElem?_cons_zero, List.getElem?_cons_succ] at p10 p11
        have hi0 : (0 : Int) ≤ (k : Int) := by omega
        have hi1 : (k : Int) < (n : Int) := by omega
        have HIq := HI
        clear hi hsm hx hcx hy
        go_wp2_with fail
        go_cut [24, 30] from 17 to 37 (fun _ _ wx => ∃ s1 s2, CpI w wx g n c (cur.set k (setF2 (setF1 ⟨xi, xt, ⟨⟨sk, sc, sn, sb, sg, ss, sck, scm⟩, a1, a2, a3, a4, a5⟩⟩ s1) s2)) ∧ SlIs wx (cpB w g) s1 y.c.l1 ∧ SlIs wx (cpB w g) s2 y.c.l2 ∧ Same (oneB g) wr wx)
        case first =>
          refine wp_region_T (S := CpS2 g k a1 a2) (late := fun j => [17, 21].contains j) (by kernel_rfl) ?_ (fun hHeld => ?_)
          · exact ⟨p10, p11⟩
          refine T_pure (i := 0) (v := ?va0) rfl (by kernel_rfl) (by kernel_rfl) (by kernel_rfl) (fun _ _ _ h => h) (Or.inl ⟨?_, ?_⟩) ?_
          rotate_left 1
          · rfl
          · (intro w hSw; clear hSw; go_simp; (try with_reducible rfl))
          go_simp
          refine T_pure (i := 1) (v := ?va1) rfl (by kernel_rfl) (by kernel_rfl) (by kernel_rfl) (fun _ _ _ h => h) (Or.inl ⟨?_, ?_⟩) ?_
          rotate_left 1
          · rfl
          · (intro w hSw; clear hSw; go_simp; (try with_reducible rfl))
          go_simp
          refine T_pure (i := 2) (v := ?va2) rfl (by kernel_rfl) (by kernel_rfl) (by kernel_rfl) (fun _ _ _ h => h) (Or.inl ⟨?_, ?_⟩) ?_
          rotate_left 1
          · rfl
          · (intro w hSw; clear hSw; go_simp; (try with_reducible rfl))
          go_simp
          refine T_pure (i := 3) (v := ?va3) rfl (by kernel_rfl) (by kernel_rfl) (by kernel_rfl) (fun _ _ _ h => h) (Or.inl ⟨?_, ?_⟩) ?_
          rotate_left 1
          · rfl
          · (intro w hSw; clear hSw; go_simp; (try with_reducible rfl))
          go_simp
          refine T_pure (i := 4) (v := ?va4) rfl (by kernel_rfl) (by kernel_rfl) (by kernel_rfl) (fun _ _ _ h => h) (Or.inl ⟨?_, ?_⟩) ?_
          rotate_left 1
          · rfl
          · (intro w hSw; clear hSw; go_simp; (try with_reducible rfl))
          go_simp
          refine T_pure (i := 5) (v := ?va5) rfl (by kernel_rfl) (by kernel_rfl) (by kernel_rfl) (fun _ _ _ h => h) (Or.inl ⟨?_, ?_⟩) ?_
          rotate_left 1
          · rfl
          · (intro w hSw; clear hSw; go_simp; (try with_reducible rfl))
          go_simp
          refine T_take (i := 6) (v := ?va6) rfl (by kernel_rfl) (by kernel_rfl) (by kernel_rfl) (by kernel_rfl) (fun _ _ _ h => h) (Or.inl ⟨?_, ?_⟩) (by assumption) ?_
          rotate_left 1
          · rfl
          · (intro w hSw; unfold CpS2 at hSw; go_simp; (try with_reducible rfl))
          go_simp
          refine T_pure (i := 8) (v := ?va8) rfl (by kernel_rfl) (by kernel_rfl) (by kernel_rfl) (fun _ _ _ h => h) (Or.inl ⟨?_, ?_⟩) ?_
          rotate_left 1
          · rfl
          · (intro w hSw; clear hSw; go_simp; (try with_reducible rfl))
          go_simp
          refine T_pure (i := 9) (v := ?va9) rfl (by kernel_rfl) (by kernel_rfl) (by kernel_rfl) (fun _ _ _ h => h) (Or.inl ⟨?_, ?_⟩) ?_
          rotate_left 1
          · rfl
          · (intro w hSw; clear hSw; go_simp; (try with_reducible rfl))
          go_simp
          refine T_pure (i := 10) (v := ?va10) rfl (by kernel_rfl) (by kernel_rfl) (by kernel_rfl) (fun _ _ _ h => h) (Or.inl ⟨?_, ?_⟩) ?_
          rotate_left 1
          · rfl
          · (intro w hSw; clear hSw; go_simp; (try with_reducible rfl))
          go_simp
          refine T_pure (i := 11) (v := ?va11) rfl (by kernel_rfl) (by kernel_rfl) (by kernel_rfl) (fun _ _ _ h => h) (Or.inl ⟨?_, ?_⟩) ?_
          rotate_left 1
          · rfl
          · (intro w hSw; clear hSw; go_simp; (try with_reducible rfl))
          go_simp
          refine T_take (i := 12) (v := ?va12) rfl (by kernel_rfl) (by kernel_rfl) (by kernel_rfl) (by kernel_rfl) (fun _ _ _ h => h) (Or.inl ⟨?_, ?_⟩) (by assumption) ?_
          rotate_left 1
          · rfl
          · (intro w hSw; unfold CpS2 at hSw; go_simp; (try with_reducible rfl))
          go_simp
          refine T_ready (rs := [7]) (by kernel_rfl) (by simp) ?_
          refine ReadyT.early rfl (fun K hK => ?_) ReadyT.nil
          go_simp
          (with_reducible refine Calls.mono (HZ1.out _ (by (repeat (first | exact Same.refl _ _ | assumption | refine Same.drew ?_ | refine Same.alloc ?_ _)))) ?_)
          rintro e W1 ⟨s1, rfl, hn⟩
          have hs1 := hn.app.since
          have hr1 : Same noB wr W1 := Same.trans' (by (repeat (first | exact Same.refl _ _ | assumption | refine Same.drew ?_ | refine Same.alloc ?_ _))) hs1
          have HN1 := Lib.hid (hn.is (bad := cpB w g) (cpB_lt HI.out (Nat.le_refl _)))
          have p10 := hs1.cell p10 (fun x => x)
          have p11 := hs1.cell p11 (fun x => x)

          clear hn
          clear hHeld
          go_wp2_with fail
          refine hK.out _ _ ?_ (fun hHeld => ?_)
          · exact ⟨p10, p11⟩
          clear hK K
          refine T_ready (rs := [13]) (by kernel_rfl) (by simp) ?_
          refine ReadyT.early rfl (fun K hK => ?_) ReadyT.nil
          go_simp
          (with_reducible refine Calls.mono (HZ2.out _ (by (repeat (first | exact Same.refl _ _ | assumption | refine Same.drew ?_ | refine Same.alloc ?_ _)))) ?_)
          rintro e W2 ⟨s2, rfl, hn⟩
          have hs2 := hn.app.since
          have hr2 : Same noB wr W2 := Same.trans' (by (repeat (first | exact Same.refl _ _ | assumption | refine Same.drew ?_ | refine Same.alloc ?_ _))) hs2
          have HN2 := Lib.hid (hn.is (bad := cpB w g) (cpB_lt HI.out hr1.size))
          have p10 := hs2.cell p10 (fun x => x)
          have p11 := hs2.cell p11 (fun x => x)
          have HN1 := Lib.hid (HN1.out.keep hs2)
          clear hn
          have HIW := Lib.hid (HI.out.keep hr2)
          have z10 := HIW.out.own.frozenAt (k * 15 + 10)
          have z11 := HIW.out.own.frozenAt (k * 15 + 11)
          have hgl := HIW.out.lt
          clear hHeld
          go_wp2_with fail
          refine hK.out _ _ ?_ (fun hHeld => ?_)
          · exact ⟨p10, p11⟩
          clear hK K
          refine T_pure (i := 14) (v := ?va14) rfl (by kernel_rfl) (by kernel_rfl) (by kernel_rfl) (fun _ _ _ h => h) (Or.inl ⟨?_, ?_⟩) ?_
          rotate_left 1
          · rfl
          · (intro w hSw; clear hSw; go_simp; (try with_reducible rfl))
          go_simp
          refine T_pure (i := 15) (v := ?va15) rfl (by kernel_rfl) (by kernel_rfl) (by kernel_rfl) (fun _ _ _ h => h) (Or.inl ⟨?_, ?_⟩) ?_
          rotate_left 1
          · rfl
          · (intro w hSw; clear hSw; go_simp; (try with_reducible rfl))
          go_simp
          refine T_pure (i := 16) (v := ?va16) rfl (by kernel_rfl) (by kernel_rfl) (by kernel_rfl) (fun _ _ _ h => h) (Or.inl ⟨?_, ?_⟩) ?_
          rotate_left 1
          · rfl
          · (intro w hSw; clear hSw; go_simp; (try with_reducible rfl))
          go_simp
          refine T_ready (rs := [17]) (by kernel_rfl) (by simp) ?_
          refine ReadyT.behind rfl rfl (fun K hK => ?_) ReadyT.nil
          go_simp
          skip
          refine hK.out _ _ ?_
          clear hK K
          refine T_pure (i := 18) (v := ?va18) rfl (by kernel_rfl) (by kernel_rfl) (by kernel_rfl) (fun _ _ _ h => h) (Or.inl ⟨?_, ?_⟩) ?_
          rotate_left 1
          · rfl
          · (intro w hSw; clear hSw; go_simp; (try with_reducible rfl))
          go_simp
          refine T_pure (i := 19) (v := ?va19) rfl (by kernel_rfl) (by kernel_rfl) (by kernel_rfl) (fun _ _ _ h => h) (Or.inl ⟨?_, ?_⟩) ?_
          rotate_left 1
          · rfl
          · (intro w hSw; clear hSw; go_simp; (try with_reducible rfl))
          go_simp
          refine T_pure (i := 20) (v := ?va20) rfl (by kernel_rfl) (by kernel_rfl) (by kernel_rfl) (fun _ _ _ h => h) (Or.inl ⟨?_, ?_⟩) ?_
          rotate_left 1
          · rfl
          · (intro w hSw; clear hSw; go_simp; (try with_reducible rfl))
          go_simp
          refine T_ready (rs := [21]) (by kernel_rfl) (by simp) ?_
          refine ReadyT.behind rfl rfl (fun K hK => ?_) ReadyT.nil
          go_simp
          skip
          refine hK.out _ _ ?_
          clear hK K
          refine T_done (by kernel_rfl) ?_ _
          all_goals go_wp2_with fail
          all_goals
            go_meet
            exact ⟨s1, s2, cp_two HIW.out HCX.out.1 HN1.out HN2.out hr2⟩
        case rest =>
          obtain ⟨s1, s2, h1, hn1, hn2, hsg⟩ := hcut
          have HI7 := Lib.hid h1
          have HS1 := Lib.hid hn1
          have HS2 := Lib.hid hn2
          have HG := Lib.hid hsg
          have hxk := set_at (e' := setF2 (setF1 ⟨xi, xt, ⟨⟨sk, sc, sn, sb, sg, ss, sck, scm⟩, a1, a2, a3, a4, a5⟩⟩ s1) s2) HCX.out.1
          have hlk : (cur.set k (setF2 (setF1 ⟨xi, xt, ⟨⟨sk, sc, sn, sb, sg, ss, sck, scm⟩, a1, a2, a3, a4, a5⟩⟩ s1) s2)).length = n := by rw [List.length_set]; exact HCX.out.2.2
          have HK7 := Lib.hid hxk
          have p12 := h1.at_ hxk hlk (j := 12) (by omega)
          have p13 := h1.at_ hxk hlk (j := 13) (by omega)
          have p14 := h1.at_ hxk hlk (j := 14) (by omega)
          have hi7 := HE7.out wc h1.since
          have HZ3 := Lib.hid (fun (W' : World) (hs : Same noB wc W') => clone63_any (w := W') (hi7.c.f3.keep hs) (Nat.le_trans HSM5.out.l3 (by omega)))
          have HZ4 := Lib.hid (fun (W' : World) (hs : Same noB wc W') => clone63_any (w := W') (hi7.c.f4.keep hs) (Nat.le_trans HSM5.out.l4 (by omega)))
          have HZ5 := Lib.hid (fun (W' : World) (hs : Same noB wc W') => clone63_any (w := W') (hi7.c.f5.keep hs) (Nat.le_trans HSM5.out.l5 (by omega)))
          simp only [setF1, setF2, En.cells, List.getElem?_cons_zero, List.getElem?_cons_succ] at p12 p13 p14
          have hei := hi7.i
          have het := hi7.t
          have hes := hi7.c.s
          have HES := Lib.hid (And.intro hei (And.intro het hes))
          clear h1 hn1 hn2 hsg hxk hlk hi7 hei het hes p10 p11
          go_wp2_with fail
          refine wp_region_T (S := CpS3 g k a3 a4 a5) (late := fun j => [24, 28, 32].contains j) (by kernel_rfl) ?_ (fun hHeld => ?_)
          · exact ⟨p12, p13, p14⟩
          refine T_pure (i := 0) (v := ?vb0) rfl (by kernel_rfl) (by kernel_rfl) (by kernel_rfl) (fun _ _ _ h => h) (Or.inl ⟨?_, ?_⟩) ?_
          rotate_left 1
          · rfl
          · (intro w hSw; clear hSw; go_simp; (try with_reducible rfl))
          go_simp
          refine T_pure (i := 1) (v := ?vb1) rfl (by kernel_rfl) (by kernel_rfl) (by kernel_rfl) (fun _ _ _ h => h) (Or.inl ⟨?_, ?_⟩) ?_
          rotate_left 1
          · rfl
          · (intro w hSw; clear hSw; go_simp; (try with_reducible rfl))
          go_simp
          refine T_pure (i := 2) (v := ?vb2) rfl (by kernel_rfl) (by kernel_rfl) (by kernel_rfl) (fun _ _ _ h => h) (Or.inl ⟨?_, ?_⟩) ?_
          rotate_left 1
          · rfl
          · (intro w hSw; clear hSw; go_simp; (try with_reducible rfl))
          go_simp
          refine T_pure (i := 3) (v := ?vb3) rfl (by kernel_rfl) (by kernel_rfl) (by kernel_rfl) (fun _ _ _ h => h) (Or.inl ⟨?_, ?_⟩) ?_
          rotate_left 1
          · rfl
          · (intro w hSw; clear hSw; go_simp; (try with_reducible rfl))
          go_simp
          refine T_pure (i := 4) (v := ?vb4) rfl (by kernel_rfl) (by kernel_rfl) (by kernel_rfl) (fun _ _ _ h => h) (Or.inl ⟨?_, ?_⟩) ?_
          rotate_left 1
          · rfl
          · (intro w hSw; clear hSw; go_simp; (try with_reducible rfl))
          go_simp
          refine T_pure (i := 5) (v := ?vb5) rfl (by kernel_rfl) (by kernel_rfl) (by kernel_rfl) (fun _ _ _ h => h) (Or.inl ⟨?_, ?_⟩) ?_
          rotate_left 1
          · rfl
          · (intro w hSw; clear hSw; go_simp; (try with_reducible rfl))
          go_simp
          refine T_pure (i := 6) (v := ?vb6) rfl (by kernel_rfl) (by kernel_rfl) (by kernel_rfl) (fun _ _ _ h => h) (Or.inl ⟨?_, ?_⟩) ?_
          rotate_left 1
          · rfl
          · (intro w hSw; clear hSw; go_simp; (try with_reducible rfl))
          go_simp
          refine T_take (i := 7) (v := ?vb7) rfl (by kernel_rfl) (by kernel_rfl) (by kernel_rfl) (by kernel_rfl) (fun _ _ _ h => h) (Or.inl ⟨?_, ?_⟩) (by assumption) ?_
          rotate_left 1
          · rfl
          · (intro w hSw; unfold CpS3 at hSw; go_simp; (try with_reducible rfl))
          go_simp
          refine T_pure (i := 9) (v := ?vb9) rfl (by kernel_rfl) (by kernel_rfl) (by kernel_rfl) (fun _ _ _ h => h) (Or.inl ⟨?_, ?_⟩) ?_
          rotate_left 1
          · rfl
          · (intro w hSw; clear hSw; go_simp; (try with_reducible rfl))
          go_simp
          refine T_pure (i := 10) (v := ?vb10) rfl (by kernel_rfl) (by kernel_rfl) (by kernel_rfl) (fun _ _ _ h => h) (Or.inl ⟨?_, ?_⟩) ?_
          rotate_left 1
          · rfl
          · (intro w hSw; clear hSw; go_simp; (try with_reducible rfl))
          go_simp
          refine T_pure (i := 11) (v := ?vb11) rfl (by kernel_rfl) (by kernel_rfl) (by kernel_rfl) (fun _ _ _ h => h) (Or.inl ⟨?_, ?_⟩) ?_
          rotate_left 1
          · rfl
          · (intro w hSw; clear hSw; go_simp; (try with_reducible rfl))
          go_simp
          refine T_pure (i := 12) (v := ?vb12) rfl (by kernel_rfl) (by kernel_rfl) (by kernel_rfl) (fun _ _ _ h => h) (Or.inl ⟨?_, ?_⟩) ?_
          rotate_left 1
          · rfl
          · (intro w hSw; clear hSw; go_simp; (try with_reducible rfl))
          go_simp
          refine T_take (i := 13) (v := ?vb13) rfl (by kernel_rfl) (by kernel_rfl) (by kernel_rfl) (by kernel_rfl) (fun _ _ _ h => h) (Or.inl ⟨?_, ?_⟩) (by assumption) ?_
          rotate_left 1
          · rfl
          · (intro w hSw; unfold CpS3 at hSw; go_simp; (try with_reducible rfl))
          go_simp
          refine T_pure (i := 15) (v := ?vb15) rfl (by kernel_rfl) (by kernel_rfl) (by kernel_rfl) (fun _ _ _ h => h) (Or.inl ⟨?_, ?_⟩) ?_
          rotate_left 1
          · rfl
          · (intro w hSw; clear hSw; go_simp; (try with_reducible rfl))
          go_simp
          refine T_pure (i := 16) (v := ?vb16) rfl (by kernel_rfl) (by kernel_rfl) (by kernel_rfl) (fun _ _ _ h => h) (Or.inl ⟨?_, ?_⟩) ?_
          rotate_left 1
          · rfl
          · (intro w hSw; clear hSw; go_simp; (try with_reducible rfl))
          go_simp
          refine T_pure (i := 17) (v := ?vb17) rfl (by kernel_rfl) (by kernel_rfl) (by kernel_rfl) (fun _ _ _ h => h) (Or.inl ⟨?_, ?_⟩) ?_
          rotate_left 1
          · rfl
          · (intro w hSw; clear hSw; go_simp; (try with_reducible rfl))
          go_simp
          refine T_pure (i := 18) (v := ?vb18) rfl (by kernel_rfl) (by kernel_rfl) (by kernel_rfl) (fun _ _ _ h => h) (Or.inl ⟨?_, ?_⟩) ?_
          rotate_left 1
          · rfl
          · (intro w hSw; clear hSw; go_simp; (try with_reducible rfl))
          go_simp
          refine T_take (i := 19) (v := ?vb19) rfl (by kernel_rfl) (by kernel_rfl) (by kernel_rfl) (by kernel_rfl) (fun _ _ _ h => h) (Or.inl ⟨?_, ?_⟩) (by assumption) ?_
          rotate_left 1
          · rfl
          · (intro w hSw; unfold CpS3 at hSw; go_simp; (try with_reducible rfl))
          go_simp
          refine T_ready (rs := [8]) (by kernel_rfl) (by simp) ?_
          refine ReadyT.early rfl (fun K hK => ?_) ReadyT.nil
          go_simp
          (with_reducible refine Calls.mono (HZ3.out _ (by (repeat (first | exact Same.refl _ _ | assumption | refine Same.drew ?_ | refine Same.alloc ?_ _)))) ?_)
          rintro e W3 ⟨s3, rfl, hn⟩
          have hs3 := hn.app.since
          have hr3 : Same noB wc W3 := Same.trans' (by (repeat (first | exact Same.refl _ _ | assumption | refine Same.drew ?_ | refine Same.alloc ?_ _))) hs3
          have HN3 := Lib.hid (hn.is (bad := cpB w g) (cpB_lt HI7.out (Nat.le_refl _)))
          have HF3 := Lib.hid (hn.slg HI7.out.lt)
          have p12 := hs3.cell p12 (fun x => x)
          have p13 := hs3.cell p13 (fun x => x)
          have p14 := hs3.cell p14 (fun x => x)

          clear hn
          clear hHeld
          go_wp2_with fail
          refine hK.out _ _ ?_ (fun hHeld => ?_)
          · exact ⟨p12, p13, p14⟩
          clear hK K
          refine T_ready (rs := [14]) (by kernel_rfl) (by simp) ?_
          refine ReadyT.early rfl (fun K hK => ?_) ReadyT.nil
          go_simp
          (with_reducible refine Calls.mono (HZ4.out _ (by (repeat (first | exact Same.refl _ _ | assumption | refine Same.drew ?_ | refine Same.alloc ?_ _)))) ?_)
          rintro e W4 ⟨s4, rfl, hn⟩
          have hs4 := hn.app.since
          have hr4 : Same noB wc W4 := Same.trans' (by (repeat (first | exact Same.refl _ _ | assumption | refine Same.drew ?_ | refine Same.alloc ?_ _))) hs4
          have HN4 := Lib.hid (hn.is (bad := cpB w g) (cpB_lt HI7.out hr3.size))
          have p12 := hs4.cell p12 (fun x => x)
          have p13 := hs4.cell p13 (fun x => x)
          have p14 := hs4.cell p14 (fun x => x)
          have HN3 := Lib.hid (HN3.out.keep hs4)
          have HF3 := Lib.hid (HF3.out.keep hs4)
          clear hn
          clear hHeld
          go_wp2_with fail
          refine hK.out _ _ ?_ (fun hHeld => ?_)
          · exact ⟨p12, p13, p14⟩
          clear hK K
          refine T_ready (rs := [20]) (by kernel_rfl) (by simp) ?_
          refine ReadyT.early rfl (fun K hK => ?_) ReadyT.nil
          go_simp
          (with_reducible refine Calls.mono (HZ5.out _ (by (repeat (first | exact Same.refl _ _ | assumption | refine Same.drew ?_ | refine Same.alloc ?_ _)))) ?_)
          rintro e W5 ⟨s5, rfl, hn⟩
          have hs5 := hn.app.since
          have hr5 : Same noB wc W5 := Same.trans' (by (repeat (first | exact Same.refl _ _ | assumption | refine Same.drew ?_ | refine Same.alloc ?_ _))) hs5
          have HN5 := Lib.hid (hn.is (bad := cpB w g) (cpB_lt HI7.out hr4.size))
          have p12 := hs5.cell p12 (fun x => x)
          have p13 := hs5.cell p13 (fun x => x)
          have p14 := hs5.cell p14 (fun x => x)
          have HN3 := Lib.hid (HN3.out.keep hs5)
          have HF3 := Lib.hid (HF3.out.keep hs5)
          have HN4 := Lib.hid (HN4.out.keep hs5)
          clear hn
          have HIW := Lib.hid (HI7.out.keep hr5)
          have z12 := HIW.out.own.frozenAt (k * 15 + 12)
          have z13 := HIW.out.own.frozenAt (k * 15 + 13)
          have z14 := HIW.out.own.frozenAt (k * 15 + 14)
          have hgl := HIW.out.lt
          clear hHeld
          go_wp2_with fail
          refine hK.out _ _ ?_ (fun hHeld => ?_)
          · exact ⟨p12, p13, p14⟩
          clear hK K
          refine T_pure (i := 21) (v := ?vb21) rfl (by kernel_rfl) (by kernel_rfl) (by kernel_rfl) (fun _ _ _ h => h) (Or.inl ⟨?_, ?_⟩) ?_
          rotate_left 1
          · rfl
          · (intro w hSw; clear hSw; go_simp; (try with_reducible rfl))
          go_simp
          refine T_pure (i := 22) (v := ?vb22) rfl (by kernel_rfl) (by kernel_rfl) (by kernel_rfl) (fun _ _ _ h => h) (Or.inl ⟨?_, ?_⟩) ?_
          rotate_left 1
          · rfl
          · (intro w hSw; clear hSw; go_simp; (try with_reducible rfl))
          go_simp
          refine T_pure (i := 23) (v := ?vb23) rfl (by kernel_rfl) (by kernel_rfl) (by kernel_rfl) (fun _ _ _ h => h) (Or.inl ⟨?_, ?_⟩) ?_
          rotate_left 1
          · rfl
          · (intro w hSw; clear hSw; go_simp; (try with_reducible rfl))
          go_simp
          refine T_ready (rs := [24]) (by kernel_rfl) (by simp) ?_
          refine ReadyT.behind rfl rfl (fun K hK => ?_) ReadyT.nil
          go_simp
          skip
          refine hK.out _ _ ?_
          clear hK K
          refine T_pure (i := 25) (v := ?vb25) rfl (by kernel_rfl) (by kernel_rfl) (by kernel_rfl) (fun _ _ _ h => h) (Or.inl ⟨?_, ?_⟩) ?_
          rotate_left 1
          · rfl
          · (intro w hSw; clear hSw; go_simp; (try with_reducible rfl))
          go_simp
          refine T_pure (i := 26) (v := ?vb26) rfl (by kernel_rfl) (by kernel_rfl) (by kernel_rfl) (fun _ _ _ h => h) (Or.inl ⟨?_, ?_⟩) ?_
          rotate_left 1
          · rfl
          · (intro w hSw; clear hSw; go_simp; (try with_reducible rfl))
          go_simp
          refine T_pure (i := 27) (v := ?vb27) rfl (by kernel_rfl) (by kernel_rfl) (by kernel_rfl) (fun _ _ _ h => h) (Or.inl ⟨?_, ?_⟩) ?_
          rotate_left 1
          · rfl
          · (intro w hSw; clear hSw; go_simp; (try with_reducible rfl))
          go_simp
          refine T_ready (rs := [28]) (by kernel_rfl) (by simp) ?_
          refine ReadyT.behind rfl rfl (fun K hK => ?_) ReadyT.nil
          go_simp
          skip
          refine hK.out _ _ ?_
          clear hK K
          refine T_pure (i := 29) (v := ?vb29) rfl (by kernel_rfl) (by kernel_rfl) (by kernel_rfl) (fun _ _ _ h => h) (Or.inl ⟨?_, ?_⟩) ?_
          rotate_left 1
          · rfl
          · (intro w hSw; clear hSw; go_simp; (try with_reducible rfl))
          go_simp
          refine T_pure (i := 30) (v := ?vb30) rfl (by kernel_rfl) (by kernel_rfl) (by kernel_rfl) (fun _ _ _ h => h) (Or.inl ⟨?_, ?_⟩) ?_
          rotate_left 1
          · rfl
          · (intro w hSw; clear hSw; go_simp; (try with_reducible rfl))
          go_simp
          refine T_pure (i := 31) (v := ?vb31) rfl (by kernel_rfl) (by kernel_rfl) (by kernel_rfl) (fun _ _ _ h => h) (Or.inl ⟨?_, ?_⟩) ?_
          rotate_left 1
          · rfl
          · (intro w hSw; clear hSw; go_simp; (try with_reducible rfl))
          go_simp
          refine T_ready (rs := [32]) (by kernel_rfl) (by simp) ?_
          refine ReadyT.behind rfl rfl (fun K hK => ?_) ReadyT.nil
          go_simp
          skip
          refine hK.out _ _ ?_
          clear hK K
          refine T_done (by kernel_rfl) ?_ _
          have HT := Lib.hid (cp_three HIW.out HK7.out HN3.out HN4.out HN5.out hr5)
          have HTF := Lib.hid (slg_three (k := k) (s3 := s3) (s4 := s4) (s5 := s5) HF3.out)
          rw [List.set_set] at HT
          go_wp2_with fail
          go_roundg (gk - 1)
          case measure => have h1 := HK.out; omega
          case rel =>
            obtain ⟨t1, t3, t4, t5, tg⟩ := HT.out
            refine ⟨k + 1, _, by omega, by show _ = _; have h1 := HK.out; omega, by go_num, t1, by rw [List.length_set]; exact HCX.out.2.2, fun j hj => ?_, fun j e z hj he hz => ?_⟩
            · rw [List.getElem?_set_ne (by omega)]
              exact HR.out.2.2.1 j (by omega)
            · by_cases hjk : j = k
              · subst hjk
                rw [set_at HCX.out.1] at he
                injection he with he
                subst he
                rw [HCX.out.2.1] at hz
                injection hz with hz
                subst hz
                exact ⟨⟨HES.out.1, HES.out.2.1, ⟨HES.out.2.2, HS1.out.same tg (fun _ _ e => .inr e) (fun _ _ x => x), HS2.out.same tg (fun _ _ e => .inr e) (fun _ _ x => x), t3, t4, t5⟩⟩, HTF.out⟩
              · rw [List.getElem?_set_ne (by omega)] at he
                exact ⟨(HR.out.2.2.2 j e z (by omega) he hz).1.same (HG.out.trans' tg) (fun _ _ e => .inr e) (fun _ _ x => x), (HR.out.2.2.2 j e z (by omega) he hz).2.same (HG.out.trans' tg) (fun b e => e)⟩
      · obtain rfl : k = n := by omega
        go_wp2_with fail
        go_ret
        refine ⟨_, cur, rfl, ⟨⟨by rw [HR.out.2.1]; exact HR.out.1.own, fun g' hg' => by injection hg' with hg'; rw [← hg']; exact HR.out.1.new, all2_of (by rw [HR.out.2.1, ← HNL.out]; exact HEL.out) (fun j a b ha hb => ?_), HR.out.1.since⟩, fun e he => ?_⟩⟩
        · exact (HR.out.2.2.2 j a b (by have := (List.getElem?_eq_some_iff.1 ha).1; have := HR.out.2.1; omega) ha hb).1.same (Same.refl noB _) (fun _ _ x => x.elim) (fun b _ hb => by rcases hb with hb | hb; exact .inl hb; exact .inr (by injection hb))
        · obtain ⟨j, hj, hje⟩ := List.getElem_of_mem he
          have hv : j < vs.length := by have := HR.out.2.1; have := HNL.out; have := HEL.out; omega
          exact (HR.out.2.2.2 j e vs[j] (by have := HR.out.2.1; omega) (List.getElem?_eq_some_iff.2 ⟨hj, hje⟩) (List.getElem?_eq_getElem hv)).2.f
theorem from2_any {w : World} {M : Nat} {v : Value} {es : List En} {g : Lg} (h : LogIs w M v es g) (hf : g.Fit) (hsm : ∀ x ∈ g.es, x.c.Sm) {i most : Int} (hi : inI64 i) (hm : inI64 most) :
    Calls Try.prog 19 #[.pointer (some ⟨M, 0, none⟩), .int .i64 i, .int .i64 most] w fun e w' => ∃ v', e = .returned v' ∧ ∃ es', CopyF w w' v' es' (g.fromL i most) := by
  obtain ⟨A, c, rfl, hc1, hc2⟩ := h.form
  obtain ⟨c0, c1, c2⟩ := h.cells
  have hl := h.len
  have hfl := hf.len
  have hlo := hf.lo
  have hhi := hf.hi
  have hi1 := hi.2
  have hm1 := hm.2
  obtain ⟨j, hj⟩ : ∃ j, (if i < g.base + 1 then g.base + 1 else i) = j := ⟨_, rfl⟩
  have hj1 : g.base + 1 ≤ j := by split at hj <;> omega
  have hj2 : j ≤ 9223372036854775807 := by split at hj <;> omega
  obtain ⟨a, ha⟩ : ∃ a : Nat, j - g.base = (a : Int) + 1 := ⟨(j - g.base - 1).toNat, by omega⟩
  have hat : g.atOf i = a := by unfold Lg.atOf; split at hj <;> omega
  have hw1 : IntKind.i64.wrap (g.base + 1) = g.base + 1 := IntWalk.i64_in _ (by omega)
  have hw2 : IntKind.i64.wrap (j - g.base) = (a : Int) + 1 := by rw [IntWalk.i64_in _ (by omega), ha]
  have hw3 : IntKind.i64.wrap (a : Int) = (a : Int) := IntWalk.i64_in _ (by omega)
  by_cases h2 : a < es.length
  · by_cases h3 : 0 < most
    · obtain ⟨x, hx⟩ : ∃ x, g.es[a]? = some x := ⟨_, List.getElem?_eq_getElem (by omega)⟩
      obtain ⟨b, o, e, hA, _⟩ := h.at_ hx
      subst hA
      obtain ⟨k, hk⟩ : ∃ k : Nat, (if (es.length : Int) < most then (es.length : Int) else most) = (k : Int) := ⟨(if (es.length : Int) < most then (es.length : Int) else most).toNat, by split <;> omega⟩
      have hk1 : k ≤ es.length := by split at hk <;> omega
      have hk2 : 0 < k := by split at hk <;> omega
      obtain ⟨m, hm⟩ : ∃ m : Nat, (if (a : Int) + (k : Int) < (es.length : Int) then (a : Int) + (k : Int) else (es.length : Int)) = (m : Int) := ⟨(if (a : Int) + (k : Int) < (es.length : Int) then (a : Int) + (k : Int) else (es.length : Int)).toNat, by split <;> omega⟩
      have hm2 : a ≤ m := by split at hm <;> omega
      have hm3 : m ≤ es.length := by split at hm <;> omega
      have hL : (g.es.drop a).take (m - a) = g.fromL i most := by
        unfold Lg.fromL
        rw [hat, List.take_eq_take_iff, List.length_drop, ← hl]
        split at hm <;> split at hk <;> omega
      have hen := enl_slice h.enl (a := a) (m := m) hm2 hm3 h2
      have HZ := Lib.hid (fun (W' : World) (hs : Same noB w W') => (copied2_any (w := W') (hen.keep hs) (by rw [List.length_take, List.length_drop]; omega) (fun x hx => hsm x (List.mem_of_mem_drop (List.mem_of_mem_take hx)))).mono (R' := fun e w2 => ∃ v', e = .returned v' ∧ Same noB W' w2 ∧ ∃ es', CopyF W' w2 v' es' (g.fromL i most)) (by
        rintro e w2 ⟨v', es', rfl, hc⟩
        exact ⟨v', rfl, hc.1.since, es', hL ▸ hc⟩))
      exact from_core c0 c2 hj hw1 hw2 hw3 (by omega) h3 hk (IntWalk.i64_in _ (by omega)) hm hm2 (by omega) (by omega) HZ (Lib.hid fun W' v' w2 hs ⟨es', hc⟩ => ⟨es', hc.before hs⟩)
    · refine (from_few c0 c2 hj hw1 hw2 hw3 h2 (by omega)).mono ?_
      rintro e w' ⟨rfl, hs⟩
      refine ⟨_, rfl, [], ?_⟩
      have : g.fromL i most = [] := by
        unfold Lg.fromL
        rw [show most.toNat = 0 from by omega, List.take_zero]
      rw [this]
      exact copyF_nil hs
  · refine (from_out c0 c2 hj hw1 hw2 hw3 (by omega)).mono ?_
    rintro e w' ⟨rfl, hs⟩
    refine ⟨_, rfl, [], ?_⟩
    have : g.fromL i most = [] := by
      unfold Lg.fromL
      rw [hat, List.drop_eq_nil_of_le (by omega), List.take_nil]
    rw [this]
    exact copyF_nil hs
theorem append2_any {w : World} {bad : Nat → Prop} {M : Nat} {v cv : Value} {es : List En} {g : Lg} {cs : List Cm} {vs : List CmV} (h : LogIs w M v es g) (hf : g.Fit) (hl : 0 ≤ g.last.1 ∧ g.last.1 ≤ 4398046511104) (hc : CmL w bad cv cs vs) (hlb : ∀ b, lgB M v b → bad b) (hcl : vs.length ≤ 1000) (hsm : ∀ x ∈ vs, x.Sm) (t : Int) :
    Calls Try.prog 27 #[.pointer (some ⟨M, 0, none⟩), .int .i64 t, cv] w fun r w' => ∃ W3 o os, r = .returned o ∧ LogToB w W3 M v es g (g.append t vs).1 ∧ CopyF W3 w' o os (g.append t vs).2 := by
  have hT := fun (W : World) (hs : Same noB w W) => last_any (h.keep hs) hf
  obtain ⟨A, c, rfl, hc1, hc2⟩ := h.form
  obtain ⟨C, nc, rfl, hd1, hd2, hcr⟩ := hc.rd.form
  unfold Lg.append
  by_cases ht : t < g.last.2
  · rw [if_pos ht]
    refine (append_no ht (Lib.hid hT)).mono ?_
    rintro r w' ⟨rfl, hs⟩
    exact ⟨w', _, [], rfl, LogToB.same h hs, copyF_nil (Same.refl _ _)⟩
  · rw [if_neg ht]
    have hcc := hc.is.len
    have hl2 := h.len
    have hfl := hf.len
    have hMA : (Value.slice A es.length c).ownBlock ≠ some M := by
      intro e
      obtain ⟨ds, hb⟩ := own_blk h.own e
      exact Blk.ne_ h.box hb (by decide) rfl
    have hHC : ∀ (W : World) (v : Value), Same (lgB M (.slice A es.length c)) w W → Rd W noB 15 v cs.length (ecells (appE (g.last.1 + 1) t cs)) → Calls Try.prog 51 #[v] W fun r w' => ∃ O on oc os, r = .returned (.slice O on oc) ∧ os.length = on ∧ on = cs.length ∧ w'.ownsRow 0 57 15 (.slice O on oc) on (ecells os) ∧ Same noB W w' ∧ CopyF W w' (.slice O on oc) os (appV (g.last.1 + 1) t vs) := by
      intro W v hs hrd
      have hE := app_all2 (hc.is.imp fun _ _ k => k.same (bad' := noB) hs (fun b _ hb => hlb b hb) (fun _ _ x => x.elim)) (g.last.1 + 1) t
      refine (copied2_any (es := appE (g.last.1 + 1) t cs) ⟨by rw [appE_len]; exact hrd, hE⟩ (by rw [appV_len]; omega) (appV_sm hsm)).mono ?_
      rintro r w' ⟨v', es', rfl, hcp⟩
      obtain ⟨O, oc, rfl⟩ := own_form hcp.1.own
      have hl := hcp.1.is.len
      rw [appV_len] at hl
      exact ⟨O, _, oc, es', rfl, rfl, by omega, hcp.1.own, hcp.1.since, hcp⟩
    refine (append_yes (n := es.length) (Q := fun W v os w' => CopyF W w' v os (appV (g.last.1 + 1) t vs)) ht hl.1 hl.2 rfl (by omega) h.box h.own hMA hcr (by omega) (Lib.hid hT) (Lib.hid hHC)).mono ?_
    rintro r w' ⟨W1, W2, W3, v1, v2, os1, os2, A3, c3, rfl, hs1, hq1, hs12, hs23, hown, hat, hbox, hq2, hs3⟩
    have hL := h.box.lt
    have hsz1 := hs1.size
    have hsz2 := hs12.size
    have hOL : ∀ b, (Value.slice A es.length c).ownBlock = some b → b < w.heap.size := fun b hb => (h.own.lt b hb).2
    have hs02 : Same noB w W2 := hs1.trans' hs12
    have hall : Same (lgB M (.slice A es.length c)) w W3 := hs02.of_no.trans' hs23
    have hl1 := hq1.1.is.len
    rw [appV_len] at hl1
    have hold : ∀ b, b < w.heap.size → lgB M (.slice A3 (es.length + cs.length) c3) b → lgB M (.slice A es.length c) b := by
      intro b hb hx
      rcases hx with hx | hx
      · exact .inl hx
      · rcases hat with ha | ha
        · exact .inr (by rw [← ha]; exact hx)
        · have := ha b hx.symm; omega
    have hnew : ∀ b, b < W2.heap.size → lgB M (.slice A3 (es.length + cs.length) c3) b → b < W1.heap.size := by
      intro b hb hx
      rcases hx with hx | hx
      · have h3 : b = M := hx; omega
      · rcases hat with ha | ha
        · have := hOL b (by rw [← ha]; exact hx.symm); omega
        · have := ha b hx.symm; omega
    have hnewS : ∀ b, lgB M (.slice A es.length c) b → b < W1.heap.size := by
      intro b hx
      rcases hx with hx | hx
      · have h3 : b = M := hx; omega
      · have := hOL b hx.symm; omega
    refine ⟨W3, v2, os2, rfl, ⟨.slice A3 (es.length + cs.length) c3, es ++ os1, ⟨hbox, ?_, ?_⟩, hall, ?_, ?_⟩, hq2⟩
    · rw [List.length_append, show os1.length = cs.length from by omega]
      exact hown
    · exact (h.is.imp fun _ _ k => k.same hall (fun _ _ x => x) hold).app (hq1.1.is.imp fun _ _ k => k.same hs23 (fun b _ hb => .inl (hnewS b hb)) (fun b hb hx => .inl (hnew b hb hx)))
    · intro b hb
      rcases hat with ha | ha
      · exact .inl (by rw [← ha]; exact hb)
      · have := ha b hb; exact .inr (by omega)
    · intro B hB hA
      refine (hA.imp fun _ _ k => k.same hall (fun _ _ x => .inl x) (fun b hb hx => hx.imp (hold b hb) id)).app (hq1.1.is.imp fun _ _ k => k.same hs23 (fun b _ hb => .inl (hnewS b hb)) (fun b hb hx => ?_))
      rcases hx with hx | hx
      · exact .inl (hnew b hb hx)
      · have := hB b hx; exact .inl (by omega)
end Go.Proofs.Ytlocfbjeljgblaa
