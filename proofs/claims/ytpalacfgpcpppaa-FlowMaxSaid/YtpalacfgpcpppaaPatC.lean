/- Layer 10: Paths of the program. (kept by hand; region 10 was printed by latewalk.py) -/
import Derived.Test.YtpalacfgpcpppaaPatB
import Derived.Test.YtpalacfgpcpppaaFloU
namespace Go.Proofs.Ytpalacfgpcpppaa
open Go Go.RowKit Go.Maps
set_option maxRecDepth 100000

theorem results_3 {fn : Func} {t u v : Tmp} (h : fn.results = #[.tmp t, .tmp u, .tmp v]) (tmps : Array Value) (P : Program) (w : World) :
    (results fn tmps).run P w = .ok (.tuple #[tmps.getD t undef, tmps.getD u undef, tmps.getD v undef]) w := by
  simp [results, h]
theorem idx_oneN {q : List Nat} (hn : q.Nodup) {i j : Nat} {v : Nat} (hi : q[i]? = some v) (hj : q[j]? = some v) : i = j := by
  obtain ⟨h1, h2⟩ := List.getElem?_eq_some_iff.1 hi
  obtain ⟨h3, h4⟩ := List.getElem?_eq_some_iff.1 hj
  exact (List.getElem_inj hn).1 (h2.trans h4.symm)
theorem not_take {q : List Nat} (hn : q.Nodup) {i : Nat} {v : Nat} (hi : q[i]? = some v) : v ∉ q.take i := fun hm => by
  obtain ⟨p, hp, e⟩ := List.getElem_of_mem hm
  rw [List.length_take] at hp
  have h2 : q[p]? = some v := by
    rw [← e, List.getElem_take]
    exact List.getElem?_eq_getElem (by omega)
  have := idx_oneN hn h2 hi
  omega
theorem row_one (w : World) (x : Int) : (w.alloc (.cells #[.int .i64 x] 3)).ownsRow 0 3 1 (.slice (some ⟨w.heap.size, 0, none⟩) 1 1) 1 (icells [x]) :=
  ⟨rfl, .inr ⟨w.heap.size, 1, _, rfl, Nat.zero_le _, heap_alloc_new w _, Nat.le_refl _, by simp [maxLen], rfl, rfl⟩⟩
theorem row_one_at (w : World) (x : Int) : AppAt w (w.alloc (.cells #[.int .i64 x] 3)) (.slice (some ⟨w.heap.size, 0, none⟩) 1 1) 1 3 1 (icells [x]) :=
  ⟨row_one w x, fun g hg => by simp [Value.ownBlock] at hg; omega, (Same.refl _ _).alloc _⟩
/-- The paths as they lie in memory. -/
def PathsIs (w : World) (v : Value) (P : List (List Int)) : Prop := ∃ vs : List Value, vs.length = P.length ∧ Rd w noB 1 v P.length vs ∧ ∀ (i : Nat) (u : Value) (p : List Int), vs[i]? = some u → P[i]? = some p → ∃ A c, u = .slice A p.length c ∧ Rd w noB 1 u p.length (icells p)
theorem PathsIs.keep {w w' : World} {v : Value} {P : List (List Int)} (h : PathsIs w v P) (hs : Same noB w w') : PathsIs w' v P := by
  obtain ⟨vs, h1, h2, h3⟩ := h
  refine ⟨vs, h1, h2.keep hs, fun i u p a b => ?_⟩
  obtain ⟨A, c, e, r⟩ := h3 i u p a b
  exact ⟨A, c, e, r.keep hs⟩
theorem Adj.wider {w w0 W : World} {B nm : Nat} {f : Int → Option Value} {adj : Int → List Int} (h : Adj w0 W B nm f adj) (hs : w.heap.size ≤ w0.heap.size) : Adj w W B nm f adj :=
  ⟨h.map, h.row, h.apart, fun v g hg => Nat.le_trans hs (h.new v g hg), Nat.le_trans hs h.lb⟩
theorem PtB.out {w W : World} {n : NetV} {N B nm : Nat} {f : Int → Option Value} {P : List (List Int)} {vs : List Value} (h : PtB w W n N B nm f P vs) : OutR W (.map (some B)) (outK n.arcs n.arcs.length) :=
  ⟨B, nm, f, rfl, h.adj.map, fun x => by
    obtain ⟨A, c, e⟩ := h.adj.isrow x
    exact ⟨A, c, e, Rd.of_own (h.adj.row x) (fun _ _ x => x)⟩⟩
set_option maxHeartbeats 64000000 in
theorem paths_ok {w : World} {n : NetV} {f : FlowV} (h : NetIs w n) (hv : n.validB = true) (hf : FlowIs w f) (hfl : IsFl n f.am f.value) (h0 : 0 ≤ f.value) :
    Calls Try.prog 19 #[n.val, f.val] w fun r w' => ∃ PR ZR P Z am', r = .returned (.tuple #[PR, .slice (Sl.addr ZR) (Sl.len ZR) (Sl.cap ZR), .int .i64 0]) ∧ PtI n f.am f.value P Z am' 0 ∧ PathsIs w' PR P ∧ IsI w' noB ZR Z ∧ Same noB w w' := by
  have HB := Lib.hid h
  have hok := NetV.validB_ok hv
  have HOK := Lib.hid hok
  have hcaps := h.rd.caps
  have HFI := Lib.hid hf
  have hZ := fun (W : World) (hs : Same noB w W) => valid_any (h.keep hs)
  have hZF := fun (W : World) (hs : Same noB w W) => flows_any (h.keep hs) hv (hf.keep hs)
  have hZC := fun (W : World) (hs : Same noB w W) => clone40_any (hf.a.keep hs) (by have := hfl.cap.1; have := hok.len; omega)
  have HFL := Lib.hid hfl
  have H0 := Lib.hid h0
  rw [hv] at hZ
  unfold NetV.val at hZ hZF ⊢
  unfold FlowV.val at hZF ⊢
  obtain ⟨A, hA⟩ : ∃ A, n.sl.addr = A := ⟨_, rfl⟩
  obtain ⟨m, hm⟩ : ∃ m, n.sl.len = m := ⟨_, rfl⟩
  obtain ⟨c, hcc⟩ : ∃ c, n.sl.cap = c := ⟨_, rfl⟩
  have HR : Hid (Rd w noB 4 (.slice A m c) m (acells n.arcs)) := by show Rd _ _ _ _ _ _; rw [← hA, ← hm, ← hcc]; exact HB.out.rd
  have hL : m = n.arcs.length := by rw [← hm]; exact h.len
  have HAL := Lib.hid (And.intro hA (And.intro hm hcc))
  rw [hA, hm, hcc] at hZ hZF ⊢
  rw [hm, hcc] at hcaps
  have hmb : m ≤ 4000 := by have := hok.len; omega
  have HL := Lib.hid hL
  have HZV := Lib.hid hZ
  have HZF := Lib.hid hZF
  have HZC := Lib.hid hZC
  have hval0 : (f.value < 0) = False := eq_false (by omega)
  clear h hv hf hok hfl h0 hZ hZF hZC hA hm hcc hL
  go_enter Try.func19, Try.ntmps19
  go_upto_region 1 with (fail)
  have HN0 := Lib.hid (Blk.new w 24 #[.int .i64 n.nodes, .int .i64 n.source, .int .i64 n.sink, .slice A m c, .int .i64 n.hold])
  have HF0 := Lib.hid (Blk.new (w.alloc (.cells #[.int .i64 n.nodes, .int .i64 n.source, .int .i64 n.sink, .slice A m c, .int .i64 n.hold] 24)) 29 #[.int .i64 f.value, .slice f.sa.addr f.sa.len f.sa.cap, .slice f.ss.addr f.ss.len f.ss.cap])
  rw [World.size_alloc] at HF0
  refine wp_abs (fun W => Hid (Blk W w.heap.size 24 #[.int .i64 n.nodes, .int .i64 n.source, .int .i64 n.sink, .slice A m c, .int .i64 n.hold]) ∧ Hid (Blk W (w.heap.size + 1) 29 #[.int .i64 f.value, .slice f.sa.addr f.sa.len f.sa.cap, .slice f.ss.addr f.ss.len f.ss.cap]) ∧ Hid (Same noB w W)) ⟨HN0.out.alloc _, HF0.out, ((Same.refl _ _).alloc _).alloc _⟩ ?_
  clear HN0 HF0
  rintro W0 ⟨HN, HF, HS⟩
  obtain ⟨N, hN⟩ : ∃ N, w.heap.size = N := ⟨_, rfl⟩
  obtain ⟨F, hF⟩ : ∃ F, N + 1 = F := ⟨_, rfl⟩
  rw [hN] at HN HF ⊢
  rw [hF] at HF ⊢
  clear hN hF
  have x0 : W0.cell? ⟨N, 0, none⟩ = some (.int .i64 n.nodes) := HN.out.cell 0
  have x1 : W0.cell? ⟨N, 1, none⟩ = some (.int .i64 n.source) := HN.out.cell 1
  have x2 : W0.cell? ⟨N, 2, none⟩ = some (.int .i64 n.sink) := HN.out.cell 2
  have x3 : W0.cell? ⟨N, 3, none⟩ = some (.slice A m c) := HN.out.cell 3
  have x4 : W0.cell? ⟨N, 4, none⟩ = some (.int .i64 n.hold) := HN.out.cell 4
  go_wp2_with fail
  (with_reducible refine Calls.mono (HZV.out _ HS.out) ?_)
  clear HZV x0 x1 x2 x3 x4
  rintro r W1 ⟨rfl, hs1⟩
  replace HN := Lib.hid (HN.out.same hs1 (fun x => x))
  replace HF := Lib.hid (HF.out.same hs1 (fun x => x))
  replace HS := Lib.hid (HS.out.trans' hs1)
  clear hs1
  have x0 : W1.cell? ⟨N, 0, none⟩ = some (.int .i64 n.nodes) := HN.out.cell 0
  have x1 : W1.cell? ⟨N, 1, none⟩ = some (.int .i64 n.source) := HN.out.cell 1
  have x2 : W1.cell? ⟨N, 2, none⟩ = some (.int .i64 n.sink) := HN.out.cell 2
  have x3 : W1.cell? ⟨N, 3, none⟩ = some (.slice A m c) := HN.out.cell 3
  have x4 : W1.cell? ⟨N, 4, none⟩ = some (.int .i64 n.hold) := HN.out.cell 4
  have f0 : W1.cell? ⟨F, 0, none⟩ = some (.int .i64 f.value) := HF.out.cell 0
  have f1 : W1.cell? ⟨F, 1, none⟩ = some (.slice f.sa.addr f.sa.len f.sa.cap) := HF.out.cell 1
  have f2 : W1.cell? ⟨F, 2, none⟩ = some (.slice f.ss.addr f.ss.len f.ss.cap) := HF.out.cell 2
  go_wp2_with fail
  (with_reducible refine Calls.mono (HZF.out _ HS.out) ?_)
  clear HZF x0 x1 x2 x3 x4 f0 f1 f2
  rintro r W2 ⟨bb, rfl, hbb, hs1⟩
  replace HN := Lib.hid (HN.out.same hs1 (fun x => x))
  replace HF := Lib.hid (HF.out.same hs1 (fun x => x))
  replace HS := Lib.hid (HS.out.trans' hs1)
  clear hs1
  obtain rfl : bb = true := hbb.2 HFL.out
  clear hbb
  have f0 : W2.cell? ⟨F, 0, none⟩ = some (.int .i64 f.value) := HF.out.cell 0
  have f1 : W2.cell? ⟨F, 1, none⟩ = some (.slice f.sa.addr f.sa.len f.sa.cap) := HF.out.cell 1
  go_wp2_with fail
  (with_reducible refine Calls.mono (HZC.out _ HS.out) ?_)
  clear HZC f0 f1
  rintro r Wc ⟨GA, gc, rfl, hga⟩
  replace HN := Lib.hid (HN.out.same hga.since (fun x => x))
  replace HF := Lib.hid (HF.out.same hga.since (fun x => x))
  have HGA := Lib.hid (hga.before HS.out)
  replace HS := Lib.hid (HS.out.trans' hga.since)
  clear hga
  have hmm := @run_makeMap Try.prog
  have HAJ0 := Lib.hid (Adj.made Wc (W := Wc) (Nat.le_refl _))
  go_upto_region 7 with (fail)
  refine wp_abs (fun W => Hid (Adj Wc W Wc.heap.size 0 (fun _ => none) (fun _ => [])) ∧ Hid (Same noB Wc W)) ⟨HAJ0.out, (Same.refl noB Wc).alloc _⟩ ?_
  clear HAJ0 hmm
  rintro W1 ⟨HJ, HSC⟩
  obtain ⟨B, hB⟩ : ∃ B, Wc.heap.size = B := ⟨_, rfl⟩
  rw [hB] at HJ ⊢
  clear hB
  have x3 : W1.cell? ⟨N, 3, none⟩ = some (.slice A m c) := HSC.out.cell (HN.out.cell 3) (fun x => x)
  go_wp2_with fail
  go_loopw [45] (fun i wr => ∃ k : Nat, k ≤ m ∧ i = .int .i64 k ∧ Hid (∃ nm f, Adj Wc wr B nm f (outK n.arcs k)) ∧ Hid (Same noB Wc wr)) (fun i _ => m - (intOf i).toNat)
  case atStart => exact ⟨0, Nat.zero_le _, rfl, ⟨0, _, HJ.out⟩, HSC.out⟩
  case round =>
    clear HJ HSC x3
    obtain ⟨k, hk, rfl, HJ, HSC⟩ := hrel
    by_cases hlt : k < m
    · obtain ⟨x, hx⟩ : ∃ e, n.arcs[k]? = some e := ⟨_, List.getElem?_eq_getElem (by have := HL.out; omega)⟩
      have HX := Lib.hid hx
      have HXO := Lib.hid (HOK.out.arcs x (List.mem_of_getElem? hx))
      obtain ⟨b, o, rfl, r⟩ := (HR.out.keep (HS.out.trans' HSC.out)).at_ (by omega)
      obtain ⟨p0, p1, p2, p3⟩ := arc_at r hx
      have hi0 : (0 : Int) ≤ (k : Int) := by omega
      have hi1 : (k : Int) < (m : Int) := by omega
      clear r hx
      have HE0 := Lib.hid (row_stored (Blk.new wr 43 #[.int .i64 0, .int .i64 0, .int .i64 0, .int .i64 0]) #[.int .i64 x.f, .int .i64 x.t, .int .i64 x.c, .int .i64 x.d])
      go_upto_region 10 with (refine wpList_store_row rfl 43 _ _ rfl wr.heap.size #[.int .i64 x.f, .int .i64 x.t, .int .i64 x.c, .int .i64 x.d] rfl rfl 43 _ (Blk.new wr 43 #[.int .i64 0, .int .i64 0, .int .i64 0, .int .i64 0]) (by kernel_rfl) rfl (by kernel_rfl) ?_)
      have hs0 : Same noB wr ((wr.alloc (.cells #[.int .i64 0, .int .i64 0, .int .i64 0, .int .i64 0] 43)).setRow wr.heap.size #[.int .i64 x.f, .int .i64 x.t, .int .i64 x.c, .int .i64 x.d]) := ((Same.refl noB wr).alloc _).trans HE0.out.2 (fun b hb hx => by have h3 : b = wr.heap.size := hx; omega)
      refine wp_abs (fun W => Hid (Blk W wr.heap.size 43 #[.int .i64 x.f, .int .i64 x.t, .int .i64 x.c, .int .i64 x.d]) ∧ Hid (∃ nm f, Adj Wc W B nm f (outK n.arcs k)) ∧ Hid (Same noB Wc W)) ⟨HE0.out.1, by obtain ⟨nm, f, hj⟩ := HJ.out; exact ⟨nm, f, hj.keep hs0⟩, HSC.out.trans' hs0⟩ ?_
      clear hs0 HE0 HJ HSC p0 p1 p2 p3
      rintro W2 ⟨HE, HJ, HSC⟩
      obtain ⟨E, hE⟩ : ∃ E, wr.heap.size = E := ⟨_, rfl⟩
      rw [hE] at HE ⊢
      clear hE
      obtain ⟨nm, f, hj⟩ := HJ.out
      have HJ2 := Lib.hid hj
      obtain ⟨J, hJ⟩ : ∃ J, outK n.arcs k = J := ⟨_, rfl⟩
      rw [hJ] at HJ2
      have HJE := Lib.hid hJ
      clear hj hJ HJ
      have HIN : Hid (inI64 x.f) := inI64_node HOK.out HXO.out.f
      have HJD := Lib.hid ((HJ2.out.keep ((Same.refl noB W2).alloc (.cells #[.int .i64 (k : Int)] 3))).keep ((Same.refl noB (W2.alloc (.cells #[.int .i64 (k : Int)] 3))).drew))
      obtain ⟨R, cR, hR⟩ := HJ2.out.isrow x.f
      have hl0 := HJ2.out.lookup HIN.out
      have HOW := Lib.hid (HJD.out.row x.f)
      have HLE : Hid ((J x.f).length ≤ 4001) := by
        show _ ≤ _
        rw [← HJE.out]
        have := outK_len n.arcs k x.f
        omega
      rw [hR] at hl0
      have HRO := Lib.hid hR
      rw [hR] at HOW
      clear hR
      have hl1 : (Instr.lookup 58 (.map (some B)) (.int .i64 x.f) false).run Try.prog W2.drew = .ok (.slice R (J x.f).length cR) W2.drew := by
        have := (HJ2.out.keep ((Same.refl noB W2).drew)).lookup HIN.out
        rw [HRO.out] at this
        exact this
      have e0 : W2.drew.cell? ⟨E, 0, none⟩ = some (.int .i64 x.f) := (HE.out.drew).cell 0
      have HE1 := Lib.hid ((HE.out.alloc (.cells #[.int .i64 (k : Int)] 3)).drew)
      have HL1 : Hid ((Instr.lookup 58 (.map (some B)) (.int .i64 x.f) false).run Try.prog (W2.alloc (.cells #[.int .i64 (k : Int)] 3)).drew = .ok (.slice R (J x.f).length cR) (W2.alloc (.cells #[.int .i64 (k : Int)] 3)).drew) := by
        show _ = _
        rw [← HRO.out]
        exact HJD.out.lookup HIN.out
      clear hl0
      refine wp_region_T (S := AroS E 0 B x.f (.slice R (J x.f).length cR)) (late := fun j => [10].contains j) (by kernel_rfl) ?_ (fun hHeld => ?_)
      · exact ⟨e0, hl1⟩
      refine T_pure (i := 0) (v := ?va0) rfl (by kernel_rfl) (by kernel_rfl) (by kernel_rfl) (fun _ _ _ h => h) (Or.inl ⟨?_, ?_⟩) ?_
      rotate_left 1
      · rfl
      · (intro w hSw; clear hSw; go_simp; (try with_reducible rfl))
      go_simp
      refine T_pure (i := 1) (v := ?va1) rfl (by kernel_rfl) (by kernel_rfl) (by kernel_rfl) (fun _ _ _ h => h) (Or.inl ⟨?_, ?_⟩) ?_
      rotate_left 1
      · rfl
      · (intro w hSw; clear hSw; go_simp; (try with_reducible rfl))
      go_simp
      refine T_take (i := 2) (v := ?va2) rfl (by kernel_rfl) (by kernel_rfl) (by kernel_rfl) (by kernel_rfl) (fun _ _ _ h => h) (Or.inl ⟨?_, ?_⟩) (by assumption) ?_
      rotate_left 1
      · rfl
      · (intro w hSw; unfold AroS at hSw; go_simp; (try with_reducible rfl))
      go_simp
      refine T_pure (i := 3) (v := ?va3) rfl (by kernel_rfl) (by kernel_rfl) (by kernel_rfl) (fun _ _ _ h => h) (Or.inl ⟨?_, ?_⟩) ?_
      rotate_left 1
      · rfl
      · (intro w hSw; clear hSw; go_simp; (try with_reducible rfl))
      go_simp
      refine T_pure (i := 4) (v := ?va4) rfl (by kernel_rfl) (by kernel_rfl) (by kernel_rfl) (fun _ _ _ h => h) (Or.inl ⟨?_, ?_⟩) ?_
      rotate_left 1
      · rfl
      · (intro w hSw; clear hSw; go_simp; (try with_reducible rfl))
      go_simp
      refine T_take (i := 5) (v := ?va5) rfl (by kernel_rfl) (by kernel_rfl) (by kernel_rfl) (by kernel_rfl) (fun _ _ _ h => h) (Or.inl ⟨?_, ?_⟩) (by assumption) ?_
      rotate_left 1
      · rfl
      · (intro w hSw; unfold AroS at hSw; go_simp; (try with_reducible rfl))
      go_simp
      refine T_take (i := 6) (v := ?va6) rfl (by kernel_rfl) (by kernel_rfl) (by kernel_rfl) (by kernel_rfl) (fun _ _ _ h => h) (Or.inl ⟨?_, ?_⟩) (by assumption) ?_
      rotate_left 1
      · rfl
      · (intro w hSw; unfold AroS at hSw; go_simp; (try with_reducible rfl))
      go_simp
      refine T_pure (i := 7) (v := ?va7) rfl (by kernel_rfl) (by kernel_rfl) (by kernel_rfl) (fun _ _ _ h => h) (Or.inl ⟨?_, ?_⟩) ?_
      rotate_left 1
      · rfl
      · (intro w hSw; clear hSw; go_simp; (try with_reducible rfl))
      go_simp
      refine T_ready (rs := [8]) (by kernel_rfl) (by simp) ?_
      refine ReadyT.early rfl (fun K hK => ?_) ReadyT.nil
      go_simp
      refine hK.out _ _ ?_ (fun hHeld => ?_)
      · exact ⟨HE1.out.cell 0, HL1.out⟩
      clear hK K
      refine T_ready (rs := [9]) (by kernel_rfl) (by simp) ?_
      refine ReadyT.early rfl (fun K hK => ?_) ReadyT.nil
      refine step_app sl50 rfl _ _ rfl rfl (HOW.out) rfl (Rd.of_blk (bad := noB) ((Blk.new W2 3 #[.int .i64 (k : Int)]).drew) (fun x => x) rfl (by omega) (by simp [maxLen])) (int_one (k : Int)) (by have := HLE.out; omega) (Nat.zero_le _) ?_
      intro A7 c7 W7 hown7 hgrow7 hat7 _
      replace hown7 : W7.ownsRow 0 3 1 (.slice A7 ((J x.f).length + 1) c7) ((J x.f).length + 1) (icells (J x.f) ++ [.int .i64 (k : Int)]) := hown7
      replace hgrow7 : (W2.alloc (.cells #[.int .i64 (k : Int)] 3)).drew.grownBy W7 (rowOf f x.f).ownBlock := by rw [HRO.out]; exact hgrow7
      replace hat7 : (Value.slice A7 ((J x.f).length + 1) c7).ownBlock = (rowOf f x.f).ownBlock ∨ (Value.slice A7 ((J x.f).length + 1) c7).ownBlock = some (W2.alloc (.cells #[.int .i64 (k : Int)] 3)).drew.heap.size := by rw [HRO.out]; exact hat7
      obtain ⟨W8, r8, hM8, hg8⟩ := (HJD.out.mid hgrow7).store Try.underlying58 (k := x.f) HIN.out (.slice A7 ((J x.f).length + 1) c7)
      have hE7 : Blk W7 E 43 #[.int .i64 x.f, .int .i64 x.t, .int .i64 x.c, .int .i64 x.d] := HE1.out.same (Same.of_grown hgrow7) (fun e => by
        obtain ⟨cs, hc⟩ := own_blk (HJD.out.row x.f) (show _ = some E from e.symm)
        exact HE1.out.ne_ hc (by decide) rfl)
      replace e0 : W7.cell? ⟨E, 0, none⟩ = some (.int .i64 x.f) := hE7.cell 0
      replace hl1 : (Instr.lookup 58 (.map (some B)) (.int .i64 x.f) false).run Try.prog W7 = .ok (.slice R (J x.f).length cR) W7 := by
        have h7 := (HJD.out.mid hgrow7).lookup Try.underlying58 (zero50 W7) (k := x.f) HIN.out false
        rw [← HRO.out]
        exact h7
      have HG7 := Lib.hid (And.intro hown7 (And.intro hgrow7 (And.intro hat7 (And.intro hM8 (And.intro hg8 hE7)))))
      clear hE7 hown7 hgrow7 hat7 hM8 hg8
      have r9 : (Instr.mapUpdate 58 (.map (some B)) (.int .i64 (x.f)) (.slice A7 ((J x.f).length + 1) c7)).run Try.prog W7 = .ok () W8 := r8
      clear r8
      clear hHeld
      refine hK.out _ _ ?_ (fun hHeld => ?_)
      · exact ⟨e0, hl1⟩
      clear hK K
      go_simp
      refine T_ready (rs := [10]) (by kernel_rfl) (by simp) ?_
      refine ReadyT.behind rfl rfl (fun K hK => ?_) ReadyT.nil
      go_simp
      skip
      refine hK.out _ _ ?_
      clear hK K
      refine T_done (by kernel_rfl) ?_ _
      have hG := HG7.out
      obtain ⟨hown7, hgrow7, hat7, hM8, hg8, hE7⟩ := hG
      have hsz : Wc.heap.size ≤ (W2.alloc (.cells #[.int .i64 (k : Int)] 3)).drew.heap.size := ((HSC.out.alloc (.cells #[.int .i64 (k : Int)] 3)).drew).size
      have hpush := HJD.out.push (i := (k : Int)) hown7 hgrow7 hat7 hsz hM8 hg8
      have hsince := HJD.out.since ((HSC.out.alloc (.cells #[.int .i64 (k : Int)] 3)).drew) hgrow7 hg8
      have HFA : Hid (∃ nm f, Adj Wc W8 B nm f (outK n.arcs (k + 1))) := by
        have hp := hpush
        rw [← HJE.out, outK_next HX.out] at hp
        exact ⟨_, _, hp⟩
      have HSI := Lib.hid hsince
      clear hpush hsince hE7 HE1 HL1 hown7 hgrow7 hat7 hM8 hg8 HG7 HJD HJ2 HJE HOW HLE HRO HIN hl1 e0 r9 hHeld hsz HE HSC
      go_wp2_with fail
      go_roundw
      case rel => exact ⟨k + 1, by omega, by go_num, HFA.out, HSI.out⟩
      case measure => simp [intOf]; omega
    · obtain rfl : k = m := by omega
      obtain ⟨nm, f0, hj⟩ := HJ.out
      have HAJ : Hid (Adj w wr B nm f0 (outK n.arcs n.arcs.length)) := by
        show Adj _ _ _ _ _ _
        rw [← HL.out]
        exact hj.wider HS.out.size
      have HPM : Hid (PtM w wr n N B nm f0 (.slice GA k gc) f.am (.slice none 0 0) [] [] (.slice none 0 0) []) := by
        have hnb := HN.out.same HSC.out (fun x => x)
        rw [← HAL.out.1, ← HAL.out.2.1, ← HAL.out.2.2] at hnb
        have hs := HS.out.trans' HSC.out
        have hga := HGA.out.keep HSC.out
        have hlen : f.am.length = k := by rw [HL.out]; exact HFL.out.cap.1
        refine ⟨⟨hs, hnb, HAJ.out, rfl, fun i v p hv => by simp at hv⟩, ?_, ⟨World.ownsRow_nil _ _ _ _, fun g hg => by simp [Value.ownBlock] at hg, hs⟩, ⟨World.ownsRow_nil _ _ _ _, fun g hg => by simp [Value.ownBlock] at hg, hs⟩, fun g _ hg => by simp [Value.ownBlock] at hg⟩
        rw [hlen] at hga ⊢
        exact hga
      have HPI := Lib.hid (PtI.start HFL.out H0.out)
      have f0' : wr.cell? ⟨F, 0, none⟩ = some (.int .i64 f.value) := HSC.out.cell (HF.out.cell 0) (fun x => x)
      have hsz : f.am.length = k := by rw [HL.out]; exact HFL.out.cap.1
      rw [hsz]
      clear hj HAJ HJ HSC HS HN HF HGA hsz
      go_wp2_with fail
      go_loopg [11, 12, 13] (sumN f.am) (fun gk s z q wr => ∃ (P : List (List Int)) (vs : List Value) (Z am : List Int) (PA ZA : Option Addr) (pc zc : Nat) (left : Int), s = .slice PA vs.length pc ∧ z = .slice ZA Z.length zc ∧ q = .int .i64 left ∧ Hid (gk = sumN am) ∧ Hid (PtM w wr n N B nm f0 (.slice GA k gc) am (.slice PA vs.length pc) P vs (.slice ZA Z.length zc) Z) ∧ Hid (PtI n f.am f.value P Z am left))
      case atStart => exact ⟨[], [], [], f.am, none, none, 0, 0, f.value, rfl, rfl, rfl, rfl, HPM.out, HPI.out⟩
      case round =>
        clear HPM HPI f0'
        obtain ⟨P, vs, Z, am, PA, ZA, pc, zc, left, rfl, rfl, rfl, HK, HM, HI⟩ := hrel
        by_cases hl : 0 < left
        · have hamk : am.length = k := by rw [HL.out]; exact HI.out.fl.cap.1
          have HAK := Lib.hid hamk
          have n0 : wr.cell? ⟨N, 0, none⟩ = some (.int .i64 n.nodes) := HM.out.b.nb.cell 0
          have n1 : wr.cell? ⟨N, 1, none⟩ = some (.int .i64 n.source) := HM.out.b.nb.cell 1
          have n2 : wr.cell? ⟨N, 2, none⟩ = some (.int .i64 n.sink) := HM.out.b.nb.cell 2
          have n3 : wr.cell? ⟨N, 3, none⟩ = some (.slice A k c) := by rw [← HAL.out.1, ← HAL.out.2.1, ← HAL.out.2.2]; exact HM.out.b.nb.cell 3
          have n4 : wr.cell? ⟨N, 4, none⟩ = some (.int .i64 n.hold) := HM.out.b.nb.cell 4
          have hZ := walk_any (w := wr) (sa := ⟨GA, k, gc⟩) (HB.out.keep HM.out.b.since) HOK.out HM.out.b.out ⟨hamk.symm, by have := Rd.of_own (bad := noB) HM.out.ga.own (fun _ _ x => x); rw [hamk] at this; exact this⟩ HI.out.fl hl
          unfold NetV.val at hZ
          rw [HAL.out.1, HAL.out.2.1, HAL.out.2.2] at hZ
          have HZ := Lib.hid hZ
          clear hZ hamk
          go_wp2_with fail
          (with_reducible refine Calls.mono HZ.out ?_)
          clear HZ n0 n1 n2 n3 n4
          rintro r W3 ⟨⟨sA, sn, sc⟩, circle, l, rfl, hsI, hw, hs3⟩
          obtain ⟨bad, hbad⟩ : ∃ bad, oldB wr = bad := ⟨_, rfl⟩
          rw [hbad] at hsI
          have HOB : Hid (∀ g, (Value.slice GA k gc).ownBlock = some g → bad g) := fun g hg => by rw [← hbad]; exact own_lt HM.out.ga.own hg
          have HOP : Hid (∀ g, (Value.slice PA vs.length pc).ownBlock = some g → bad g) := fun g hg => by rw [← hbad]; exact own_lt HM.out.pr.own hg
          have HOZ : Hid (∀ g, (Value.slice ZA Z.length zc).ownBlock = some g → bad g) := fun g hg => by rw [← hbad]; exact own_lt HM.out.zr.own hg
          clear hbad
          replace HM := Lib.hid (HM.out.keep hs3)
          have HW := Lib.hid hw
          have HSZ := Lib.hid hw.size
          have hsl := hsI.1
          simp only at hsl
          rw [jI_len] at hsl
          have hscp := hsI.2.caps
          simp only at hscp
          subst hsl
          have HSI : Hid (Rd W3 (bad) 1 (.slice sA l.length sc) l.length (icells (jI l))) := hsI.2
          have HLB : Hid (∀ j ∈ l, j < k ∧ ∃ x, am[j]? = some x ∧ 0 ≤ x ∧ x ≤ 1099511627776) := fun j hj => by
            obtain ⟨x, hx, _⟩ := HSZ.out.2.1 j hj
            have h1 := (List.getElem?_eq_some_iff.1 hx).1
            have h2 := HI.out.fl.cap.small HOK.out x (List.mem_of_getElem? hx)
            exact ⟨by have := HAK.out; omega, x, hx, h2⟩
          obtain ⟨j0, hj0⟩ : ∃ j0, l[0]? = some j0 := ⟨_, List.getElem?_eq_getElem (List.length_pos_iff.2 hw.ne)⟩
          have HJ0 := Lib.hid hj0
          obtain ⟨hjk, x0, hx0, hx0b⟩ := HLB.out j0 (List.mem_of_getElem? hj0)
          have HX0 := Lib.hid hx0
          obtain ⟨gA, rfl⟩ := row_addr (n := am.length) (by have := HM.out.ga.own; rw [HAK.out] at this ⊢; exact this) (by have := HAK.out; omega)
          clear hsI hw hs3 hx0 hj0
          obtain ⟨bS, oS, rfl, r⟩ := HSI.out.at_ (by have := (List.getElem?_eq_some_iff.1 HJ0.out).1; omega)
          have c0 := r.cell 0 _ (icells_at (jI_at HJ0.out))
          rw [Nat.add_zero] at c0
          have hown := HM.out.ga.own
          rw [HAK.out] at hown
          have a0 := (row_at hown (icells_at HX0.out)).1
          have hj00 : (0 : Int) ≤ (j0 : Int) := by omega
          have hj01 : (j0 : Int) < (k : Int) := by omega
          have hlp : (0 : Int) < (l.length : Int) := by have := (List.getElem?_eq_some_iff.1 HJ0.out).1; omega
          clear r hown
          go_wp2_with fail
          go_loopg [16, 80] (l.length) (fun gk s q wr => ∃ (i : Nat) (t : Int), i ≤ l.length ∧ Hid (gk + i = l.length) ∧ q = .int .i64 i ∧ s = .int .i64 t ∧ Hid (t = minA am x0 (l.take i)) ∧ Hid (Same noB W3 wr))
          case atStart => exact ⟨0, x0, Nat.zero_le _, rfl, rfl, rfl, rfl, Same.refl _ _⟩
          case round =>
            clear a0 c0
            obtain ⟨i, t, hi, HKI, rfl, rfl, HT, HS3⟩ := hrel
            replace HM := Lib.hid (HM.out.keep HS3.out)
            by_cases hlt : i < l.length
            · obtain ⟨j, hj⟩ : ∃ j, l[i]? = some j := ⟨_, List.getElem?_eq_getElem hlt⟩
              obtain ⟨hjk2, x, hx, hxb⟩ := HLB.out j (List.mem_of_getElem? hj)
              obtain ⟨b9, o9, hb9, r⟩ := (HSI.out.same HS3.out (fun _ _ e => e.elim) (fun _ _ e => e)).at_ (by omega)
              injection hb9 with hb9
              injection hb9 with hb9 ho9
              subst hb9 ho9
              have c1 := r.cell i _ (icells_at (jI_at hj))
              have hown := HM.out.ga.own
              rw [HAK.out] at hown
              have a1 := (row_at hown (icells_at hx)).1
              have hi0 : (0 : Int) ≤ (i : Int) := by omega
              have hi1 : (i : Int) < (l.length : Int) := by omega
              have hj0' : (0 : Int) ≤ (j : Int) := by omega
              have hj1' : (j : Int) < (k : Int) := by omega
              have HTN : Hid (minA am x0 (l.take (i + 1)) = min t x) := by
                show _ = _
                rw [take_snoc hj, minA_snoc, ← HT.out, hx]
                rfl
              clear r hown hj hx
              go_wp2_with fail
              · have HMN : Hid (x = minA am x0 (l.take (i + 1))) := by show _ = _; rw [HTN.out]; exact (Int.min_eq_right (Int.le_of_lt (show x < t by assumption))).symm
                go_roundg (gk - 1)
                case measure => have h1 := HKI.out; omega
                case rel => exact ⟨i + 1, _, by omega, by show _ = _; have h1 := HKI.out; omega, by go_num, rfl, HMN.out, HS3.out⟩
              · have HMN : Hid (t = minA am x0 (l.take (i + 1))) := by show _ = _; rw [HTN.out]; exact (Int.min_eq_left (show t ≤ x by assumption)).symm
                go_roundg (gk - 1)
                case measure => have h1 := HKI.out; omega
                case rel => exact ⟨i + 1, _, by omega, by show _ = _; have h1 := HKI.out; omega, by go_num, rfl, HMN.out, HS3.out⟩
            · obtain rfl : i = l.length := by omega
              have HTS : Hid (t = sizeOf' am l) := by
                show _ = _
                rw [HT.out, List.take_of_length_le (Nat.le_refl _)]
                unfold sizeOf'
                cases hll : l with
                | nil => rw [hll] at HJ0; exact absurd HJ0.out (by simp)
                | cons a l' =>
                  have e : a = j0 := by have := HJ0.out; rw [hll] at this; simpa using this
                  subst e
                  rw [List.headD_cons, HX0.out]
                  rfl
              have HSI2 : Hid (Rd wr (bad) 1 (.slice (some ⟨bS, oS, none⟩) l.length sc) l.length (icells (jI l))) := HSI.out.same HS3.out (fun _ _ e => e.elim) (fun _ _ e => e)
              clear HT HKI HSI HS3
              cases circle with
              | true =>
                have HRB : Hid (0 < t ∧ ∀ j ∈ l, ∃ x, am[j]? = some x ∧ t ≤ x) := by
                  show _ ∧ _
                  rw [HTS.out]
                  exact ⟨HSZ.out.1, HSZ.out.2.1⟩
                have HCI : Hid (PtI n f.am f.value P Z (subL am t l) left ∧ sumN (subL am t l) < sumN am) := by
                  show _ ∧ _
                  rw [HTS.out]
                  exact HI.out.circle HW.out
                go_wp2_with fail
                go_loopw [128] (fun i wr => ∃ i' : Nat, i' ≤ l.length ∧ i = .int .i64 i' ∧ Hid (PtM w wr n N B nm f0 (.slice (some ⟨gA, 0, none⟩) k gc) (subL am t (l.take i')) (.slice PA vs.length pc) P vs (.slice ZA Z.length zc) Z) ∧ Hid (Rd wr bad 1 (.slice (some ⟨bS, oS, none⟩) l.length sc) l.length (icells (jI l)))) (fun i _ => l.length - (intOf i).toNat)
                case atStart => exact ⟨0, Nat.zero_le _, rfl, HM.out, HSI2.out⟩
                case round =>
                  clear HM HSI2
                  obtain ⟨i', hi', rfl, HM, HSI⟩ := hrel
                  by_cases hlt : i' < l.length
                  · obtain ⟨j, hj⟩ : ∃ j, l[i']? = some j := ⟨_, List.getElem?_eq_getElem hlt⟩
                    obtain ⟨hjk2, x, hx, hxb⟩ := HLB.out j (List.mem_of_getElem? hj)
                    have hrx : t ≤ x := by
                      obtain ⟨y, hy, hry⟩ := HRB.out.2 j (List.mem_of_getElem? hj)
                      rw [hx] at hy
                      injection hy with hy
                      rw [hy]
                      exact hry
                    have hr0 : 0 < t := HRB.out.1
                    have hnd := nodup_of_map _ HW.out.nd
                    have hxx : (subL am t (l.take i'))[j]? = some x := by
                      rw [subL_at _ am j x (hnd.sublist (List.take_sublist _ _)) hx, if_neg (not_take hnd hj)]
                    have hlen : (subL am t (l.take i')).length = k := by rw [subL_len]; exact HAK.out
                    have HSN : Hid (subL am t (l.take (i' + 1)) = (subL am t (l.take i')).set j (x - t)) := by
                      show _ = _
                      rw [take_snoc hj, subL_snoc, hxx]
                      rfl
                    have HAM := Lib.hid (HM.out.amount hlen j (x - t))
                    have hown := HM.out.ga.own
                    rw [hlen] at hown
                    obtain ⟨a1, z1, l1⟩ := row_at hown (icells_at hxx)
                    have HSI3 : Hid (Rd (wr.setCell ⟨gA, j, none⟩ (.int .i64 (x - t))) bad 1 (.slice (some ⟨bS, oS, none⟩) l.length sc) l.length (icells (jI l))) := HSI.out.same ((Same.refl (oneB gA) wr).set1 j _) (fun b _ e => by rw [show b = gA from e]; exact HOB.out gA rfl) (fun _ _ e => e)
                    obtain ⟨b9, o9, hb9, rr⟩ := HSI.out.at_ (by omega)
                    injection hb9 with hb9
                    injection hb9 with hb9 ho9
                    subst hb9 ho9
                    have c1 := rr.cell i' _ (icells_at (jI_at hj))
                    have hi0 : (0 : Int) ≤ (i' : Int) := by omega
                    have hi1 : (i' : Int) < (l.length : Int) := by omega
                    have hj0' : (0 : Int) ≤ (j : Int) := by omega
                    have hj1' : (j : Int) < (k : Int) := by omega
                    have hwr : IntKind.i64.wrap (x - t) = x - t := IntWalk.i64_in _ (by omega)
                    clear rr hown hj hx hxx hlen hnd HM HSI
                    go_wp2_with fail
                    go_roundw
                    case rel => exact ⟨i' + 1, by omega, by go_num, by rw [HSN.out]; exact HAM.out, HSI3.out⟩
                    case measure => simp [intOf]; omega
                  · obtain rfl : i' = l.length := by omega
                    have HMF := HM.out
                    rw [List.take_of_length_le (Nat.le_refl _)] at HMF
                    have HMG := Lib.hid HMF
                    clear HMF HM HSI
                    go_wp2_with fail
                    go_roundg (sumN (subL am t l))
                    case measure => have h1 := HK.out; have h2 := HCI.out.2; omega
                    case rel => exact ⟨_, _, _, _, _, _, _, _, _, rfl, rfl, rfl, rfl, HMG.out, HCI.out.1⟩
              | false =>
                obtain ⟨r, hr⟩ : ∃ r, (if left < t then left else t) = r := ⟨_, rfl⟩
                have hrm : r = min (sizeOf' am l) left := by
                  rw [← hr, ← HTS.out]
                  split <;> omega
                have hpath := HI.out.path HOK.out hl HW.out hrm
                have HRB : Hid (0 < r ∧ ∀ j ∈ l, ∃ x, am[j]? = some x ∧ r ≤ x) := ⟨hpath.2.2.1, fun j hj => by
                  obtain ⟨x, hx, h2⟩ := HSZ.out.2.1 j hj
                  exact ⟨x, hx, by omega⟩⟩
                have HPI := Lib.hid (And.intro hpath.1 hpath.2.1)
                have hlb := (HI.out.fl.bound HOK.out).2
                have hrl := hpath.2.2.2
                have hr0 := hpath.2.2.1
                have hwl : IntKind.i64.wrap (left - r) = left - r := IntWalk.i64_in _ (by omega)
                have HVL : Hid (vs.length ≤ 4000 ∧ Z.length ≤ 4000 ∧ l.length ≤ 400) := by
                  have h1 := HI.out.cnt.2
                  have h2 := HOK.out.len
                  have h3 := HI.out.len
                  have h4 := HM.out.b.vsl
                  have h5 := (HW.out.simple HOK.out).rng
                  have h6 := nodup_le n.nodes.toNat (nodesOf n l) (HW.out.simple HOK.out).nd (fun x hx => by have := h5 x hx; omega)
                  have h7 := HOK.out.nodes
                  rw [nodesOf_len] at h6
                  exact ⟨by omega, by omega, by omega⟩
                have n1 : wr.cell? ⟨N, 1, none⟩ = some (.int .i64 n.source) := HM.out.b.nb.cell 1
                clear hrm hpath hlb hrl hr0
                go_upto_region 27 with (fail)
                refine wp_abs (fun W => Hid (AppAt wr W (.slice (some ⟨wr.heap.size, 0, none⟩) 1 1) 1 3 1 (icells [n.source]))) (row_one_at wr n.source) ?_
                obtain ⟨G0, hG0⟩ : ∃ G0, wr.heap.size = G0 := ⟨_, rfl⟩
                rw [hG0]
                clear hG0 n1
                rintro W5 HAP
                obtain ⟨Wb, hWb⟩ : ∃ Wb, wr = Wb := ⟨_, rfl⟩
                rw [hWb] at HAP HM HSI2
                clear hWb
                go_wp2_with fail
                go_loopg [19, 104] (l.length) (fun gk s q wr => ∃ (i : Nat) (RP : Option Addr) (RC : Nat), i ≤ l.length ∧ Hid (gk + i = l.length) ∧ q = .int .i64 i ∧ s = .slice RP (i + 1) RC ∧ Hid (AppAt Wb wr (.slice RP (i + 1) RC) (i + 1) 3 1 (icells (n.source :: (l.take i).map (tgt n.arcs)))))
                case atStart => exact ⟨0, _, _, Nat.zero_le _, rfl, rfl, rfl, HAP.out⟩
                case round =>
                  clear HAP
                  obtain ⟨i, RP, RC, hi, HKI, rfl, rfl, HAP⟩ := hrel
                  by_cases hlt : i < l.length
                  · obtain ⟨j, hj⟩ : ∃ j, l[i]? = some j := ⟨_, List.getElem?_eq_getElem hlt⟩
                    obtain ⟨hjk2, x, hx, hxb⟩ := HLB.out j (List.mem_of_getElem? hj)
                    obtain ⟨a, ha⟩ : ∃ a, n.arcs[j]? = some a := ⟨_, List.getElem?_eq_getElem (by have := HL.out; omega)⟩
                    obtain ⟨b9, o9, hb9, rr⟩ := (HSI2.out.same HAP.out.since (fun _ _ e => e.elim) (fun _ _ e => e)).at_ (by omega)
                    injection hb9 with hb9
                    injection hb9 with hb9 ho9
                    subst hb9 ho9
                    have c1 := rr.cell i _ (icells_at (jI_at hj))
                    have hnb := HM.out.b.nb.same HAP.out.since (fun x => x)
                    have n3 : wr.cell? ⟨N, 3, none⟩ = some (.slice A k c) := by rw [← HAL.out.1, ← HAL.out.2.1, ← HAL.out.2.2]; exact hnb.cell 3
                    obtain ⟨b8, o8, hb8, r8⟩ := (HR.out.keep (HM.out.b.since.trans' HAP.out.since)).at_ (by omega)
                    subst hb8
                    obtain ⟨p0, p1, p2, p3⟩ := arc_at r8 ha
                    have hi0 : (0 : Int) ≤ (i : Int) := by omega
                    have hi1 : (i : Int) < (l.length : Int) := by omega
                    have hj0' : (0 : Int) ≤ (j : Int) := by omega
                    have hj1' : (j : Int) < (k : Int) := by omega
                    have HLS : Hid (icells (n.source :: (l.take (i + 1)).map (tgt n.arcs)) = icells (n.source :: (l.take i).map (tgt n.arcs)) ++ [.int .i64 a.t]) := by
                      show _ = _
                      rw [take_snoc hj, List.map_append, List.map_singleton, tgt_eq ha, ← List.cons_append, icells_snoc]
                    have HLE : Hid (i ≤ 400) := by show _ ≤ _; have := HVL.out; omega
                    clear rr hnb r8 hj hx ha
                    go_wp2_with (at_builtin; refine wpL_app sl50 rfl _ _ rfl rfl (own_same HAP.out.own ((Same.refl noB wr).alloc _) (fun _ _ x => x)) rfl (Rd.of_blk (bad := noB) (Blk.new wr 3 #[.int .i64 a.t]) (fun x => x) rfl (by omega) (by simp [maxLen])) (int_one a.t) (by have := HLE.out; omega) (Nat.zero_le _) ?_; intro A7 c7 W7 hown7 hgrow7 hat7 _; have HAN := Lib.hid ((HAP.out.keep ((Same.refl noB wr).alloc _)).next hgrow7 hat7 hown7); clear hown7 hgrow7 hat7)
                    go_roundg (gk - 1)
                    case measure => have h1 := HKI.out; omega
                    case rel => exact ⟨i + 1, _, _, by omega, by show _ = _; have h1 := HKI.out; omega, by go_num, rfl, by rw [HLS.out]; exact HAN.out⟩
                  · obtain rfl : i = l.length := by omega
                    have hap := HAP.out
                    rw [List.take_of_length_le (Nat.le_refl _)] at hap
                    have HV : Hid (wr.ownsRow 0 3 1 (.slice RP (l.length + 1) RC) (nodesOf n l).length (icells (nodesOf n l))) := by show World.ownsRow _ _ _ _ _ _ _; rw [nodesOf_len]; exact hap.own
                    have HM5 := Lib.hid (HM.out.keep hap.since)
                    have HSI5 : Hid (Rd wr bad 1 (.slice (some ⟨bS, oS, none⟩) l.length sc) l.length (icells (jI l))) := HSI2.out.same hap.since (fun _ _ e => e.elim) (fun _ _ e => e)
                    clear hap HAP HM HSI2 HKI
                    go_upto_region 33 with (at_builtin; first | (refine wpL_app sl26 rfl _ _ rfl rfl (own_same HM7.out.zr.own ((Same.refl noB W7).alloc _) (fun _ _ x => x)) rfl (Rd.of_blk (bad := noB) (Blk.new W7 2 #[.int .i64 r]) (fun x => x) rfl (by omega) (by simp [maxLen])) (int_one r) (by have := HVL.out; omega) (Nat.zero_le _) ?_; intro A8 c8 W8 hown8 hgrow8 hat8 _; have HM8 := Lib.hid (HM7.out.addZ hown8 hgrow8 hat8); have HSI8 : Hid (Rd W8 bad 1 (.slice (some ⟨bS, oS, none⟩) l.length sc) l.length (icells (jI l))) := (HSI7.out.same ((Same.refl noB W7).alloc (.cells #[.int .i64 r] 2)) (fun _ _ e => e.elim) (fun _ _ e => e)).same (Same.of_grown hgrow8) (fun b _ e => HOZ.out b (show some b = _ from e).symm) (fun _ _ e => e); clear hown8 hgrow8 hat8) | (refine wpL_app sl45 rfl _ _ rfl rfl (own_same HM5.out.pr.own ((Same.refl noB wr).alloc _) (fun _ _ x => x)) rfl (Rd.of_blk (bad := noB) (Blk.new wr 50 #[.slice RP (l.length + 1) RC]) (fun x => x) rfl (by omega) (by simp [maxLen])) (fun u hu => by rw [List.mem_singleton] at hu; rw [hu]; rfl) (by have := HVL.out; omega) (Nat.zero_le _) ?_; intro A7 c7 W7 hown7 hgrow7 hat7 _; have HM7 := Lib.hid (HM5.out.addP HV.out hown7 hgrow7 hat7); have HSI7 : Hid (Rd W7 bad 1 (.slice (some ⟨bS, oS, none⟩) l.length sc) l.length (icells (jI l))) := (HSI5.out.same ((Same.refl noB wr).alloc (.cells #[.slice RP (l.length + 1) RC] 50)) (fun _ _ e => e.elim) (fun _ _ e => e)).same (Same.of_grown hgrow7) (fun b _ e => HOP.out b (show some b = _ from e).symm) (fun _ _ e => e); clear hown7 hgrow7 hat7))
                    go_wp2_with fail
                    go_loopw [128] (fun i wr => ∃ i' : Nat, i' ≤ l.length ∧ i = .int .i64 i' ∧ Hid (PtM w wr n N B nm f0 (.slice (some ⟨gA, 0, none⟩) k gc) (subL am r (l.take i')) (.slice A7 (vs.length + 1) c7) (P ++ [nodesOf n l]) (vs ++ [.slice RP (l.length + 1) RC]) (.slice A8 (Z.length + 1) c8) (Z ++ [r])) ∧ Hid (Rd wr bad 1 (.slice (some ⟨bS, oS, none⟩) l.length sc) l.length (icells (jI l)))) (fun i _ => l.length - (intOf i).toNat)
                    case atStart => exact ⟨0, Nat.zero_le _, rfl, HM8.out, HSI8.out⟩
                    case round =>
                      clear HM8 HSI8
                      obtain ⟨i', hi', rfl, HM, HSI⟩ := hrel
                      by_cases hlt : i' < l.length
                      · obtain ⟨j, hj⟩ : ∃ j, l[i']? = some j := ⟨_, List.getElem?_eq_getElem hlt⟩
                        obtain ⟨hjk2, x, hx, hxb⟩ := HLB.out j (List.mem_of_getElem? hj)
                        have hrx : r ≤ x := by
                          obtain ⟨y, hy, hry⟩ := HRB.out.2 j (List.mem_of_getElem? hj)
                          rw [hx] at hy
                          injection hy with hy
                          rw [hy]
                          exact hry
                        have hr0 : 0 < r := HRB.out.1
                        have hnd := nodup_of_map _ HW.out.nd
                        have hxx : (subL am r (l.take i'))[j]? = some x := by
                          rw [subL_at _ am j x (hnd.sublist (List.take_sublist _ _)) hx, if_neg (not_take hnd hj)]
                        have hlen : (subL am r (l.take i')).length = k := by rw [subL_len]; exact HAK.out
                        have HSN : Hid (subL am r (l.take (i' + 1)) = (subL am r (l.take i')).set j (x - r)) := by
                          show _ = _
                          rw [take_snoc hj, subL_snoc, hxx]
                          rfl
                        have HAM := Lib.hid (HM.out.amount hlen j (x - r))
                        have hown := HM.out.ga.own
                        rw [hlen] at hown
                        obtain ⟨a1, z1, l1⟩ := row_at hown (icells_at hxx)
                        have HSI3 : Hid (Rd (wr.setCell ⟨gA, j, none⟩ (.int .i64 (x - r))) bad 1 (.slice (some ⟨bS, oS, none⟩) l.length sc) l.length (icells (jI l))) := HSI.out.same ((Same.refl (oneB gA) wr).set1 j _) (fun b _ e => by rw [show b = gA from e]; exact HOB.out gA rfl) (fun _ _ e => e)
                        obtain ⟨b9, o9, hb9, rr⟩ := HSI.out.at_ (by omega)
                        injection hb9 with hb9
                        injection hb9 with hb9 ho9
                        subst hb9 ho9
                        have c1 := rr.cell i' _ (icells_at (jI_at hj))
                        have hi0 : (0 : Int) ≤ (i' : Int) := by omega
                        have hi1 : (i' : Int) < (l.length : Int) := by omega
                        have hj0' : (0 : Int) ≤ (j : Int) := by omega
                        have hj1' : (j : Int) < (k : Int) := by omega
                        have hwr : IntKind.i64.wrap (x - r) = x - r := IntWalk.i64_in _ (by omega)
                        clear rr hown hj hx hxx hlen hnd HM HSI
                        go_wp2_with fail
                        go_roundw
                        case rel => exact ⟨i' + 1, by omega, by go_num, by rw [HSN.out]; exact HAM.out, HSI3.out⟩
                        case measure => simp [intOf]; omega
                      · obtain rfl : i' = l.length := by omega
                        have HMF := HM.out
                        rw [List.take_of_length_le (Nat.le_refl _)] at HMF
                        have HMG := Lib.hid HMF
                        clear HMF HM HSI
                        go_wp2_with fail
                        go_roundg (sumN (subL am r l))
                        case measure => have h1 := HK.out; have h2 := HPI.out.2; omega
                        case rel => exact ⟨P ++ [nodesOf n l], vs ++ [.slice RP (l.length + 1) RC], Z ++ [r], _, _, _, _, _, _, by rw [List.length_append, List.length_singleton], by rw [List.length_append, List.length_singleton], rfl, rfl, by rw [List.length_append, List.length_singleton, List.length_append, List.length_singleton]; exact HMG.out, HPI.out.1⟩
        · have hl0 : left = 0 := by have := HI.out.lo; omega
          subst hl0
          have HPS : Hid (PathsIs wr (.slice PA vs.length pc) P) := by
            have hv := HM.out.b.vsl
            refine ⟨vs, hv, ?_, fun i u p h1 h2 => ?_⟩
            · rw [← hv]
              exact Rd.of_own HM.out.pr.own (fun _ _ x => x)
            · have ho := HM.out.b.rows i u p h1 h2
              obtain ⟨A, c, e⟩ := own_form ho
              exact ⟨A, c, e, Rd.of_own ho (fun _ _ x => x)⟩
          have HZI : Hid (IsI wr noB ⟨ZA, Z.length, zc⟩ Z) := ⟨rfl, Rd.of_own HM.out.zr.own (fun _ _ x => x)⟩
          have HSE := Lib.hid HM.out.b.since
          clear hl HM
          go_wp2_with fail
          refine bodyPost_ret (results_3 rfl _ _ _) rfl ?_
          exact ⟨_, ⟨ZA, Z.length, zc⟩, P, Z, am, rfl, HI.out, HPS.out, HZI.out, HSE.out⟩
end Go.Proofs.Ytpalacfgpcpppaa
