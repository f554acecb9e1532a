/- Layer 10: the arcs at each node: around of the program. (printed by genFloG.py) -/
import Derived.Test.YtpalacfgpcpppaaFloF
namespace Go.Proofs.Ytpalacfgpcpppaa
open Go Go.RowKit Go.Maps
set_option maxRecDepth 100000

def AroS (E D B : Nat) (v : Int) (R : Value) (w : World) : Prop := w.cell? ⟨E, D, none⟩ = some (.int .i64 v) ∧ (Instr.lookup 58 (.map (some B)) (.int .i64 v) false).run Try.prog w = .ok R w
theorem inI64_node {n : NetV} (h : n.Ok) {v : Int} (hv : 0 ≤ v ∧ v < n.nodes) : inI64 v := inI64_of (by omega) (by have := h.nodes; omega)
/-- What a call has made: the arcs at each node. -/
def AdjM (w W : World) (v : Value) (arcs : List ArcV) : Prop := ∃ B nm f, v = .map (some B) ∧ Adj w W B nm f (adjL arcs)
set_option maxHeartbeats 16000000 in
theorem around_any {w : World} {n : NetV} (h : NetIs w n) (hv : n.validB = true) :
    Calls Try.prog 27 #[n.val] w fun r w' => ∃ v, r = .returned v ∧ AdjM w w' v n.arcs ∧ Same noB w w' := by
  have HB := Lib.hid h
  have hok := NetV.validB_ok hv
  have HOK := Lib.hid hok
  have hcaps := h.rd.caps
  clear h hv hok
  unfold NetV.val
  obtain ⟨A, hA⟩ : ∃ A, n.sl.addr = A := ⟨_, rfl⟩
  obtain ⟨m, hm⟩ : ∃ m, n.sl.len = m := ⟨_, rfl⟩
  obtain ⟨c, hcc⟩ : ∃ c, n.sl.cap = c := ⟨_, rfl⟩
  have HR : Hid (Rd w noB 4 (.slice A m c) m (acells n.arcs)) := by show Rd _ _ _ _ _ _; rw [← hA, ← hm, ← hcc]; exact HB.out.rd
  have hL : m = n.arcs.length := by rw [← hm]; exact HB.out.len
  rw [hA, hm, hcc]
  rw [hm, hcc] at hcaps
  have hmb : m ≤ 4000 := by have := HOK.out.len; omega
  have HL := Lib.hid hL
  clear hA hm hcc hL HB
  go_enter Try.func27, Try.ntmps27
  go_upto_region 1 with (fail)
  refine wp_abs (fun W => Hid (W.cell? ⟨w.heap.size, 3, none⟩ = some (.slice A m c)) ∧ Hid (Same noB w W)) ⟨(Blk.new w 24 _).cell 3, (Same.refl _ _).alloc _⟩ ?_
  rintro W0 ⟨HN, HS⟩
  obtain ⟨N, hN⟩ : ∃ N, w.heap.size = N := ⟨_, rfl⟩
  have HAJ0 := Lib.hid (Adj.made w (W := W0) HS.out.size)
  have hmm := @run_makeMap Try.prog
  go_upto_region 2 with (fail)
  refine wp_abs (fun W => Hid (Adj w W W0.heap.size 0 (fun _ => none) (fun _ => [])) ∧ Hid (W.cell? ⟨w.heap.size, 3, none⟩ = some (.slice A m c)) ∧ Hid (Same noB w W)) ⟨HAJ0.out, ((Same.refl noB W0).alloc _).cell HN.out (fun x => x), HS.out.alloc _⟩ ?_
  clear HAJ0 HN HS hmm
  rintro W1 ⟨HJ, HN, HS⟩
  obtain ⟨B, hB⟩ : ∃ B, W0.heap.size = B := ⟨_, rfl⟩
  rw [hN] at HN ⊢
  rw [hB] at HJ ⊢
  clear hN hB
  have x3 := HN.out
  go_wp2_with fail
  go_loopw [10] (fun i wr => ∃ k : Nat, k ≤ m ∧ i = .int .i64 k ∧ Hid (∃ nm f, Adj w wr B nm f (adjK n.arcs k)) ∧ Hid (Same noB w wr)) (fun i _ => m - (intOf i).toNat)
  case atStart => exact ⟨0, Nat.zero_le _, rfl, ⟨0, _, HJ.out⟩, HS.out⟩
  case round =>
    clear HJ HS HN x3
    obtain ⟨k, hk, rfl, HJ, HS⟩ := hrel
    by_cases hlt : k < m
    · obtain ⟨x, hx⟩ : ∃ e, n.arcs[k]? = some e := ⟨_, List.getElem?_eq_getElem (by have := HL.out; omega)⟩
      have HX := Lib.hid hx
      have HXO := Lib.hid (HOK.out.arcs x (List.mem_of_getElem? hx))
      obtain ⟨b, o, rfl, r⟩ := (HR.out.keep HS.out).at_ (by omega)
      obtain ⟨p0, p1, p2, p3⟩ := arc_at r hx
      have hi0 : (0 : Int) ≤ (k : Int) := by omega
      have hi1 : (k : Int) < (m : Int) := by omega
      clear r hx
      have HE0 := Lib.hid (row_stored (Blk.new wr 43 #[.int .i64 0, .int .i64 0, .int .i64 0, .int .i64 0]) #[.int .i64 x.f, .int .i64 x.t, .int .i64 x.c, .int .i64 x.d])
      go_upto_region 5 with (refine wpList_store_row rfl 43 _ _ rfl wr.heap.size #[.int .i64 x.f, .int .i64 x.t, .int .i64 x.c, .int .i64 x.d] rfl rfl 43 _ (Blk.new wr 43 #[.int .i64 0, .int .i64 0, .int .i64 0, .int .i64 0]) (by kernel_rfl) rfl (by kernel_rfl) ?_)
      have hs0 : Same noB wr ((wr.alloc (.cells #[.int .i64 0, .int .i64 0, .int .i64 0, .int .i64 0] 43)).setRow wr.heap.size #[.int .i64 x.f, .int .i64 x.t, .int .i64 x.c, .int .i64 x.d]) := ((Same.refl noB wr).alloc _).trans HE0.out.2 (fun b hb hx => by have h3 : b = wr.heap.size := hx; omega)
      refine wp_abs (fun W => Hid (Blk W wr.heap.size 43 #[.int .i64 x.f, .int .i64 x.t, .int .i64 x.c, .int .i64 x.d]) ∧ Hid (∃ nm f, Adj w W B nm f (adjK n.arcs k)) ∧ Hid (Same noB w W) ∧ Hid (w.heap.size ≤ wr.heap.size)) ⟨HE0.out.1, by obtain ⟨nm, f, hj⟩ := HJ.out; exact ⟨nm, f, hj.keep hs0⟩, HS.out.trans' hs0, HS.out.size⟩ ?_
      clear hs0 HE0 HJ HS p0 p1 p2 p3
      rintro W2 ⟨HE, HJ, HS, HEL⟩
      obtain ⟨E, hE⟩ : ∃ E, wr.heap.size = E := ⟨_, rfl⟩
      rw [hE] at HE HEL ⊢
      clear hE
      obtain ⟨nm, f, hj⟩ := HJ.out
      have HJ2 := Lib.hid hj
      obtain ⟨J, hJ⟩ : ∃ J, adjK n.arcs k = J := ⟨_, rfl⟩
      rw [hJ] at HJ2
      have HJE := Lib.hid hJ
      clear hj hJ HJ
      have HIN : Hid (inI64 x.f) := inI64_node HOK.out HXO.out.f
      have HJD := Lib.hid ((HJ2.out.keep ((Same.refl noB W2).alloc (.cells #[.int .i64 (k : Int)] 3))).keep ((Same.refl noB (W2.alloc (.cells #[.int .i64 (k : Int)] 3))).drew))
      obtain ⟨R, cR, hR⟩ := HJ2.out.isrow x.f
      have hl0 := HJ2.out.lookup HIN.out
      have HOW := Lib.hid (HJD.out.row x.f)
      have HLE : Hid ((J x.f).length ≤ 4001) := by
        show _ ≤ _
        rw [← HJE.out]
        have := adjK_len n.arcs k x.f
        omega
      rw [hR] at hl0
      have HRO := Lib.hid hR
      rw [hR] at HOW
      clear hR
      have hl1 : (Instr.lookup 58 (.map (some B)) (.int .i64 x.f) false).run Try.prog W2.drew = .ok (.slice R (J x.f).length cR) W2.drew := by
        have := (HJ2.out.keep ((Same.refl noB W2).drew)).lookup HIN.out
        rw [HRO.out] at this
        exact this
      have e0 : W2.drew.cell? ⟨E, 0, none⟩ = some (.int .i64 x.f) := (HE.out.drew).cell 0
      have HE1 := Lib.hid ((HE.out.alloc (.cells #[.int .i64 (k : Int)] 3)).drew)
      have HL1 : Hid ((Instr.lookup 58 (.map (some B)) (.int .i64 x.f) false).run Try.prog (W2.alloc (.cells #[.int .i64 (k : Int)] 3)).drew = .ok (.slice R (J x.f).length cR) (W2.alloc (.cells #[.int .i64 (k : Int)] 3)).drew) := by
        show _ = _
        rw [← HRO.out]
        exact HJD.out.lookup HIN.out
      clear hl0
      refine wp_region_T (S := AroS E 0 B x.f (.slice R (J x.f).length cR)) (late := fun j => [10].contains j) (by kernel_rfl) ?_ (fun hHeld => ?_)
      · exact ⟨e0, hl1⟩
      refine T_pure (i := 0) (v := ?va0) rfl (by kernel_rfl) (by kernel_rfl) (by kernel_rfl) (fun _ _ _ h => h) (Or.inl ⟨?_, ?_⟩) ?_
      rotate_left 1
      · rfl
      · (intro w hSw; clear hSw; go_simp; (try with_reducible rfl))
      go_simp
      refine T_pure (i := 1) (v := ?va1) rfl (by kernel_rfl) (by kernel_rfl) (by kernel_rfl) (fun _ _ _ h => h) (Or.inl ⟨?_, ?_⟩) ?_
      rotate_left 1
      · rfl
      · (intro w hSw; clear hSw; go_simp; (try with_reducible rfl))
      go_simp
      refine T_take (i := 2) (v := ?va2) rfl (by kernel_rfl) (by kernel_rfl) (by kernel_rfl) (by kernel_rfl) (fun _ _ _ h => h) (Or.inl ⟨?_, ?_⟩) (by assumption) ?_
      rotate_left 1
      · rfl
      · (intro w hSw; unfold AroS at hSw; go_simp; (try with_reducible rfl))
      go_simp
      refine T_pure (i := 3) (v := ?va3) rfl (by kernel_rfl) (by kernel_rfl) (by kernel_rfl) (fun _ _ _ h => h) (Or.inl ⟨?_, ?_⟩) ?_
      rotate_left 1
      · rfl
      · (intro w hSw; clear hSw; go_simp; (try with_reducible rfl))
      go_simp
      refine T_pure (i := 4) (v := ?va4) rfl (by kernel_rfl) (by kernel_rfl) (by kernel_rfl) (fun _ _ _ h => h) (Or.inl ⟨?_, ?_⟩) ?_
      rotate_left 1
      · rfl
      · (intro w hSw; clear hSw; go_simp; (try with_reducible rfl))
      go_simp
      refine T_take (i := 5) (v := ?va5) rfl (by kernel_rfl) (by kernel_rfl) (by kernel_rfl) (by kernel_rfl) (fun _ _ _ h => h) (Or.inl ⟨?_, ?_⟩) (by assumption) ?_
      rotate_left 1
      · rfl
      · (intro w hSw; unfold AroS at hSw; go_simp; (try with_reducible rfl))
      go_simp
      refine T_take (i := 6) (v := ?va6) rfl (by kernel_rfl) (by kernel_rfl) (by kernel_rfl) (by kernel_rfl) (fun _ _ _ h => h) (Or.inl ⟨?_, ?_⟩) (by assumption) ?_
      rotate_left 1
      · rfl
      · (intro w hSw; unfold AroS at hSw; go_simp; (try with_reducible rfl))
      go_simp
      refine T_pure (i := 7) (v := ?va7) rfl (by kernel_rfl) (by kernel_rfl) (by kernel_rfl) (fun _ _ _ h => h) (Or.inl ⟨?_, ?_⟩) ?_
      rotate_left 1
      · rfl
      · (intro w hSw; clear hSw; go_simp; (try with_reducible rfl))
      go_simp
      refine T_ready (rs := [8]) (by kernel_rfl) (by simp) ?_
      refine ReadyT.early rfl (fun K hK => ?_) ReadyT.nil
      go_simp
      refine hK.out _ _ ?_ (fun hHeld => ?_)
      · exact ⟨HE1.out.cell 0, HL1.out⟩
      clear hK K
      refine T_ready (rs := [9]) (by kernel_rfl) (by simp) ?_
      refine ReadyT.early rfl (fun K hK => ?_) ReadyT.nil
      refine step_app sl50 rfl _ _ rfl rfl (HOW.out) rfl (Rd.of_blk (bad := noB) ((Blk.new W2 3 #[.int .i64 (k : Int)]).drew) (fun x => x) rfl (by omega) (by simp [maxLen])) (int_one (k : Int)) (by have := HLE.out; omega) (Nat.zero_le _) ?_
      intro A7 c7 W7 hown7 hgrow7 hat7 _
      replace hown7 : W7.ownsRow 0 3 1 (.slice A7 ((J x.f).length + 1) c7) ((J x.f).length + 1) (icells (J x.f) ++ [.int .i64 (k : Int)]) := hown7
      replace hgrow7 : (W2.alloc (.cells #[.int .i64 (k : Int)] 3)).drew.grownBy W7 (rowOf f x.f).ownBlock := by rw [HRO.out]; exact hgrow7
      replace hat7 : (Value.slice A7 ((J x.f).length + 1) c7).ownBlock = (rowOf f x.f).ownBlock ∨ (Value.slice A7 ((J x.f).length + 1) c7).ownBlock = some (W2.alloc (.cells #[.int .i64 (k : Int)] 3)).drew.heap.size := by rw [HRO.out]; exact hat7
      obtain ⟨W8, r8, hM8, hg8⟩ := (HJD.out.mid hgrow7).store Try.underlying58 (k := x.f) HIN.out (.slice A7 ((J x.f).length + 1) c7)
      have hE7 : Blk W7 E 43 #[.int .i64 x.f, .int .i64 x.t, .int .i64 x.c, .int .i64 x.d] := HE1.out.same (Same.of_grown hgrow7) (fun e => by
        obtain ⟨cs, hc⟩ := own_blk (HJD.out.row x.f) (show _ = some E from e.symm)
        exact HE1.out.ne_ hc (by decide) rfl)
      replace e0 : W7.cell? ⟨E, 0, none⟩ = some (.int .i64 x.f) := hE7.cell 0
      replace hl1 : (Instr.lookup 58 (.map (some B)) (.int .i64 x.f) false).run Try.prog W7 = .ok (.slice R (J x.f).length cR) W7 := by
        have h7 := (HJD.out.mid hgrow7).lookup Try.underlying58 (zero50 W7) (k := x.f) HIN.out false
        rw [← HRO.out]
        exact h7
      have HG7 := Lib.hid (And.intro hown7 (And.intro hgrow7 (And.intro hat7 (And.intro hM8 (And.intro hg8 hE7)))))
      clear hE7 hown7 hgrow7 hat7 hM8 hg8
      have r9 : (Instr.mapUpdate 58 (.map (some B)) (.int .i64 (x.f)) (.slice A7 ((J x.f).length + 1) c7)).run Try.prog W7 = .ok () W8 := r8
      clear r8
      clear hHeld
      refine hK.out _ _ ?_ (fun hHeld => ?_)
      · exact ⟨e0, hl1⟩
      clear hK K
      go_simp
      refine T_ready (rs := [10]) (by kernel_rfl) (by simp) ?_
      refine ReadyT.behind rfl rfl (fun K hK => ?_) ReadyT.nil
      go_simp
      skip
      refine hK.out _ _ ?_
      clear hK K
      refine T_done (by kernel_rfl) ?_ _
      have hG := HG7.out
      obtain ⟨hown7, hgrow7, hat7, hM8, hg8, hE7⟩ := hG
      have hsz : w.heap.size ≤ (W2.alloc (.cells #[.int .i64 (k : Int)] 3)).drew.heap.size := ((HS.out.alloc (.cells #[.int .i64 (k : Int)] 3)).drew).size
      have hpush := HJD.out.push (i := (k : Int)) hown7 hgrow7 hat7 hsz hM8 hg8
      have hsince := HJD.out.since ((HS.out.alloc (.cells #[.int .i64 (k : Int)] 3)).drew) hgrow7 hg8
      have hE8 : Blk W8 E 43 #[.int .i64 x.f, .int .i64 x.t, .int .i64 x.c, .int .i64 x.d] :=
        hE7.same (Same.of_grown hg8) (fun e => by
          injection e with e
          exact (HJD.out.mid hgrow7).ne_blk hE7 e.symm)
      rw [← HJE.out] at hpush
      go_upto_region 6 with (fail)
      refine wp_abs (fun W => Hid (Blk W E 43 #[.int .i64 x.f, .int .i64 x.t, .int .i64 x.c, .int .i64 x.d]) ∧ Hid (∃ nm f, Adj w W B nm f (fun y => if y = x.f then adjK n.arcs k x.f ++ [(k : Int)] else adjK n.arcs k y)) ∧ Hid (Same noB w W)) ⟨hE8, ⟨_, _, hpush⟩, hsince⟩ ?_
      clear hpush hsince hE7 hE8 HE1 HL1 hown7 hgrow7 hat7 hM8 hg8 HG7 HJD HJ2 HJE HOW HLE HRO HIN hl1 e0 r9 hHeld hsz HE HS
      rintro W3 ⟨HE, HJ, HS⟩
      obtain ⟨nm, f, hj⟩ := HJ.out
      have HJ2 := Lib.hid hj
      obtain ⟨J, hJ⟩ : ∃ J, (fun y => if y = x.f then adjK n.arcs k x.f ++ [(k : Int)] else adjK n.arcs k y) = J := ⟨_, rfl⟩
      rw [hJ] at HJ2
      have HJE := Lib.hid hJ
      clear hj hJ HJ
      have HIN : Hid (inI64 x.t) := inI64_node HOK.out HXO.out.t
      have HJD := Lib.hid ((HJ2.out.keep ((Same.refl noB W3).alloc (.cells #[.int .i64 (k : Int)] 3))).keep ((Same.refl noB (W3.alloc (.cells #[.int .i64 (k : Int)] 3))).drew))
      obtain ⟨R, cR, hR⟩ := HJ2.out.isrow x.t
      have hl0 := HJ2.out.lookup HIN.out
      have HOW := Lib.hid (HJD.out.row x.t)
      have HLE : Hid ((J x.t).length ≤ 4001) := by
        show _ ≤ _
        rw [← HJE.out]
        have := adjK_len n.arcs k x.t
        have h2 := adjK_len n.arcs k x.f
        show (if x.t = x.f then adjK n.arcs k x.f ++ [(k : Int)] else adjK n.arcs k x.t).length ≤ _
        split
        · rw [List.length_append, List.length_singleton]; omega
        · omega
      rw [hR] at hl0
      have HRO := Lib.hid hR
      rw [hR] at HOW
      clear hR
      have hl1 : (Instr.lookup 58 (.map (some B)) (.int .i64 x.t) false).run Try.prog W3.drew = .ok (.slice R (J x.t).length cR) W3.drew := by
        have := (HJ2.out.keep ((Same.refl noB W3).drew)).lookup HIN.out
        rw [HRO.out] at this
        exact this
      have e0 : W3.drew.cell? ⟨E, 1, none⟩ = some (.int .i64 x.t) := (HE.out.drew).cell 1
      have HE1 := Lib.hid ((HE.out.alloc (.cells #[.int .i64 (k : Int)] 3)).drew)
      have HL1 : Hid ((Instr.lookup 58 (.map (some B)) (.int .i64 x.t) false).run Try.prog (W3.alloc (.cells #[.int .i64 (k : Int)] 3)).drew = .ok (.slice R (J x.t).length cR) (W3.alloc (.cells #[.int .i64 (k : Int)] 3)).drew) := by
        show _ = _
        rw [← HRO.out]
        exact HJD.out.lookup HIN.out
      clear hl0
      refine wp_region_T (S := AroS E 1 B x.t (.slice R (J x.t).length cR)) (late := fun j => [10].contains j) (by kernel_rfl) ?_ (fun hHeld => ?_)
      · exact ⟨e0, hl1⟩
      refine T_pure (i := 0) (v := ?vb0) rfl (by kernel_rfl) (by kernel_rfl) (by kernel_rfl) (fun _ _ _ h => h) (Or.inl ⟨?_, ?_⟩) ?_
      rotate_left 1
      · rfl
      · (intro w hSw; clear hSw; go_simp; (try with_reducible rfl))
      go_simp
      refine T_pure (i := 1) (v := ?vb1) rfl (by kernel_rfl) (by kernel_rfl) (by kernel_rfl) (fun _ _ _ h => h) (Or.inl ⟨?_, ?_⟩) ?_
      rotate_left 1
      · rfl
      · (intro w hSw; clear hSw; go_simp; (try with_reducible rfl))
      go_simp
      refine T_take (i := 2) (v := ?vb2) rfl (by kernel_rfl) (by kernel_rfl) (by kernel_rfl) (by kernel_rfl) (fun _ _ _ h => h) (Or.inl ⟨?_, ?_⟩) (by assumption) ?_
      rotate_left 1
      · rfl
      · (intro w hSw; unfold AroS at hSw; go_simp; (try with_reducible rfl))
      go_simp
      refine T_pure (i := 3) (v := ?vb3) rfl (by kernel_rfl) (by kernel_rfl) (by kernel_rfl) (fun _ _ _ h => h) (Or.inl ⟨?_, ?_⟩) ?_
      rotate_left 1
      · rfl
      · (intro w hSw; clear hSw; go_simp; (try with_reducible rfl))
      go_simp
      refine T_pure (i := 4) (v := ?vb4) rfl (by kernel_rfl) (by kernel_rfl) (by kernel_rfl) (fun _ _ _ h => h) (Or.inl ⟨?_, ?_⟩) ?_
      rotate_left 1
      · rfl
      · (intro w hSw; clear hSw; go_simp; (try with_reducible rfl))
      go_simp
      refine T_take (i := 5) (v := ?vb5) rfl (by kernel_rfl) (by kernel_rfl) (by kernel_rfl) (by kernel_rfl) (fun _ _ _ h => h) (Or.inl ⟨?_, ?_⟩) (by assumption) ?_
      rotate_left 1
      · rfl
      · (intro w hSw; unfold AroS at hSw; go_simp; (try with_reducible rfl))
      go_simp
      refine T_take (i := 6) (v := ?vb6) rfl (by kernel_rfl) (by kernel_rfl) (by kernel_rfl) (by kernel_rfl) (fun _ _ _ h => h) (Or.inl ⟨?_, ?_⟩) (by assumption) ?_
      rotate_left 1
      · rfl
      · (intro w hSw; unfold AroS at hSw; go_simp; (try with_reducible rfl))
      go_simp
      refine T_pure (i := 7) (v := ?vb7) rfl (by kernel_rfl) (by kernel_rfl) (by kernel_rfl) (fun _ _ _ h => h) (Or.inl ⟨?_, ?_⟩) ?_
      rotate_left 1
      · rfl
      · (intro w hSw; clear hSw; go_simp; (try with_reducible rfl))
      go_simp
      refine T_ready (rs := [8]) (by kernel_rfl) (by simp) ?_
      refine ReadyT.early rfl (fun K hK => ?_) ReadyT.nil
      go_simp
      refine hK.out _ _ ?_ (fun hHeld => ?_)
      · exact ⟨HE1.out.cell 1, HL1.out⟩
      clear hK K
      refine T_ready (rs := [9]) (by kernel_rfl) (by simp) ?_
      refine ReadyT.early rfl (fun K hK => ?_) ReadyT.nil
      refine step_app sl50 rfl _ _ rfl rfl (HOW.out) rfl (Rd.of_blk (bad := noB) ((Blk.new W3 3 #[.int .i64 (k : Int)]).drew) (fun x => x) rfl (by omega) (by simp [maxLen])) (int_one (k : Int)) (by have := HLE.out; omega) (Nat.zero_le _) ?_
      intro A7 c7 W7 hown7 hgrow7 hat7 _
      replace hown7 : W7.ownsRow 0 3 1 (.slice A7 ((J x.t).length + 1) c7) ((J x.t).length + 1) (icells (J x.t) ++ [.int .i64 (k : Int)]) := hown7
      replace hgrow7 : (W3.alloc (.cells #[.int .i64 (k : Int)] 3)).drew.grownBy W7 (rowOf f x.t).ownBlock := by rw [HRO.out]; exact hgrow7
      replace hat7 : (Value.slice A7 ((J x.t).length + 1) c7).ownBlock = (rowOf f x.t).ownBlock ∨ (Value.slice A7 ((J x.t).length + 1) c7).ownBlock = some (W3.alloc (.cells #[.int .i64 (k : Int)] 3)).drew.heap.size := by rw [HRO.out]; exact hat7
      obtain ⟨W8, r8, hM8, hg8⟩ := (HJD.out.mid hgrow7).store Try.underlying58 (k := x.t) HIN.out (.slice A7 ((J x.t).length + 1) c7)
      have hE7 : Blk W7 E 43 #[.int .i64 x.f, .int .i64 x.t, .int .i64 x.c, .int .i64 x.d] := HE1.out.same (Same.of_grown hgrow7) (fun e => by
        obtain ⟨cs, hc⟩ := own_blk (HJD.out.row x.t) (show _ = some E from e.symm)
        exact HE1.out.ne_ hc (by decide) rfl)
      replace e0 : W7.cell? ⟨E, 1, none⟩ = some (.int .i64 x.t) := hE7.cell 1
      replace hl1 : (Instr.lookup 58 (.map (some B)) (.int .i64 x.t) false).run Try.prog W7 = .ok (.slice R (J x.t).length cR) W7 := by
        have h7 := (HJD.out.mid hgrow7).lookup Try.underlying58 (zero50 W7) (k := x.t) HIN.out false
        rw [← HRO.out]
        exact h7
      have HG7 := Lib.hid (And.intro hown7 (And.intro hgrow7 (And.intro hat7 (And.intro hM8 (And.intro hg8 hE7)))))
      clear hE7 hown7 hgrow7 hat7 hM8 hg8
      have r9 : (Instr.mapUpdate 58 (.map (some B)) (.int .i64 (x.t)) (.slice A7 ((J x.t).length + 1) c7)).run Try.prog W7 = .ok () W8 := r8
      clear r8
      clear hHeld
      refine hK.out _ _ ?_ (fun hHeld => ?_)
      · exact ⟨e0, hl1⟩
      clear hK K
      go_simp
      refine T_ready (rs := [10]) (by kernel_rfl) (by simp) ?_
      refine ReadyT.behind rfl rfl (fun K hK => ?_) ReadyT.nil
      go_simp
      skip
      refine hK.out _ _ ?_
      clear hK K
      refine T_done (by kernel_rfl) ?_ _
      have hG := HG7.out
      obtain ⟨hown7, hgrow7, hat7, hM8, hg8, hE7⟩ := hG
      have hsz : w.heap.size ≤ (W3.alloc (.cells #[.int .i64 (k : Int)] 3)).drew.heap.size := ((HS.out.alloc (.cells #[.int .i64 (k : Int)] 3)).drew).size
      have hpush := HJD.out.push (i := (k : Int)) hown7 hgrow7 hat7 hsz hM8 hg8
      have hsince := HJD.out.since ((HS.out.alloc (.cells #[.int .i64 (k : Int)] 3)).drew) hgrow7 hg8
      have hE8 : Blk W8 E 43 #[.int .i64 x.f, .int .i64 x.t, .int .i64 x.c, .int .i64 x.d] :=
        hE7.same (Same.of_grown hg8) (fun e => by
          injection e with e
          exact (HJD.out.mid hgrow7).ne_blk hE7 e.symm)
      have HFI : Hid (∃ nm f, Adj w W8 B nm f (adjK n.arcs (k + 1))) := by
        have hp := hpush
        rw [← HJE.out, adjK_two HX.out HXO.out.ne] at hp
        exact ⟨_, _, hp⟩
      have HSI := Lib.hid hsince
      clear hpush hsince hE7 hE8 HE1 HL1 hown7 hgrow7 hat7 hM8 hg8 HG7 HJD HJ2 HJE HOW HLE HRO HIN hl1 e0 r9 hHeld hsz HE HS
      go_wp2_with fail
      go_roundw
      case rel => exact ⟨k + 1, by omega, by go_num, HFI.out, HSI.out⟩
      case measure => simp [intOf]; omega
    · obtain rfl : k = m := by omega
      have HF : Hid (AdjM w wr (.map (some B)) n.arcs) := by
        obtain ⟨nm, f, hj⟩ := HJ.out
        refine ⟨B, nm, f, rfl, ?_⟩
        unfold adjL
        rw [← HL.out]
        exact hj
      go_wp2_with fail
      go_ret
      exact ⟨_, rfl, HF.out, HS.out⟩
end Go.Proofs.Ytpalacfgpcpppaa
