/- slices.Delete of one packet, take. -/
import Derived.Test.YtgmoeejhgjfpgaaNetC
namespace Go.Proofs.Ytgmoeejhgjfpgaa
open Go Go.RowKit Go.Maps

theorem zero34 (w : World) : (zeroValue 34).run Try.prog w = .ok (.agg #[.int .i64 0, .int .i64 0, .int .i64 0, .string .empty]) w := by kernel_rfl

theorem pcells_len (ps : List Pk) : (pcells ps).length = ps.length * 4 := by
  induction ps with
  | nil => rfl
  | cons p ps ih => simp [pcells, Pk.cells] at ih ⊢; omega
theorem pcells_one (ps : List Pk) : ∀ u ∈ pcells ps, u.oneCell' = true := by
  intro u hu
  obtain ⟨p, _, hp⟩ := List.mem_flatMap.1 hu
  exact pk_one p u hp
theorem pcells_take (ps : List Pk) (i : Nat) : (pcells ps).take (i * 4) = pcells (ps.take i) := by
  induction ps generalizing i with
  | nil => simp [pcells]
  | cons p ps ih =>
    cases i with
    | zero => simp [pcells]
    | succ i =>
      have h : pcells (p :: ps) = p.cells ++ pcells ps := rfl
      have h4 : p.cells.length = 4 := rfl
      rw [h, List.take_append, List.take_of_length_le (by omega), h4, show (i + 1) * 4 - 4 = i * 4 from by omega, ih]
      rfl
theorem pcells_drop (ps : List Pk) (i : Nat) : (pcells ps).drop (i * 4) = pcells (ps.drop i) := by
  induction ps generalizing i with
  | nil => simp [pcells]
  | cons p ps ih =>
    cases i with
    | zero => simp [pcells]
    | succ i =>
      have h : pcells (p :: ps) = p.cells ++ pcells ps := rfl
      have h4 : p.cells.length = 4 := rfl
      rw [h, List.drop_append, List.drop_of_length_le (by omega), h4, show (i + 1) * 4 - 4 = i * 4 from by omega, ih]
      rfl
theorem pcells_app (a b : List Pk) : pcells (a ++ b) = pcells a ++ pcells b := by simp [pcells]
theorem pcells_at {ps : List Pk} {i : Nat} {p : Pk} (h : ps[i]? = some p) (j : Nat) (hj : j < 4) : (pcells ps)[i * 4 + j]? = p.cells[j]? := by
  have hi : i < ps.length := (List.getElem?_eq_some_iff.1 h).1
  rw [show (pcells ps)[i * 4 + j]? = ((pcells ps).drop (i * 4))[j]? from by rw [List.getElem?_drop], pcells_drop, List.drop_eq_getElem_cons hi]
  have hp : ps[i] = p := by have := (List.getElem?_eq_some_iff.1 h).2; exact this
  rw [hp]
  have h' : pcells (p :: ps.drop (i + 1)) = p.cells ++ pcells (ps.drop (i + 1)) := rfl
  rw [h', List.getElem?_append_left (by simpa [Pk.cells] using hj)]

theorem delete_any {w : World} {v : Value} {ps : List Pk} (h : w.ownsRow 0 34 4 v ps.length (pcells ps)) {i : Nat} (hi : i < ps.length) (hs : ps.length ≤ 1000000) :
    Calls Try.prog 42 #[v, .int .i64 i, .int .i64 (i + 1)] w fun e w' => ∃ A c, e = .returned (.slice A (ps.length - 1) c) ∧ w'.ownsRow 0 34 4 (.slice A (ps.length - 1) c) (ps.eraseIdx i).length (pcells (ps.eraseIdx i)) ∧ w.grownBy w' v.ownBlock ∧ (Value.slice A (ps.length - 1) c).ownBlock = v.ownBlock := by
  obtain ⟨g, cap, rfl, _, _⟩ := h.form (by omega)
  have hcap : ps.length ≤ cap ∧ cap ≤ maxLen := by
    rcases h.2 with ⟨h', _⟩ | ⟨g', cap', cur, h', _, _, hnc, hcm, _⟩
    · cases h'
    · simp only [Value.slice.injEq, Option.some.injEq, Addr.mk.injEq, and_true, true_and] at h'
      obtain ⟨rfl, rfl⟩ := h'
      exact ⟨hnc, hcm⟩
  obtain ⟨hcap, hcm⟩ := hcap
  unfold maxLen at hcm
  have HA := Lib.hid (own_prefix h (i := i) (by omega)).drew
  have HC := Lib.hid (own_cut (bad := noB) h (k := i + 1) (by omega) (fun x => x)).drew
  clear h
  have e0 : ((i : Int) == (i : Int) + 1) = false := by simp; omega
  have hic : i ≤ cap := by omega
  have hi1 : (0 : Int) ≤ (i : Int) + 1 ∧ (i : Int) + 1 ≤ (ps.length : Int) := by omega
  have hi2 : i + 1 ≤ cap := by omega
  have hlen : i + (ps.length - (i + 1)) = ps.length - 1 := by omega
  have herase : (pcells ps).take (i * 4) ++ (pcells ps).drop ((i + 1) * 4) = pcells (ps.eraseIdx i) := by
    rw [pcells_take, pcells_drop, ← pcells_app, List.eraseIdx_eq_take_drop_succ]
  have HL := Lib.hid hlen
  have HE := Lib.hid herase
  clear hlen herase
  have hsub : ps.length - 1 ≤ cap := by omega
  go_enter Try.func42, Try.ntmps42
  go_wp2_with fail
  go_region_held3 (fun _ => True) (exact trivial) ((refine step_app_fits slP (by rfl) _ _ (by rfl) (by rfl) HA.out (by rfl) HC.out (fun u hu => pcells_one ps u (List.mem_of_mem_drop hu)) (by omega) ?_; rw [HL.out, HE.out]; intro w1 hown1 hgrow1))
  obtain ⟨w2, hcl, hown2, hgrow2⟩ := run_clear_behind slP zero34 rfl (by intro u hu; simp [Value.cells] at hu; rcases hu with rfl | rfl <;> rfl) hown1 ((ps.length - 1) * 4) (ps.length - (ps.length - 1)) (cap - (ps.length - 1)) (Nat.le_refl _) (by omega) 0
  have HO := Lib.hid hown2
  have HG : Hid (w.grownBy w2 (some g)) := by
    have h1 : Same (rowB (some g)) w w1 := ((Same.refl _ w).drew).grown hgrow1 (fun _ e _ => e.symm)
    exact (h1.grown hgrow2 (fun _ e _ => e.symm)).to_grown (fun _ _ e => e)
  clear hown1 hgrow1 hown2 hgrow2
  go_wp2_with fail
  all_goals
    go_ret
    refine ⟨_, _, rfl, ?_, HG.out, rfl⟩
    rw [List.length_eraseIdx_of_lt hi]
    first | exact HO.out | (have hcc : cap = i + 1 := (by assumption); subst hcc; exact HO.out)

theorem take_none {w : World} {S : Nat → Prop} {n : Nat} {st : NetSt} {k : Nat} (h : NetAt w S n st k) {i : Int} (hp : st.ps.length = 0) :
    Calls Try.prog 30 #[.pointer (some ⟨n, 0, none⟩), .int .i64 i] w fun e w' => e = .returned (.tuple #[.agg #[.int .i64 0, .int .i64 0, .int .i64 0, .string .empty], .bool false]) ∧ NetStep S n w w' st k := by
  have hS : Same noB w (w.alloc (.cells #[.int .i64 0, .int .i64 0, .int .i64 0, .string .empty] 34)) := (Same.refl _ _).alloc _
  obtain ⟨v, bm, hp'⟩ := h
  have H0 := Lib.hid (index_none (hp'.of_same hS) (i := i) hp)
  have H := Lib.hid hp'
  have HS := Lib.hid hS
  clear hp' hS hp
  go_enter Try.func30, Try.ntmps30
  go_wp2_with fail
  refine H0.out.mono ?_
  rintro e w' ⟨rfl, rfl⟩
  go_wp2_with fail
  refine bodyPost_ret (v := .tuple #[.agg #[.int .i64 0, .int .i64 0, .int .i64 0, .string .empty], .bool false]) (by simp [results, Try.results30, go_sem]; rfl) rfl ⟨rfl, ?_⟩
  exact NetStep.refl_ ⟨v, bm, H.out⟩ ((Same.refl _ _).alloc _)

theorem take_some {w : World} {S : Nat → Prop} {n : Nat} {st : NetSt} {k : Nat} (h : NetAt w S n st k) {i : Int} (hi : inI64 i) (hp : 0 < st.ps.length) (hs : st.ps.length ≤ 1000000) {p : Pk} (hpk : st.ps[(i % st.ps.length).toNat]? = some p) :
    Calls Try.prog 30 #[.pointer (some ⟨n, 0, none⟩), .int .i64 i] w fun e w' => e = .returned (.tuple #[p.val, .bool true]) ∧ NetStep S n w w' ⟨st.ps.eraseIdx (i % st.ps.length).toNat, st.last, st.iso⟩ k := by
  have hS : Same noB w (w.alloc (.cells #[.int .i64 0, .int .i64 0, .int .i64 0, .string .empty] 34)) := (Same.refl _ _).alloc _
  obtain ⟨v, bm, hp'⟩ := h
  have H0 := Lib.hid (index_some (hp'.of_same hS) hi hp hs)
  obtain ⟨j, hj⟩ : ∃ j : Nat, i % st.ps.length = (j : Int) := ⟨(i % st.ps.length).toNat, by have := Int.emod_nonneg i (b := (st.ps.length : Int)) (by omega); omega⟩
  rw [hj] at H0 hpk ⊢
  rw [Int.toNat_natCast] at hpk ⊢
  have hjl : j < st.ps.length := (List.getElem?_eq_some_iff.1 hpk).1
  clear hj hi
  obtain ⟨g, c, rfl, _, hgl⟩ := hp'.own.form hp
  have hp2 := hp'.of_same hS
  have hcj : ∀ t u, p.cells[t]? = some u → t < 4 → (w.alloc (.cells #[.int .i64 0, .int .i64 0, .int .i64 0, .string .empty] 34)).cell? ⟨g, j * 4 + t, none⟩ = some u := fun t u hu ht => by
    obtain ⟨b, o, e, r⟩ := (Rd.of_own (bad := noB) hp2.own (fun _ _ x => x)).at_ hp
    injection e with e
    injection e with e1 e2
    subst e1 e2
    have := r.cell (j * 4 + t) u (by rw [pcells_at hpk t ht]; exact hu)
    rwa [Nat.zero_add] at this
  have c0 := hcj 0 _ rfl (by decide)
  have c1 := hcj 1 _ rfl (by decide)
  have c2 := hcj 2 _ rfl (by decide)
  have c3 := hcj 3 _ rfl (by decide)
  have n0 : (w.alloc (.cells #[.int .i64 0, .int .i64 0, .int .i64 0, .string .empty] 34)).cell? ⟨n, 0, none⟩ = some (.slice (some ⟨g, 0, none⟩) st.ps.length c) := hp2.blk.cell 0
  rw [Nat.add_zero] at c0
  clear hcj
  have H := Lib.hid hp'
  have H1 := Lib.hid hp2
  have HD := Lib.hid hpk
  have hnl := hp'.blk.lt
  clear hp' hp2 hpk hS
  go_enter Try.func30, Try.ntmps30
  go_wp2_with fail
  refine H0.out.mono ?_
  rintro e w' ⟨rfl, rfl⟩
  go_wp2_with fail
  obtain ⟨W, hW⟩ : ∃ W, W = (w.alloc (.cells #[.int .i64 0, .int .i64 0, .int .i64 0, .string .empty] 34)).alloc (.cells #[.int .i64 p.num, .int .i64 p.frm, .int .i64 p.to, .string p.data] 34) := ⟨_, rfl⟩
  rw [← hW]
  have hSW : Same noB w W := by rw [hW]; exact ((Same.refl _ _).alloc _).alloc _
  have hB : Blk W w.heap.size 34 #[.int .i64 0, .int .i64 0, .int .i64 0, .string .empty] := by rw [hW]; exact (Blk.new _ _ _).alloc _
  have hB1 : Blk W (w.heap.size + 1) 34 #[.int .i64 p.num, .int .i64 p.frm, .int .i64 p.to, .string p.data] := by
    rw [hW]
    have := Blk.new (w.alloc (.cells #[.int .i64 0, .int .i64 0, .int .i64 0, .string .empty] 34)) 34 #[.int .i64 p.num, .int .i64 p.frm, .int .i64 p.to, .string p.data]
    simpa using this
  have hP := H.out.of_same hSW
  clear hW c0 c1 c2 c3 n0 H1 H0
  refine (delete_any hP.own hjl hs).mono ?_
  rintro e w1 ⟨A, c', rfl, hown, hgrow, hat⟩
  have hG : Same (rowB (some g)) W w1 := (Same.of_grown hgrow)
  have hgn : n ≠ g := hP.n_ne_own rfl
  have e0 : ¬ rowB (some g) w.heap.size := fun e => by injection e with e; omega
  have e1 : ¬ rowB (some g) (w.heap.size + 1) := fun e => by injection e with e; omega
  have en : ¬ rowB (some g) n := fun e => by injection e with e; exact hgn e
  have b0 := hB.same hG e0
  have b1 := hB1.same hG e1
  have bn := hP.blk.same hG en
  have hm1 := hP.map.lt
  have hbm : bm < w.heap.size := H.out.map.lt
  have hc := Lib.hid (fun w2 (h2 : Same (oneB w.heap.size) (w1.setCell ⟨n, 0, none⟩ (.slice A (st.ps.length - 1) c')) w2) => net_close' (ps' := st.ps.eraseIdx j) hP (hSW.of_no (S := S)) hG hown (.inl hat) h2 (fun b (hb : b = w.heap.size) => ⟨by omega, by omega, fun e => by rw [hat] at e; injection e with e; have e' : b = g := e; omega, by omega⟩))
  have d0 : w1.cell? ⟨w.heap.size, 0, none⟩ = some (.int .i64 0) := b0.cell 0
  have d1 : w1.cell? ⟨w.heap.size, 1, none⟩ = some (.int .i64 0) := b0.cell 1
  have d2 : w1.cell? ⟨w.heap.size, 2, none⟩ = some (.int .i64 0) := b0.cell 2
  have d3 : w1.cell? ⟨w.heap.size, 3, none⟩ = some (.string .empty) := b0.cell 3
  have g0 := b0.frozen 0
  have g1 := b0.frozen 1
  have g2 := b0.frozen 2
  have g3 := b0.frozen 3
  have x0 : w1.cell? ⟨w.heap.size + 1, 0, none⟩ = some (.int .i64 p.num) := b1.cell 0
  have x1 : w1.cell? ⟨w.heap.size + 1, 1, none⟩ = some (.int .i64 p.frm) := b1.cell 1
  have x2 : w1.cell? ⟨w.heap.size + 1, 2, none⟩ = some (.int .i64 p.to) := b1.cell 2
  have x3 : w1.cell? ⟨w.heap.size + 1, 3, none⟩ = some (.string p.data) := b1.cell 3
  have y0 : w1.cell? ⟨n, 0, none⟩ = some (.slice (some ⟨g, 0, none⟩) st.ps.length c) := bn.cell 0
  have y1 := bn.frozen 0
  clear b0 b1 bn hB hB1 hP hown hgrow hat hG e0 e1 en
  go_wp2_with fail
  refine bodyPost_ret (v := .tuple #[p.val, .bool true]) (by simp [results, Try.results30, go_sem, d0, d1, d2, d3, Pk.val]) rfl ⟨rfl, hc.out _ ?_⟩
  exact ((((Same.refl _ _).set1 0 _).set1 1 _).set1 2 _).set1 3 _
end Go.Proofs.Ytgmoeejhgjfpgaa
