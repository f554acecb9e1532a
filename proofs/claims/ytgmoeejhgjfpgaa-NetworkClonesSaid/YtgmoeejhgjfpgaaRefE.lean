/- The reference's Remove and Deliver. -/
import Derived.Test.YtgmoeejhgjfpgaaRefD
import Derived.IntWalk
import Derived.Deep.CutRange
namespace Go.Proofs.Ytgmoeejhgjfpgaa
open Go Go.RowKit Go.Maps

theorem Rd.pre {w : World} {bad : Nat → Prop} {size n b o c k : Nat} {xs : List Value} (h : Rd w bad size (.slice (some ⟨b, o, none⟩) n c) n xs) (hk : k ≤ n) (hp : 0 < n) : Rd w bad size (.slice (some ⟨b, o, none⟩) k c) k (xs.take (k * size)) := by
  obtain ⟨b', o', e', r⟩ := h.at_ hp
  obtain ⟨A, c', e, hnc, hcm, hl, hA, _⟩ := h
  injection e with e1 e2 e3
  subst e1 e3
  injection e' with e'
  injection e' with e1 e2
  subst e1 e2
  have hm : k * size ≤ n * size := Nat.mul_le_mul_right _ hk
  refine ⟨_, _, rfl, by omega, hcm, by rw [List.length_take]; omega, (fun h => by cases h), fun _ => ⟨b, o, rfl, r.lt, r.ok, fun j u hu => r.cell j u ?_⟩⟩
  rw [List.getElem?_take] at hu
  split at hu
  · exact hu
  · cases hu
theorem Rd.cut {w : World} {bad : Nat → Prop} {size n b o c k : Nat} {xs : List Value} (h : Rd w bad size (.slice (some ⟨b, o, none⟩) n c) n xs) (hk : k ≤ n) (hp : 0 < n) :
    Rd w bad size (.slice (if c = k then some ⟨b, o, none⟩ else some ⟨b, o + k * size, none⟩) (n - k) (c - k)) (n - k) (xs.drop (k * size)) := by
  obtain ⟨b', o', e', r⟩ := h.at_ hp
  obtain ⟨A, c', e, hnc, hcm, hl, hA, _⟩ := h
  injection e with e1 e2 e3
  subst e1 e3
  injection e' with e'
  injection e' with e1 e2
  subst e1 e2
  refine ⟨_, _, rfl, by omega, by omega, by rw [List.length_drop, hl, Nat.sub_mul], fun h' => ?_, fun hpos => ?_⟩
  · split at h' <;> cases h'
  · rw [if_neg (by omega)]
    refine ⟨b, o + k * size, rfl, r.lt, r.ok, fun j u hu => ?_⟩
    have := r.cell (k * size + j) u (by rw [← hu, List.getElem?_drop])
    rwa [← Nat.add_assoc] at this
theorem Rd.caps {w : World} {bad : Nat → Prop} {size n c : Nat} {A : Option Addr} {xs : List Value} (h : Rd w bad size (.slice A n c) n xs) : n ≤ c ∧ c ≤ 9223372036854775807 := by
  obtain ⟨A', c', e, h1, h2, _⟩ := h
  injection e with e1 e2 e3
  subst e3
  exact ⟨h1, by simpa [maxLen] using h2⟩

namespace RLoc
theorem start3 {w : World} {bad : Nat → Prop} {A : Option Addr} {c : Nat} {A' : Option Addr} {c' : Nat} {st : NetSt} (h1 : Rd w bad 4 (.slice A st.ps.length c) st.ps.length (pcells st.ps)) (h2 : Rd w bad 1 (.slice A' st.iso.length c') st.iso.length (icells st.iso)) (hbd : ∀ b, bad b → b < w.heap.size) :
    RLoc w (((w.alloc (.cells #[.slice A st.ps.length c, .int .i64 st.last, .slice A' st.iso.length c'] 43)).alloc (.cells #[.slice none 0 0, .int .i64 0, .slice none 0 0] 43)).alloc (.cells #[.int .i64 0, .int .i64 0, .int .i64 0, .string .empty] 34)) bad w.heap.size (w.heap.size + 1) 3 A c A' c' st ∧
    Blk (((w.alloc (.cells #[.slice A st.ps.length c, .int .i64 st.last, .slice A' st.iso.length c'] 43)).alloc (.cells #[.slice none 0 0, .int .i64 0, .slice none 0 0] 43)).alloc (.cells #[.int .i64 0, .int .i64 0, .int .i64 0, .string .empty] 34)) (w.heap.size + 2) 34 #[.int .i64 0, .int .i64 0, .int .i64 0, .string .empty] := by
  have h := RLoc.start h1 h2 hbd
  have hS : Same noB w (w.alloc (.cells #[.slice A st.ps.length c, .int .i64 st.last, .slice A' st.iso.length c'] 43)) := (Same.refl _ _).alloc _
  have hS2 := hS.alloc (.cells #[.slice none 0 0, .int .i64 0, .slice none 0 0] 43)
  have hS3 := hS2.alloc (.cells #[.int .i64 0, .int .i64 0, .int .i64 0, .string .empty] 34)
  refine ⟨⟨⟨(h.i.blk).alloc _, h1.same hS3 (fun _ _ x => x.elim) (fun b hb x => x.elim id (fun x => by omega)), h2.same hS3 (fun _ _ x => x.elim) (fun b hb x => x.elim id (fun x => by omega))⟩, h.r.alloc _, hS3, by omega, by omega, by omega, hbd, by simp⟩, ?_⟩
  have := Blk.new ((w.alloc (.cells #[.slice A st.ps.length c, .int .i64 st.last, .slice A' st.iso.length c'] 43)).alloc (.cells #[.slice none 0 0, .int .i64 0, .slice none 0 0] 43)) 34 #[.int .i64 0, .int .i64 0, .int .i64 0, .string .empty]
  simpa using this
/-- Behind the stores of the two results in memory. -/
theorem fin3 {w0 W : World} {bad : Nat → Prop} {B R m C : Nat} {A : Option Addr} {c : Nat} {A' : Option Addr} {c' : Nat} {st : NetSt} (h : RLoc w0 W bad B R m A c A' c' st) {a0 a1 a2 a3 : Value} (hC : Blk W C 34 #[a0, a1, a2, a3]) (hz : w0.heap.size ≤ C ∧ C < w0.heap.size + m) (b0 b1 b2 b3 : Value) {w' : World}
    (hw : w' = ((((((W.setCell ⟨R, 0, none⟩ (.slice A st.ps.length c)).setCell ⟨R, 1, none⟩ (.int .i64 st.last)).setCell ⟨R, 2, none⟩ (.slice A' st.iso.length c')).setCell ⟨C, 0, none⟩ b0).setCell ⟨C, 1, none⟩ b1).setCell ⟨C, 2, none⟩ b2).setCell ⟨C, 3, none⟩ b3) :
    Blk w' R 43 #[.slice A st.ps.length c, .int .i64 st.last, .slice A' st.iso.length c'] ∧ Blk w' C 34 #[b0, b1, b2, b3] ∧ RefAt w' bad (.agg #[.slice A st.ps.length c, .int .i64 st.last, .slice A' st.iso.length c']) st ∧ Same noB w0 w' := by
  subst hw
  have hs := set3 W R (.slice A st.ps.length c) (.int .i64 st.last) (.slice A' st.iso.length c')
  have hCR : C ≠ R := fun e => by
    subst e
    have h1 := h.r
    unfold Blk at h1 hC
    rw [h1] at hC
    cases hC
  have hs4 := set4 (((W.setCell ⟨R, 0, none⟩ (.slice A st.ps.length c)).setCell ⟨R, 1, none⟩ (.int .i64 st.last)).setCell ⟨R, 2, none⟩ (.slice A' st.iso.length c')) C b0 b1 b2 b3
  have hz1 : ∀ b, oneB R b → bad b ∨ (w0.heap.size ≤ b ∧ b < w0.heap.size + m) := fun b e => .inr (by rw [show b = R from e]; exact h.lr)
  have hz2 : ∀ b, oneB C b → bad b ∨ (w0.heap.size ≤ b ∧ b < w0.heap.size + m) := fun b e => .inr (by rw [show b = C from e]; exact hz)
  refine ⟨(blk_set3 h.r _ _ _).same hs4 (fun e => hCR (show R = C from e).symm), blk_set4 (hC.same hs (fun e => hCR e)) _ _ _ _, ⟨A, c, A', c', rfl, (h.i.ps.same hs (fun b _ e => hz1 b e) (fun b _ x => x)).same hs4 (fun b _ e => hz2 b e) (fun b _ x => .inl x), (h.i.iso.same hs (fun b _ e => hz1 b e) (fun b _ x => x)).same hs4 (fun b _ e => hz2 b e) (fun b _ x => .inl x)⟩, ?_⟩
  refine (h.s.trans hs (fun b hb e => ?_)).trans hs4 (fun b hb e => ?_)
  · have := h.lr
    rw [show b = R from e] at hb
    omega
  · rw [show b = C from e] at hb
    omega
end RLoc
theorem res_ref3 {fn : Func} {i j k : Nat} (hres : fn.results = #[.cell i 43, .cell j 34, .tmp k]) {tmps : Array Value} {w : World} {g g' : Nat} {a b c d e f h v : Value} (hb : Blk w g 43 #[a, b, c]) (hb' : Blk w g' 34 #[d, e, f, h]) (h4 : tmps.getD i undef = .pointer (some ⟨g, 0, none⟩)) (h5 : tmps.getD j undef = .pointer (some ⟨g', 0, none⟩)) (h6 : tmps.getD k undef = v) :
    (results fn tmps).run Try.prog w = .ok (.tuple #[.agg #[a, b, c], .agg #[d, e, f, h], v]) w := by
  have c0 : w.cell? ⟨g, 0, none⟩ = some a := hb.cell 0
  have c1 : w.cell? ⟨g, 1, none⟩ = some b := hb.cell 1
  have c2 : w.cell? ⟨g, 2, none⟩ = some c := hb.cell 2
  obtain ⟨⟨d0, d1, d2, d3⟩, _⟩ := blk4 hb'
  simp only [Array.getD_eq_getD_getElem?] at h4 h5 h6
  simp [results, hres, go_sem, h4, h5, h6, c0, c1, c2, d0, d1, d2, d3]

def NetSt.took (st : NetSt) (i : Int) : Value := match st.ps[st.at_ i]? with | some p => p.val | none => noPk
theorem erase_cells (ps : List Pk) (i : Nat) : (pcells ps).take (i * 4) ++ (pcells ps).drop ((i + 1) * 4) = pcells (ps.eraseIdx i) := by
  rw [pcells_take, pcells_drop, ← pcells_app, List.eraseIdx_eq_take_drop_succ]

set_option maxHeartbeats 8000000 in
theorem rremove_any {w : World} {bad : Nat → Prop} {v : Value} {st : NetSt} (h : RefAt w bad v st) (hbd : ∀ b, bad b → b < w.heap.size) {i : Int} (hi : inI64 i) (hs : st.ps.length ≤ 1000000) :
    Calls Try.prog 37 #[v, .int .i64 i] w fun e w' => ∃ v', e = .returned (.tuple #[v', st.took i, .bool (decide (0 < st.ps.length))]) ∧ RefAt w' bad v' (st.drop i) ∧ Same noB w w' := by
  obtain ⟨A, c, A', c', rfl, h1, h2⟩ := h
  have hL := RLoc.start3 h1 h2 hbd
  clear h1 h2 hbd
  obtain ⟨qn, hqn⟩ : ∃ q, q = decide (0 < st.ps.length) := ⟨_, rfl⟩
  obtain ⟨qt, hqt⟩ : ∃ q, q = st.drop i := ⟨_, rfl⟩
  obtain ⟨qp, hqp⟩ : ∃ q, q = st.took i := ⟨_, rfl⟩
  rw [← hqn, ← hqt, ← hqp]
  have HQ := Lib.hid (And.intro hqn (And.intro hqt hqp))
  clear hqn hqt hqp
  go_enter Try.func37, Try.ntmps37
  go_wp2_with fail
  refine calls_abs (fun W => RLoc w W bad w.heap.size (w.heap.size + 1) 3 A c A' c' st ∧ Blk W (w.heap.size + 1 + 1) 34 #[.int .i64 0, .int .i64 0, .int .i64 0, .string .empty] ∧ Hid (w.heap.size ≤ w.heap.size + 1 + 1 ∧ w.heap.size + 1 + 1 < w.heap.size + 3)) ⟨hL.1, hL.2, ⟨by omega, by omega⟩⟩ ?_
  clear hL
  obtain ⟨B, hB⟩ : ∃ B, B = w.heap.size := ⟨_, rfl⟩
  rintro W ⟨hL, hC, HZ⟩
  rw [← hB] at hL hC ⊢
  rw [show B + 1 + 1 = B + 2 from rfl] at *
  have HX := Lib.hid (ridx_any hL.i.at_ hi)
  have HL := Lib.hid hL
  have HC := Lib.hid hC
  have HB := Lib.hid hB
  clear hL hi hC hB
  refine HX.out.mono ?_
  rintro e W1 ⟨rfl, hs1⟩
  have HL1 := Lib.hid (HL.out.keep hs1)
  have HC1 := Lib.hid (HC.out.same hs1 (fun x => x))
  clear HL HC HX hs1
  obtain ⟨⟨b0, b1, b2⟩, ⟨f0, f1, f2⟩, ⟨r0, r1, r2⟩, q0, q1, q2⟩ := HL1.out.cells
  obtain ⟨⟨s0, s1, s2, s3⟩, g0, g1, g2, g3⟩ := blk4 HC1.out
  have hltB := HL1.out.i.blk.lt
  have hltR := HL1.out.r.lt
  have hltC := HC1.out.lt
  by_cases hp : st.ps.length = 0
  · obtain ⟨h1, h2, h3⟩ := HQ.out
    rw [st.drop_nil i hp] at h2
    have hqn : qn = false := by rw [h1]; exact decide_eq_false (by omega)
    have hqp : qp = noPk := by
      rw [h3]
      unfold NetSt.took
      rw [List.getElem?_eq_none (by omega)]
    rw [st.idx_none i hp]
    subst h2 hqn hqp
    clear HQ h1 h3 hp
    have HF := Lib.hid (HL1.out.fin3 HC1.out (by have := HZ.out; rw [HB.out]; omega) (.int .i64 0) (.int .i64 0) (.int .i64 0) (.string .empty) rfl)
    go_wp2_with fail
    obtain ⟨k1, k2, k3, k4⟩ := HF.out
    exact bodyPost_ret (res_ref3 rfl k1 k2 rfl rfl rfl) rfl ⟨_, rfl, k3, k4⟩
  have hp' : 0 < st.ps.length := by omega
  obtain ⟨p, hpk⟩ : ∃ p, st.ps[st.at_ i]? = some p := ⟨_, List.getElem?_eq_getElem (st.at_lt i hp')⟩
  rw [st.idx_some i hp']
  have hat := st.at_lt i hp'
  obtain ⟨h1, h2, h3⟩ := HQ.out
  have hqn : qn = true := by rw [h1]; exact decide_eq_true hp'
  have hqp : qp = p.val := by
    rw [h3]
    unfold NetSt.took
    rw [hpk]
  unfold NetSt.drop at h2
  subst hqn hqp h2
  clear h1 h3 HQ
  obtain ⟨j, hj⟩ : ∃ j, j = st.at_ i := ⟨_, rfl⟩
  rw [← hj] at hat hpk ⊢
  have HJ := Lib.hid hj.symm
  clear hj
  obtain ⟨b, o, rfl, r⟩ := HL1.out.i.ps.at_ hp'
  have p0 := r.cell (j * 4 + 0) _ (by rw [pcells_at hpk 0 (by omega)]; rfl)
  have p1 := r.cell (j * 4 + 1) _ (by rw [pcells_at hpk 1 (by omega)]; rfl)
  have p2 := r.cell (j * 4 + 2) _ (by rw [pcells_at hpk 2 (by omega)]; rfl)
  have p3 := r.cell (j * 4 + 3) _ (by rw [pcells_at hpk 3 (by omega)]; rfl)
  clear r hpk hp
  simp only [← Nat.add_assoc, Nat.add_zero] at p0 p1 p2 p3
  go_wp2_with fail
  refine wp_abs (fun W => RLoc w W bad B (B + 1) 3 (some ⟨b, o, none⟩) c A' c' st ∧ Blk W (B + 2) 34 #[.int .i64 0, .int .i64 0, .int .i64 0, .string .empty] ∧ Blk W W1.heap.size 34 #[.int .i64 p.num, .int .i64 p.frm, .int .i64 p.to, .string p.data]) ⟨HL1.out.keep ((Same.refl _ _).alloc _), HC1.out.alloc _, Blk.new _ _ _⟩ ?_
  clear HL1 HC1 b0 b1 b2 f0 f1 f2 r0 r1 r2 q0 q1 q2 p0 p1 p2 p3 s0 s1 s2 s3 g0 g1 g2 g3 hltB hltR hltC
  generalize W1.heap.size = C at *
  clear W1 W
  rintro W ⟨hL, hD, hC⟩
  obtain ⟨⟨b0, b1, b2⟩, ⟨f0, f1, f2⟩, ⟨r0, r1, r2⟩, q0, q1, q2⟩ := hL.cells
  have hltB := hL.i.blk.lt
  have HC := Lib.hid hC
  have HD := Lib.hid hD
  have HL := Lib.hid hL
  have HI := Lib.hid hL.i
  have hP := (show Rd W _ 4 (.slice (some ⟨b, o, none⟩) st.ps.length c) st.ps.length (pcells st.ps) from hL.i.ps)
  obtain ⟨hc1, hc2⟩ := hP.caps
  have HP1 := Lib.hid (hP.pre (k := j) (by omega) hp')
  have hP2 := hP.cut (k := j + 1) (by omega) hp'
  have hj1 : (0 : Int) ≤ (j : Int) + 1 ∧ (j : Int) + 1 ≤ (st.ps.length : Int) := by omega
  have hj2 : j + 1 ≤ c := by omega
  have hj3 : j ≤ c := by omega
  have hj5 : (j : Int) ≤ (j : Int) + 1 := by omega
  have hb1 : (0 + j) * 40 ≤ 140737488355328 := by omega
  have hb2 : (j + (st.ps.length - (j + 1))) * 40 ≤ 140737488355328 := by omega
  have HLn : Hid (j + (st.ps.length - (j + 1)) = (st.ps.eraseIdx j).length) := by
    show _ = _
    rw [List.length_eraseIdx_of_lt hat]
    omega
  have hw2 : ((j : Int) + 1).toNat = j + 1 := by omega
  have hw1 : IntKind.i64.wrap ((j : Int) + 1) = (j : Int) + 1 := IntWalk.i64_in _ (by omega)
  clear hL hC hD hP
  by_cases hcj : c = j + 1
  · subst hcj
    have hz : st.ps.length - (j + 1) = 0 := by omega
    simp only [if_true, Nat.sub_self, hz] at hP2
    rw [hz] at hb2
    have HP2 := Lib.hid hP2
    have HL0 := HLn.out
    rw [hz, Nat.add_zero] at HL0
    clear hP2 HLn hz
    have HLn := Lib.hid HL0
    clear HL0
    go_cut [20] from 20 to 32 (fun _ wx => ∃ (A2 : Option Addr) (c2 : Nat), RLoc w wx bad B (B + 1) 3 A2 c2 A' c' ⟨st.ps.eraseIdx j, st.last, st.iso⟩ ∧ Blk wx (B + 2) 34 #[.int .i64 0, .int .i64 0, .int .i64 0, .string .empty] ∧ Blk wx C 34 #[.int .i64 p.num, .int .i64 p.frm, .int .i64 p.to, .string p.data])
    case first =>
      go_region_law (first
         | (refine step_app slP (by rfl) _ _ (by rfl) (by rfl) (AppAt.own (AppAt.keep (AppAt.lit W 34 4) ?_)) (by rfl) (HP1.out.same (S := noB) ?_ (fun _ _ x => x.elim) (fun _ _ x => x)) (fun u hu => pcells_one _ u (List.mem_of_mem_take hu)) hb1 (Nat.zero_le _) ?_; (any_goals (show Same noB _ _; (repeat (first | exact Same.refl _ _ | assumption | refine Same.drew ?_ | refine Same.drewN ?_ _ | refine Same.alloc ?_ _ | refine Same.setCell ?_ (by intro h; simp at h ⊢; omega) _)))); intro A1 c1 w1 hown1 hgrow1 hat1 _; have hA1 := AppAt.next ((AppAt.lit W 34 4).keep (by (repeat (first | exact Same.refl _ _ | assumption | refine Same.drew ?_ | refine Same.drewN ?_ _ | refine Same.alloc ?_ _ | refine Same.setCell ?_ (by intro h; simp at h ⊢; omega) _)))) hgrow1 hat1 hown1; have hI1 := HI.out.keep hA1.since; have d0 := hI1.blk.cell 0; simp only [Nat.zero_add, List.nil_append] at hA1; have HA1 := Lib.hid hA1; clear hA1 hI1 hown1 hgrow1 hat1)
         | (refine step_app slP (by rfl) _ _ (by rfl) (by rfl) (AppAt.own (AppAt.keep HA1.out ?_)) (by rfl) (HP2.out.same (S := noB) ((HA1.out).since.trans' ?_) (fun _ _ x => x.elim) (fun _ _ x => x)) (fun u hu => pcells_one _ u (List.mem_of_mem_drop hu)) hb2 (Nat.zero_le _) ?_; (any_goals (show Same noB _ _; (repeat (first | exact Same.refl _ _ | assumption | refine Same.drew ?_ | refine Same.drewN ?_ _ | refine Same.alloc ?_ _ | refine Same.setCell ?_ (by intro h; simp at h ⊢; omega) _)))); intro A2 c2 w2 hown2 hgrow2 hat2 _; have HA2 := Lib.hid (AppAt.next (HA1.out.keep (by (repeat (first | exact Same.refl _ _ | assumption | refine Same.drew ?_ | refine Same.drewN ?_ _ | refine Same.alloc ?_ _ | refine Same.setCell ?_ (by intro h; simp at h ⊢; omega) _)))) hgrow2 hat2 hown2); have hI2 := HI.out.keep (HA2.out).since; have e0 := hI2.blk.cell 0; have e1 := hI2.blk.cell 1; have e2 := hI2.blk.cell 2; have g0 := hI2.blk.frozen 0; clear hI2 hown2 hgrow2 hat2))
      all_goals
        go_wp2_with fail
      all_goals
        have ha := HA2.out
        rw [erase_cells] at ha
        have hx := HL.out.setps (ps := st.ps.eraseIdx j) (A2 := A2) (c2 := c2) (w2 := w2) (by rw [← HLn.out]; exact ha)
        rw [← HLn.out] at hx
        go_meet
        exact ⟨_, _, hx, (HD.out.same ha.since (fun x => x)).far (by simp) _, (HC.out.same ha.since (fun x => x)).far (by have := HL.out.i.blk.ne_ HC.out (by decide); exact fun e => this e.symm) _⟩
    case rest =>
      clear HL HI HP1 HP2 HC HD b0 b1 b2 f0 f1 f2 r0 r1 r2 q0 q1 q2 hw1 hw2 hj1 hj2 hj3 hj5 hb1 hb2 hltB
      obtain ⟨A2, c2, hL, hD, hC⟩ := hcut
      have HF := Lib.hid (hL.fin3 hD (by have := HZ.out; rw [HB.out]; omega) (.int .i64 p.num) (.int .i64 p.frm) (.int .i64 p.to) (.string p.data) rfl)
      obtain ⟨⟨b0, b1, b2⟩, ⟨f0, f1, f2⟩, ⟨r0, r1, r2⟩, q0, q1, q2⟩ := hL.cells
      obtain ⟨⟨s0, s1, s2, s3⟩, g0, g1, g2, g3⟩ := blk4 hD
      obtain ⟨⟨t0, t1, t2, t3⟩, _⟩ := blk4 hC
      have hltB := hL.i.blk.lt
      have hltR := hL.r.lt
      have hltD := hD.lt
      have hltC := hC.lt
      have hne1 : C ≠ B := fun e => hL.i.blk.ne_ hC (by decide) e.symm
      have hne2 : C ≠ B + 1 := fun e => hL.r.ne_ hC (by decide) e.symm
      clear hL hD hC
      go_wp2_with fail
      go_region
      all_goals go_wp2_with fail
      all_goals
        obtain ⟨k1, k2, k3, k4⟩ := HF.out
        exact bodyPost_ret (res_ref3 rfl k1.drew k2.drew rfl rfl rfl) rfl ⟨_, rfl, by rw [HJ.out]; exact k3.keep ((Same.refl _ _).drew), k4.drew⟩
  · rw [if_neg hcj] at hP2
    have HP2 := Lib.hid hP2
    clear hP2
    go_cut [20] from 20 to 32 (fun _ wx => ∃ (A2 : Option Addr) (c2 : Nat), RLoc w wx bad B (B + 1) 3 A2 c2 A' c' ⟨st.ps.eraseIdx j, st.last, st.iso⟩ ∧ Blk wx (B + 2) 34 #[.int .i64 0, .int .i64 0, .int .i64 0, .string .empty] ∧ Blk wx C 34 #[.int .i64 p.num, .int .i64 p.frm, .int .i64 p.to, .string p.data])
    case first =>
      go_region_law (first
         | (refine step_app slP (by rfl) _ _ (by rfl) (by rfl) (AppAt.own (AppAt.keep (AppAt.lit W 34 4) ?_)) (by rfl) (HP1.out.same (S := noB) ?_ (fun _ _ x => x.elim) (fun _ _ x => x)) (fun u hu => pcells_one _ u (List.mem_of_mem_take hu)) hb1 (Nat.zero_le _) ?_; (any_goals (show Same noB _ _; (repeat (first | exact Same.refl _ _ | assumption | refine Same.drew ?_ | refine Same.drewN ?_ _ | refine Same.alloc ?_ _ | refine Same.setCell ?_ (by intro h; simp at h ⊢; omega) _)))); intro A1 c1 w1 hown1 hgrow1 hat1 _; have hA1 := AppAt.next ((AppAt.lit W 34 4).keep (by (repeat (first | exact Same.refl _ _ | assumption | refine Same.drew ?_ | refine Same.drewN ?_ _ | refine Same.alloc ?_ _ | refine Same.setCell ?_ (by intro h; simp at h ⊢; omega) _)))) hgrow1 hat1 hown1; have hI1 := HI.out.keep hA1.since; have d0 := hI1.blk.cell 0; simp only [Nat.zero_add, List.nil_append] at hA1; have HA1 := Lib.hid hA1; clear hA1 hI1 hown1 hgrow1 hat1)
         | (refine step_app slP (by rfl) _ _ (by rfl) (by rfl) (AppAt.own (AppAt.keep HA1.out ?_)) (by rfl) (HP2.out.same (S := noB) ((HA1.out).since.trans' ?_) (fun _ _ x => x.elim) (fun _ _ x => x)) (fun u hu => pcells_one _ u (List.mem_of_mem_drop hu)) hb2 (Nat.zero_le _) ?_; (any_goals (show Same noB _ _; (repeat (first | exact Same.refl _ _ | assumption | refine Same.drew ?_ | refine Same.drewN ?_ _ | refine Same.alloc ?_ _ | refine Same.setCell ?_ (by intro h; simp at h ⊢; omega) _)))); intro A2 c2 w2 hown2 hgrow2 hat2 _; have HA2 := Lib.hid (AppAt.next (HA1.out.keep (by (repeat (first | exact Same.refl _ _ | assumption | refine Same.drew ?_ | refine Same.drewN ?_ _ | refine Same.alloc ?_ _ | refine Same.setCell ?_ (by intro h; simp at h ⊢; omega) _)))) hgrow2 hat2 hown2); have hI2 := HI.out.keep (HA2.out).since; have e0 := hI2.blk.cell 0; have e1 := hI2.blk.cell 1; have e2 := hI2.blk.cell 2; have g0 := hI2.blk.frozen 0; clear hI2 hown2 hgrow2 hat2))
      all_goals
        go_wp2_with fail
      all_goals
        have ha := HA2.out
        rw [erase_cells] at ha
        have hx := HL.out.setps (ps := st.ps.eraseIdx j) (A2 := A2) (c2 := c2) (w2 := w2) (by rw [← HLn.out]; exact ha)
        rw [← HLn.out] at hx
        go_meet
        exact ⟨_, _, hx, (HD.out.same ha.since (fun x => x)).far (by simp) _, (HC.out.same ha.since (fun x => x)).far (by have := HL.out.i.blk.ne_ HC.out (by decide); exact fun e => this e.symm) _⟩
    case rest =>
      clear HL HI HP1 HP2 HC HD b0 b1 b2 f0 f1 f2 r0 r1 r2 q0 q1 q2 hw1 hw2 hj1 hj2 hj3 hj5 hb1 hb2 hltB
      obtain ⟨A2, c2, hL, hD, hC⟩ := hcut
      have HF := Lib.hid (hL.fin3 hD (by have := HZ.out; rw [HB.out]; omega) (.int .i64 p.num) (.int .i64 p.frm) (.int .i64 p.to) (.string p.data) rfl)
      obtain ⟨⟨b0, b1, b2⟩, ⟨f0, f1, f2⟩, ⟨r0, r1, r2⟩, q0, q1, q2⟩ := hL.cells
      obtain ⟨⟨s0, s1, s2, s3⟩, g0, g1, g2, g3⟩ := blk4 hD
      obtain ⟨⟨t0, t1, t2, t3⟩, _⟩ := blk4 hC
      have hltB := hL.i.blk.lt
      have hltR := hL.r.lt
      have hltD := hD.lt
      have hltC := hC.lt
      have hne1 : C ≠ B := fun e => hL.i.blk.ne_ hC (by decide) e.symm
      have hne2 : C ≠ B + 1 := fun e => hL.r.ne_ hC (by decide) e.symm
      clear hL hD hC
      go_wp2_with fail
      go_region
      all_goals go_wp2_with fail
      all_goals
        obtain ⟨k1, k2, k3, k4⟩ := HF.out
        exact bodyPost_ret (res_ref3 rfl k1.drew k2.drew rfl rfl rfl) rfl ⟨_, rfl, by rw [HJ.out]; exact k3.keep ((Same.refl _ _).drew), k4.drew⟩
end Go.Proofs.Ytgmoeejhgjfpgaa
