/- The reference's Double. -/
import Derived.Test.YtgmoeejhgjfpgaaRefC
namespace Go.Proofs.Ytgmoeejhgjfpgaa
open Go Go.RowKit Go.Maps

theorem NetSt.idx_some (st : NetSt) (i : Int) (h : 0 < st.ps.length) : st.idx i = (st.at_ i : Int) := by
  unfold NetSt.idx NetSt.at_
  rw [if_neg (by omega)]
  have := Int.emod_nonneg i (b := (st.ps.length : Int)) (by omega)
  omega
theorem NetSt.idx_none (st : NetSt) (i : Int) (h : st.ps.length = 0) : st.idx i = -1 := by
  unfold NetSt.idx
  rw [if_pos h]
theorem NetSt.double_nil (st : NetSt) (i : Int) (h : st.ps.length = 0) : st.double i = st := by
  unfold NetSt.double
  rw [List.getElem?_eq_none (by omega)]

set_option maxHeartbeats 8000000 in
theorem rdouble_any {w : World} {bad : Nat → Prop} {v : Value} {st : NetSt} (h : RefAt w bad v st) (hbd : ∀ b, bad b → b < w.heap.size) {i : Int} (hi : inI64 i) (hs : st.ps.length ≤ 1000000) (hl : 0 ≤ st.last ∧ st.last ≤ 1000000) :
    Calls Try.prog 38 #[v, .int .i64 i] w fun e w' => ∃ v', e = .returned (.tuple #[v', .bool (decide (0 < st.ps.length))]) ∧ RefAt w' bad v' (st.double i) ∧ Same noB w w' := by
  obtain ⟨A, c, A', c', rfl, h1, h2⟩ := h
  obtain ⟨hl1, hl2⟩ := hl
  have hL := RLoc.start h1 h2 hbd
  clear h1 h2 hbd
  obtain ⟨qn, hqn⟩ : ∃ q, q = decide (0 < st.ps.length) := ⟨_, rfl⟩
  obtain ⟨qt, hqt⟩ : ∃ q, q = st.double i := ⟨_, rfl⟩
  rw [← hqn, ← hqt]
  have HQ := Lib.hid (And.intro hqn hqt)
  clear hqn hqt
  go_enter Try.func38, Try.ntmps38
  go_wp2_with fail
  refine calls_abs (fun W => RLoc w W bad w.heap.size (w.heap.size + 1) 2 A c A' c' st) hL ?_
  clear hL
  intro W hL
  generalize w.heap.size = B at *
  have HX := Lib.hid (ridx_any hL.i.at_ hi)
  have HL := Lib.hid hL
  clear hL hi
  refine HX.out.mono ?_
  rintro e W1 ⟨rfl, hs1⟩
  have HL1 := Lib.hid (HL.out.keep hs1)
  clear HL HX hs1
  obtain ⟨⟨b0, b1, b2⟩, ⟨f0, f1, f2⟩, ⟨r0, r1, r2⟩, q0, q1, q2⟩ := HL1.out.cells
  by_cases hp : st.ps.length = 0
  · obtain ⟨h1, h2⟩ := HQ.out
    rw [st.double_nil i hp] at h2
    rw [st.idx_none i hp]
    have hqn : qn = false := by rw [h1]; exact decide_eq_false (by omega)
    subst h2 hqn
    clear HQ h1 hp
    go_wp2_with fail
    obtain ⟨k1, k2, k3⟩ := HL1.out.fin rfl
    exact bodyPost_ret (res_ref rfl k1 rfl rfl) rfl ⟨_, rfl, k2, k3⟩
  have hp' : 0 < st.ps.length := by omega
  obtain ⟨p, hpk⟩ : ∃ p, st.ps[st.at_ i]? = some p := ⟨_, List.getElem?_eq_getElem (st.at_lt i hp')⟩
  rw [st.idx_some i hp']
  have hat := st.at_lt i hp'
  obtain ⟨h1, h2⟩ := HQ.out
  have hqn : qn = true := by rw [h1]; exact decide_eq_true hp'
  have hqt : qt = ⟨st.ps ++ [⟨st.last + 1, p.frm, p.to, p.data⟩], st.last + 1, st.iso⟩ := by
    rw [h2]
    unfold NetSt.double
    rw [hpk]
  subst hqn hqt
  clear h1 h2 HQ
  generalize st.at_ i = j at *
  obtain ⟨b, o, rfl, r⟩ := HL1.out.i.ps.at_ hp'
  have p0 := r.cell (j * 4 + 0) _ (by rw [pcells_at hpk 0 (by omega)]; rfl)
  have p1 := r.cell (j * 4 + 1) _ (by rw [pcells_at hpk 1 (by omega)]; rfl)
  have p2 := r.cell (j * 4 + 2) _ (by rw [pcells_at hpk 2 (by omega)]; rfl)
  have p3 := r.cell (j * 4 + 3) _ (by rw [pcells_at hpk 3 (by omega)]; rfl)
  clear r hpk hp
  have hltB := HL1.out.i.blk.lt
  simp only [← Nat.add_assoc, Nat.add_zero] at p0 p1 p2 p3
  go_wp2_with fail
  refine wp_abs (fun W => RLoc w W bad B (B + 1) 2 (some ⟨b, o, none⟩) c A' c' ⟨st.ps, st.last + 1, st.iso⟩ ∧ Blk W W1.heap.size 34 #[.int .i64 (st.last + 1), .int .i64 p.frm, .int .i64 p.to, .string p.data]) ⟨(HL1.out.setlast _).keep ((Same.refl _ _).alloc _), by
    have := Blk.new (W1.setCell ⟨B, 1, none⟩ (.int .i64 (st.last + 1))) 34 #[.int .i64 (st.last + 1), .int .i64 p.frm, .int .i64 p.to, .string p.data]
    simpa using this⟩ ?_
  clear HL1 b0 b1 b2 f0 f1 f2 r0 r1 r2 q0 q1 q2 p0 p1 p2 p3 hltB
  generalize W1.heap.size = C at *
  rintro W ⟨hL, hC⟩
  obtain ⟨⟨b0, b1, b2⟩, ⟨f0, f1, f2⟩, ⟨r0, r1, r2⟩, q0, q1, q2⟩ := hL.cells
  have hltB := hL.i.blk.lt
  have hltC := hC.lt
  have m0 := hC.cell 0
  have m1 := hC.cell 1
  have m2 := hC.cell 2
  have m3 := hC.cell 3
  have HC := Lib.hid hC
  have HL := Lib.hid hL
  have HI := Lib.hid hL.i
  have HP := Lib.hid (show Rd W _ 4 (.slice (some ⟨b, o, none⟩) st.ps.length c) st.ps.length (pcells st.ps) from hL.i.ps)
  clear hL hC hp'
  simp only [] at b0 b1 b2
  go_region_law (first
     | (refine step_app slP (by rfl) _ _ (by rfl) (by rfl) (AppAt.own (AppAt.keep (AppAt.lit W 34 4) ?_)) (by rfl) (HP.out.same (S := noB) ?_ (fun _ _ x => x.elim) (fun _ _ x => x)) (pcells_one' _) (by omega) (Nat.zero_le _) ?_; (any_goals (show Same noB _ _; (repeat (first | exact Same.refl _ _ | assumption | refine Same.drew ?_ | refine Same.drewN ?_ _ | refine Same.alloc ?_ _ | refine Same.setCell ?_ (by intro h; simp at h ⊢; omega) _)))); intro A1 c1 w1 hown1 hgrow1 hat1 _; have hA1 := AppAt.next ((AppAt.lit W 34 4).keep (by (repeat (first | exact Same.refl _ _ | assumption | refine Same.drew ?_ | refine Same.drewN ?_ _ | refine Same.alloc ?_ _ | refine Same.setCell ?_ (by intro h; simp at h ⊢; omega) _)))) hgrow1 hat1 hown1; have hI1 := HI.out.keep hA1.since; have d0 := hI1.blk.cell 0; have hC1 := HC.out.same hA1.since (fun x => x); have k0 := hC1.cell 0; have k1 := hC1.cell 1; have k2 := hC1.cell 2; have k3 := hC1.cell 3; simp only [Nat.zero_add, List.nil_append] at hA1; have HA1 := Lib.hid hA1; (try have HPk := Lib.hid (Blk.same (by simpa using Blk.drew (Blk.new (W.alloc (.cells #[] 34)) 34 (Pk.cells ⟨st.last + 1, p.frm, p.to, p.data⟩).toArray) : Blk ((W.alloc (.cells #[] 34)).alloc (.cells (Pk.cells ⟨st.last + 1, p.frm, p.to, p.data⟩).toArray 34)).drew (W.heap.size + 1) 34 (Pk.cells ⟨st.last + 1, p.frm, p.to, p.data⟩).toArray) (Same.of_grown hgrow1) (by simp [rowB, Value.ownBlock]))); clear hA1 hI1 hC1 hown1 hgrow1 hat1)
     | (refine step_app slP (by rfl) _ _ (by rfl) (by rfl) (AppAt.own (AppAt.keep (AppAt.lit2 W (.cells (Pk.cells ⟨st.last + 1, p.frm, p.to, p.data⟩).toArray 34) 34 4) ?_)) (by rfl) (HP.out.same (S := noB) ?_ (fun _ _ x => x.elim) (fun _ _ x => x)) (pcells_one' _) (by omega) (Nat.zero_le _) ?_; (any_goals (show Same noB _ _; (repeat (first | exact Same.refl _ _ | assumption | refine Same.drew ?_ | refine Same.drewN ?_ _ | refine Same.alloc ?_ _ | refine Same.setCell ?_ (by intro h; simp at h ⊢; omega) _)))); intro A1 c1 w1 hown1 hgrow1 hat1 _; have hA1 := AppAt.next ((AppAt.lit2 W (.cells (Pk.cells ⟨st.last + 1, p.frm, p.to, p.data⟩).toArray 34) 34 4).keep (by (repeat (first | exact Same.refl _ _ | assumption | refine Same.drew ?_ | refine Same.drewN ?_ _ | refine Same.alloc ?_ _ | refine Same.setCell ?_ (by intro h; simp at h ⊢; omega) _)))) hgrow1 hat1 hown1; have hI1 := HI.out.keep hA1.since; have d0 := hI1.blk.cell 0; have hC1 := HC.out.same hA1.since (fun x => x); have k0 := hC1.cell 0; have k1 := hC1.cell 1; have k2 := hC1.cell 2; have k3 := hC1.cell 3; simp only [Nat.zero_add, List.nil_append] at hA1; have HA1 := Lib.hid hA1; (try have HPk := Lib.hid (Blk.same (Blk.drew (Blk.alloc (Blk.new W 34 (Pk.cells ⟨st.last + 1, p.frm, p.to, p.data⟩).toArray) (.cells #[] 34))) (Same.of_grown hgrow1) (by simp [rowB, Value.ownBlock]))); clear hA1 hI1 hC1 hown1 hgrow1 hat1)
     | (refine step_app slP (by rfl) _ _ (by rfl) (by rfl) (AppAt.own (AppAt.keep HA1.out ?_)) (bad := noB) (by rfl) (Rd.of_blk (Blk.new w1 34 (Pk.cells ⟨st.last + 1, p.frm, p.to, p.data⟩).toArray) (fun x => x) (by rfl) (by omega) (by simp [maxLen])) (pk_one ⟨st.last + 1, p.frm, p.to, p.data⟩) (by omega) (Nat.zero_le _) ?_; (any_goals (show Same noB _ _; (repeat (first | exact Same.refl _ _ | assumption | refine Same.drew ?_ | refine Same.drewN ?_ _ | refine Same.alloc ?_ _ | refine Same.setCell ?_ (by intro h; simp at h ⊢; omega) _)))); intro A2 c2 w2 hown2 hgrow2 hat2 _; have HA2 := Lib.hid (AppAt.next (HA1.out.keep (by (repeat (first | exact Same.refl _ _ | assumption | refine Same.drew ?_ | refine Same.drewN ?_ _ | refine Same.alloc ?_ _ | refine Same.setCell ?_ (by intro h; simp at h ⊢; omega) _)))) hgrow2 hat2 hown2); have hI2 := HI.out.keep (HA2.out).since; have e0 := hI2.blk.cell 0; have e1 := hI2.blk.cell 1; have e2 := hI2.blk.cell 2; have g0 := hI2.blk.frozen 0; clear hI2 hown2 hgrow2 hat2)
     | (refine step_app slP (by rfl) _ _ (by rfl) (by rfl) (AppAt.own (AppAt.keep HA1.out ?_)) (bad := noB) (by rfl) (Rd.of_blk HPk.out (fun x => x) (by rfl) (by omega) (by simp [maxLen])) (pk_one ⟨st.last + 1, p.frm, p.to, p.data⟩) (by omega) (Nat.zero_le _) ?_; (any_goals (show Same noB _ _; (repeat (first | exact Same.refl _ _ | assumption | refine Same.drew ?_ | refine Same.drewN ?_ _ | refine Same.alloc ?_ _ | refine Same.setCell ?_ (by intro h; simp at h ⊢; omega) _)))); intro A2 c2 w2 hown2 hgrow2 hat2 _; have HA2 := Lib.hid (AppAt.next (HA1.out.keep (by (repeat (first | exact Same.refl _ _ | assumption | refine Same.drew ?_ | refine Same.drewN ?_ _ | refine Same.alloc ?_ _ | refine Same.setCell ?_ (by intro h; simp at h ⊢; omega) _)))) hgrow2 hat2 hown2); have hI2 := HI.out.keep (HA2.out).since; have e0 := hI2.blk.cell 0; have e1 := hI2.blk.cell 1; have e2 := hI2.blk.cell 2; have g0 := hI2.blk.frozen 0; clear hI2 hown2 hgrow2 hat2))
  all_goals
    have HF2 := (HL.out.setps (w2 := w2) (A2 := A2) (c2 := c2) (ps := st.ps ++ [⟨st.last + 1, p.frm, p.to, p.data⟩]) (by simpa [pcells_snoc] using HA2.out)).fin rfl
    simp only [List.length_append, List.length_cons, List.length_nil, Nat.zero_add] at HF2
    have HFF := Lib.hid HF2
    clear HF2 b0 b1 b2 f0 f1 f2 r0 r1 r2 q0 q1 q2 d0 e0 e1 e2 g0 m0 m1 m2 m3 k0 k1 k2 k3
    obtain ⟨⟨b0, b1, b2⟩, ⟨f0, f1, f2⟩, ⟨r0, r1, r2⟩, q0, q1, q2⟩ := (HL.out.keep (HA2.out).since).cells
    have hltB2 : B + 1 < w2.heap.size := (HL.out.keep (HA2.out).since).r.lt
    clear HL HI HP HA1 HA2 HC
    go_wp2_with fail
    obtain ⟨k1, k2, k3⟩ := HFF.out
    exact bodyPost_ret (res_ref rfl k1 rfl rfl) rfl ⟨_, rfl, k2, k3⟩
end Go.Proofs.Ytgmoeejhgjfpgaa
