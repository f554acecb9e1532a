/- The reference's Deliver. -/
import Derived.Test.YtgmoeejhgjfpgaaRefE
namespace Go.Proofs.Ytgmoeejhgjfpgaa
open Go Go.RowKit Go.Maps

theorem RLoc.setall {w0 W : World} {bad : Nat → Prop} {B R m : Nat} {A : Option Addr} {c : Nat} {A' : Option Addr} {c' : Nat} {st : NetSt} (h : RLoc w0 W bad B R m A c A' c' st) {A2 : Option Addr} {c2 : Nat} {A3 : Option Addr} {c3 : Nat} {st2 : NetSt}
    (h1 : Rd W (fun b => bad b ∨ (w0.heap.size ≤ b ∧ b < w0.heap.size + m)) 4 (.slice A2 st2.ps.length c2) st2.ps.length (pcells st2.ps)) (h2 : Rd W (fun b => bad b ∨ (w0.heap.size ≤ b ∧ b < w0.heap.size + m)) 1 (.slice A3 st2.iso.length c3) st2.iso.length (icells st2.iso)) :
    RLoc w0 (((W.setCell ⟨B, 0, none⟩ (.slice A2 st2.ps.length c2)).setCell ⟨B, 1, none⟩ (.int .i64 st2.last)).setCell ⟨B, 2, none⟩ (.slice A3 st2.iso.length c3)) bad B R m A2 c2 A3 c3 st2 := by
  have hs := set3 W B (.slice A2 st2.ps.length c2) (.int .i64 st2.last) (.slice A3 st2.iso.length c3)
  refine ⟨⟨blk_set3 h.i.blk _ _ _, h1.same hs (fun b _ e => .inr (by rw [show b = B from e]; exact h.lb)) (fun _ _ x => x), h2.same hs (fun b _ e => .inr (by rw [show b = B from e]; exact h.lb)) (fun _ _ x => x)⟩, h.r.same hs (fun e => h.ne (show R = B from e).symm), h.s.trans hs (fun b hb e => ?_), h.lb, h.lr, h.ne, h.bd, Nat.le_trans h.sz hs.size⟩
  have := h.lb
  rw [show b = B from e] at hb
  omega
theorem RLoc.bz {w0 W : World} {bad : Nat → Prop} {B R m : Nat} {A : Option Addr} {c : Nat} {A' : Option Addr} {c' : Nat} {st : NetSt} (h : RLoc w0 W bad B R m A c A' c' st) : ∀ b, (bad b ∨ (w0.heap.size ≤ b ∧ b < w0.heap.size + m)) → b < W.heap.size := by
  intro b hb
  have := h.sz
  rcases hb with hb | hb
  · have := h.bd b hb
    omega
  · omega

set_option maxHeartbeats 8000000 in
theorem rdeliver_any {w : World} {bad : Nat → Prop} {v : Value} {st : NetSt} (h : RefAt w bad v st) (hbd : ∀ b, bad b → b < w.heap.size) {i : Int} (hi : inI64 i) (hs : st.ps.length ≤ 1000000) :
    Calls Try.prog 36 #[v, .int .i64 i] w fun e w' => ∃ v', (e = .returned (match st.arrives i with | some p => .tuple #[v', p.val, .bool true] | none => .tuple #[v', noPk, .bool false])) ∧ RefAt w' bad v' (st.drop i) ∧ Same noB w w' := by
  obtain ⟨A, c, A', c', rfl, h1, h2⟩ := h
  have hL := RLoc.start3 h1 h2 hbd
  clear h1 h2 hbd
  obtain ⟨qa, hqa⟩ : ∃ q, q = st.arrives i := ⟨_, rfl⟩
  obtain ⟨qt, hqt⟩ : ∃ q, q = st.drop i := ⟨_, rfl⟩
  rw [← hqa, ← hqt]
  have HQ := Lib.hid (And.intro hqa hqt)
  clear hqa hqt
  go_enter Try.func36, Try.ntmps36
  go_wp2_with fail
  refine calls_abs (fun W => RLoc w W bad w.heap.size (w.heap.size + 1) 3 A c A' c' st ∧ Blk W (w.heap.size + 1 + 1) 34 #[.int .i64 0, .int .i64 0, .int .i64 0, .string .empty] ∧ Hid (w.heap.size ≤ w.heap.size + 1 + 1 ∧ w.heap.size + 1 + 1 < w.heap.size + 3)) ⟨hL.1, hL.2, ⟨by omega, by omega⟩⟩ ?_
  clear hL
  obtain ⟨B, hB⟩ : ∃ B, B = w.heap.size := ⟨_, rfl⟩
  rintro W ⟨hL, hC, HZ⟩
  rw [← hB] at hL hC ⊢
  rw [show B + 1 + 1 = B + 2 from rfl] at *
  have HX := Lib.hid (rremove_any (i := i) hL.i.at_ hL.bz hi hs)
  have HL := Lib.hid hL
  have HC := Lib.hid hC
  have HB := Lib.hid hB
  clear hL hi hC hB
  refine HX.out.mono ?_
  rintro e W1 ⟨v', rfl, hR', hs1⟩
  have HL1 := Lib.hid (HL.out.keep hs1)
  have HC1 := Lib.hid (HC.out.same hs1 (fun x => x))
  obtain ⟨A2, c2, A3, c3, rfl, hr1, hr2⟩ := hR'
  have HS1 := Lib.hid (HL1.out.setall hr1 hr2)
  clear HL HC HX hs1 hr1 hr2
  obtain ⟨⟨b0, b1, b2⟩, ⟨f0, f1, f2⟩, ⟨r0, r1, r2⟩, q0, q1, q2⟩ := HL1.out.cells
  obtain ⟨⟨s0, s1, s2, s3⟩, g0, g1, g2, g3⟩ := blk4 HC1.out
  have hltB := HL1.out.i.blk.lt
  have hltR := HL1.out.r.lt
  have hltC := HC1.out.lt
  obtain ⟨h1, h2⟩ := HQ.out
  rw [← h2] at HS1 ⊢
  by_cases hp : st.ps.length = 0
  · have hqn : decide (0 < st.ps.length) = false := decide_eq_false (by omega)
    have hqa : qa = none := by
      rw [h1]
      unfold NetSt.arrives
      rw [List.getElem?_eq_none (by omega)]
    have hqp : st.took i = .agg #[.int .i64 0, .int .i64 0, .int .i64 0, .string .empty] := by
      unfold NetSt.took
      rw [List.getElem?_eq_none (by omega)]
      rfl
    rw [hqn, hqp]
    subst hqa
    clear HQ h1 h2 hp hqn hqp hs
    have HF := Lib.hid (HS1.out.fin3 (HC1.out.same (set3 _ B _ _ _) (fun e => absurd (show B + 2 = B from e) (by omega))) (by have := HZ.out; rw [HB.out]; omega) (.int .i64 0) (.int .i64 0) (.int .i64 0) (.string .empty) rfl)
    go_wp2_with fail
    obtain ⟨k1, k2, k3, k4⟩ := HF.out
    exact bodyPost_ret (res_ref3 rfl (k1.alloc _) (k2.alloc _) rfl rfl rfl) rfl ⟨_, rfl, k3.keep ((Same.refl _ _).alloc _), k4.alloc _⟩
  have hp' : 0 < st.ps.length := by omega
  obtain ⟨p, hpk⟩ : ∃ p, st.ps[st.at_ i]? = some p := ⟨_, List.getElem?_eq_getElem (st.at_lt i hp')⟩
  have hqn : decide (0 < st.ps.length) = true := decide_eq_true hp'
  have hqp : st.took i = .agg #[.int .i64 p.num, .int .i64 p.frm, .int .i64 p.to, .string p.data] := by
    unfold NetSt.took
    rw [hpk]
    rfl
  have hqi : qt.iso = st.iso := by rw [h2]; rfl
  unfold NetSt.arrives at h1
  rw [hpk] at h1
  simp only [] at h1
  rw [hqn, hqp]
  have H1 := Lib.hid h1
  have HI := Lib.hid hqi
  clear HQ h1 h2 hp hqn hqp hs hqi hpk
  go_wp2_with fail
  refine calls_abs (fun W => RLoc w W bad B (B + 1) 3 A2 c2 A3 c3 qt ∧ Blk W (B + 2) 34 #[.int .i64 0, .int .i64 0, .int .i64 0, .string .empty] ∧ Blk W W1.heap.size 34 #[.int .i64 p.num, .int .i64 p.frm, .int .i64 p.to, .string p.data]) ⟨HS1.out.keep ((Same.refl _ _).alloc _), (HC1.out.same (set3 _ B _ _ _) (fun e => absurd (show B + 2 = B from e) (by omega))).alloc _, by
    have := Blk.new (((W1.setCell ⟨B, 0, none⟩ (.slice A2 qt.ps.length c2)).setCell ⟨B, 1, none⟩ (.int .i64 qt.last)).setCell ⟨B, 2, none⟩ (.slice A3 qt.iso.length c3)) 34 #[.int .i64 p.num, .int .i64 p.frm, .int .i64 p.to, .string p.data]
    simpa using this⟩ ?_
  clear HL1 HC1 HS1 b0 b1 b2 f0 f1 f2 r0 r1 r2 q0 q1 q2 s0 s1 s2 s3 g0 g1 g2 g3 hltB hltR hltC
  generalize W1.heap.size = C at *
  clear W1 W
  rintro W ⟨hL, hD, hC⟩
  have HX := Lib.hid (has_any hL.i.at_ p.frm)
  have HL := Lib.hid hL
  have HD := Lib.hid hD
  have HC := Lib.hid hC
  clear hL hD hC
  refine HX.out.mono ?_
  rintro e W1 ⟨rfl, hs1⟩
  have HL1 := Lib.hid (HL.out.keep hs1)
  have HD1 := Lib.hid (HD.out.same hs1 (fun x => x))
  have HC1 := Lib.hid (HC.out.same hs1 (fun x => x))
  clear HL HD HC HX hs1
  have HX := Lib.hid (has_any HL1.out.i.at_ p.to)
  rw [show qt.iso.contains p.to = st.iso.contains p.to from by rw [HI.out]] at HX
  rw [show qt.iso.contains p.frm = st.iso.contains p.frm from by rw [HI.out]]
  unfold NetSt.cut at H1
  obtain ⟨⟨b0, b1, b2⟩, ⟨f0, f1, f2⟩, ⟨r0, r1, r2⟩, q0, q1, q2⟩ := HL1.out.cells
  obtain ⟨⟨s0, s1, s2, s3⟩, g0, g1, g2, g3⟩ := blk4 HD1.out
  obtain ⟨⟨t0, t1, t2, t3⟩, _⟩ := blk4 HC1.out
  have hltB := HL1.out.i.blk.lt
  have hltR := HL1.out.r.lt
  have hltD := HD1.out.lt
  have hltC := HC1.out.lt
  have hz : w.heap.size ≤ B + 2 ∧ B + 2 < w.heap.size + 3 := by have := HZ.out; rw [HB.out]; omega
  have HZ2 := Lib.hid hz
  clear hz HZ
  by_cases hcx : st.iso.contains p.frm = true
  · have h1 := H1.out
    rw [hcx] at h1 ⊢
    simp only [Bool.true_or, if_true] at h1
    subst h1
    have HF := Lib.hid (HL1.out.fin3 HD1.out HZ2.out (.int .i64 0) (.int .i64 0) (.int .i64 0) (.string .empty) rfl)
    clear H1 HX
    go_wp2_with fail
    obtain ⟨k1, k2, k3, k4⟩ := HF.out
    exact bodyPost_ret (res_ref3 rfl k1 k2 rfl rfl rfl) rfl ⟨_, rfl, k3, k4⟩
  rw [Bool.not_eq_true] at hcx
  rw [hcx] at H1 ⊢
  clear hcx
  go_wp2_with fail
  refine HX.out.mono ?_
  rintro e W2 ⟨rfl, hs2⟩
  have HL2 := Lib.hid (HL1.out.keep hs2)
  have HD2 := Lib.hid (HD1.out.same hs2 (fun x => x))
  have HC2 := Lib.hid (HC1.out.same hs2 (fun x => x))
  clear HL1 HD1 HC1 HX hs2 b0 b1 b2 f0 f1 f2 r0 r1 r2 q0 q1 q2 s0 s1 s2 s3 g0 g1 g2 g3 hltB hltR hltC hltD t0 t1 t2 t3
  obtain ⟨⟨b0, b1, b2⟩, ⟨f0, f1, f2⟩, ⟨r0, r1, r2⟩, q0, q1, q2⟩ := HL2.out.cells
  obtain ⟨⟨s0, s1, s2, s3⟩, g0, g1, g2, g3⟩ := blk4 HD2.out
  obtain ⟨⟨t0, t1, t2, t3⟩, _⟩ := blk4 HC2.out
  have hltB := HL2.out.i.blk.lt
  have hltR := HL2.out.r.lt
  have hltD := HD2.out.lt
  have hltC := HC2.out.lt
  have hne1 : C ≠ B := fun e => HL2.out.i.blk.ne_ HC2.out (by decide) e.symm
  have hne2 : C ≠ B + 1 := fun e => HL2.out.r.ne_ HC2.out (by decide) e.symm
  by_cases hcy : st.iso.contains p.to = true
  · have h1 := H1.out
    rw [hcy] at h1 ⊢
    simp only [Bool.or_true, if_true] at h1
    subst h1
    have HF := Lib.hid (HL2.out.fin3 HD2.out HZ2.out (.int .i64 0) (.int .i64 0) (.int .i64 0) (.string .empty) rfl)
    clear H1 hcy
    go_wp2_with fail
    obtain ⟨k1, k2, k3, k4⟩ := HF.out
    exact bodyPost_ret (res_ref3 rfl k1 k2 rfl rfl rfl) rfl ⟨_, rfl, k3, k4⟩
  rw [Bool.not_eq_true] at hcy
  have h1 := H1.out
  rw [hcy] at h1 ⊢
  simp only [Bool.or_false, if_false, Bool.false_eq_true] at h1
  subst h1
  have HF := Lib.hid (HL2.out.fin3 HD2.out HZ2.out (.int .i64 p.num) (.int .i64 p.frm) (.int .i64 p.to) (.string p.data) rfl)
  clear H1 hcy
  go_wp2_with fail
  go_region
  all_goals go_wp2_with fail
  all_goals
    obtain ⟨k1, k2, k3, k4⟩ := HF.out
    exact bodyPost_ret (res_ref3 rfl k1.drew k2.drew rfl rfl rfl) rfl ⟨_, rfl, k3.keep ((Same.refl _ _).drew), k4.drew⟩
end Go.Proofs.Ytgmoeejhgjfpgaa
