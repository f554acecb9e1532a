/- Layer 21: Name of the program, number too small. -/
import Derived.Test.YtpngmodgnkjhnaaFailK
namespace Go.Proofs.Ytpngmodgnkjhnaa
open Go Go.RowKit Go.Maps
set_option maxRecDepth 100000

set_option maxHeartbeats 4000000 in
theorem name_low {w : World} {p : MPl} {m : Mdl} (h : MdlIn w p m) (fb fn : Int) (hb : inI64 fb) (h0 : ¬ (fb = 0 ∧ fn = 0)) (h1 : fn < 1) (he : exB fn (m.domains fb) = false) :
    Calls Try.prog 15 #[mdlVal p m, Fl.val ⟨fb, fn⟩] w fun e w' => e = .returned (.string (namOf m ⟨fb, fn⟩)) ∧ Same noB w w' := by
  have hmb := MB.start h
  have hz : (w.alloc (.cells (mdlCells p m) 29)).heap.size = w.heap.size + 1 := by simp
  have hfb := Blk.new (w.alloc (.cells (mdlCells p m) 29)) 31 #[.int .i64 fb, .int .i64 fn]
  rw [hz] at hfb
  have HMF : Hid (MF w ((w.alloc (.cells (mdlCells p m) 29)).alloc (.cells #[.int .i64 fb, .int .i64 fn] 31)) p m ⟨fb, fn⟩ w.heap.size (w.heap.size + 1)) := ⟨hmb.keep ((Same.refl _ _).alloc _), hfb⟩
  have HQ : Hid (namOf m ⟨fb, fn⟩ = ⟨#[]⟩) := by
    show namOf m ⟨fb, fn⟩ = _
    unfold namOf
    rw [if_neg h0, if_pos he]
  obtain ⟨D, hD⟩ : ∃ D, m.domains fb = D := ⟨_, rfl⟩
  rw [hD] at he
  have HD := Lib.hid hD
  have HE := Lib.hid he
  have HBB := Lib.hid hb
  have g1 : decide (fn < 1) = true := decide_eq_true h1
  generalize namOf m ⟨fb, fn⟩ = qq at *
  clear h hmb hz hfb hD he
  unfold mdlVal Fl.val
  unfold mdlCells at HMF
  simp only at *
  by_cases e0 : fb = 0
  · have e1 : fn ≠ 0 := fun e => h0 ⟨e0, e⟩
    subst e0
    clear h0
    go_enter Try.func15, Try.ntmps15
    go_wp2_with fail
    refine wp_abs (fun W => Hid (MF w W p m ⟨0, fn⟩ w.heap.size (w.heap.size + 1))) HMF ?_
    clear HMF
    generalize w.heap.size = M at *
    generalize M + 1 = G at *
    intro W HM0
    have HM := Lib.hid (HM0.out.keep ((Same.refl noB W).drew))
    obtain ⟨c0, c1, c2, c3, c4, c5, c6, c7, c8, c9, c10⟩ := HM0.out.mb.all
    obtain ⟨f0, f1⟩ := HM0.out.all
    have HS0 := Lib.hid HM0.out.mb.since
    clear HM0
    simp only at f0 f1
    go_quiet (fail)
    all_goals go_wp2_with fail
    all_goals
      go_ret
      exact ⟨by rw [HQ.out] <;> rfl, HS0.out.drewN _⟩
  · clear h0
    go_enter Try.func15, Try.ntmps15
    go_wp2_with fail
    refine wp_abs (fun W => Hid (MF w W p m ⟨fb, fn⟩ w.heap.size (w.heap.size + 1))) HMF ?_
    clear HMF
    generalize w.heap.size = M at *
    generalize M + 1 = G at *
    intro W HM0
    have HM := Lib.hid (HM0.out.keep ((Same.refl noB W).drew))
    obtain ⟨c0, c1, c2, c3, c4, c5, c6, c7, c8, c9, c10⟩ := HM0.out.mb.all
    obtain ⟨f0, f1⟩ := HM0.out.all
    have HS0 := Lib.hid HM0.out.mb.since
    clear HM0
    simp only at f0 f1
    go_quiet (fail)
    all_goals go_wp2_with fail
    all_goals
      go_ret
      exact ⟨by rw [HQ.out] <;> rfl, HS0.out.drewN _⟩
theorem name_any {w : World} {p : MPl} {m : Mdl} (h : MdlIn w p m) (hs : m.Short) (f : Fl) (hb : inI64 f.by_) :
    Calls Try.prog 15 #[mdlVal p m, f.val] w fun e w' => e = .returned (.string (namOf m f)) ∧ Same noB w w' := by
  obtain ⟨fb, fn⟩ := f
  by_cases h0 : fb = 0 ∧ fn = 0
  · obtain ⟨rfl, rfl⟩ := h0
    have hmb := MB.start h
    have HMF : Hid (Same noB w ((w.alloc (.cells (mdlCells p m) 29)).alloc (.cells #[.int .i64 0, .int .i64 0] 31))) := hmb.since.trans' ((Same.refl _ _).alloc _)
    clear h hmb hs
    unfold mdlVal Fl.val
    unfold mdlCells at HMF
    go_enter Try.func15, Try.ntmps15
    go_wp2_with fail
    go_ret
    exact ⟨rfl, HMF.out⟩
  · cases he : exB fn (m.domains fb)
    · by_cases h1 : fn < 1
      · exact name_low h fb fn hb h0 h1 he
      · exact name_big h fb fn hb h0 (by omega) he
    · by_cases e1 : fb = 1
      · subst e1; exact name_machines h hs fn he
      by_cases e2 : fb = 2
      · subst e2; exact name_racks h hs fn he
      by_cases e3 : fb = 3
      · subst e3; exact name_feeds h hs fn he
      by_cases e4 : fb = 4
      · subst e4; exact name_sites h hs fn he
      exfalso
      have hd : m.domains fb = 0 := by
        unfold Mdl.domains
        simp [e1, e2, e3, e4]
      rw [hd] at he
      obtain ⟨q1, q2⟩ := exB_iff.1 he
      omega
end Go.Proofs.Ytpngmodgnkjhnaa
