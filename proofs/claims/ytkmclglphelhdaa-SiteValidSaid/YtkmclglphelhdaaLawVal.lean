/- SiteValid: its walk. -/
import Derived.Test.YtkmclglphelhdaaSiteT
import Derived.Test.YtkmclglphelhdaaSiteR
namespace Go.Proofs.Ytkmclglphelhdaa
open Go Go.RowKit Go.Maps

set_option maxHeartbeats 16000000 in
theorem lawValid_any {w : World} {p : MPl} {m : Mdl} (h : MdlIn w p m) :
    Calls Try.prog 3 #[mdlVal p m] w fun e w' => e = .returned (.bool true) ∧ Same noB w w' := by
  have HMB := Lib.hid (MB.start h)
  obtain ⟨q, hq⟩ : ∃ q, fewB m = q := ⟨_, rfl⟩
  have HQ := Lib.hid hq
  clear h hq
  unfold mdlVal
  unfold mdlCells at HMB
  go_enter Try.func3, Try.ntmps3
  go_wp2_with fail
  refine calls_abs (fun W => Hid (MB w W p m w.heap.size)) HMB ?_
  clear HMB
  generalize w.heap.size = M at *
  intro W0 HM0
  refine (awake_any W0).mono ?_
  rintro e W1 ⟨rfl, hs⟩
  have HM : Hid (MB w W1.drew p m M) := (HM0.out.keep hs).keep ((Same.refl _ _).drew)
  obtain ⟨c0, c1, c2, c3, c4, c5, c6, c7, c8, c9, c10⟩ := (HM0.out.keep hs).all
  clear hs HM0
  go_wp2_with fail
  cases q
  · go_region_with ((first
      | (go_at_call 11; have hZ := few2_any HM.out.inn; rw [HQ.out] at hZ; unfold mdlVal at hZ; (with_reducible refine Calls.mono hZ ?_); clear hZ; rintro e W2 ⟨rfl, hs⟩; have HM := Lib.hid (HM.out.keep hs); obtain ⟨c0, c1, c2, c3, c4, c5, c6, c7, c8, c9, c10⟩ := HM.out.all; clear hs)
      | (go_at_call 12; have hZ := valid_any HM.out.inn; unfold mdlVal at hZ; (with_reducible refine Calls.mono hZ ?_); clear hZ; rintro e W2 ⟨rfl, hs⟩; have HM := Lib.hid (HM.out.keep hs); obtain ⟨c0, c1, c2, c3, c4, c5, c6, c7, c8, c9, c10⟩ := HM.out.all; clear hs)
      | (go_at_call 13; have hZ := rvalid_any HM.out.inn; unfold mdlVal at hZ; (with_reducible refine Calls.mono hZ ?_); clear hZ; rintro e W2 ⟨rfl, hs⟩; have HM := Lib.hid (HM.out.keep hs); obtain ⟨c0, c1, c2, c3, c4, c5, c6, c7, c8, c9, c10⟩ := HM.out.all; clear hs)))
    all_goals go_wp2_with fail
    all_goals
      go_ret
      exact ⟨rfl, HM.out.since⟩
  · go_region_with ((first
      | (go_at_call 11; have hZ := few2_any HM.out.inn; rw [HQ.out] at hZ; unfold mdlVal at hZ; (with_reducible refine Calls.mono hZ ?_); clear hZ; rintro e W2 ⟨rfl, hs⟩; have HM := Lib.hid (HM.out.keep hs); obtain ⟨c0, c1, c2, c3, c4, c5, c6, c7, c8, c9, c10⟩ := HM.out.all; clear hs)
      | (go_at_call 12; have hZ := valid_any HM.out.inn; unfold mdlVal at hZ; (with_reducible refine Calls.mono hZ ?_); clear hZ; rintro e W2 ⟨rfl, hs⟩; have HM := Lib.hid (HM.out.keep hs); obtain ⟨c0, c1, c2, c3, c4, c5, c6, c7, c8, c9, c10⟩ := HM.out.all; clear hs)
      | (go_at_call 13; have hZ := rvalid_any HM.out.inn; unfold mdlVal at hZ; (with_reducible refine Calls.mono hZ ?_); clear hZ; rintro e W2 ⟨rfl, hs⟩; have HM := Lib.hid (HM.out.keep hs); obtain ⟨c0, c1, c2, c3, c4, c5, c6, c7, c8, c9, c10⟩ := HM.out.all; clear hs)))
    all_goals go_wp2_with fail
    all_goals
      go_ret
      exact ⟨rfl, HM.out.since⟩
end Go.Proofs.Ytkmclglphelhdaa
