/- SiteRoutes: its walk. -/
import Derived.Test.YtkmclglphelhdaaSiteT
import Derived.Test.YtkmclglphelhdaaRoutE
import Derived.Test.YtkmclglphelhdaaRoutG
namespace Go.Proofs.Ytkmclglphelhdaa
open Go Go.RowKit Go.Maps

set_option maxHeartbeats 16000000 in
theorem lawRoutes_any {w : World} {p : MPl} {m : Mdl} (h : MdlIn w p m) (a b : Int) :
    Calls Try.prog 8 #[mdlVal p m, .int .i64 a, .int .i64 b] w fun e w' => e = .returned (.bool true) ∧ Same noB w w' := by
  have HMB := Lib.hid (MB.start h)
  obtain ⟨q, hq⟩ : ∃ q, fewB m = q := ⟨_, rfl⟩
  have HQ := Lib.hid hq
  clear h hq
  unfold mdlVal
  unfold mdlCells at HMB
  go_enter Try.func8, Try.ntmps8
  go_wp2_with fail
  refine calls_abs (fun W => Hid (MB w W p m w.heap.size)) HMB ?_
  clear HMB
  generalize w.heap.size = M at *
  intro W0 HM0
  refine (awake_any W0).mono ?_
  rintro e W1 ⟨rfl, hs⟩
  have HM : Hid (MB w W1.drew p m M) := (HM0.out.keep hs).keep ((Same.refl _ _).drew)
  obtain ⟨c0, c1, c2, c3, c4, c5, c6, c7, c8, c9, c10⟩ := (HM0.out.keep hs).all
  clear hs HM0
  go_wp2_with fail
  cases q
  · refine wp_region_any (by kernel_rfl) ?_
    (try (change wpAny _ _ _ _ _ _ _ (World.drew _)))
    refine wpAny_ready (rs := [0]) (by kernel_rfl) (by simp) ?_
    refine AllReady.cons rfl (fun K hK => ?_) AllReady.nil
    go_simp
    refine hK _ _ ?_
    clear hK K
    refine wpAny_ready (rs := [1]) (by kernel_rfl) (by simp) ?_
    refine AllReady.cons rfl (fun K hK => ?_) AllReady.nil
    go_simp
    go_wp2_with ((go_at_call 11; have hZ := few2_any HM.out.inn; rw [HQ.out] at hZ; unfold mdlVal at hZ; (with_reducible refine Calls.mono hZ ?_); clear hZ; rintro e W2 ⟨rfl, hs⟩; have HM := Lib.hid (HM.out.keep hs); obtain ⟨c0, c1, c2, c3, c4, c5, c6, c7, c8, c9, c10⟩ := HM.out.all; clear hs))
    refine wpAny_take (i := 2) (v := .bool true) rfl (by kernel_rfl) (by kernel_rfl) (by kernel_rfl) (fun _ _ _ h => h) (Or.inl ⟨?_, fun w => ?_⟩) ?_
    · rfl
    · go_simp
    refine wpAny_take (i := 3) (v := .bool true) rfl (by kernel_rfl) (by kernel_rfl) (by kernel_rfl) (fun _ _ _ h => h) (Or.inl ⟨?_, fun w => ?_⟩) ?_
    · rfl
    · go_simp
    refine wpAny_take (i := 4) (v := undef) rfl (by kernel_rfl) (by kernel_rfl) (by kernel_rfl) (fun _ _ _ h => h) (Or.inr ⟨?_, rfl⟩) ?_
    · rfl
    go_simp
    refine wpAny_take (i := 5) (v := undef) rfl (by kernel_rfl) (by kernel_rfl) (by kernel_rfl) (fun _ _ _ h => h) (Or.inr ⟨?_, rfl⟩) ?_
    · rfl
    go_simp
    refine wpAny_take (i := 6) (v := undef) rfl (by kernel_rfl) (by kernel_rfl) (by kernel_rfl) (fun _ _ _ h => h) (Or.inr ⟨?_, rfl⟩) ?_
    · rfl
    go_simp
    refine wpAny_take (i := 7) (v := undef) rfl (by kernel_rfl) (by kernel_rfl) (by kernel_rfl) (fun _ _ _ h => h) (Or.inr ⟨?_, rfl⟩) ?_
    · rfl
    go_simp
    refine wpAny_take (i := 8) (v := undef) rfl (by kernel_rfl) (by kernel_rfl) (by kernel_rfl) (fun _ _ _ h => h) (Or.inr ⟨?_, rfl⟩) ?_
    · rfl
    go_simp
    refine wpAny_take (i := 9) (v := undef) rfl (by kernel_rfl) (by kernel_rfl) (by kernel_rfl) (fun _ _ _ h => h) (Or.inr ⟨?_, rfl⟩) ?_
    · rfl
    go_simp
    refine wpAny_take (i := 10) (v := undef) rfl (by kernel_rfl) (by kernel_rfl) (by kernel_rfl) (fun _ _ _ h => h) (Or.inr ⟨?_, rfl⟩) ?_
    · rfl
    go_simp
    refine wpAny_take (i := 11) (v := undef) rfl (by kernel_rfl) (by kernel_rfl) (by kernel_rfl) (fun _ _ _ h => h) (Or.inr ⟨?_, rfl⟩) ?_
    · rfl
    go_simp
    refine wpAny_take (i := 12) (v := undef) rfl (by kernel_rfl) (by kernel_rfl) (by kernel_rfl) (fun _ _ _ h => h) (Or.inr ⟨?_, rfl⟩) ?_
    · rfl
    go_simp
    refine wpAny_take (i := 13) (v := .bool true) rfl (by kernel_rfl) (by kernel_rfl) (by kernel_rfl) (fun _ _ _ h => h) (Or.inl ⟨?_, fun w => ?_⟩) ?_
    · rfl
    · go_simp
    refine wpAny_ready (rs := [14]) (by kernel_rfl) (by simp) ?_
    refine AllReady.cons rfl (fun K hK => ?_) AllReady.nil
    go_simp
    refine hK _ _ ?_
    clear hK K
    refine wpAny_done (by kernel_rfl) ?_ _
    go_wp2_with fail
    go_ret
    exact ⟨rfl, HM.out.since⟩
  · have hsm := fewB_small HQ.out
    have HLs : Hid (m.sites.length ≤ 1000000) := by have := hsm.1; show _ ≤ _; omega
    have HLl : Hid (m.links.length ≤ 1000000) := by have := hsm.2.2.2.2.1; show _ ≤ _; omega
    clear hsm
    go_region_with ((first
      | (go_at_call 11; have hZ := few2_any HM.out.inn; rw [HQ.out] at hZ; unfold mdlVal at hZ; (with_reducible refine Calls.mono hZ ?_); clear hZ; rintro e W2 ⟨rfl, hs⟩; have HM := Lib.hid (HM.out.keep hs); obtain ⟨c0, c1, c2, c3, c4, c5, c6, c7, c8, c9, c10⟩ := HM.out.all; clear hs)
      | (go_at_call 28; have hZ := route_any HM.out.inn a b HLs.out HLl.out; unfold mdlVal at hZ; (with_reducible refine Calls.mono hZ ?_); clear hZ; rintro e W2 ⟨v2, rfl, hr, hs⟩; have HM := Lib.hid (HM.out.keep hs); (try have HA2 := Lib.hid (HA2.out.keep hs)); have HA1 := Lib.hid hr; obtain ⟨c0, c1, c2, c3, c4, c5, c6, c7, c8, c9, c10⟩ := HM.out.all; clear hs hr)
      | (go_at_call 29; have hZ := rroute_any HM.out.inn a b HLs.out HLl.out; unfold mdlVal at hZ; (with_reducible refine Calls.mono hZ ?_); clear hZ; rintro e W2 ⟨v2, rfl, hr, hs⟩; have HM := Lib.hid (HM.out.keep hs); (try have HA1 := Lib.hid (HA1.out.keep hs)); have HA2 := Lib.hid hr; obtain ⟨c0, c1, c2, c3, c4, c5, c6, c7, c8, c9, c10⟩ := HM.out.all; clear hs hr)
      | (go_at_call 18; have hZ := ints_true HA1.out HA2.out; (with_reducible refine Calls.mono hZ ?_); clear hZ; rintro e W2 ⟨rfl, hs⟩; have HM := Lib.hid (HM.out.keep hs); obtain ⟨c0, c1, c2, c3, c4, c5, c6, c7, c8, c9, c10⟩ := HM.out.all; clear hs)))
    all_goals go_wp2_with fail
    all_goals
      go_ret
      exact ⟨rfl, HM.out.since⟩
end Go.Proofs.Ytkmclglphelhdaa
