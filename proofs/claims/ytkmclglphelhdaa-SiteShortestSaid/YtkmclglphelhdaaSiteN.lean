/- Layer 14: awake. (printed by genSiteN.py) -/
import Derived.Test.YtkmclglphelhdaaSiteL
namespace Go.Proofs.Ytkmclglphelhdaa
open Go Go.RowKit Go.Maps

theorem ex_valid : exM.valid = true := by decide +kernel
theorem ex_cap : exM.capacity 4 1 = 15 := by decide +kernel
theorem ex_machines : exM.machinesOf 2 1 = [1, 2] := by decide +kernel
theorem ex_domain : exM.domain 3 2 = 1 := by decide +kernel
theorem ex_domains : exM.domains 4 = 2 := by decide +kernel
theorem ex_link : exM.link 2 1 = 1 := by decide +kernel
theorem lit2 (W : World) (a b : Int) : Rd (W.alloc (.cells #[.int .i64 a, .int .i64 b] 3)) noB 1 (.slice (some ⟨W.heap.size, 0, none⟩) 2 2) [a, b].length (icells [a, b]) :=
  Rd.of_blk (cs := icells [a, b]) (Blk.new W 3 _) (fun x => x) rfl (Nat.le_refl _) (by simp [maxLen])

set_option maxHeartbeats 8000000 in
theorem awake_any (w : World) : Calls Try.prog 10 #[] w fun e w' => e = .returned (.bool true) ∧ Same noB w w' := by
  go_enter Try.func10, Try.ntmps10
  go_wp2_with fail
  refine (example_any w).mono ?_
  rintro e w1 ⟨p, rfl, hin, hs⟩
  unfold mdlVal
  have HM0 : Hid (MB w (w1.alloc (.cells (mdlCells p exM) 29)) p exM w1.heap.size) := ⟨hin.keep ((Same.refl _ _).alloc _), Blk.new _ _ _, hs.alloc _⟩
  unfold mdlCells at HM0
  clear hin hs
  go_wp2_with fail
  refine calls_abs (fun W => Hid (MB w W p exM w1.heap.size)) HM0 ?_
  clear HM0
  generalize w1.heap.size = M at *
  intro W0 HM0
  have hZ := valid_any HM0.out.inn
  rw [ex_valid] at hZ
  try unfold mdlVal at hZ
  (with_reducible refine Calls.mono hZ ?_)
  clear hZ
  rintro e W1 ⟨rfl, hs⟩
  have HM1 := Lib.hid (HM0.out.keep hs)
  clear hs
  obtain ⟨c0, c1, c2, c3, c4, c5, c6, c7, c8, c9, c10⟩ := HM1.out.all
  have hml := HM1.out.box.lt
  clear HM0
  go_wp2_with fail
  clear c0 c1 c2 c3 c4 c5 c6 c7 c8 c9 c10 hml
  have hZ := capacity_any (by_ := 4) (num := 1) HM1.out.inn (inI64_of (by decide) (by decide)) (by decide)
  rw [ex_cap] at hZ
  try unfold mdlVal at hZ
  (with_reducible refine Calls.mono hZ ?_)
  clear hZ
  rintro e W2 ⟨rfl, hs⟩
  have HM2 := Lib.hid (HM1.out.keep hs)
  clear hs
  obtain ⟨c0, c1, c2, c3, c4, c5, c6, c7, c8, c9, c10⟩ := HM2.out.all
  have hml := HM2.out.box.lt
  clear HM1
  go_wp2_with fail
  clear c0 c1 c2 c3 c4 c5 c6 c7 c8 c9 c10 hml
  have hZ := machines_any (by_ := 2) (num := 1) HM2.out.inn (inI64_of (by decide) (by decide)) (by decide)
  rw [ex_machines] at hZ
  try unfold mdlVal at hZ
  (with_reducible refine Calls.mono hZ ?_)
  clear hZ
  rintro e W3 ⟨v, rfl, ha⟩
  have HM3 := Lib.hid (HM2.out.keep ha.since)
  have HA := Lib.hid (ha.rd (bad := noB) (fun _ e => e.elim))
  clear ha
  obtain ⟨c0, c1, c2, c3, c4, c5, c6, c7, c8, c9, c10⟩ := HM3.out.all
  have hml := HM3.out.box.lt
  clear HM2
  go_wp2_with fail
  clear c0 c1 c2 c3 c4 c5 c6 c7 c8 c9 c10 hml
  refine (ints_true (l := [1, 2]) (HA.out.keep ((Same.refl _ _).alloc _)) (lit2 _ 1 2)).mono ?_
  rintro e W4 ⟨rfl, hs⟩
  have HM4 := Lib.hid ((HM3.out.keep ((Same.refl _ _).alloc _)).keep hs)
  clear hs HM3 HA
  obtain ⟨c0, c1, c2, c3, c4, c5, c6, c7, c8, c9, c10⟩ := HM4.out.all
  have hml := HM4.out.box.lt
  go_wp2_with fail
  clear c0 c1 c2 c3 c4 c5 c6 c7 c8 c9 c10 hml
  have hZ := route_ex HM4.out.inn
  try unfold mdlVal at hZ
  (with_reducible refine Calls.mono hZ ?_)
  clear hZ
  rintro e W5 ⟨v, rfl, hr, hs⟩
  have HM5 := Lib.hid (HM4.out.keep hs)
  have HA := Lib.hid hr
  clear hs hr
  obtain ⟨c0, c1, c2, c3, c4, c5, c6, c7, c8, c9, c10⟩ := HM5.out.all
  have hml := HM5.out.box.lt
  clear HM4
  go_wp2_with fail
  clear c0 c1 c2 c3 c4 c5 c6 c7 c8 c9 c10 hml
  refine (ints_true (l := [2, 1]) (HA.out.keep ((Same.refl _ _).alloc _)) (lit2 _ 2 1)).mono ?_
  rintro e W6 ⟨rfl, hs⟩
  have HM6 := Lib.hid ((HM5.out.keep ((Same.refl _ _).alloc _)).keep hs)
  clear hs HM5 HA
  obtain ⟨c0, c1, c2, c3, c4, c5, c6, c7, c8, c9, c10⟩ := HM6.out.all
  have hml := HM6.out.box.lt
  go_wp2_with fail
  clear c0 c1 c2 c3 c4 c5 c6 c7 c8 c9 c10 hml
  have hZ := domain_any (by_ := 3) (i := 2) HM6.out.inn (inI64_of (by decide) (by decide))
  rw [ex_domain] at hZ
  try unfold mdlVal at hZ
  (with_reducible refine Calls.mono hZ ?_)
  clear hZ
  rintro e W7 ⟨rfl, hs⟩
  have HM7 := Lib.hid (HM6.out.keep hs)
  clear hs
  obtain ⟨c0, c1, c2, c3, c4, c5, c6, c7, c8, c9, c10⟩ := HM7.out.all
  have hml := HM7.out.box.lt
  clear HM6
  go_wp2_with fail
  clear c0 c1 c2 c3 c4 c5 c6 c7 c8 c9 c10 hml
  have hZ := domains_any (by_ := 4) HM7.out.inn (inI64_of (by decide) (by decide))
  rw [ex_domains] at hZ
  try unfold mdlVal at hZ
  (with_reducible refine Calls.mono hZ ?_)
  clear hZ
  rintro e W8 ⟨rfl, hs⟩
  have HM8 := Lib.hid (HM7.out.keep hs)
  clear hs
  obtain ⟨c0, c1, c2, c3, c4, c5, c6, c7, c8, c9, c10⟩ := HM8.out.all
  have hml := HM8.out.box.lt
  clear HM7
  go_wp2_with fail
  clear c0 c1 c2 c3 c4 c5 c6 c7 c8 c9 c10 hml
  have hZ := link_any HM8.out.inn 2 1 (by decide)
  rw [ex_link] at hZ
  try unfold mdlVal at hZ
  (with_reducible refine Calls.mono hZ ?_)
  clear hZ
  rintro e W9 ⟨rfl, hs⟩
  have HM9 := Lib.hid (HM8.out.keep hs)
  clear hs
  obtain ⟨c0, c1, c2, c3, c4, c5, c6, c7, c8, c9, c10⟩ := HM9.out.all
  have hml := HM9.out.box.lt
  clear HM8
  go_wp2_with fail
  clear c0 c1 c2 c3 c4 c5 c6 c7 c8 c9 c10 hml
  have hZ := near_yes HM9.out.inn (s := 1) (by decide) (by decide) (by decide)
  rw [ex_near1] at hZ
  try unfold mdlVal at hZ
  (with_reducible refine Calls.mono hZ ?_)
  clear hZ
  rintro e W10 ⟨v, rfl, ha⟩
  have HS := Lib.hid (HM9.out.since.trans' ha.since)
  obtain ⟨A, c, rfl, _, _, _⟩ := (ha.rd (bad := noB) (fun _ e => e.elim)).form
  clear ha HM9
  go_wp2_with fail
  go_ret
  exact ⟨rfl, HS.out⟩
end Go.Proofs.Ytkmclglphelhdaa
