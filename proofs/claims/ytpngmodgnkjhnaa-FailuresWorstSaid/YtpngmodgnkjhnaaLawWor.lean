/- FailuresWorst: its walk. -/
import Derived.Test.YtpngmodgnkjhnaaFailP
import Derived.Deep.CutRange
namespace Go.Proofs.Ytpngmodgnkjhnaa
open Go Go.RowKit Go.Maps
set_option maxRecDepth 100000

set_option maxHeartbeats 8000000 in
theorem lawWorst_any {w : World} {p : MPl} {m : Mdl} {s : Sl} {P : List (List Un)} (h : MdlIn w p m) (hp : PlIn w s P) (item : Int) :
    Calls Try.prog 4 #[mdlVal p m, plVal s, .int .i64 item] w fun e w' => e = .returned (.bool true) ∧ Same noB w w' := by
  have HM0 := Lib.hid (MQ.start h hp)
  obtain ⟨q, hq⟩ : ∃ q, largeB m P = q := ⟨_, rfl⟩
  have HQ := Lib.hid hq
  clear h hp hq
  unfold mdlVal plVal
  unfold mdlCells at HM0
  go_enter Try.func4, Try.ntmps4
  go_wp2_with fail
  refine calls_abs (fun W => Hid (MQ w W p m s P w.heap.size (w.heap.size + 1))) HM0 ?_
  clear HM0
  generalize w.heap.size = M at *
  generalize M + 1 = Q at *
  intro W HM0
  refine (awake_any W).mono ?_
  rintro e W1 ⟨rfl, hs⟩
  have HM := Lib.hid (HM0.out.keep hs)
  clear hs HM0
  obtain ⟨c0, c1, c2, c3, c4, c5, c6, c7, c8, c9, c10⟩ := HM.out.mb.all
  have cq := HM.out.pb.c
  go_wp2_with fail
  have hZ := large_any HM.out.mb.inn HM.out.pb.inn
  unfold mdlVal plVal at hZ
  rw [HQ.out] at hZ
  (with_reducible refine Calls.mono hZ ?_)
  clear hZ
  rintro e W2 ⟨rfl, hs⟩
  have HM := Lib.hid (HM.out.keep hs)
  clear hs
  cases q
  · have HS := Lib.hid (small2 HQ.out)
    obtain ⟨c0, c1, c2, c3, c4, c5, c6, c7, c8, c9, c10⟩ := HM.out.mb.all
    have cq := HM.out.pb.c
    obtain ⟨r, hr⟩ : ∃ r, worst m P item = r := ⟨_, rfl⟩
    have HR := Lib.hid hr
    clear hr
    obtain ⟨⟨fb, fn⟩, k⟩ := r
    go_wp2_with fail
    have hZ := worst_any HM.out.mb.inn HM.out.pb.inn item HS.out.dom HS.out.decl (HS.out.us item)
    rw [HR.out] at hZ
    unfold mdlVal plVal Fl.val at hZ
    (with_reducible refine Calls.mono hZ ?_)
    clear hZ
    rintro e W3 ⟨rfl, hs⟩
    have HM := Lib.hid (HM.out.keep hs)
    clear hs
    go_upto_region 6 with (fail)
    have HM3 : Hid (MQ w (W3.alloc (.cells #[.int .i64 fb, .int .i64 fn] 31)) p m s P M Q) := HM.out.keep ((Same.refl _ _).alloc _)
    have HB := Lib.hid (Blk.new W3 31 #[.int .i64 fb, .int .i64 fn])
    refine wp_abs (fun W => Hid (MQ w W p m s P M Q ∧ Blk W W3.heap.size 31 #[.int .i64 fb, .int .i64 fn])) ⟨HM3.out, HB.out⟩ ?_
    clear HM3 HB HM
    intro W4 HM
    obtain ⟨c0, c1, c2, c3, c4, c5, c6, c7, c8, c9, c10⟩ := HM.out.1.mb.all
    have cq := HM.out.1.pb.c
    go_wp2_with fail
    have hZ := rworst_any HM.out.1.mb.inn HM.out.1.pb.inn item HS.out.dom HS.out.decl (HS.out.us item)
    rw [HR.out] at hZ
    unfold mdlVal plVal Fl.val at hZ
    (with_reducible refine Calls.mono hZ ?_)
    clear hZ
    rintro e W5 ⟨rfl, hs⟩
    have HB : Hid (Blk W5 W3.heap.size 31 #[.int .i64 fb, .int .i64 fn]) := HM.out.2.same hs (fun x => x)
    have HM := Lib.hid (HM.out.1.keep hs)
    clear hs
    have d0 := HB.out.cell 0
    have d1 := HB.out.cell 1
    have hl := HB.out.lt
    simp only [List.getElem?_toArray, List.getElem?_cons_zero, List.getElem?_cons_succ] at d0 d1
    go_wp2_with fail
    go_ret
    exact ⟨rfl, HM.out.mb.since.alloc _⟩
  · go_wp2_with fail
    go_ret
    exact ⟨rfl, HM.out.mb.since⟩
end Go.Proofs.Ytpngmodgnkjhnaa
