/- FailuresAll: its walk. (printed by genLawF.py) -/
import Derived.Test.YtpngmodgnkjhnaaFailP
import Derived.Deep.CutRange
namespace Go.Proofs.Ytpngmodgnkjhnaa
open Go Go.RowKit Go.Maps
set_option maxRecDepth 100000

set_option maxHeartbeats 16000000 in
theorem lawAll_any {w : World} {p : MPl} {m : Mdl} (h : MdlIn w p m) (f : Fl) (hb : inI64 f.by_) :
    Calls Try.prog 3 #[mdlVal p m, f.val] w fun e w' => e = .returned (.bool true) ∧ Same noB w w' := by
  have hmb := MB.start h
  have hz : (w.alloc (.cells (mdlCells p m) 29)).heap.size = w.heap.size + 1 := by simp
  have hfb := Blk.new (w.alloc (.cells (mdlCells p m) 29)) 31 #[.int .i64 f.by_, .int .i64 f.num]
  rw [hz] at hfb
  have HM0 : Hid (MF w ((w.alloc (.cells (mdlCells p m) 29)).alloc (.cells #[.int .i64 f.by_, .int .i64 f.num] 31)) p m f w.heap.size (w.heap.size + 1)) := ⟨hmb.keep ((Same.refl _ _).alloc _), hfb⟩
  have Hb := Lib.hid hb
  obtain ⟨q, hq⟩ : ∃ q, fewB m = q := ⟨_, rfl⟩
  have HQ := Lib.hid hq
  obtain ⟨nm, hnm⟩ : ∃ nm, namOf m f = nm := ⟨_, rfl⟩
  have HN := Lib.hid hnm
  clear h hb hmb hfb hz hq hnm
  unfold mdlVal Fl.val
  unfold mdlCells at HM0
  go_enter Try.func3, Try.ntmps3
  go_wp2_with fail
  refine calls_abs (fun W => Hid (MF w W p m f w.heap.size (w.heap.size + 1))) HM0 ?_
  clear HM0
  generalize w.heap.size = M at *
  generalize M + 1 = G at *
  intro W HM0
  refine (awake_any W).mono ?_
  rintro e W1 ⟨rfl, hs⟩
  have HM := Lib.hid (HM0.out.keep hs)
  clear hs HM0
  obtain ⟨c0, c1, c2, c3, c4, c5, c6, c7, c8, c9, c10⟩ := HM.out.mb.all; obtain ⟨f0, f1⟩ := HM.out.all
  go_wp2_with fail
  have hZ := few2_any HM.out.mb.inn
  unfold mdlVal at hZ
  rw [HQ.out] at hZ
  (with_reducible refine Calls.mono hZ ?_)
  clear hZ
  rintro e W2 ⟨rfl, hs⟩
  have HM := Lib.hid (HM.out.keep hs)
  clear hs
  cases q
  · go_wp2_with fail
    go_ret
    exact ⟨rfl, HM.out.mb.since⟩
  · have HS : Hid (m.Small ∧ m.Short) := ⟨fewB_small HQ.out, fewB_short HQ.out⟩
    obtain ⟨c0, c1, c2, c3, c4, c5, c6, c7, c8, c9, c10⟩ := HM.out.mb.all; obtain ⟨f0, f1⟩ := HM.out.all
    obtain ⟨fb, fn⟩ := f
    simp only at *
    go_wp2_with fail
    have HM := Lib.hid (HM.out.keep ((Same.refl noB _).drew))
    go_region_held3 (fun w' => w'.cell? ⟨M, 0, none⟩ = some (.slice p.s.addr p.s.len p.s.cap) ∧ w'.cell? ⟨M, 1, none⟩ = some (.slice p.f.addr p.f.len p.f.cap) ∧ w'.cell? ⟨M, 2, none⟩ = some (.slice p.r.addr p.r.len p.r.cap) ∧ w'.cell? ⟨M, 3, none⟩ = some (.slice p.mc.addr p.mc.len p.mc.cap) ∧ w'.cell? ⟨M, 4, none⟩ = some (.slice p.l.addr p.l.len p.l.cap) ∧ w'.cell? ⟨M, 5, none⟩ = some (.slice p.i.addr p.i.len p.i.cap) ∧ w'.cell? ⟨M, 6, none⟩ = some (.int .i64 m.dark) ∧ w'.cell? ⟨M, 7, none⟩ = some (.int .i64 m.slots) ∧ w'.cell? ⟨M, 8, none⟩ = some (.int .i64 m.reserve) ∧ w'.cell? ⟨M, 9, none⟩ = some (.int .i64 m.failures) ∧ w'.cell? ⟨M, 10, none⟩ = some (.slice p.ru.addr p.ru.len p.ru.cap) ∧ w'.cell? ⟨G, 0, none⟩ = some (.int .i64 fb) ∧ w'.cell? ⟨G, 1, none⟩ = some (.int .i64 fn))
      (first | (refine ⟨?_, ?_, ?_, ?_, ?_, ?_, ?_, ?_, ?_, ?_, ?_, ?_, ?_⟩ <;> with_reducible assumption) | go_keep)
      (first
        | (go_at_call 13; have hZ := all_any HM.out.mb.inn (small_dom HS.out.1) (small_decl HS.out.1); (try unfold mdlVal at hZ); (try unfold Fl.val at hZ); (with_reducible refine Calls.mono hZ ?_); clear hZ; rintro e W5 ⟨v1, rfl, ha⟩; have HM := Lib.hid (HM.out.keep ha.since); have HA1 := Lib.hid (ha.rd (bad := noB) (fun _ e => e.elim)); (try have HA2 := Lib.hid (HA2.out.keep ha.since)); clear ha; obtain ⟨c0, c1, c2, c3, c4, c5, c6, c7, c8, c9, c10⟩ := HM.out.mb.all; obtain ⟨f0, f1⟩ := HM.out.all)
        | (go_at_call 14; have hZ := rall_any HM.out.mb.inn (small_dom HS.out.1) (small_decl HS.out.1); (try unfold mdlVal at hZ); (try unfold Fl.val at hZ); (with_reducible refine Calls.mono hZ ?_); clear hZ; rintro e W5 ⟨v2, rfl, ha⟩; have HM := Lib.hid (HM.out.keep ha.since); have HA2 := Lib.hid (ha.rd (bad := noB) (fun _ e => e.elim)); (try have HA1 := Lib.hid (HA1.out.keep ha.since)); clear ha; obtain ⟨c0, c1, c2, c3, c4, c5, c6, c7, c8, c9, c10⟩ := HM.out.mb.all; obtain ⟨f0, f1⟩ := HM.out.all)
        | (go_at_call 12; have hZ := same_true HA1.out HA2.out; (try unfold mdlVal at hZ); (try unfold Fl.val at hZ); (with_reducible refine Calls.mono hZ ?_); clear hZ; rintro e W5 ⟨rfl, hs⟩; have HM := Lib.hid (HM.out.keep hs); clear hs; obtain ⟨c0, c1, c2, c3, c4, c5, c6, c7, c8, c9, c10⟩ := HM.out.mb.all; obtain ⟨f0, f1⟩ := HM.out.all)
        | (go_at_call 15; have hZ := name_any HM.out.mb.inn HS.out.2 ⟨fb, fn⟩ Hb.out; rw [HN.out] at hZ; unfold mdlVal Fl.val at hZ; (with_reducible refine Calls.mono hZ ?_); clear hZ; rintro e W5 ⟨rfl, hs⟩; have HM := Lib.hid (HM.out.keep hs); clear hs; obtain ⟨c0, c1, c2, c3, c4, c5, c6, c7, c8, c9, c10⟩ := HM.out.mb.all; obtain ⟨f0, f1⟩ := HM.out.all)
        | (go_at_call 16; have hZ := rname_any HM.out.mb.inn HS.out.2 ⟨fb, fn⟩; rw [HN.out] at hZ; unfold mdlVal Fl.val at hZ; (with_reducible refine Calls.mono hZ ?_); clear hZ; rintro e W5 ⟨rfl, hs⟩; have HM := Lib.hid (HM.out.keep hs); clear hs; obtain ⟨c0, c1, c2, c3, c4, c5, c6, c7, c8, c9, c10⟩ := HM.out.mb.all; obtain ⟨f0, f1⟩ := HM.out.all))
    all_goals go_wp2_with fail
    all_goals
      go_ret
      exact ⟨by first | rfl | simp, HM.out.mb.since⟩
end Go.Proofs.Ytpngmodgnkjhnaa
