/- FailuresHits: its walk. (printed by genLawF.py) -/
import Derived.Test.YtpngmodgnkjhnaaFailQ
namespace Go.Proofs.Ytpngmodgnkjhnaa
open Go Go.RowKit Go.Maps
set_option maxRecDepth 100000

set_option maxHeartbeats 16000000 in
theorem lawHits_any {w : World} {p : MPl} {m : Mdl} {s : Sl} {P : List (List Un)} (h : MdlIn w p m) (hp : PlIn w s P) (f g : Fl) (hf : inI64 f.by_) (hg : inI64 g.by_) (n : Int) :
    Calls Try.prog 7 #[mdlVal p m, plVal s, f.val, g.val, .int .i64 n] w fun e w' => e = .returned (.bool true) ∧ Same noB w w' := by
  have HM0 := Lib.hid (LB.start h hp f g)
  have Hf := Lib.hid hf
  have Hg := Lib.hid hg
  obtain ⟨q, hq⟩ : ∃ q, largeB m P = q := ⟨_, rfl⟩
  have HQ := Lib.hid hq
  obtain ⟨b1, hb1⟩ : ∃ b, hitB m f n = b := ⟨_, rfl⟩
  have HB1 := Lib.hid hb1
  obtain ⟨b2, hb2⟩ : ∃ b, coverB m f g = b := ⟨_, rfl⟩
  have HB2 := Lib.hid hb2
  clear h hp hf hg hq hb1 hb2
  unfold mdlVal plVal Fl.val
  unfold mdlCells at HM0
  go_enter Try.func7, Try.ntmps7
  go_wp2_with fail
  refine calls_abs (fun W => Hid (LB w W p m s P f g w.heap.size (w.heap.size + 1) (w.heap.size + 1 + 1) (w.heap.size + 1 + 1 + 1))) HM0 ?_
  clear HM0
  generalize w.heap.size + 1 + 1 + 1 = G at *
  generalize w.heap.size + 1 + 1 = F at *
  generalize w.heap.size + 1 = Q at *
  generalize w.heap.size = M at *
  intro W HM0
  refine (awake_any W).mono ?_
  rintro e W1 ⟨rfl, hs⟩
  have HM := Lib.hid (HM0.out.keep hs)
  clear hs HM0
  obtain ⟨c0, c1, c2, c3, c4, c5, c6, c7, c8, c9, c10⟩ := HM.out.mq.mb.all; have cq := HM.out.mq.pb.c; obtain ⟨f0, f1, g0, g1⟩ := HM.out.all
  go_wp2_with fail
  have hZ := large_any HM.out.mq.mb.inn HM.out.mq.pb.inn
  unfold mdlVal plVal at hZ
  rw [HQ.out] at hZ
  (with_reducible refine Calls.mono hZ ?_)
  clear hZ
  rintro e W2 ⟨rfl, hs⟩
  have HM := Lib.hid (HM.out.keep hs)
  clear hs
  cases q
  · have HS := Lib.hid (small2 HQ.out)
    obtain ⟨c0, c1, c2, c3, c4, c5, c6, c7, c8, c9, c10⟩ := HM.out.mq.mb.all; have cq := HM.out.mq.pb.c; obtain ⟨f0, f1, g0, g1⟩ := HM.out.all
    obtain ⟨fb, fn⟩ := f
    obtain ⟨gb, gn⟩ := g
    simp only at *
    go_wp2_with fail
    have HM := Lib.hid (HM.out.keep ((Same.refl noB _).drew))
    go_region_held3 (fun w' => w'.cell? ⟨M, 0, none⟩ = some (.slice p.s.addr p.s.len p.s.cap) ∧ w'.cell? ⟨M, 1, none⟩ = some (.slice p.f.addr p.f.len p.f.cap) ∧ w'.cell? ⟨M, 2, none⟩ = some (.slice p.r.addr p.r.len p.r.cap) ∧ w'.cell? ⟨M, 3, none⟩ = some (.slice p.mc.addr p.mc.len p.mc.cap) ∧ w'.cell? ⟨M, 4, none⟩ = some (.slice p.l.addr p.l.len p.l.cap) ∧ w'.cell? ⟨M, 5, none⟩ = some (.slice p.i.addr p.i.len p.i.cap) ∧ w'.cell? ⟨M, 6, none⟩ = some (.int .i64 m.dark) ∧ w'.cell? ⟨M, 7, none⟩ = some (.int .i64 m.slots) ∧ w'.cell? ⟨M, 8, none⟩ = some (.int .i64 m.reserve) ∧ w'.cell? ⟨M, 9, none⟩ = some (.int .i64 m.failures) ∧ w'.cell? ⟨M, 10, none⟩ = some (.slice p.ru.addr p.ru.len p.ru.cap) ∧ w'.cell? ⟨Q, 0, none⟩ = some (.slice s.addr s.len s.cap) ∧ w'.cell? ⟨F, 0, none⟩ = some (.int .i64 fb) ∧ w'.cell? ⟨F, 1, none⟩ = some (.int .i64 fn) ∧ w'.cell? ⟨G, 0, none⟩ = some (.int .i64 gb) ∧ w'.cell? ⟨G, 1, none⟩ = some (.int .i64 gn))
      (first | (refine ⟨?_, ?_, ?_, ?_, ?_, ?_, ?_, ?_, ?_, ?_, ?_, ?_, ?_, ?_, ?_, ?_⟩ <;> with_reducible assumption) | go_keep)
      (first
        | (go_at_call 23; have hZ := hits_any HM.out.mq.mb.inn ⟨fb, fn⟩ Hf.out n; rw [HB1.out] at hZ; (try unfold mdlVal at hZ); (try unfold plVal at hZ); (try unfold Fl.val at hZ); (with_reducible refine Calls.mono hZ ?_); clear hZ; rintro e W5 ⟨rfl, hs⟩; have HM := Lib.hid (HM.out.keep hs); clear hs; obtain ⟨c0, c1, c2, c3, c4, c5, c6, c7, c8, c9, c10⟩ := HM.out.mq.mb.all; have cq := HM.out.mq.pb.c; obtain ⟨f0, f1, g0, g1⟩ := HM.out.all)
        | (go_at_call 25; have hZ := rhits_any HM.out.mq.mb.inn ⟨fb, fn⟩ Hf.out n; rw [HB1.out] at hZ; (try unfold mdlVal at hZ); (try unfold plVal at hZ); (try unfold Fl.val at hZ); (with_reducible refine Calls.mono hZ ?_); clear hZ; rintro e W5 ⟨rfl, hs⟩; have HM := Lib.hid (HM.out.keep hs); clear hs; obtain ⟨c0, c1, c2, c3, c4, c5, c6, c7, c8, c9, c10⟩ := HM.out.mq.mb.all; have cq := HM.out.mq.pb.c; obtain ⟨f0, f1, g0, g1⟩ := HM.out.all)
        | (go_at_call 26; have hZ := covers_any HM.out.mq.mb.inn ⟨fb, fn⟩ ⟨gb, gn⟩ Hf.out Hg.out HS.out.mach; rw [HB2.out] at hZ; (try unfold mdlVal at hZ); (try unfold plVal at hZ); (try unfold Fl.val at hZ); (with_reducible refine Calls.mono hZ ?_); clear hZ; rintro e W5 ⟨rfl, hs⟩; have HM := Lib.hid (HM.out.keep hs); clear hs; obtain ⟨c0, c1, c2, c3, c4, c5, c6, c7, c8, c9, c10⟩ := HM.out.mq.mb.all; have cq := HM.out.mq.pb.c; obtain ⟨f0, f1, g0, g1⟩ := HM.out.all)
        | (go_at_call 27; have hZ := rcovers_any HM.out.mq.mb.inn ⟨fb, fn⟩ ⟨gb, gn⟩ Hf.out Hg.out HS.out.mach; rw [HB2.out] at hZ; (try unfold mdlVal at hZ); (try unfold plVal at hZ); (try unfold Fl.val at hZ); (with_reducible refine Calls.mono hZ ?_); clear hZ; rintro e W5 ⟨rfl, hs⟩; have HM := Lib.hid (HM.out.keep hs); clear hs; obtain ⟨c0, c1, c2, c3, c4, c5, c6, c7, c8, c9, c10⟩ := HM.out.mq.mb.all; have cq := HM.out.mq.pb.c; obtain ⟨f0, f1, g0, g1⟩ := HM.out.all)
        | (go_at_call 20; have hZ := surv_any HM.out.mq.mb.inn HM.out.mq.pb.inn ⟨fb, fn⟩ Hf.out n (HS.out.us n); (try unfold mdlVal at hZ); (try unfold plVal at hZ); (try unfold Fl.val at hZ); (with_reducible refine Calls.mono hZ ?_); clear hZ; rintro e W5 ⟨v1, rfl, ha⟩; have HM := Lib.hid (HM.out.keep ha.since); have HA1 := Lib.hid (ha.rd (bad := noB) (fun _ e => e.elim)); (try have HA2 := Lib.hid (HA2.out.keep ha.since)); clear ha; obtain ⟨c0, c1, c2, c3, c4, c5, c6, c7, c8, c9, c10⟩ := HM.out.mq.mb.all; have cq := HM.out.mq.pb.c; obtain ⟨f0, f1, g0, g1⟩ := HM.out.all)
        | (go_at_call 28; have hZ := rsurv_any HM.out.mq.mb.inn HM.out.mq.pb.inn ⟨fb, fn⟩ Hf.out n (HS.out.us n); (try unfold mdlVal at hZ); (try unfold plVal at hZ); (try unfold Fl.val at hZ); (with_reducible refine Calls.mono hZ ?_); clear hZ; rintro e W5 ⟨v2, rfl, ha⟩; have HM := Lib.hid (HM.out.keep ha.since); have HA2 := Lib.hid (ha.rd (bad := noB) (fun _ e => e.elim)); (try have HA1 := Lib.hid (HA1.out.keep ha.since)); clear ha; obtain ⟨c0, c1, c2, c3, c4, c5, c6, c7, c8, c9, c10⟩ := HM.out.mq.mb.all; have cq := HM.out.mq.pb.c; obtain ⟨f0, f1, g0, g1⟩ := HM.out.all)
        | (go_at_call 24; have hZ := ints_true HA1.out HA2.out; (try unfold mdlVal at hZ); (try unfold plVal at hZ); (try unfold Fl.val at hZ); (with_reducible refine Calls.mono hZ ?_); clear hZ; rintro e W5 ⟨rfl, hs⟩; have HM := Lib.hid (HM.out.keep hs); clear hs; obtain ⟨c0, c1, c2, c3, c4, c5, c6, c7, c8, c9, c10⟩ := HM.out.mq.mb.all; have cq := HM.out.mq.pb.c; obtain ⟨f0, f1, g0, g1⟩ := HM.out.all))
    all_goals go_wp2_with fail
    all_goals
      go_ret
      exact ⟨by first | rfl | simp, HM.out.mq.mb.since⟩
  · go_wp2_with fail
    go_ret
    exact ⟨rfl, HM.out.mq.mb.since⟩
end Go.Proofs.Ytpngmodgnkjhnaa
