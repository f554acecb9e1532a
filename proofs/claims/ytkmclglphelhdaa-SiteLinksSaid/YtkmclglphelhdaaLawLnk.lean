/- SiteLinks: its walk. (printed by genLawS.py) -/
import Derived.Test.YtkmclglphelhdaaSiteO
import Derived.Test.YtkmclglphelhdaaSiteQ
namespace Go.Proofs.Ytkmclglphelhdaa
open Go Go.RowKit Go.Maps

set_option maxHeartbeats 16000000 in
theorem lawLinks_any {w : World} {p : MPl} {m : Mdl} (h : MdlIn w p m) {a b : Int} :
    Calls Try.prog 7 #[mdlVal p m, .int .i64 a, .int .i64 b] w fun e w' => e = .returned (.bool true) ∧ Same noB w w' := by
  have HMB := Lib.hid (MB.start h)
  clear h
  unfold mdlVal
  unfold mdlCells at HMB
  go_enter Try.func7, Try.ntmps7
  go_wp2_with fail
  refine calls_abs (fun W => Hid (MB w W p m w.heap.size)) HMB ?_
  clear HMB
  generalize w.heap.size = M at *
  intro W0 HM0
  refine (awake_any W0).mono ?_
  rintro e W1 ⟨rfl, hs⟩
  have HM1 := Lib.hid (HM0.out.keep hs)
  clear hs HM0
  obtain ⟨c0, c1, c2, c3, c4, c5, c6, c7, c8, c9, c10⟩ := HM1.out.all
  go_wp2_with fail
  clear c0 c1 c2 c3 c4 c5 c6 c7 c8 c9 c10
  have hZ := few_any HM1.out.inn
  unfold mdlVal at hZ
  (with_reducible refine Calls.mono hZ ?_)
  clear hZ
  rintro e W2 ⟨q, rfl, hq, hs⟩
  have HM2 := Lib.hid (HM1.out.keep hs)
  have HQ := Lib.hid hq
  clear hs HM1 hq
  cases q
  · go_wp2_with fail
    go_ret
    exact ⟨rfl, HM2.out.since⟩
  have hsm := HQ.out rfl
  have HLs : Hid (m.sites.length ≤ 1000000) := by have := hsm.1; show _ ≤ _; omega
  have HLm : Hid (m.machines.length ≤ 1000000) := by have := hsm.2.2.2.1; show _ ≤ _; omega
  have HLl : Hid (m.links.length ≤ 1000000) := by have := hsm.2.2.2.2.1; show _ ≤ _; omega
  clear hsm HQ
  obtain ⟨c0, c1, c2, c3, c4, c5, c6, c7, c8, c9, c10⟩ := HM2.out.all
  go_wp2_with fail
  have HM : Hid (MB w W2.drew p m M) := HM2.out.keep ((Same.refl _ _).drew)
  clear HM2
  go_region_held3 (fun w' => w'.cell? ⟨M, 0, none⟩ = some (.slice p.s.addr p.s.len p.s.cap) ∧ w'.cell? ⟨M, 1, none⟩ = some (.slice p.f.addr p.f.len p.f.cap) ∧ w'.cell? ⟨M, 2, none⟩ = some (.slice p.r.addr p.r.len p.r.cap) ∧ w'.cell? ⟨M, 3, none⟩ = some (.slice p.mc.addr p.mc.len p.mc.cap) ∧ w'.cell? ⟨M, 4, none⟩ = some (.slice p.l.addr p.l.len p.l.cap) ∧ w'.cell? ⟨M, 5, none⟩ = some (.slice p.i.addr p.i.len p.i.cap) ∧ w'.cell? ⟨M, 6, none⟩ = some (.int .i64 m.dark) ∧ w'.cell? ⟨M, 7, none⟩ = some (.int .i64 m.slots) ∧ w'.cell? ⟨M, 8, none⟩ = some (.int .i64 m.reserve) ∧ w'.cell? ⟨M, 9, none⟩ = some (.int .i64 m.failures) ∧ w'.cell? ⟨M, 10, none⟩ = some (.slice p.ru.addr p.ru.len p.ru.cap))
      (first | (refine ⟨?_, ?_, ?_, ?_, ?_, ?_, ?_, ?_, ?_, ?_, ?_⟩ <;> with_reducible assumption) | go_keep)
      (first
        | (go_at_call 24; have hZ := link_any HM.out.inn a b HLl.out; (try unfold mdlVal at hZ); (with_reducible refine Calls.mono hZ ?_); clear hZ; rintro e W2 ⟨rfl, hs⟩; have HM := Lib.hid (HM.out.keep hs); obtain ⟨c0, c1, c2, c3, c4, c5, c6, c7, c8, c9, c10⟩ := HM.out.all; clear hs)
        | (go_at_call 24; have hZ := link_any HM.out.inn b a HLl.out; rw [link_symm m b a] at hZ; (try unfold mdlVal at hZ); (with_reducible refine Calls.mono hZ ?_); clear hZ; rintro e W2 ⟨rfl, hs⟩; have HM := Lib.hid (HM.out.keep hs); obtain ⟨c0, c1, c2, c3, c4, c5, c6, c7, c8, c9, c10⟩ := HM.out.all; clear hs)
        | (go_at_call 25; have hZ := rlink_any HM.out.inn a b HLl.out; (try unfold mdlVal at hZ); (with_reducible refine Calls.mono hZ ?_); clear hZ; rintro e W2 ⟨rfl, hs⟩; have HM := Lib.hid (HM.out.keep hs); obtain ⟨c0, c1, c2, c3, c4, c5, c6, c7, c8, c9, c10⟩ := HM.out.all; clear hs)
        | (go_at_call 26; have hZ := near_any (s := a) HM.out.inn HLs.out HLl.out; (try unfold mdlVal at hZ); (with_reducible refine Calls.mono hZ ?_); clear hZ; rintro e W2 ⟨v2, rfl, ha⟩; have HM := Lib.hid (HM.out.keep ha.since); have HA1 := Lib.hid (ha.rd (bad := noB) (fun _ e => e.elim)); obtain ⟨c0, c1, c2, c3, c4, c5, c6, c7, c8, c9, c10⟩ := HM.out.all; clear ha)
        | (go_at_call 27; have hZ := rnear_any (s := a) HM.out.inn HLs.out HLl.out; (try unfold mdlVal at hZ); (with_reducible refine Calls.mono hZ ?_); clear hZ; rintro e W2 ⟨v2, rfl, ha⟩; have HM := Lib.hid (HM.out.keep ha.since); have HA2 := Lib.hid (ha.rd (bad := noB) (fun _ e => e.elim)); have HA1 := Lib.hid (HA1.out.keep ha.since); obtain ⟨c0, c1, c2, c3, c4, c5, c6, c7, c8, c9, c10⟩ := HM.out.all; clear ha)
        | (go_at_call 18; have hZ := ints_true HA1.out HA2.out; (try unfold mdlVal at hZ); (with_reducible refine Calls.mono hZ ?_); clear hZ; rintro e W2 ⟨rfl, hs⟩; have HM := Lib.hid (HM.out.keep hs); obtain ⟨c0, c1, c2, c3, c4, c5, c6, c7, c8, c9, c10⟩ := HM.out.all; clear hs))
  all_goals go_wp2_with fail
  all_goals
    go_ret
    exact ⟨rfl, HM.out.since⟩
end Go.Proofs.Ytkmclglphelhdaa
