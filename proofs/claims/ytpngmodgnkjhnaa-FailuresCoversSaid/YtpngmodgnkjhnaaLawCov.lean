/- FailuresCovers: its walk. (printed by genLawCov.py) -/
import Derived.Test.YtpngmodgnkjhnaaFailR
namespace Go.Proofs.Ytpngmodgnkjhnaa
open Go Go.RowKit Go.Maps
set_option maxRecDepth 100000

set_option maxHeartbeats 16000000 in
theorem lawCovers_any {w : World} {p : MPl} {m : Mdl} {s : Sl} {P : List (List Un)} (h : MdlIn w p m) (hp : PlIn w s P) (f g : Fl) (hf : inI64 f.by_) (hg : inI64 g.by_) (n : Int) :
    Calls Try.prog 8 #[mdlVal p m, plVal s, f.val, g.val, .int .i64 n] w fun e w' => e = .returned (.bool true) ∧ Same noB w w' := by
  have HM0 := Lib.hid (LB.start h hp f g)
  have Hf := Lib.hid hf
  have Hg := Lib.hid hg
  obtain ⟨q, hq⟩ : ∃ q, largeB m P = q := ⟨_, rfl⟩
  have HQ := Lib.hid hq
  obtain ⟨b2, hb2⟩ : ∃ b, coverB m f g = b := ⟨_, rfl⟩
  have HB2 := Lib.hid hb2
  clear h hp hf hg hq hb2
  unfold mdlVal plVal Fl.val
  unfold mdlCells at HM0
  go_enter Try.func8, Try.ntmps8
  go_wp2_with fail
  refine calls_abs (fun W => Hid (LB w W p m s P f g w.heap.size (w.heap.size + 1) (w.heap.size + 1 + 1) (w.heap.size + 1 + 1 + 1))) HM0 ?_
  clear HM0
  generalize w.heap.size + 1 + 1 + 1 = G at *
  generalize w.heap.size + 1 + 1 = F at *
  generalize w.heap.size + 1 = Q at *
  generalize w.heap.size = M at *
  intro W HM0
  refine (awake_any W).mono ?_
  rintro e W1 ⟨rfl, hs⟩
  have HM := Lib.hid (HM0.out.keep hs)
  clear hs HM0
  obtain ⟨c0, c1, c2, c3, c4, c5, c6, c7, c8, c9, c10⟩ := HM.out.mq.mb.all; have cq := HM.out.mq.pb.c; obtain ⟨f0, f1, g0, g1⟩ := HM.out.all
  obtain ⟨fb, fn⟩ := f
  obtain ⟨gb, gn⟩ := g
  simp only at *
  go_wp2_with fail
  have hZ := large_any HM.out.mq.mb.inn HM.out.mq.pb.inn
  unfold mdlVal plVal at hZ
  rw [HQ.out] at hZ
  (with_reducible refine Calls.mono hZ ?_)
  clear hZ
  rintro e W2 ⟨rfl, hs⟩
  have HM := Lib.hid (HM.out.keep hs)
  clear hs
  obtain ⟨c0, c1, c2, c3, c4, c5, c6, c7, c8, c9, c10⟩ := HM.out.mq.mb.all; have cq := HM.out.mq.pb.c; obtain ⟨f0, f1, g0, g1⟩ := HM.out.all
  cases q
  · have HS := Lib.hid (small2 HQ.out)
    go_wp2_with fail
    have hZ := covers_any HM.out.mq.mb.inn ⟨fb, fn⟩ ⟨gb, gn⟩ Hf.out Hg.out HS.out.mach
    rw [HB2.out] at hZ
    unfold mdlVal Fl.val at hZ
    (with_reducible refine Calls.mono hZ ?_)
    clear hZ
    rintro e W3 ⟨rfl, hs⟩
    have HM := Lib.hid (HM.out.keep hs)
    clear hs c0 c1 c2 c3 c4 c5 c6 c7 c8 c9 c10 cq f0 f1 g0 g1
    cases b2
    · go_wp2_with fail
      go_ret
      exact ⟨rfl, HM.out.mq.mb.since⟩
    · obtain ⟨c0, c1, c2, c3, c4, c5, c6, c7, c8, c9, c10⟩ := HM.out.mq.mb.all; have cq := HM.out.mq.pb.c; obtain ⟨f0, f1, g0, g1⟩ := HM.out.all
      go_wp2_with fail
      have HM := Lib.hid (HM.out.keep ((Same.refl noB _).drew))
      go_cut [11, 12] from 27 to 37 (fun v1 v2 wx => CvI w wx p m s P ⟨fb, fn⟩ ⟨gb, gn⟩ M Q F G v1 v2 (survs m P ⟨fb, fn⟩ n) (survs m P ⟨gb, gn⟩ n))
      case first =>
        go_region_held3 (fun w' => w'.cell? ⟨M, 0, none⟩ = some (.slice p.s.addr p.s.len p.s.cap) ∧ w'.cell? ⟨M, 1, none⟩ = some (.slice p.f.addr p.f.len p.f.cap) ∧ w'.cell? ⟨M, 2, none⟩ = some (.slice p.r.addr p.r.len p.r.cap) ∧ w'.cell? ⟨M, 3, none⟩ = some (.slice p.mc.addr p.mc.len p.mc.cap) ∧ w'.cell? ⟨M, 4, none⟩ = some (.slice p.l.addr p.l.len p.l.cap) ∧ w'.cell? ⟨M, 5, none⟩ = some (.slice p.i.addr p.i.len p.i.cap) ∧ w'.cell? ⟨M, 6, none⟩ = some (.int .i64 m.dark) ∧ w'.cell? ⟨M, 7, none⟩ = some (.int .i64 m.slots) ∧ w'.cell? ⟨M, 8, none⟩ = some (.int .i64 m.reserve) ∧ w'.cell? ⟨M, 9, none⟩ = some (.int .i64 m.failures) ∧ w'.cell? ⟨M, 10, none⟩ = some (.slice p.ru.addr p.ru.len p.ru.cap) ∧ w'.cell? ⟨Q, 0, none⟩ = some (.slice s.addr s.len s.cap) ∧ w'.cell? ⟨F, 0, none⟩ = some (.int .i64 fb) ∧ w'.cell? ⟨F, 1, none⟩ = some (.int .i64 fn) ∧ w'.cell? ⟨G, 0, none⟩ = some (.int .i64 gb) ∧ w'.cell? ⟨G, 1, none⟩ = some (.int .i64 gn))
          (first | (refine ⟨?_, ?_, ?_, ?_, ?_, ?_, ?_, ?_, ?_, ?_, ?_, ?_, ?_, ?_, ?_, ?_⟩ <;> with_reducible assumption) | go_keep)
          (first
            | (go_at_call 20; have hZ := surv_any HM.out.mq.mb.inn HM.out.mq.pb.inn ⟨fb, fn⟩ Hf.out n (HS.out.us n); (try unfold mdlVal at hZ); (try unfold plVal at hZ); (try unfold Fl.val at hZ); (with_reducible refine Calls.mono hZ ?_); clear hZ; rintro e W5 ⟨v1, rfl, ha⟩; have HM := Lib.hid (HM.out.keep ha.since); have HA1 := Lib.hid (ha.rd (bad := noB) (fun _ e => e.elim)); (try have HA2 := Lib.hid (HA2.out.keep ha.since)); clear ha; obtain ⟨c0, c1, c2, c3, c4, c5, c6, c7, c8, c9, c10⟩ := HM.out.mq.mb.all; have cq := HM.out.mq.pb.c; obtain ⟨f0, f1, g0, g1⟩ := HM.out.all)
            | (go_at_call 20; have hZ := surv_any HM.out.mq.mb.inn HM.out.mq.pb.inn ⟨gb, gn⟩ Hg.out n (HS.out.us n); (try unfold mdlVal at hZ); (try unfold plVal at hZ); (try unfold Fl.val at hZ); (with_reducible refine Calls.mono hZ ?_); clear hZ; rintro e W5 ⟨v2, rfl, ha⟩; have HM := Lib.hid (HM.out.keep ha.since); have HA2 := Lib.hid (ha.rd (bad := noB) (fun _ e => e.elim)); (try have HA1 := Lib.hid (HA1.out.keep ha.since)); clear ha; obtain ⟨c0, c1, c2, c3, c4, c5, c6, c7, c8, c9, c10⟩ := HM.out.mq.mb.all; have cq := HM.out.mq.pb.c; obtain ⟨f0, f1, g0, g1⟩ := HM.out.all))
        all_goals go_wp2_with fail
        all_goals
          go_meet
          exact ⟨HM.out, HA1.out, HA2.out⟩
      case rest =>
        have HC := Lib.hid hcut
        clear hcut HM c0 c1 c2 c3 c4 c5 c6 c7 c8 c9 c10 cq f0 f1 g0 g1
        have HCV := Lib.hid (fun x hx he => survs_covers (P := P) (item := n) (x := x) HB2.out hx he)
        generalize survs m P ⟨fb, fn⟩ n = l1 at *
        generalize survs m P ⟨gb, gn⟩ n = l2 at *
        obtain ⟨A, c, hv, hc1, hc2, hr⟩ := HC.out.r1.form
        subst hv
        unfold maxLen at hc2
        clear hr
        go_wp2_with fail
        go_loopg [13] (l1.length) (fun gk i wr => ∃ t : Nat, t ≤ l1.length ∧ Hid (gk + t = l1.length) ∧ i = .int .i64 t ∧ Hid (CvI w wr p m s P ⟨fb, fn⟩ ⟨gb, gn⟩ M Q F G (.slice A l1.length c) u12 l1 l2))
        case atStart => exact ⟨0, Nat.zero_le _, rfl, rfl, HC.out⟩
        case round =>
          obtain ⟨t, ht, HT, rfl, HR⟩ := hrel
          clear HC
          have HM := Lib.hid HR.out.lb
          obtain ⟨c0, c1, c2, c3, c4, c5, c6, c7, c8, c9, c10⟩ := HM.out.mq.mb.all; have cq := HM.out.mq.pb.c; obtain ⟨f0, f1, g0, g1⟩ := HM.out.all
          by_cases hlt : t < l1.length
          · obtain ⟨x, hx⟩ : ∃ x, l1[t]? = some x := ⟨_, List.getElem?_eq_getElem hlt⟩
            have HX := Lib.hid (List.mem_of_getElem? hx)
            have HXT := Lib.hid hx
            obtain ⟨b, o, rfl, r1⟩ := HR.out.r1.at_ (by omega)
            have p0 := r1.cell t _ (icells_at hx)
            have hi0 : (0 : Int) ≤ (t : Int) := by omega
            have hi1 : (t : Int) < (l1.length : Int) := by omega
            have hi2 : l1.length ≤ c := hc1
            obtain ⟨be, hbe⟩ : ∃ be, exB x p.mc.len = be := ⟨_, rfl⟩
            have HBE := Lib.hid hbe
            have HLM : Hid (p.mc.len = m.machines.length) := HM.out.mq.mb.inn.lm
            clear r1 hx hbe
            go_wp2_with fail
            go_region_held3 (fun w' => w'.cell? ⟨M, 3, none⟩ = some (.slice p.mc.addr p.mc.len p.mc.cap) ∧ w'.cell? ⟨b, o + t, none⟩ = some (.int .i64 x))
              (first | (refine ⟨?_, ?_⟩ <;> with_reducible assumption) | go_keep)
              ((go_at_call 29; refine (rexists_any x p.mc.len _).mono ?_; rintro e W5 ⟨rfl, rfl⟩; rw [HBE.out]))
            all_goals go_wp2_with fail
            refine wp_abs (fun W => Hid (CvI w W p m s P ⟨fb, fn⟩ ⟨gb, gn⟩ M Q F G (.slice (some ⟨b, o, none⟩) l1.length c) u12 l1 l2)) (HR.out.keep ((Same.refl _ _).drew)) ?_
            clear HR HM c0 c1 c2 c3 c4 c5 c6 c7 c8 c9 c10 cq f0 f1 g0 g1 p0
            intro W6 HR
            cases be
            · go_quiet (fail)
              all_goals go_wp2_with fail
              all_goals
                go_roundg (gk - 1)
                case measure => have h1 := HT.out; omega
                case rel => exact ⟨t + 1, by omega, by show _ = _; have h1 := HT.out; omega, by go_num, by first | exact HR.out.keep ((Same.refl _ _).drew) | exact HR.out.keep ((Same.refl _ _).drewN _)⟩
            · have HCX : Hid (hitB m ⟨gb, gn⟩ x = false ∧ x ∈ l2) := HCV.out x HX.out (by rw [← HLM.out]; exact HBE.out)
              have HM := Lib.hid HR.out.lb
              obtain ⟨c0, c1, c2, c3, c4, c5, c6, c7, c8, c9, c10⟩ := HM.out.mq.mb.all; have cq := HM.out.mq.pb.c; obtain ⟨f0, f1, g0, g1⟩ := HM.out.all
              obtain ⟨x', hx⟩ : ∃ x', l1[t]? = some x' := ⟨_, List.getElem?_eq_getElem hlt⟩
              obtain rfl : x' = x := by have h1 := HXT.out; rw [h1] at hx; injection hx with hx; exact hx.symm
              obtain ⟨b', o', hbo, r1⟩ := HR.out.r1.at_ (by omega)
              have p0 := r1.cell t _ (icells_at hx)
              injection hbo with hbo
              injection hbo with h1 h2
              subst h1 h2
              have HR := Lib.hid (HR.out.keep ((Same.refl noB _).drew))
              clear r1 hx
              go_region_held3 (fun w' => w'.cell? ⟨M, 0, none⟩ = some (.slice p.s.addr p.s.len p.s.cap) ∧ w'.cell? ⟨M, 1, none⟩ = some (.slice p.f.addr p.f.len p.f.cap) ∧ w'.cell? ⟨M, 2, none⟩ = some (.slice p.r.addr p.r.len p.r.cap) ∧ w'.cell? ⟨M, 3, none⟩ = some (.slice p.mc.addr p.mc.len p.mc.cap) ∧ w'.cell? ⟨M, 4, none⟩ = some (.slice p.l.addr p.l.len p.l.cap) ∧ w'.cell? ⟨M, 5, none⟩ = some (.slice p.i.addr p.i.len p.i.cap) ∧ w'.cell? ⟨M, 6, none⟩ = some (.int .i64 m.dark) ∧ w'.cell? ⟨M, 7, none⟩ = some (.int .i64 m.slots) ∧ w'.cell? ⟨M, 8, none⟩ = some (.int .i64 m.reserve) ∧ w'.cell? ⟨M, 9, none⟩ = some (.int .i64 m.failures) ∧ w'.cell? ⟨M, 10, none⟩ = some (.slice p.ru.addr p.ru.len p.ru.cap) ∧ w'.cell? ⟨G, 0, none⟩ = some (.int .i64 gb) ∧ w'.cell? ⟨G, 1, none⟩ = some (.int .i64 gn) ∧ w'.cell? ⟨b, o + t, none⟩ = some (.int .i64 x'))
                (first | (refine ⟨?_, ?_, ?_, ?_, ?_, ?_, ?_, ?_, ?_, ?_, ?_, ?_, ?_, ?_⟩ <;> with_reducible assumption) | go_keep)
                (first
                  | (go_at_call 23; have hZ := hits_any HR.out.lb.mq.mb.inn ⟨gb, gn⟩ Hg.out x'; rw [HCX.out.1] at hZ; (try unfold mdlVal at hZ); (try unfold plVal at hZ); (try unfold Fl.val at hZ); (with_reducible refine Calls.mono hZ ?_); clear hZ; rintro e W7 ⟨rfl, hs⟩; have HR := Lib.hid (HR.out.keep hs); obtain ⟨c0, c1, c2, c3, c4, c5, c6, c7, c8, c9, c10⟩ := HR.out.lb.mq.mb.all; have cq := HR.out.lb.mq.pb.c; obtain ⟨f0, f1, g0, g1⟩ := HR.out.lb.all; have p0 := hs.cell p0 (fun x => x); clear hs)
                  | (go_at_call 30; have hZ := hasint_yes HR.out.r2 HCX.out.2; (try unfold mdlVal at hZ); (try unfold plVal at hZ); (try unfold Fl.val at hZ); (with_reducible refine Calls.mono hZ ?_); clear hZ; rintro e W7 ⟨rfl, hs⟩; have HR := Lib.hid (HR.out.keep hs); obtain ⟨c0, c1, c2, c3, c4, c5, c6, c7, c8, c9, c10⟩ := HR.out.lb.mq.mb.all; have cq := HR.out.lb.mq.pb.c; obtain ⟨f0, f1, g0, g1⟩ := HR.out.lb.all; have p0 := hs.cell p0 (fun x => x); clear hs))
              all_goals go_wp2_with fail
              all_goals
                go_roundg (gk - 1)
                case measure => have h1 := HT.out; omega
                case rel => exact ⟨t + 1, by omega, by show _ = _; have h1 := HT.out; omega, by go_num, HR.out⟩
          · obtain rfl : t = l1.length := by omega
            go_wp2_with fail
            go_ret
            exact ⟨rfl, HM.out.mq.mb.since⟩
  · go_wp2_with fail
    go_ret
    exact ⟨rfl, HM.out.mq.mb.since⟩
end Go.Proofs.Ytpngmodgnkjhnaa
