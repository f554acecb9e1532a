/- SiteShortest: its walk. (printed by genLawSho.py) -/
import Derived.Test.YtkmclglphelhdaaSiteT
import Derived.Test.YtkmclglphelhdaaRoutE
import Derived.Deep.CutRange
import Derived.Deep.DrawnRows
namespace Go.Proofs.Ytkmclglphelhdaa
open Go Go.RowKit Go.Maps

theorem route_rt {m : Mdl} {a b : Int} (ha : exB a m.sites.length = true) (hb : exB b m.sites.length = true) : m.route a b = rt m.near m.sites.length a b := by
  unfold Mdl.route
  rw [ha, hb]
  rfl
theorem near_exB {m : Mdl} {s t : Int} (h : t ∈ m.near s) : exB t m.sites.length = true := by
  obtain ⟨_, h1, h2, _⟩ := mem_near.1 h
  exact exB_iff.2 ⟨h1, h2⟩
/-- What region 11 reads. -/
def ShS (M : Nat) (p : MPl) (m : Mdl) (lb lo t : Nat) (u : Int) (w' : World) : Prop := w'.cell? ⟨M, 0, none⟩ = some (.slice p.s.addr p.s.len p.s.cap) ∧ w'.cell? ⟨M, 1, none⟩ = some (.slice p.f.addr p.f.len p.f.cap) ∧ w'.cell? ⟨M, 2, none⟩ = some (.slice p.r.addr p.r.len p.r.cap) ∧ w'.cell? ⟨M, 3, none⟩ = some (.slice p.mc.addr p.mc.len p.mc.cap) ∧ w'.cell? ⟨M, 4, none⟩ = some (.slice p.l.addr p.l.len p.l.cap) ∧ w'.cell? ⟨M, 5, none⟩ = some (.slice p.i.addr p.i.len p.i.cap) ∧ w'.cell? ⟨M, 6, none⟩ = some (.int .i64 m.dark) ∧ w'.cell? ⟨M, 7, none⟩ = some (.int .i64 m.slots) ∧ w'.cell? ⟨M, 8, none⟩ = some (.int .i64 m.reserve) ∧ w'.cell? ⟨M, 9, none⟩ = some (.int .i64 m.failures) ∧ w'.cell? ⟨M, 10, none⟩ = some (.slice p.ru.addr p.ru.len p.ru.cap) ∧ w'.cell? ⟨lb, lo + t, none⟩ = some (.int .i64 u)
def ShS1 (M : Nat) (p : MPl) (m : Mdl) (lb lo t : Nat) (u u1 : Int) (w' : World) : Prop := w'.cell? ⟨M, 0, none⟩ = some (.slice p.s.addr p.s.len p.s.cap) ∧ w'.cell? ⟨M, 1, none⟩ = some (.slice p.f.addr p.f.len p.f.cap) ∧ w'.cell? ⟨M, 2, none⟩ = some (.slice p.r.addr p.r.len p.r.cap) ∧ w'.cell? ⟨M, 3, none⟩ = some (.slice p.mc.addr p.mc.len p.mc.cap) ∧ w'.cell? ⟨M, 4, none⟩ = some (.slice p.l.addr p.l.len p.l.cap) ∧ w'.cell? ⟨M, 5, none⟩ = some (.slice p.i.addr p.i.len p.i.cap) ∧ w'.cell? ⟨M, 6, none⟩ = some (.int .i64 m.dark) ∧ w'.cell? ⟨M, 7, none⟩ = some (.int .i64 m.slots) ∧ w'.cell? ⟨M, 8, none⟩ = some (.int .i64 m.reserve) ∧ w'.cell? ⟨M, 9, none⟩ = some (.int .i64 m.failures) ∧ w'.cell? ⟨M, 10, none⟩ = some (.slice p.ru.addr p.ru.len p.ru.cap) ∧ w'.cell? ⟨lb, lo + t, none⟩ = some (.int .i64 u) ∧ w'.cell? ⟨lb, lo + (t - 1), none⟩ = some (.int .i64 u1)
/-- What SiteShortest asks of a route. -/
structure Way (m : Mdl) (a b : Int) : Prop where
  turn : (m.route b a).length = (m.route a b).length
  self : a = b → (m.route a b).length = 1
  fst : ∀ u : Int, (m.route a b)[0]? = some u → u = a
  lst : ∀ (i : Nat) (u : Int), i + 1 = (m.route a b).length → (m.route a b)[i]? = some u → u = b
  step : ∀ (i : Nat) (u v : Int), (m.route a b)[i]? = some u → (m.route a b)[i + 1]? = some v → 0 < m.link u v
  once : ∀ (i j : Nat) (u : Int), (m.route a b)[i]? = some u → (m.route a b)[j]? = some u → i = j
  near : ∀ x : Int, x ∈ m.near a → (0 < (m.route x b).length → 0 < (m.route a b).length ∧ (m.route a b).length ≤ (m.route x b).length + 1) ∧ ((m.route x b).length = 0 → (m.route a b).length = 0)
  len : (m.route a b).length ≤ m.sites.length
theorem way_of {m : Mdl} {a b : Int} (ha : exB a m.sites.length = true) (hb : exB b m.sites.length = true) : Way m a b := by
  have ha' := exB_iff.1 ha
  have hb' := exB_iff.1 hb
  have hw := rt_way (near_gr m) (a := a) (b := b) ha'.1 ha'.2
  rw [← route_rt ha hb] at hw
  refine ⟨?_, ?_, hw.1, hw.2.1, fun i u v hu hv => ?_, hw.2.2.2.1, fun x hx => ?_, ?_⟩
  · rw [route_rt ha hb, route_rt hb ha]
    exact rt_turn (near_gr m) hb'.1 hb'.2 ha'.1 ha'.2
  · rintro rfl
    rw [route_rt ha ha]
    exact rt_self (near_gr m) ha'.1 ha'.2
  · exact (mem_near.1 (hw.2.2.1 i u v hu hv)).2.2.2
  · rw [route_rt ha hb, route_rt (near_exB hx) hb]
    exact rt_near (near_gr m) ha'.1 ha'.2 hx
  · rw [route_rt ha hb]
    exact rt_le (near_gr m) ha'.1 ha'.2

set_option maxRecDepth 100000 in
set_option maxHeartbeats 16000000 in
theorem lawShortest_any {w : World} {p : MPl} {m : Mdl} (h : MdlIn w p m) (a b : Int) :
    Calls Try.prog 9 #[mdlVal p m, .int .i64 a, .int .i64 b] w fun e w' => e = .returned (.bool true) ∧ Same noB w w' := by
  have HMB := Lib.hid (MB.start h)
  have HLS := Lib.hid h.ls
  obtain ⟨q, hq⟩ : ∃ q, fewB m = q := ⟨_, rfl⟩
  have HQ := Lib.hid hq
  obtain ⟨qa, hqa⟩ : ∃ q, exB a m.sites.length = q := ⟨_, rfl⟩
  obtain ⟨qb, hqb⟩ : ∃ q, exB b m.sites.length = q := ⟨_, rfl⟩
  have HA := Lib.hid hqa
  have HB := Lib.hid hqb
  clear h hq hqa hqb
  unfold mdlVal
  unfold mdlCells at HMB
  go_enter Try.func9, Try.ntmps9
  go_wp2_with fail
  refine calls_abs (fun W => Hid (MB w W p m w.heap.size)) HMB ?_
  clear HMB
  generalize w.heap.size = M at *
  intro W0 HM0
  refine (awake_any W0).mono ?_
  rintro e W1 ⟨rfl, hs⟩
  have HM1 := Lib.hid (HM0.out.keep hs)
  clear hs HM0
  obtain ⟨c0, c1, c2, c3, c4, c5, c6, c7, c8, c9, c10⟩ := HM1.out.all
  go_wp2_with fail
  have hZ := few2_any HM1.out.inn
  rw [HQ.out] at hZ
  unfold mdlVal at hZ
  (with_reducible refine Calls.mono hZ ?_)
  clear hZ
  rintro e W2 ⟨rfl, hs⟩
  have HM2 := Lib.hid (HM1.out.keep hs)
  clear hs c0 c1 c2 c3 c4 c5 c6 c7 c8 c9 c10
  have c0 := HM2.out.c0
  cases q
  · go_wp2_with fail
    go_ret
    exact ⟨rfl, HM2.out.since⟩
  go_wp2_with fail
  refine (rexists_any a p.s.len _).mono ?_
  rintro e w2 ⟨rfl, rfl⟩
  have HA1 : Hid (exB a p.s.len = qa) := by show exB _ _ = _; rw [HLS.out]; exact HA.out
  rw [HA1.out]
  cases qa
  · go_wp2_with fail
    go_ret
    exact ⟨rfl, HM2.out.since⟩
  go_wp2_with fail
  refine (rexists_any b p.s.len _).mono ?_
  rintro e w2 ⟨rfl, rfl⟩
  have HB1 : Hid (exB b p.s.len = qb) := by show exB _ _ = _; rw [HLS.out]; exact HB.out
  rw [HB1.out]
  cases qb
  · go_wp2_with fail
    go_ret
    exact ⟨rfl, HM2.out.since⟩
  have hsm := fewB_small HQ.out
  have HLs : Hid (m.sites.length ≤ 1000000) := by have := hsm.1; show _ ≤ _; omega
  have HLl : Hid (m.links.length ≤ 1000000) := by have := hsm.2.2.2.2.1; show _ ≤ _; omega
  have HWY := Lib.hid (way_of HA.out HB.out)
  have hlen : (m.route a b).length ≤ 1000000 := Nat.le_trans HWY.out.len HLs.out
  clear hsm HA1 HB1 c0
  obtain ⟨c0, c1, c2, c3, c4, c5, c6, c7, c8, c9, c10⟩ := HM2.out.all
  go_wp2_with fail
  have hZ := route_any HM2.out.inn a b HLs.out HLl.out
  unfold mdlVal at hZ
  (with_reducible refine Calls.mono hZ ?_)
  clear hZ
  rintro e W3 ⟨v3, rfl, hr, hs⟩
  obtain ⟨A3, n3, rfl, hn31, hn32, hr3⟩ := hr.form
  have HI0 : Hid (MB w W3 p m M ∧ Rd W3 noB 1 (.slice A3 (m.route a b).length n3) (m.route a b).length (icells (m.route a b))) := ⟨HM2.out.keep hs, hr3⟩
  have HSF : Hid ((m.route a b).length = 0 → (a == b) = false) := fun e => by
    rw [beq_eq_false_iff_ne]
    intro e2
    have := HWY.out.self e2
    omega
  clear hr hs hr3 HM2 c0 c1 c2 c3 c4 c5 c6 c7 c8 c9 c10
  go_upto_region 6 with (fail)
  go_cut [55] from 38 to 55 (fun v wx => v = .bool false ∧ Hid (MB w wx p m M ∧ Rd wx noB 1 (.slice A3 (m.route a b).length n3) (m.route a b).length (icells (m.route a b))))
  case first =>
    obtain ⟨c0, c1, c2, c3, c4, c5, c6, c7, c8, c9, c10⟩ := HI0.out.1.all
    go_wp2_with fail
    have hZ := route_any HI0.out.1.inn b a HLs.out HLl.out
    unfold mdlVal at hZ
    (with_reducible refine Calls.mono hZ ?_)
    clear hZ
    rintro e W4 ⟨v4, rfl, hr, hs⟩
    rw [HWY.out.turn] at hr
    obtain ⟨A4, n4, rfl, hn41, hn42, _⟩ := hr.form
    have HI : Hid (MB w W4 p m M ∧ Rd W4 noB 1 (.slice A3 (m.route a b).length n3) (m.route a b).length (icells (m.route a b))) := ⟨HI0.out.1.keep hs, HI0.out.2.keep hs⟩
    clear hr hs HI0 c0 c1 c2 c3 c4 c5 c6 c7 c8 c9 c10
    by_cases hL : (m.route a b).length = 0
    · have h2 := HSF.out hL
      have HL := Lib.hid hL
      generalize (m.route a b).length = n at *
      have h0 : ((n : Int) == 0) = true := by rw [beq_iff_eq]; omega
      clear hL
      go_wp2_with fail
      go_meet
      exact ⟨rfl, HI⟩
    · generalize (m.route a b).length = n at *
      have h0 : (1 : Int) ≤ n := by omega
      clear hL
      go_wp2_with fail
      go_meet
      exact ⟨rfl, HI⟩
  case rest =>
    obtain ⟨rfl, HI⟩ := hcut
    clear HI0
    go_wp2_with fail
    go_loopg [8] ((m.route a b).length) (fun k i wr => ∃ t : Nat, t ≤ (m.route a b).length ∧ Hid (k + t = (m.route a b).length) ∧ i = .int .i64 t ∧ Hid (MB w wr p m M ∧ Rd wr noB 1 (.slice A3 (m.route a b).length n3) (m.route a b).length (icells (m.route a b))))
    case atStart => exact ⟨0, Nat.zero_le _, rfl, rfl, HI.out⟩
    case round =>
      obtain ⟨t, ht, HK, rfl, HT⟩ := hrel
      obtain ⟨kt, rfl⟩ : ∃ kt : Nat, kt = gk := ⟨_, rfl⟩
      clear HI
      by_cases hlt : t < (m.route a b).length
      · obtain ⟨lb, lo, rfl, r⟩ := HT.out.2.at_ (by omega)
        obtain ⟨u, hu⟩ : ∃ u, (m.route a b)[t]? = some u := ⟨_, List.getElem?_eq_getElem hlt⟩
        have HU := Lib.hid hu
        have HR := Lib.hid r
        clear r hu
        obtain ⟨n, hn⟩ : ∃ n, (m.route a b).length = n := ⟨_, rfl⟩
        have HN := Lib.hid hn
        clear hn
        go_upto_region 11 with (fail)
        go_cut [104] from 62 to 104 (fun v wx => v = .bool false ∧ Hid (MB w wx p m M ∧ Rd wx noB 1 (.slice (some ⟨lb, lo, none⟩) (m.route a b).length n3) (m.route a b).length (icells (m.route a b))))
        case first =>
          have HTd : Hid (MB w wr.drew p m M ∧ Rd wr.drew noB 1 (.slice (some ⟨lb, lo, none⟩) (m.route a b).length n3) (m.route a b).length (icells (m.route a b))) := ⟨HT.out.1.keep ((Same.refl noB wr).drew), HT.out.2.drew⟩
          have p0 : wr.drew.cell? ⟨lb, lo + t, none⟩ = some (.int .i64 u) := HR.out.cell t _ (icells_at HU.out)
          have HF : Hid ((t = 0 → (u != a) = false) ∧ (t + 1 = n → (u != b) = false)) := ⟨fun e => by
            subst e
            rw [HWY.out.fst u HU.out]
            simp, fun e => by
            rw [HWY.out.lst t u (by rw [HN.out]; exact e) HU.out]
            simp⟩
          obtain ⟨c0, c1, c2, c3, c4, c5, c6, c7, c8, c9, c10⟩ := HTd.out.1.all
          have hn := HN.out
          rw [hn] at hlt ht hlen hn31 ⊢
          rw [hn] at HTd HT
          have hw1 : IntKind.i64.wrap ((n : Int) - 1) = (n : Int) - 1 := IntWalk.i64_in _ ⟨by omega, by omega⟩
          clear hn HT
          have HEQ : Hid (t = 0 ∨ 0 < t) := by show _ ∨ _; omega
          have HEL : Hid (t + 1 = n ∨ t + 1 < n) := by show _ ∨ _; omega
          rcases HEQ.out with hz | hz <;> rcases HEL.out with hy | hy
          · have e0 : ((t : Int) == 0) = true := by rw [beq_iff_eq]; omega
            have g1 := HF.out.1 (by omega)
            have d0 : decide ((0 : Int) < (t : Int)) = false := by simp; omega
            have d1 : decide (0 < t) = false := by simp; omega
            have e1 : ((t : Int) == (n : Int) - 1) = true := by rw [beq_iff_eq]; omega
            have g2 := HF.out.2 (by omega)
            clear hz hy
            refine wp_region_held_drew (S := ShS M p m lb lo t u) (by kernel_rfl) ?_ (fun hHeld => ?_)
            · exact ⟨c0, c1, c2, c3, c4, c5, c6, c7, c8, c9, c10, p0⟩
            refine wpAnyH_take (i := 0) (v := ?v1x0) rfl (by kernel_rfl) (by kernel_rfl) (by kernel_rfl) (fun _ _ _ h => h) (Or.inl ⟨?_, ?_⟩) (by assumption) ?_
            rotate_left 1
            · rfl
            · (intro w hSw; (first | unfold ShS at hSw | unfold ShS1 at hSw); go_simp; (try with_reducible rfl))
            go_simp
            refine wpAnyH_take (i := 1) (v := ?v1x1) rfl (by kernel_rfl) (by kernel_rfl) (by kernel_rfl) (fun _ _ _ h => h) (Or.inl ⟨?_, ?_⟩) (by assumption) ?_
            rotate_left 1
            · rfl
            · (intro w hSw; (first | unfold ShS at hSw | unfold ShS1 at hSw); go_simp; (try with_reducible rfl))
            go_simp
            refine wpAnyH_take (i := 2) (v := ?v1x2) rfl (by kernel_rfl) (by kernel_rfl) (by kernel_rfl) (fun _ _ _ h => h) (Or.inl ⟨?_, ?_⟩) (by assumption) ?_
            rotate_left 1
            · rfl
            · (intro w hSw; (first | unfold ShS at hSw | unfold ShS1 at hSw); go_simp; (try with_reducible rfl))
            go_simp
            refine wpAnyH_take (i := 3) (v := ?v1x3) rfl (by kernel_rfl) (by kernel_rfl) (by kernel_rfl) (fun _ _ _ h => h) (Or.inl ⟨?_, ?_⟩) (by assumption) ?_
            rotate_left 1
            · rfl
            · (intro w hSw; (first | unfold ShS at hSw | unfold ShS1 at hSw); go_simp; (try with_reducible rfl))
            go_simp
            refine wpAnyH_take (i := 4) (v := ?v1x4) rfl (by kernel_rfl) (by kernel_rfl) (by kernel_rfl) (fun _ _ _ h => h) (Or.inl ⟨?_, ?_⟩) (by assumption) ?_
            rotate_left 1
            · rfl
            · (intro w hSw; (first | unfold ShS at hSw | unfold ShS1 at hSw); go_simp; (try with_reducible rfl))
            go_simp
            refine wpAnyH_take (i := 5) (v := ?v1x5) rfl (by kernel_rfl) (by kernel_rfl) (by kernel_rfl) (fun _ _ _ h => h) (Or.inl ⟨?_, ?_⟩) (by assumption) ?_
            rotate_left 1
            · rfl
            · (intro w hSw; (first | unfold ShS at hSw | unfold ShS1 at hSw); go_simp; (try with_reducible rfl))
            go_simp
            refine wpAnyH_take (i := 6) (v := ?v1x6) rfl (by kernel_rfl) (by kernel_rfl) (by kernel_rfl) (fun _ _ _ h => h) (Or.inl ⟨?_, ?_⟩) (by assumption) ?_
            rotate_left 1
            · rfl
            · (intro w hSw; (first | unfold ShS at hSw | unfold ShS1 at hSw); go_simp; (try with_reducible rfl))
            go_simp
            refine wpAnyH_take (i := 7) (v := ?v1x7) rfl (by kernel_rfl) (by kernel_rfl) (by kernel_rfl) (fun _ _ _ h => h) (Or.inl ⟨?_, ?_⟩) (by assumption) ?_
            rotate_left 1
            · rfl
            · (intro w hSw; (first | unfold ShS at hSw | unfold ShS1 at hSw); go_simp; (try with_reducible rfl))
            go_simp
            refine wpAnyH_take (i := 8) (v := ?v1x8) rfl (by kernel_rfl) (by kernel_rfl) (by kernel_rfl) (fun _ _ _ h => h) (Or.inl ⟨?_, ?_⟩) (by assumption) ?_
            rotate_left 1
            · rfl
            · (intro w hSw; (first | unfold ShS at hSw | unfold ShS1 at hSw); go_simp; (try with_reducible rfl))
            go_simp
            refine wpAnyH_take (i := 9) (v := ?v1x9) rfl (by kernel_rfl) (by kernel_rfl) (by kernel_rfl) (fun _ _ _ h => h) (Or.inl ⟨?_, ?_⟩) (by assumption) ?_
            rotate_left 1
            · rfl
            · (intro w hSw; (first | unfold ShS at hSw | unfold ShS1 at hSw); go_simp; (try with_reducible rfl))
            go_simp
            refine wpAnyH_take (i := 10) (v := ?v1x10) rfl (by kernel_rfl) (by kernel_rfl) (by kernel_rfl) (fun _ _ _ h => h) (Or.inl ⟨?_, ?_⟩) (by assumption) ?_
            rotate_left 1
            · rfl
            · (intro w hSw; (first | unfold ShS at hSw | unfold ShS1 at hSw); go_simp; (try with_reducible rfl))
            go_simp
            refine wpAnyH_take (i := 11) (v := ?v1x11) rfl (by kernel_rfl) (by kernel_rfl) (by kernel_rfl) (fun _ _ _ h => h) (Or.inl ⟨?_, ?_⟩) (by assumption) ?_
            rotate_left 1
            · rfl
            · (intro w hSw; (first | unfold ShS at hSw | unfold ShS1 at hSw); go_simp; (try with_reducible rfl))
            go_simp
            refine wpAnyH_take (i := 12) (v := ?v1x12) rfl (by kernel_rfl) (by kernel_rfl) (by kernel_rfl) (fun _ _ _ h => h) (Or.inl ⟨?_, ?_⟩) (by assumption) ?_
            rotate_left 1
            · rfl
            · (intro w hSw; (first | unfold ShS at hSw | unfold ShS1 at hSw); go_simp; (try with_reducible rfl))
            go_simp
            refine wpAnyH_take (i := 13) (v := ?v1x13) rfl (by kernel_rfl) (by kernel_rfl) (by kernel_rfl) (fun _ _ _ h => h) (Or.inl ⟨?_, ?_⟩) (by assumption) ?_
            rotate_left 1
            · rfl
            · (intro w hSw; (first | unfold ShS at hSw | unfold ShS1 at hSw); go_simp; (try with_reducible rfl))
            go_simp
            refine wpAnyH_take (i := 14) (v := ?v1x14) rfl (by kernel_rfl) (by kernel_rfl) (by kernel_rfl) (fun _ _ _ h => h) (Or.inl ⟨?_, ?_⟩) (by assumption) ?_
            rotate_left 1
            · rfl
            · (intro w hSw; (first | unfold ShS at hSw | unfold ShS1 at hSw); go_simp; (try with_reducible rfl))
            go_simp
            refine wpAnyH_take (i := 15) (v := ?v1x15) rfl (by kernel_rfl) (by kernel_rfl) (by kernel_rfl) (fun _ _ _ h => h) (Or.inl ⟨?_, ?_⟩) (by assumption) ?_
            rotate_left 1
            · rfl
            · (intro w hSw; (first | unfold ShS at hSw | unfold ShS1 at hSw); go_simp; (try with_reducible rfl))
            go_simp
            refine wpAnyH_take (i := 16) (v := ?v1x16) rfl (by kernel_rfl) (by kernel_rfl) (by kernel_rfl) (fun _ _ _ h => h) (Or.inl ⟨?_, ?_⟩) (by assumption) ?_
            rotate_left 1
            · rfl
            · (intro w hSw; (first | unfold ShS at hSw | unfold ShS1 at hSw); go_simp; (try with_reducible rfl))
            go_simp
            refine wpAnyH_take (i := 17) (v := ?v1x17) rfl (by kernel_rfl) (by kernel_rfl) (by kernel_rfl) (fun _ _ _ h => h) (Or.inl ⟨?_, ?_⟩) (by assumption) ?_
            rotate_left 1
            · rfl
            · (intro w hSw; (first | unfold ShS at hSw | unfold ShS1 at hSw); go_simp; (try with_reducible rfl))
            go_simp
            refine wpAnyH_take (i := 18) (v := ?v1x18) rfl (by kernel_rfl) (by kernel_rfl) (by kernel_rfl) (fun _ _ _ h => h) (Or.inl ⟨?_, ?_⟩) (by assumption) ?_
            rotate_left 1
            · rfl
            · (intro w hSw; (first | unfold ShS at hSw | unfold ShS1 at hSw); go_simp; (try with_reducible rfl))
            go_simp
            refine wpAnyH_take (i := 19) (v := ?v1x19) rfl (by kernel_rfl) (by kernel_rfl) (by kernel_rfl) (fun _ _ _ h => h) (Or.inl ⟨?_, ?_⟩) (by assumption) ?_
            rotate_left 1
            · rfl
            · (intro w hSw; (first | unfold ShS at hSw | unfold ShS1 at hSw); go_simp; (try with_reducible rfl))
            go_simp
            refine wpAnyH_take (i := 20) (v := ?v1x20) rfl (by kernel_rfl) (by kernel_rfl) (by kernel_rfl) (fun _ _ _ h => h) (Or.inl ⟨?_, ?_⟩) (by assumption) ?_
            rotate_left 1
            · rfl
            · (intro w hSw; (first | unfold ShS at hSw | unfold ShS1 at hSw); go_simp; (try with_reducible rfl))
            go_simp
            refine wpAnyH_take (i := 21) (v := ?v1x21) rfl (by kernel_rfl) (by kernel_rfl) (by kernel_rfl) (fun _ _ _ h => h) (Or.inl ⟨?_, ?_⟩) (by assumption) ?_
            rotate_left 1
            · rfl
            · (intro w hSw; (first | unfold ShS at hSw | unfold ShS1 at hSw); go_simp; (try with_reducible rfl))
            go_simp
            refine wpAnyH_take (i := 22) (v := ?v1x22) rfl (by kernel_rfl) (by kernel_rfl) (by kernel_rfl) (fun _ _ _ h => h) (Or.inl ⟨?_, ?_⟩) (by assumption) ?_
            rotate_left 1
            · rfl
            · (intro w hSw; (first | unfold ShS at hSw | unfold ShS1 at hSw); go_simp; (try with_reducible rfl))
            go_simp
            refine wpAnyH_take (i := 23) (v := ?v1x23) rfl (by kernel_rfl) (by kernel_rfl) (by kernel_rfl) (fun _ _ _ h => h) (Or.inl ⟨?_, ?_⟩) (by assumption) ?_
            rotate_left 1
            · rfl
            · (intro w hSw; (first | unfold ShS at hSw | unfold ShS1 at hSw); go_simp; (try with_reducible rfl))
            go_simp
            refine wpAnyH_take (i := 24) (v := ?v1x24) rfl (by kernel_rfl) (by kernel_rfl) (by kernel_rfl) (fun _ _ _ h => h) (Or.inl ⟨?_, ?_⟩) (by assumption) ?_
            rotate_left 1
            · rfl
            · (intro w hSw; (first | unfold ShS at hSw | unfold ShS1 at hSw); go_simp; (try with_reducible rfl))
            go_simp
            refine wpAnyH_take (i := 25) (v := ?v1x25) rfl (by kernel_rfl) (by kernel_rfl) (by kernel_rfl) (fun _ _ _ h => h) (Or.inl ⟨?_, ?_⟩) (by assumption) ?_
            rotate_left 1
            · rfl
            · (intro w hSw; (first | unfold ShS at hSw | unfold ShS1 at hSw); go_simp; (try with_reducible rfl))
            go_simp
            refine wpAnyH_take (i := 26) (v := ?v1x26) rfl (by kernel_rfl) (by kernel_rfl) (by kernel_rfl) (fun _ _ _ h => h) (Or.inl ⟨?_, ?_⟩) (by assumption) ?_
            rotate_left 1
            · rfl
            · (intro w hSw; (first | unfold ShS at hSw | unfold ShS1 at hSw); go_simp; (try with_reducible rfl))
            go_simp
            refine wpAnyH_take (i := 27) (v := ?v1x27) rfl (by kernel_rfl) (by kernel_rfl) (by kernel_rfl) (fun _ _ _ h => h) (Or.inl ⟨?_, ?_⟩) (by assumption) ?_
            rotate_left 1
            · rfl
            · (intro w hSw; (first | unfold ShS at hSw | unfold ShS1 at hSw); go_simp; (try with_reducible rfl))
            go_simp
            refine wpAnyH_take (i := 28) (v := ?v1x28) rfl (by kernel_rfl) (by kernel_rfl) (by kernel_rfl) (fun _ _ _ h => h) (Or.inl ⟨?_, ?_⟩) (by assumption) ?_
            rotate_left 1
            · rfl
            · (intro w hSw; (first | unfold ShS at hSw | unfold ShS1 at hSw); go_simp; (try with_reducible rfl))
            go_simp
            refine wpAnyH_take (i := 29) (v := undef) rfl (by kernel_rfl) (by kernel_rfl) (by kernel_rfl) (fun _ _ _ h => h) (Or.inr ⟨?_, rfl⟩) (by assumption) ?_
            · rfl
            go_simp
            refine wpAnyH_take (i := 30) (v := undef) rfl (by kernel_rfl) (by kernel_rfl) (by kernel_rfl) (fun _ _ _ h => h) (Or.inr ⟨?_, rfl⟩) (by assumption) ?_
            · rfl
            go_simp
            refine wpAnyH_take (i := 31) (v := undef) rfl (by kernel_rfl) (by kernel_rfl) (by kernel_rfl) (fun _ _ _ h => h) (Or.inr ⟨?_, rfl⟩) (by assumption) ?_
            · rfl
            go_simp
            refine wpAnyH_take (i := 32) (v := undef) rfl (by kernel_rfl) (by kernel_rfl) (by kernel_rfl) (fun _ _ _ h => h) (Or.inr ⟨?_, rfl⟩) (by assumption) ?_
            · rfl
            go_simp
            refine wpAnyH_take (i := 33) (v := undef) rfl (by kernel_rfl) (by kernel_rfl) (by kernel_rfl) (fun _ _ _ h => h) (Or.inr ⟨?_, rfl⟩) (by assumption) ?_
            · rfl
            go_simp
            refine wpAnyH_take (i := 34) (v := undef) rfl (by kernel_rfl) (by kernel_rfl) (by kernel_rfl) (fun _ _ _ h => h) (Or.inr ⟨?_, rfl⟩) (by assumption) ?_
            · rfl
            go_simp
            refine wpAnyH_take (i := 35) (v := undef) rfl (by kernel_rfl) (by kernel_rfl) (by kernel_rfl) (fun _ _ _ h => h) (Or.inr ⟨?_, rfl⟩) (by assumption) ?_
            · rfl
            go_simp
            refine wpAnyH_take (i := 36) (v := undef) rfl (by kernel_rfl) (by kernel_rfl) (by kernel_rfl) (fun _ _ _ h => h) (Or.inr ⟨?_, rfl⟩) (by assumption) ?_
            · rfl
            go_simp
            refine wpAnyH_take (i := 37) (v := undef) rfl (by kernel_rfl) (by kernel_rfl) (by kernel_rfl) (fun _ _ _ h => h) (Or.inr ⟨?_, rfl⟩) (by assumption) ?_
            · rfl
            go_simp
            refine wpAnyH_take (i := 38) (v := undef) rfl (by kernel_rfl) (by kernel_rfl) (by kernel_rfl) (fun _ _ _ h => h) (Or.inr ⟨?_, rfl⟩) (by assumption) ?_
            · rfl
            go_simp
            refine wpAnyH_take (i := 39) (v := undef) rfl (by kernel_rfl) (by kernel_rfl) (by kernel_rfl) (fun _ _ _ h => h) (Or.inr ⟨?_, rfl⟩) (by assumption) ?_
            · rfl
            go_simp
            refine wpAnyH_take (i := 40) (v := undef) rfl (by kernel_rfl) (by kernel_rfl) (by kernel_rfl) (fun _ _ _ h => h) (Or.inr ⟨?_, rfl⟩) (by assumption) ?_
            · rfl
            go_simp
            refine wpAnyH_take (i := 41) (v := ?v1x41) rfl (by kernel_rfl) (by kernel_rfl) (by kernel_rfl) (fun _ _ _ h => h) (Or.inl ⟨?_, ?_⟩) (by assumption) ?_
            rotate_left 1
            · rfl
            · (intro w hSw; (first | unfold ShS at hSw | unfold ShS1 at hSw); go_simp; (try with_reducible rfl))
            go_simp
            refine wpAnyH_take (i := 42) (v := ?v1x42) rfl (by kernel_rfl) (by kernel_rfl) (by kernel_rfl) (fun _ _ _ h => h) (Or.inl ⟨?_, ?_⟩) (by assumption) ?_
            rotate_left 1
            · rfl
            · (intro w hSw; (first | unfold ShS at hSw | unfold ShS1 at hSw); go_simp; (try with_reducible rfl))
            go_simp
            refine wpAnyH_done (by kernel_rfl) ?_ _
            go_wp2_with fail
            rw [← HN.out]
            go_meet
            exact ⟨rfl, HTd.out.1, by rw [HN.out]; exact HTd.out.2⟩
          · have e0 : ((t : Int) == 0) = true := by rw [beq_iff_eq]; omega
            have g1 := HF.out.1 (by omega)
            have d0 : decide ((0 : Int) < (t : Int)) = false := by simp; omega
            have d1 : decide (0 < t) = false := by simp; omega
            have e1 : ((t : Int) == (n : Int) - 1) = false := by rw [beq_eq_false_iff_ne]; omega
            clear hz hy
            refine wp_region_held_drew (S := ShS M p m lb lo t u) (by kernel_rfl) ?_ (fun hHeld => ?_)
            · exact ⟨c0, c1, c2, c3, c4, c5, c6, c7, c8, c9, c10, p0⟩
            refine wpAnyH_take (i := 0) (v := ?v2x0) rfl (by kernel_rfl) (by kernel_rfl) (by kernel_rfl) (fun _ _ _ h => h) (Or.inl ⟨?_, ?_⟩) (by assumption) ?_
            rotate_left 1
            · rfl
            · (intro w hSw; (first | unfold ShS at hSw | unfold ShS1 at hSw); go_simp; (try with_reducible rfl))
            go_simp
            refine wpAnyH_take (i := 1) (v := ?v2x1) rfl (by kernel_rfl) (by kernel_rfl) (by kernel_rfl) (fun _ _ _ h => h) (Or.inl ⟨?_, ?_⟩) (by assumption) ?_
            rotate_left 1
            · rfl
            · (intro w hSw; (first | unfold ShS at hSw | unfold ShS1 at hSw); go_simp; (try with_reducible rfl))
            go_simp
            refine wpAnyH_take (i := 2) (v := ?v2x2) rfl (by kernel_rfl) (by kernel_rfl) (by kernel_rfl) (fun _ _ _ h => h) (Or.inl ⟨?_, ?_⟩) (by assumption) ?_
            rotate_left 1
            · rfl
            · (intro w hSw; (first | unfold ShS at hSw | unfold ShS1 at hSw); go_simp; (try with_reducible rfl))
            go_simp
            refine wpAnyH_take (i := 3) (v := ?v2x3) rfl (by kernel_rfl) (by kernel_rfl) (by kernel_rfl) (fun _ _ _ h => h) (Or.inl ⟨?_, ?_⟩) (by assumption) ?_
            rotate_left 1
            · rfl
            · (intro w hSw; (first | unfold ShS at hSw | unfold ShS1 at hSw); go_simp; (try with_reducible rfl))
            go_simp
            refine wpAnyH_take (i := 4) (v := ?v2x4) rfl (by kernel_rfl) (by kernel_rfl) (by kernel_rfl) (fun _ _ _ h => h) (Or.inl ⟨?_, ?_⟩) (by assumption) ?_
            rotate_left 1
            · rfl
            · (intro w hSw; (first | unfold ShS at hSw | unfold ShS1 at hSw); go_simp; (try with_reducible rfl))
            go_simp
            refine wpAnyH_take (i := 5) (v := ?v2x5) rfl (by kernel_rfl) (by kernel_rfl) (by kernel_rfl) (fun _ _ _ h => h) (Or.inl ⟨?_, ?_⟩) (by assumption) ?_
            rotate_left 1
            · rfl
            · (intro w hSw; (first | unfold ShS at hSw | unfold ShS1 at hSw); go_simp; (try with_reducible rfl))
            go_simp
            refine wpAnyH_take (i := 6) (v := ?v2x6) rfl (by kernel_rfl) (by kernel_rfl) (by kernel_rfl) (fun _ _ _ h => h) (Or.inl ⟨?_, ?_⟩) (by assumption) ?_
            rotate_left 1
            · rfl
            · (intro w hSw; (first | unfold ShS at hSw | unfold ShS1 at hSw); go_simp; (try with_reducible rfl))
            go_simp
            refine wpAnyH_take (i := 7) (v := ?v2x7) rfl (by kernel_rfl) (by kernel_rfl) (by kernel_rfl) (fun _ _ _ h => h) (Or.inl ⟨?_, ?_⟩) (by assumption) ?_
            rotate_left 1
            · rfl
            · (intro w hSw; (first | unfold ShS at hSw | unfold ShS1 at hSw); go_simp; (try with_reducible rfl))
            go_simp
            refine wpAnyH_take (i := 8) (v := ?v2x8) rfl (by kernel_rfl) (by kernel_rfl) (by kernel_rfl) (fun _ _ _ h => h) (Or.inl ⟨?_, ?_⟩) (by assumption) ?_
            rotate_left 1
            · rfl
            · (intro w hSw; (first | unfold ShS at hSw | unfold ShS1 at hSw); go_simp; (try with_reducible rfl))
            go_simp
            refine wpAnyH_take (i := 9) (v := ?v2x9) rfl (by kernel_rfl) (by kernel_rfl) (by kernel_rfl) (fun _ _ _ h => h) (Or.inl ⟨?_, ?_⟩) (by assumption) ?_
            rotate_left 1
            · rfl
            · (intro w hSw; (first | unfold ShS at hSw | unfold ShS1 at hSw); go_simp; (try with_reducible rfl))
            go_simp
            refine wpAnyH_take (i := 10) (v := ?v2x10) rfl (by kernel_rfl) (by kernel_rfl) (by kernel_rfl) (fun _ _ _ h => h) (Or.inl ⟨?_, ?_⟩) (by assumption) ?_
            rotate_left 1
            · rfl
            · (intro w hSw; (first | unfold ShS at hSw | unfold ShS1 at hSw); go_simp; (try with_reducible rfl))
            go_simp
            refine wpAnyH_take (i := 11) (v := ?v2x11) rfl (by kernel_rfl) (by kernel_rfl) (by kernel_rfl) (fun _ _ _ h => h) (Or.inl ⟨?_, ?_⟩) (by assumption) ?_
            rotate_left 1
            · rfl
            · (intro w hSw; (first | unfold ShS at hSw | unfold ShS1 at hSw); go_simp; (try with_reducible rfl))
            go_simp
            refine wpAnyH_take (i := 12) (v := ?v2x12) rfl (by kernel_rfl) (by kernel_rfl) (by kernel_rfl) (fun _ _ _ h => h) (Or.inl ⟨?_, ?_⟩) (by assumption) ?_
            rotate_left 1
            · rfl
            · (intro w hSw; (first | unfold ShS at hSw | unfold ShS1 at hSw); go_simp; (try with_reducible rfl))
            go_simp
            refine wpAnyH_take (i := 13) (v := ?v2x13) rfl (by kernel_rfl) (by kernel_rfl) (by kernel_rfl) (fun _ _ _ h => h) (Or.inl ⟨?_, ?_⟩) (by assumption) ?_
            rotate_left 1
            · rfl
            · (intro w hSw; (first | unfold ShS at hSw | unfold ShS1 at hSw); go_simp; (try with_reducible rfl))
            go_simp
            refine wpAnyH_take (i := 14) (v := ?v2x14) rfl (by kernel_rfl) (by kernel_rfl) (by kernel_rfl) (fun _ _ _ h => h) (Or.inl ⟨?_, ?_⟩) (by assumption) ?_
            rotate_left 1
            · rfl
            · (intro w hSw; (first | unfold ShS at hSw | unfold ShS1 at hSw); go_simp; (try with_reducible rfl))
            go_simp
            refine wpAnyH_take (i := 15) (v := ?v2x15) rfl (by kernel_rfl) (by kernel_rfl) (by kernel_rfl) (fun _ _ _ h => h) (Or.inl ⟨?_, ?_⟩) (by assumption) ?_
            rotate_left 1
            · rfl
            · (intro w hSw; (first | unfold ShS at hSw | unfold ShS1 at hSw); go_simp; (try with_reducible rfl))
            go_simp
            refine wpAnyH_take (i := 16) (v := ?v2x16) rfl (by kernel_rfl) (by kernel_rfl) (by kernel_rfl) (fun _ _ _ h => h) (Or.inl ⟨?_, ?_⟩) (by assumption) ?_
            rotate_left 1
            · rfl
            · (intro w hSw; (first | unfold ShS at hSw | unfold ShS1 at hSw); go_simp; (try with_reducible rfl))
            go_simp
            refine wpAnyH_take (i := 17) (v := undef) rfl (by kernel_rfl) (by kernel_rfl) (by kernel_rfl) (fun _ _ _ h => h) (Or.inr ⟨?_, rfl⟩) (by assumption) ?_
            · rfl
            go_simp
            refine wpAnyH_take (i := 18) (v := undef) rfl (by kernel_rfl) (by kernel_rfl) (by kernel_rfl) (fun _ _ _ h => h) (Or.inr ⟨?_, rfl⟩) (by assumption) ?_
            · rfl
            go_simp
            refine wpAnyH_take (i := 19) (v := undef) rfl (by kernel_rfl) (by kernel_rfl) (by kernel_rfl) (fun _ _ _ h => h) (Or.inr ⟨?_, rfl⟩) (by assumption) ?_
            · rfl
            go_simp
            refine wpAnyH_take (i := 20) (v := undef) rfl (by kernel_rfl) (by kernel_rfl) (by kernel_rfl) (fun _ _ _ h => h) (Or.inr ⟨?_, rfl⟩) (by assumption) ?_
            · rfl
            go_simp
            refine wpAnyH_take (i := 21) (v := undef) rfl (by kernel_rfl) (by kernel_rfl) (by kernel_rfl) (fun _ _ _ h => h) (Or.inr ⟨?_, rfl⟩) (by assumption) ?_
            · rfl
            go_simp
            refine wpAnyH_take (i := 22) (v := undef) rfl (by kernel_rfl) (by kernel_rfl) (by kernel_rfl) (fun _ _ _ h => h) (Or.inr ⟨?_, rfl⟩) (by assumption) ?_
            · rfl
            go_simp
            refine wpAnyH_take (i := 23) (v := ?v2x23) rfl (by kernel_rfl) (by kernel_rfl) (by kernel_rfl) (fun _ _ _ h => h) (Or.inl ⟨?_, ?_⟩) (by assumption) ?_
            rotate_left 1
            · rfl
            · (intro w hSw; (first | unfold ShS at hSw | unfold ShS1 at hSw); go_simp; (try with_reducible rfl))
            go_simp
            refine wpAnyH_take (i := 24) (v := ?v2x24) rfl (by kernel_rfl) (by kernel_rfl) (by kernel_rfl) (fun _ _ _ h => h) (Or.inl ⟨?_, ?_⟩) (by assumption) ?_
            rotate_left 1
            · rfl
            · (intro w hSw; (first | unfold ShS at hSw | unfold ShS1 at hSw); go_simp; (try with_reducible rfl))
            go_simp
            refine wpAnyH_take (i := 25) (v := ?v2x25) rfl (by kernel_rfl) (by kernel_rfl) (by kernel_rfl) (fun _ _ _ h => h) (Or.inl ⟨?_, ?_⟩) (by assumption) ?_
            rotate_left 1
            · rfl
            · (intro w hSw; (first | unfold ShS at hSw | unfold ShS1 at hSw); go_simp; (try with_reducible rfl))
            go_simp
            refine wpAnyH_take (i := 26) (v := ?v2x26) rfl (by kernel_rfl) (by kernel_rfl) (by kernel_rfl) (fun _ _ _ h => h) (Or.inl ⟨?_, ?_⟩) (by assumption) ?_
            rotate_left 1
            · rfl
            · (intro w hSw; (first | unfold ShS at hSw | unfold ShS1 at hSw); go_simp; (try with_reducible rfl))
            go_simp
            refine wpAnyH_take (i := 27) (v := ?v2x27) rfl (by kernel_rfl) (by kernel_rfl) (by kernel_rfl) (fun _ _ _ h => h) (Or.inl ⟨?_, ?_⟩) (by assumption) ?_
            rotate_left 1
            · rfl
            · (intro w hSw; (first | unfold ShS at hSw | unfold ShS1 at hSw); go_simp; (try with_reducible rfl))
            go_simp
            refine wpAnyH_take (i := 28) (v := ?v2x28) rfl (by kernel_rfl) (by kernel_rfl) (by kernel_rfl) (fun _ _ _ h => h) (Or.inl ⟨?_, ?_⟩) (by assumption) ?_
            rotate_left 1
            · rfl
            · (intro w hSw; (first | unfold ShS at hSw | unfold ShS1 at hSw); go_simp; (try with_reducible rfl))
            go_simp
            refine wpAnyH_take (i := 29) (v := undef) rfl (by kernel_rfl) (by kernel_rfl) (by kernel_rfl) (fun _ _ _ h => h) (Or.inr ⟨?_, rfl⟩) (by assumption) ?_
            · rfl
            go_simp
            refine wpAnyH_take (i := 30) (v := undef) rfl (by kernel_rfl) (by kernel_rfl) (by kernel_rfl) (fun _ _ _ h => h) (Or.inr ⟨?_, rfl⟩) (by assumption) ?_
            · rfl
            go_simp
            refine wpAnyH_take (i := 31) (v := undef) rfl (by kernel_rfl) (by kernel_rfl) (by kernel_rfl) (fun _ _ _ h => h) (Or.inr ⟨?_, rfl⟩) (by assumption) ?_
            · rfl
            go_simp
            refine wpAnyH_take (i := 32) (v := undef) rfl (by kernel_rfl) (by kernel_rfl) (by kernel_rfl) (fun _ _ _ h => h) (Or.inr ⟨?_, rfl⟩) (by assumption) ?_
            · rfl
            go_simp
            refine wpAnyH_take (i := 33) (v := undef) rfl (by kernel_rfl) (by kernel_rfl) (by kernel_rfl) (fun _ _ _ h => h) (Or.inr ⟨?_, rfl⟩) (by assumption) ?_
            · rfl
            go_simp
            refine wpAnyH_take (i := 34) (v := undef) rfl (by kernel_rfl) (by kernel_rfl) (by kernel_rfl) (fun _ _ _ h => h) (Or.inr ⟨?_, rfl⟩) (by assumption) ?_
            · rfl
            go_simp
            refine wpAnyH_take (i := 35) (v := undef) rfl (by kernel_rfl) (by kernel_rfl) (by kernel_rfl) (fun _ _ _ h => h) (Or.inr ⟨?_, rfl⟩) (by assumption) ?_
            · rfl
            go_simp
            refine wpAnyH_take (i := 36) (v := undef) rfl (by kernel_rfl) (by kernel_rfl) (by kernel_rfl) (fun _ _ _ h => h) (Or.inr ⟨?_, rfl⟩) (by assumption) ?_
            · rfl
            go_simp
            refine wpAnyH_take (i := 37) (v := undef) rfl (by kernel_rfl) (by kernel_rfl) (by kernel_rfl) (fun _ _ _ h => h) (Or.inr ⟨?_, rfl⟩) (by assumption) ?_
            · rfl
            go_simp
            refine wpAnyH_take (i := 38) (v := undef) rfl (by kernel_rfl) (by kernel_rfl) (by kernel_rfl) (fun _ _ _ h => h) (Or.inr ⟨?_, rfl⟩) (by assumption) ?_
            · rfl
            go_simp
            refine wpAnyH_take (i := 39) (v := undef) rfl (by kernel_rfl) (by kernel_rfl) (by kernel_rfl) (fun _ _ _ h => h) (Or.inr ⟨?_, rfl⟩) (by assumption) ?_
            · rfl
            go_simp
            refine wpAnyH_take (i := 40) (v := undef) rfl (by kernel_rfl) (by kernel_rfl) (by kernel_rfl) (fun _ _ _ h => h) (Or.inr ⟨?_, rfl⟩) (by assumption) ?_
            · rfl
            go_simp
            refine wpAnyH_take (i := 41) (v := ?v2x41) rfl (by kernel_rfl) (by kernel_rfl) (by kernel_rfl) (fun _ _ _ h => h) (Or.inl ⟨?_, ?_⟩) (by assumption) ?_
            rotate_left 1
            · rfl
            · (intro w hSw; (first | unfold ShS at hSw | unfold ShS1 at hSw); go_simp; (try with_reducible rfl))
            go_simp
            refine wpAnyH_take (i := 42) (v := ?v2x42) rfl (by kernel_rfl) (by kernel_rfl) (by kernel_rfl) (fun _ _ _ h => h) (Or.inl ⟨?_, ?_⟩) (by assumption) ?_
            rotate_left 1
            · rfl
            · (intro w hSw; (first | unfold ShS at hSw | unfold ShS1 at hSw); go_simp; (try with_reducible rfl))
            go_simp
            refine wpAnyH_done (by kernel_rfl) ?_ _
            go_wp2_with fail
            rw [← HN.out]
            go_meet
            exact ⟨rfl, HTd.out.1, by rw [HN.out]; exact HTd.out.2⟩
          · have e0 : ((t : Int) == 0) = false := by rw [beq_eq_false_iff_ne]; omega
            obtain ⟨u1, hu1⟩ : ∃ u1, (m.route a b)[t - 1]? = some u1 := ⟨_, List.getElem?_eq_getElem (by rw [HN.out]; omega)⟩
            have p1 : wr.drew.cell? ⟨lb, lo + (t - 1), none⟩ = some (.int .i64 u1) := HR.out.cell (t - 1) _ (icells_at hu1)
            have HLK : Hid ((m.link u1 u == 0) = false) := by have h1 := HWY.out.step (t - 1) u1 u hu1 (by rw [show t - 1 + 1 = t from by omega]; exact HU.out); show _ = _; rw [beq_eq_false_iff_ne]; omega
            have hw2 : IntKind.i64.wrap ((t : Int) - 1) = (t : Int) - 1 := IntWalk.i64_in _ ⟨by omega, by omega⟩
            have ht1 : (1 : Int) ≤ (t : Int) := by omega
            have hb2 : (t : Int) - 1 < (n : Int) := by omega
            have d0 : decide ((0 : Int) < (t : Int)) = true := by simp; omega
            have d1 : decide (0 < t) = true := by simp; omega
            clear hu1
            have e1 : ((t : Int) == (n : Int) - 1) = true := by rw [beq_iff_eq]; omega
            have g2 := HF.out.2 (by omega)
            clear hz hy
            refine wp_region_held_drew (S := ShS1 M p m lb lo t u u1) (by kernel_rfl) ?_ (fun hHeld => ?_)
            · exact ⟨c0, c1, c2, c3, c4, c5, c6, c7, c8, c9, c10, p0, p1⟩
            refine wpAnyH_take (i := 0) (v := ?v3x0) rfl (by kernel_rfl) (by kernel_rfl) (by kernel_rfl) (fun _ _ _ h => h) (Or.inl ⟨?_, ?_⟩) (by assumption) ?_
            rotate_left 1
            · rfl
            · (intro w hSw; (first | unfold ShS at hSw | unfold ShS1 at hSw); go_simp; (try with_reducible rfl))
            go_simp
            refine wpAnyH_take (i := 1) (v := ?v3x1) rfl (by kernel_rfl) (by kernel_rfl) (by kernel_rfl) (fun _ _ _ h => h) (Or.inl ⟨?_, ?_⟩) (by assumption) ?_
            rotate_left 1
            · rfl
            · (intro w hSw; (first | unfold ShS at hSw | unfold ShS1 at hSw); go_simp; (try with_reducible rfl))
            go_simp
            refine wpAnyH_take (i := 2) (v := ?v3x2) rfl (by kernel_rfl) (by kernel_rfl) (by kernel_rfl) (fun _ _ _ h => h) (Or.inl ⟨?_, ?_⟩) (by assumption) ?_
            rotate_left 1
            · rfl
            · (intro w hSw; (first | unfold ShS at hSw | unfold ShS1 at hSw); go_simp; (try with_reducible rfl))
            go_simp
            refine wpAnyH_take (i := 3) (v := undef) rfl (by kernel_rfl) (by kernel_rfl) (by kernel_rfl) (fun _ _ _ h => h) (Or.inr ⟨?_, rfl⟩) (by assumption) ?_
            · rfl
            go_simp
            refine wpAnyH_take (i := 4) (v := undef) rfl (by kernel_rfl) (by kernel_rfl) (by kernel_rfl) (fun _ _ _ h => h) (Or.inr ⟨?_, rfl⟩) (by assumption) ?_
            · rfl
            go_simp
            refine wpAnyH_take (i := 5) (v := undef) rfl (by kernel_rfl) (by kernel_rfl) (by kernel_rfl) (fun _ _ _ h => h) (Or.inr ⟨?_, rfl⟩) (by assumption) ?_
            · rfl
            go_simp
            refine wpAnyH_take (i := 6) (v := undef) rfl (by kernel_rfl) (by kernel_rfl) (by kernel_rfl) (fun _ _ _ h => h) (Or.inr ⟨?_, rfl⟩) (by assumption) ?_
            · rfl
            go_simp
            refine wpAnyH_take (i := 7) (v := undef) rfl (by kernel_rfl) (by kernel_rfl) (by kernel_rfl) (fun _ _ _ h => h) (Or.inr ⟨?_, rfl⟩) (by assumption) ?_
            · rfl
            go_simp
            refine wpAnyH_take (i := 8) (v := undef) rfl (by kernel_rfl) (by kernel_rfl) (by kernel_rfl) (fun _ _ _ h => h) (Or.inr ⟨?_, rfl⟩) (by assumption) ?_
            · rfl
            go_simp
            refine wpAnyH_take (i := 9) (v := ?v3x9) rfl (by kernel_rfl) (by kernel_rfl) (by kernel_rfl) (fun _ _ _ h => h) (Or.inl ⟨?_, ?_⟩) (by assumption) ?_
            rotate_left 1
            · rfl
            · (intro w hSw; (first | unfold ShS at hSw | unfold ShS1 at hSw); go_simp; (try with_reducible rfl))
            go_simp
            refine wpAnyH_take (i := 10) (v := ?v3x10) rfl (by kernel_rfl) (by kernel_rfl) (by kernel_rfl) (fun _ _ _ h => h) (Or.inl ⟨?_, ?_⟩) (by assumption) ?_
            rotate_left 1
            · rfl
            · (intro w hSw; (first | unfold ShS at hSw | unfold ShS1 at hSw); go_simp; (try with_reducible rfl))
            go_simp
            refine wpAnyH_take (i := 11) (v := ?v3x11) rfl (by kernel_rfl) (by kernel_rfl) (by kernel_rfl) (fun _ _ _ h => h) (Or.inl ⟨?_, ?_⟩) (by assumption) ?_
            rotate_left 1
            · rfl
            · (intro w hSw; (first | unfold ShS at hSw | unfold ShS1 at hSw); go_simp; (try with_reducible rfl))
            go_simp
            refine wpAnyH_take (i := 12) (v := ?v3x12) rfl (by kernel_rfl) (by kernel_rfl) (by kernel_rfl) (fun _ _ _ h => h) (Or.inl ⟨?_, ?_⟩) (by assumption) ?_
            rotate_left 1
            · rfl
            · (intro w hSw; (first | unfold ShS at hSw | unfold ShS1 at hSw); go_simp; (try with_reducible rfl))
            go_simp
            refine wpAnyH_take (i := 13) (v := ?v3x13) rfl (by kernel_rfl) (by kernel_rfl) (by kernel_rfl) (fun _ _ _ h => h) (Or.inl ⟨?_, ?_⟩) (by assumption) ?_
            rotate_left 1
            · rfl
            · (intro w hSw; (first | unfold ShS at hSw | unfold ShS1 at hSw); go_simp; (try with_reducible rfl))
            go_simp
            refine wpAnyH_take (i := 14) (v := ?v3x14) rfl (by kernel_rfl) (by kernel_rfl) (by kernel_rfl) (fun _ _ _ h => h) (Or.inl ⟨?_, ?_⟩) (by assumption) ?_
            rotate_left 1
            · rfl
            · (intro w hSw; (first | unfold ShS at hSw | unfold ShS1 at hSw); go_simp; (try with_reducible rfl))
            go_simp
            refine wpAnyH_take (i := 15) (v := ?v3x15) rfl (by kernel_rfl) (by kernel_rfl) (by kernel_rfl) (fun _ _ _ h => h) (Or.inl ⟨?_, ?_⟩) (by assumption) ?_
            rotate_left 1
            · rfl
            · (intro w hSw; (first | unfold ShS at hSw | unfold ShS1 at hSw); go_simp; (try with_reducible rfl))
            go_simp
            refine wpAnyH_take (i := 16) (v := ?v3x16) rfl (by kernel_rfl) (by kernel_rfl) (by kernel_rfl) (fun _ _ _ h => h) (Or.inl ⟨?_, ?_⟩) (by assumption) ?_
            rotate_left 1
            · rfl
            · (intro w hSw; (first | unfold ShS at hSw | unfold ShS1 at hSw); go_simp; (try with_reducible rfl))
            go_simp
            refine wpAnyH_take (i := 17) (v := ?v3x17) rfl (by kernel_rfl) (by kernel_rfl) (by kernel_rfl) (fun _ _ _ h => h) (Or.inl ⟨?_, ?_⟩) (by assumption) ?_
            rotate_left 1
            · rfl
            · (intro w hSw; (first | unfold ShS at hSw | unfold ShS1 at hSw); go_simp; (try with_reducible rfl))
            go_simp
            refine wpAnyH_take (i := 18) (v := ?v3x18) rfl (by kernel_rfl) (by kernel_rfl) (by kernel_rfl) (fun _ _ _ h => h) (Or.inl ⟨?_, ?_⟩) (by assumption) ?_
            rotate_left 1
            · rfl
            · (intro w hSw; (first | unfold ShS at hSw | unfold ShS1 at hSw); go_simp; (try with_reducible rfl))
            go_simp
            refine wpAnyH_take (i := 19) (v := ?v3x19) rfl (by kernel_rfl) (by kernel_rfl) (by kernel_rfl) (fun _ _ _ h => h) (Or.inl ⟨?_, ?_⟩) (by assumption) ?_
            rotate_left 1
            · rfl
            · (intro w hSw; (first | unfold ShS at hSw | unfold ShS1 at hSw); go_simp; (try with_reducible rfl))
            go_simp
            refine wpAnyH_take (i := 20) (v := ?v3x20) rfl (by kernel_rfl) (by kernel_rfl) (by kernel_rfl) (fun _ _ _ h => h) (Or.inl ⟨?_, ?_⟩) (by assumption) ?_
            rotate_left 1
            · rfl
            · (intro w hSw; (first | unfold ShS at hSw | unfold ShS1 at hSw); go_simp; (try with_reducible rfl))
            go_simp
            refine wpAnyH_take (i := 21) (v := ?v3x21) rfl (by kernel_rfl) (by kernel_rfl) (by kernel_rfl) (fun _ _ _ h => h) (Or.inl ⟨?_, ?_⟩) (by assumption) ?_
            rotate_left 1
            · rfl
            · (intro w hSw; (first | unfold ShS at hSw | unfold ShS1 at hSw); go_simp; (try with_reducible rfl))
            go_simp
            refine wpAnyH_take (i := 22) (v := ?v3x22) rfl (by kernel_rfl) (by kernel_rfl) (by kernel_rfl) (fun _ _ _ h => h) (Or.inl ⟨?_, ?_⟩) (by assumption) ?_
            rotate_left 1
            · rfl
            · (intro w hSw; (first | unfold ShS at hSw | unfold ShS1 at hSw); go_simp; (try with_reducible rfl))
            go_simp
            refine wpAnyH_take (i := 23) (v := ?v3x23) rfl (by kernel_rfl) (by kernel_rfl) (by kernel_rfl) (fun _ _ _ h => h) (Or.inl ⟨?_, ?_⟩) (by assumption) ?_
            rotate_left 1
            · rfl
            · (intro w hSw; (first | unfold ShS at hSw | unfold ShS1 at hSw); go_simp; (try with_reducible rfl))
            go_simp
            refine wpAnyH_take (i := 24) (v := ?v3x24) rfl (by kernel_rfl) (by kernel_rfl) (by kernel_rfl) (fun _ _ _ h => h) (Or.inl ⟨?_, ?_⟩) (by assumption) ?_
            rotate_left 1
            · rfl
            · (intro w hSw; (first | unfold ShS at hSw | unfold ShS1 at hSw); go_simp; (try with_reducible rfl))
            go_simp
            refine wpAnyH_take (i := 25) (v := ?v3x25) rfl (by kernel_rfl) (by kernel_rfl) (by kernel_rfl) (fun _ _ _ h => h) (Or.inl ⟨?_, ?_⟩) (by assumption) ?_
            rotate_left 1
            · rfl
            · (intro w hSw; (first | unfold ShS at hSw | unfold ShS1 at hSw); go_simp; (try with_reducible rfl))
            go_simp
            refine wpAnyH_take (i := 26) (v := ?v3x26) rfl (by kernel_rfl) (by kernel_rfl) (by kernel_rfl) (fun _ _ _ h => h) (Or.inl ⟨?_, ?_⟩) (by assumption) ?_
            rotate_left 1
            · rfl
            · (intro w hSw; (first | unfold ShS at hSw | unfold ShS1 at hSw); go_simp; (try with_reducible rfl))
            go_simp
            refine wpAnyH_take (i := 27) (v := ?v3x27) rfl (by kernel_rfl) (by kernel_rfl) (by kernel_rfl) (fun _ _ _ h => h) (Or.inl ⟨?_, ?_⟩) (by assumption) ?_
            rotate_left 1
            · rfl
            · (intro w hSw; (first | unfold ShS at hSw | unfold ShS1 at hSw); go_simp; (try with_reducible rfl))
            go_simp
            refine wpAnyH_take (i := 28) (v := ?v3x28) rfl (by kernel_rfl) (by kernel_rfl) (by kernel_rfl) (fun _ _ _ h => h) (Or.inl ⟨?_, ?_⟩) (by assumption) ?_
            rotate_left 1
            · rfl
            · (intro w hSw; (first | unfold ShS at hSw | unfold ShS1 at hSw); go_simp; (try with_reducible rfl))
            go_simp
            refine wpAnyH_take (i := 29) (v := ?v3x29) rfl (by kernel_rfl) (by kernel_rfl) (by kernel_rfl) (fun _ _ _ h => h) (Or.inl ⟨?_, ?_⟩) (by assumption) ?_
            rotate_left 1
            · rfl
            · (intro w hSw; (first | unfold ShS at hSw | unfold ShS1 at hSw); go_simp; (try with_reducible rfl))
            go_simp
            refine wpAnyH_take (i := 30) (v := ?v3x30) rfl (by kernel_rfl) (by kernel_rfl) (by kernel_rfl) (fun _ _ _ h => h) (Or.inl ⟨?_, ?_⟩) (by assumption) ?_
            rotate_left 1
            · rfl
            · (intro w hSw; (first | unfold ShS at hSw | unfold ShS1 at hSw); go_simp; (try with_reducible rfl))
            go_simp
            refine wpAnyH_take (i := 31) (v := ?v3x31) rfl (by kernel_rfl) (by kernel_rfl) (by kernel_rfl) (fun _ _ _ h => h) (Or.inl ⟨?_, ?_⟩) (by assumption) ?_
            rotate_left 1
            · rfl
            · (intro w hSw; (first | unfold ShS at hSw | unfold ShS1 at hSw); go_simp; (try with_reducible rfl))
            go_simp
            refine wpAnyH_take (i := 32) (v := ?v3x32) rfl (by kernel_rfl) (by kernel_rfl) (by kernel_rfl) (fun _ _ _ h => h) (Or.inl ⟨?_, ?_⟩) (by assumption) ?_
            rotate_left 1
            · rfl
            · (intro w hSw; (first | unfold ShS at hSw | unfold ShS1 at hSw); go_simp; (try with_reducible rfl))
            go_simp
            refine wpAnyH_take (i := 33) (v := ?v3x33) rfl (by kernel_rfl) (by kernel_rfl) (by kernel_rfl) (fun _ _ _ h => h) (Or.inl ⟨?_, ?_⟩) (by assumption) ?_
            rotate_left 1
            · rfl
            · (intro w hSw; (first | unfold ShS at hSw | unfold ShS1 at hSw); go_simp; (try with_reducible rfl))
            go_simp
            refine wpAnyH_take (i := 34) (v := ?v3x34) rfl (by kernel_rfl) (by kernel_rfl) (by kernel_rfl) (fun _ _ _ h => h) (Or.inl ⟨?_, ?_⟩) (by assumption) ?_
            rotate_left 1
            · rfl
            · (intro w hSw; (first | unfold ShS at hSw | unfold ShS1 at hSw); go_simp; (try with_reducible rfl))
            go_simp
            refine wpAnyH_take (i := 35) (v := ?v3x35) rfl (by kernel_rfl) (by kernel_rfl) (by kernel_rfl) (fun _ _ _ h => h) (Or.inl ⟨?_, ?_⟩) (by assumption) ?_
            rotate_left 1
            · rfl
            · (intro w hSw; (first | unfold ShS at hSw | unfold ShS1 at hSw); go_simp; (try with_reducible rfl))
            go_simp
            refine wpAnyH_take (i := 36) (v := ?v3x36) rfl (by kernel_rfl) (by kernel_rfl) (by kernel_rfl) (fun _ _ _ h => h) (Or.inl ⟨?_, ?_⟩) (by assumption) ?_
            rotate_left 1
            · rfl
            · (intro w hSw; (first | unfold ShS at hSw | unfold ShS1 at hSw); go_simp; (try with_reducible rfl))
            go_simp
            refine wpAnyH_take (i := 37) (v := ?v3x37) rfl (by kernel_rfl) (by kernel_rfl) (by kernel_rfl) (fun _ _ _ h => h) (Or.inl ⟨?_, ?_⟩) (by assumption) ?_
            rotate_left 1
            · rfl
            · (intro w hSw; (first | unfold ShS at hSw | unfold ShS1 at hSw); go_simp; (try with_reducible rfl))
            go_simp
            refine wpAnyH_take (i := 38) (v := ?v3x38) rfl (by kernel_rfl) (by kernel_rfl) (by kernel_rfl) (fun _ _ _ h => h) (Or.inl ⟨?_, ?_⟩) (by assumption) ?_
            rotate_left 1
            · rfl
            · (intro w hSw; (first | unfold ShS at hSw | unfold ShS1 at hSw); go_simp; (try with_reducible rfl))
            go_simp
            refine wpAnyH_ready (rs := [39]) (by kernel_rfl) (by simp) ?_
            refine AllReadyH.cons rfl (fun K hK => ?_) AllReadyH.nil
            go_simp
            have hZ := link_any HTd.out.1.inn u1 u HLl.out
            generalize m.link u1 u = lk at *
            have hlk := HLK.out
            unfold mdlVal at hZ
            (with_reducible refine Calls.mono hZ ?_)
            clear hZ
            rintro e W5 ⟨rfl, hs⟩
            have HTd : Hid (MB w W5 p m M ∧ Rd W5 noB 1 (.slice (some ⟨lb, lo, none⟩) n n3) n (icells (m.route a b))) := ⟨HTd.out.1.keep hs, HTd.out.2.keep hs⟩
            obtain ⟨c0, c1, c2, c3, c4, c5, c6, c7, c8, c9, c10⟩ := HTd.out.1.all
            have p0 := hs.cell (show wr.drew.cell? ⟨lb, lo + t, none⟩ = some (.int .i64 u) from p0) (fun e => e)
            have p1 := hs.cell (show wr.drew.cell? ⟨lb, lo + (t - 1), none⟩ = some (.int .i64 u1) from p1) (fun e => e)
            clear hHeld
            go_wp2_with fail
            refine hK.out _ _ ?_ (fun hHeld => ?_)
            · exact ⟨c0, c1, c2, c3, c4, c5, c6, c7, c8, c9, c10, p0, p1⟩
            clear hK K
            refine wpAnyH_take (i := 40) (v := ?v3x40) rfl (by kernel_rfl) (by kernel_rfl) (by kernel_rfl) (fun _ _ _ h => h) (Or.inl ⟨?_, ?_⟩) (by assumption) ?_
            rotate_left 1
            · rfl
            · (intro w hSw; (first | unfold ShS at hSw | unfold ShS1 at hSw); go_simp; (try with_reducible rfl))
            go_simp
            refine wpAnyH_take (i := 41) (v := ?v3x41) rfl (by kernel_rfl) (by kernel_rfl) (by kernel_rfl) (fun _ _ _ h => h) (Or.inl ⟨?_, ?_⟩) (by assumption) ?_
            rotate_left 1
            · rfl
            · (intro w hSw; (first | unfold ShS at hSw | unfold ShS1 at hSw); go_simp; (try with_reducible rfl))
            go_simp
            refine wpAnyH_take (i := 42) (v := ?v3x42) rfl (by kernel_rfl) (by kernel_rfl) (by kernel_rfl) (fun _ _ _ h => h) (Or.inl ⟨?_, ?_⟩) (by assumption) ?_
            rotate_left 1
            · rfl
            · (intro w hSw; (first | unfold ShS at hSw | unfold ShS1 at hSw); go_simp; (try with_reducible rfl))
            go_simp
            refine wpAnyH_done (by kernel_rfl) ?_ _
            go_wp2_with fail
            rw [← HN.out]
            go_meet
            exact ⟨rfl, HTd.out.1, by rw [HN.out]; exact HTd.out.2⟩
          · have e0 : ((t : Int) == 0) = false := by rw [beq_eq_false_iff_ne]; omega
            obtain ⟨u1, hu1⟩ : ∃ u1, (m.route a b)[t - 1]? = some u1 := ⟨_, List.getElem?_eq_getElem (by rw [HN.out]; omega)⟩
            have p1 : wr.drew.cell? ⟨lb, lo + (t - 1), none⟩ = some (.int .i64 u1) := HR.out.cell (t - 1) _ (icells_at hu1)
            have HLK : Hid ((m.link u1 u == 0) = false) := by have h1 := HWY.out.step (t - 1) u1 u hu1 (by rw [show t - 1 + 1 = t from by omega]; exact HU.out); show _ = _; rw [beq_eq_false_iff_ne]; omega
            have hw2 : IntKind.i64.wrap ((t : Int) - 1) = (t : Int) - 1 := IntWalk.i64_in _ ⟨by omega, by omega⟩
            have ht1 : (1 : Int) ≤ (t : Int) := by omega
            have hb2 : (t : Int) - 1 < (n : Int) := by omega
            have d0 : decide ((0 : Int) < (t : Int)) = true := by simp; omega
            have d1 : decide (0 < t) = true := by simp; omega
            clear hu1
            have e1 : ((t : Int) == (n : Int) - 1) = false := by rw [beq_eq_false_iff_ne]; omega
            clear hz hy
            refine wp_region_held_drew (S := ShS1 M p m lb lo t u u1) (by kernel_rfl) ?_ (fun hHeld => ?_)
            · exact ⟨c0, c1, c2, c3, c4, c5, c6, c7, c8, c9, c10, p0, p1⟩
            refine wpAnyH_take (i := 0) (v := ?v4x0) rfl (by kernel_rfl) (by kernel_rfl) (by kernel_rfl) (fun _ _ _ h => h) (Or.inl ⟨?_, ?_⟩) (by assumption) ?_
            rotate_left 1
            · rfl
            · (intro w hSw; (first | unfold ShS at hSw | unfold ShS1 at hSw); go_simp; (try with_reducible rfl))
            go_simp
            refine wpAnyH_take (i := 1) (v := ?v4x1) rfl (by kernel_rfl) (by kernel_rfl) (by kernel_rfl) (fun _ _ _ h => h) (Or.inl ⟨?_, ?_⟩) (by assumption) ?_
            rotate_left 1
            · rfl
            · (intro w hSw; (first | unfold ShS at hSw | unfold ShS1 at hSw); go_simp; (try with_reducible rfl))
            go_simp
            refine wpAnyH_take (i := 2) (v := ?v4x2) rfl (by kernel_rfl) (by kernel_rfl) (by kernel_rfl) (fun _ _ _ h => h) (Or.inl ⟨?_, ?_⟩) (by assumption) ?_
            rotate_left 1
            · rfl
            · (intro w hSw; (first | unfold ShS at hSw | unfold ShS1 at hSw); go_simp; (try with_reducible rfl))
            go_simp
            refine wpAnyH_take (i := 3) (v := undef) rfl (by kernel_rfl) (by kernel_rfl) (by kernel_rfl) (fun _ _ _ h => h) (Or.inr ⟨?_, rfl⟩) (by assumption) ?_
            · rfl
            go_simp
            refine wpAnyH_take (i := 4) (v := undef) rfl (by kernel_rfl) (by kernel_rfl) (by kernel_rfl) (fun _ _ _ h => h) (Or.inr ⟨?_, rfl⟩) (by assumption) ?_
            · rfl
            go_simp
            refine wpAnyH_take (i := 5) (v := undef) rfl (by kernel_rfl) (by kernel_rfl) (by kernel_rfl) (fun _ _ _ h => h) (Or.inr ⟨?_, rfl⟩) (by assumption) ?_
            · rfl
            go_simp
            refine wpAnyH_take (i := 6) (v := undef) rfl (by kernel_rfl) (by kernel_rfl) (by kernel_rfl) (fun _ _ _ h => h) (Or.inr ⟨?_, rfl⟩) (by assumption) ?_
            · rfl
            go_simp
            refine wpAnyH_take (i := 7) (v := undef) rfl (by kernel_rfl) (by kernel_rfl) (by kernel_rfl) (fun _ _ _ h => h) (Or.inr ⟨?_, rfl⟩) (by assumption) ?_
            · rfl
            go_simp
            refine wpAnyH_take (i := 8) (v := undef) rfl (by kernel_rfl) (by kernel_rfl) (by kernel_rfl) (fun _ _ _ h => h) (Or.inr ⟨?_, rfl⟩) (by assumption) ?_
            · rfl
            go_simp
            refine wpAnyH_take (i := 9) (v := ?v4x9) rfl (by kernel_rfl) (by kernel_rfl) (by kernel_rfl) (fun _ _ _ h => h) (Or.inl ⟨?_, ?_⟩) (by assumption) ?_
            rotate_left 1
            · rfl
            · (intro w hSw; (first | unfold ShS at hSw | unfold ShS1 at hSw); go_simp; (try with_reducible rfl))
            go_simp
            refine wpAnyH_take (i := 10) (v := ?v4x10) rfl (by kernel_rfl) (by kernel_rfl) (by kernel_rfl) (fun _ _ _ h => h) (Or.inl ⟨?_, ?_⟩) (by assumption) ?_
            rotate_left 1
            · rfl
            · (intro w hSw; (first | unfold ShS at hSw | unfold ShS1 at hSw); go_simp; (try with_reducible rfl))
            go_simp
            refine wpAnyH_take (i := 11) (v := ?v4x11) rfl (by kernel_rfl) (by kernel_rfl) (by kernel_rfl) (fun _ _ _ h => h) (Or.inl ⟨?_, ?_⟩) (by assumption) ?_
            rotate_left 1
            · rfl
            · (intro w hSw; (first | unfold ShS at hSw | unfold ShS1 at hSw); go_simp; (try with_reducible rfl))
            go_simp
            refine wpAnyH_take (i := 12) (v := ?v4x12) rfl (by kernel_rfl) (by kernel_rfl) (by kernel_rfl) (fun _ _ _ h => h) (Or.inl ⟨?_, ?_⟩) (by assumption) ?_
            rotate_left 1
            · rfl
            · (intro w hSw; (first | unfold ShS at hSw | unfold ShS1 at hSw); go_simp; (try with_reducible rfl))
            go_simp
            refine wpAnyH_take (i := 13) (v := ?v4x13) rfl (by kernel_rfl) (by kernel_rfl) (by kernel_rfl) (fun _ _ _ h => h) (Or.inl ⟨?_, ?_⟩) (by assumption) ?_
            rotate_left 1
            · rfl
            · (intro w hSw; (first | unfold ShS at hSw | unfold ShS1 at hSw); go_simp; (try with_reducible rfl))
            go_simp
            refine wpAnyH_take (i := 14) (v := ?v4x14) rfl (by kernel_rfl) (by kernel_rfl) (by kernel_rfl) (fun _ _ _ h => h) (Or.inl ⟨?_, ?_⟩) (by assumption) ?_
            rotate_left 1
            · rfl
            · (intro w hSw; (first | unfold ShS at hSw | unfold ShS1 at hSw); go_simp; (try with_reducible rfl))
            go_simp
            refine wpAnyH_take (i := 15) (v := ?v4x15) rfl (by kernel_rfl) (by kernel_rfl) (by kernel_rfl) (fun _ _ _ h => h) (Or.inl ⟨?_, ?_⟩) (by assumption) ?_
            rotate_left 1
            · rfl
            · (intro w hSw; (first | unfold ShS at hSw | unfold ShS1 at hSw); go_simp; (try with_reducible rfl))
            go_simp
            refine wpAnyH_take (i := 16) (v := ?v4x16) rfl (by kernel_rfl) (by kernel_rfl) (by kernel_rfl) (fun _ _ _ h => h) (Or.inl ⟨?_, ?_⟩) (by assumption) ?_
            rotate_left 1
            · rfl
            · (intro w hSw; (first | unfold ShS at hSw | unfold ShS1 at hSw); go_simp; (try with_reducible rfl))
            go_simp
            refine wpAnyH_take (i := 17) (v := undef) rfl (by kernel_rfl) (by kernel_rfl) (by kernel_rfl) (fun _ _ _ h => h) (Or.inr ⟨?_, rfl⟩) (by assumption) ?_
            · rfl
            go_simp
            refine wpAnyH_take (i := 18) (v := undef) rfl (by kernel_rfl) (by kernel_rfl) (by kernel_rfl) (fun _ _ _ h => h) (Or.inr ⟨?_, rfl⟩) (by assumption) ?_
            · rfl
            go_simp
            refine wpAnyH_take (i := 19) (v := undef) rfl (by kernel_rfl) (by kernel_rfl) (by kernel_rfl) (fun _ _ _ h => h) (Or.inr ⟨?_, rfl⟩) (by assumption) ?_
            · rfl
            go_simp
            refine wpAnyH_take (i := 20) (v := undef) rfl (by kernel_rfl) (by kernel_rfl) (by kernel_rfl) (fun _ _ _ h => h) (Or.inr ⟨?_, rfl⟩) (by assumption) ?_
            · rfl
            go_simp
            refine wpAnyH_take (i := 21) (v := undef) rfl (by kernel_rfl) (by kernel_rfl) (by kernel_rfl) (fun _ _ _ h => h) (Or.inr ⟨?_, rfl⟩) (by assumption) ?_
            · rfl
            go_simp
            refine wpAnyH_take (i := 22) (v := undef) rfl (by kernel_rfl) (by kernel_rfl) (by kernel_rfl) (fun _ _ _ h => h) (Or.inr ⟨?_, rfl⟩) (by assumption) ?_
            · rfl
            go_simp
            refine wpAnyH_take (i := 23) (v := ?v4x23) rfl (by kernel_rfl) (by kernel_rfl) (by kernel_rfl) (fun _ _ _ h => h) (Or.inl ⟨?_, ?_⟩) (by assumption) ?_
            rotate_left 1
            · rfl
            · (intro w hSw; (first | unfold ShS at hSw | unfold ShS1 at hSw); go_simp; (try with_reducible rfl))
            go_simp
            refine wpAnyH_take (i := 24) (v := ?v4x24) rfl (by kernel_rfl) (by kernel_rfl) (by kernel_rfl) (fun _ _ _ h => h) (Or.inl ⟨?_, ?_⟩) (by assumption) ?_
            rotate_left 1
            · rfl
            · (intro w hSw; (first | unfold ShS at hSw | unfold ShS1 at hSw); go_simp; (try with_reducible rfl))
            go_simp
            refine wpAnyH_take (i := 25) (v := ?v4x25) rfl (by kernel_rfl) (by kernel_rfl) (by kernel_rfl) (fun _ _ _ h => h) (Or.inl ⟨?_, ?_⟩) (by assumption) ?_
            rotate_left 1
            · rfl
            · (intro w hSw; (first | unfold ShS at hSw | unfold ShS1 at hSw); go_simp; (try with_reducible rfl))
            go_simp
            refine wpAnyH_take (i := 26) (v := ?v4x26) rfl (by kernel_rfl) (by kernel_rfl) (by kernel_rfl) (fun _ _ _ h => h) (Or.inl ⟨?_, ?_⟩) (by assumption) ?_
            rotate_left 1
            · rfl
            · (intro w hSw; (first | unfold ShS at hSw | unfold ShS1 at hSw); go_simp; (try with_reducible rfl))
            go_simp
            refine wpAnyH_take (i := 27) (v := ?v4x27) rfl (by kernel_rfl) (by kernel_rfl) (by kernel_rfl) (fun _ _ _ h => h) (Or.inl ⟨?_, ?_⟩) (by assumption) ?_
            rotate_left 1
            · rfl
            · (intro w hSw; (first | unfold ShS at hSw | unfold ShS1 at hSw); go_simp; (try with_reducible rfl))
            go_simp
            refine wpAnyH_take (i := 28) (v := ?v4x28) rfl (by kernel_rfl) (by kernel_rfl) (by kernel_rfl) (fun _ _ _ h => h) (Or.inl ⟨?_, ?_⟩) (by assumption) ?_
            rotate_left 1
            · rfl
            · (intro w hSw; (first | unfold ShS at hSw | unfold ShS1 at hSw); go_simp; (try with_reducible rfl))
            go_simp
            refine wpAnyH_take (i := 29) (v := ?v4x29) rfl (by kernel_rfl) (by kernel_rfl) (by kernel_rfl) (fun _ _ _ h => h) (Or.inl ⟨?_, ?_⟩) (by assumption) ?_
            rotate_left 1
            · rfl
            · (intro w hSw; (first | unfold ShS at hSw | unfold ShS1 at hSw); go_simp; (try with_reducible rfl))
            go_simp
            refine wpAnyH_take (i := 30) (v := ?v4x30) rfl (by kernel_rfl) (by kernel_rfl) (by kernel_rfl) (fun _ _ _ h => h) (Or.inl ⟨?_, ?_⟩) (by assumption) ?_
            rotate_left 1
            · rfl
            · (intro w hSw; (first | unfold ShS at hSw | unfold ShS1 at hSw); go_simp; (try with_reducible rfl))
            go_simp
            refine wpAnyH_take (i := 31) (v := ?v4x31) rfl (by kernel_rfl) (by kernel_rfl) (by kernel_rfl) (fun _ _ _ h => h) (Or.inl ⟨?_, ?_⟩) (by assumption) ?_
            rotate_left 1
            · rfl
            · (intro w hSw; (first | unfold ShS at hSw | unfold ShS1 at hSw); go_simp; (try with_reducible rfl))
            go_simp
            refine wpAnyH_take (i := 32) (v := ?v4x32) rfl (by kernel_rfl) (by kernel_rfl) (by kernel_rfl) (fun _ _ _ h => h) (Or.inl ⟨?_, ?_⟩) (by assumption) ?_
            rotate_left 1
            · rfl
            · (intro w hSw; (first | unfold ShS at hSw | unfold ShS1 at hSw); go_simp; (try with_reducible rfl))
            go_simp
            refine wpAnyH_take (i := 33) (v := ?v4x33) rfl (by kernel_rfl) (by kernel_rfl) (by kernel_rfl) (fun _ _ _ h => h) (Or.inl ⟨?_, ?_⟩) (by assumption) ?_
            rotate_left 1
            · rfl
            · (intro w hSw; (first | unfold ShS at hSw | unfold ShS1 at hSw); go_simp; (try with_reducible rfl))
            go_simp
            refine wpAnyH_take (i := 34) (v := ?v4x34) rfl (by kernel_rfl) (by kernel_rfl) (by kernel_rfl) (fun _ _ _ h => h) (Or.inl ⟨?_, ?_⟩) (by assumption) ?_
            rotate_left 1
            · rfl
            · (intro w hSw; (first | unfold ShS at hSw | unfold ShS1 at hSw); go_simp; (try with_reducible rfl))
            go_simp
            refine wpAnyH_take (i := 35) (v := ?v4x35) rfl (by kernel_rfl) (by kernel_rfl) (by kernel_rfl) (fun _ _ _ h => h) (Or.inl ⟨?_, ?_⟩) (by assumption) ?_
            rotate_left 1
            · rfl
            · (intro w hSw; (first | unfold ShS at hSw | unfold ShS1 at hSw); go_simp; (try with_reducible rfl))
            go_simp
            refine wpAnyH_take (i := 36) (v := ?v4x36) rfl (by kernel_rfl) (by kernel_rfl) (by kernel_rfl) (fun _ _ _ h => h) (Or.inl ⟨?_, ?_⟩) (by assumption) ?_
            rotate_left 1
            · rfl
            · (intro w hSw; (first | unfold ShS at hSw | unfold ShS1 at hSw); go_simp; (try with_reducible rfl))
            go_simp
            refine wpAnyH_take (i := 37) (v := ?v4x37) rfl (by kernel_rfl) (by kernel_rfl) (by kernel_rfl) (fun _ _ _ h => h) (Or.inl ⟨?_, ?_⟩) (by assumption) ?_
            rotate_left 1
            · rfl
            · (intro w hSw; (first | unfold ShS at hSw | unfold ShS1 at hSw); go_simp; (try with_reducible rfl))
            go_simp
            refine wpAnyH_take (i := 38) (v := ?v4x38) rfl (by kernel_rfl) (by kernel_rfl) (by kernel_rfl) (fun _ _ _ h => h) (Or.inl ⟨?_, ?_⟩) (by assumption) ?_
            rotate_left 1
            · rfl
            · (intro w hSw; (first | unfold ShS at hSw | unfold ShS1 at hSw); go_simp; (try with_reducible rfl))
            go_simp
            refine wpAnyH_ready (rs := [39]) (by kernel_rfl) (by simp) ?_
            refine AllReadyH.cons rfl (fun K hK => ?_) AllReadyH.nil
            go_simp
            have hZ := link_any HTd.out.1.inn u1 u HLl.out
            generalize m.link u1 u = lk at *
            have hlk := HLK.out
            unfold mdlVal at hZ
            (with_reducible refine Calls.mono hZ ?_)
            clear hZ
            rintro e W5 ⟨rfl, hs⟩
            have HTd : Hid (MB w W5 p m M ∧ Rd W5 noB 1 (.slice (some ⟨lb, lo, none⟩) n n3) n (icells (m.route a b))) := ⟨HTd.out.1.keep hs, HTd.out.2.keep hs⟩
            obtain ⟨c0, c1, c2, c3, c4, c5, c6, c7, c8, c9, c10⟩ := HTd.out.1.all
            have p0 := hs.cell (show wr.drew.cell? ⟨lb, lo + t, none⟩ = some (.int .i64 u) from p0) (fun e => e)
            have p1 := hs.cell (show wr.drew.cell? ⟨lb, lo + (t - 1), none⟩ = some (.int .i64 u1) from p1) (fun e => e)
            clear hHeld
            go_wp2_with fail
            refine hK.out _ _ ?_ (fun hHeld => ?_)
            · exact ⟨c0, c1, c2, c3, c4, c5, c6, c7, c8, c9, c10, p0, p1⟩
            clear hK K
            refine wpAnyH_take (i := 40) (v := ?v4x40) rfl (by kernel_rfl) (by kernel_rfl) (by kernel_rfl) (fun _ _ _ h => h) (Or.inl ⟨?_, ?_⟩) (by assumption) ?_
            rotate_left 1
            · rfl
            · (intro w hSw; (first | unfold ShS at hSw | unfold ShS1 at hSw); go_simp; (try with_reducible rfl))
            go_simp
            refine wpAnyH_take (i := 41) (v := ?v4x41) rfl (by kernel_rfl) (by kernel_rfl) (by kernel_rfl) (fun _ _ _ h => h) (Or.inl ⟨?_, ?_⟩) (by assumption) ?_
            rotate_left 1
            · rfl
            · (intro w hSw; (first | unfold ShS at hSw | unfold ShS1 at hSw); go_simp; (try with_reducible rfl))
            go_simp
            refine wpAnyH_take (i := 42) (v := ?v4x42) rfl (by kernel_rfl) (by kernel_rfl) (by kernel_rfl) (fun _ _ _ h => h) (Or.inl ⟨?_, ?_⟩) (by assumption) ?_
            rotate_left 1
            · rfl
            · (intro w hSw; (first | unfold ShS at hSw | unfold ShS1 at hSw); go_simp; (try with_reducible rfl))
            go_simp
            refine wpAnyH_done (by kernel_rfl) ?_ _
            go_wp2_with fail
            rw [← HN.out]
            go_meet
            exact ⟨rfl, HTd.out.1, by rw [HN.out]; exact HTd.out.2⟩
        case rest =>
          obtain ⟨rfl, HX⟩ := hcut
          clear HT
          have HR2 : Hid (RdAt wc noB lb lo (icells (m.route a b))) := by
            obtain ⟨b', o', e, r⟩ := HX.out.2.at_ (by omega)
            injection e with e
            injection e with e1 e2
            subst e1 e2
            exact r
          go_wp2_with fail
          go_loopg [9] t (fun k i wr2 => ∃ s : Nat, s ≤ t ∧ Hid (k + s = t) ∧ i = .int .i64 s ∧ Hid (Same noB wc wr2))
          case atStart => exact ⟨0, Nat.zero_le _, rfl, rfl, Same.refl _ _⟩
          case round =>
            obtain ⟨s, hs, HKS, rfl, HSS⟩ := hrel
            by_cases hlt2 : s < t
            · obtain ⟨us, hus⟩ : ∃ u, (m.route a b)[s]? = some u := ⟨_, List.getElem?_eq_getElem (by omega)⟩
              have p0 := HSS.out.cell (HR2.out.cell t _ (icells_at HU.out)) (fun e => e)
              have p1 := HSS.out.cell (HR2.out.cell s _ (icells_at hus)) (fun e => e)
              have hne : (us == u) = false := by
                rw [beq_eq_false_iff_ne]
                intro e
                subst e
                have := HWY.out.once s t us hus HU.out
                omega
              clear hus
              go_wp2_with fail
              go_region
              all_goals
                go_wp2_with fail
                go_roundg (gk - 1)
                case measure => have h1 := HKS.out; omega
                case rel => exact ⟨s + 1, by omega, by show _ = _; have h1 := HKS.out; omega, by go_num, HSS.out.drew⟩
            · obtain rfl : s = t := by omega
              go_wp2_with fail
              go_roundg (kt - 1)
              case measure => have h1 := HK.out; omega
              case rel => exact ⟨s + 1, by omega, by show _ = _; have h1 := HK.out; omega, by go_num, HX.out.1.keep HSS.out, HX.out.2.keep HSS.out⟩
      · obtain rfl : t = (m.route a b).length := by omega
        obtain ⟨c0, c1, c2, c3, c4, c5, c6, c7, c8, c9, c10⟩ := HT.out.1.all
        go_wp2_with fail
        have hZ := near_any HT.out.1.inn (s := a) HLs.out HLl.out
        unfold mdlVal at hZ
        (with_reducible refine Calls.mono hZ ?_)
        clear hZ
        rintro e W8 ⟨v8, rfl, ha⟩
        obtain ⟨A8, n8, rfl, hn81, hn82, hr8⟩ := (ha.rd (bad := noB) (fun b e => e.elim)).form
        have HY : Hid (MB w W8 p m M ∧ Rd W8 noB 1 (.slice A8 (m.near a).length n8) (m.near a).length (icells (m.near a))) := ⟨HT.out.1.keep ha.since, hr8⟩
        have hnl : (m.near a).length ≤ 1000000 := Nat.le_trans (near_len m a) HLs.out
        clear ha hr8 HT c0 c1 c2 c3 c4 c5 c6 c7 c8 c9 c10
        go_wp2_with fail
        go_loopg [11] ((m.near a).length) (fun k i wr2 => ∃ s : Nat, s ≤ (m.near a).length ∧ Hid (k + s = (m.near a).length) ∧ i = .int .i64 s ∧ Hid (MB w wr2 p m M ∧ Rd wr2 noB 1 (.slice A8 (m.near a).length n8) (m.near a).length (icells (m.near a))))
        case atStart => exact ⟨0, Nat.zero_le _, rfl, rfl, HY.out⟩
        case round =>
          obtain ⟨s, hs, HKS, rfl, HS⟩ := hrel
          clear HY
          by_cases hlt2 : s < (m.near a).length
          · obtain ⟨nb, no, rfl, r⟩ := HS.out.2.at_ (by omega)
            obtain ⟨x, hx⟩ : ∃ x, (m.near a)[s]? = some x := ⟨_, List.getElem?_eq_getElem hlt2⟩
            have p0 : wr.drew.cell? ⟨nb, no + s, none⟩ = some (.int .i64 x) := r.cell s _ (icells_at hx)
            have HNR := Lib.hid (HWY.out.near x (List.mem_of_getElem? hx))
            have HSd : Hid (MB w wr.drew p m M ∧ Rd wr.drew noB 1 (.slice (some ⟨nb, no, none⟩) (m.near a).length n8) (m.near a).length (icells (m.near a))) := ⟨HS.out.1.keep ((Same.refl noB wr).drew), HS.out.2.drew⟩
            clear r hx HS
            obtain ⟨c0, c1, c2, c3, c4, c5, c6, c7, c8, c9, c10⟩ := HSd.out.1.all
            have hrl : (m.route x b).length ≤ 1000000 := by
              unfold Mdl.route
              split
              · rename_i h1
                have h2 := exB_iff.1 (Bool.and_eq_true _ _ ▸ h1 : exB x m.sites.length = true ∧ exB b m.sites.length = true).1
                exact Nat.le_trans (rt_le (near_gr m) h2.1 h2.2) HLs.out
              · exact Nat.zero_le _
            go_wp2_with fail
            go_region_held3 (fun w' => w'.cell? ⟨M, 0, none⟩ = some (.slice p.s.addr p.s.len p.s.cap) ∧ w'.cell? ⟨M, 1, none⟩ = some (.slice p.f.addr p.f.len p.f.cap) ∧ w'.cell? ⟨M, 2, none⟩ = some (.slice p.r.addr p.r.len p.r.cap) ∧ w'.cell? ⟨M, 3, none⟩ = some (.slice p.mc.addr p.mc.len p.mc.cap) ∧ w'.cell? ⟨M, 4, none⟩ = some (.slice p.l.addr p.l.len p.l.cap) ∧ w'.cell? ⟨M, 5, none⟩ = some (.slice p.i.addr p.i.len p.i.cap) ∧ w'.cell? ⟨M, 6, none⟩ = some (.int .i64 m.dark) ∧ w'.cell? ⟨M, 7, none⟩ = some (.int .i64 m.slots) ∧ w'.cell? ⟨M, 8, none⟩ = some (.int .i64 m.reserve) ∧ w'.cell? ⟨M, 9, none⟩ = some (.int .i64 m.failures) ∧ w'.cell? ⟨M, 10, none⟩ = some (.slice p.ru.addr p.ru.len p.ru.cap) ∧ w'.cell? ⟨nb, no + s, none⟩ = some (.int .i64 x))
              (first | (refine ⟨?_, ?_, ?_, ?_, ?_, ?_, ?_, ?_, ?_, ?_, ?_, ?_⟩ <;> with_reducible assumption) | go_keep)
              ((go_at_call 28; have hZ := route_any HSd.out.1.inn x b HLs.out HLl.out; unfold mdlVal at hZ; (with_reducible refine Calls.mono hZ ?_); clear hZ; rintro e W9 ⟨v9, rfl, hr9, hs9⟩; obtain ⟨A9, n9, rfl, hn91, hn92, _⟩ := hr9.form; have HS9 : Hid (MB w W9 p m M ∧ Rd W9 noB 1 (.slice (some ⟨nb, no, none⟩) (m.near a).length n8) (m.near a).length (icells (m.near a))) := ⟨HSd.out.1.keep hs9, HSd.out.2.keep hs9⟩; have p0 := hs9.cell p0 (fun e => e); obtain ⟨c0, c1, c2, c3, c4, c5, c6, c7, c8, c9, c10⟩ := HS9.out.1.all; clear hs9 hr9))
            clear c0 c1 c2 c3 c4 c5 c6 c7 c8 c9 c10 p0
            have hnr := HNR.out
            clear HNR
            generalize (m.route a b).length = L at *
            generalize (m.route x b).length = X at *
            by_cases h0 : X = 0
            · have hL := hnr.2 h0
              have g1 : decide ((0 : Int) < (L : Int)) = false := decide_eq_false (by omega)
              have g2 : ((X : Int) == 0) = true := by rw [beq_iff_eq]; omega
              have g3 : decide ((0 : Int) < (X : Int)) = false := decide_eq_false (by omega)
              have g4 : decide (0 < L) = false := decide_eq_false (by omega)
              have g5 : decide (0 < X) = false := decide_eq_false (by omega)
              clear h0 hL hnr
              go_wp2_with fail
              go_roundg (gk - 1)
              case measure => have h1 := HKS.out; omega
              case rel => exact ⟨s + 1, by omega, by show _ = _; have h1 := HKS.out; omega, by go_num, HS9.out⟩
            · have hL := hnr.1 (by omega)
              have g1 : (1 : Int) ≤ (L : Int) := by omega
              have g2 : (1 : Int) ≤ (X : Int) := by omega
              have g3 : (L : Int) ≤ (X : Int) + 1 := by omega
              have g4 : decide ((0 : Int) < (X : Int)) = true := decide_eq_true (by omega)
              have g5 : decide (0 < X) = true := decide_eq_true (by omega)
              have g6 : ((L : Int) == 0) = false := by rw [beq_eq_false_iff_ne]; omega
              have g7 : ((X : Int) == 0) = false := by rw [beq_eq_false_iff_ne]; omega
              have g8 : decide ((X : Int) < (L : Int) - 1) = false := decide_eq_false (by omega)
              clear h0 hL hnr
              go_wp2_with fail
              go_roundg (gk - 1)
              case measure => have h1 := HKS.out; omega
              case rel => exact ⟨s + 1, by omega, by show _ = _; have h1 := HKS.out; omega, by go_num, HS9.out⟩
          · obtain rfl : s = (m.near a).length := by omega
            go_wp2_with fail
            go_ret
            exact ⟨rfl, HS.out.1.since⟩
end Go.Proofs.Ytkmclglphelhdaa
