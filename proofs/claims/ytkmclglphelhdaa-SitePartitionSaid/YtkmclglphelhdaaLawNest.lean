/- SiteNested: its plain law and its walk. (printed by genNest.py) -/
import Derived.Test.YtkmclglphelhdaaSiteT
import Derived.Test.YtkmclglphelhdaaSiteR
namespace Go.Proofs.Ytkmclglphelhdaa
open Go Go.RowKit Go.Maps

theorem valid_machine {m : Mdl} (h : m.valid = true) {x : Mc} (hx : x ∈ m.machines) : exB x.rack m.racks.length = true := by
  unfold Mdl.valid at h
  simp only [Bool.and_eq_true] at h
  have h2 := List.all_eq_true.1 h.1.1.2 x hx
  unfold Mdl.machB at h2
  rw [Bool.and_eq_true] at h2
  exact h2.1
theorem valid_rack {m : Mdl} (h : m.valid = true) {i : Nat} {y : Rk} (hy : m.racks[i]? = some y) : exB y.site m.sites.length = true ∧ exB y.feed m.feeds.length = true ∧ ∀ (t : Nat) (z : Rk), t < i → m.racks[t]? = some z → z.feed = y.feed → z.site = y.site := by
  unfold Mdl.valid at h
  simp only [Bool.and_eq_true] at h
  have hi : i < m.racks.length := (List.getElem?_eq_some_iff.1 hy).1
  have h2 := List.all_eq_true.1 (show (List.range m.racks.length).all m.rackF = true from h.1.2) i (List.mem_range.2 hi)
  rw [rackF_eq hy] at h2
  simp only [Bool.and_eq_true, Bool.not_eq_true'] at h2
  refine ⟨h2.1.1, h2.1.2, fun t z ht hz hf => ?_⟩
  have h3 := h2.2
  rw [List.any_eq_false] at h3
  have h4 := h3 z (List.mem_of_getElem? (i := t) (by rw [List.getElem?_take, if_pos ht]; exact hz))
  apply Classical.byContradiction
  intro hne
  apply h4
  unfold otherB
  rw [Bool.and_eq_true]
  exact ⟨by rw [beq_iff_eq]; exact hf, by rw [bne_iff_ne]; exact hne⟩
theorem dom_of {m : Mdl} (h : m.valid = true) {a : Int} (ha : exB a m.machines.length = true) : ∃ (t : Nat) (y : Rk), m.racks[t]? = some y ∧ m.domain 2 a = (t : Int) + 1 ∧ m.domain 3 a = y.feed ∧ m.domain 4 a = y.site ∧ 1 ≤ y.site := by
  obtain ⟨j, rfl, hj⟩ := exB_at ha
  have hx : m.machines[j]? = some m.machines[j] := List.getElem?_eq_getElem hj
  have hr := valid_machine h (List.getElem_mem hj)
  obtain ⟨t, y, hrt, ht, hy, hy2⟩ := rackAt_yes hr
  obtain ⟨v1, v2, _⟩ := valid_rack h hy
  refine ⟨t, y, hy, ?_, ?_, ?_, (exB_iff.1 v1).1⟩
  · have hn : m.number 2 ((j : Int) + 1) m.machines[j] = (t : Int) + 1 := by unfold Mdl.number; simp [hy2]; exact hrt
    rw [domain_yes hx, hn, show m.domains 2 = m.racks.length from rfl, if_pos (exB_iff.2 ⟨by omega, by omega⟩)]
  · have hn : m.number 3 ((j : Int) + 1) m.machines[j] = y.feed := by unfold Mdl.number; simp [hy2]
    rw [domain_yes hx, hn, show m.domains 3 = m.feeds.length from rfl, if_pos v2]
  · have hn : m.number 4 ((j : Int) + 1) m.machines[j] = y.site := by unfold Mdl.number; simp [hy2]
    rw [domain_yes hx, hn, show m.domains 4 = m.sites.length from rfl, if_pos v1]
theorem nested {m : Mdl} (h : m.valid = true) {a b : Int} (ha : exB a m.machines.length = true) (hb : exB b m.machines.length = true) : 0 < m.domain 4 a ∧ (m.domain 2 a = m.domain 2 b → m.domain 3 a = m.domain 3 b) ∧ (m.domain 3 a = m.domain 3 b → m.domain 4 a = m.domain 4 b) := by
  obtain ⟨t, y, hy, e2, e3, e4, e5⟩ := dom_of h ha
  obtain ⟨s, z, hz, f2, f3, f4, f5⟩ := dom_of h hb
  rw [e2, e3, e4, f2, f3, f4]
  refine ⟨by omega, fun e => ?_, fun e => ?_⟩
  · obtain rfl : t = s := by omega
    rw [hy] at hz
    injection hz with hz
    rw [hz]
  · rcases Nat.lt_trichotomy t s with hlt | rfl | hlt
    · exact (valid_rack h hz).2.2 t y hlt hy e
    · rw [hy] at hz
      injection hz with hz
      rw [hz]
    · exact ((valid_rack h hy).2.2 s z hlt hz e.symm).symm

set_option maxHeartbeats 16000000 in
theorem lawNested_any {w : World} {p : MPl} {m : Mdl} (h : MdlIn w p m) {a b : Int} :
    Calls Try.prog 6 #[mdlVal p m, .int .i64 a, .int .i64 b] w fun e w' => e = .returned (.bool true) ∧ Same noB w w' := by
  have HMB := Lib.hid (MB.start h)
  have HLM := Lib.hid h.lm
  obtain ⟨q1, hq1⟩ : ∃ q, fewB m = q := ⟨_, rfl⟩
  obtain ⟨q2, hq2⟩ : ∃ q, m.valid = q := ⟨_, rfl⟩
  obtain ⟨q3, hq3⟩ : ∃ q, exB a p.mc.len = q := ⟨_, rfl⟩
  obtain ⟨q4, hq4⟩ : ∃ q, exB b p.mc.len = q := ⟨_, rfl⟩
  have HQ1 := Lib.hid hq1
  have HQ2 := Lib.hid hq2
  have HQ3 := Lib.hid hq3
  have HQ4 := Lib.hid hq4
  clear h hq1 hq2 hq3 hq4
  unfold mdlVal
  unfold mdlCells at HMB
  cases q1
  · skip
    go_enter Try.func6, Try.ntmps6
    go_wp2_with fail
    refine calls_abs (fun W => Hid (MB w W p m w.heap.size)) HMB ?_
    clear HMB
    generalize w.heap.size = M at *
    intro W0 HM
    refine (awake_any W0).mono ?_
    rintro e W1 ⟨rfl, hs⟩
    have HM := Lib.hid (HM.out.keep hs)
    clear hs
    obtain ⟨c0, c1, c2, c3, c4, c5, c6, c7, c8, c9, c10⟩ := HM.out.all
    go_wp2_with fail
    have hZ := few2_any HM.out.inn
    rw [HQ1.out] at hZ
    try unfold mdlVal at hZ
    (with_reducible refine Calls.mono hZ ?_)
    clear hZ
    rintro e W2 ⟨rfl, hs⟩
    have HM := Lib.hid (HM.out.keep hs)
    clear hs
    obtain ⟨c0, c1, c2, c3, c4, c5, c6, c7, c8, c9, c10⟩ := HM.out.all
    go_wp2_with fail
    go_ret
    exact ⟨rfl, HM.out.since⟩
  cases q2
  · skip
    go_enter Try.func6, Try.ntmps6
    go_wp2_with fail
    refine calls_abs (fun W => Hid (MB w W p m w.heap.size)) HMB ?_
    clear HMB
    generalize w.heap.size = M at *
    intro W0 HM
    refine (awake_any W0).mono ?_
    rintro e W1 ⟨rfl, hs⟩
    have HM := Lib.hid (HM.out.keep hs)
    clear hs
    obtain ⟨c0, c1, c2, c3, c4, c5, c6, c7, c8, c9, c10⟩ := HM.out.all
    go_wp2_with fail
    have hZ := few2_any HM.out.inn
    rw [HQ1.out] at hZ
    try unfold mdlVal at hZ
    (with_reducible refine Calls.mono hZ ?_)
    clear hZ
    rintro e W2 ⟨rfl, hs⟩
    have HM := Lib.hid (HM.out.keep hs)
    clear hs
    obtain ⟨c0, c1, c2, c3, c4, c5, c6, c7, c8, c9, c10⟩ := HM.out.all
    go_wp2_with fail
    have hZ := rvalid_any HM.out.inn
    rw [HQ2.out] at hZ
    try unfold mdlVal at hZ
    (with_reducible refine Calls.mono hZ ?_)
    clear hZ
    rintro e W2 ⟨rfl, hs⟩
    have HM := Lib.hid (HM.out.keep hs)
    clear hs
    obtain ⟨c0, c1, c2, c3, c4, c5, c6, c7, c8, c9, c10⟩ := HM.out.all
    go_wp2_with fail
    go_ret
    exact ⟨rfl, HM.out.since⟩
  cases q3
  · skip
    go_enter Try.func6, Try.ntmps6
    go_wp2_with fail
    refine calls_abs (fun W => Hid (MB w W p m w.heap.size)) HMB ?_
    clear HMB
    generalize w.heap.size = M at *
    intro W0 HM
    refine (awake_any W0).mono ?_
    rintro e W1 ⟨rfl, hs⟩
    have HM := Lib.hid (HM.out.keep hs)
    clear hs
    obtain ⟨c0, c1, c2, c3, c4, c5, c6, c7, c8, c9, c10⟩ := HM.out.all
    go_wp2_with fail
    have hZ := few2_any HM.out.inn
    rw [HQ1.out] at hZ
    try unfold mdlVal at hZ
    (with_reducible refine Calls.mono hZ ?_)
    clear hZ
    rintro e W2 ⟨rfl, hs⟩
    have HM := Lib.hid (HM.out.keep hs)
    clear hs
    obtain ⟨c0, c1, c2, c3, c4, c5, c6, c7, c8, c9, c10⟩ := HM.out.all
    go_wp2_with fail
    have hZ := rvalid_any HM.out.inn
    rw [HQ2.out] at hZ
    try unfold mdlVal at hZ
    (with_reducible refine Calls.mono hZ ?_)
    clear hZ
    rintro e W2 ⟨rfl, hs⟩
    have HM := Lib.hid (HM.out.keep hs)
    clear hs
    obtain ⟨c0, c1, c2, c3, c4, c5, c6, c7, c8, c9, c10⟩ := HM.out.all
    go_wp2_with fail
    refine (rexists_any a p.mc.len _).mono ?_
    rintro e W3 ⟨rfl, rfl⟩
    rw [HQ3.out]
    go_wp2_with fail
    go_ret
    exact ⟨rfl, HM.out.since⟩
  cases q4
  · skip
    go_enter Try.func6, Try.ntmps6
    go_wp2_with fail
    refine calls_abs (fun W => Hid (MB w W p m w.heap.size)) HMB ?_
    clear HMB
    generalize w.heap.size = M at *
    intro W0 HM
    refine (awake_any W0).mono ?_
    rintro e W1 ⟨rfl, hs⟩
    have HM := Lib.hid (HM.out.keep hs)
    clear hs
    obtain ⟨c0, c1, c2, c3, c4, c5, c6, c7, c8, c9, c10⟩ := HM.out.all
    go_wp2_with fail
    have hZ := few2_any HM.out.inn
    rw [HQ1.out] at hZ
    try unfold mdlVal at hZ
    (with_reducible refine Calls.mono hZ ?_)
    clear hZ
    rintro e W2 ⟨rfl, hs⟩
    have HM := Lib.hid (HM.out.keep hs)
    clear hs
    obtain ⟨c0, c1, c2, c3, c4, c5, c6, c7, c8, c9, c10⟩ := HM.out.all
    go_wp2_with fail
    have hZ := rvalid_any HM.out.inn
    rw [HQ2.out] at hZ
    try unfold mdlVal at hZ
    (with_reducible refine Calls.mono hZ ?_)
    clear hZ
    rintro e W2 ⟨rfl, hs⟩
    have HM := Lib.hid (HM.out.keep hs)
    clear hs
    obtain ⟨c0, c1, c2, c3, c4, c5, c6, c7, c8, c9, c10⟩ := HM.out.all
    go_wp2_with fail
    refine (rexists_any a p.mc.len _).mono ?_
    rintro e W3 ⟨rfl, rfl⟩
    rw [HQ3.out]
    go_wp2_with fail
    refine (rexists_any b p.mc.len _).mono ?_
    rintro e W3 ⟨rfl, rfl⟩
    rw [HQ4.out]
    go_wp2_with fail
    go_ret
    exact ⟨rfl, HM.out.since⟩
  obtain ⟨n1, n2, n3⟩ := nested (m := m) (a := a) (b := b) HQ2.out (by rw [← HLM.out]; exact HQ3.out) (by rw [← HLM.out]; exact HQ4.out)
  obtain ⟨d2a, h2a⟩ : ∃ d, m.domain 2 a = d := ⟨_, rfl⟩
  obtain ⟨d2b, h2b⟩ : ∃ d, m.domain 2 b = d := ⟨_, rfl⟩
  obtain ⟨d3a, h3a⟩ : ∃ d, m.domain 3 a = d := ⟨_, rfl⟩
  obtain ⟨d3b, h3b⟩ : ∃ d, m.domain 3 b = d := ⟨_, rfl⟩
  obtain ⟨d4a, h4a⟩ : ∃ d, m.domain 4 a = d := ⟨_, rfl⟩
  obtain ⟨d4b, h4b⟩ : ∃ d, m.domain 4 b = d := ⟨_, rfl⟩
  rw [h4a] at n1
  rw [h2a, h2b, h3a, h3b] at n2
  rw [h3a, h3b, h4a, h4b] at n3
  have HD2a := Lib.hid h2a
  have HD2b := Lib.hid h2b
  have HD3a := Lib.hid h3a
  have HD3b := Lib.hid h3b
  have HD4a := Lib.hid h4a
  have HD4b := Lib.hid h4b
  have N2 := Lib.hid n2
  have N3 := Lib.hid n3
  clear h2a h2b h3a h3b h4a h4b n2 n3
  cases e2 : (d2a == d2b) <;> cases e3 : (d3a == d3b) <;> cases e4 : (d4a == d4b)
  all_goals first
    | (exfalso; have x := N2.out (beq_iff_eq.1 e2); rw [x] at e3; simp at e3; done)
    | (exfalso; have x := N3.out (beq_iff_eq.1 e3); rw [x] at e4; simp at e4; done)
    | skip
  all_goals
    go_enter Try.func6, Try.ntmps6
    go_wp2_with fail
    refine calls_abs (fun W => Hid (MB w W p m w.heap.size)) HMB ?_
    clear HMB
    generalize w.heap.size = M at *
    intro W0 HM
    refine (awake_any W0).mono ?_
    rintro e W1 ⟨rfl, hs⟩
    have HM := Lib.hid (HM.out.keep hs)
    clear hs
    obtain ⟨c0, c1, c2, c3, c4, c5, c6, c7, c8, c9, c10⟩ := HM.out.all
    go_wp2_with fail
    have hZ := few2_any HM.out.inn
    rw [HQ1.out] at hZ
    try unfold mdlVal at hZ
    (with_reducible refine Calls.mono hZ ?_)
    clear hZ
    rintro e W2 ⟨rfl, hs⟩
    have HM := Lib.hid (HM.out.keep hs)
    clear hs
    obtain ⟨c0, c1, c2, c3, c4, c5, c6, c7, c8, c9, c10⟩ := HM.out.all
    go_wp2_with fail
    have hZ := rvalid_any HM.out.inn
    rw [HQ2.out] at hZ
    try unfold mdlVal at hZ
    (with_reducible refine Calls.mono hZ ?_)
    clear hZ
    rintro e W2 ⟨rfl, hs⟩
    have HM := Lib.hid (HM.out.keep hs)
    clear hs
    obtain ⟨c0, c1, c2, c3, c4, c5, c6, c7, c8, c9, c10⟩ := HM.out.all
    go_wp2_with fail
    refine (rexists_any a p.mc.len _).mono ?_
    rintro e W3 ⟨rfl, rfl⟩
    rw [HQ3.out]
    go_wp2_with fail
    refine (rexists_any b p.mc.len _).mono ?_
    rintro e W3 ⟨rfl, rfl⟩
    rw [HQ4.out]
    go_wp2_with fail
    have HM := Lib.hid (HM.out.keep ((Same.refl _ _).drew))
    go_region_held3 (fun w' => w'.cell? ⟨M, 0, none⟩ = some (.slice p.s.addr p.s.len p.s.cap) ∧ w'.cell? ⟨M, 1, none⟩ = some (.slice p.f.addr p.f.len p.f.cap) ∧ w'.cell? ⟨M, 2, none⟩ = some (.slice p.r.addr p.r.len p.r.cap) ∧ w'.cell? ⟨M, 3, none⟩ = some (.slice p.mc.addr p.mc.len p.mc.cap) ∧ w'.cell? ⟨M, 4, none⟩ = some (.slice p.l.addr p.l.len p.l.cap) ∧ w'.cell? ⟨M, 5, none⟩ = some (.slice p.i.addr p.i.len p.i.cap) ∧ w'.cell? ⟨M, 6, none⟩ = some (.int .i64 m.dark) ∧ w'.cell? ⟨M, 7, none⟩ = some (.int .i64 m.slots) ∧ w'.cell? ⟨M, 8, none⟩ = some (.int .i64 m.reserve) ∧ w'.cell? ⟨M, 9, none⟩ = some (.int .i64 m.failures) ∧ w'.cell? ⟨M, 10, none⟩ = some (.slice p.ru.addr p.ru.len p.ru.cap))
      (first | (refine ⟨?_, ?_, ?_, ?_, ?_, ?_, ?_, ?_, ?_, ?_, ?_⟩ <;> with_reducible assumption) | go_keep)
      (first
        | (go_at_call 14; have hZ := domain_any (by_ := 2) (i := a) HM.out.inn (inI64_of (by decide) (by decide)); rw [HD2a.out] at hZ; unfold mdlVal at hZ; (with_reducible refine Calls.mono hZ ?_); clear hZ; rintro e W2 ⟨rfl, hs⟩; have HM := Lib.hid (HM.out.keep hs); obtain ⟨c0, c1, c2, c3, c4, c5, c6, c7, c8, c9, c10⟩ := HM.out.all; clear hs)
        | (go_at_call 14; have hZ := domain_any (by_ := 2) (i := b) HM.out.inn (inI64_of (by decide) (by decide)); rw [HD2b.out] at hZ; unfold mdlVal at hZ; (with_reducible refine Calls.mono hZ ?_); clear hZ; rintro e W2 ⟨rfl, hs⟩; have HM := Lib.hid (HM.out.keep hs); obtain ⟨c0, c1, c2, c3, c4, c5, c6, c7, c8, c9, c10⟩ := HM.out.all; clear hs))
    all_goals go_wp2_with fail
    have HM := Lib.hid (HM.out.keep ((Same.refl _ _).drew))
    go_region_held3 (fun w' => w'.cell? ⟨M, 0, none⟩ = some (.slice p.s.addr p.s.len p.s.cap) ∧ w'.cell? ⟨M, 1, none⟩ = some (.slice p.f.addr p.f.len p.f.cap) ∧ w'.cell? ⟨M, 2, none⟩ = some (.slice p.r.addr p.r.len p.r.cap) ∧ w'.cell? ⟨M, 3, none⟩ = some (.slice p.mc.addr p.mc.len p.mc.cap) ∧ w'.cell? ⟨M, 4, none⟩ = some (.slice p.l.addr p.l.len p.l.cap) ∧ w'.cell? ⟨M, 5, none⟩ = some (.slice p.i.addr p.i.len p.i.cap) ∧ w'.cell? ⟨M, 6, none⟩ = some (.int .i64 m.dark) ∧ w'.cell? ⟨M, 7, none⟩ = some (.int .i64 m.slots) ∧ w'.cell? ⟨M, 8, none⟩ = some (.int .i64 m.reserve) ∧ w'.cell? ⟨M, 9, none⟩ = some (.int .i64 m.failures) ∧ w'.cell? ⟨M, 10, none⟩ = some (.slice p.ru.addr p.ru.len p.ru.cap))
      (first | (refine ⟨?_, ?_, ?_, ?_, ?_, ?_, ?_, ?_, ?_, ?_, ?_⟩ <;> with_reducible assumption) | go_keep)
      (first
        | (go_at_call 14; have hZ := domain_any (by_ := 3) (i := a) HM.out.inn (inI64_of (by decide) (by decide)); rw [HD3a.out] at hZ; unfold mdlVal at hZ; (with_reducible refine Calls.mono hZ ?_); clear hZ; rintro e W2 ⟨rfl, hs⟩; have HM := Lib.hid (HM.out.keep hs); obtain ⟨c0, c1, c2, c3, c4, c5, c6, c7, c8, c9, c10⟩ := HM.out.all; clear hs)
        | (go_at_call 14; have hZ := domain_any (by_ := 3) (i := b) HM.out.inn (inI64_of (by decide) (by decide)); rw [HD3b.out] at hZ; unfold mdlVal at hZ; (with_reducible refine Calls.mono hZ ?_); clear hZ; rintro e W2 ⟨rfl, hs⟩; have HM := Lib.hid (HM.out.keep hs); obtain ⟨c0, c1, c2, c3, c4, c5, c6, c7, c8, c9, c10⟩ := HM.out.all; clear hs))
    all_goals go_wp2_with fail
    have HM := Lib.hid (HM.out.keep ((Same.refl _ _).drew))
    go_region_held3 (fun w' => w'.cell? ⟨M, 0, none⟩ = some (.slice p.s.addr p.s.len p.s.cap) ∧ w'.cell? ⟨M, 1, none⟩ = some (.slice p.f.addr p.f.len p.f.cap) ∧ w'.cell? ⟨M, 2, none⟩ = some (.slice p.r.addr p.r.len p.r.cap) ∧ w'.cell? ⟨M, 3, none⟩ = some (.slice p.mc.addr p.mc.len p.mc.cap) ∧ w'.cell? ⟨M, 4, none⟩ = some (.slice p.l.addr p.l.len p.l.cap) ∧ w'.cell? ⟨M, 5, none⟩ = some (.slice p.i.addr p.i.len p.i.cap) ∧ w'.cell? ⟨M, 6, none⟩ = some (.int .i64 m.dark) ∧ w'.cell? ⟨M, 7, none⟩ = some (.int .i64 m.slots) ∧ w'.cell? ⟨M, 8, none⟩ = some (.int .i64 m.reserve) ∧ w'.cell? ⟨M, 9, none⟩ = some (.int .i64 m.failures) ∧ w'.cell? ⟨M, 10, none⟩ = some (.slice p.ru.addr p.ru.len p.ru.cap))
      (first | (refine ⟨?_, ?_, ?_, ?_, ?_, ?_, ?_, ?_, ?_, ?_, ?_⟩ <;> with_reducible assumption) | go_keep)
      (first
        | (go_at_call 14; have hZ := domain_any (by_ := 4) (i := a) HM.out.inn (inI64_of (by decide) (by decide)); rw [HD4a.out] at hZ; unfold mdlVal at hZ; (with_reducible refine Calls.mono hZ ?_); clear hZ; rintro e W2 ⟨rfl, hs⟩; have HM := Lib.hid (HM.out.keep hs); obtain ⟨c0, c1, c2, c3, c4, c5, c6, c7, c8, c9, c10⟩ := HM.out.all; clear hs)
        | (go_at_call 14; have hZ := domain_any (by_ := 4) (i := b) HM.out.inn (inI64_of (by decide) (by decide)); rw [HD4b.out] at hZ; unfold mdlVal at hZ; (with_reducible refine Calls.mono hZ ?_); clear hZ; rintro e W2 ⟨rfl, hs⟩; have HM := Lib.hid (HM.out.keep hs); obtain ⟨c0, c1, c2, c3, c4, c5, c6, c7, c8, c9, c10⟩ := HM.out.all; clear hs))
    all_goals go_wp2_with fail
    have hZ := domain_any (by_ := 4) (i := a) HM.out.inn (inI64_of (by decide) (by decide))
    rw [HD4a.out] at hZ
    try unfold mdlVal at hZ
    (with_reducible refine Calls.mono hZ ?_)
    clear hZ
    rintro e W2 ⟨rfl, hs⟩
    have HM := Lib.hid (HM.out.keep hs)
    clear hs
    obtain ⟨c0, c1, c2, c3, c4, c5, c6, c7, c8, c9, c10⟩ := HM.out.all
    go_wp2_with fail
    go_ret
    exact ⟨rfl, HM.out.since⟩
end Go.Proofs.Ytkmclglphelhdaa
