/- Layer 14: Domain whatever the kind; the reference's Domain. (printed by genSiteE.py) -/
import Derived.Test.YtpngmodgnkjhnaaSiteD
namespace Go.Proofs.Ytpngmodgnkjhnaa
open Go Go.RowKit Go.Maps
set_option maxRecDepth 100000

theorem kindsF_other {p : MPl} {by_ : Int} (h1 : by_ ≠ 1) (h2 : by_ ≠ 2) (h3 : by_ ≠ 3) (h4 : by_ ≠ 4) : kindsF p by_ = none := by
  unfold kindsF upd
  simp [h1, h2, h3, h4]
theorem dom_other {w : World} {p : MPl} {m : Mdl} (h : MdlIn w p m) {by_ : Int} (hb : inI64 by_) (i : Int) (h1 : by_ ≠ 1) (h2 : by_ ≠ 2) (h3 : by_ ≠ 3) (h4 : by_ ≠ 4) :
    Calls Try.prog 43 #[mdlVal p m, .int .i64 by_, .int .i64 i] w fun e w' => e = .returned (.int .i64 (m.domain by_ i)) ∧ Same noB w w' := by
  have HR := Lib.hid (domain_other (m := m) (i := i) h1 h2 h3 h4)
  have HF := Lib.hid (kindsF_other (p := p) h1 h2 h3 h4)
  have HK := Lib.hid (kinds_any (w := w.alloc (.cells (mdlCells p m) 29)) (p := p) (m := m))
  have HMB := Lib.hid (MB.start h)
  have Hb := Lib.hid hb
  clear h h1 h2 h3 h4 hb
  unfold mdlVal at *
  unfold mdlCells at HK HMB
  go_enter Try.func43, Try.ntmps43
  go_wp2_with fail
  have hZ := HK.out
  (with_reducible refine Calls.mono hZ ?_)
  clear hZ HK
  rintro e w1 ⟨b, rfl, hM, hs⟩
  have hl := hM.lookup Try.underlying88 (zero64 w1) (k := by_) Hb.out true
  rw [HF.out] at hl
  have hl2 : (Instr.lookup 88 (.map (some b)) (.int .i64 by_) true).run Try.prog w1 = .ok (.tuple #[.agg #[.int .i64 0, .nilFunc], .bool false]) w1 := hl
  have HM1 := Lib.hid (HMB.out.keep hs)
  clear hM hs hl HMB
  have hml := HM1.out.box.lt
  go_wp2_with fail
  go_ret
  exact ⟨by rw [HR.out] <;> rfl, HM1.out.since.alloc _⟩

theorem domain_any {w : World} {p : MPl} {m : Mdl} (h : MdlIn w p m) {by_ i : Int} (hb : inI64 by_) :
    Calls Try.prog 43 #[mdlVal p m, .int .i64 by_, .int .i64 i] w fun e w' => e = .returned (.int .i64 (m.domain by_ i)) ∧ Same noB w w' := by
  by_cases h1 : by_ = 1
  · subst h1
    cases he : exB i m.machines.length
    · exact dom1_no h he
    · obtain ⟨j, e, hj⟩ := exB_at he
      cases hr : exB (m.machines[j]).rack m.racks.length
      · exact dom1_norack h e (List.getElem?_eq_getElem hj) hr
      · exact dom1_rack h e (List.getElem?_eq_getElem hj) hr
  by_cases h2 : by_ = 2
  · subst h2
    cases he : exB i m.machines.length
    · exact dom2_no h he
    · obtain ⟨j, e, hj⟩ := exB_at he
      cases hr : exB (m.machines[j]).rack m.racks.length
      · exact dom2_norack h e (List.getElem?_eq_getElem hj) hr
      · exact dom2_rack h e (List.getElem?_eq_getElem hj) hr
  by_cases h3 : by_ = 3
  · subst h3
    cases he : exB i m.machines.length
    · exact dom3_no h he
    · obtain ⟨j, e, hj⟩ := exB_at he
      cases hr : exB (m.machines[j]).rack m.racks.length
      · exact dom3_norack h e (List.getElem?_eq_getElem hj) hr
      · exact dom3_rack h e (List.getElem?_eq_getElem hj) hr
  by_cases h4 : by_ = 4
  · subst h4
    cases he : exB i m.machines.length
    · exact dom4_no h he
    · obtain ⟨j, e, hj⟩ := exB_at he
      cases hr : exB (m.machines[j]).rack m.racks.length
      · exact dom4_norack h e (List.getElem?_eq_getElem hj) hr
      · exact dom4_rack h e (List.getElem?_eq_getElem hj) hr
  exact dom_other h hb i h1 h2 h3 h4

set_option maxHeartbeats 2000000 in
theorem rdom_no {w : World} {p : MPl} {m : Mdl} (h : MdlIn w p m) {by_ i : Int} (he : exB i m.machines.length = false) :
    Calls Try.prog 44 #[mdlVal p m, .int .i64 by_, .int .i64 i] w fun e w' => e = .returned (.int .i64 (m.domain by_ i)) ∧ Same noB w w' := by
  have HR := Lib.hid (domain_no (m := m) (by_ := by_) he)
  have HE : Hid (exB i p.mc.len = false) := by show exB i p.mc.len = false; rw [h.lm]; exact he
  clear he
  have HMB := Lib.hid (MB.start h)
  clear h
  unfold mdlVal at *
  unfold mdlCells at HMB
  go_enter Try.func44, Try.ntmps44
  go_wp2_with fail
  refine calls_abs (fun W => Hid (MB w W p m w.heap.size)) HMB ?_
  clear HMB
  generalize w.heap.size = M at *
  intro W HM1
  obtain ⟨c0, c1, c2, c3, c4, c5, c6, c7, c8, c9, c10⟩ := HM1.out.all
  have hml := HM1.out.box.lt
  refine (rexists_any i p.mc.len _).mono ?_
  rintro e w2 ⟨rfl, rfl⟩
  rw [HE.out]
  go_wp2_with fail
  go_ret
  exact ⟨by rw [HR.out] <;> rfl, HM1.out.since⟩

set_option maxHeartbeats 2000000 in
theorem rdom_one {w : World} {p : MPl} {m : Mdl} (h : MdlIn w p m) {j : Nat} {x : Mc} {by_ : Int} (h1 : by_ = 1) (hx : m.machines[j]? = some x) :
    Calls Try.prog 44 #[mdlVal p m, .int .i64 by_, .int .i64 ((j : Int) + 1)] w fun e w' => e = .returned (.int .i64 (m.domain by_ ((j : Int) + 1))) ∧ Same noB w w' := by
  have hj := (List.getElem?_eq_some_iff.1 hx).1
  have HE : Hid (exB ((j : Int) + 1) p.mc.len = true) := by show exB _ _ = true; rw [h.lm]; exact exB_iff.2 ⟨by omega, by omega⟩
  have HX := Lib.hid hx
  have hj2 : j < p.mc.len := by rw [h.lm]; exact hj
  have hj3 : p.mc.len ≤ 9223372036854775807 := h.mc.bound
  have HR : Hid (m.domain by_ ((j : Int) + 1) = if exB ((j : Int) + 1) (m.domains by_) then (j : Int) + 1 else 0) := by
    show m.domain _ _ = _
    rw [domain_yes hx]
    unfold Mdl.number
    rw [if_pos h1]
  have f1 : (by_ != 1) = false := by simpa using h1
  clear hx hj h1
  have HMB := Lib.hid (MB.start h)
  clear h
  unfold mdlVal at *
  unfold mdlCells at HMB
  go_enter Try.func44, Try.ntmps44
  go_wp2_with fail
  refine calls_abs (fun W => Hid (MB w W p m w.heap.size)) HMB ?_
  clear HMB
  generalize w.heap.size = M at *
  intro W HM1
  obtain ⟨c0, c1, c2, c3, c4, c5, c6, c7, c8, c9, c10⟩ := HM1.out.all
  have hml := HM1.out.box.lt
  have HD := Lib.hid (rdomains_any HM1.out.inn by_)
  refine (rexists_any _ p.mc.len _).mono ?_
  rintro e w2 ⟨rfl, rfl⟩
  rw [HE.out]
  go_wp2_with fail
  have hZ := HD.out
  unfold mdlVal at hZ
  (with_reducible refine Calls.mono hZ ?_)
  clear hZ HD
  rintro e w3 ⟨rfl, hs⟩
  have HS3 := Lib.hid (HM1.out.since.trans' hs)
  clear hs
  go_wp2_with fail
  refine (rexists_any _ (m.domains by_) _).mono ?_
  rintro e w4 ⟨rfl, rfl⟩
  cases hq : exB ((j : Int) + 1) (m.domains by_)
  · rw [hq] at HR
    go_wp2_with fail
    go_ret
    exact ⟨by rw [HR.out] <;> rfl, HS3.out⟩
  · rw [hq] at HR
    go_wp2_with fail
    go_ret
    exact ⟨by rw [HR.out] <;> rfl, HS3.out⟩

set_option maxHeartbeats 2000000 in
theorem rdom_norack {w : World} {p : MPl} {m : Mdl} (h : MdlIn w p m) {j : Nat} {x : Mc} {by_ : Int} (h1 : by_ ≠ 1) (hx : m.machines[j]? = some x) (hr : exB x.rack m.racks.length = false) :
    Calls Try.prog 44 #[mdlVal p m, .int .i64 by_, .int .i64 ((j : Int) + 1)] w fun e w' => e = .returned (.int .i64 (m.domain by_ ((j : Int) + 1))) ∧ Same noB w w' := by
  have hj := (List.getElem?_eq_some_iff.1 hx).1
  have HE : Hid (exB ((j : Int) + 1) p.mc.len = true) := by show exB _ _ = true; rw [h.lm]; exact exB_iff.2 ⟨by omega, by omega⟩
  have HX := Lib.hid hx
  have hj2 : j < p.mc.len := by rw [h.lm]; exact hj
  have hj3 : p.mc.len ≤ 9223372036854775807 := h.mc.bound
  have HR : Hid (m.domain by_ ((j : Int) + 1) = 0) := by
    show m.domain _ _ = _
    rw [domain_yes hx]
    unfold Mdl.number
    rw [rackAt_no hr, if_neg h1]
    simp [exB_zero]
  have HE2 : Hid (exB x.rack p.r.len = false) := by show exB _ _ = false; rw [h.lr]; exact hr
  have f1 : (by_ != 1) = true := by simpa using h1
  clear hx hj h1 hr
  have HMB := Lib.hid (MB.start h)
  clear h
  unfold mdlVal at *
  unfold mdlCells at HMB
  go_enter Try.func44, Try.ntmps44
  go_wp2_with fail
  refine calls_abs (fun W => Hid (MB w W p m w.heap.size)) HMB ?_
  clear HMB
  generalize w.heap.size = M at *
  intro W HM1
  obtain ⟨c0, c1, c2, c3, c4, c5, c6, c7, c8, c9, c10⟩ := HM1.out.all
  have hml := HM1.out.box.lt
  obtain ⟨mb, mo, hma, x0, x1, x2, mbl⟩ := HM1.out.inn.mach HX.out
  rw [hma] at c3
  have HMA := Lib.hid hma
  clear hma
  refine (rexists_any _ p.mc.len _).mono ?_
  rintro e w2 ⟨rfl, rfl⟩
  rw [HE.out]
  go_wp2_with fail
  refine (rexists_any x.rack p.r.len _).mono ?_
  rintro e w2 ⟨rfl, rfl⟩
  rw [HE2.out]
  go_wp2_with fail
  go_ret
  exact ⟨by rw [HR.out] <;> rfl, HM1.out.since⟩

set_option maxHeartbeats 2000000 in
theorem rdom_feed {w : World} {p : MPl} {m : Mdl} (h : MdlIn w p m) {j : Nat} {x : Mc} {by_ : Int} (hk : by_ = 3) (hx : m.machines[j]? = some x) (hr : exB x.rack m.racks.length = true) :
    Calls Try.prog 44 #[mdlVal p m, .int .i64 by_, .int .i64 ((j : Int) + 1)] w fun e w' => e = .returned (.int .i64 (m.domain by_ ((j : Int) + 1))) ∧ Same noB w w' := by
  have hj := (List.getElem?_eq_some_iff.1 hx).1
  have HE : Hid (exB ((j : Int) + 1) p.mc.len = true) := by show exB _ _ = true; rw [h.lm]; exact exB_iff.2 ⟨by omega, by omega⟩
  have HX := Lib.hid hx
  have hj2 : j < p.mc.len := by rw [h.lm]; exact hj
  have hj3 : p.mc.len ≤ 9223372036854775807 := h.mc.bound
  obtain ⟨t, y, hrt, ht, hy, hy2⟩ := rackAt_yes hr
  have HR : Hid (m.domain by_ ((j : Int) + 1) = if exB y.feed (m.domains by_) then y.feed else 0) := by
    show m.domain _ _ = _
    have hnum : m.number by_ ((j : Int) + 1) x = y.feed := by
      unfold Mdl.number
      rw [hk, hy2]; rfl
    rw [domain_yes hx, hnum]
  have HE2 : Hid (exB ((t : Int) + 1) p.r.len = true) := by show exB _ _ = true; rw [h.lr]; exact exB_iff.2 ⟨by omega, by omega⟩
  have HRT := Lib.hid hrt
  have HY := Lib.hid hy
  have ht2 : t < p.r.len := by rw [h.lr]; exact ht
  have ht3 : p.r.len ≤ 9223372036854775807 := h.r.bound
  have f1 : (by_ != 1) = true := by rw [hk]; rfl
  have f3 : (by_ == 3) = true := by rw [hk]; rfl
  have f4 : (by_ == 4) = false := by rw [hk]; rfl
  clear hx hj hk hr hrt hy hy2 ht
  have HMB := Lib.hid (MB.start h)
  clear h
  unfold mdlVal at *
  unfold mdlCells at HMB
  go_enter Try.func44, Try.ntmps44
  go_wp2_with fail
  refine calls_abs (fun W => Hid (MB w W p m w.heap.size)) HMB ?_
  clear HMB
  generalize w.heap.size = M at *
  intro W HM1
  obtain ⟨c0, c1, c2, c3, c4, c5, c6, c7, c8, c9, c10⟩ := HM1.out.all
  have hml := HM1.out.box.lt
  have HD := Lib.hid (rdomains_any HM1.out.inn by_)
  obtain ⟨rb, ro, hra, y0, y1, y2, rbl⟩ := HM1.out.inn.rack HY.out
  rw [hra] at c2
  have HRA := Lib.hid hra
  clear hra
  obtain ⟨mb, mo, hma, x0, x1, x2, mbl⟩ := HM1.out.inn.mach HX.out
  rw [hma] at c3
  have HMA := Lib.hid hma
  clear hma
  rw [HRT.out] at x1
  refine (rexists_any _ p.mc.len _).mono ?_
  rintro e w2 ⟨rfl, rfl⟩
  rw [HE.out]
  go_wp2_with fail
  refine (rexists_any ((t : Int) + 1) p.r.len _).mono ?_
  rintro e w2 ⟨rfl, rfl⟩
  rw [HE2.out]
  go_wp2_with fail
  have hZ := HD.out
  unfold mdlVal at hZ
  rw [HMA.out, HRA.out] at hZ
  (with_reducible refine Calls.mono hZ ?_)
  clear hZ HD
  rintro e w3 ⟨rfl, hs⟩
  have HS3 := Lib.hid (HM1.out.since.trans' hs)
  clear hs
  go_wp2_with fail
  refine (rexists_any _ (m.domains by_) _).mono ?_
  rintro e w4 ⟨rfl, rfl⟩
  cases hq : exB y.feed (m.domains by_)
  · rw [hq] at HR
    go_wp2_with fail
    go_ret
    exact ⟨by rw [HR.out] <;> rfl, HS3.out⟩
  · rw [hq] at HR
    go_wp2_with fail
    go_ret
    exact ⟨by rw [HR.out] <;> rfl, HS3.out⟩

set_option maxHeartbeats 2000000 in
theorem rdom_site {w : World} {p : MPl} {m : Mdl} (h : MdlIn w p m) {j : Nat} {x : Mc} {by_ : Int} (hk : by_ = 4) (hx : m.machines[j]? = some x) (hr : exB x.rack m.racks.length = true) :
    Calls Try.prog 44 #[mdlVal p m, .int .i64 by_, .int .i64 ((j : Int) + 1)] w fun e w' => e = .returned (.int .i64 (m.domain by_ ((j : Int) + 1))) ∧ Same noB w w' := by
  have hj := (List.getElem?_eq_some_iff.1 hx).1
  have HE : Hid (exB ((j : Int) + 1) p.mc.len = true) := by show exB _ _ = true; rw [h.lm]; exact exB_iff.2 ⟨by omega, by omega⟩
  have HX := Lib.hid hx
  have hj2 : j < p.mc.len := by rw [h.lm]; exact hj
  have hj3 : p.mc.len ≤ 9223372036854775807 := h.mc.bound
  obtain ⟨t, y, hrt, ht, hy, hy2⟩ := rackAt_yes hr
  have HR : Hid (m.domain by_ ((j : Int) + 1) = if exB y.site (m.domains by_) then y.site else 0) := by
    show m.domain _ _ = _
    have hnum : m.number by_ ((j : Int) + 1) x = y.site := by
      unfold Mdl.number
      rw [hk, hy2]; rfl
    rw [domain_yes hx, hnum]
  have HE2 : Hid (exB ((t : Int) + 1) p.r.len = true) := by show exB _ _ = true; rw [h.lr]; exact exB_iff.2 ⟨by omega, by omega⟩
  have HRT := Lib.hid hrt
  have HY := Lib.hid hy
  have ht2 : t < p.r.len := by rw [h.lr]; exact ht
  have ht3 : p.r.len ≤ 9223372036854775807 := h.r.bound
  have f1 : (by_ != 1) = true := by rw [hk]; rfl
  have f3 : (by_ == 3) = false := by rw [hk]; rfl
  have f4 : (by_ == 4) = true := by rw [hk]; rfl
  clear hx hj hk hr hrt hy hy2 ht
  have HMB := Lib.hid (MB.start h)
  clear h
  unfold mdlVal at *
  unfold mdlCells at HMB
  go_enter Try.func44, Try.ntmps44
  go_wp2_with fail
  refine calls_abs (fun W => Hid (MB w W p m w.heap.size)) HMB ?_
  clear HMB
  generalize w.heap.size = M at *
  intro W HM1
  obtain ⟨c0, c1, c2, c3, c4, c5, c6, c7, c8, c9, c10⟩ := HM1.out.all
  have hml := HM1.out.box.lt
  have HD := Lib.hid (rdomains_any HM1.out.inn by_)
  obtain ⟨rb, ro, hra, y0, y1, y2, rbl⟩ := HM1.out.inn.rack HY.out
  rw [hra] at c2
  have HRA := Lib.hid hra
  clear hra
  obtain ⟨mb, mo, hma, x0, x1, x2, mbl⟩ := HM1.out.inn.mach HX.out
  rw [hma] at c3
  have HMA := Lib.hid hma
  clear hma
  rw [HRT.out] at x1
  refine (rexists_any _ p.mc.len _).mono ?_
  rintro e w2 ⟨rfl, rfl⟩
  rw [HE.out]
  go_wp2_with fail
  refine (rexists_any ((t : Int) + 1) p.r.len _).mono ?_
  rintro e w2 ⟨rfl, rfl⟩
  rw [HE2.out]
  go_wp2_with fail
  have hZ := HD.out
  unfold mdlVal at hZ
  rw [HMA.out, HRA.out] at hZ
  (with_reducible refine Calls.mono hZ ?_)
  clear hZ HD
  rintro e w3 ⟨rfl, hs⟩
  have HS3 := Lib.hid (HM1.out.since.trans' hs)
  clear hs
  go_wp2_with fail
  refine (rexists_any _ (m.domains by_) _).mono ?_
  rintro e w4 ⟨rfl, rfl⟩
  cases hq : exB y.site (m.domains by_)
  · rw [hq] at HR
    go_wp2_with fail
    go_ret
    exact ⟨by rw [HR.out] <;> rfl, HS3.out⟩
  · rw [hq] at HR
    go_wp2_with fail
    go_ret
    exact ⟨by rw [HR.out] <;> rfl, HS3.out⟩

set_option maxHeartbeats 2000000 in
theorem rdom_rest {w : World} {p : MPl} {m : Mdl} (h : MdlIn w p m) {j : Nat} {x : Mc} {by_ : Int} (hk : by_ ≠ 1 ∧ by_ ≠ 3 ∧ by_ ≠ 4) (hx : m.machines[j]? = some x) (hr : exB x.rack m.racks.length = true) :
    Calls Try.prog 44 #[mdlVal p m, .int .i64 by_, .int .i64 ((j : Int) + 1)] w fun e w' => e = .returned (.int .i64 (m.domain by_ ((j : Int) + 1))) ∧ Same noB w w' := by
  have hj := (List.getElem?_eq_some_iff.1 hx).1
  have HE : Hid (exB ((j : Int) + 1) p.mc.len = true) := by show exB _ _ = true; rw [h.lm]; exact exB_iff.2 ⟨by omega, by omega⟩
  have HX := Lib.hid hx
  have hj2 : j < p.mc.len := by rw [h.lm]; exact hj
  have hj3 : p.mc.len ≤ 9223372036854775807 := h.mc.bound
  obtain ⟨t, y, hrt, ht, hy, hy2⟩ := rackAt_yes hr
  have HR : Hid (m.domain by_ ((j : Int) + 1) = if exB ((t : Int) + 1) (m.domains by_) then ((t : Int) + 1) else 0) := by
    show m.domain _ _ = _
    have hnum : m.number by_ ((j : Int) + 1) x = ((t : Int) + 1) := by
      unfold Mdl.number
      rw [if_neg hk.1, hy2]; simp only []; rw [if_neg hk.2.1, if_neg hk.2.2, hrt]
    rw [domain_yes hx, hnum]
  have HE2 : Hid (exB ((t : Int) + 1) p.r.len = true) := by show exB _ _ = true; rw [h.lr]; exact exB_iff.2 ⟨by omega, by omega⟩
  have HRT := Lib.hid hrt
  have HY := Lib.hid hy
  have ht2 : t < p.r.len := by rw [h.lr]; exact ht
  have ht3 : p.r.len ≤ 9223372036854775807 := h.r.bound
  have f1 : (by_ != 1) = true := by simpa using hk.1
  have f3 : (by_ == 3) = false := by simpa using hk.2.1
  have f4 : (by_ == 4) = false := by simpa using hk.2.2
  clear hx hj hk hr hrt hy hy2 ht
  have HMB := Lib.hid (MB.start h)
  clear h
  unfold mdlVal at *
  unfold mdlCells at HMB
  go_enter Try.func44, Try.ntmps44
  go_wp2_with fail
  refine calls_abs (fun W => Hid (MB w W p m w.heap.size)) HMB ?_
  clear HMB
  generalize w.heap.size = M at *
  intro W HM1
  obtain ⟨c0, c1, c2, c3, c4, c5, c6, c7, c8, c9, c10⟩ := HM1.out.all
  have hml := HM1.out.box.lt
  have HD := Lib.hid (rdomains_any HM1.out.inn by_)
  obtain ⟨rb, ro, hra, y0, y1, y2, rbl⟩ := HM1.out.inn.rack HY.out
  rw [hra] at c2
  have HRA := Lib.hid hra
  clear hra
  obtain ⟨mb, mo, hma, x0, x1, x2, mbl⟩ := HM1.out.inn.mach HX.out
  rw [hma] at c3
  have HMA := Lib.hid hma
  clear hma
  rw [HRT.out] at x1
  refine (rexists_any _ p.mc.len _).mono ?_
  rintro e w2 ⟨rfl, rfl⟩
  rw [HE.out]
  go_wp2_with fail
  refine (rexists_any ((t : Int) + 1) p.r.len _).mono ?_
  rintro e w2 ⟨rfl, rfl⟩
  rw [HE2.out]
  go_wp2_with fail
  have hZ := HD.out
  unfold mdlVal at hZ
  rw [HMA.out, HRA.out] at hZ
  (with_reducible refine Calls.mono hZ ?_)
  clear hZ HD
  rintro e w3 ⟨rfl, hs⟩
  have HS3 := Lib.hid (HM1.out.since.trans' hs)
  clear hs
  go_wp2_with fail
  refine (rexists_any _ (m.domains by_) _).mono ?_
  rintro e w4 ⟨rfl, rfl⟩
  cases hq : exB ((t : Int) + 1) (m.domains by_)
  · rw [hq] at HR
    go_wp2_with fail
    go_ret
    exact ⟨by rw [HR.out] <;> rfl, HS3.out⟩
  · rw [hq] at HR
    go_wp2_with fail
    go_ret
    exact ⟨by rw [HR.out] <;> rfl, HS3.out⟩

theorem rdomain_any {w : World} {p : MPl} {m : Mdl} (h : MdlIn w p m) (by_ i : Int) :
    Calls Try.prog 44 #[mdlVal p m, .int .i64 by_, .int .i64 i] w fun e w' => e = .returned (.int .i64 (m.domain by_ i)) ∧ Same noB w w' := by
  cases he : exB i m.machines.length
  · exact rdom_no h he
  · obtain ⟨j, rfl, hj⟩ := exB_at he
    have hx : m.machines[j]? = some m.machines[j] := List.getElem?_eq_getElem hj
    by_cases h1 : by_ = 1
    · exact rdom_one h h1 hx
    cases hr : exB (m.machines[j]).rack m.racks.length
    · exact rdom_norack h h1 hx hr
    by_cases h3 : by_ = 3
    · exact rdom_feed h h3 hx hr
    by_cases h4 : by_ = 4
    · exact rdom_site h h4 hx hr
    exact rdom_rest h ⟨h1, h3, h4⟩ hx hr
end Go.Proofs.Ytpngmodgnkjhnaa
