/- Layer 14: Domain of the program. (printed by genSiteD.py) -/
import Derived.Test.YtpngmodgnkjhnaaSiteC
import Derived.Laws.EntriesVeiled
namespace Go.Proofs.Ytpngmodgnkjhnaa
open Go Go.RowKit Go.Maps
set_option maxRecDepth 100000

theorem Rd.addr {w : World} {bad : Nat → Prop} {size n : Nat} {s : Sl} {xs : List Value} (h : Rd w bad size (.slice s.addr s.len s.cap) n xs) (hn : s.len = n) (hp : 0 < n) : ∃ b o, s.addr = some ⟨b, o, none⟩ ∧ RdAt w bad b o xs := by
  subst hn
  exact h.at_ hp
theorem MdlIn.mach {w : World} {p : MPl} {m : Mdl} (h : MdlIn w p m) {j : Nat} {x : Mc} (hx : m.machines[j]? = some x) : ∃ b o, p.mc.addr = some ⟨b, o, none⟩ ∧ w.cell? ⟨b, o + j * 3, none⟩ = some (.string x.name) ∧ w.cell? ⟨b, o + j * 3 + 1, none⟩ = some (.int .i64 x.rack) ∧ w.cell? ⟨b, o + j * 3 + 2, none⟩ = some (.int .i64 x.cap) ∧ b < w.heap.size := by
  have hj := (List.getElem?_eq_some_iff.1 hx).1
  obtain ⟨b, o, e, r⟩ := h.mc.at_ (by rw [h.lm]; omega)
  obtain ⟨a1, a2, a3⟩ := mc_at r hx
  exact ⟨b, o, e, a1, a2, a3, r.lt⟩
theorem MdlIn.rack {w : World} {p : MPl} {m : Mdl} (h : MdlIn w p m) {j : Nat} {x : Rk} (hx : m.racks[j]? = some x) : ∃ b o, p.r.addr = some ⟨b, o, none⟩ ∧ w.cell? ⟨b, o + j * 3, none⟩ = some (.string x.name) ∧ w.cell? ⟨b, o + j * 3 + 1, none⟩ = some (.int .i64 x.site) ∧ w.cell? ⟨b, o + j * 3 + 2, none⟩ = some (.int .i64 x.feed) ∧ b < w.heap.size := by
  have hj := (List.getElem?_eq_some_iff.1 hx).1
  obtain ⟨b, o, e, r⟩ := h.r.at_ (by rw [h.lr]; omega)
  obtain ⟨a1, a2, a3⟩ := rk_at r hx
  exact ⟨b, o, e, a1, a2, a3, r.lt⟩
theorem rackAt_no {m : Mdl} {r : Int} (h : exB r m.racks.length = false) : m.rackAt r = none := by
  unfold Mdl.rackAt
  rw [h]
  rfl
theorem rackAt_yes {m : Mdl} {r : Int} (h : exB r m.racks.length = true) : ∃ (j : Nat) (y : Rk), r = (j : Int) + 1 ∧ j < m.racks.length ∧ m.racks[j]? = some y ∧ m.rackAt r = some y := by
  obtain ⟨j, rfl, hj⟩ := exB_at h
  refine ⟨j, m.racks[j], rfl, hj, List.getElem?_eq_getElem hj, ?_⟩
  unfold Mdl.rackAt
  rw [h, if_pos rfl, show ((j : Int) + 1 - 1).toNat = j from by omega]
  exact List.getElem?_eq_getElem hj
theorem domain_no {m : Mdl} {by_ i : Int} (h : exB i m.machines.length = false) : m.domain by_ i = 0 := by
  unfold Mdl.domain
  rw [h]
  rfl
theorem domain_yes {m : Mdl} {by_ : Int} {j : Nat} {x : Mc} (hx : m.machines[j]? = some x) : m.domain by_ ((j : Int) + 1) = if exB (m.number by_ ((j : Int) + 1) x) (m.domains by_) then m.number by_ ((j : Int) + 1) x else 0 := by
  have hj := (List.getElem?_eq_some_iff.1 hx).1
  unfold Mdl.domain
  rw [if_pos (exB_iff.2 ⟨by omega, by omega⟩), show ((j : Int) + 1 - 1).toNat = j from by omega, hx]
theorem exB_zero (n : Nat) : exB 0 n = false := by simp [exB]
theorem domain_other {m : Mdl} {by_ i : Int} (h1 : by_ ≠ 1) (h2 : by_ ≠ 2) (h3 : by_ ≠ 3) (h4 : by_ ≠ 4) : m.domain by_ i = 0 := by
  have hd : m.domains by_ = 0 := by unfold Mdl.domains; rw [if_neg h1, if_neg h2, if_neg h3, if_neg h4]
  have he : ∀ n : Int, exB n 0 = false := fun n => by
    apply Bool.eq_false_iff.2
    intro h
    have := exB_iff.1 h
    omega
  unfold Mdl.domain
  split
  · split
    · rfl
    · rw [hd, he]
      rfl
  · rfl

theorem c52 (i k s f : Int) (n : ByteArray) (w : World) : Calls Try.prog 68 #[.int .i64 i, .agg #[.string n, .int .i64 s, .int .i64 f], .int .i64 k] w fun e w' => e = .returned (.int .i64 i) ∧ Same noB w w' := by
  go_enter Try.func68, Try.ntmps68
  go_wp2_with fail
  go_ret
  first | exact ⟨rfl, Same.refl _ _⟩ | exact ⟨rfl, (Same.refl _ _).alloc _⟩ | exact ⟨rfl, ((Same.refl _ _).alloc _).alloc _⟩

theorem c53 (i k s f : Int) (n : ByteArray) (w : World) : Calls Try.prog 69 #[.int .i64 i, .agg #[.string n, .int .i64 s, .int .i64 f], .int .i64 k] w fun e w' => e = .returned (.int .i64 k) ∧ Same noB w w' := by
  go_enter Try.func69, Try.ntmps69
  go_wp2_with fail
  go_ret
  first | exact ⟨rfl, Same.refl _ _⟩ | exact ⟨rfl, (Same.refl _ _).alloc _⟩ | exact ⟨rfl, ((Same.refl _ _).alloc _).alloc _⟩

theorem c54 (i k s f : Int) (n : ByteArray) (w : World) : Calls Try.prog 70 #[.int .i64 i, .agg #[.string n, .int .i64 s, .int .i64 f], .int .i64 k] w fun e w' => e = .returned (.int .i64 f) ∧ Same noB w w' := by
  go_enter Try.func70, Try.ntmps70
  go_wp2_with fail
  go_ret
  first | exact ⟨rfl, Same.refl _ _⟩ | exact ⟨rfl, (Same.refl _ _).alloc _⟩ | exact ⟨rfl, ((Same.refl _ _).alloc _).alloc _⟩

theorem c55 (i k s f : Int) (n : ByteArray) (w : World) : Calls Try.prog 71 #[.int .i64 i, .agg #[.string n, .int .i64 s, .int .i64 f], .int .i64 k] w fun e w' => e = .returned (.int .i64 s) ∧ Same noB w w' := by
  go_enter Try.func71, Try.ntmps71
  go_wp2_with fail
  go_ret
  first | exact ⟨rfl, Same.refl _ _⟩ | exact ⟨rfl, (Same.refl _ _).alloc _⟩ | exact ⟨rfl, ((Same.refl _ _).alloc _).alloc _⟩

set_option maxHeartbeats 2000000 in
theorem dom1_no {w : World} {p : MPl} {m : Mdl} (h : MdlIn w p m) {i : Int} (he : exB i m.machines.length = false) :
    Calls Try.prog 43 #[mdlVal p m, .int .i64 1, .int .i64 i] w fun e w' => e = .returned (.int .i64 (m.domain 1 i)) ∧ Same noB w w' := by
  have HR := Lib.hid (domain_no (m := m) (by_ := 1) he)
  have HE : Hid (exB i p.mc.len = false) := by show exB i p.mc.len = false; rw [h.lm]; exact he
  clear he
  have HK := Lib.hid (kinds_any (w := w.alloc (.cells (mdlCells p m) 29)) (p := p) (m := m))
  have HMB := Lib.hid (MB.start h)
  clear h
  unfold mdlVal at *
  unfold mdlCells at HK HMB
  go_enter Try.func43, Try.ntmps43
  go_wp2_with fail
  have hZ := HK.out
  (with_reducible refine Calls.mono hZ ?_)
  clear hZ HK
  rintro e w1 ⟨b, rfl, hM, hs⟩
  have hl := hM.lookup Try.underlying88 (zero64 w1) (k := (1 : Int)) (inI64_of (by decide) (by decide)) true
  have hl2 : (Instr.lookup 88 (.map (some b)) (.int .i64 1) true).run Try.prog w1 = .ok (.tuple #[.agg #[.int .i64 p.mc.len, .func (.func 68) #[] #[]], .bool true]) w1 := hl
  have HM1 := Lib.hid (HMB.out.keep hs)
  clear hM hs hl HMB
  obtain ⟨c0, c1, c2, c3, c4, c5, c6, c7, c8, c9, c10⟩ := HM1.out.all
  have hml := HM1.out.box.lt
  go_wp2_with fail
  refine (exists_any i p.mc.len _).mono ?_
  rintro e w2 ⟨rfl, rfl⟩
  rw [HE.out]
  go_wp2_with fail
  go_ret
  exact ⟨by rw [HR.out] <;> rfl, HM1.out.since.alloc _⟩

set_option maxHeartbeats 2000000 in
theorem dom1_norack {w : World} {p : MPl} {m : Mdl} (h : MdlIn w p m) {i : Int} {j : Nat} {x : Mc} (hij : i = (j : Int) + 1) (hx : m.machines[j]? = some x) (hr : exB x.rack m.racks.length = false) :
    Calls Try.prog 43 #[mdlVal p m, .int .i64 1, .int .i64 i] w fun e w' => e = .returned (.int .i64 (m.domain 1 i)) ∧ Same noB w w' := by
  subst hij
  have hj := (List.getElem?_eq_some_iff.1 hx).1
  have hxr := h.ok.machines x (List.mem_of_getElem? hx)
  have HR : Hid (m.domain 1 ((j : Int) + 1) = (j : Int) + 1) := by
    show m.domain _ _ = _
    rw [domain_yes hx]
    unfold Mdl.number
    rw [rackAt_no hr]
    rw [if_pos rfl, if_pos]; exact exB_iff.2 ⟨by omega, by show ((j : Int) + 1) ≤ (m.machines.length : Int); omega⟩
  have HE : Hid (exB ((j : Int) + 1) p.mc.len = true) := by show exB _ _ = true; rw [h.lm]; exact exB_iff.2 ⟨by omega, by omega⟩
  have HE2 : Hid (exB x.rack p.r.len = false) := by show exB _ _ = false; rw [h.lr]; exact hr
  have HX := Lib.hid hx
  have hj2 : j < p.mc.len := by rw [h.lm]; exact hj
  have hj3 : p.mc.len ≤ 9223372036854775807 := h.mc.bound
  clear hx hxr hr hj
  have HK := Lib.hid (kinds_any (w := w.alloc (.cells (mdlCells p m) 29)) (p := p) (m := m))
  have HMB := Lib.hid (MB.start h)
  clear h
  unfold mdlVal at *
  unfold mdlCells at HK HMB
  go_enter Try.func43, Try.ntmps43
  go_wp2_with fail
  have hZ := HK.out
  (with_reducible refine Calls.mono hZ ?_)
  clear hZ HK
  rintro e w1 ⟨b, rfl, hM, hs⟩
  have hl := hM.lookup Try.underlying88 (zero64 w1) (k := (1 : Int)) (inI64_of (by decide) (by decide)) true
  have hl2 : (Instr.lookup 88 (.map (some b)) (.int .i64 1) true).run Try.prog w1 = .ok (.tuple #[.agg #[.int .i64 p.mc.len, .func (.func 68) #[] #[]], .bool true]) w1 := hl
  have HM1 := Lib.hid (HMB.out.keep hs)
  clear hM hs hl HMB
  obtain ⟨c0, c1, c2, c3, c4, c5, c6, c7, c8, c9, c10⟩ := HM1.out.all
  have hml := HM1.out.box.lt
  obtain ⟨mb, mo, hma, x0, x1, x2, mbl⟩ := HM1.out.inn.mach HX.out
  rw [hma] at c3
  clear hma
  go_wp2_with fail
  refine (exists_any ((j : Int) + 1) p.mc.len _).mono ?_
  rintro e w2 ⟨rfl, rfl⟩
  rw [HE.out]
  go_wp2_with fail
  refine (exists_any x.rack p.r.len _).mono ?_
  rintro e w2 ⟨rfl, rfl⟩
  rw [HE2.out]
  go_wp2_with fail
  refine (c52 _ _ _ _ _ _).mono ?_
  rintro e w3 ⟨rfl, hs⟩
  have HS3 := Lib.hid (((HM1.out.since.alloc _).alloc _).trans' hs)
  have hs' := ((Same.refl noB w1).alloc _).alloc _ |>.trans' hs
  have k0 := hs.cell (show World.cell? _ ⟨w1.heap.size, 0, none⟩ = some (.int .i64 p.mc.len) by go_simp) (fun x => x)
  clear hs hs'
  go_wp2_with fail
  refine (exists_any ((j : Int) + 1) p.mc.len _).mono ?_
  rintro e w4 ⟨rfl, rfl⟩
  rw [HE.out]
  go_wp2_with fail
  go_ret
  exact ⟨by rw [HR.out] <;> rfl, HS3.out⟩

set_option maxHeartbeats 2000000 in
theorem dom1_rack {w : World} {p : MPl} {m : Mdl} (h : MdlIn w p m) {i : Int} {j : Nat} {x : Mc} (hij : i = (j : Int) + 1) (hx : m.machines[j]? = some x) (hr : exB x.rack m.racks.length = true) :
    Calls Try.prog 43 #[mdlVal p m, .int .i64 1, .int .i64 i] w fun e w' => e = .returned (.int .i64 (m.domain 1 i)) ∧ Same noB w w' := by
  subst hij
  have hj := (List.getElem?_eq_some_iff.1 hx).1
  obtain ⟨t, y, hrt, ht, hy, hy2⟩ := rackAt_yes hr
  have hnum : m.number 1 ((j : Int) + 1) x = ((j : Int) + 1) := by
    unfold Mdl.number
    simp
  have hdl : m.domains 1 = p.mc.len := by rw [show m.domains 1 = m.machines.length from rfl]; exact h.lm.symm
  have HR : Hid (m.domain 1 ((j : Int) + 1) = if exB ((j : Int) + 1) p.mc.len then ((j : Int) + 1) else 0) := by
    show m.domain _ _ = _
    rw [domain_yes hx, hnum, hdl]
  have HE : Hid (exB ((j : Int) + 1) p.mc.len = true) := by show exB _ _ = true; rw [h.lm]; exact exB_iff.2 ⟨by omega, by omega⟩
  have HE2 : Hid (exB ((t : Int) + 1) p.r.len = true) := by show exB _ _ = true; rw [h.lr]; exact exB_iff.2 ⟨by omega, by omega⟩
  have HX := Lib.hid hx
  have HRT := Lib.hid hrt
  have HY := Lib.hid hy
  have hj2 : j < p.mc.len := by rw [h.lm]; exact hj
  have hj3 : p.mc.len ≤ 9223372036854775807 := h.mc.bound
  have ht2 : t < p.r.len := by rw [h.lr]; exact ht
  have ht3 : p.r.len ≤ 9223372036854775807 := h.r.bound
  clear hx hrt hy hy2 hr hj hnum hdl ht
  have HK := Lib.hid (kinds_any (w := w.alloc (.cells (mdlCells p m) 29)) (p := p) (m := m))
  have HMB := Lib.hid (MB.start h)
  clear h
  unfold mdlVal at *
  unfold mdlCells at HK HMB
  go_enter Try.func43, Try.ntmps43
  go_wp2_with fail
  have hZ := HK.out
  (with_reducible refine Calls.mono hZ ?_)
  clear hZ HK
  rintro e w1 ⟨b, rfl, hM, hs⟩
  have hl := hM.lookup Try.underlying88 (zero64 w1) (k := (1 : Int)) (inI64_of (by decide) (by decide)) true
  have hl2 : (Instr.lookup 88 (.map (some b)) (.int .i64 1) true).run Try.prog w1 = .ok (.tuple #[.agg #[.int .i64 p.mc.len, .func (.func 68) #[] #[]], .bool true]) w1 := hl
  have HM1 := Lib.hid (HMB.out.keep hs)
  clear hM hs hl HMB
  obtain ⟨c0, c1, c2, c3, c4, c5, c6, c7, c8, c9, c10⟩ := HM1.out.all
  have hml := HM1.out.box.lt
  obtain ⟨rb, ro, hra, y0, y1, y2, rbl⟩ := HM1.out.inn.rack HY.out
  rw [hra] at c2
  clear hra
  obtain ⟨mb, mo, hma, x0, x1, x2, mbl⟩ := HM1.out.inn.mach HX.out
  rw [hma] at c3
  rw [HRT.out] at x1
  clear hma
  go_wp2_with fail
  refine (exists_any ((j : Int) + 1) p.mc.len _).mono ?_
  rintro e w2 ⟨rfl, rfl⟩
  rw [HE.out]
  go_wp2_with fail
  refine (exists_any ((t : Int) + 1) p.r.len _).mono ?_
  rintro e w2 ⟨rfl, rfl⟩
  rw [HE2.out]
  go_wp2_with fail
  refine (c52 _ _ _ _ _ _).mono ?_
  rintro e w3 ⟨rfl, hs⟩
  have k0 := hs.cell (show World.cell? _ ⟨w1.heap.size, 0, none⟩ = some (.int .i64 p.mc.len) by go_simp) (fun x => x)
  have HS3 := Lib.hid (((HM1.out.since.alloc _).alloc _).trans' hs)
  clear hs
  go_wp2_with fail
  refine (exists_any _ p.mc.len _).mono ?_
  rintro e w4 ⟨rfl, rfl⟩
  cases hq : exB ((j : Int) + 1) p.mc.len
  · rw [hq] at HR
    go_wp2_with fail
    go_ret
    exact ⟨by rw [HR.out] <;> rfl, HS3.out⟩
  · rw [hq] at HR
    go_wp2_with fail
    go_ret
    exact ⟨by rw [HR.out] <;> rfl, HS3.out⟩

set_option maxHeartbeats 2000000 in
theorem dom2_no {w : World} {p : MPl} {m : Mdl} (h : MdlIn w p m) {i : Int} (he : exB i m.machines.length = false) :
    Calls Try.prog 43 #[mdlVal p m, .int .i64 2, .int .i64 i] w fun e w' => e = .returned (.int .i64 (m.domain 2 i)) ∧ Same noB w w' := by
  have HR := Lib.hid (domain_no (m := m) (by_ := 2) he)
  have HE : Hid (exB i p.mc.len = false) := by show exB i p.mc.len = false; rw [h.lm]; exact he
  clear he
  have HK := Lib.hid (kinds_any (w := w.alloc (.cells (mdlCells p m) 29)) (p := p) (m := m))
  have HMB := Lib.hid (MB.start h)
  clear h
  unfold mdlVal at *
  unfold mdlCells at HK HMB
  go_enter Try.func43, Try.ntmps43
  go_wp2_with fail
  have hZ := HK.out
  (with_reducible refine Calls.mono hZ ?_)
  clear hZ HK
  rintro e w1 ⟨b, rfl, hM, hs⟩
  have hl := hM.lookup Try.underlying88 (zero64 w1) (k := (2 : Int)) (inI64_of (by decide) (by decide)) true
  have hl2 : (Instr.lookup 88 (.map (some b)) (.int .i64 2) true).run Try.prog w1 = .ok (.tuple #[.agg #[.int .i64 p.r.len, .func (.func 69) #[] #[]], .bool true]) w1 := hl
  have HM1 := Lib.hid (HMB.out.keep hs)
  clear hM hs hl HMB
  obtain ⟨c0, c1, c2, c3, c4, c5, c6, c7, c8, c9, c10⟩ := HM1.out.all
  have hml := HM1.out.box.lt
  go_wp2_with fail
  refine (exists_any i p.mc.len _).mono ?_
  rintro e w2 ⟨rfl, rfl⟩
  rw [HE.out]
  go_wp2_with fail
  go_ret
  exact ⟨by rw [HR.out] <;> rfl, HM1.out.since.alloc _⟩

set_option maxHeartbeats 2000000 in
theorem dom2_norack {w : World} {p : MPl} {m : Mdl} (h : MdlIn w p m) {i : Int} {j : Nat} {x : Mc} (hij : i = (j : Int) + 1) (hx : m.machines[j]? = some x) (hr : exB x.rack m.racks.length = false) :
    Calls Try.prog 43 #[mdlVal p m, .int .i64 2, .int .i64 i] w fun e w' => e = .returned (.int .i64 (m.domain 2 i)) ∧ Same noB w w' := by
  subst hij
  have hj := (List.getElem?_eq_some_iff.1 hx).1
  have hxr := h.ok.machines x (List.mem_of_getElem? hx)
  have HR : Hid (m.domain 2 ((j : Int) + 1) = 0) := by
    show m.domain _ _ = _
    rw [domain_yes hx]
    unfold Mdl.number
    rw [rackAt_no hr]
    simp [exB_zero]
  have HE : Hid (exB ((j : Int) + 1) p.mc.len = true) := by show exB _ _ = true; rw [h.lm]; exact exB_iff.2 ⟨by omega, by omega⟩
  have HE2 : Hid (exB x.rack p.r.len = false) := by show exB _ _ = false; rw [h.lr]; exact hr
  have HX := Lib.hid hx
  have hj2 : j < p.mc.len := by rw [h.lm]; exact hj
  have hj3 : p.mc.len ≤ 9223372036854775807 := h.mc.bound
  clear hx hxr hr hj
  have HK := Lib.hid (kinds_any (w := w.alloc (.cells (mdlCells p m) 29)) (p := p) (m := m))
  have HMB := Lib.hid (MB.start h)
  clear h
  unfold mdlVal at *
  unfold mdlCells at HK HMB
  go_enter Try.func43, Try.ntmps43
  go_wp2_with fail
  have hZ := HK.out
  (with_reducible refine Calls.mono hZ ?_)
  clear hZ HK
  rintro e w1 ⟨b, rfl, hM, hs⟩
  have hl := hM.lookup Try.underlying88 (zero64 w1) (k := (2 : Int)) (inI64_of (by decide) (by decide)) true
  have hl2 : (Instr.lookup 88 (.map (some b)) (.int .i64 2) true).run Try.prog w1 = .ok (.tuple #[.agg #[.int .i64 p.r.len, .func (.func 69) #[] #[]], .bool true]) w1 := hl
  have HM1 := Lib.hid (HMB.out.keep hs)
  clear hM hs hl HMB
  obtain ⟨c0, c1, c2, c3, c4, c5, c6, c7, c8, c9, c10⟩ := HM1.out.all
  have hml := HM1.out.box.lt
  obtain ⟨mb, mo, hma, x0, x1, x2, mbl⟩ := HM1.out.inn.mach HX.out
  rw [hma] at c3
  clear hma
  go_wp2_with fail
  refine (exists_any ((j : Int) + 1) p.mc.len _).mono ?_
  rintro e w2 ⟨rfl, rfl⟩
  rw [HE.out]
  go_wp2_with fail
  refine (exists_any x.rack p.r.len _).mono ?_
  rintro e w2 ⟨rfl, rfl⟩
  rw [HE2.out]
  go_wp2_with fail
  go_ret
  exact ⟨by rw [HR.out] <;> rfl, (HM1.out.since.alloc _).alloc _⟩

set_option maxHeartbeats 2000000 in
theorem dom2_rack {w : World} {p : MPl} {m : Mdl} (h : MdlIn w p m) {i : Int} {j : Nat} {x : Mc} (hij : i = (j : Int) + 1) (hx : m.machines[j]? = some x) (hr : exB x.rack m.racks.length = true) :
    Calls Try.prog 43 #[mdlVal p m, .int .i64 2, .int .i64 i] w fun e w' => e = .returned (.int .i64 (m.domain 2 i)) ∧ Same noB w w' := by
  subst hij
  have hj := (List.getElem?_eq_some_iff.1 hx).1
  obtain ⟨t, y, hrt, ht, hy, hy2⟩ := rackAt_yes hr
  have hnum : m.number 2 ((j : Int) + 1) x = ((t : Int) + 1) := by
    unfold Mdl.number
    simp [hy2]; exact hrt
  have hdl : m.domains 2 = p.r.len := by rw [show m.domains 2 = m.racks.length from rfl]; exact h.lr.symm
  have HR : Hid (m.domain 2 ((j : Int) + 1) = if exB ((t : Int) + 1) p.r.len then ((t : Int) + 1) else 0) := by
    show m.domain _ _ = _
    rw [domain_yes hx, hnum, hdl]
  have HE : Hid (exB ((j : Int) + 1) p.mc.len = true) := by show exB _ _ = true; rw [h.lm]; exact exB_iff.2 ⟨by omega, by omega⟩
  have HE2 : Hid (exB ((t : Int) + 1) p.r.len = true) := by show exB _ _ = true; rw [h.lr]; exact exB_iff.2 ⟨by omega, by omega⟩
  have HX := Lib.hid hx
  have HRT := Lib.hid hrt
  have HY := Lib.hid hy
  have hj2 : j < p.mc.len := by rw [h.lm]; exact hj
  have hj3 : p.mc.len ≤ 9223372036854775807 := h.mc.bound
  have ht2 : t < p.r.len := by rw [h.lr]; exact ht
  have ht3 : p.r.len ≤ 9223372036854775807 := h.r.bound
  clear hx hrt hy hy2 hr hj hnum hdl ht
  have HK := Lib.hid (kinds_any (w := w.alloc (.cells (mdlCells p m) 29)) (p := p) (m := m))
  have HMB := Lib.hid (MB.start h)
  clear h
  unfold mdlVal at *
  unfold mdlCells at HK HMB
  go_enter Try.func43, Try.ntmps43
  go_wp2_with fail
  have hZ := HK.out
  (with_reducible refine Calls.mono hZ ?_)
  clear hZ HK
  rintro e w1 ⟨b, rfl, hM, hs⟩
  have hl := hM.lookup Try.underlying88 (zero64 w1) (k := (2 : Int)) (inI64_of (by decide) (by decide)) true
  have hl2 : (Instr.lookup 88 (.map (some b)) (.int .i64 2) true).run Try.prog w1 = .ok (.tuple #[.agg #[.int .i64 p.r.len, .func (.func 69) #[] #[]], .bool true]) w1 := hl
  have HM1 := Lib.hid (HMB.out.keep hs)
  clear hM hs hl HMB
  obtain ⟨c0, c1, c2, c3, c4, c5, c6, c7, c8, c9, c10⟩ := HM1.out.all
  have hml := HM1.out.box.lt
  obtain ⟨rb, ro, hra, y0, y1, y2, rbl⟩ := HM1.out.inn.rack HY.out
  rw [hra] at c2
  clear hra
  obtain ⟨mb, mo, hma, x0, x1, x2, mbl⟩ := HM1.out.inn.mach HX.out
  rw [hma] at c3
  rw [HRT.out] at x1
  clear hma
  go_wp2_with fail
  refine (exists_any ((j : Int) + 1) p.mc.len _).mono ?_
  rintro e w2 ⟨rfl, rfl⟩
  rw [HE.out]
  go_wp2_with fail
  refine (exists_any ((t : Int) + 1) p.r.len _).mono ?_
  rintro e w2 ⟨rfl, rfl⟩
  rw [HE2.out]
  go_wp2_with fail
  refine (c53 _ _ _ _ _ _).mono ?_
  rintro e w3 ⟨rfl, hs⟩
  have k0 := hs.cell (show World.cell? _ ⟨w1.heap.size, 0, none⟩ = some (.int .i64 p.r.len) by go_simp) (fun x => x)
  have HS3 := Lib.hid (((HM1.out.since.alloc _).alloc _).trans' hs)
  clear hs
  go_wp2_with fail
  refine (exists_any _ p.r.len _).mono ?_
  rintro e w4 ⟨rfl, rfl⟩
  cases hq : exB ((t : Int) + 1) p.r.len
  · rw [hq] at HR
    go_wp2_with fail
    go_ret
    exact ⟨by rw [HR.out] <;> rfl, HS3.out⟩
  · rw [hq] at HR
    go_wp2_with fail
    go_ret
    exact ⟨by rw [HR.out] <;> rfl, HS3.out⟩

set_option maxHeartbeats 2000000 in
theorem dom3_no {w : World} {p : MPl} {m : Mdl} (h : MdlIn w p m) {i : Int} (he : exB i m.machines.length = false) :
    Calls Try.prog 43 #[mdlVal p m, .int .i64 3, .int .i64 i] w fun e w' => e = .returned (.int .i64 (m.domain 3 i)) ∧ Same noB w w' := by
  have HR := Lib.hid (domain_no (m := m) (by_ := 3) he)
  have HE : Hid (exB i p.mc.len = false) := by show exB i p.mc.len = false; rw [h.lm]; exact he
  clear he
  have HK := Lib.hid (kinds_any (w := w.alloc (.cells (mdlCells p m) 29)) (p := p) (m := m))
  have HMB := Lib.hid (MB.start h)
  clear h
  unfold mdlVal at *
  unfold mdlCells at HK HMB
  go_enter Try.func43, Try.ntmps43
  go_wp2_with fail
  have hZ := HK.out
  (with_reducible refine Calls.mono hZ ?_)
  clear hZ HK
  rintro e w1 ⟨b, rfl, hM, hs⟩
  have hl := hM.lookup Try.underlying88 (zero64 w1) (k := (3 : Int)) (inI64_of (by decide) (by decide)) true
  have hl2 : (Instr.lookup 88 (.map (some b)) (.int .i64 3) true).run Try.prog w1 = .ok (.tuple #[.agg #[.int .i64 p.f.len, .func (.func 70) #[] #[]], .bool true]) w1 := hl
  have HM1 := Lib.hid (HMB.out.keep hs)
  clear hM hs hl HMB
  obtain ⟨c0, c1, c2, c3, c4, c5, c6, c7, c8, c9, c10⟩ := HM1.out.all
  have hml := HM1.out.box.lt
  go_wp2_with fail
  refine (exists_any i p.mc.len _).mono ?_
  rintro e w2 ⟨rfl, rfl⟩
  rw [HE.out]
  go_wp2_with fail
  go_ret
  exact ⟨by rw [HR.out] <;> rfl, HM1.out.since.alloc _⟩

set_option maxHeartbeats 2000000 in
theorem dom3_norack {w : World} {p : MPl} {m : Mdl} (h : MdlIn w p m) {i : Int} {j : Nat} {x : Mc} (hij : i = (j : Int) + 1) (hx : m.machines[j]? = some x) (hr : exB x.rack m.racks.length = false) :
    Calls Try.prog 43 #[mdlVal p m, .int .i64 3, .int .i64 i] w fun e w' => e = .returned (.int .i64 (m.domain 3 i)) ∧ Same noB w w' := by
  subst hij
  have hj := (List.getElem?_eq_some_iff.1 hx).1
  have hxr := h.ok.machines x (List.mem_of_getElem? hx)
  have HR : Hid (m.domain 3 ((j : Int) + 1) = 0) := by
    show m.domain _ _ = _
    rw [domain_yes hx]
    unfold Mdl.number
    rw [rackAt_no hr]
    simp [exB_zero]
  have HE : Hid (exB ((j : Int) + 1) p.mc.len = true) := by show exB _ _ = true; rw [h.lm]; exact exB_iff.2 ⟨by omega, by omega⟩
  have HE2 : Hid (exB x.rack p.r.len = false) := by show exB _ _ = false; rw [h.lr]; exact hr
  have HX := Lib.hid hx
  have hj2 : j < p.mc.len := by rw [h.lm]; exact hj
  have hj3 : p.mc.len ≤ 9223372036854775807 := h.mc.bound
  clear hx hxr hr hj
  have HK := Lib.hid (kinds_any (w := w.alloc (.cells (mdlCells p m) 29)) (p := p) (m := m))
  have HMB := Lib.hid (MB.start h)
  clear h
  unfold mdlVal at *
  unfold mdlCells at HK HMB
  go_enter Try.func43, Try.ntmps43
  go_wp2_with fail
  have hZ := HK.out
  (with_reducible refine Calls.mono hZ ?_)
  clear hZ HK
  rintro e w1 ⟨b, rfl, hM, hs⟩
  have hl := hM.lookup Try.underlying88 (zero64 w1) (k := (3 : Int)) (inI64_of (by decide) (by decide)) true
  have hl2 : (Instr.lookup 88 (.map (some b)) (.int .i64 3) true).run Try.prog w1 = .ok (.tuple #[.agg #[.int .i64 p.f.len, .func (.func 70) #[] #[]], .bool true]) w1 := hl
  have HM1 := Lib.hid (HMB.out.keep hs)
  clear hM hs hl HMB
  obtain ⟨c0, c1, c2, c3, c4, c5, c6, c7, c8, c9, c10⟩ := HM1.out.all
  have hml := HM1.out.box.lt
  obtain ⟨mb, mo, hma, x0, x1, x2, mbl⟩ := HM1.out.inn.mach HX.out
  rw [hma] at c3
  clear hma
  go_wp2_with fail
  refine (exists_any ((j : Int) + 1) p.mc.len _).mono ?_
  rintro e w2 ⟨rfl, rfl⟩
  rw [HE.out]
  go_wp2_with fail
  refine (exists_any x.rack p.r.len _).mono ?_
  rintro e w2 ⟨rfl, rfl⟩
  rw [HE2.out]
  go_wp2_with fail
  go_ret
  exact ⟨by rw [HR.out] <;> rfl, (HM1.out.since.alloc _).alloc _⟩

set_option maxHeartbeats 2000000 in
theorem dom3_rack {w : World} {p : MPl} {m : Mdl} (h : MdlIn w p m) {i : Int} {j : Nat} {x : Mc} (hij : i = (j : Int) + 1) (hx : m.machines[j]? = some x) (hr : exB x.rack m.racks.length = true) :
    Calls Try.prog 43 #[mdlVal p m, .int .i64 3, .int .i64 i] w fun e w' => e = .returned (.int .i64 (m.domain 3 i)) ∧ Same noB w w' := by
  subst hij
  have hj := (List.getElem?_eq_some_iff.1 hx).1
  obtain ⟨t, y, hrt, ht, hy, hy2⟩ := rackAt_yes hr
  have hnum : m.number 3 ((j : Int) + 1) x = y.feed := by
    unfold Mdl.number
    simp [hy2]
  have hdl : m.domains 3 = p.f.len := by rw [show m.domains 3 = m.feeds.length from rfl]; exact h.lf.symm
  have HR : Hid (m.domain 3 ((j : Int) + 1) = if exB y.feed p.f.len then y.feed else 0) := by
    show m.domain _ _ = _
    rw [domain_yes hx, hnum, hdl]
  have HE : Hid (exB ((j : Int) + 1) p.mc.len = true) := by show exB _ _ = true; rw [h.lm]; exact exB_iff.2 ⟨by omega, by omega⟩
  have HE2 : Hid (exB ((t : Int) + 1) p.r.len = true) := by show exB _ _ = true; rw [h.lr]; exact exB_iff.2 ⟨by omega, by omega⟩
  have HX := Lib.hid hx
  have HRT := Lib.hid hrt
  have HY := Lib.hid hy
  have hj2 : j < p.mc.len := by rw [h.lm]; exact hj
  have hj3 : p.mc.len ≤ 9223372036854775807 := h.mc.bound
  have ht2 : t < p.r.len := by rw [h.lr]; exact ht
  have ht3 : p.r.len ≤ 9223372036854775807 := h.r.bound
  clear hx hrt hy hy2 hr hj hnum hdl ht
  have HK := Lib.hid (kinds_any (w := w.alloc (.cells (mdlCells p m) 29)) (p := p) (m := m))
  have HMB := Lib.hid (MB.start h)
  clear h
  unfold mdlVal at *
  unfold mdlCells at HK HMB
  go_enter Try.func43, Try.ntmps43
  go_wp2_with fail
  have hZ := HK.out
  (with_reducible refine Calls.mono hZ ?_)
  clear hZ HK
  rintro e w1 ⟨b, rfl, hM, hs⟩
  have hl := hM.lookup Try.underlying88 (zero64 w1) (k := (3 : Int)) (inI64_of (by decide) (by decide)) true
  have hl2 : (Instr.lookup 88 (.map (some b)) (.int .i64 3) true).run Try.prog w1 = .ok (.tuple #[.agg #[.int .i64 p.f.len, .func (.func 70) #[] #[]], .bool true]) w1 := hl
  have HM1 := Lib.hid (HMB.out.keep hs)
  clear hM hs hl HMB
  obtain ⟨c0, c1, c2, c3, c4, c5, c6, c7, c8, c9, c10⟩ := HM1.out.all
  have hml := HM1.out.box.lt
  obtain ⟨rb, ro, hra, y0, y1, y2, rbl⟩ := HM1.out.inn.rack HY.out
  rw [hra] at c2
  clear hra
  obtain ⟨mb, mo, hma, x0, x1, x2, mbl⟩ := HM1.out.inn.mach HX.out
  rw [hma] at c3
  rw [HRT.out] at x1
  clear hma
  go_wp2_with fail
  refine (exists_any ((j : Int) + 1) p.mc.len _).mono ?_
  rintro e w2 ⟨rfl, rfl⟩
  rw [HE.out]
  go_wp2_with fail
  refine (exists_any ((t : Int) + 1) p.r.len _).mono ?_
  rintro e w2 ⟨rfl, rfl⟩
  rw [HE2.out]
  go_wp2_with fail
  refine (c54 _ _ _ _ _ _).mono ?_
  rintro e w3 ⟨rfl, hs⟩
  have k0 := hs.cell (show World.cell? _ ⟨w1.heap.size, 0, none⟩ = some (.int .i64 p.f.len) by go_simp) (fun x => x)
  have HS3 := Lib.hid (((HM1.out.since.alloc _).alloc _).trans' hs)
  clear hs
  go_wp2_with fail
  refine (exists_any _ p.f.len _).mono ?_
  rintro e w4 ⟨rfl, rfl⟩
  cases hq : exB y.feed p.f.len
  · rw [hq] at HR
    go_wp2_with fail
    go_ret
    exact ⟨by rw [HR.out] <;> rfl, HS3.out⟩
  · rw [hq] at HR
    go_wp2_with fail
    go_ret
    exact ⟨by rw [HR.out] <;> rfl, HS3.out⟩

set_option maxHeartbeats 2000000 in
theorem dom4_no {w : World} {p : MPl} {m : Mdl} (h : MdlIn w p m) {i : Int} (he : exB i m.machines.length = false) :
    Calls Try.prog 43 #[mdlVal p m, .int .i64 4, .int .i64 i] w fun e w' => e = .returned (.int .i64 (m.domain 4 i)) ∧ Same noB w w' := by
  have HR := Lib.hid (domain_no (m := m) (by_ := 4) he)
  have HE : Hid (exB i p.mc.len = false) := by show exB i p.mc.len = false; rw [h.lm]; exact he
  clear he
  have HK := Lib.hid (kinds_any (w := w.alloc (.cells (mdlCells p m) 29)) (p := p) (m := m))
  have HMB := Lib.hid (MB.start h)
  clear h
  unfold mdlVal at *
  unfold mdlCells at HK HMB
  go_enter Try.func43, Try.ntmps43
  go_wp2_with fail
  have hZ := HK.out
  (with_reducible refine Calls.mono hZ ?_)
  clear hZ HK
  rintro e w1 ⟨b, rfl, hM, hs⟩
  have hl := hM.lookup Try.underlying88 (zero64 w1) (k := (4 : Int)) (inI64_of (by decide) (by decide)) true
  have hl2 : (Instr.lookup 88 (.map (some b)) (.int .i64 4) true).run Try.prog w1 = .ok (.tuple #[.agg #[.int .i64 p.s.len, .func (.func 71) #[] #[]], .bool true]) w1 := hl
  have HM1 := Lib.hid (HMB.out.keep hs)
  clear hM hs hl HMB
  obtain ⟨c0, c1, c2, c3, c4, c5, c6, c7, c8, c9, c10⟩ := HM1.out.all
  have hml := HM1.out.box.lt
  go_wp2_with fail
  refine (exists_any i p.mc.len _).mono ?_
  rintro e w2 ⟨rfl, rfl⟩
  rw [HE.out]
  go_wp2_with fail
  go_ret
  exact ⟨by rw [HR.out] <;> rfl, HM1.out.since.alloc _⟩

set_option maxHeartbeats 2000000 in
theorem dom4_norack {w : World} {p : MPl} {m : Mdl} (h : MdlIn w p m) {i : Int} {j : Nat} {x : Mc} (hij : i = (j : Int) + 1) (hx : m.machines[j]? = some x) (hr : exB x.rack m.racks.length = false) :
    Calls Try.prog 43 #[mdlVal p m, .int .i64 4, .int .i64 i] w fun e w' => e = .returned (.int .i64 (m.domain 4 i)) ∧ Same noB w w' := by
  subst hij
  have hj := (List.getElem?_eq_some_iff.1 hx).1
  have hxr := h.ok.machines x (List.mem_of_getElem? hx)
  have HR : Hid (m.domain 4 ((j : Int) + 1) = 0) := by
    show m.domain _ _ = _
    rw [domain_yes hx]
    unfold Mdl.number
    rw [rackAt_no hr]
    simp [exB_zero]
  have HE : Hid (exB ((j : Int) + 1) p.mc.len = true) := by show exB _ _ = true; rw [h.lm]; exact exB_iff.2 ⟨by omega, by omega⟩
  have HE2 : Hid (exB x.rack p.r.len = false) := by show exB _ _ = false; rw [h.lr]; exact hr
  have HX := Lib.hid hx
  have hj2 : j < p.mc.len := by rw [h.lm]; exact hj
  have hj3 : p.mc.len ≤ 9223372036854775807 := h.mc.bound
  clear hx hxr hr hj
  have HK := Lib.hid (kinds_any (w := w.alloc (.cells (mdlCells p m) 29)) (p := p) (m := m))
  have HMB := Lib.hid (MB.start h)
  clear h
  unfold mdlVal at *
  unfold mdlCells at HK HMB
  go_enter Try.func43, Try.ntmps43
  go_wp2_with fail
  have hZ := HK.out
  (with_reducible refine Calls.mono hZ ?_)
  clear hZ HK
  rintro e w1 ⟨b, rfl, hM, hs⟩
  have hl := hM.lookup Try.underlying88 (zero64 w1) (k := (4 : Int)) (inI64_of (by decide) (by decide)) true
  have hl2 : (Instr.lookup 88 (.map (some b)) (.int .i64 4) true).run Try.prog w1 = .ok (.tuple #[.agg #[.int .i64 p.s.len, .func (.func 71) #[] #[]], .bool true]) w1 := hl
  have HM1 := Lib.hid (HMB.out.keep hs)
  clear hM hs hl HMB
  obtain ⟨c0, c1, c2, c3, c4, c5, c6, c7, c8, c9, c10⟩ := HM1.out.all
  have hml := HM1.out.box.lt
  obtain ⟨mb, mo, hma, x0, x1, x2, mbl⟩ := HM1.out.inn.mach HX.out
  rw [hma] at c3
  clear hma
  go_wp2_with fail
  refine (exists_any ((j : Int) + 1) p.mc.len _).mono ?_
  rintro e w2 ⟨rfl, rfl⟩
  rw [HE.out]
  go_wp2_with fail
  refine (exists_any x.rack p.r.len _).mono ?_
  rintro e w2 ⟨rfl, rfl⟩
  rw [HE2.out]
  go_wp2_with fail
  go_ret
  exact ⟨by rw [HR.out] <;> rfl, (HM1.out.since.alloc _).alloc _⟩

set_option maxHeartbeats 2000000 in
theorem dom4_rack {w : World} {p : MPl} {m : Mdl} (h : MdlIn w p m) {i : Int} {j : Nat} {x : Mc} (hij : i = (j : Int) + 1) (hx : m.machines[j]? = some x) (hr : exB x.rack m.racks.length = true) :
    Calls Try.prog 43 #[mdlVal p m, .int .i64 4, .int .i64 i] w fun e w' => e = .returned (.int .i64 (m.domain 4 i)) ∧ Same noB w w' := by
  subst hij
  have hj := (List.getElem?_eq_some_iff.1 hx).1
  obtain ⟨t, y, hrt, ht, hy, hy2⟩ := rackAt_yes hr
  have hnum : m.number 4 ((j : Int) + 1) x = y.site := by
    unfold Mdl.number
    simp [hy2]
  have hdl : m.domains 4 = p.s.len := by rw [show m.domains 4 = m.sites.length from rfl]; exact h.ls.symm
  have HR : Hid (m.domain 4 ((j : Int) + 1) = if exB y.site p.s.len then y.site else 0) := by
    show m.domain _ _ = _
    rw [domain_yes hx, hnum, hdl]
  have HE : Hid (exB ((j : Int) + 1) p.mc.len = true) := by show exB _ _ = true; rw [h.lm]; exact exB_iff.2 ⟨by omega, by omega⟩
  have HE2 : Hid (exB ((t : Int) + 1) p.r.len = true) := by show exB _ _ = true; rw [h.lr]; exact exB_iff.2 ⟨by omega, by omega⟩
  have HX := Lib.hid hx
  have HRT := Lib.hid hrt
  have HY := Lib.hid hy
  have hj2 : j < p.mc.len := by rw [h.lm]; exact hj
  have hj3 : p.mc.len ≤ 9223372036854775807 := h.mc.bound
  have ht2 : t < p.r.len := by rw [h.lr]; exact ht
  have ht3 : p.r.len ≤ 9223372036854775807 := h.r.bound
  clear hx hrt hy hy2 hr hj hnum hdl ht
  have HK := Lib.hid (kinds_any (w := w.alloc (.cells (mdlCells p m) 29)) (p := p) (m := m))
  have HMB := Lib.hid (MB.start h)
  clear h
  unfold mdlVal at *
  unfold mdlCells at HK HMB
  go_enter Try.func43, Try.ntmps43
  go_wp2_with fail
  have hZ := HK.out
  (with_reducible refine Calls.mono hZ ?_)
  clear hZ HK
  rintro e w1 ⟨b, rfl, hM, hs⟩
  have hl := hM.lookup Try.underlying88 (zero64 w1) (k := (4 : Int)) (inI64_of (by decide) (by decide)) true
  have hl2 : (Instr.lookup 88 (.map (some b)) (.int .i64 4) true).run Try.prog w1 = .ok (.tuple #[.agg #[.int .i64 p.s.len, .func (.func 71) #[] #[]], .bool true]) w1 := hl
  have HM1 := Lib.hid (HMB.out.keep hs)
  clear hM hs hl HMB
  obtain ⟨c0, c1, c2, c3, c4, c5, c6, c7, c8, c9, c10⟩ := HM1.out.all
  have hml := HM1.out.box.lt
  obtain ⟨rb, ro, hra, y0, y1, y2, rbl⟩ := HM1.out.inn.rack HY.out
  rw [hra] at c2
  clear hra
  obtain ⟨mb, mo, hma, x0, x1, x2, mbl⟩ := HM1.out.inn.mach HX.out
  rw [hma] at c3
  rw [HRT.out] at x1
  clear hma
  go_wp2_with fail
  refine (exists_any ((j : Int) + 1) p.mc.len _).mono ?_
  rintro e w2 ⟨rfl, rfl⟩
  rw [HE.out]
  go_wp2_with fail
  refine (exists_any ((t : Int) + 1) p.r.len _).mono ?_
  rintro e w2 ⟨rfl, rfl⟩
  rw [HE2.out]
  go_wp2_with fail
  refine (c55 _ _ _ _ _ _).mono ?_
  rintro e w3 ⟨rfl, hs⟩
  have k0 := hs.cell (show World.cell? _ ⟨w1.heap.size, 0, none⟩ = some (.int .i64 p.s.len) by go_simp) (fun x => x)
  have HS3 := Lib.hid (((HM1.out.since.alloc _).alloc _).trans' hs)
  clear hs
  go_wp2_with fail
  refine (exists_any _ p.s.len _).mono ?_
  rintro e w4 ⟨rfl, rfl⟩
  cases hq : exB y.site p.s.len
  · rw [hq] at HR
    go_wp2_with fail
    go_ret
    exact ⟨by rw [HR.out] <;> rfl, HS3.out⟩
  · rw [hq] at HR
    go_wp2_with fail
    go_ret
    exact ⟨by rw [HR.out] <;> rfl, HS3.out⟩
end Go.Proofs.Ytpngmodgnkjhnaa
