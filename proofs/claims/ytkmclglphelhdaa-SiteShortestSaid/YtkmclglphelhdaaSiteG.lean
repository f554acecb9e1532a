/- Layer 14: Capacity, Link and Near of the program and of the reference. (printed by genSiteG.py) -/
import Derived.Test.YtkmclglphelhdaaSiteF
namespace Go.Proofs.Ytkmclglphelhdaa
open Go Go.RowKit Go.Maps

theorem machinesOf_mem {m : Mdl} {by_ num : Int} {k : Nat} {y : Int} (h : (m.machinesOf by_ num)[k]? = some y) : ∃ j : Nat, y = (j : Int) + 1 ∧ j < m.machines.length := by
  have h2 := List.mem_of_getElem? h
  unfold Mdl.machinesOf at h2
  obtain ⟨j, hj, rfl⟩ := List.mem_map.1 h2
  exact ⟨j, rfl, List.mem_range.1 (List.mem_filter.1 hj).1⟩
def Mdl.capK (m : Mdl) (by_ num : Int) (k : Nat) : Int := ((m.machinesOf by_ num).take k).foldl (fun s i => wrap64 (s + m.capAt i)) 0
theorem capK_step {m : Mdl} {by_ num : Int} {k j : Nat} {x : Mc} (h : (m.machinesOf by_ num)[k]? = some ((j : Int) + 1)) (hx : m.machines[j]? = some x) : m.capK by_ num (k + 1) = wrap64 (m.capK by_ num k + x.cap) := by
  unfold Mdl.capK
  rw [List.take_add_one, h, List.foldl_append]
  unfold Mdl.capAt
  simp [hx]

set_option maxHeartbeats 2000000 in
theorem capacity_any {w : World} {p : MPl} {m : Mdl} (h : MdlIn w p m) {by_ num : Int} (hb : inI64 by_) (hlen : m.machines.length ≤ 1000000) :
    Calls Try.prog 21 #[mdlVal p m, .int .i64 by_, .int .i64 num] w fun e w' => e = .returned (.int .i64 (m.capacity by_ num)) ∧ Same noB w w' := by
  have HMB := Lib.hid (MB.start h)
  have HC : Hid (m.capacity by_ num = m.capK by_ num (m.machinesOf by_ num).length) := by
    show _ = Mdl.capK _ _ _ _
    unfold Mdl.capK
    rw [List.take_length]
    rfl
  have hlen2 : p.mc.len ≤ 1000000 := by rw [h.lm]; exact hlen
  have HLM := Lib.hid h.lm
  have Hb := Lib.hid hb
  have HL := Lib.hid hlen
  have hml2 : (m.machinesOf by_ num).length ≤ 1000000 := Nat.le_trans (mof_len m by_ num m.machines.length) hlen
  generalize m.capacity by_ num = q at *
  clear h hb hlen
  unfold mdlVal at *
  unfold mdlCells at HMB
  go_enter Try.func21, Try.ntmps21
  go_wp2_with fail
  refine calls_abs (fun W => Hid (MB w W p m w.heap.size)) HMB ?_
  clear HMB
  intro W HM
  have hZ := machines_any (num := num) HM.out.inn Hb.out HL.out
  unfold mdlVal at hZ
  (with_reducible refine Calls.mono hZ ?_)
  clear hZ
  rintro e W1 ⟨v', rfl, ha⟩
  have HM1 := Lib.hid (HM.out.keep ha.since)
  obtain ⟨A, c, rfl, hc1, hc2, hr⟩ := (ha.rd (bad := noB) (fun _ e => e.elim)).form
  have HR := Lib.hid hr
  clear ha hr HM hc1 hc2
  go_wp2_with fail
  go_loopw [7, 15] (fun s i wr => ∃ k : Nat, k ≤ (m.machinesOf by_ num).length ∧ i = .int .i64 k ∧ s = .int .i64 (m.capK by_ num k) ∧ Hid (Same noB W1 wr)) (fun _ i _ => (m.machinesOf by_ num).length - (intOf i).toNat)
  case atStart => exact ⟨0, Nat.zero_le _, rfl, rfl, Same.refl _ _⟩
  case round =>
    obtain ⟨k, hk, rfl, rfl, HS⟩ := hrel
    by_cases hlt : k < (m.machinesOf by_ num).length
    · obtain ⟨b, o, rfl, r⟩ := HR.out.at_ (by omega)
      obtain ⟨y, hy⟩ : ∃ y, (m.machinesOf by_ num)[k]? = some y := ⟨_, List.getElem?_eq_getElem hlt⟩
      obtain ⟨j, rfl, hj⟩ := machinesOf_mem hy
      obtain ⟨x, hx⟩ : ∃ x, m.machines[j]? = some x := ⟨_, List.getElem?_eq_getElem hj⟩
      have p0 := (HS.out).cell (r.cell k _ (icells_at hy)) (fun x => x)
      have HM2 := Lib.hid (HM1.out.keep HS.out)
      obtain ⟨mb, mo, hma, x0, x1, x2, mbl⟩ := HM2.out.inn.mach hx
      have c3 := HM2.out.c3
      rw [hma] at c3
      have hst := capK_step hy hx
      have HST := Lib.hid hst
      have hj2 : j < p.mc.len := by rw [HLM.out]; exact hj
      have hml := HM2.out.box.lt
      clear r hy hx hma hst hj
      generalize m.capK by_ num k = z at *
      go_wp2_with fail
      all_goals
        go_roundw
        case rel => exact ⟨k + 1, by omega, by go_num, by rw [HST.out] <;> rfl, HS.out⟩
        case measure => simp [intOf]; omega
    · obtain rfl : k = (m.machinesOf by_ num).length := by omega
      rw [← HC.out]
      go_wp2_with fail
      go_ret
      exact ⟨rfl, HM1.out.since.trans' HS.out⟩

set_option maxHeartbeats 2000000 in
theorem rcapacity_any {w : World} {p : MPl} {m : Mdl} (h : MdlIn w p m) {by_ num : Int} (hb : inI64 by_) (hlen : m.machines.length ≤ 1000000) :
    Calls Try.prog 22 #[mdlVal p m, .int .i64 by_, .int .i64 num] w fun e w' => e = .returned (.int .i64 (m.capacity by_ num)) ∧ Same noB w w' := by
  have HMB := Lib.hid (MB.start h)
  have HC : Hid (m.capacity by_ num = m.capK by_ num (m.machinesOf by_ num).length) := by
    show _ = Mdl.capK _ _ _ _
    unfold Mdl.capK
    rw [List.take_length]
    rfl
  have hlen2 : p.mc.len ≤ 1000000 := by rw [h.lm]; exact hlen
  have HLM := Lib.hid h.lm
  have Hb := Lib.hid hb
  have HL := Lib.hid hlen
  have hml2 : (m.machinesOf by_ num).length ≤ 1000000 := Nat.le_trans (mof_len m by_ num m.machines.length) hlen
  generalize m.capacity by_ num = q at *
  clear h hb hlen
  unfold mdlVal at *
  unfold mdlCells at HMB
  go_enter Try.func22, Try.ntmps22
  go_wp2_with fail
  refine calls_abs (fun W => Hid (MB w W p m w.heap.size)) HMB ?_
  clear HMB
  intro W HM
  have hZ := rmachines_any (num := num) HM.out.inn Hb.out HL.out
  unfold mdlVal at hZ
  (with_reducible refine Calls.mono hZ ?_)
  clear hZ
  rintro e W1 ⟨v', rfl, ha⟩
  have HM1 := Lib.hid (HM.out.keep ha.since)
  obtain ⟨A, c, rfl, hc1, hc2, hr⟩ := (ha.rd (bad := noB) (fun _ e => e.elim)).form
  have HR := Lib.hid hr
  clear ha hr HM hc1 hc2
  go_wp2_with fail
  go_loopw [8, 9] (fun s i wr => ∃ k : Nat, k ≤ (m.machinesOf by_ num).length ∧ i = .int .i64 k ∧ s = .int .i64 (m.capK by_ num k) ∧ Hid (Same noB W1 wr)) (fun _ i _ => (m.machinesOf by_ num).length - (intOf i).toNat)
  case atStart => exact ⟨0, Nat.zero_le _, rfl, rfl, Same.refl _ _⟩
  case round =>
    obtain ⟨k, hk, rfl, rfl, HS⟩ := hrel
    by_cases hlt : k < (m.machinesOf by_ num).length
    · obtain ⟨b, o, rfl, r⟩ := HR.out.at_ (by omega)
      obtain ⟨y, hy⟩ : ∃ y, (m.machinesOf by_ num)[k]? = some y := ⟨_, List.getElem?_eq_getElem hlt⟩
      obtain ⟨j, rfl, hj⟩ := machinesOf_mem hy
      obtain ⟨x, hx⟩ : ∃ x, m.machines[j]? = some x := ⟨_, List.getElem?_eq_getElem hj⟩
      have p0 := (HS.out).cell (r.cell k _ (icells_at hy)) (fun x => x)
      have HM2 := Lib.hid (HM1.out.keep HS.out)
      obtain ⟨mb, mo, hma, x0, x1, x2, mbl⟩ := HM2.out.inn.mach hx
      have c3 := HM2.out.c3
      rw [hma] at c3
      have hst := capK_step hy hx
      have HST := Lib.hid hst
      have hj2 : j < p.mc.len := by rw [HLM.out]; exact hj
      have hml := HM2.out.box.lt
      clear r hy hx hma hst hj
      generalize m.capK by_ num k = z at *
      go_wp2_with fail
      go_region
      all_goals go_wp2_with fail
      all_goals
        go_roundw
        case rel => exact ⟨k + 1, by omega, by go_num, by rw [HST.out] <;> rfl, HS.out.drew⟩
        case measure => simp [intOf]; omega
    · obtain rfl : k = (m.machinesOf by_ num).length := by omega
      rw [← HC.out]
      go_wp2_with fail
      go_ret
      exact ⟨rfl, HM1.out.since.trans' HS.out⟩

/-! ### Link -/
theorem link_eq (m : Mdl) (a b : Int) (h : a ≠ b) : m.link a b = 1 + fidx (Mdl.joins a b) m.links := by
  unfold Mdl.link fidx
  rw [if_neg h]
  cases m.links.findIdx? (Mdl.joins a b) with
  | none => rfl
  | some i => simp only; omega
theorem link_any {w : World} {p : MPl} {m : Mdl} (h : MdlIn w p m) (a b : Int) (hlen : m.links.length ≤ 1000000) :
    Calls Try.prog 24 #[mdlVal p m, .int .i64 a, .int .i64 b] w fun e w' => e = .returned (.int .i64 (m.link a b)) ∧ Same noB w w' := by
  by_cases hab : a = b
  · have HQ : Hid (m.link a b = 0) := by show m.link a b = 0; unfold Mdl.link; rw [if_pos hab]
    have e0 : (a == b) = true := by simpa using hab
    have HS : Hid (Same noB w (((w.alloc (.cells #[.slice p.s.addr p.s.len p.s.cap, .slice p.f.addr p.f.len p.f.cap, .slice p.r.addr p.r.len p.r.cap, .slice p.mc.addr p.mc.len p.mc.cap, .slice p.l.addr p.l.len p.l.cap, .slice p.i.addr p.i.len p.i.cap,
      .int .i64 m.dark, .int .i64 m.slots, .int .i64 m.reserve, .int .i64 m.failures, .slice p.ru.addr p.ru.len p.ru.cap] 29)).alloc (.cells #[.int .i64 a] 3)).alloc (.cells #[.int .i64 b] 3))) := (((Same.refl _ _).alloc _).alloc _).alloc _
    generalize m.link a b = q at *
    clear h hab
    unfold mdlVal
    go_enter Try.func24, Try.ntmps24
    go_wp2_with fail
    go_ret
    exact ⟨by rw [HQ.out] <;> rfl, HS.out⟩
  · have HQ := Lib.hid (link_eq m a b hab)
    have e0 : (a == b) = false := by simpa using hab
    have hs0 : Same noB w (((w.alloc (.cells (mdlCells p m) 29)).alloc (.cells #[.int .i64 a] 3)).alloc (.cells #[.int .i64 b] 3)) := (((Same.refl _ _).alloc _).alloc _).alloc _
    have HS := Lib.hid hs0
    have b1 := (Blk.new (w.alloc (.cells (mdlCells p m) 29)) 3 #[.int .i64 a]).alloc (.cells #[.int .i64 b] 3)
    have b2 := Blk.new ((w.alloc (.cells (mdlCells p m) 29)).alloc (.cells #[.int .i64 a] 3)) 3 #[.int .i64 b]
    have z1 : (w.alloc (.cells (mdlCells p m) 29)).heap.size = w.heap.size + 1 := by simp
    have z2 : ((w.alloc (.cells (mdlCells p m) 29)).alloc (.cells #[.int .i64 a] 3)).heap.size = w.heap.size + 1 + 1 := by simp
    rw [z1] at b1
    rw [z2] at b2
    have hx := idxf48 (by rw [← h.ll]; exact h.l.keep hs0) b1 b2
    have HX := Lib.hid hx
    have hf := fidx_lt (Mdl.joins a b) m.links
    have hf1 : -1 ≤ fidx (Mdl.joins a b) m.links ∧ fidx (Mdl.joins a b) m.links ≤ 1000000 := by
      rcases hf with hf | hf
      · omega
      · rw [hf.2]; decide
    obtain ⟨hf2, hf3⟩ := hf1
    generalize fidx (Mdl.joins a b) m.links = z at *
    generalize m.link a b = q at *
    clear h hab hs0 b1 b2 z1 z2 hx hf
    unfold mdlVal
    unfold mdlCells at *
    go_enter Try.func24, Try.ntmps24
    go_wp2_with fail
    have hZ := HX.out
    (with_reducible refine Calls.mono hZ ?_)
    clear hZ HX
    rintro e w3 ⟨rfl, hs⟩
    have HS3 := Lib.hid (HS.out.trans' hs)
    clear hs
    go_wp2_with fail
    go_ret
    exact ⟨by rw [HQ.out] <;> rfl, HS3.out⟩
end Go.Proofs.Ytkmclglphelhdaa
