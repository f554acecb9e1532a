/- SitePartition: its walk.  -/
import Derived.Test.YtkmclglphelhdaaPartS
import Derived.Deep.LoopGhost
namespace Go.Proofs.Ytkmclglphelhdaa
open Go Go.RowKit Go.Maps

theorem domains_small {m : Mdl} (h : m.Small) (by_ : Int) : m.domains by_ ≤ 24 := by
  obtain ⟨h1, h2, h3, h4, _⟩ := h
  unfold Mdl.domains
  split
  · exact h4
  split
  · exact h3
  split
  · exact h2
  split
  · exact h1
  · exact Nat.zero_le _

set_option maxRecDepth 100000 in
set_option maxHeartbeats 16000000 in
theorem lawPartition_any {w : World} {p : MPl} {m : Mdl} (h : MdlIn w p m) :
    Calls Try.prog 5 #[mdlVal p m] w fun e w' => e = .returned (.bool true) ∧ Same noB w w' := by
  have HMB := Lib.hid (MB.start h)
  have HIN := Lib.hid h
  have HLM := Lib.hid h.lm
  obtain ⟨q1, hq1⟩ : ∃ q, fewB m = q := ⟨_, rfl⟩
  obtain ⟨q2, hq2⟩ : ∃ q, m.valid = q := ⟨_, rfl⟩
  have HQ1 := Lib.hid hq1
  have HQ2 := Lib.hid hq2
  clear h hq1 hq2
  unfold mdlVal
  unfold mdlCells at HMB
  cases q1
  · go_enter Try.func5, Try.ntmps5
    go_wp2_with fail
    refine calls_abs (fun W => Hid (MB w W p m w.heap.size)) HMB ?_
    clear HMB
    generalize w.heap.size = M at *
    intro W0 HM
    refine (awake_any W0).mono ?_
    rintro e W1 ⟨rfl, hs⟩
    have HM := Lib.hid (HM.out.keep hs)
    clear hs
    obtain ⟨c0, c1, c2, c3, c4, c5, c6, c7, c8, c9, c10⟩ := HM.out.all
    go_wp2_with fail
    have hZ := few2_any HM.out.inn
    rw [HQ1.out] at hZ
    unfold mdlVal at hZ
    (with_reducible refine Calls.mono hZ ?_)
    clear hZ
    rintro e W2 ⟨rfl, hs⟩
    have HM := Lib.hid (HM.out.keep hs)
    clear hs
    go_wp2_with fail
    go_ret
    exact ⟨rfl, HM.out.since⟩
  cases q2
  · go_enter Try.func5, Try.ntmps5
    go_wp2_with fail
    refine calls_abs (fun W => Hid (MB w W p m w.heap.size)) HMB ?_
    clear HMB
    generalize w.heap.size = M at *
    intro W0 HM
    refine (awake_any W0).mono ?_
    rintro e W1 ⟨rfl, hs⟩
    have HM := Lib.hid (HM.out.keep hs)
    clear hs
    obtain ⟨c0, c1, c2, c3, c4, c5, c6, c7, c8, c9, c10⟩ := HM.out.all
    go_wp2_with fail
    have hZ := few2_any HM.out.inn
    rw [HQ1.out] at hZ
    unfold mdlVal at hZ
    (with_reducible refine Calls.mono hZ ?_)
    clear hZ
    rintro e W2 ⟨rfl, hs⟩
    have HM := Lib.hid (HM.out.keep hs)
    clear hs
    obtain ⟨c0, c1, c2, c3, c4, c5, c6, c7, c8, c9, c10⟩ := HM.out.all
    go_wp2_with fail
    have hZ := rvalid_any HM.out.inn
    rw [HQ2.out] at hZ
    unfold mdlVal at hZ
    (with_reducible refine Calls.mono hZ ?_)
    clear hZ
    rintro e W3 ⟨rfl, hs⟩
    have HM := Lib.hid (HM.out.keep hs)
    clear hs
    go_wp2_with fail
    go_ret
    exact ⟨rfl, HM.out.since⟩
  have hsm := fewB_small HQ1.out
  have HSM := Lib.hid hsm
  have hmn : p.mc.len ≤ 24 := by have := hsm.2.2.2.1; rw [HLM.out]; omega
  have HL : Hid (m.machines.length ≤ 1000000) := by have := hsm.2.2.2.1; show _ ≤ _; omega
  have HL2 : Hid (m.machines.length ≤ 1000) := by have := hsm.2.2.2.1; show _ ≤ _; omega
  clear hsm
  go_enter Try.func5, Try.ntmps5
  go_wp2_with fail
  refine calls_abs (fun W => Hid (MB w W p m w.heap.size)) HMB ?_
  clear HMB
  generalize w.heap.size = M at *
  intro W0 HM
  refine (awake_any W0).mono ?_
  rintro e W1 ⟨rfl, hs⟩
  have HM := Lib.hid (HM.out.keep hs)
  clear hs
  obtain ⟨c0, c1, c2, c3, c4, c5, c6, c7, c8, c9, c10⟩ := HM.out.all
  go_wp2_with fail
  have hZ := few2_any HM.out.inn
  rw [HQ1.out] at hZ
  unfold mdlVal at hZ
  (with_reducible refine Calls.mono hZ ?_)
  clear hZ
  rintro e W2 ⟨rfl, hs⟩
  have HM := Lib.hid (HM.out.keep hs)
  clear hs
  obtain ⟨c0, c1, c2, c3, c4, c5, c6, c7, c8, c9, c10⟩ := HM.out.all
  go_wp2_with fail
  have hZ := rvalid_any HM.out.inn
  rw [HQ2.out] at hZ
  unfold mdlVal at hZ
  (with_reducible refine Calls.mono hZ ?_)
  clear hZ
  rintro e W3 ⟨rfl, hs⟩
  have HM := Lib.hid (HM.out.keep hs)
  clear hs
  obtain ⟨c0, c1, c2, c3, c4, c5, c6, c7, c8, c9, c10⟩ := HM.out.all
  go_wp2_with fail
  have hZ := capacity_any (by_ := 0) (num := 0) HM.out.inn (inI64_of (by decide) (by decide)) HL.out
  unfold mdlVal at hZ
  (with_reducible refine Calls.mono hZ ?_)
  clear hZ
  rintro e W4 ⟨rfl, hs⟩
  have HM5 := Lib.hid (HM.out.keep hs)
  clear hs c0 c1 c2 c3 c4 c5 c6 c7 c8 c9 c10 HM
  go_wp2_with fail
  go_loopw [4] (fun i wr => ∃ y : Nat, 1 ≤ y ∧ y ≤ 5 ∧ i = .int .i64 y ∧ Hid (MB w wr p m M)) (fun i _ => 5 - (intOf i).toNat)
  case atStart => exact ⟨1, Nat.le_refl _, by omega, rfl, HM5⟩
  case round =>
    obtain ⟨y, hy1, hy5, rfl, HV⟩ := hrel
    clear HM5
    by_cases hlt : y ≤ 4
    · have hya : (1 : Int) ≤ (y : Int) := by omega
      have hyb : (y : Int) ≤ 4 := by omega
      obtain ⟨wm, hmk, hown, hsm⟩ := make_row wr p.mc.len (by omega)
      have c3 := HV.out.c3
      have HP : Hid (PrI w wm p m M wr.heap.size p.mc.len [] ∧ Same noB wr wm) := ⟨⟨HV.out.keep hsm, hown, HV.out.since.size⟩, hsm⟩
      clear hown hsm
      go_wp2_with fail
      have hy0 : (y : Int) ≠ 0 := by omega
      have HY : Hid (inI64 (y : Int)) := inI64_of (by omega) (by omega)
      have HP1 := Lib.hid HP.out.1
      have hds := domains_small HSM.out (y : Int)
      generalize wr.heap.size = g at *
      clear HP hmk c3 HV
      go_loopg [6, 7] (m.domains y) (fun k s i wr2 => ∃ D : Nat, D ≤ m.domains y ∧ Hid (k + D = m.domains y) ∧ i = .int .i64 ((D : Int) + 1) ∧ s = .int .i64 (m.sumL (m.cat y D)) ∧ Hid (PrI w wr2 p m M g p.mc.len (m.cat y D)))
      case atStart => exact ⟨0, Nat.zero_le _, rfl, rfl, rfl, HP1⟩
      case round =>
        obtain ⟨D, hD, HKD, rfl, rfl, HD⟩ := hrel
        clear HP1
        obtain ⟨c0, c1, c2, c3, c4, c5, c6, c7, c8, c9, c10⟩ := HD.out.mb.all
        go_wp2_with fail
        have hZ := domains_any HD.out.mb.inn HY.out
        unfold mdlVal at hZ
        (with_reducible refine Calls.mono hZ ?_)
        clear hZ
        rintro e W5 ⟨rfl, hs⟩
        have HD := Lib.hid (HD.out.keep hs)
        clear hs c0 c1 c2 c3 c4 c5 c6 c7 c8 c9 c10
        obtain ⟨c0, c1, c2, c3, c4, c5, c6, c7, c8, c9, c10⟩ := HD.out.mb.all
        by_cases hlt2 : D < m.domains y
        · go_wp2_with fail
          have hZ := machines_any (by_ := (y : Int)) (num := (D : Int) + 1) HD.out.mb.inn HY.out HL.out
          unfold mdlVal at hZ
          (with_reducible refine Calls.mono hZ ?_)
          clear hZ
          rintro e W6 ⟨v6, rfl, ha⟩
          have hgl := (HD.out.at_ (i := 0) (Nat.zero_le _)).2.2
          obtain ⟨A6, c6', rfl, hc61, hc62, hr6⟩ := (ha.rd (bad := oneB g) (fun b e => by rw [show b = g from e]; exact hgl)).form
          have HR := Lib.hid hr6
          have HD6 := Lib.hid (HD.out.keep ha.since)
          have hml : (m.machinesOf (y : Int) ((D : Int) + 1)).length ≤ 1000000 := Nat.le_trans (mof_len m _ _ m.machines.length) HL.out
          clear ha hr6 hc61 hc62 hgl HD c0 c1 c2 c3 c4 c5 c6 c7 c8 c9 c10
          go_wp2_with fail
          go_loopw [9] (fun i wr3 => ∃ t : Nat, t ≤ (m.machinesOf (y : Int) ((D : Int) + 1)).length ∧ i = .int .i64 t ∧ Hid (PrI w wr3 p m M g p.mc.len (m.cat y D ++ (m.machinesOf (y : Int) ((D : Int) + 1)).take t) ∧ Same (oneB g) W6 wr3)) (fun i _ => (m.machinesOf (y : Int) ((D : Int) + 1)).length - (intOf i).toNat)
          case atStart => exact ⟨0, Nat.zero_le _, rfl, ⟨by rw [List.take_zero, List.append_nil]; exact HD6.out, Same.refl _ _⟩⟩
          case round =>
            obtain ⟨t, ht, rfl, HT⟩ := hrel
            clear HD6
            by_cases hlt3 : t < (m.machinesOf (y : Int) ((D : Int) + 1)).length
            · obtain ⟨lb, lo, rfl, r⟩ := HR.out.at_ (by omega)
              obtain ⟨z, hz⟩ : ∃ z, (m.machinesOf (y : Int) ((D : Int) + 1))[t]? = some z := ⟨_, List.getElem?_eq_getElem hlt3⟩
              obtain ⟨j, rfl, hj, hin⟩ := mem_machinesOf.1 (List.mem_of_getElem? hz)
              have HJ := Lib.hid hj
              have hj2 : j < p.mc.len := by rw [HLM.out]; exact hj
              have HDm : Hid (m.domain (y : Int) ((j : Int) + 1) = (D : Int) + 1) := by
                show m.domain _ _ = _
                unfold Mdl.inDom at hin
                simp at hin
                rcases hin with e | e
                · omega
                · exact e.2
              have hnew := cat_new hy0 hz
              have HNW : Hid (((j + 1 : Nat) : Int) ∉ m.cat y D ++ (m.machinesOf (y : Int) ((D : Int) + 1)).take t) := by
                show ((j + 1 : Nat) : Int) ∉ _
                rw [show ((j + 1 : Nat) : Int) = (j : Int) + 1 from by omega]
                exact hnew
              have HTK : Hid ((m.machinesOf (y : Int) ((D : Int) + 1)).take (t + 1) = (m.machinesOf (y : Int) ((D : Int) + 1)).take t ++ [((j + 1 : Nat) : Int)]) := by
                show List.take _ _ = _
                rw [List.take_add_one, hz, show ((j + 1 : Nat) : Int) = (j : Int) + 1 from by omega]
                rfl
              have HZ0 : Hid (seenF (m.cat y D ++ (m.machinesOf (y : Int) ((D : Int) + 1)).take t) ((j + 1 : Nat) : Int) = 0) := by
                show seenF _ _ = 0
                unfold seenF
                rw [if_neg HNW.out]
              have p0 := HT.out.2.cell (r.cell t _ (icells_at hz)) r.ok
              have HTd : Hid (PrI w wr.drew p m M g p.mc.len (m.cat y D ++ (m.machinesOf (y : Int) ((D : Int) + 1)).take t) ∧ Same (oneB g) W6 wr.drew) := ⟨HT.out.1.keep ((Same.refl noB wr).drew), HT.out.2.drew⟩
              clear hnew hin hj hz r HT
              obtain ⟨c0, c1, c2, c3, c4, c5, c6, c7, c8, c9, c10⟩ := HTd.out.1.mb.all
              have hjb : (j : Int) + 1 ≤ (p.mc.len : Int) := by omega
              have hja : (1 : Int) ≤ (j : Int) + 1 := by omega
              have d1 : decide ((j : Int) + 1 < 1) = false := by simp; omega
              have d2 : decide ((p.mc.len : Int) < (j : Int) + 1) = false := by simp; omega
              go_wp2_with fail
              go_region_held3 (fun w' => w'.cell? ⟨M, 0, none⟩ = some (.slice p.s.addr p.s.len p.s.cap) ∧ w'.cell? ⟨M, 1, none⟩ = some (.slice p.f.addr p.f.len p.f.cap) ∧ w'.cell? ⟨M, 2, none⟩ = some (.slice p.r.addr p.r.len p.r.cap) ∧ w'.cell? ⟨M, 3, none⟩ = some (.slice p.mc.addr p.mc.len p.mc.cap) ∧ w'.cell? ⟨M, 4, none⟩ = some (.slice p.l.addr p.l.len p.l.cap) ∧ w'.cell? ⟨M, 5, none⟩ = some (.slice p.i.addr p.i.len p.i.cap) ∧ w'.cell? ⟨M, 6, none⟩ = some (.int .i64 m.dark) ∧ w'.cell? ⟨M, 7, none⟩ = some (.int .i64 m.slots) ∧ w'.cell? ⟨M, 8, none⟩ = some (.int .i64 m.reserve) ∧ w'.cell? ⟨M, 9, none⟩ = some (.int .i64 m.failures) ∧ w'.cell? ⟨M, 10, none⟩ = some (.slice p.ru.addr p.ru.len p.ru.cap) ∧ w'.cell? ⟨lb, lo + t, none⟩ = some (.int .i64 ((j : Int) + 1)))
                (first | (refine ⟨?_, ?_, ?_, ?_, ?_, ?_, ?_, ?_, ?_, ?_, ?_, ?_⟩ <;> with_reducible assumption) | go_keep)
                ((go_at_call 14; have hZ := domain_any (by_ := (y : Int)) (i := (j : Int) + 1) HTd.out.1.mb.inn HY.out; rw [HDm.out] at hZ; unfold mdlVal at hZ; (with_reducible refine Calls.mono hZ ?_); clear hZ; rintro e W7 ⟨rfl, hs⟩; have HT7 : Hid (PrI w W7 p m M g p.mc.len (m.cat y D ++ (m.machinesOf (y : Int) ((D : Int) + 1)).take t) ∧ Same (oneB g) W6 W7) := ⟨HTd.out.1.keep hs, HTd.out.2.trans' hs.of_no⟩; have p0 := hs.cell (show wr.drew.cell? ⟨lb, lo + t, none⟩ = some (.int .i64 ((j : Int) + 1)) from p0) (fun x => x); obtain ⟨c0, c1, c2, c3, c4, c5, c6, c7, c8, c9, c10⟩ := HT7.out.1.mb.all; clear hs))
              obtain ⟨f1, f2, f3⟩ := HT7.out.1.at_ (i := j + 1) (by omega)
              rw [HZ0.out] at f1
              have HSEE : Hid (PrI w (W7.setCell ⟨g, j + 1, none⟩ (.int .i64 1)) p m M g p.mc.len (m.cat y D ++ (m.machinesOf (y : Int) ((D : Int) + 1)).take (t + 1)) ∧ Same (oneB g) W6 (W7.setCell ⟨g, j + 1, none⟩ (.int .i64 1))) := by
                refine ⟨?_, HT7.out.2.set1 _ _⟩
                have h1 := HT7.out.1.see HIN.out (x := j + 1) (by omega) HNW.out
                rw [HZ0.out] at h1
                rw [HTK.out, ← List.append_assoc]
                exact h1
              go_wp2_with fail
              go_roundw
              case rel => exact ⟨t + 1, by omega, by go_num, HSEE.out⟩
              case measure => simp [intOf]; omega
            · obtain rfl : t = (m.machinesOf (y : Int) ((D : Int) + 1)).length := by omega
              have HE : Hid (PrI w wr p m M g p.mc.len (m.cat y (D + 1))) := by
                show PrI w wr p m M g p.mc.len (m.cat y (D + 1))
                have := HT.out.1
                rw [List.take_length, ← cat_step] at this
                exact this
              obtain ⟨c0, c1, c2, c3, c4, c5, c6, c7, c8, c9, c10⟩ := HE.out.mb.all
              go_wp2_with fail
              have hZ := capacity_any (by_ := (y : Int)) (num := (D : Int) + 1) HE.out.mb.inn HY.out HL.out
              unfold mdlVal at hZ
              (with_reducible refine Calls.mono hZ ?_)
              clear hZ
              rintro e W7 ⟨rfl, hs⟩
              have HE7 := Lib.hid (HE.out.keep hs)
              have HSS := Lib.hid (sum_step HQ2.out HL2.out (by_ := (y : Int)) (D := D) (by omega))
              clear hs c0 c1 c2 c3 c4 c5 c6 c7 c8 c9 c10
              go_wp2_with fail
              go_roundg (gk - 1)
              case measure => have h1 := HKD.out; omega
              case rel => exact ⟨D + 1, by omega, by show _ = _; have h1 := HKD.out; omega, by rw [show (((D + 1 : Nat) : Int) + 1) = (D : Int) + 1 + 1 from by omega], by rw [← HSS.out] <;> rfl, HE7⟩
        · obtain rfl : D = m.domains y := by omega
          have hsum := sum_all HQ2.out HL2.out hya hyb
          rw [hsum]
          clear hsum
          go_wp2_with fail
          go_loopw [10] (fun i wr3 => ∃ k : Nat, k ≤ p.mc.len ∧ i = .int .i64 ((k : Int) + 1) ∧ Hid (PrI w wr3 p m M g p.mc.len (m.cat y (m.domains y)))) (fun i _ => p.mc.len + 1 - (intOf i).toNat)
          case atStart => exact ⟨0, Nat.zero_le _, rfl, HD⟩
          case round =>
            obtain ⟨k, hk, rfl, HE⟩ := hrel
            clear HD
            by_cases hlt3 : k < p.mc.len
            · have hc := (HE.out.at_ (i := k + 1) (by omega)).1
              rw [show ((k + 1 : Nat) : Int) = (k : Int) + 1 from by omega, seen_all HQ2.out hya hyb (j := k) (by rw [← HLM.out]; exact hlt3)] at hc
              go_wp2_with fail
              go_roundw
              case rel => exact ⟨k + 1, by omega, by rw [show (((k + 1 : Nat) : Int) + 1) = (k : Int) + 1 + 1 from by omega], HE⟩
              case measure => simp [intOf]; omega
            · obtain rfl : k = p.mc.len := by omega
              go_wp2_with fail
              go_roundw
              case rel => exact ⟨y + 1, by omega, by omega, by go_num, HE.out.mb⟩
              case measure => simp [intOf]; omega
    · obtain rfl : y = 5 := by omega
      go_wp2_with fail
      go_ret
      exact ⟨rfl, HV.out.since⟩
end Go.Proofs.Ytkmclglphelhdaa
