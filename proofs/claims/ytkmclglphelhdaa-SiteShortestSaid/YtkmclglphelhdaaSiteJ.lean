/- Layer 14: Valid of the program, whole. -/
import Derived.Test.YtkmclglphelhdaaSiteI
namespace Go.Proofs.Ytkmclglphelhdaa
open Go Go.RowKit Go.Maps

theorem ex4 (n : Nat) (w : World) : Calls Try.prog 31 #[.int .i64 n, .int .i64 4] w fun e w' => e = .returned (.bool (exB n 4)) ∧ w' = w := exists_any n 4 w
theorem ex16 (n : Nat) (w : World) : Calls Try.prog 31 #[.int .i64 n, .int .i64 16] w fun e w' => e = .returned (.bool (exB n 16)) ∧ w' = w := exists_any n 16 w
theorem valid_sizes (m : Mdl) : m.valid = (m.sizesB && ((List.range m.racks.length).all m.rackF && (List.range m.machines.length).all m.machF && (List.range m.links.length).all m.linkF)) := by
  rw [machF_all]
  unfold Mdl.valid
  rw [show m.racksB = (List.range m.racks.length).all m.rackF from rfl, show m.linksB = (List.range m.links.length).all m.linkF from rfl]
  cases m.sizesB <;> cases m.machines.all m.machB <;> cases (List.range m.racks.length).all m.rackF <;> rfl
theorem sizes_iff (m : Mdl) : m.sizesB = true ↔ (1 ≤ m.sites.length ∧ m.sites.length ≤ 4) ∧ m.feeds.length ≤ 16 ∧ m.racks.length ≤ 16 ∧ (1 ≤ m.machines.length ∧ m.machines.length ≤ 16) ∧ m.links.length ≤ 12 := by
  unfold Mdl.sizesB
  simp only [Bool.and_eq_true, decide_eq_true_eq]
  omega
theorem ex_no {n k : Nat} (h : ¬ (1 ≤ n ∧ n ≤ k)) : exB (n : Int) k = false := by
  apply Bool.eq_false_iff.2
  intro hx
  have := exB_iff.1 hx
  omega
theorem ex_yes {n k : Nat} (h : 1 ≤ n ∧ n ≤ k) : exB (n : Int) k = true := exB_iff.2 ⟨by omega, by omega⟩

set_option maxHeartbeats 4000000 in
theorem valid_any {w : World} {p : MPl} {m : Mdl} (h : MdlIn w p m) : Calls Try.prog 12 #[mdlVal p m] w fun e w' => e = .returned (.bool m.valid) ∧ Same noB w w' := by
  have HMB := Lib.hid (MB.start h)
  have hs := sizes_iff m
  rw [← h.ls, ← h.lf, ← h.lr, ← h.lm, ← h.ll] at hs
  have HS0 : Hid (Same noB w (w.alloc (.cells (mdlCells p m) 29))) := (Same.refl _ _).alloc _
  rw [valid_sizes]
  clear h
  unfold mdlVal
  unfold mdlCells at *
  by_cases hA : 1 ≤ p.s.len ∧ p.s.len ≤ 4
  · have HEA := Lib.hid (ex_yes hA)
    by_cases hB : p.f.len ≤ 16
    · by_cases hC : p.r.len ≤ 16
      · by_cases hD : 1 ≤ p.mc.len ∧ p.mc.len ≤ 16
        · have HED := Lib.hid (ex_yes hD)
          by_cases hE : p.l.len ≤ 12
          · have hq : m.sizesB = true := hs.2 ⟨hA, hB, hC, hD, hE⟩
            rw [hq]
            clear hq hs
            obtain ⟨q1, hq1⟩ : ∃ q, (List.range m.racks.length).all m.rackF = q := ⟨_, rfl⟩
            obtain ⟨q2, hq2⟩ : ∃ q, (List.range m.machines.length).all m.machF = q := ⟨_, rfl⟩
            obtain ⟨q3, hq3⟩ : ∃ q, (List.range m.links.length).all m.linkF = q := ⟨_, rfl⟩
            rw [hq1, hq2, hq3]
            have HQ := Lib.hid (And.intro hq1 (And.intro hq2 hq3))
            clear hq1 hq2 hq3
            cases q1 <;> cases q2 <;> cases q3
            all_goals
              go_enter Try.func12, Try.ntmps12
              go_wp2_with fail
              refine (ex4 p.s.len _).mono ?_
              rintro e w2 ⟨rfl, rfl⟩
              rw [HEA.out]
              go_wp2_with fail
              refine (ex16 p.mc.len _).mono ?_
              rintro e w2 ⟨rfl, rfl⟩
              rw [HED.out]
              go_wp2_with fail
              refine calls_abs (fun W => Hid (MB w W p m w.heap.size)) HMB ?_
              intro W HM
              have hZ := sound32 HM.out
              rw [HQ.out.1] at hZ
              (with_reducible refine Calls.mono hZ ?_)
              clear hZ
              rintro e w3 ⟨rfl, hs⟩
              have HM3 := Lib.hid (HM.out.keep hs)
              clear hs HM
              have m3 := HM3.out.c3
              go_wp2_with fail
              have hZ := sound36 HM3.out
              rw [HQ.out.2.1] at hZ
              (with_reducible refine Calls.mono hZ ?_)
              clear hZ
              rintro e w4 ⟨rfl, hs⟩
              have HM4 := Lib.hid (HM3.out.keep hs)
              clear hs HM3 m3
              have m4 := HM4.out.c4
              go_wp2_with fail
              have hZ := sound39 HM4.out
              rw [HQ.out.2.2] at hZ
              (with_reducible refine Calls.mono hZ ?_)
              clear hZ
              rintro e w5 ⟨rfl, hs⟩
              have HS := Lib.hid (HM4.out.since.trans' hs)
              clear hs HM4 m4
              go_wp2_with fail
              go_ret
              exact ⟨rfl, HS.out⟩
          · have hq : m.sizesB = false := Bool.eq_false_iff.2 fun hx => hE (hs.1 hx).2.2.2.2
            rw [hq]
            clear hq hs HMB
            go_enter Try.func12, Try.ntmps12
            go_wp2_with fail
            refine (ex4 p.s.len _).mono ?_
            rintro e w2 ⟨rfl, rfl⟩
            rw [HEA.out]
            go_wp2_with fail
            refine (ex16 p.mc.len _).mono ?_
            rintro e w2 ⟨rfl, rfl⟩
            rw [HED.out]
            go_wp2_with fail
            go_ret
            exact ⟨rfl, HS0.out⟩
        · have hq : m.sizesB = false := Bool.eq_false_iff.2 fun hx => hD (hs.1 hx).2.2.2.1
          have HED := Lib.hid (ex_no hD)
          rw [hq]
          clear hq hs HMB
          go_enter Try.func12, Try.ntmps12
          go_wp2_with fail
          refine (ex4 p.s.len _).mono ?_
          rintro e w2 ⟨rfl, rfl⟩
          rw [HEA.out]
          go_wp2_with fail
          refine (ex16 p.mc.len _).mono ?_
          rintro e w2 ⟨rfl, rfl⟩
          rw [HED.out]
          go_wp2_with fail
          go_ret
          exact ⟨rfl, HS0.out⟩
      · have hq : m.sizesB = false := Bool.eq_false_iff.2 fun hx => hC (hs.1 hx).2.2.1
        rw [hq]
        clear hq hs HMB
        go_enter Try.func12, Try.ntmps12
        go_wp2_with fail
        refine (ex4 p.s.len _).mono ?_
        rintro e w2 ⟨rfl, rfl⟩
        rw [HEA.out]
        go_wp2_with fail
        go_ret
        exact ⟨rfl, HS0.out⟩
    · have hq : m.sizesB = false := Bool.eq_false_iff.2 fun hx => hB (hs.1 hx).2.1
      rw [hq]
      clear hq hs HMB
      go_enter Try.func12, Try.ntmps12
      go_wp2_with fail
      refine (ex4 p.s.len _).mono ?_
      rintro e w2 ⟨rfl, rfl⟩
      rw [HEA.out]
      go_wp2_with fail
      go_ret
      exact ⟨rfl, HS0.out⟩
  · have hq : m.sizesB = false := Bool.eq_false_iff.2 fun hx => hA (hs.1 hx).1
    have HEA := Lib.hid (ex_no hA)
    rw [hq]
    clear hq hs HMB
    go_enter Try.func12, Try.ntmps12
    go_wp2_with fail
    refine (ex4 p.s.len _).mono ?_
    rintro e w2 ⟨rfl, rfl⟩
    rw [HEA.out]
    go_wp2_with fail
    go_ret
    exact ⟨rfl, HS0.out⟩

end Go.Proofs.Ytkmclglphelhdaa
