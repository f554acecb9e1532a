/- Layer 14: the reference's Valid. -/
import Derived.Test.YtpngmodgnkjhnaaSiteP
namespace Go.Proofs.Ytpngmodgnkjhnaa
open Go Go.RowKit Go.Maps
set_option maxRecDepth 100000

theorem machF_eq {m : Mdl} {k : Nat} {x : Mc} (h : m.machines[k]? = some x) : m.machF k = (exB x.rack m.racks.length && amtB x.cap) := by
  unfold Mdl.machF
  rw [h]
  rfl
set_option maxHeartbeats 16000000 in
theorem rvalid_any {w : World} {p : MPl} {m : Mdl} (h : MdlIn w p m) : Calls Try.prog 45 #[mdlVal p m] w fun e w' => e = .returned (.bool m.valid) ∧ Same noB w w' := by
  have HMB := Lib.hid (MB.start h)
  have hs := sizes_iff m
  rw [← h.ls, ← h.lf, ← h.lr, ← h.lm, ← h.ll] at hs
  have HN := Lib.hid (And.intro h.lm h.lr)
  have HS0 : Hid (Same noB w (w.alloc (.cells (mdlCells p m) 29))) := (Same.refl _ _).alloc _
  rw [valid_sizes]
  clear h
  unfold mdlVal
  unfold mdlCells at *
  by_cases hz : (1 ≤ p.s.len ∧ p.s.len ≤ 4) ∧ p.f.len ≤ 16 ∧ p.r.len ≤ 16 ∧ (1 ≤ p.mc.len ∧ p.mc.len ≤ 16) ∧ p.l.len ≤ 12
  · have hq : m.sizesB = true := hs.2 hz
    rw [hq]
    obtain ⟨⟨z1, z2⟩, z3, z4, ⟨z5, z6⟩, z7⟩ := hz
    obtain ⟨q, hqq⟩ : ∃ q, (true && ((List.range m.racks.length).all m.rackF && (List.range m.machines.length).all m.machF && (List.range m.links.length).all m.linkF)) = q := ⟨_, rfl⟩
    rw [hqq]
    have HQ := Lib.hid hqq
    clear hq hs hqq HS0
    go_enter Try.func45, Try.ntmps45
    go_wp2_with fail
    refine wp_abs (fun W => Hid (MB w W p m w.heap.size)) HMB ?_
    clear HMB
    generalize w.heap.size = M at *
    intro W0 HM0
    go_loopw [3] (fun i wr => ∃ k : Nat, k ≤ p.mc.len ∧ i = .int .i64 k ∧ Hid ((∀ j, j < k → m.machF j = true) ∧ MB w wr p m M)) (fun i _ => p.mc.len - (intOf i).toNat)
    case atStart => exact ⟨0, Nat.zero_le _, rfl, ⟨fun j hj => by omega, HM0.out⟩⟩
    case round =>
      obtain ⟨k, hk, rfl, HS⟩ := hrel
      clear HM0
      by_cases hlt : k < p.mc.len
      · obtain ⟨x, hx⟩ : ∃ x, m.machines[k]? = some x := ⟨_, List.getElem?_eq_getElem (by have := HN.out.1; omega)⟩
        obtain ⟨rb, ro, hadr, d0, d1, d2, rbl⟩ := HS.out.2.inn.mach hx
        have c3 := HS.out.2.c3
        rw [hadr] at c3
        have c2 := HS.out.2.c2
        have HF := Lib.hid (machF_eq hx)
        obtain ⟨q1, hq1⟩ : ∃ q, exB x.rack p.r.len = q := ⟨_, rfl⟩
        obtain ⟨q2, hq2⟩ : ∃ q, amtB x.cap = q := ⟨_, rfl⟩
        have HQ1 := Lib.hid hq1
        have HQ2 := Lib.hid hq2
        have HQ1' : Hid (exB x.rack m.racks.length = q1) := by show _ = _; rw [← HN.out.2]; exact hq1
        have hb1 : (0 : Int) ≤ (k : Int) := Int.natCast_nonneg _
        have hb2 : (k : Int) < (p.mc.len : Int) := by omega
        clear hx hadr hq1 hq2 d0
        have HE1 : Hid (∀ W : World, Calls Try.prog 29 #[.int .i64 x.rack, .int .i64 p.r.len] W fun e w' => e = .returned (.bool q1) ∧ w' = W) := fun W => by
          have hZ := rexists_any x.rack p.r.len W
          rw [HQ1.out] at hZ
          exact hZ
        cases q1
        · have hno : m.machF k = false := by rw [HF.out, HQ1'.out]; rfl
          have hf := all_range_no (n := p.mc.len) hlt hno
          have HR : Hid (q = false) := by show _ = _; rw [← HQ.out, ← HN.out.1, hf, Bool.and_false]; rfl
          clear hno hf
          go_wp2_with fail
          go_quiet ((go_at_call 29; exact Calls.quiet_of_same (HE1.out _)))
          all_goals go_wp2_with fail
          all_goals
            go_ret
            exact ⟨by rw [HR.out] <;> rfl, HS.out.2.since.drewN _⟩
        cases q2
        · have hno : m.machF k = false := by rw [HF.out, HQ1'.out, HQ2.out]; rfl
          have hf := all_range_no (n := p.mc.len) hlt hno
          have HR : Hid (q = false) := by show _ = _; rw [← HQ.out, ← HN.out.1, hf, Bool.and_false]; rfl
          clear hno hf
          go_wp2_with fail
          go_region_held3 (fun w' => w'.cell? ⟨M, 2, none⟩ = some (.slice p.r.addr p.r.len p.r.cap) ∧ w'.cell? ⟨M, 3, none⟩ = some (.slice (some ⟨rb, ro, none⟩) p.mc.len p.mc.cap) ∧ w'.cell? ⟨rb, ro + k * 3 + 1, none⟩ = some (.int .i64 x.rack) ∧ w'.cell? ⟨rb, ro + k * 3 + 2, none⟩ = some (.int .i64 x.cap))
            (first | (refine ⟨?_, ?_, ?_, ?_⟩ <;> with_reducible assumption) | go_keep)
            (first
              | (go_at_call 29; have hZ := rexists_any x.rack p.r.len wr.drew; rw [HQ1.out] at hZ; (with_reducible refine Calls.mono hZ ?_); clear hZ; rintro e w3 ⟨rfl, rfl⟩)
              | (go_at_call 61; have hZ := rnumber_any x.cap wr.drew; rw [HQ2.out] at hZ; (with_reducible refine Calls.mono hZ ?_); clear hZ; rintro e w3 ⟨rfl, rfl⟩))
          all_goals go_wp2_with fail
          all_goals
            go_ret
            exact ⟨by rw [HR.out] <;> rfl, HS.out.2.since.drew⟩
        · go_wp2_with fail
          go_region_held3 (fun w' => w'.cell? ⟨M, 2, none⟩ = some (.slice p.r.addr p.r.len p.r.cap) ∧ w'.cell? ⟨M, 3, none⟩ = some (.slice (some ⟨rb, ro, none⟩) p.mc.len p.mc.cap) ∧ w'.cell? ⟨rb, ro + k * 3 + 1, none⟩ = some (.int .i64 x.rack) ∧ w'.cell? ⟨rb, ro + k * 3 + 2, none⟩ = some (.int .i64 x.cap))
            (first | (refine ⟨?_, ?_, ?_, ?_⟩ <;> with_reducible assumption) | go_keep)
            (first
              | (go_at_call 29; have hZ := rexists_any x.rack p.r.len wr.drew; rw [HQ1.out] at hZ; (with_reducible refine Calls.mono hZ ?_); clear hZ; rintro e w3 ⟨rfl, rfl⟩)
              | (go_at_call 61; have hZ := rnumber_any x.cap wr.drew; rw [HQ2.out] at hZ; (with_reducible refine Calls.mono hZ ?_); clear hZ; rintro e w3 ⟨rfl, rfl⟩))
          all_goals go_wp2_with fail
          all_goals
            go_roundw
            case rel => exact ⟨k + 1, by omega, by go_num, ⟨fun j hj => by
              by_cases e : j = k
              · subst e
                rw [HF.out, HQ1'.out, HQ2.out]
                rfl
              · exact HS.out.1 j (by omega), HS.out.2.keep ((Same.refl _ _).drew)⟩⟩
            case measure => simp [intOf]; omega
      · obtain rfl : k = p.mc.len := by omega
        have hf : (List.range m.machines.length).all m.machF = true := by rw [← HN.out.1]; exact all_range_yes HS.out.1
        have hq := HQ.out
        rw [hf] at hq
        obtain ⟨q1, hq1⟩ : ∃ q, (List.range m.racks.length).all m.rackF = q := ⟨_, rfl⟩
        obtain ⟨q2, hq2⟩ : ∃ q, (List.range m.links.length).all m.linkF = q := ⟨_, rfl⟩
        rw [hq1, hq2] at hq
        have HR := Lib.hid (And.intro hq1 hq2)
        have HQ := Lib.hid hq
        have HM := Lib.hid HS.out.2
        clear hf hq hq1 hq2 HS
        obtain ⟨c0, c1, c2, c3, c4, c5, c6, c7, c8, c9, c10⟩ := HM.out.all
        go_wp2_with fail
        clear c0 c1 c2 c3 c4 c5 c6 c7 c8 c9 c10
        have hZ := rracks_any HM.out.inn
        rw [HR.out.1] at hZ
        unfold mdlVal at hZ
        (with_reducible refine Calls.mono hZ ?_)
        clear hZ
        rintro e w3 ⟨rfl, hs⟩
        have HM3 := Lib.hid (HM.out.keep hs)
        clear hs HM
        cases q1
        · go_wp2_with fail
          go_ret
          exact ⟨by rw [← HQ.out] <;> rfl, HM3.out.since⟩
        obtain ⟨c0, c1, c2, c3, c4, c5, c6, c7, c8, c9, c10⟩ := HM3.out.all
        go_wp2_with fail
        clear c0 c1 c2 c3 c4 c5 c6 c7 c8 c9 c10
        have hZ := rlinks_any HM3.out.inn
        rw [HR.out.2] at hZ
        unfold mdlVal at hZ
        (with_reducible refine Calls.mono hZ ?_)
        clear hZ
        rintro e w4 ⟨rfl, hs⟩
        have HS4 := Lib.hid (HM3.out.since.trans' hs)
        clear hs
        go_wp2_with fail
        go_ret
        exact ⟨by rw [← HQ.out] <;> (cases q2 <;> rfl), HS4.out⟩
  · have hq : m.sizesB = false := Bool.eq_false_iff.2 fun hx => hz (hs.1 hx)
    rw [hq]
    have hz' : p.s.len < 1 ∨ 4 < p.s.len ∨ 16 < p.f.len ∨ 16 < p.r.len ∨ p.mc.len < 1 ∨ 16 < p.mc.len ∨ 12 < p.l.len := by omega
    clear hq hs HMB hz HN
    go_enter Try.func45, Try.ntmps45
    go_wp2_with fail
    all_goals first | (exfalso; omega) | (go_ret; exact ⟨rfl, HS0.out⟩)
end Go.Proofs.Ytpngmodgnkjhnaa
