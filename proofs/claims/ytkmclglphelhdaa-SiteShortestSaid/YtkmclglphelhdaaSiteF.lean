/- Layer 14: Ints; Machines and Capacity of the program and of the reference. (printed by genSiteF.py) -/
import Derived.Test.YtkmclglphelhdaaSiteE
namespace Go.Proofs.Ytkmclglphelhdaa
open Go Go.RowKit Go.Maps

theorem slI : SlT Try.prog 35 3 1 8 := SlT.mk_ (z := .int .i64 0) Try.underlying35 (by kernel_rfl) rfl (by decide) (by decide)
theorem ints_true {w : World} {bad bad' : Nat → Prop} {v v' : Value} {l : List Int} (h1 : Rd w bad 1 v l.length (icells l)) (h2 : Rd w bad' 1 v' l.length (icells l)) :
    Calls Try.prog 18 #[v, v'] w fun e w' => e = .returned (.bool true) ∧ Same noB w w' := by
  obtain ⟨A, c, rfl, hc1, hc2, hr1⟩ := h1.form
  obtain ⟨A', c', rfl, _, _, hr2⟩ := h2.form
  have H1 := Lib.hid hr1
  have H2 := Lib.hid hr2
  clear h1 h2 hr1 hr2
  unfold maxLen at hc2
  have hn : l.length ≤ 9223372036854775807 := by omega
  clear hc1 hc2
  go_enter Try.func18, Try.ntmps18
  go_wp2_with fail
  go_loopw [5] (fun i wr => ∃ k : Nat, k ≤ l.length ∧ i = .int .i64 k ∧ Hid (Same noB w wr)) (fun i _ => l.length - (intOf i).toNat)
  case atStart => exact ⟨0, Nat.zero_le _, rfl, Same.refl _ _⟩
  case round =>
    obtain ⟨k, hk, rfl, HS⟩ := hrel
    by_cases hlt : k < l.length
    · obtain ⟨b, o, rfl, r1⟩ := H1.out.at_ (by omega)
      obtain ⟨b', o', rfl, r2⟩ := H2.out.at_ (by omega)
      obtain ⟨y, hy⟩ : ∃ y, l[k]? = some y := ⟨_, List.getElem?_eq_getElem hlt⟩
      have p0 := (HS.out).cell (r1.cell k _ (icells_at hy)) (fun x => x)
      have q0 := (HS.out).cell (r2.cell k _ (icells_at hy)) (fun x => x)
      clear r1 r2 hy
      go_wp2_with fail
      go_region
      all_goals go_wp2_with fail
      all_goals
        go_roundw
        case rel => exact ⟨k + 1, by omega, by go_num, HS.out.drew⟩
        case measure => simp [intOf]; omega
    · obtain rfl : k = l.length := by omega
      go_wp2_with fail
      go_ret
      exact ⟨rfl, HS.out⟩

def Mdl.mof (m : Mdl) (by_ num : Int) (k : Nat) : List Int := ((List.range k).filter (m.inDom by_ num)).map (fun (i : Nat) => (i : Int) + 1)
theorem mof_step (m : Mdl) (by_ num : Int) (k : Nat) : m.mof by_ num (k + 1) = m.mof by_ num k ++ (if m.inDom by_ num k = true then [(k : Int) + 1] else []) := by
  unfold Mdl.mof
  rw [List.range_succ, List.filter_append, List.map_append]
  congr 1
  simp only [List.filter_cons, List.filter_nil]
  split <;> rfl
theorem mof_len (m : Mdl) (by_ num : Int) (k : Nat) : (m.mof by_ num k).length ≤ k := by
  unfold Mdl.mof
  rw [List.length_map]
  have := List.length_filter_le (m.inDom by_ num) (List.range k)
  rwa [List.length_range] at this


set_option maxHeartbeats 4000000 in
theorem machines_any {w : World} {p : MPl} {m : Mdl} (h : MdlIn w p m) {by_ num : Int} (hb : inI64 by_) (hlen : m.machines.length ≤ 1000000) :
    Calls Try.prog 19 #[mdlVal p m, .int .i64 by_, .int .i64 num] w fun e w' => ∃ v', e = .returned v' ∧ AppAt w w' v' (m.machinesOf by_ num).length 3 1 (icells (m.machinesOf by_ num)) := by
  have HMB := Lib.hid (MB.start h)
  have HQ : Hid (m.machinesOf by_ num = m.mof by_ num p.mc.len) := by
    show _ = m.mof by_ num p.mc.len
    rw [h.lm]
    rfl
  have hlen2 : p.mc.len ≤ 1000000 := by rw [h.lm]; exact hlen
  have Hb := Lib.hid hb
  generalize m.machinesOf by_ num = q at *
  clear h hb hlen
  unfold mdlVal at *
  unfold mdlCells at HMB
  go_enter Try.func19, Try.ntmps19
  go_wp2_with fail
  refine wp_abs (fun W => ∃ X, Hid (MB w X p m w.heap.size ∧ AppAt X W (.slice none 0 0) 0 3 1 [])) ⟨_, HMB.out, AppAt.nil_ _ _ _⟩ ?_
  rintro W ⟨X, HX⟩
  clear HMB
  have hM0 := (HX.out.1.keep HX.out.2.since).c3
  go_wp2_with fail
  go_loopw [7, 12] (fun o i wr => ∃ (k : Nat) (A2 : Option Addr) (c2 n : Nat), k ≤ p.mc.len ∧ i = .int .i64 k ∧ o = .slice A2 n c2 ∧ Hid (n = (m.mof by_ num k).length) ∧ Hid (AppAt X wr (.slice A2 n c2) n 3 1 (icells (m.mof by_ num k)))) (fun _ i _ => p.mc.len - (intOf i).toNat)
  case atStart => exact ⟨0, _, _, 0, Nat.zero_le _, rfl, rfl, rfl, HX.out.2⟩
  case round =>
    obtain ⟨k, A2, c2, n, hk, rfl, rfl, HN, HA2⟩ := hrel
    have HM := Lib.hid (HX.out.1.keep HA2.out.since)
    obtain ⟨m0, m1, m2, m3, m4, m5, m6, m7, m8, m9, m10⟩ := HM.out.all
    have hml := HM.out.box.lt
    have hn : n ≤ 1000000 := by
      rw [HN.out]
      have := mof_len m by_ num k
      omega
    clear hM0
    by_cases hlt : k < p.mc.len
    · have HF := Lib.hid (mof_step m by_ num k)
      by_cases h0 : by_ = 0
      · have e0 : (by_ == 0) = true := by simpa using h0
        have HP : Hid (m.inDom by_ num k = true) := by show m.inDom by_ num k = true; unfold Mdl.inDom; rw [e0]; rfl
        clear h0
        go_wp2_with (at_builtin; refine wpL_app slI rfl _ _ rfl rfl ((HA2.out.keep ((Same.refl _ _).alloc _)).own) rfl (bad := noB) (Rd.of_blk (Blk.new wr 3 [Value.int .i64 ((k : Int) + 1)].toArray) (fun x => x) (by rfl) (by omega) (by simp [maxLen])) (int_one ((k : Int) + 1)) (by omega) (Nat.zero_le _) ?_; intro A3 c3' w3 hown3 hgrow3 hat3 _; have HA3 := Lib.hid (AppAt.next (HA2.out.keep ((Same.refl _ _).alloc _)) hgrow3 hat3 hown3); clear hown3 hgrow3 hat3)
        go_roundw
        case rel =>
          refine ⟨k + 1, _, _, _, by omega, by go_num, rfl, ?_, ?_⟩
          · show _ = _
            rw [HF.out, HN.out, if_pos HP.out]
            simp
          · show AppAt _ _ _ _ _ _ _
            rw [HF.out, if_pos HP.out, icells_snoc]
            exact HA3.out
        case measure => simp [intOf]; omega

      have e0 : (by_ == 0) = false := by simpa using h0
      by_cases h1 : 1 ≤ num
      · have HD := Lib.hid (domain_any (by_ := by_) (i := (k : Int) + 1) HM.out.inn Hb.out)
        have HPD : Hid (m.inDom by_ num k = (m.domain by_ ((k : Int) + 1) == num)) := by show m.inDom by_ num k = _; unfold Mdl.inDom; rw [e0, decide_eq_true h1]; rfl
        generalize m.domain by_ ((k : Int) + 1) = dd at *
        clear h0
        go_wp2_with fail
        have hZ := HD.out
        unfold mdlVal at hZ
        (with_reducible refine Calls.mono hZ ?_)
        clear hZ HD
        rintro e w4 ⟨rfl, hk4⟩
        have HK4 := Lib.hid hk4
        cases hd : (dd == num)
        · have HP : Hid (m.inDom by_ num k = false) := HPD.out.trans hd
          go_wp2_with fail
          go_roundw
          case rel =>
            refine ⟨k + 1, _, _, _, by omega, by go_num, rfl, ?_, ?_⟩
            · show _ = _
              rw [HF.out, HN.out, if_neg (by rw [HP.out]; decide)]
              simp
            · show AppAt _ _ _ _ _ _ _
              rw [HF.out, if_neg (by rw [HP.out]; decide)]
              simpa using HA2.out.keep HK4.out
          case measure => simp [intOf]; omega

        · have HP : Hid (m.inDom by_ num k = true) := HPD.out.trans hd
          go_wp2_with (at_builtin; refine wpL_app slI rfl _ _ rfl rfl ((HA2.out.keep (hk4.alloc _)).own) rfl (bad := noB) (Rd.of_blk (Blk.new w4 3 [Value.int .i64 ((k : Int) + 1)].toArray) (fun x => x) (by rfl) (by omega) (by simp [maxLen])) (int_one ((k : Int) + 1)) (by omega) (Nat.zero_le _) ?_; intro A3 c3' w3 hown3 hgrow3 hat3 _; have HA3 := Lib.hid (AppAt.next (HA2.out.keep (hk4.alloc _)) hgrow3 hat3 hown3); clear hown3 hgrow3 hat3)
          go_roundw
          case rel =>
            refine ⟨k + 1, _, _, _, by omega, by go_num, rfl, ?_, ?_⟩
            · show _ = _
              rw [HF.out, HN.out, if_pos HP.out]
              simp
            · show AppAt _ _ _ _ _ _ _
              rw [HF.out, if_pos HP.out, icells_snoc]
              exact HA3.out
          case measure => simp [intOf]; omega

      · have HP : Hid (m.inDom by_ num k = false) := by show m.inDom by_ num k = false; unfold Mdl.inDom; rw [e0, decide_eq_false h1]; rfl
        clear h0
        go_wp2_with fail
        go_roundw
        case rel =>
          refine ⟨k + 1, _, _, _, by omega, by go_num, rfl, ?_, ?_⟩
          · show _ = _
            rw [HF.out, HN.out, if_neg (by rw [HP.out]; decide)]
            simp
          · show AppAt _ _ _ _ _ _ _
            rw [HF.out, if_neg (by rw [HP.out]; decide)]
            simpa using HA2.out
        case measure => simp [intOf]; omega

    · obtain rfl : k = p.mc.len := by omega
      have HA4 : Hid (AppAt w wr (.slice A2 n c2) q.length 3 1 (icells q)) := by
        show AppAt _ _ _ _ _ _ _
        have h1 := HA2.out.before HX.out.1.since
        rw [HN.out] at h1
        rw [HQ.out, HN.out]
        exact h1
      go_wp2_with fail
      go_ret
      exact ⟨_, rfl, HA4.out⟩

theorem AppAt.lit' {W : World} {g : Nat} (hg : W.heap.size = g) (e : TypeId) (size : Nat) : AppAt W (W.alloc (.cells #[] e)) (.slice (some ⟨g, 0, none⟩) 0 0) 0 e size [] := by
  subst hg
  exact AppAt.lit W e size

set_option maxHeartbeats 4000000 in
theorem rmachines_any {w : World} {p : MPl} {m : Mdl} (h : MdlIn w p m) {by_ num : Int} (hb : inI64 by_) (hlen : m.machines.length ≤ 1000000) :
    Calls Try.prog 20 #[mdlVal p m, .int .i64 by_, .int .i64 num] w fun e w' => ∃ v', e = .returned v' ∧ AppAt w w' v' (m.machinesOf by_ num).length 3 1 (icells (m.machinesOf by_ num)) := by
  have HMB := Lib.hid (MB.start h)
  have HQ : Hid (m.machinesOf by_ num = m.mof by_ num p.mc.len) := by
    show _ = m.mof by_ num p.mc.len
    rw [h.lm]
    rfl
  have hlen2 : p.mc.len ≤ 1000000 := by rw [h.lm]; exact hlen
  have Hb := Lib.hid hb
  generalize m.machinesOf by_ num = q at *
  clear h hb hlen
  unfold mdlVal at *
  unfold mdlCells at HMB
  go_enter Try.func20, Try.ntmps20
  go_wp2_with fail
  refine wp_abs (fun W => ∃ X, Hid (MB w X p m w.heap.size ∧ AppAt X W (.slice (some ⟨w.heap.size + 1, 0, none⟩) 0 0) 0 3 1 [])) ⟨_, HMB.out, ?_⟩ ?_
  · exact AppAt.lit' (by simp) 3 1
  rintro W ⟨X, HX⟩
  clear HMB
  have hM0 := (HX.out.1.keep HX.out.2.since).c3
  go_wp2_with fail
  go_loopw [7, 8] (fun o i wr => ∃ (k : Nat) (A2 : Option Addr) (c2 n : Nat), k ≤ p.mc.len ∧ i = .int .i64 ((k : Int) + 1) ∧ o = .slice A2 n c2 ∧ Hid (n = (m.mof by_ num k).length) ∧ Hid (AppAt X wr (.slice A2 n c2) n 3 1 (icells (m.mof by_ num k)))) (fun _ i _ => p.mc.len + 1 - (intOf i).toNat)
  case atStart => exact ⟨0, _, _, 0, Nat.zero_le _, rfl, rfl, rfl, HX.out.2⟩
  case round =>
    obtain ⟨k, A2, c2, n, hk, rfl, rfl, HN, HA2⟩ := hrel
    have HM := Lib.hid (HX.out.1.keep HA2.out.since)
    obtain ⟨m0, m1, m2, m3, m4, m5, m6, m7, m8, m9, m10⟩ := HM.out.all
    have hml := HM.out.box.lt
    have hn : n ≤ 1000000 := by
      rw [HN.out]
      have := mof_len m by_ num k
      omega
    clear hM0
    by_cases hlt : k < p.mc.len
    · have HF := Lib.hid (mof_step m by_ num k)
      by_cases h0 : by_ = 0
      · have e0 : (by_ == 0) = true := by simpa using h0
        have HP : Hid (m.inDom by_ num k = true) := by show m.inDom by_ num k = true; unfold Mdl.inDom; rw [e0]; rfl
        clear h0
        go_wp2_with (at_builtin; refine wpL_app slI rfl _ _ rfl rfl ((HA2.out.keep ((Same.refl _ _).alloc _)).own) rfl (bad := noB) (Rd.of_blk (Blk.new wr 3 [Value.int .i64 ((k : Int) + 1)].toArray) (fun x => x) (by rfl) (by omega) (by simp [maxLen])) (int_one ((k : Int) + 1)) (by omega) (Nat.zero_le _) ?_; intro A3 c3' w3 hown3 hgrow3 hat3 _; have HA3 := Lib.hid (AppAt.next (HA2.out.keep ((Same.refl _ _).alloc _)) hgrow3 hat3 hown3); clear hown3 hgrow3 hat3)
        go_roundw
        case rel =>
          refine ⟨k + 1, _, _, _, by omega, by rw [show (((k + 1 : Nat) : Int) + 1) = (k : Int) + 1 + 1 from by omega], rfl, ?_, ?_⟩
          · show _ = _
            rw [HF.out, HN.out, if_pos HP.out]
            simp
          · show AppAt _ _ _ _ _ _ _
            rw [HF.out, if_pos HP.out, icells_snoc]
            exact HA3.out
        case measure => simp [intOf]; omega

      have e0 : (by_ == 0) = false := by simpa using h0
      by_cases h1 : 1 ≤ num
      · have HD := Lib.hid (rdomain_any HM.out.inn by_ ((k : Int) + 1))
        have HPD : Hid (m.inDom by_ num k = (m.domain by_ ((k : Int) + 1) == num)) := by show m.inDom by_ num k = _; unfold Mdl.inDom; rw [e0, decide_eq_true h1]; rfl
        generalize m.domain by_ ((k : Int) + 1) = dd at *
        clear h0
        go_wp2_with fail
        have hZ := HD.out
        unfold mdlVal at hZ
        (with_reducible refine Calls.mono hZ ?_)
        clear hZ HD
        rintro e w4 ⟨rfl, hk4⟩
        have HK4 := Lib.hid hk4
        cases hd : (dd == num)
        · have HP : Hid (m.inDom by_ num k = false) := HPD.out.trans hd
          go_wp2_with fail
          go_roundw
          case rel =>
            refine ⟨k + 1, _, _, _, by omega, by rw [show (((k + 1 : Nat) : Int) + 1) = (k : Int) + 1 + 1 from by omega], rfl, ?_, ?_⟩
            · show _ = _
              rw [HF.out, HN.out, if_neg (by rw [HP.out]; decide)]
              simp
            · show AppAt _ _ _ _ _ _ _
              rw [HF.out, if_neg (by rw [HP.out]; decide)]
              simpa using HA2.out.keep HK4.out
          case measure => simp [intOf]; omega

        · have HP : Hid (m.inDom by_ num k = true) := HPD.out.trans hd
          go_wp2_with (at_builtin; refine wpL_app slI rfl _ _ rfl rfl ((HA2.out.keep (hk4.alloc _)).own) rfl (bad := noB) (Rd.of_blk (Blk.new w4 3 [Value.int .i64 ((k : Int) + 1)].toArray) (fun x => x) (by rfl) (by omega) (by simp [maxLen])) (int_one ((k : Int) + 1)) (by omega) (Nat.zero_le _) ?_; intro A3 c3' w3 hown3 hgrow3 hat3 _; have HA3 := Lib.hid (AppAt.next (HA2.out.keep (hk4.alloc _)) hgrow3 hat3 hown3); clear hown3 hgrow3 hat3)
          go_roundw
          case rel =>
            refine ⟨k + 1, _, _, _, by omega, by rw [show (((k + 1 : Nat) : Int) + 1) = (k : Int) + 1 + 1 from by omega], rfl, ?_, ?_⟩
            · show _ = _
              rw [HF.out, HN.out, if_pos HP.out]
              simp
            · show AppAt _ _ _ _ _ _ _
              rw [HF.out, if_pos HP.out, icells_snoc]
              exact HA3.out
          case measure => simp [intOf]; omega

      · have HP : Hid (m.inDom by_ num k = false) := by show m.inDom by_ num k = false; unfold Mdl.inDom; rw [e0, decide_eq_false h1]; rfl
        clear h0
        go_wp2_with fail
        go_roundw
        case rel =>
          refine ⟨k + 1, _, _, _, by omega, by rw [show (((k + 1 : Nat) : Int) + 1) = (k : Int) + 1 + 1 from by omega], rfl, ?_, ?_⟩
          · show _ = _
            rw [HF.out, HN.out, if_neg (by rw [HP.out]; decide)]
            simp
          · show AppAt _ _ _ _ _ _ _
            rw [HF.out, if_neg (by rw [HP.out]; decide)]
            simpa using HA2.out
        case measure => simp [intOf]; omega

    · obtain rfl : k = p.mc.len := by omega
      have HA4 : Hid (AppAt w wr (.slice A2 n c2) q.length 3 1 (icells q)) := by
        show AppAt _ _ _ _ _ _ _
        have h1 := HA2.out.before HX.out.1.since
        rw [HN.out] at h1
        rw [HQ.out, HN.out]
        exact h1
      go_wp2_with fail
      go_ret
      exact ⟨_, rfl, HA4.out⟩
end Go.Proofs.Ytkmclglphelhdaa
