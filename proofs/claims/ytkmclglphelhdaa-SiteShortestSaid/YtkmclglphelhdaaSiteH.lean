/- Layer 14: the reference's Link; Near of the program and of the reference. (printed by genSiteH.py) -/
import Derived.Test.YtkmclglphelhdaaSiteG
namespace Go.Proofs.Ytkmclglphelhdaa
open Go Go.RowKit Go.Maps

def Mdl.nearK (m : Mdl) (s : Int) (k : Nat) : List Int := ((List.range k).map (fun (i : Nat) => (i : Int) + 1)).filter (fun t => decide (0 < m.link s t))
theorem nearK_step (m : Mdl) (s : Int) (k : Nat) : m.nearK s (k + 1) = m.nearK s k ++ (if 0 < m.link s ((k : Int) + 1) then [(k : Int) + 1] else []) := by
  unfold Mdl.nearK
  rw [List.range_succ, List.map_append, List.filter_append]
  congr 1
  simp only [List.map_cons, List.map_nil, List.filter_cons, List.filter_nil, decide_eq_true_eq]
theorem nearK_len (m : Mdl) (s : Int) (k : Nat) : (m.nearK s k).length ≤ k := by
  unfold Mdl.nearK
  have := List.length_filter_le (fun t => decide (0 < m.link s t)) ((List.range k).map (fun (i : Nat) => (i : Int) + 1))
  rwa [List.length_map, List.length_range] at this
theorem link_nonneg (m : Mdl) (a b : Int) : 0 ≤ m.link a b := by
  unfold Mdl.link
  split
  · exact Int.le_refl _
  · split <;> omega

set_option maxHeartbeats 4000000 in
theorem near_yes {w : World} {p : MPl} {m : Mdl} (h : MdlIn w p m) {s : Int} (hlen : m.sites.length ≤ 1000000) (hll : m.links.length ≤ 1000000) (he : exB s m.sites.length = true) :
    Calls Try.prog 26 #[mdlVal p m, .int .i64 s] w fun e w' => ∃ v', e = .returned v' ∧ AppAt w w' v' (m.nearK s m.sites.length).length 3 1 (icells (m.nearK s m.sites.length)) := by
  have HMB := Lib.hid (MB.start h)
  have HQ : Hid (m.nearK s m.sites.length = m.nearK s p.s.len) := by
    show _ = m.nearK s p.s.len
    rw [h.ls]
  have hlen2 : p.s.len ≤ 1000000 := by rw [h.ls]; exact hlen
  have HE : Hid (exB s p.s.len = true) := by show exB _ _ = true; rw [h.ls]; exact he
  have HL := Lib.hid hll
  generalize m.nearK s m.sites.length = q at *
  clear h hlen he hll
  unfold mdlVal at *
  unfold mdlCells at HMB
  go_enter Try.func26, Try.ntmps26
  go_wp2_with fail
  refine calls_abs (fun W => Hid (MB w W p m w.heap.size)) HMB ?_
  intro X HX0
  refine (exists_any s p.s.len _).mono ?_
  rintro e w2 ⟨rfl, rfl⟩
  rw [HE.out]
  have hM0 := HX0.out.c0
  have HX : Hid (MB w w2 p m w.heap.size ∧ AppAt w2 w2 (.slice none 0 0) 0 3 1 []) := ⟨HX0.out, AppAt.nil_ _ _ _⟩
  clear HMB HX0
  go_wp2_with fail
  go_loopw [5, 16] (fun o i wr => ∃ (k : Nat) (A2 : Option Addr) (c2 n : Nat), k ≤ p.s.len ∧ i = .int .i64 k ∧ o = .slice A2 n c2 ∧ Hid (n = (m.nearK s k).length) ∧ Hid (AppAt w2 wr (.slice A2 n c2) n 3 1 (icells (m.nearK s k)))) (fun _ i _ => p.s.len - (intOf i).toNat)
  case atStart => exact ⟨0, _, _, 0, Nat.zero_le _, rfl, rfl, rfl, HX.out.2⟩
  case round =>
    obtain ⟨k, A2, c2, n, hk, rfl, rfl, HN, HA2⟩ := hrel
    have HM := Lib.hid (HX.out.1.keep HA2.out.since)
    obtain ⟨m0, m1, m2, m3, m4, m5, m6, m7, m8, m9, m10⟩ := HM.out.all
    have hml := HM.out.box.lt
    have hn : n ≤ 1000000 := by
      rw [HN.out]
      have := nearK_len m s k
      omega
    clear hM0
    by_cases hlt : k < p.s.len
    · have HF := Lib.hid (nearK_step m s k)
      have HD := Lib.hid (link_any HM.out.inn s ((k : Int) + 1) HL.out)
      have hnn := link_nonneg m s ((k : Int) + 1)
      generalize m.link s ((k : Int) + 1) = dd at *
      by_cases hpos : 0 < dd
      · have e9 : (dd != 0) = true := by simp; omega
        go_wp2_with fail
        have hZ := HD.out
        unfold mdlVal at hZ
        (with_reducible refine Calls.mono hZ ?_)
        clear hZ HD
        rintro e w4 ⟨rfl, hk4⟩
        go_wp2_with (at_builtin; refine wpL_app slI rfl _ _ rfl rfl ((HA2.out.keep (hk4.alloc _)).own) rfl (bad := noB) (Rd.of_blk (Blk.new w4 3 [Value.int .i64 ((k : Int) + 1)].toArray) (fun x => x) (by rfl) (by omega) (by simp [maxLen])) (int_one ((k : Int) + 1)) (by omega) (Nat.zero_le _) ?_; intro A3 c3' w3 hown3 hgrow3 hat3 _; have HA3 := Lib.hid (AppAt.next (HA2.out.keep (hk4.alloc _)) hgrow3 hat3 hown3); clear hown3 hgrow3 hat3)
        go_roundw
        case rel =>
          refine ⟨k + 1, _, _, _, by omega, by go_num, rfl, ?_, ?_⟩
          · show _ = _
            rw [HF.out, HN.out, if_pos hpos]
            simp
          · show AppAt _ _ _ _ _ _ _
            rw [HF.out, if_pos hpos, icells_snoc]
            exact HA3.out
        case measure => simp [intOf]; omega
      · have e9 : (dd != 0) = false := by simp; omega
        go_wp2_with fail
        have hZ := HD.out
        unfold mdlVal at hZ
        (with_reducible refine Calls.mono hZ ?_)
        clear hZ HD
        rintro e w4 ⟨rfl, hk4⟩
        have HK4 := Lib.hid hk4
        go_wp2_with fail
        go_roundw
        case rel =>
          refine ⟨k + 1, _, _, _, by omega, by go_num, rfl, ?_, ?_⟩
          · show _ = _
            rw [HF.out, HN.out, if_neg (by omega)]
            simp
          · show AppAt _ _ _ _ _ _ _
            rw [HF.out, if_neg (by omega)]
            simpa using HA2.out.keep HK4.out
        case measure => simp [intOf]; omega
    · obtain rfl : k = p.s.len := by omega
      have HA4 : Hid (AppAt w wr (.slice A2 n c2) q.length 3 1 (icells q)) := by
        show AppAt _ _ _ _ _ _ _
        have h1 := HA2.out.before HX.out.1.since
        rw [HN.out] at h1
        rw [HQ.out, HN.out]
        exact h1
      go_wp2_with fail
      go_ret
      exact ⟨_, rfl, HA4.out⟩
end Go.Proofs.Ytkmclglphelhdaa
