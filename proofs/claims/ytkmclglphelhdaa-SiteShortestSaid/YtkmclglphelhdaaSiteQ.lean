/- Layer 14: the reference's Link and Near; Near whatever the site. (printed by genSiteQ.py) -/
import Derived.Test.YtkmclglphelhdaaSiteP
namespace Go.Proofs.Ytkmclglphelhdaa
open Go Go.RowKit Go.Maps

theorem joins_comm (a b : Int) (x : Lk) : Mdl.joins b a x = Mdl.joins a b x := by
  unfold Mdl.joins
  rw [Bool.or_comm]
theorem link_symm (m : Mdl) (a b : Int) : m.link a b = m.link b a := by
  unfold Mdl.link
  rw [show Mdl.joins a b = Mdl.joins b a from funext fun x => joins_comm b a x]
  by_cases h : a = b
  · rw [if_pos h, if_pos h.symm]
  · rw [if_neg h, if_neg (fun e => h e.symm)]
set_option maxHeartbeats 4000000 in
theorem rlink_any {w : World} {p : MPl} {m : Mdl} (h : MdlIn w p m) (a b : Int) (hlen : m.links.length ≤ 1000000) :
    Calls Try.prog 25 #[mdlVal p m, .int .i64 a, .int .i64 b] w fun e w' => e = .returned (.int .i64 (m.link a b)) ∧ Same noB w w' := by
  have HMB := Lib.hid (MB.start h)
  have HN := Lib.hid h.ll
  have hb : p.l.len ≤ 1000000 := by rw [h.ll]; exact hlen
  clear h hlen
  by_cases hab : a = b
  · have HQ : Hid (m.link a b = 0) := by show m.link a b = 0; unfold Mdl.link; rw [if_pos hab]
    have e0 : (a != b) = false := by simpa using hab
    generalize m.link a b = q at *
    clear hab
    unfold mdlVal
    unfold mdlCells at HMB
    go_enter Try.func25, Try.ntmps25
    go_wp2_with fail
    refine wp_abs (fun W => Hid (MB w W p m w.heap.size)) HMB ?_
    clear HMB
    generalize w.heap.size = M at *
    intro W HM
    have c4 := HM.out.c4
    refine wp_loop_rounds 1 ?_
    rw [rounds_succ]
    go_wp2_with fail
    all_goals
      go_ret
      exact ⟨by rw [HQ.out] <;> rfl, HM.out.since⟩
  · have HQ := Lib.hid (link_eq m a b hab)
    have e0 : (a != b) = true := by simpa using hab
    generalize m.link a b = q at *
    clear hab
    unfold mdlVal
    unfold mdlCells at HMB
    go_enter Try.func25, Try.ntmps25
    go_wp2_with fail
    refine wp_abs (fun W => Hid (MB w W p m w.heap.size)) HMB ?_
    clear HMB
    generalize w.heap.size = M at *
    intro W HM
    go_loopw [7] (fun i wr => ∃ k : Nat, k ≤ p.l.len ∧ i = .int .i64 k ∧ Hid ((∀ (j : Nat) z, j < k → m.links[j]? = some z → Mdl.joins a b z = false) ∧ MB w wr p m M)) (fun i _ => p.l.len - (intOf i).toNat)
    case atStart => exact ⟨0, Nat.zero_le _, rfl, ⟨fun j z hj => by omega, HM.out⟩⟩
    case round =>
      obtain ⟨k, hk, rfl, HS⟩ := hrel
      clear HM
      have c4 := HS.out.2.c4
      by_cases hlt : k < p.l.len
      · obtain ⟨y, hy⟩ : ∃ y, m.links[k]? = some y := ⟨_, List.getElem?_eq_getElem (by have := HN.out; omega)⟩
        obtain ⟨rb, ro, hadr, d0, d1, d2, rbl⟩ := HS.out.2.inn.lnk hy
        rw [hadr] at c4
        have HP : Hid (Mdl.joins a b y = ((y.a == a && y.b == b) || (y.a == b && y.b == a))) := rfl
        have HY := Lib.hid hy
        clear hy hadr
        cases h1 : (y.a == a) <;> cases h2 : (y.b == b) <;> cases h3 : (y.a == b) <;> cases h4 : (y.b == a)
        all_goals
          rw [h1, h2, h3, h4] at HP
          go_wp2_with fail
        all_goals first
          | (go_ret; refine ⟨?_, HS.out.2.since.alloc _⟩; rw [HQ.out, fidx_some HY.out (HP.out.trans rfl) HS.out.1, Int.add_comm]; rfl)
          | (go_roundw
             case rel => exact ⟨k + 1, by omega, by go_num, ⟨fun j z hj hz => by
               by_cases e : j = k
               · subst e
                 have := hz.symm.trans HY.out
                 injection this with this
                 rw [this]
                 exact HP.out.trans rfl
               · exact HS.out.1 j z (by omega) hz, HS.out.2.keep ((Same.refl _ _).alloc _)⟩⟩
             case measure => simp [intOf]; omega)
      · obtain rfl : k = p.l.len := by omega
        have HF := Lib.hid (fidx_none (p := Mdl.joins a b) (l := m.links) (fun j z hz => HS.out.1 j z (by have := (List.getElem?_eq_some_iff.1 hz).1; have := HN.out; omega) hz))
        go_wp2_with fail
        go_ret
        exact ⟨by rw [HQ.out, HF.out] <;> rfl, HS.out.2.since⟩

set_option maxHeartbeats 4000000 in
theorem rnear_yes {w : World} {p : MPl} {m : Mdl} (h : MdlIn w p m) {s : Int} (hlen : m.sites.length ≤ 1000000) (hll : m.links.length ≤ 1000000) (he : exB s m.sites.length = true) :
    Calls Try.prog 27 #[mdlVal p m, .int .i64 s] w fun e w' => ∃ v', e = .returned v' ∧ AppAt w w' v' (m.nearK s m.sites.length).length 3 1 (icells (m.nearK s m.sites.length)) := by
  have HMB := Lib.hid (MB.start h)
  have HQ : Hid (m.nearK s m.sites.length = m.nearK s p.s.len) := by
    show _ = m.nearK s p.s.len
    rw [h.ls]
  have hlen2 : p.s.len ≤ 1000000 := by rw [h.ls]; exact hlen
  have HE : Hid (exB s p.s.len = true) := by show exB _ _ = true; rw [h.ls]; exact he
  have HL := Lib.hid hll
  generalize m.nearK s m.sites.length = q at *
  clear h hlen he hll
  unfold mdlVal at *
  unfold mdlCells at HMB
  go_enter Try.func27, Try.ntmps27
  go_wp2_with fail
  refine wp_abs (fun W => ∃ X, Hid (MB w X p m w.heap.size ∧ AppAt X W (.slice (some ⟨w.heap.size + 1, 0, none⟩) 0 0) 0 3 1 [])) ⟨_, HMB.out, ?_⟩ ?_
  · exact AppAt.lit' (by simp) 3 1
  rintro W ⟨X, HX⟩
  clear HMB
  go_loopw [5, 6] (fun o i wr => ∃ (k : Nat) (A2 : Option Addr) (c2 n : Nat), k ≤ p.s.len ∧ i = .int .i64 ((k : Int) + 1) ∧ o = .slice A2 n c2 ∧ Hid (n = (m.nearK s k).length) ∧ Hid (AppAt X wr (.slice A2 n c2) n 3 1 (icells (m.nearK s k)))) (fun _ i _ => p.s.len + 1 - (intOf i).toNat)
  case atStart => exact ⟨0, _, _, 0, Nat.zero_le _, rfl, rfl, rfl, HX.out.2⟩
  case round =>
    obtain ⟨k, A2, c2, n, hk, rfl, rfl, HN, HA2⟩ := hrel
    have HM := Lib.hid (HX.out.1.keep HA2.out.since)
    obtain ⟨m0, m1, m2, m3, m4, m5, m6, m7, m8, m9, m10⟩ := HM.out.all
    have hml := HM.out.box.lt
    have hn : n ≤ 1000000 := by
      rw [HN.out]
      have := nearK_len m s k
      omega
    skip
    by_cases hlt : k < p.s.len
    · have HF := Lib.hid (nearK_step m s k)
      have HD := Lib.hid (rlink_any HM.out.inn s ((k : Int) + 1) HL.out)
      have hnn := link_nonneg m s ((k : Int) + 1)
      generalize m.link s ((k : Int) + 1) = dd at *
      by_cases hpos : 0 < dd
      · have e9 : (dd != 0) = true := by simp; omega
        go_wp2_with fail
        refine (rexists_any s p.s.len _).mono ?_
        rintro e w2 ⟨rfl, rfl⟩
        rw [HE.out]
        go_wp2_with fail
        have hZ := HD.out
        unfold mdlVal at hZ
        (with_reducible refine Calls.mono hZ ?_)
        clear hZ HD
        rintro e w4 ⟨rfl, hk4⟩
        go_wp2_with (at_builtin; refine wpL_app slI rfl _ _ rfl rfl ((HA2.out.keep (hk4.alloc _)).own) rfl (bad := noB) (Rd.of_blk (Blk.new w4 3 [Value.int .i64 ((k : Int) + 1)].toArray) (fun x => x) (by rfl) (by omega) (by simp [maxLen])) (int_one ((k : Int) + 1)) (by omega) (Nat.zero_le _) ?_; intro A3 c3' w3 hown3 hgrow3 hat3 _; have HA3 := Lib.hid (AppAt.next (HA2.out.keep (hk4.alloc _)) hgrow3 hat3 hown3); clear hown3 hgrow3 hat3)
        go_roundw
        case rel =>
          refine ⟨k + 1, _, _, _, by omega, by rw [show (((k + 1 : Nat) : Int) + 1) = (k : Int) + 1 + 1 from by omega], rfl, ?_, ?_⟩
          · show _ = _
            rw [HF.out, HN.out, if_pos hpos]
            simp
          · show AppAt _ _ _ _ _ _ _
            rw [HF.out, if_pos hpos, icells_snoc]
            exact HA3.out
        case measure => simp [intOf]; omega
      · have e9 : (dd != 0) = false := by simp; omega
        go_wp2_with fail
        refine (rexists_any s p.s.len _).mono ?_
        rintro e w2 ⟨rfl, rfl⟩
        rw [HE.out]
        go_wp2_with fail
        have hZ := HD.out
        unfold mdlVal at hZ
        (with_reducible refine Calls.mono hZ ?_)
        clear hZ HD
        rintro e w4 ⟨rfl, hk4⟩
        have HK4 := Lib.hid hk4
        go_wp2_with fail
        go_roundw
        case rel =>
          refine ⟨k + 1, _, _, _, by omega, by rw [show (((k + 1 : Nat) : Int) + 1) = (k : Int) + 1 + 1 from by omega], rfl, ?_, ?_⟩
          · show _ = _
            rw [HF.out, HN.out, if_neg (by omega)]
            simp
          · show AppAt _ _ _ _ _ _ _
            rw [HF.out, if_neg (by omega)]
            simpa using HA2.out.keep HK4.out
        case measure => simp [intOf]; omega
    · obtain rfl : k = p.s.len := by omega
      have HA4 : Hid (AppAt w wr (.slice A2 n c2) q.length 3 1 (icells q)) := by
        show AppAt _ _ _ _ _ _ _
        have h1 := HA2.out.before HX.out.1.since
        rw [HN.out] at h1
        rw [HQ.out, HN.out]
        exact h1
      go_wp2_with fail
      go_ret
      exact ⟨_, rfl, HA4.out⟩

theorem near_no {w : World} {p : MPl} {m : Mdl} (h : MdlIn w p m) {s : Int} (he : exB s m.sites.length = false) :
    Calls Try.prog 26 #[mdlVal p m, .int .i64 s] w fun e w' => e = .returned (.slice none 0 0) ∧ Same noB w w' := by
  have HMB := Lib.hid (MB.start h)
  have HE : Hid (exB s p.s.len = false) := by show exB _ _ = false; rw [h.ls]; exact he
  clear h he
  unfold mdlVal
  unfold mdlCells at HMB
  go_enter Try.func26, Try.ntmps26
  go_wp2_with fail
  refine (exists_any s p.s.len _).mono ?_
  rintro e w2 ⟨rfl, rfl⟩
  rw [HE.out]
  go_wp2_with fail
  go_ret
  exact ⟨rfl, HMB.out.since⟩
theorem rnear_no {w : World} {p : MPl} {m : Mdl} (h : MdlIn w p m) {s : Int} (he : exB s m.sites.length = false) :
    Calls Try.prog 27 #[mdlVal p m, .int .i64 s] w fun e w' => ∃ v', e = .returned v' ∧ AppAt w w' v' 0 3 1 [] := by
  have HMB := Lib.hid (MB.start h)
  have HE : Hid (exB s p.s.len = false) := by show exB _ _ = false; rw [h.ls]; exact he
  clear h he
  unfold mdlVal
  unfold mdlCells at HMB
  go_enter Try.func27, Try.ntmps27
  go_wp2_with fail
  refine wp_abs (fun W => ∃ X, Hid (MB w X p m w.heap.size ∧ AppAt X W (.slice (some ⟨w.heap.size + 1, 0, none⟩) 0 0) 0 3 1 [])) ⟨_, HMB.out, ?_⟩ ?_
  · exact AppAt.lit' (by simp) 3 1
  rintro W ⟨X, HX⟩
  clear HMB
  have HM := Lib.hid (HX.out.1.keep HX.out.2.since)
  have HA := Lib.hid (HX.out.2.before HX.out.1.since)
  have c0 := HM.out.c0
  refine wp_loop_rounds 1 ?_
  rw [rounds_succ]
  by_cases hl : 1 ≤ p.s.len
  · go_wp2_with fail
    refine (rexists_any s p.s.len _).mono ?_
    rintro e w2 ⟨rfl, rfl⟩
    rw [HE.out]
    go_wp2_with fail
    go_ret
    exact ⟨_, rfl, HA.out⟩
  · go_wp2_with fail
    go_ret
    exact ⟨_, rfl, HA.out⟩
theorem near_any {w : World} {p : MPl} {m : Mdl} (h : MdlIn w p m) {s : Int} (hs : m.sites.length ≤ 1000000) (hl : m.links.length ≤ 1000000) :
    Calls Try.prog 26 #[mdlVal p m, .int .i64 s] w fun e w' => ∃ v', e = .returned v' ∧ AppAt w w' v' (m.near s).length 3 1 (icells (m.near s)) := by
  unfold Mdl.near
  cases he : exB s m.sites.length
  · exact (near_no h he).mono fun e w' hh => ⟨_, hh.1, (AppAt.nil_ _ _ _).before hh.2⟩
  · exact near_yes h hs hl he
theorem rnear_any {w : World} {p : MPl} {m : Mdl} (h : MdlIn w p m) {s : Int} (hs : m.sites.length ≤ 1000000) (hl : m.links.length ≤ 1000000) :
    Calls Try.prog 27 #[mdlVal p m, .int .i64 s] w fun e w' => ∃ v', e = .returned v' ∧ AppAt w w' v' (m.near s).length 3 1 (icells (m.near s)) := by
  unfold Mdl.near
  cases he : exB s m.sites.length
  · exact rnear_no h he
  · exact rnear_yes h hs hl he
end Go.Proofs.Ytkmclglphelhdaa
