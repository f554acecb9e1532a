/- Layer 14: the reference's Route, walked. -/
import Derived.Test.YtkmclglphelhdaaRoutF
namespace Go.Proofs.Ytkmclglphelhdaa
open Go Go.RowKit Go.Maps

theorem nxt_idx {nb : Int → List Int} {n : Nat} {b : Int} (hg : Gr nb n) {k : Nat} {x : Int} (h1 : 1 ≤ x) (h2 : x ≤ (n : Int)) (hm : MinW nb b (k + 1) x) :
    ∃ (i : Nat) (y : Int), (nb x)[i]? = some y ∧ nxt nb (dst nb n b) x = y ∧ MinW nb b k y ∧ dst nb n b y = (k : Int) ∧ ∀ (t : Nat) (z : Int), t < i → (nb x)[t]? = some z → dst nb n b z ≠ (k : Int) := by
  obtain ⟨t, ht, hmt⟩ := minW_succ hm
  have hr := hg.rng _ _ ht
  have hdx := dst_min hg h1 h2 hm
  have hdt := dst_min hg hr.1 hr.2 hmt
  have hn := nxt_min hg h1 h2 hm
  have hrn := hg.rng _ _ hn.1
  have hdn := dst_min hg hrn.1 hrn.2 hn.2
  cases hf : (nb x).find? (fun t => dst nb n b t == dst nb n b x - 1) with
  | none =>
    have := List.find?_eq_none.1 hf t ht
    simp at this
    omega
  | some y =>
    have hy : nxt nb (dst nb n b) x = y := by unfold nxt; rw [hf]; rfl
    obtain ⟨hp, i, hi, he, hb⟩ := List.find?_eq_some_iff_getElem.1 hf
    refine ⟨i, y, List.getElem?_eq_some_iff.2 ⟨hi, he⟩, hy, by rw [← hy]; exact hn.2, by rw [← hy]; exact hdn, fun t z hlt hz hd => ?_⟩
    obtain ⟨hz1, hz2⟩ := List.getElem?_eq_some_iff.1 hz
    have h3 := hb t hlt
    rw [hz2, hd, hdx] at h3
    simp at h3
theorem exB_nat {n : Int} {len : Nat} (h : exB n len = true) : ∃ i : Nat, n = (i : Int) ∧ 1 ≤ i ∧ i ≤ len := by
  rw [exB_iff] at h
  exact ⟨n.toNat, by omega, by omega, by omega⟩

set_option maxRecDepth 100000 in
set_option maxHeartbeats 8000000 in
theorem rroute_yes {w : World} {p : MPl} {m : Mdl} (h : MdlIn w p m) {a b : Int} (hls : m.sites.length ≤ 1000000) (hll : m.links.length ≤ 1000000) (ha : exB a m.sites.length = true) (hb : exB b m.sites.length = true) :
    Calls Try.prog 29 #[mdlVal p m, .int .i64 a, .int .i64 b] w fun e w' => ∃ v', e = .returned v' ∧ Rd w' noB 1 v' (m.route a b).length (icells (m.route a b)) ∧ Same noB w w' := by
  have HRT : Hid (m.route a b = rt m.near m.sites.length a b) := by show m.route a b = _; unfold Mdl.route; rw [ha, hb]; rfl
  have HEB := Lib.hid hb
  have HRL : Hid ((m.route a b).length ≤ 1000000) := by
    have h1 := rt_le (near_gr m) (b := b) (a := a) (exB_iff.1 ha).1 (exB_iff.1 ha).2
    rw [← HRT.out] at h1
    exact Nat.le_trans h1 hls
  have HE1 : Hid (exB a p.s.len = true) := by show exB _ _ = true; rw [h.ls]; exact ha
  have HE2 : Hid (exB b p.s.len = true) := by show exB _ _ = true; rw [h.ls]; exact hb
  obtain ⟨xa, rfl, xa1, xaN⟩ := exB_nat ha
  obtain ⟨xb, rfl, xb1, xbN⟩ := exB_nat hb
  have HMB := Lib.hid (MB.start h)
  have HLN := Lib.hid h.ls
  have HLS := Lib.hid hls
  have HLL := Lib.hid hll
  rw [← HLN.out] at xaN xbN
  have hN : p.s.len ≤ 1000000 := by rw [HLN.out]; exact hls
  generalize m.route (xa : Int) (xb : Int) = rr at *
  clear h ha hb hls hll
  unfold mdlVal
  unfold mdlCells at HMB
  go_enter Try.func29, Try.ntmps29
  go_wp2_with fail
  refine (rexists_any (xa : Int) p.s.len _).mono ?_
  rintro e w2 ⟨rfl, rfl⟩
  rw [HE1.out]
  go_wp2_with fail
  refine (rexists_any (xb : Int) p.s.len _).mono ?_
  rintro e w2 ⟨rfl, rfl⟩
  rw [HE2.out]
  go_wp2_with fail
  refine calls_abs (fun W => Hid (MB w W p m w.heap.size)) HMB ?_
  clear HMB HE1 HE2
  generalize w.heap.size = M at *
  intro W HM
  have hZ := rdist_any HM.out.inn HLS.out HLL.out HEB.out
  unfold mdlVal at hZ
  (with_reducible refine Calls.mono hZ ?_)
  clear hZ
  rintro e W6 ⟨v6, rfl, ha⟩
  obtain ⟨A6, c6', rfl, hc61, hc62, hr6⟩ := (ha.rd (bad := noB) (fun b e => e.elim)).form
  obtain ⟨db, dof, rfl, hrd⟩ := hr6.at_ (by omega)
  have HM6 := Lib.hid (HM.out.keep ha.since)
  have HD := Lib.hid (show ∀ q : Nat, q ≤ p.s.len → W6.cell? ⟨db, dof + q, none⟩ = some (.int .i64 (dF m (xb : Int) q)) from fun q hq => hrd.cell q _ (fCells_at hq))
  have hda := HD.out xa xaN
  have hdF : dF m (xb : Int) xa = dst m.near m.sites.length (xb : Int) (xa : Int) := by unfold dF; rw [if_neg (by omega)]
  rw [hdF] at hda
  clear ha hr6 hrd hdF HM
  rcases dst_spec (b := (xb : Int)) (near_gr m) (s := (xa : Int)) (by omega) (by rw [← HLN.out]; omega) with ⟨k0, hk0, hd0, hm0⟩ | ⟨hd0, _⟩
  · rw [hd0] at hda
    have HM0 := Lib.hid hm0
    have HRG : Hid (rr = greedy m.near (dst m.near m.sites.length (xb : Int)) k0 (xa : Int)) := by
      show rr = _
      rw [HRT.out]
      unfold rt
      rw [if_neg (by omega), hd0, Int.toNat_natCast]
    clear hd0 hm0 HRT
    go_wp2_with fail
    clear hda
    refine wp_abs (fun W' => ∃ X, Hid (MB w X p m M ∧ (∀ q : Nat, q ≤ p.s.len → X.cell? ⟨db, dof + q, none⟩ = some (.int .i64 (dF m (xb : Int) q))) ∧ AppAt X W' (.slice (some ⟨W6.heap.size, 0, none⟩) 1 1) 1 3 1 (icells [(xa : Int)]))) ⟨W6, HM6.out, HD.out, ⟨own_one W6 (xa : Int), fun g hg => by simp [Value.ownBlock] at hg; omega, (Same.refl _ _).alloc _⟩⟩ ?_
    clear HM6 HD
    generalize W6.heap.size = g0 at *
    clear W6
    rintro W7 ⟨X, HX⟩
    go_loopg [1, 8] k0 (fun k av out wr => ∃ (x : Nat) (P : List Int) (A : Option Addr) (c n : Nat), 1 ≤ x ∧ x ≤ p.s.len ∧ av = .int .i64 (x : Int) ∧ out = .slice A n c ∧ Hid (MinW m.near (xb : Int) k (x : Int)) ∧
      Hid (rr = P ++ greedy m.near (dst m.near m.sites.length (xb : Int)) k (x : Int)) ∧ Hid (n = P.length + 1) ∧ Hid (AppAt X wr (.slice A n c) n 3 1 (icells (P ++ [(x : Int)]))))
    case atStart => exact ⟨xa, [], _, 1, 1, xa1, xaN, rfl, rfl, HM0.out, HRG.out, rfl, HX.out.2.2⟩
    case round =>
      obtain ⟨x, P, A, c, n, hx1, hxN, rfl, rfl, HW, HR, HN, HA⟩ := hrel
      clear HM0 HRG
      have hnb : n ≤ 1000000 := by
        have h1 := HRL.out
        rw [HR.out, List.length_append, greedy_len] at h1
        rw [HN.out]
        omega
      obtain ⟨k, rfl⟩ : ∃ k : Nat, k = gk := ⟨_, rfl⟩
      cases k with
      | zero =>
        obtain rfl : x = xb := by have h1 : (x : Int) = (xb : Int) := HW.out.1; omega
        have HF : Hid (Rd wr noB 1 (.slice A n c) rr.length (icells rr) ∧ Same noB w wr) := by
          have h1 : rr = P ++ [(x : Int)] := HR.out
          have h2 := Rd.of_own (bad := noB) HA.out.own (fun _ _ x => x)
          rw [h1, List.length_append, show P.length + [(x : Int)].length = n from HN.out.symm]
          exact ⟨h2, HX.out.1.since.trans' HA.out.since⟩
        go_wp2_with fail
        go_ret
        exact ⟨_, rfl, HF.out.1, HF.out.2⟩
      | succ k =>
        have hne : ((x : Int) == (xb : Int)) = false := by
          rw [beq_eq_false_iff_ne]
          intro e
          exact HW.out.2 0 (by omega) e
        have hne2 : ((x : Int) != (xb : Int)) = true := by rw [bne, hne]; rfl
        have HMw := Lib.hid (HX.out.1.keep HA.out.since)
        obtain ⟨c0, c1, c2, c3, c4, c5, c6, c7, c8, c9, c10⟩ := HMw.out.all
        go_wp2_with fail
        have hZ := rnear_any HMw.out.inn (s := (x : Int)) HLS.out HLL.out
        unfold mdlVal at hZ
        (with_reducible refine Calls.mono hZ ?_)
        clear hZ
        rintro e W8 ⟨v8, rfl, ha⟩
        obtain ⟨A8, c8', rfl, hc81, hc82, hr8⟩ := (ha.rd (bad := noB) (fun b e => e.elim)).form
        obtain ⟨i0, y0, hy0, hnx, hmy, hdy, hbef⟩ := nxt_idx (near_gr m) (b := (xb : Int)) (x := (x : Int)) (by omega) (by rw [← HLN.out]; omega) HW.out
        have hnl : (m.near (x : Int)).length ≤ 1000000 := Nat.le_trans (near_len m _) HLS.out
        have hil := (List.getElem?_eq_some_iff.1 hy0).1
        have HX8 : Hid (MB w W8 p m M ∧ (∀ q : Nat, q ≤ p.s.len → W8.cell? ⟨db, dof + q, none⟩ = some (.int .i64 (dF m (xb : Int) q))) ∧ AppAt X W8 (.slice A n c) n 3 1 (icells (P ++ [(x : Int)])) ∧ Rd W8 noB 1 (.slice A8 (m.near (x : Int)).length c8') (m.near (x : Int)).length (icells (m.near (x : Int)))) :=
          ⟨HMw.out.keep ha.since, fun q hq => ha.since.cell (HA.out.since.cell (HX.out.2.1 q hq) (fun e => e)) (fun e => e), HA.out.keep ha.since, hr8⟩
        have HY0 := Lib.hid hy0
        have HNX := Lib.hid hnx
        have HMY := Lib.hid hmy
        have HDY := Lib.hid hdy
        have HBF := Lib.hid hbef
        have hdx : dF m (xb : Int) x = (k : Int) + 1 := by
          unfold dF
          rw [if_neg (by omega), dst_min (near_gr m) (by omega) (by rw [← HLN.out]; omega) HW.out]
          omega
        have HDX := Lib.hid hdx
        have hk1 : (k : Int) + 1 ≤ 1000000 := by
          have h1 := minW_lt (near_gr m) (s := (x : Int)) (by omega) (by rw [← HLN.out]; omega) HW.out
          rw [← HLN.out] at h1
          omega
        clear ha hr8 hc81 hc82 hy0 hnx hmy hdy hbef hdx c0 c1 c2 c3 c4 c5 c6 c7 c8 c9 c10
        go_wp2_with fail
        go_loopg [1, 10] ((m.near (x : Int)).length) (fun kk av i wr => ∃ t : Nat, t ≤ i0 ∧ Hid (kk + t = (m.near (x : Int)).length) ∧ av = .int .i64 (x : Int) ∧ i = .int .i64 t ∧ Hid (Same noB W8 wr))
        case atStart => exact ⟨0, Nat.zero_le _, rfl, rfl, rfl, Same.refl _ _⟩
        case round =>
          obtain ⟨t, ht, HKK, rfl, rfl, HS⟩ := hrel
          obtain ⟨nb, no, rfl, r⟩ := HX8.out.2.2.2.at_ (by omega)
          obtain ⟨z, hz⟩ : ∃ z, (m.near (x : Int))[t]? = some z := ⟨_, List.getElem?_eq_getElem (by omega)⟩
          have hzr := (near_gr m).rng _ _ (List.mem_of_getElem? hz)
          rw [← HLN.out] at hzr
          obtain ⟨q, rfl⟩ : ∃ q : Nat, z = (q : Int) := ⟨z.toNat, by omega⟩
          have p0 := HS.out.cell (r.cell t _ (icells_at hz)) (fun e => e)
          have p1 := HS.out.cell (HX8.out.2.1 x hxN) (fun e => e)
          rw [HDX.out] at p1
          have p2 := HS.out.cell (HX8.out.2.1 q (by omega)) (fun e => e)
          have hq1 : 1 ≤ q := by omega
          have hqN : q ≤ p.s.len := by omega
          have hdq : dF m (xb : Int) q = dst m.near m.sites.length (xb : Int) (q : Int) := by unfold dF; rw [if_neg (by omega)]
          rw [hdq] at p2
          have HZ := Lib.hid hz
          have hlt4 : t < (m.near (x : Int)).length := by omega
          clear r hzr hdq hz
          by_cases e0 : t = i0
          · have hy1 : y0 = (q : Int) := by
              have h1 := HY0.out
              rw [← e0, HZ.out] at h1
              injection h1 with h1
              exact h1.symm
            have hd1 : dst m.near m.sites.length (xb : Int) (q : Int) = (k : Int) := by rw [← hy1]; exact HDY.out
            rw [hd1] at p2
            have HY1 := Lib.hid hy1
            clear hd1 hy1 e0
            go_wp2_with fail
            have HA9 : Hid (AppAt X wr.drew (.slice A n c) n 3 1 (icells (P ++ [(x : Int)]))) := HX8.out.2.2.1.keep HS.out.drew
            have HRR : Hid (rr = (P ++ [(x : Int)]) ++ greedy m.near (dst m.near m.sites.length (xb : Int)) k (q : Int)) := by
              have h1 : rr = P ++ ((x : Int) :: greedy m.near (dst m.near m.sites.length (xb : Int)) k (nxt m.near (dst m.near m.sites.length (xb : Int)) (x : Int))) := HR.out
              rw [HNX.out, HY1.out] at h1
              show rr = _
              rw [h1]
              simp
            have HMQ : Hid (MinW m.near (xb : Int) k (q : Int)) := by
              have h1 := HMY.out
              rw [HY1.out] at h1
              exact h1
            go_region
            all_goals
              generalize hz1 : (q : Int) = z at p0 ⊢
              have HZ1 := Lib.hid hz1
              have p0d : wr.drew.cell? ⟨nb, no + t, none⟩ = some (.int .i64 z) := p0
              clear hz1 p0 p1 p2
              generalize wr.drew = wd at *
              go_wp2_with (at_builtin; refine wpL_app slI rfl _ _ rfl rfl ((HA9.out.keep ((Same.refl _ _).alloc _)).own) rfl (bad := noB) (Rd.of_blk (Blk.new wd 3 [Value.int .i64 z].toArray) (fun x => x) (by rfl) (by omega) (by simp [maxLen])) (int_one z) (by omega) (Nat.zero_le _) ?_; intro A10 c10' W10 hown10 hgrow10 hat10 _; have HA10 := Lib.hid (AppAt.next (HA9.out.keep ((Same.refl _ _).alloc (.cells #[.int .i64 z] 3))) hgrow10 hat10 hown10); clear hown10 hgrow10 hat10)
              go_roundg k
              case measure => omega
              case rel => exact ⟨q, P ++ [(x : Int)], A10, c10', n + 1, hq1, hqN, by rw [HZ1.out], rfl, HMQ.out, HRR.out, by show _ = _; rw [HN.out]; simp, by show AppAt _ _ _ _ _ _ _; rw [icells_snoc (P ++ [(x : Int)]), HZ1.out]; exact HA10.out⟩
          · have hd2 : dst m.near m.sites.length (xb : Int) (q : Int) ≠ (k : Int) := HBF.out t _ (by omega) HZ.out
            generalize dst m.near m.sites.length (xb : Int) (q : Int) = dz at *
            have hd3 : (dz == (k : Int)) = false := by simpa using hd2
            have hd4 : (dz == (k : Int) + 1 - 1) = false := by simpa using hd2
            clear hd2
            go_wp2_with fail
            go_region
            all_goals
              go_wp2_with fail
              go_roundg (gk - 1)
              case measure => have h1 := HKK.out; omega
              case rel => exact ⟨t + 1, by omega, by show _ = _; have h1 := HKK.out; omega, rfl, by go_num, HS.out.drew⟩
  · rw [hd0] at hda
    have HRR : Hid (rr = []) := by
      show rr = _
      rw [HRT.out]
      unfold rt
      rw [if_pos (by omega)]
    clear hd0 HRT
    go_wp2_with fail
    have HE : Hid (Rd (W6.alloc (.cells #[] 3)) noB 1 (.slice (some ⟨W6.heap.size, 0, none⟩) 0 0) 0 (icells []) ∧ Same noB w (W6.alloc (.cells #[] 3))) := ⟨Rd.of_own (own_lit W6 3 1) (fun _ _ x => x), HM6.out.since.alloc _⟩
    go_ret
    exact ⟨_, rfl, by rw [HRR.out]; exact HE.out.1, HE.out.2⟩
theorem rroute_any {w : World} {p : MPl} {m : Mdl} (h : MdlIn w p m) (a b : Int) (hls : m.sites.length ≤ 1000000) (hll : m.links.length ≤ 1000000) :
    Calls Try.prog 29 #[mdlVal p m, .int .i64 a, .int .i64 b] w fun e w' => ∃ v', e = .returned v' ∧ Rd w' noB 1 v' (m.route a b).length (icells (m.route a b)) ∧ Same noB w w' := by
  cases ha : exB a m.sites.length
  · have HRR : Hid (m.route a b = []) := by show m.route a b = []; unfold Mdl.route; rw [ha]; rfl
    have HE1 : Hid (exB a p.s.len = false) := by show exB _ _ = false; rw [h.ls]; exact ha
    have hmb := MB.start h
    have HF : Hid (Rd ((w.alloc (.cells (mdlCells p m) 29)).alloc (.cells #[] 3)) noB 1 (.slice (some ⟨w.heap.size + 1, 0, none⟩) 0 0) 0 (icells []) ∧ Same noB w ((w.alloc (.cells (mdlCells p m) 29)).alloc (.cells #[] 3))) :=
      ⟨Rd.of_own (AppAt.lit' (W := w.alloc (.cells (mdlCells p m) 29)) (by simp) 3 1).own (fun _ _ x => x), hmb.since.alloc _⟩
    generalize m.route a b = rr at *
    clear h ha hls hll hmb
    unfold mdlVal
    unfold mdlCells at HF
    go_enter Try.func29, Try.ntmps29
    go_wp2_with fail
    refine (rexists_any a p.s.len _).mono ?_
    rintro e w2 ⟨rfl, rfl⟩
    rw [HE1.out]
    go_wp2_with fail
    go_ret
    exact ⟨_, rfl, by rw [HRR.out]; exact HF.out.1, HF.out.2⟩
  · cases hb : exB b m.sites.length
    · have HRR : Hid (m.route a b = []) := by show m.route a b = []; unfold Mdl.route; rw [ha, hb]; rfl
      have HE1 : Hid (exB a p.s.len = true) := by show exB _ _ = true; rw [h.ls]; exact ha
      have HE2 : Hid (exB b p.s.len = false) := by show exB _ _ = false; rw [h.ls]; exact hb
      have hmb := MB.start h
      have HF : Hid (Rd ((w.alloc (.cells (mdlCells p m) 29)).alloc (.cells #[] 3)) noB 1 (.slice (some ⟨w.heap.size + 1, 0, none⟩) 0 0) 0 (icells []) ∧ Same noB w ((w.alloc (.cells (mdlCells p m) 29)).alloc (.cells #[] 3))) :=
        ⟨Rd.of_own (AppAt.lit' (W := w.alloc (.cells (mdlCells p m) 29)) (by simp) 3 1).own (fun _ _ x => x), hmb.since.alloc _⟩
      generalize m.route a b = rr at *
      clear h ha hb hls hll hmb
      unfold mdlVal
      unfold mdlCells at HF
      go_enter Try.func29, Try.ntmps29
      go_wp2_with fail
      refine (rexists_any a p.s.len _).mono ?_
      rintro e w2 ⟨rfl, rfl⟩
      rw [HE1.out]
      go_wp2_with fail
      refine (rexists_any b p.s.len _).mono ?_
      rintro e w2 ⟨rfl, rfl⟩
      rw [HE2.out]
      go_wp2_with fail
      go_ret
      exact ⟨_, rfl, by rw [HRR.out]; exact HF.out.1, HF.out.2⟩
    · exact rroute_yes h hls hll ha hb
end Go.Proofs.Ytkmclglphelhdaa
