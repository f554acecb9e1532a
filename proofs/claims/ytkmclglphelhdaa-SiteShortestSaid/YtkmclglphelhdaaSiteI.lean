/- Layer 14: Valid of the program. (printed by genSiteI.py) -/
import Derived.Test.YtkmclglphelhdaaSiteH
namespace Go.Proofs.Ytkmclglphelhdaa
open Go Go.RowKit Go.Maps

theorem c33 {w0 w : World} {p : MPl} {m : Mdl} {M : Nat} (hM : MB w0 w p m M) {bad : Nat → Prop} {vb : Value} {l : List Rk} (hl : Rd w bad 3 vb l.length (rkcells l)) (x : Rk) :
    Calls Try.prog 33 #[x.val, vb, .pointer (some ⟨M, 0, none⟩)] w fun e w' => e = .returned (.bool (exB x.site m.sites.length && exB x.feed m.feeds.length && !l.any (otherB x))) ∧ Same noB w w' := by
  have m0 := hM.c0
  have m1 := hM.c1
  have hml := hM.box.lt
  have hk : Same noB w (w.alloc (.cells #[.string x.name, .int .i64 x.site, .int .i64 x.feed] 42)) := (Same.refl _ _).alloc _
  have HC := Lib.hid (cf34 (x := x) (hl.keep hk) (Blk.new _ _ _))
  have HK := Lib.hid hk
  have HE1 : Hid (exB x.site m.sites.length = exB x.site p.s.len) := by show _ = exB _ _; rw [hM.inn.ls]
  have HE2 : Hid (exB x.feed m.feeds.length = exB x.feed p.f.len) := by show _ = exB _ _; rw [hM.inn.lf]
  rw [HE1.out, HE2.out]
  clear hM hl hk HE1 HE2
  unfold Rk.val
  unfold Rk.cells at HC
  generalize l.any (otherB x) = q3 at *
  obtain ⟨q1, hq1⟩ : ∃ q, exB x.site p.s.len = q := ⟨_, rfl⟩
  obtain ⟨q2, hq2⟩ : ∃ q, exB x.feed p.f.len = q := ⟨_, rfl⟩
  rw [hq1, hq2]
  have HQ1 := Lib.hid hq1
  have HQ2 := Lib.hid hq2
  clear hq1 hq2
  cases q1
  · go_enter Try.func33, Try.ntmps33
    go_wp2_with fail
    refine (exists_any x.site p.s.len _).mono ?_
    rintro e w2 ⟨rfl, rfl⟩
    rw [HQ1.out]
    go_wp2_with fail
    go_ret
    exact ⟨rfl, HK.out⟩
  cases q2
  · go_enter Try.func33, Try.ntmps33
    go_wp2_with fail
    refine (exists_any x.site p.s.len _).mono ?_
    rintro e w2 ⟨rfl, rfl⟩
    rw [HQ1.out]
    go_wp2_with fail
    refine (exists_any x.feed p.f.len _).mono ?_
    rintro e w2 ⟨rfl, rfl⟩
    rw [HQ2.out]
    go_wp2_with fail
    go_ret
    exact ⟨rfl, HK.out⟩
  cases q3
  all_goals
    go_enter Try.func33, Try.ntmps33
    go_wp2_with fail
    refine (exists_any x.site p.s.len _).mono ?_
    rintro e w2 ⟨rfl, rfl⟩
    rw [HQ1.out]
    go_wp2_with fail
    refine (exists_any x.feed p.f.len _).mono ?_
    rintro e w2 ⟨rfl, rfl⟩
    rw [HQ2.out]
    go_wp2_with fail
    have hZ := HC.out
    (with_reducible refine Calls.mono hZ ?_)
    clear hZ HC
    rintro e w3 ⟨rfl, hs⟩
    have HS := Lib.hid (HK.out.trans' hs)
    clear hs
    go_wp2_with fail
    go_ret
    exact ⟨rfl, HS.out⟩

theorem c37 {w0 w : World} {p : MPl} {m : Mdl} {M : Nat} (hM : MB w0 w p m M) (vb : Value) (x : Mc) :
    Calls Try.prog 37 #[x.val, vb, .pointer (some ⟨M, 0, none⟩)] w fun e w' => e = .returned (.bool (m.machB x)) ∧ Same noB w w' := by
  have m2 := hM.c2
  have hml := hM.box.lt
  have HK : Hid (Same noB w (w.alloc (.cells #[.string x.name, .int .i64 x.rack, .int .i64 x.cap] 44))) := (Same.refl _ _).alloc _
  have HQ : Hid (m.machB x = (exB x.rack p.r.len && amtB x.cap)) := by show _ = (_ && _); rw [hM.inn.lr]; rfl
  rw [HQ.out]
  clear hM HQ
  unfold Mc.val
  obtain ⟨q1, hq1⟩ : ∃ q, exB x.rack p.r.len = q := ⟨_, rfl⟩
  rw [hq1]
  have HQ1 := Lib.hid hq1
  clear hq1
  cases q1
  · go_enter Try.func37, Try.ntmps37
    go_wp2_with fail
    refine (exists_any x.rack p.r.len _).mono ?_
    rintro e w2 ⟨rfl, rfl⟩
    rw [HQ1.out]
    go_wp2_with fail
    go_ret
    exact ⟨rfl, HK.out⟩
  go_enter Try.func37, Try.ntmps37
  go_wp2_with fail
  refine (exists_any x.rack p.r.len _).mono ?_
  rintro e w2 ⟨rfl, rfl⟩
  rw [HQ1.out]
  go_wp2_with fail
  refine (amount_any x.cap _).mono ?_
  rintro e w2 ⟨rfl, rfl⟩
  go_wp2_with fail
  go_ret
  exact ⟨rfl, HK.out⟩

theorem c40 {w0 w : World} {p : MPl} {m : Mdl} {M : Nat} (hM : MB w0 w p m M) {bad : Nat → Prop} {vb : Value} {l : List Lk} (hl : Rd w bad 3 vb l.length (lkcells l)) (x : Lk) :
    Calls Try.prog 40 #[x.val, vb, .pointer (some ⟨M, 0, none⟩)] w fun e w' => e = .returned (.bool (decide (1 ≤ x.a) && decide (x.a < x.b) && decide (x.b ≤ (m.sites.length : Int)) && amtB x.cap && !l.any (sameB x))) ∧ Same noB w w' := by
  have m0 := hM.c0
  have hml := hM.box.lt
  have hk : Same noB w (w.alloc (.cells #[.int .i64 x.a, .int .i64 x.b, .int .i64 x.cap] 58)) := (Same.refl _ _).alloc _
  have HC := Lib.hid (cf41 (x := x) (hl.keep hk) (Blk.new _ _ _))
  have HK := Lib.hid hk
  have HE1 : Hid ((m.sites.length : Int) = p.s.len) := by show _ = _; rw [hM.inn.ls]
  rw [HE1.out]
  clear hM hl hk HE1
  unfold Lk.val
  unfold Lk.cells at HC
  generalize l.any (sameB x) = q3 at *
  by_cases h1 : 1 ≤ x.a
  · by_cases h2 : x.a < x.b
    · by_cases h3 : x.b ≤ (p.s.len : Int)
      · have HR : Hid ((decide (1 ≤ x.a) && decide (x.a < x.b) && decide (x.b ≤ (p.s.len : Int)) && amtB x.cap && !q3) = (amtB x.cap && !q3)) := by show _ = _; rw [decide_eq_true h1, decide_eq_true h2, decide_eq_true h3]; rfl
        rw [HR.out]
        clear HR
        obtain ⟨q1, hq1⟩ : ∃ q, amtB x.cap = q := ⟨_, rfl⟩
        rw [hq1]
        have HQ1 := Lib.hid hq1
        clear hq1
        cases q1
        · go_enter Try.func40, Try.ntmps40
          go_wp2_with fail
          refine (amount_any x.cap _).mono ?_
          rintro e w2 ⟨rfl, rfl⟩
          rw [HQ1.out]
          go_wp2_with fail
          go_ret
          exact ⟨rfl, HK.out⟩
        cases q3
        all_goals
          go_enter Try.func40, Try.ntmps40
          go_wp2_with fail
          refine (amount_any x.cap _).mono ?_
          rintro e w2 ⟨rfl, rfl⟩
          rw [HQ1.out]
          go_wp2_with fail
          have hZ := HC.out
          (with_reducible refine Calls.mono hZ ?_)
          clear hZ HC
          rintro e w3 ⟨rfl, hs⟩
          have HS := Lib.hid (HK.out.trans' hs)
          clear hs
          go_wp2_with fail
          go_ret
          exact ⟨rfl, HS.out⟩
      · have HR : Hid ((decide (1 ≤ x.a) && decide (x.a < x.b) && decide (x.b ≤ (p.s.len : Int)) && amtB x.cap && !q3) = false) := by show _ = _; rw [decide_eq_false h3, Bool.and_false]; rfl
        rw [HR.out]
        clear HR HC
        go_enter Try.func40, Try.ntmps40
        go_wp2_with fail
        go_ret
        exact ⟨rfl, HK.out⟩
    · have HR : Hid ((decide (1 ≤ x.a) && decide (x.a < x.b) && decide (x.b ≤ (p.s.len : Int)) && amtB x.cap && !q3) = false) := by show _ = _; rw [decide_eq_false h2, Bool.and_false]; rfl
      rw [HR.out]
      clear HR HC
      go_enter Try.func40, Try.ntmps40
      go_wp2_with fail
      go_ret
      exact ⟨rfl, HK.out⟩
  · have HR : Hid ((decide (1 ≤ x.a) && decide (x.a < x.b) && decide (x.b ≤ (p.s.len : Int)) && amtB x.cap && !q3) = false) := by show _ = _; rw [decide_eq_false h1]; rfl
    rw [HR.out]
    clear HR HC
    go_enter Try.func40, Try.ntmps40
    go_wp2_with fail
    go_ret
    exact ⟨rfl, HK.out⟩

theorem all_range_no {f : Nat → Bool} {n k : Nat} (hk : k < n) (h : f k = false) : (List.range n).all f = false := List.all_eq_false.2 ⟨k, List.mem_range.2 hk, by rw [h]; decide⟩
theorem all_range_yes {f : Nat → Bool} {n : Nat} (h : ∀ k, k < n → f k = true) : (List.range n).all f = true := List.all_eq_true.2 fun k hk => h k (List.mem_range.1 hk)
def Mdl.rackF (m : Mdl) (i : Nat) : Bool := match m.racks[i]? with | some x => m.rackB i x | none => true
def Mdl.linkF (m : Mdl) (i : Nat) : Bool := match m.links[i]? with | some x => m.linkB i x | none => true
def Mdl.machF (m : Mdl) (i : Nat) : Bool := match m.machines[i]? with | some x => m.machB x | none => true
theorem machF_all (m : Mdl) : (List.range m.machines.length).all m.machF = m.machines.all m.machB := by
  rw [Bool.eq_iff_iff, List.all_eq_true, List.all_eq_true]
  constructor
  · intro h x hx
    obtain ⟨i, hi, rfl⟩ := List.getElem_of_mem hx
    have := h i (List.mem_range.2 hi)
    unfold Mdl.machF at this
    rw [List.getElem?_eq_getElem hi] at this
    exact this
  · intro h i hi
    have hi := List.mem_range.1 hi
    unfold Mdl.machF
    rw [List.getElem?_eq_getElem hi]
    exact h _ (List.getElem_mem hi)

theorem pre32 (l : List Rk) (k : Nat) : (rkcells l).take (k * 3) = rkcells (l.take k) := by
  unfold rkcells
  induction l generalizing k with
  | nil => simp
  | cons x l ih =>
    cases k with
    | zero => simp
    | succ k => rw [List.flatMap_cons, Nat.succ_mul, Nat.add_comm, List.take_succ_cons, List.flatMap_cons, ← ih k]; exact (List.take_append_of_le_length (l₁ := x.cells) (l₂ := l.flatMap Rk.cells) (i := 3 + k * 3) |> fun _ => by rw [show 3 + k * 3 = x.cells.length + k * 3 from rfl, List.take_length_add_append])

set_option maxHeartbeats 2000000 in
theorem sound32 {w0 w : World} {p : MPl} {m : Mdl} {M : Nat} (hM : MB w0 w p m M) :
    Calls Try.prog 32 #[.slice p.r.addr p.r.len p.r.cap, .func (.func 33) #[] #[.pointer (some ⟨M, 0, none⟩)]] w fun e w' => e = .returned (.bool ((List.range m.racks.length).all m.rackF)) ∧ Same noB w w' := by
  have HM := Lib.hid hM
  have HN := Lib.hid hM.inn.lr
  have HQ : Hid ((List.range m.racks.length).all m.rackF = (List.range p.r.len).all m.rackF) := by show _ = List.all (List.range p.r.len) _; rw [hM.inn.lr]
  have hb : p.r.len ≤ 9223372036854775807 := hM.inn.r.bound
  have hcap := hM.inn.r.caps
  generalize (List.range m.racks.length).all m.rackF = q at *
  clear hM
  go_enter Try.func32, Try.ntmps32
  go_wp2_with fail
  go_loopw [9] (fun i wr => ∃ k : Nat, k ≤ p.r.len ∧ i = .int .i64 k ∧ Hid ((∀ j, j < k → m.rackF j = true) ∧ Same noB w wr)) (fun i _ => p.r.len - (intOf i).toNat)
  case atStart => exact ⟨0, Nat.zero_le _, rfl, ⟨fun j hj => by omega, Same.refl _ _⟩⟩
  case round =>
    obtain ⟨k, hk, rfl, HS⟩ := hrel
    by_cases hlt : k < p.r.len
    · have HM1 := Lib.hid (HM.out.keep HS.out.2)
      obtain ⟨x, hx⟩ : ∃ x, m.racks[k]? = some x := ⟨_, List.getElem?_eq_getElem (by have := HN.out; omega)⟩
      obtain ⟨b, o, hadr, r⟩ := HM1.out.inn.r.at_ (by omega)
      obtain ⟨d0, d1, d2⟩ := rk_at r hx
      have hrd := HM1.out.inn.r
      rw [hadr] at hrd
      have hpre := hrd.pre (k := k) (by omega) (by omega)
      rw [pre32] at hpre
      have htl : (m.racks.take k).length = k := by rw [List.length_take]; have := HN.out; omega
      have hpre' : Rd wr noB 3 (.slice (some ⟨b, o, none⟩) k p.r.cap) (m.racks.take k).length (rkcells (m.racks.take k)) := by rw [htl]; exact hpre
      have hFk : m.rackF k = (exB x.site m.sites.length && exB x.feed m.feeds.length && !(m.racks.take k).any (otherB x)) := by unfold Mdl.rackF; rw [hx] <;> rfl
      have HF := Lib.hid hFk
      have HPRE := Lib.hid hpre'
      have HADR := Lib.hid hadr
      have hb1 : (0 : Int) ≤ (k : Int) := Int.natCast_nonneg _
      have hb2 : (k : Int) ≤ (p.r.cap : Int) := by omega
      have hb3 : k ≤ p.r.cap := by omega
      have hb4 : (k : Int) < (p.r.len : Int) := by omega
      rw [hadr]
      clear hx r hrd hpre htl hpre' hFk hadr
      go_wp2_with fail
      refine wp_abs (fun W => Hid (Same noB wr W) ∧ Blk W wr.heap.size 42 ((Rk.cells x).toArray)) ⟨(Same.refl _ _).alloc _, Blk.new _ _ _⟩ ?_
      clear d0 d1 d2
      generalize wr.heap.size = g at *
      rintro W4 ⟨HW4, hg⟩
      have g0 := hg.cell 0
      have g1 := hg.cell 1
      have g2 := hg.cell 2
      simp only [Rk.cells] at g0 g1 g2
      have hC := c33 ((HM1.out.keep HW4.out).keep ((Same.refl noB W4).drew)) ((HPRE.out.keep HW4.out).drew) x
      unfold Rk.val at hC
      rw [← HF.out] at hC
      have HC := Lib.hid hC
      have HS4 : Hid (Same noB w W4.drew) := (HS.out.2.trans' HW4.out).drew
      generalize hq : m.rackF k = qk at *
      have HQK := Lib.hid hq
      clear hg hC hq
      cases qk
      · have hr : (List.range p.r.len).all m.rackF = false := all_range_no hlt HQK.out
        have HR := Lib.hid (HQ.out.trans hr)
        clear hr
        go_region_held3 (fun w' => w'.cell? ⟨g, 0, none⟩ = some (.string x.name) ∧ w'.cell? ⟨g, 1, none⟩ = some (.int .i64 x.site) ∧ w'.cell? ⟨g, 2, none⟩ = some (.int .i64 x.feed))
          (first | (refine ⟨?_, ?_, ?_⟩ <;> with_reducible assumption) | go_keep)
          ((go_at_call 33; have hZ := HC.out; (with_reducible refine Calls.mono hZ ?_); clear hZ; rintro e W5 ⟨rfl, hs⟩; have HS5 := Lib.hid (HS4.out.trans' hs); have z0 := hs.cell (show W4.drew.cell? ⟨g, 0, none⟩ = some (.string x.name) from g0) (fun x => x); have z1 := hs.cell (show W4.drew.cell? ⟨g, 1, none⟩ = some (.int .i64 x.site) from g1) (fun x => x); have z2 := hs.cell (show W4.drew.cell? ⟨g, 2, none⟩ = some (.int .i64 x.feed) from g2) (fun x => x); clear hs))
        all_goals go_wp2_with fail
        all_goals
          go_ret
          exact ⟨by rw [HR.out] <;> rfl, HS5.out⟩
      · go_region_held3 (fun w' => w'.cell? ⟨g, 0, none⟩ = some (.string x.name) ∧ w'.cell? ⟨g, 1, none⟩ = some (.int .i64 x.site) ∧ w'.cell? ⟨g, 2, none⟩ = some (.int .i64 x.feed))
          (first | (refine ⟨?_, ?_, ?_⟩ <;> with_reducible assumption) | go_keep)
          ((go_at_call 33; have hZ := HC.out; (with_reducible refine Calls.mono hZ ?_); clear hZ; rintro e W5 ⟨rfl, hs⟩; have HS5 := Lib.hid (HS4.out.trans' hs); have z0 := hs.cell (show W4.drew.cell? ⟨g, 0, none⟩ = some (.string x.name) from g0) (fun x => x); have z1 := hs.cell (show W4.drew.cell? ⟨g, 1, none⟩ = some (.int .i64 x.site) from g1) (fun x => x); have z2 := hs.cell (show W4.drew.cell? ⟨g, 2, none⟩ = some (.int .i64 x.feed) from g2) (fun x => x); clear hs))
        all_goals go_wp2_with fail
        all_goals
          go_roundw
          case rel => exact ⟨k + 1, by omega, by go_num, ⟨fun j hj => by
            by_cases e : j = k
            · subst e
              exact HQK.out
            · exact HS.out.1 j (by omega), HS5.out⟩⟩
          case measure => simp [intOf]; omega
    · obtain rfl : k = p.r.len := by omega
      have hr : (List.range p.r.len).all m.rackF = true := all_range_yes HS.out.1
      have HR := Lib.hid (HQ.out.trans hr)
      clear hr
      go_wp2_with fail
      go_ret
      exact ⟨by rw [HR.out] <;> rfl, HS.out.2⟩

theorem pre36 (l : List Mc) (k : Nat) : (mccells l).take (k * 3) = mccells (l.take k) := by
  unfold mccells
  induction l generalizing k with
  | nil => simp
  | cons x l ih =>
    cases k with
    | zero => simp
    | succ k => rw [List.flatMap_cons, Nat.succ_mul, Nat.add_comm, List.take_succ_cons, List.flatMap_cons, ← ih k]; exact (List.take_append_of_le_length (l₁ := x.cells) (l₂ := l.flatMap Mc.cells) (i := 3 + k * 3) |> fun _ => by rw [show 3 + k * 3 = x.cells.length + k * 3 from rfl, List.take_length_add_append])

set_option maxHeartbeats 2000000 in
theorem sound36 {w0 w : World} {p : MPl} {m : Mdl} {M : Nat} (hM : MB w0 w p m M) :
    Calls Try.prog 36 #[.slice p.mc.addr p.mc.len p.mc.cap, .func (.func 37) #[] #[.pointer (some ⟨M, 0, none⟩)]] w fun e w' => e = .returned (.bool ((List.range m.machines.length).all m.machF)) ∧ Same noB w w' := by
  have HM := Lib.hid hM
  have HN := Lib.hid hM.inn.lm
  have HQ : Hid ((List.range m.machines.length).all m.machF = (List.range p.mc.len).all m.machF) := by show _ = List.all (List.range p.mc.len) _; rw [hM.inn.lm]
  have hb : p.mc.len ≤ 9223372036854775807 := hM.inn.mc.bound
  have hcap := hM.inn.mc.caps
  generalize (List.range m.machines.length).all m.machF = q at *
  clear hM
  go_enter Try.func36, Try.ntmps36
  go_wp2_with fail
  go_loopw [9] (fun i wr => ∃ k : Nat, k ≤ p.mc.len ∧ i = .int .i64 k ∧ Hid ((∀ j, j < k → m.machF j = true) ∧ Same noB w wr)) (fun i _ => p.mc.len - (intOf i).toNat)
  case atStart => exact ⟨0, Nat.zero_le _, rfl, ⟨fun j hj => by omega, Same.refl _ _⟩⟩
  case round =>
    obtain ⟨k, hk, rfl, HS⟩ := hrel
    by_cases hlt : k < p.mc.len
    · have HM1 := Lib.hid (HM.out.keep HS.out.2)
      obtain ⟨x, hx⟩ : ∃ x, m.machines[k]? = some x := ⟨_, List.getElem?_eq_getElem (by have := HN.out; omega)⟩
      obtain ⟨b, o, hadr, r⟩ := HM1.out.inn.mc.at_ (by omega)
      obtain ⟨d0, d1, d2⟩ := mc_at r hx
      have hrd := HM1.out.inn.mc
      rw [hadr] at hrd
      have hpre := hrd.pre (k := k) (by omega) (by omega)
      rw [pre36] at hpre
      have htl : (m.machines.take k).length = k := by rw [List.length_take]; have := HN.out; omega
      have hpre' : Rd wr noB 3 (.slice (some ⟨b, o, none⟩) k p.mc.cap) (m.machines.take k).length (mccells (m.machines.take k)) := by rw [htl]; exact hpre
      have hFk : m.machF k = m.machB x := by unfold Mdl.machF; rw [hx] <;> rfl
      have HF := Lib.hid hFk
      have HPRE := Lib.hid hpre'
      have HADR := Lib.hid hadr
      have hb1 : (0 : Int) ≤ (k : Int) := Int.natCast_nonneg _
      have hb2 : (k : Int) ≤ (p.mc.cap : Int) := by omega
      have hb3 : k ≤ p.mc.cap := by omega
      have hb4 : (k : Int) < (p.mc.len : Int) := by omega
      rw [hadr]
      clear hx r hrd hpre htl hpre' hFk hadr
      go_wp2_with fail
      refine wp_abs (fun W => Hid (Same noB wr W) ∧ Blk W wr.heap.size 44 ((Mc.cells x).toArray)) ⟨(Same.refl _ _).alloc _, Blk.new _ _ _⟩ ?_
      clear d0 d1 d2
      generalize wr.heap.size = g at *
      rintro W4 ⟨HW4, hg⟩
      have g0 := hg.cell 0
      have g1 := hg.cell 1
      have g2 := hg.cell 2
      simp only [Mc.cells] at g0 g1 g2
      have hC := c37 ((HM1.out.keep HW4.out).keep ((Same.refl noB W4).drew)) (.slice (some ⟨b, o, none⟩) k p.mc.cap) x
      unfold Mc.val at hC
      rw [← HF.out] at hC
      have HC := Lib.hid hC
      have HS4 : Hid (Same noB w W4.drew) := (HS.out.2.trans' HW4.out).drew
      generalize hq : m.machF k = qk at *
      have HQK := Lib.hid hq
      clear hg hC hq
      cases qk
      · have hr : (List.range p.mc.len).all m.machF = false := all_range_no hlt HQK.out
        have HR := Lib.hid (HQ.out.trans hr)
        clear hr
        go_region_held3 (fun w' => w'.cell? ⟨g, 0, none⟩ = some (.string x.name) ∧ w'.cell? ⟨g, 1, none⟩ = some (.int .i64 x.rack) ∧ w'.cell? ⟨g, 2, none⟩ = some (.int .i64 x.cap))
          (first | (refine ⟨?_, ?_, ?_⟩ <;> with_reducible assumption) | go_keep)
          ((go_at_call 37; have hZ := HC.out; (with_reducible refine Calls.mono hZ ?_); clear hZ; rintro e W5 ⟨rfl, hs⟩; have HS5 := Lib.hid (HS4.out.trans' hs); have z0 := hs.cell (show W4.drew.cell? ⟨g, 0, none⟩ = some (.string x.name) from g0) (fun x => x); have z1 := hs.cell (show W4.drew.cell? ⟨g, 1, none⟩ = some (.int .i64 x.rack) from g1) (fun x => x); have z2 := hs.cell (show W4.drew.cell? ⟨g, 2, none⟩ = some (.int .i64 x.cap) from g2) (fun x => x); clear hs))
        all_goals go_wp2_with fail
        all_goals
          go_ret
          exact ⟨by rw [HR.out] <;> rfl, HS5.out⟩
      · go_region_held3 (fun w' => w'.cell? ⟨g, 0, none⟩ = some (.string x.name) ∧ w'.cell? ⟨g, 1, none⟩ = some (.int .i64 x.rack) ∧ w'.cell? ⟨g, 2, none⟩ = some (.int .i64 x.cap))
          (first | (refine ⟨?_, ?_, ?_⟩ <;> with_reducible assumption) | go_keep)
          ((go_at_call 37; have hZ := HC.out; (with_reducible refine Calls.mono hZ ?_); clear hZ; rintro e W5 ⟨rfl, hs⟩; have HS5 := Lib.hid (HS4.out.trans' hs); have z0 := hs.cell (show W4.drew.cell? ⟨g, 0, none⟩ = some (.string x.name) from g0) (fun x => x); have z1 := hs.cell (show W4.drew.cell? ⟨g, 1, none⟩ = some (.int .i64 x.rack) from g1) (fun x => x); have z2 := hs.cell (show W4.drew.cell? ⟨g, 2, none⟩ = some (.int .i64 x.cap) from g2) (fun x => x); clear hs))
        all_goals go_wp2_with fail
        all_goals
          go_roundw
          case rel => exact ⟨k + 1, by omega, by go_num, ⟨fun j hj => by
            by_cases e : j = k
            · subst e
              exact HQK.out
            · exact HS.out.1 j (by omega), HS5.out⟩⟩
          case measure => simp [intOf]; omega
    · obtain rfl : k = p.mc.len := by omega
      have hr : (List.range p.mc.len).all m.machF = true := all_range_yes HS.out.1
      have HR := Lib.hid (HQ.out.trans hr)
      clear hr
      go_wp2_with fail
      go_ret
      exact ⟨by rw [HR.out] <;> rfl, HS.out.2⟩

theorem pre39 (l : List Lk) (k : Nat) : (lkcells l).take (k * 3) = lkcells (l.take k) := by
  unfold lkcells
  induction l generalizing k with
  | nil => simp
  | cons x l ih =>
    cases k with
    | zero => simp
    | succ k => rw [List.flatMap_cons, Nat.succ_mul, Nat.add_comm, List.take_succ_cons, List.flatMap_cons, ← ih k]; exact (List.take_append_of_le_length (l₁ := x.cells) (l₂ := l.flatMap Lk.cells) (i := 3 + k * 3) |> fun _ => by rw [show 3 + k * 3 = x.cells.length + k * 3 from rfl, List.take_length_add_append])

set_option maxHeartbeats 2000000 in
theorem sound39 {w0 w : World} {p : MPl} {m : Mdl} {M : Nat} (hM : MB w0 w p m M) :
    Calls Try.prog 39 #[.slice p.l.addr p.l.len p.l.cap, .func (.func 40) #[] #[.pointer (some ⟨M, 0, none⟩)]] w fun e w' => e = .returned (.bool ((List.range m.links.length).all m.linkF)) ∧ Same noB w w' := by
  have HM := Lib.hid hM
  have HN := Lib.hid hM.inn.ll
  have HQ : Hid ((List.range m.links.length).all m.linkF = (List.range p.l.len).all m.linkF) := by show _ = List.all (List.range p.l.len) _; rw [hM.inn.ll]
  have hb : p.l.len ≤ 9223372036854775807 := hM.inn.l.bound
  have hcap := hM.inn.l.caps
  generalize (List.range m.links.length).all m.linkF = q at *
  clear hM
  go_enter Try.func39, Try.ntmps39
  go_wp2_with fail
  go_loopw [9] (fun i wr => ∃ k : Nat, k ≤ p.l.len ∧ i = .int .i64 k ∧ Hid ((∀ j, j < k → m.linkF j = true) ∧ Same noB w wr)) (fun i _ => p.l.len - (intOf i).toNat)
  case atStart => exact ⟨0, Nat.zero_le _, rfl, ⟨fun j hj => by omega, Same.refl _ _⟩⟩
  case round =>
    obtain ⟨k, hk, rfl, HS⟩ := hrel
    by_cases hlt : k < p.l.len
    · have HM1 := Lib.hid (HM.out.keep HS.out.2)
      obtain ⟨x, hx⟩ : ∃ x, m.links[k]? = some x := ⟨_, List.getElem?_eq_getElem (by have := HN.out; omega)⟩
      obtain ⟨b, o, hadr, r⟩ := HM1.out.inn.l.at_ (by omega)
      obtain ⟨d0, d1, d2⟩ := lk_at r hx
      have hrd := HM1.out.inn.l
      rw [hadr] at hrd
      have hpre := hrd.pre (k := k) (by omega) (by omega)
      rw [pre39] at hpre
      have htl : (m.links.take k).length = k := by rw [List.length_take]; have := HN.out; omega
      have hpre' : Rd wr noB 3 (.slice (some ⟨b, o, none⟩) k p.l.cap) (m.links.take k).length (lkcells (m.links.take k)) := by rw [htl]; exact hpre
      have hFk : m.linkF k = (decide (1 ≤ x.a) && decide (x.a < x.b) && decide (x.b ≤ (m.sites.length : Int)) && amtB x.cap && !(m.links.take k).any (sameB x)) := by unfold Mdl.linkF; rw [hx] <;> rfl
      have HF := Lib.hid hFk
      have HPRE := Lib.hid hpre'
      have HADR := Lib.hid hadr
      have hb1 : (0 : Int) ≤ (k : Int) := Int.natCast_nonneg _
      have hb2 : (k : Int) ≤ (p.l.cap : Int) := by omega
      have hb3 : k ≤ p.l.cap := by omega
      have hb4 : (k : Int) < (p.l.len : Int) := by omega
      rw [hadr]
      clear hx r hrd hpre htl hpre' hFk hadr
      go_wp2_with fail
      refine wp_abs (fun W => Hid (Same noB wr W) ∧ Blk W wr.heap.size 58 ((Lk.cells x).toArray)) ⟨(Same.refl _ _).alloc _, Blk.new _ _ _⟩ ?_
      clear d0 d1 d2
      generalize wr.heap.size = g at *
      rintro W4 ⟨HW4, hg⟩
      have g0 := hg.cell 0
      have g1 := hg.cell 1
      have g2 := hg.cell 2
      simp only [Lk.cells] at g0 g1 g2
      have hC := c40 ((HM1.out.keep HW4.out).keep ((Same.refl noB W4).drew)) ((HPRE.out.keep HW4.out).drew) x
      unfold Lk.val at hC
      rw [← HF.out] at hC
      have HC := Lib.hid hC
      have HS4 : Hid (Same noB w W4.drew) := (HS.out.2.trans' HW4.out).drew
      generalize hq : m.linkF k = qk at *
      have HQK := Lib.hid hq
      clear hg hC hq
      cases qk
      · have hr : (List.range p.l.len).all m.linkF = false := all_range_no hlt HQK.out
        have HR := Lib.hid (HQ.out.trans hr)
        clear hr
        go_region_held3 (fun w' => w'.cell? ⟨g, 0, none⟩ = some (.int .i64 x.a) ∧ w'.cell? ⟨g, 1, none⟩ = some (.int .i64 x.b) ∧ w'.cell? ⟨g, 2, none⟩ = some (.int .i64 x.cap))
          (first | (refine ⟨?_, ?_, ?_⟩ <;> with_reducible assumption) | go_keep)
          ((go_at_call 40; have hZ := HC.out; (with_reducible refine Calls.mono hZ ?_); clear hZ; rintro e W5 ⟨rfl, hs⟩; have HS5 := Lib.hid (HS4.out.trans' hs); have z0 := hs.cell (show W4.drew.cell? ⟨g, 0, none⟩ = some (.int .i64 x.a) from g0) (fun x => x); have z1 := hs.cell (show W4.drew.cell? ⟨g, 1, none⟩ = some (.int .i64 x.b) from g1) (fun x => x); have z2 := hs.cell (show W4.drew.cell? ⟨g, 2, none⟩ = some (.int .i64 x.cap) from g2) (fun x => x); clear hs))
        all_goals go_wp2_with fail
        all_goals
          go_ret
          exact ⟨by rw [HR.out] <;> rfl, HS5.out⟩
      · go_region_held3 (fun w' => w'.cell? ⟨g, 0, none⟩ = some (.int .i64 x.a) ∧ w'.cell? ⟨g, 1, none⟩ = some (.int .i64 x.b) ∧ w'.cell? ⟨g, 2, none⟩ = some (.int .i64 x.cap))
          (first | (refine ⟨?_, ?_, ?_⟩ <;> with_reducible assumption) | go_keep)
          ((go_at_call 40; have hZ := HC.out; (with_reducible refine Calls.mono hZ ?_); clear hZ; rintro e W5 ⟨rfl, hs⟩; have HS5 := Lib.hid (HS4.out.trans' hs); have z0 := hs.cell (show W4.drew.cell? ⟨g, 0, none⟩ = some (.int .i64 x.a) from g0) (fun x => x); have z1 := hs.cell (show W4.drew.cell? ⟨g, 1, none⟩ = some (.int .i64 x.b) from g1) (fun x => x); have z2 := hs.cell (show W4.drew.cell? ⟨g, 2, none⟩ = some (.int .i64 x.cap) from g2) (fun x => x); clear hs))
        all_goals go_wp2_with fail
        all_goals
          go_roundw
          case rel => exact ⟨k + 1, by omega, by go_num, ⟨fun j hj => by
            by_cases e : j = k
            · subst e
              exact HQK.out
            · exact HS.out.1 j (by omega), HS5.out⟩⟩
          case measure => simp [intOf]; omega
    · obtain rfl : k = p.l.len := by omega
      have hr : (List.range p.l.len).all m.linkF = true := all_range_yes HS.out.1
      have HR := Lib.hid (HQ.out.trans hr)
      clear hr
      go_wp2_with fail
      go_ret
      exact ⟨by rw [HR.out] <;> rfl, HS.out.2⟩
end Go.Proofs.Ytkmclglphelhdaa
