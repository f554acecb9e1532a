/- Layer 14: the reference's racks and links. (printed by genSiteP.py) -/
import Derived.Test.YtpngmodgnkjhnaaSiteW
namespace Go.Proofs.Ytpngmodgnkjhnaa
open Go Go.RowKit Go.Maps
set_option maxRecDepth 100000

theorem any_take_yes {α : Type} {p : α → Bool} {l : List α} {k j : Nat} {y : α} (h : l[j]? = some y) (hj : j < k) (hp : p y = true) : (l.take k).any p = true :=
  List.any_eq_true.2 ⟨y, List.mem_of_getElem? (i := j) (by rw [List.getElem?_take, if_pos hj]; exact h), hp⟩
theorem any_take_no {α : Type} {p : α → Bool} {l : List α} {k : Nat} (h : ∀ (j : Nat) (y : α), j < k → l[j]? = some y → p y = false) : (l.take k).any p = false := by
  rw [List.any_eq_false]
  intro y hy
  obtain ⟨j, hj, rfl⟩ := List.getElem_of_mem hy
  rw [List.length_take] at hj
  rw [h j _ (by omega) (by rw [List.getElem_take]; exact List.getElem?_eq_getElem (by omega))]
  decide
theorem MdlIn.lnk {w : World} {p : MPl} {m : Mdl} (h : MdlIn w p m) {j : Nat} {x : Lk} (hx : m.links[j]? = some x) : ∃ b o, p.l.addr = some ⟨b, o, none⟩ ∧ w.cell? ⟨b, o + j * 3, none⟩ = some (.int .i64 x.a) ∧ w.cell? ⟨b, o + j * 3 + 1, none⟩ = some (.int .i64 x.b) ∧ w.cell? ⟨b, o + j * 3 + 2, none⟩ = some (.int .i64 x.cap) ∧ b < w.heap.size := by
  have hj := (List.getElem?_eq_some_iff.1 hx).1
  obtain ⟨b, o, e, r⟩ := h.l.at_ (by rw [h.ll]; omega)
  obtain ⟨a1, a2, a3⟩ := lk_at r hx
  exact ⟨b, o, e, a1, a2, a3, r.lt⟩
theorem rackF_eq {m : Mdl} {k : Nat} {x : Rk} (h : m.racks[k]? = some x) : m.rackF k = (exB x.site m.sites.length && exB x.feed m.feeds.length && !(m.racks.take k).any (otherB x)) := by
  unfold Mdl.rackF
  rw [h]
  rfl
theorem linkF_eq {m : Mdl} {k : Nat} {x : Lk} (h : m.links[k]? = some x) : m.linkF k = (decide (1 ≤ x.a) && decide (x.a < x.b) && decide (x.b ≤ (m.sites.length : Int)) && amtB x.cap && !(m.links.take k).any (sameB x)) := by
  unfold Mdl.linkF
  rw [h]
  rfl

set_option maxHeartbeats 8000000 in
theorem rracks_any {w : World} {p : MPl} {m : Mdl} (h : MdlIn w p m) :
    Calls Try.prog 62 #[mdlVal p m] w fun e w' => e = .returned (.bool ((List.range m.racks.length).all m.rackF)) ∧ Same noB w w' := by
  have HMB := Lib.hid (MB.start h)
  have HN := Lib.hid h.lr
  have HLS := Lib.hid (And.intro h.ls h.lf)
  have HQ : Hid ((List.range m.racks.length).all m.rackF = (List.range p.r.len).all m.rackF) := by show _ = List.all (List.range p.r.len) _; rw [h.lr]
  have hb : p.r.len ≤ 9223372036854775807 := h.r.bound
  generalize (List.range m.racks.length).all m.rackF = q at *
  clear h
  unfold mdlVal
  unfold mdlCells at HMB
  go_enter Try.func62, Try.ntmps62
  go_wp2_with fail
  refine wp_abs (fun W => Hid (MB w W p m w.heap.size)) HMB ?_
  clear HMB
  generalize w.heap.size = M at *
  intro W0 HM0
  go_loopw [3] (fun i wr => ∃ k : Nat, k ≤ p.r.len ∧ i = .int .i64 k ∧ Hid ((∀ j, j < k → m.rackF j = true) ∧ MB w wr p m M)) (fun i _ => p.r.len - (intOf i).toNat)
  case atStart => exact ⟨0, Nat.zero_le _, rfl, ⟨fun j hj => by omega, HM0.out⟩⟩
  case round =>
    obtain ⟨k, hk, rfl, HS⟩ := hrel
    clear HM0
    have c2 := HS.out.2.c2
    by_cases hlt : k < p.r.len
    · obtain ⟨x, hx⟩ : ∃ x, m.racks[k]? = some x := ⟨_, List.getElem?_eq_getElem (by have := HN.out; omega)⟩
      obtain ⟨rb, ro, hadr, d0, d1, d2, rbl⟩ := HS.out.2.inn.rack hx
      rw [hadr] at c2
      have HFk := Lib.hid (rackF_eq hx)
      have hml := HS.out.2.box.lt
      have c0 := HS.out.2.c0
      have c1 := HS.out.2.c1
      have HAD := Lib.hid hadr
      clear hx hadr
      obtain ⟨q1, hq1⟩ : ∃ q, exB x.site p.s.len = q := ⟨_, rfl⟩
      obtain ⟨q2, hq2⟩ : ∃ q, exB x.feed p.f.len = q := ⟨_, rfl⟩
      have HQ1 := Lib.hid hq1
      have HQ2 := Lib.hid hq2
      have HQ1' : Hid (exB x.site m.sites.length = q1) := by show _ = _; rw [← HLS.out.1]; exact hq1
      have HQ2' : Hid (exB x.feed m.feeds.length = q2) := by show _ = _; rw [← HLS.out.2]; exact hq2
      clear hq1 hq2
      cases q1
      · have hno : (exB x.site m.sites.length && exB x.feed m.feeds.length && !(m.racks.take k).any (otherB x)) = false := by rw [HQ1'.out]; rfl
        have HR := Lib.hid (HQ.out.trans (all_range_no hlt (HFk.out.trans hno)))
        clear hno
        go_wp2_with fail
        refine (rexists_any x.site p.s.len _).mono ?_
        rintro e w2 ⟨rfl, rfl⟩
        rw [HQ1.out]
        go_wp2_with fail
        go_ret
        exact ⟨by rw [HR.out] <;> rfl, HS.out.2.since.alloc _⟩
      cases q2
      · have hno : (exB x.site m.sites.length && exB x.feed m.feeds.length && !(m.racks.take k).any (otherB x)) = false := by rw [HQ1'.out, HQ2'.out]; rfl
        have HR := Lib.hid (HQ.out.trans (all_range_no hlt (HFk.out.trans hno)))
        clear hno
        go_wp2_with fail
        refine (rexists_any x.site p.s.len _).mono ?_
        rintro e w2 ⟨rfl, rfl⟩
        rw [HQ1.out]
        go_wp2_with fail
        refine (rexists_any x.feed p.f.len _).mono ?_
        rintro e w2 ⟨rfl, rfl⟩
        rw [HQ2.out]
        go_wp2_with fail
        go_ret
        exact ⟨by rw [HR.out] <;> rfl, HS.out.2.since.alloc _⟩
      go_wp2_with fail
      refine (rexists_any x.site p.s.len _).mono ?_
      rintro e w2 ⟨rfl, rfl⟩
      rw [HQ1.out]
      go_wp2_with fail
      refine (rexists_any x.feed p.f.len _).mono ?_
      rintro e w2 ⟨rfl, rfl⟩
      rw [HQ2.out]
      go_wp2_with fail
      refine wp_abs (fun W => Hid (MB w W p m M ∧ Blk W wr.heap.size 59 ((Rk.cells x).toArray))) ⟨HS.out.2.keep ((Same.refl _ _).alloc _), Blk.new _ _ _⟩ ?_
      clear d0 d1 d2 c0 c1 c2 hml rbl
      have HS' : Hid (∀ j, j < k → m.rackF j = true) := HS.out.1
      clear HS
      generalize wr.heap.size = g at *
      clear wr
      intro W4 HI
      go_loopw [5] (fun i wr => ∃ j : Nat, j ≤ k ∧ i = .int .i64 j ∧ Hid ((∀ (t : Nat) (y : Rk), t < j → m.racks[t]? = some y → otherB x y = false) ∧ MB w wr p m M ∧ Blk wr g 59 ((Rk.cells x).toArray))) (fun i _ => k - (intOf i).toNat)
      case atStart => exact ⟨0, Nat.zero_le _, rfl, ⟨fun t y ht => by omega, HI.out⟩⟩
      case round =>
        obtain ⟨j, hj, rfl, HJ⟩ := hrel
        clear HI
        by_cases hjk : j < k
        · obtain ⟨y, hy⟩ : ∃ y, m.racks[j]? = some y := ⟨_, List.getElem?_eq_getElem (by have := HN.out; omega)⟩
          obtain ⟨rb', ro', hadr, d0, d1, d2, rbl⟩ := HJ.out.2.1.inn.rack hy
          have c2 := HJ.out.2.1.c2
          rw [hadr] at c2
          have g0 := HJ.out.2.2.cell 0
          have g1 := HJ.out.2.2.cell 1
          have g2 := HJ.out.2.2.cell 2
          simp only [Rk.cells] at g0 g1 g2
          have hjl : j < p.r.len := by omega
          have HY := Lib.hid hy
          have HP : Hid (otherB x y = ((y.feed == x.feed) && (y.site != x.site))) := rfl
          clear hy hadr
          cases h1 : (y.feed == x.feed)
          · rw [h1] at HP
            go_wp2_with fail
            go_region
            all_goals go_wp2_with fail
            all_goals
              go_roundw
              case rel => exact ⟨j + 1, by omega, by go_num, ⟨fun t z ht hz => by
                by_cases e : t = j
                · subst e
                  have := hz.symm.trans HY.out
                  injection this with this
                  rw [this]
                  exact HP.out.trans rfl
                · exact HJ.out.1 t z (by omega) hz, HJ.out.2.1.keep ((Same.refl _ _).drew), HJ.out.2.2.drew⟩⟩
              case measure => simp [intOf]; omega
          cases h2 : (y.site != x.site)
          · rw [h1, h2] at HP
            go_wp2_with fail
            go_region
            all_goals go_wp2_with fail
            all_goals
              go_roundw
              case rel => exact ⟨j + 1, by omega, by go_num, ⟨fun t z ht hz => by
                by_cases e : t = j
                · subst e
                  have := hz.symm.trans HY.out
                  injection this with this
                  rw [this]
                  exact HP.out.trans rfl
                · exact HJ.out.1 t z (by omega) hz, HJ.out.2.1.keep ((Same.refl _ _).drew), HJ.out.2.2.drew⟩⟩
              case measure => simp [intOf]; omega
          · rw [h1, h2] at HP
            have hno : (exB x.site m.sites.length && exB x.feed m.feeds.length && !(m.racks.take k).any (otherB x)) = false := by rw [any_take_yes HY.out hjk (HP.out.trans rfl)]; simp
            have HR := Lib.hid (HQ.out.trans (all_range_no hlt (HFk.out.trans hno)))
            clear hno
            go_wp2_with fail
            go_region
            all_goals go_wp2_with fail
            all_goals
              go_ret
              exact ⟨by rw [HR.out] <;> rfl, HJ.out.2.1.since.drew⟩
        · obtain rfl : j = k := by omega
          have hyes : (exB x.site m.sites.length && exB x.feed m.feeds.length && !(m.racks.take j).any (otherB x)) = true := by rw [any_take_no HJ.out.1]; rw [HQ1'.out, HQ2'.out]; rfl
          have HYS := Lib.hid (HFk.out.trans hyes)
          clear hyes
          go_wp2_with fail
          go_roundw
          case rel => exact ⟨j + 1, by omega, by go_num, ⟨fun t ht => by
            by_cases e : t = j
            · subst e
              exact HYS.out
            · exact HS'.out t (by omega), HJ.out.2.1⟩⟩
          case measure => simp [intOf]; omega
    · obtain rfl : k = p.r.len := by omega
      have hr : (List.range p.r.len).all m.rackF = true := all_range_yes HS.out.1
      have HR := Lib.hid (HQ.out.trans hr)
      clear hr
      go_wp2_with fail
      go_ret
      exact ⟨by rw [HR.out] <;> rfl, HS.out.2.since⟩

set_option maxHeartbeats 8000000 in
theorem rlinks_any {w : World} {p : MPl} {m : Mdl} (h : MdlIn w p m) :
    Calls Try.prog 63 #[mdlVal p m] w fun e w' => e = .returned (.bool ((List.range m.links.length).all m.linkF)) ∧ Same noB w w' := by
  have HMB := Lib.hid (MB.start h)
  have HN := Lib.hid h.ll
  have HLS := Lib.hid (And.intro h.ls h.lf)
  have HQ : Hid ((List.range m.links.length).all m.linkF = (List.range p.l.len).all m.linkF) := by show _ = List.all (List.range p.l.len) _; rw [h.ll]
  have hb : p.l.len ≤ 9223372036854775807 := h.l.bound
  generalize (List.range m.links.length).all m.linkF = q at *
  clear h
  unfold mdlVal
  unfold mdlCells at HMB
  go_enter Try.func63, Try.ntmps63
  go_wp2_with fail
  refine wp_abs (fun W => Hid (MB w W p m w.heap.size)) HMB ?_
  clear HMB
  generalize w.heap.size = M at *
  intro W0 HM0
  go_loopw [3] (fun i wr => ∃ k : Nat, k ≤ p.l.len ∧ i = .int .i64 k ∧ Hid ((∀ j, j < k → m.linkF j = true) ∧ MB w wr p m M)) (fun i _ => p.l.len - (intOf i).toNat)
  case atStart => exact ⟨0, Nat.zero_le _, rfl, ⟨fun j hj => by omega, HM0.out⟩⟩
  case round =>
    obtain ⟨k, hk, rfl, HS⟩ := hrel
    clear HM0
    have c4 := HS.out.2.c4
    by_cases hlt : k < p.l.len
    · obtain ⟨x, hx⟩ : ∃ x, m.links[k]? = some x := ⟨_, List.getElem?_eq_getElem (by have := HN.out; omega)⟩
      obtain ⟨rb, ro, hadr, d0, d1, d2, rbl⟩ := HS.out.2.inn.lnk hx
      rw [hadr] at c4
      have HFk := Lib.hid (linkF_eq hx)
      have hml := HS.out.2.box.lt
      have c0 := HS.out.2.c0
      skip
      have HAD := Lib.hid hadr
      clear hx hadr
      have hsl : (p.s.len : Int) = (m.sites.length : Int) := by rw [HLS.out.1]
      have HSL := Lib.hid hsl
      clear hsl
      by_cases h1 : 1 ≤ x.a
      case neg =>
        have hno : (decide (1 ≤ x.a) && decide (x.a < x.b) && decide (x.b ≤ (m.sites.length : Int)) && amtB x.cap && !(m.links.take k).any (sameB x)) = false := by rw [decide_eq_false h1]; rfl
        have HR := Lib.hid (HQ.out.trans (all_range_no hlt (HFk.out.trans hno)))
        clear hno
        go_wp2_with fail
        go_ret
        exact ⟨by rw [HR.out] <;> rfl, HS.out.2.since.alloc _⟩
      by_cases h2 : x.a < x.b
      case neg =>
        have hno : (decide (1 ≤ x.a) && decide (x.a < x.b) && decide (x.b ≤ (m.sites.length : Int)) && amtB x.cap && !(m.links.take k).any (sameB x)) = false := by rw [decide_eq_false h2]; simp
        have HR := Lib.hid (HQ.out.trans (all_range_no hlt (HFk.out.trans hno)))
        clear hno
        go_wp2_with fail
        go_ret
        exact ⟨by rw [HR.out] <;> rfl, HS.out.2.since.alloc _⟩
      by_cases h3 : x.b ≤ (p.s.len : Int)
      case neg =>
        have hno : (decide (1 ≤ x.a) && decide (x.a < x.b) && decide (x.b ≤ (m.sites.length : Int)) && amtB x.cap && !(m.links.take k).any (sameB x)) = false := by rw [← HSL.out, decide_eq_false h3]; simp
        have HR := Lib.hid (HQ.out.trans (all_range_no hlt (HFk.out.trans hno)))
        clear hno
        go_wp2_with fail
        go_ret
        exact ⟨by rw [HR.out] <;> rfl, HS.out.2.since.alloc _⟩
      obtain ⟨q1, hq1⟩ : ∃ q, amtB x.cap = q := ⟨_, rfl⟩
      have HQ1 := Lib.hid hq1
      clear hq1
      cases q1
      case false =>
        have hno : (decide (1 ≤ x.a) && decide (x.a < x.b) && decide (x.b ≤ (m.sites.length : Int)) && amtB x.cap && !(m.links.take k).any (sameB x)) = false := by rw [HQ1.out]; simp
        have HR := Lib.hid (HQ.out.trans (all_range_no hlt (HFk.out.trans hno)))
        clear hno
        go_wp2_with fail
        refine (rnumber_any x.cap _).mono ?_
        rintro e w2 ⟨rfl, rfl⟩
        rw [HQ1.out]
        go_wp2_with fail
        go_ret
        exact ⟨by rw [HR.out] <;> rfl, HS.out.2.since.alloc _⟩
      have HC : Hid ((decide (1 ≤ x.a) && decide (x.a < x.b) && decide (x.b ≤ (m.sites.length : Int)) && amtB x.cap) = true) := by show _ = _; rw [← HSL.out, decide_eq_true h1, decide_eq_true h2, decide_eq_true h3, HQ1.out]; rfl
      go_wp2_with fail
      refine (rnumber_any x.cap _).mono ?_
      rintro e w2 ⟨rfl, rfl⟩
      rw [HQ1.out]
      go_wp2_with fail
      refine wp_abs (fun W => Hid (MB w W p m M ∧ Blk W wr.heap.size 101 ((Lk.cells x).toArray))) ⟨HS.out.2.keep ((Same.refl _ _).alloc _), Blk.new _ _ _⟩ ?_
      clear d0 d1 d2 c0 c4 hml rbl
      have HS' : Hid (∀ j, j < k → m.linkF j = true) := HS.out.1
      clear HS
      generalize wr.heap.size = g at *
      clear wr
      intro W4 HI
      go_loopw [5] (fun i wr => ∃ j : Nat, j ≤ k ∧ i = .int .i64 j ∧ Hid ((∀ (t : Nat) (y : Lk), t < j → m.links[t]? = some y → sameB x y = false) ∧ MB w wr p m M ∧ Blk wr g 101 ((Lk.cells x).toArray))) (fun i _ => k - (intOf i).toNat)
      case atStart => exact ⟨0, Nat.zero_le _, rfl, ⟨fun t y ht => by omega, HI.out⟩⟩
      case round =>
        obtain ⟨j, hj, rfl, HJ⟩ := hrel
        clear HI
        by_cases hjk : j < k
        · obtain ⟨y, hy⟩ : ∃ y, m.links[j]? = some y := ⟨_, List.getElem?_eq_getElem (by have := HN.out; omega)⟩
          obtain ⟨rb', ro', hadr, d0, d1, d2, rbl⟩ := HJ.out.2.1.inn.lnk hy
          have c4 := HJ.out.2.1.c4
          rw [hadr] at c4
          have g0 := HJ.out.2.2.cell 0
          have g1 := HJ.out.2.2.cell 1
          have g2 := HJ.out.2.2.cell 2
          simp only [Lk.cells] at g0 g1 g2
          have hjl : j < p.l.len := by omega
          have HY := Lib.hid hy
          have HP : Hid (sameB x y = ((y.a == x.a) && (y.b == x.b))) := rfl
          clear hy hadr
          cases h1 : (y.a == x.a)
          · rw [h1] at HP
            go_wp2_with fail
            go_region
            all_goals go_wp2_with fail
            all_goals
              go_roundw
              case rel => exact ⟨j + 1, by omega, by go_num, ⟨fun t z ht hz => by
                by_cases e : t = j
                · subst e
                  have := hz.symm.trans HY.out
                  injection this with this
                  rw [this]
                  exact HP.out.trans rfl
                · exact HJ.out.1 t z (by omega) hz, HJ.out.2.1.keep ((Same.refl _ _).drew), HJ.out.2.2.drew⟩⟩
              case measure => simp [intOf]; omega
          cases h2 : (y.b == x.b)
          · rw [h1, h2] at HP
            go_wp2_with fail
            go_region
            all_goals go_wp2_with fail
            all_goals
              go_roundw
              case rel => exact ⟨j + 1, by omega, by go_num, ⟨fun t z ht hz => by
                by_cases e : t = j
                · subst e
                  have := hz.symm.trans HY.out
                  injection this with this
                  rw [this]
                  exact HP.out.trans rfl
                · exact HJ.out.1 t z (by omega) hz, HJ.out.2.1.keep ((Same.refl _ _).drew), HJ.out.2.2.drew⟩⟩
              case measure => simp [intOf]; omega
          · rw [h1, h2] at HP
            have hno : (decide (1 ≤ x.a) && decide (x.a < x.b) && decide (x.b ≤ (m.sites.length : Int)) && amtB x.cap && !(m.links.take k).any (sameB x)) = false := by rw [any_take_yes HY.out hjk (HP.out.trans rfl)]; simp
            have HR := Lib.hid (HQ.out.trans (all_range_no hlt (HFk.out.trans hno)))
            clear hno
            go_wp2_with fail
            go_region
            all_goals go_wp2_with fail
            all_goals
              go_ret
              exact ⟨by rw [HR.out] <;> rfl, HJ.out.2.1.since.drew⟩
        · obtain rfl : j = k := by omega
          have hyes : (decide (1 ≤ x.a) && decide (x.a < x.b) && decide (x.b ≤ (m.sites.length : Int)) && amtB x.cap && !(m.links.take j).any (sameB x)) = true := by rw [any_take_no HJ.out.1]; rw [HC.out]; rfl
          have HYS := Lib.hid (HFk.out.trans hyes)
          clear hyes
          go_wp2_with fail
          go_roundw
          case rel => exact ⟨j + 1, by omega, by go_num, ⟨fun t ht => by
            by_cases e : t = j
            · subst e
              exact HYS.out
            · exact HS'.out t (by omega), HJ.out.2.1⟩⟩
          case measure => simp [intOf]; omega
    · obtain rfl : k = p.l.len := by omega
      have hr : (List.range p.l.len).all m.linkF = true := all_range_yes HS.out.1
      have HR := Lib.hid (HQ.out.trans hr)
      clear hr
      go_wp2_with fail
      go_ret
      exact ⟨by rw [HR.out] <;> rfl, HS.out.2.since⟩
end Go.Proofs.Ytpngmodgnkjhnaa
