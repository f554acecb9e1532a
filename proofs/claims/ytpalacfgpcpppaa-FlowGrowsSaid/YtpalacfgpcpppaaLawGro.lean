/- Layer 10: the law FlowGrows, walked. -/
import Derived.Test.YtpalacfgpcpppaaFloEx
import Derived.Test.YtpalacfgpcpppaaGroP
namespace Go.Proofs.Ytpalacfgpcpppaa
open Go Go.RowKit
set_option maxRecDepth 100000

theorem sl22 : SlT Try.prog 22 43 4 32 := SlT.mk_ (z := .agg #[.int .i64 0, .int .i64 0, .int .i64 0, .int .i64 0]) Try.underlying22 (by kernel_rfl) rfl (by decide) (by decide)
theorem acells_one (l : List ArcV) : ∀ u ∈ acells l, u.oneCell' = true := by
  intro u hu
  unfold acells at hu
  obtain ⟨e, _, he⟩ := List.mem_flatMap.1 hu
  unfold ArcV.cells at he
  simp at he
  rcases he with h | h | h | h <;> (subst h; rfl)
theorem acells_set : ∀ {l : List ArcV} {k : Nat} {a : ArcV} (d : Int), l[k]? = some a → acells (l.set k (a.more d)) = (acells l).set (k * 4 + 2) (.int .i64 (a.c + d))
  | [], _, _, _, h => by simp at h
  | b :: l, 0, a, d, h => by
    simp at h
    subst h
    simp [acells, ArcV.cells, ArcV.more]
  | b :: l, k + 1, a, d, h => by
    have ih := acells_set (l := l) (k := k) (a := a) d (by simpa using h)
    have e1 : acells ((b :: l).set (k + 1) (a.more d)) = b.cells ++ acells (l.set k (a.more d)) := rfl
    have e2 : acells (b :: l) = b.cells ++ acells l := rfl
    have e3 : (k + 1) * 4 + 2 = b.cells.length + (k * 4 + 2) := by
      have : b.cells.length = 4 := rfl
      omega
    rw [e1, e2, ih, e3, List.set_append_right _ _ (Nat.le_add_right _ _), Nat.add_sub_cancel_left]
theorem own_set4 {w : World} {e : TypeId} {size g n c i : Nat} {xs : List Value} (h : w.ownsRow 0 e size (.slice (some ⟨g, 0, none⟩) n c) n xs) (u : Value) :
    (w.setCell ⟨g, i, none⟩ u).ownsRow 0 e size (.slice (some ⟨g, 0, none⟩) n c) n (xs.set i u) := by
  obtain ⟨hl, hr⟩ := h
  refine ⟨by rw [List.length_set]; exact hl, ?_⟩
  rcases hr with ⟨e, _⟩ | ⟨g', cap, cur, e, hb, hg, hnc, hcm, hcs, ht⟩
  · cases e
  · simp only [Value.slice.injEq, Option.some.injEq, Addr.mk.injEq, and_true, true_and] at e
    obtain ⟨rfl, rfl⟩ := e
    have hB : Blk w g _ cur := hg
    refine .inr ⟨g, c, cur.setIfInBounds i u, rfl, hb, hB.set_ i u, hnc, hcm, by simpa using hcs, ?_⟩
    rw [← ht, Array.toList_setIfInBounds, List.take_set]
set_option maxHeartbeats 16000000 in
theorem lawGrows_any {w : World} {n : NetV} {i more : Int} (h : NetIs w n) (hi : 0 ≤ i ∧ i ≤ 255) (hd : 0 ≤ more ∧ more ≤ 65535) :
    Calls Try.prog 6 #[n.val, .int .u8 i, .int .u16 more] w fun r w' => r = .returned (.bool true) ∧ Same noB w w' := by
  have hcaps := h.rd.caps
  have hZR := fun (W : World) (hs : Same noB w W) => rvalid_any (h.keep hs)
  have hZM := fun (W : World) (hs : Same noB w W) (hv : n.validB = true) => max_ok (h.keep hs) hv
  have HB := Lib.hid h
  unfold NetV.val at hZR hZM ⊢
  have HZR := Lib.hid hZR
  have HZM := Lib.hid hZM
  clear h hZR hZM
  go_enter Try.func6, Try.ntmps6
  go_upto_region 1 with (fail)
  refine wp_abs (fun W => Hid (Blk W w.heap.size 24 #[.int .i64 n.nodes, .int .i64 n.source, .int .i64 n.sink, .slice n.sl.addr n.sl.len n.sl.cap, .int .i64 n.hold]) ∧ Hid (Same noB w W)) ⟨Blk.new w 24 _, (Same.refl _ _).alloc _⟩ ?_
  rintro W0 ⟨HN, HS⟩
  obtain ⟨N, hN⟩ : ∃ N, w.heap.size = N := ⟨_, rfl⟩
  rw [hN] at HN ⊢
  have HWN := Lib.hid hN
  clear hN
  go_wp2_with fail
  (with_reducible refine Calls.mono (awake_any _) ?_)
  rintro r W1 ⟨rfl, hs1⟩
  replace HN := Lib.hid (HN.out.same hs1 (fun x => x))
  replace HS := Lib.hid (HS.out.trans' hs1)
  clear hs1
  have x0 : W1.cell? ⟨N, 0, none⟩ = some (.int .i64 n.nodes) := HN.out.cell 0
  have x1 : W1.cell? ⟨N, 1, none⟩ = some (.int .i64 n.source) := HN.out.cell 1
  have x2 : W1.cell? ⟨N, 2, none⟩ = some (.int .i64 n.sink) := HN.out.cell 2
  have x3 : W1.cell? ⟨N, 3, none⟩ = some (.slice n.sl.addr n.sl.len n.sl.cap) := HN.out.cell 3
  have x4 : W1.cell? ⟨N, 4, none⟩ = some (.int .i64 n.hold) := HN.out.cell 4
  by_cases h1 : (30 : Int) < (n.sl.len : Int)
  · clear x0 x1 x2 x4
    go_wp2_with fail
    (with_reducible refine Calls.mono (awake_any _) ?_)
    rintro r W9 ⟨rfl, hs9⟩
    go_wp2_with fail
    go_ret
    exact ⟨rfl, HS.out.trans' hs9⟩
  by_cases h2 : 12 < n.nodes
  · clear x1 x2 x4
    go_wp2_with fail
    (with_reducible refine Calls.mono (awake_any _) ?_)
    rintro r W9 ⟨rfl, hs9⟩
    go_wp2_with fail
    go_ret
    exact ⟨rfl, HS.out.trans' hs9⟩
  obtain ⟨m, hm⟩ : ∃ m, n.sl.len = m := ⟨_, rfl⟩
  have HLN : Hid (m = n.arcs.length) := by show _ = _; rw [← hm]; exact HB.out.len
  have HMS := Lib.hid hm
  rw [hm] at x3 h1 hcaps HN HZR HZM ⊢
  clear hm
  cases m with
  | zero =>
    clear x1 x2 x4
    go_wp2_with fail
    (with_reducible refine Calls.mono (awake_any _) ?_)
    rintro r W9 ⟨rfl, hs9⟩
    go_wp2_with fail
    go_ret
    exact ⟨rfl, HS.out.trans' hs9⟩
  | succ m' =>
  obtain ⟨m, hm⟩ : ∃ m, m' + 1 = m := ⟨_, rfl⟩
  have hm0 : 0 < m := by omega
  have hme : (((m : Nat) : Int) == 0) = false := beq_eq_false_iff_ne.2 (by omega)
  rw [hm] at x3 h1 hcaps HN HZR HZM HLN HMS ⊢
  clear hm
  cases hv : n.validB with
  | false =>
    have hZ := HZR.out W1 HS.out
    rw [hv] at hZ
    have HZ := Lib.hid hZ
    clear hZ hv
    go_wp2_with fail
    (with_reducible refine Calls.mono HZ.out ?_)
    clear HZ x0 x1 x2 x3 x4
    rintro r W2 ⟨rfl, hs1⟩
    replace HS := Lib.hid (HS.out.trans' hs1)
    clear hs1
    go_wp2_with fail
    (with_reducible refine Calls.mono (awake_any _) ?_)
    rintro r W9 ⟨rfl, hs9⟩
    go_wp2_with fail
    go_ret
    exact ⟨rfl, HS.out.trans' hs9⟩
  | true =>
    have HV := Lib.hid hv
    have hZ := HZR.out W1 HS.out
    rw [hv] at hZ
    have HZ := Lib.hid hZ
    clear hZ hv
    go_wp2_with fail
    (with_reducible refine Calls.mono HZ.out ?_)
    clear HZ x0 x1 x2 x3 x4
    rintro r W2 ⟨rfl, hs1⟩
    replace HN := Lib.hid (HN.out.same hs1 (fun x => x))
    replace HS := Lib.hid (HS.out.trans' hs1)
    clear hs1
    have x0 : W2.cell? ⟨N, 0, none⟩ = some (.int .i64 n.nodes) := HN.out.cell 0
    have x1 : W2.cell? ⟨N, 1, none⟩ = some (.int .i64 n.source) := HN.out.cell 1
    have x2 : W2.cell? ⟨N, 2, none⟩ = some (.int .i64 n.sink) := HN.out.cell 2
    have x3 : W2.cell? ⟨N, 3, none⟩ = some (.slice n.sl.addr m n.sl.cap) := HN.out.cell 3
    have x4 : W2.cell? ⟨N, 4, none⟩ = some (.int .i64 n.hold) := HN.out.cell 4
    have HM0 := Lib.hid (row_stored (Blk.new W2 24 #[.int .i64 0, .int .i64 0, .int .i64 0, .slice none 0 0, .int .i64 0]) #[.int .i64 n.nodes, .int .i64 n.source, .int .i64 n.sink, .slice n.sl.addr m n.sl.cap, .int .i64 n.hold])
    go_upto_region 4 with (refine wpList_store_row rfl 24 _ _ rfl W2.heap.size #[.int .i64 n.nodes, .int .i64 n.source, .int .i64 n.sink, .slice n.sl.addr m n.sl.cap, .int .i64 n.hold] rfl rfl 24 _ (Blk.new W2 24 #[.int .i64 0, .int .i64 0, .int .i64 0, .slice none 0 0, .int .i64 0]) (by kernel_rfl) rfl (by kernel_rfl) ?_)
    have hs0 : Same noB W2 ((W2.alloc (.cells #[.int .i64 0, .int .i64 0, .int .i64 0, .slice none 0 0, .int .i64 0] 24)).setRow W2.heap.size #[.int .i64 n.nodes, .int .i64 n.source, .int .i64 n.sink, .slice n.sl.addr m n.sl.cap, .int .i64 n.hold]) := ((Same.refl noB W2).alloc _).trans HM0.out.2 (fun b hb hx => by have h3 : b = W2.heap.size := hx; omega)
    refine wp_abs (fun W => Hid (Blk W N 24 #[.int .i64 n.nodes, .int .i64 n.source, .int .i64 n.sink, .slice n.sl.addr m n.sl.cap, .int .i64 n.hold]) ∧ Hid (Blk W W2.heap.size 24 #[.int .i64 n.nodes, .int .i64 n.source, .int .i64 n.sink, .slice n.sl.addr m n.sl.cap, .int .i64 n.hold]) ∧ Hid (Same noB w W) ∧ Hid (N < W2.heap.size ∧ w.heap.size ≤ W2.heap.size)) ⟨HN.out.same hs0 (fun x => x), HM0.out.1, HS.out.trans' hs0, ⟨HN.out.lt, HS.out.size⟩⟩ ?_
    clear hs0 HM0 HS HN x0 x1 x2 x3 x4
    rintro W3 ⟨HN, HM, HS, HML⟩
    obtain ⟨M, hM⟩ : ∃ M, W2.heap.size = M := ⟨_, rfl⟩
    rw [hM] at HM HML ⊢
    clear hM
    have x3 : W3.cell? ⟨N, 3, none⟩ = some (.slice n.sl.addr m n.sl.cap) := HN.out.cell 3
    have l3 := HN.out.lt
    have HR : Hid (Rd (W3.alloc (.cells #[] 43)) noB 4 (.slice n.sl.addr m n.sl.cap) m (acells n.arcs)) := by
      have := HB.out.rd.keep (HS.out.alloc (.cells #[] 43))
      rw [HMS.out] at this
      exact this
    go_upto_region 5 with (at_builtin; refine wpL_app sl22 rfl _ _ rfl rfl (own_lit W3 43 4) rfl HR.out (acells_one n.arcs) (by omega) (Nat.zero_le _) ?_; intro A4 c4 W4 hown4 hgrow4 hat4 _; have HA := Lib.hid ((AppAt.lit W3 43 4).next hgrow4 hat4 hown4); have HM4 := Lib.hid (HM.out.same HA.out.since (fun x => x)); have m3 : W4.cell? ⟨M, 3, none⟩ = some (.slice n.sl.addr m n.sl.cap) := HM4.out.cell 3; have z3 := HM4.out.frozen 3; clear hown4 hgrow4 hat4)
    have hs3 : Same (oneB M) W4 (W4.setCell ⟨M, 3, none⟩ (.slice A4 m c4)) := (Same.refl _ W4).set1 3 _
    have hA4 : AppAt W3 W4 (.slice A4 m c4) m 43 4 (acells n.arcs) := by
      have h1 := HA.out
      simp only [Nat.zero_add, List.nil_append] at h1
      exact h1
    obtain ⟨gA, rfl⟩ : ∃ g, A4 = some ⟨g, 0, none⟩ := by
      rcases hA4.own.2 with ⟨_, e⟩ | ⟨g, cap, cur, e, _⟩
      · omega
      · injection e with e; exact ⟨g, e⟩
    obtain ⟨csA, hcA⟩ := own_blk hA4.own (g := gA) rfl
    have hgM : gA ≠ M := hcA.ne_ HM4.out (by decide)
    have hgN : W3.heap.size ≤ gA := hA4.new gA rfl
    refine wp_abs (fun W => Hid (Blk W N 24 #[.int .i64 n.nodes, .int .i64 n.source, .int .i64 n.sink, .slice n.sl.addr m n.sl.cap, .int .i64 n.hold]) ∧ Hid (Blk W M 24 #[.int .i64 n.nodes, .int .i64 n.source, .int .i64 n.sink, .slice (some ⟨gA, 0, none⟩) m c4, .int .i64 n.hold]) ∧ Hid (W.ownsRow 0 43 4 (.slice (some ⟨gA, 0, none⟩) m c4) m (acells n.arcs)) ∧ Hid (Same noB w W)) ⟨(HN.out.same hA4.since (fun x => x)).same hs3 (fun e => by have h3 : N = M := e; have := HML.out; omega), HM4.out.set_ 3 _, own_same hA4.own hs3 (fun g hg e => by simp [Value.ownBlock] at hg; exact hgM (hg.trans e)), (HS.out.trans' hA4.since).trans hs3 (fun b hb e => by have h3 : b = M := e; have := HML.out; omega)⟩ ?_
    have HGA : Hid (gA ≠ M ∧ N < gA ∧ w.heap.size ≤ gA) := ⟨hgM, by have := HML.out; have := HS.out.size; omega, by have := HS.out.size; omega⟩
    clear HA HM4 m3 z3 x3 l3 HR hs3 hA4 hcA hgM hgN HN HM HS
    rintro W5 ⟨HN, HM, HA, HS⟩
    have m3 : W5.cell? ⟨M, 3, none⟩ = some (.slice (some ⟨gA, 0, none⟩) m c4) := HM.out.cell 3
    obtain ⟨k, hk⟩ : ∃ k : Nat, i.tmod (m : Int) = (k : Int) := ⟨(i.tmod (m : Int)).toNat, by
      have := Int.tmod_nonneg (m : Int) hi.1
      omega⟩
    have hkm : k < m := by
      have := Int.tmod_lt_of_pos i (show (0 : Int) < (m : Int) by omega)
      omega
    have hk0 : (0 : Int) ≤ (k : Int) := by omega
    have hk1 : (k : Int) < (m : Int) := by omega
    obtain ⟨a, ha⟩ : ∃ a, n.arcs[k]? = some a := ⟨_, List.getElem?_eq_getElem (by have := HLN.out; omega)⟩
    have HAK := Lib.hid ha
    have hrd : Rd W5 noB 4 (.slice (some ⟨gA, 0, none⟩) m c4) m (acells n.arcs) := Rd.of_own HA.out (fun _ _ x => x)
    have hc4 := hrd.caps
    obtain ⟨b9, o9, hb9, r⟩ := hrd.at_ hm0
    injection hb9 with hb9
    injection hb9 with hb9 ho9
    subst hb9 ho9
    obtain ⟨p0, p1, p2, p3⟩ := arc_at r ha
    clear r hrd p0 p1 p3 ha
    obtain ⟨ac, hac⟩ : ∃ c, a.c = c := ⟨_, rfl⟩
    rw [hac] at p2
    have HAC := Lib.hid hac
    clear hac
    have hok := NetV.validB_ok HV.out
    have hacb : 0 ≤ ac ∧ ac ≤ 1099511627776 := by rw [← HAC.out]; exact (hok.arcs a (List.mem_of_getElem? HAK.out)).c
    clear hok
    rw [Nat.zero_add] at p2
    by_cases hbig : 1099511496704 < ac
    · go_wp2_with fail
      go_ret
      exact ⟨rfl, HS.out⟩
    · have hwa : IntKind.i64.wrap (ac + more) = ac + more := IntWalk.i64_in _ (by omega)
      have hwc : IntKind.i64.wrap more = more := IntWalk.i64_in _ (by omega)
      obtain ⟨csA, hcA⟩ := own_blk HA.out (g := gA) rfl
      have z2 := hcA.frozen (k * 4 + 2)
      have l2 := hcA.lt
      go_upto_region 9 with (fail)
      have hs6 : Same (oneB gA) W5 (W5.setCell ⟨gA, k * 4 + 2, none⟩ (.int .i64 (ac + more))) := (Same.refl _ W5).set1 _ _
      have HA6 : Hid ((W5.setCell ⟨gA, k * 4 + 2, none⟩ (.int .i64 (ac + more))).ownsRow 0 43 4 (.slice (some ⟨gA, 0, none⟩) m c4) m (acells (n.arcs.set k (a.more more)))) := by
        show World.ownsRow _ _ _ _ _ _ _
        rw [acells_set more HAK.out, HAC.out]
        exact own_set4 HA.out _
      have hgA := HGA.out
      have hNg : ¬ oneB gA N := fun e => by have h3 : N = gA := e; omega
      have hMg : ¬ oneB gA M := fun e => by have h3 : M = gA := e; omega
      refine wp_abs (fun W => Hid (Blk W N 24 #[.int .i64 n.nodes, .int .i64 n.source, .int .i64 n.sink, .slice n.sl.addr m n.sl.cap, .int .i64 n.hold]) ∧ Hid (Blk W M 24 #[.int .i64 n.nodes, .int .i64 n.source, .int .i64 n.sink, .slice (some ⟨gA, 0, none⟩) m c4, .int .i64 n.hold]) ∧ Hid (NetIs W (n.more k a more ⟨some ⟨gA, 0, none⟩, m, c4⟩)) ∧ Hid (Same noB w W)) ⟨HN.out.same hs6 hNg, HM.out.same hs6 hMg, ⟨by show m = (n.arcs.set k (a.more more)).length; rw [List.length_set]; exact HLN.out, Rd.of_own HA6.out (fun _ _ x => x)⟩, HS.out.trans hs6 (fun b hb e => by have h3 : b = gA := e; omega)⟩ ?_
      have HMV := Lib.hid (NetV.more_valid (sl := ⟨some ⟨gA, 0, none⟩, m, c4⟩) HV.out HAK.out hd.1 (by rw [HAC.out]; omega))
      have HGR := Lib.hid (fun (am am' : List Int) (v v' : Int) (h1 : MaxIs n am v) (h2 : MaxIs (n.more k a more ⟨some ⟨gA, 0, none⟩, m, c4⟩) am' v') => grows HV.out HAK.out hd.1 (by rw [HAC.out]; omega) h1 h2)
      clear hs6 HA6 HN HM HA HS hgA hNg hMg hcA z2 l2 p2 m3 hk
      rintro W6 ⟨HN, HM, HNM, HS⟩
      have x0 : W6.cell? ⟨N, 0, none⟩ = some (.int .i64 n.nodes) := HN.out.cell 0
      have x1 : W6.cell? ⟨N, 1, none⟩ = some (.int .i64 n.source) := HN.out.cell 1
      have x2 : W6.cell? ⟨N, 2, none⟩ = some (.int .i64 n.sink) := HN.out.cell 2
      have x3 : W6.cell? ⟨N, 3, none⟩ = some (.slice n.sl.addr m n.sl.cap) := HN.out.cell 3
      have x4 : W6.cell? ⟨N, 4, none⟩ = some (.int .i64 n.hold) := HN.out.cell 4
      have HZ := Lib.hid (HZM.out W6 HS.out HV.out)
      go_wp2_with fail
      (with_reducible refine Calls.mono HZ.out ?_)
      clear HZ x0 x1 x2 x3 x4
      rintro r W7 ⟨f, rfl, hf, hmx, hsd, hs1⟩
      replace HN := Lib.hid (HN.out.same hs1 (fun x => x))
      replace HM := Lib.hid (HM.out.same hs1 (fun x => x))
      replace HNM := Lib.hid (HNM.out.keep hs1)
      replace HS := Lib.hid (HS.out.trans' hs1)
      have HF1 := Lib.hid hmx
      have HF0 := Lib.hid (row_stored (Blk.new W7 29 #[.int .i64 0, .slice none 0 0, .slice none 0 0]) #[.int .i64 f.value, .slice f.sa.addr f.sa.len f.sa.cap, .slice f.ss.addr f.ss.len f.ss.cap])
      unfold FlowV.val
      clear hmx hsd hf hs1
      go_upto_region 10 with (refine wpList_store_row rfl 29 _ _ rfl W7.heap.size #[.int .i64 f.value, .slice f.sa.addr f.sa.len f.sa.cap, .slice f.ss.addr f.ss.len f.ss.cap] rfl rfl 29 _ (Blk.new W7 29 #[.int .i64 0, .slice none 0 0, .slice none 0 0]) (by kernel_rfl) rfl (by kernel_rfl) ?_)
      have hs0 : Same noB W7 ((W7.alloc (.cells #[.int .i64 0, .slice none 0 0, .slice none 0 0] 29)).setRow W7.heap.size #[.int .i64 f.value, .slice f.sa.addr f.sa.len f.sa.cap, .slice f.ss.addr f.ss.len f.ss.cap]) := ((Same.refl noB W7).alloc _).trans HF0.out.2 (fun b hb hx => by have h3 : b = W7.heap.size := hx; omega)
      refine wp_abs (fun W => Hid (Blk W M 24 #[.int .i64 n.nodes, .int .i64 n.source, .int .i64 n.sink, .slice (some ⟨gA, 0, none⟩) m c4, .int .i64 n.hold]) ∧ Hid (Blk W W7.heap.size 29 #[.int .i64 f.value, .slice f.sa.addr f.sa.len f.sa.cap, .slice f.ss.addr f.ss.len f.ss.cap]) ∧ Hid (NetIs W (n.more k a more ⟨some ⟨gA, 0, none⟩, m, c4⟩)) ∧ Hid (Same noB w W)) ⟨HM.out.same hs0 (fun x => x), HF0.out.1, HNM.out.keep hs0, HS.out.trans' hs0⟩ ?_
      clear hs0 HF0 HS HN HM HNM
      rintro W8 ⟨HM, HF, HNM, HS⟩
      obtain ⟨F, hF⟩ : ∃ F, W7.heap.size = F := ⟨_, rfl⟩
      rw [hF] at HF ⊢
      clear hF
      have x0 : W8.cell? ⟨M, 0, none⟩ = some (.int .i64 n.nodes) := HM.out.cell 0
      have x1 : W8.cell? ⟨M, 1, none⟩ = some (.int .i64 n.source) := HM.out.cell 1
      have x2 : W8.cell? ⟨M, 2, none⟩ = some (.int .i64 n.sink) := HM.out.cell 2
      have x3 : W8.cell? ⟨M, 3, none⟩ = some (.slice (some ⟨gA, 0, none⟩) m c4) := HM.out.cell 3
      have x4 : W8.cell? ⟨M, 4, none⟩ = some (.int .i64 n.hold) := HM.out.cell 4
      have hZ2 := max_ok HNM.out HMV.out
      unfold NetV.val at hZ2
      have HZ : Hid (Calls Try.prog 10 #[.agg #[.int .i64 n.nodes, .int .i64 n.source, .int .i64 n.sink, .slice (some ⟨gA, 0, none⟩) m c4, .int .i64 n.hold]] W8 fun e w' => ∃ g : FlowV, e = .returned (.tuple #[g.val, .int .i64 0]) ∧ FlowIs w' g ∧ MaxIs (n.more k a more ⟨some ⟨gA, 0, none⟩, m, c4⟩) g.am g.value ∧ g.side = sideL (n.more k a more ⟨some ⟨gA, 0, none⟩, m, c4⟩) g.am ∧ Same noB W8 w') := hZ2
      clear hZ2
      go_wp2_with fail
      (with_reducible refine Calls.mono HZ.out ?_)
      clear HZ x0 x1 x2 x3 x4
      rintro r W9 ⟨g, rfl, hg, hmx, hsd, hs1⟩
      replace HF := Lib.hid (HF.out.same hs1 (fun x => x))
      replace HS := Lib.hid (HS.out.trans' hs1)
      have hgr := HGR.out _ _ _ _ HF1.out hmx
      have hfb := HF1.out.flow.bound (NetV.validB_ok HV.out)
      have hwf : IntKind.i64.wrap (f.value + more) = f.value + more := IntWalk.i64_in _ (by omega)
      have hle1 : f.value ≤ g.value := hgr.1
      have hle2 : g.value ≤ f.value + more := hgr.2
      have HG0 := Lib.hid (row_stored (Blk.new W9 29 #[.int .i64 0, .slice none 0 0, .slice none 0 0]) #[.int .i64 g.value, .slice g.sa.addr g.sa.len g.sa.cap, .slice g.ss.addr g.ss.len g.ss.cap])
      unfold FlowV.val
      clear hmx hsd hg hs1 hgr hfb
      go_upto_region 11 with (refine wpList_store_row rfl 29 _ _ rfl W9.heap.size #[.int .i64 g.value, .slice g.sa.addr g.sa.len g.sa.cap, .slice g.ss.addr g.ss.len g.ss.cap] rfl rfl 29 _ (Blk.new W9 29 #[.int .i64 0, .slice none 0 0, .slice none 0 0]) (by kernel_rfl) rfl (by kernel_rfl) ?_)
      have hs0 : Same noB W9 ((W9.alloc (.cells #[.int .i64 0, .slice none 0 0, .slice none 0 0] 29)).setRow W9.heap.size #[.int .i64 g.value, .slice g.sa.addr g.sa.len g.sa.cap, .slice g.ss.addr g.ss.len g.ss.cap]) := ((Same.refl noB W9).alloc _).trans HG0.out.2 (fun b hb hx => by have h3 : b = W9.heap.size := hx; omega)
      refine wp_abs (fun W => Hid (Blk W F 29 #[.int .i64 f.value, .slice f.sa.addr f.sa.len f.sa.cap, .slice f.ss.addr f.ss.len f.ss.cap]) ∧ Hid (Blk W W9.heap.size 29 #[.int .i64 g.value, .slice g.sa.addr g.sa.len g.sa.cap, .slice g.ss.addr g.ss.len g.ss.cap]) ∧ Hid (Same noB w W)) ⟨HF.out.same hs0 (fun x => x), HG0.out.1, HS.out.trans' hs0⟩ ?_
      clear hs0 HG0 HS HF
      rintro W10 ⟨HF, HG, HS⟩
      obtain ⟨G, hG⟩ : ∃ G, W9.heap.size = G := ⟨_, rfl⟩
      rw [hG] at HG ⊢
      clear hG
      have f0 : W10.cell? ⟨F, 0, none⟩ = some (.int .i64 f.value) := HF.out.cell 0
      have g0 : W10.cell? ⟨G, 0, none⟩ = some (.int .i64 g.value) := HG.out.cell 0
      go_wp2_with fail
      go_ret
      exact ⟨rfl, HS.out⟩
end Go.Proofs.Ytpalacfgpcpppaa
