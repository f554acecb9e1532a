/- Layer 10: balance of the program. -/
import Derived.Test.YtpalacfgpcpppaaFloR
import Derived.Test.YtpalacfgpcpppaaFloQ
namespace Go.Proofs.Ytpalacfgpcpppaa
open Go Go.RowKit
set_option maxRecDepth 100000

/-- What goes out of each node minus what comes in. -/
def outL (N : Nat) (arcs : List ArcV) (am : List Int) : List Int := (List.range N).map (fun v : Nat => netSum arcs am (v : Int))
theorem outL_zero (N : Nat) : outL N [] [] = List.replicate N 0 := by
  unfold outL
  refine List.ext_getElem (by simp) (fun i h1 h2 => ?_)
  simp [netSum]
theorem outL_at {N : Nat} {arcs : List ArcV} {am : List Int} {v : Nat} (h : v < N) : (outL N arcs am)[v]? = some (netSum arcs am (v : Int)) := by
  unfold outL
  simp [h]
theorem outL_next {N : Nat} {arcs : List ArcV} {am : List Int} {k f t : Nat} {a : ArcV} {y : Int} (ha : arcs[k]? = some a) (hy : am[k]? = some y) (hf : a.f = (f : Int)) (ht : a.t = (t : Int)) (hfN : f < N) (htN : t < N) (hne : f ≠ t) :
    ((outL N (arcs.take k) (am.take k)).set f (netSum (arcs.take k) (am.take k) (f : Int) + y)).set t (netSum (arcs.take k) (am.take k) (t : Int) - y) = outL N (arcs.take (k + 1)) (am.take (k + 1)) := by
  refine List.ext_getElem? (fun i => ?_)
  by_cases hi : i < N
  · rw [outL_at hi, netSum_next ha hy, hf, ht]
    have hlen : (outL N (arcs.take k) (am.take k)).length = N := by unfold outL; simp
    by_cases e2 : t = i
    · subst e2
      rw [List.getElem?_set_self (by rw [List.length_set, hlen]; exact htN)]
      have : ¬ (f : Int) = (t : Int) := by omega
      simp only [this, if_false, if_true]
      congr 1
      omega
    · rw [List.getElem?_set_ne e2]
      have h2 : ¬ (t : Int) = (i : Int) := by omega
      by_cases e1 : f = i
      · subst e1
        rw [List.getElem?_set_self (by rw [hlen]; exact hfN)]
        simp only [h2, if_false, if_true]
        congr 1
        omega
      · rw [List.getElem?_set_ne e1, outL_at hi]
        have h1 : ¬ (f : Int) = (i : Int) := by omega
        simp only [h1, h2, if_false]
        congr 1
        omega
  · rw [List.getElem?_eq_none (by simp [outL]; omega), List.getElem?_eq_none (by simp [outL]; omega)]
theorem InCap.take_succ {arcs : List ArcV} {am : List Int} {k : Nat} {a : ArcV} {y : Int} (h : InCap (arcs.take k) (am.take k)) (ha : arcs[k]? = some a) (hy : am[k]? = some y) (hb : 0 ≤ y ∧ y ≤ a.c) : InCap (arcs.take (k + 1)) (am.take (k + 1)) := by
  have h1 := (List.getElem?_eq_some_iff.1 ha).1
  have h2 := (List.getElem?_eq_some_iff.1 hy).1
  refine ⟨by rw [List.length_take, List.length_take]; omega, fun j a' x' ha' hx' => ?_⟩
  by_cases e : j < k
  · refine h.2 j a' x' ?_ ?_
    · rw [List.getElem?_take_of_lt e]; rwa [List.getElem?_take_of_lt (by omega)] at ha'
    · rw [List.getElem?_take_of_lt e]; rwa [List.getElem?_take_of_lt (by omega)] at hx'
  · have hj : j = k := by
      have := (List.getElem?_eq_some_iff.1 ha').1
      rw [List.length_take] at this
      omega
    subst hj
    rw [List.getElem?_take_of_lt (by omega)] at ha' hx'
    rw [ha] at ha'
    rw [hy] at hx'
    injection ha' with ha'
    injection hx' with hx'
    subst ha' hx'
    exact hb
theorem InCap.small_take {n : NetV} (hok : n.Ok) {am : List Int} {k : Nat} (h : InCap (n.arcs.take k) (am.take k)) : Small (am.take k) := fun x hx => by
  obtain ⟨j, hj, rfl⟩ := List.getElem_of_mem hx
  have hja : j < (n.arcs.take k).length := by rw [← h.1]; exact hj
  have h1 := h.2 j _ _ (List.getElem?_eq_getElem hja) (List.getElem?_eq_getElem hj)
  have h2 := (hok.arcs _ (List.mem_of_mem_take (List.getElem_mem hja))).c
  omega
set_option maxHeartbeats 16000000 in
theorem bal_any {w : World} {n : NetV} {sa : Sl} {am : List Int} (h : NetIs w n) (hv : n.validB = true) (ha : IsI w noB sa am) :
    Calls Try.prog 45 #[n.val, .slice sa.addr sa.len sa.cap] w fun r w' => ∃ s ok, r = .returned (.tuple #[.slice s.addr s.len s.cap, .bool ok]) ∧ (ok = true → InCap n.arcs am ∧ IsI w' noB s (outL n.nodes.toNat n.arcs am)) ∧ (ok = false → ¬ InCap n.arcs am ∧ s = ⟨none, 0, 0⟩) ∧ Same noB w w' := by
  have HB := Lib.hid h
  have hok := NetV.validB_ok hv
  have HOK := Lib.hid hok
  have hcaps := h.rd.caps
  obtain ⟨SA, sm, sc⟩ := sa
  have HA := Lib.hid ha
  have hcap2 := ha.2.caps
  have hsl := ha.1
  simp only at hsl hcap2
  obtain ⟨K, hK⟩ : ∃ K : Nat, n.nodes = (K : Int) := ⟨n.nodes.toNat, by have := hok.nodes; omega⟩
  have hKb : K ≤ 400 := by have := hok.nodes; omega
  have HKN := Lib.hid hK
  clear h hv ha hok
  unfold NetV.val
  rw [hK]
  dsimp only
  rw [Int.toNat_natCast]
  obtain ⟨A, hA⟩ : ∃ A, n.sl.addr = A := ⟨_, rfl⟩
  obtain ⟨m, hm⟩ : ∃ m, n.sl.len = m := ⟨_, rfl⟩
  obtain ⟨c, hcc⟩ : ∃ c, n.sl.cap = c := ⟨_, rfl⟩
  have HR : Hid (Rd w noB 4 (.slice A m c) m (acells n.arcs)) := by show Rd _ _ _ _ _ _; rw [← hA, ← hm, ← hcc]; exact HB.out.rd
  have hL : m = n.arcs.length := by rw [← hm]; exact HB.out.len
  rw [hA, hm, hcc]
  rw [hm, hcc] at hcaps
  have hmb : m ≤ 4000 := by have := HOK.out.len; omega
  have HL := Lib.hid hL
  have HR2 : Hid (Rd w noB 1 (.slice SA sm sc) sm (icells am)) := HA.out.2
  have HSL := Lib.hid hsl
  clear hA hm hcc hL hsl HA HB hK
  have m1 := fun w => make26 K (by omega) w
  go_enter Try.func45, Try.ntmps45
  go_upto_region 2 with (fail)
  have HG0 := Lib.hid (Blk.new (w.alloc (.cells #[.int .i64 (K : Int), .int .i64 n.source, .int .i64 n.sink, .slice A m c, .int .i64 n.hold] 24)) 2 (icells (List.replicate K 0)).toArray)
  rw [World.size_alloc] at HG0
  refine wp_abs (fun W => Hid (W.cell? ⟨w.heap.size, 3, none⟩ = some (.slice A m c)) ∧ Hid (Blk W (w.heap.size + 1) 2 (icells (List.replicate K 0)).toArray) ∧ Hid (Same noB w W)) ⟨((Blk.new w 24 _).alloc _).cell 3, HG0.out, ((Same.refl _ _).alloc _).alloc _⟩ ?_
  clear HG0 m1
  rintro W0 ⟨HN, HG, HS⟩
  obtain ⟨N, hN⟩ : ∃ N, w.heap.size = N := ⟨_, rfl⟩
  obtain ⟨G, hG⟩ : ∃ G, N + 1 = G := ⟨_, rfl⟩
  have HGL : Hid (w.heap.size ≤ G) := by show _ ≤ _; omega
  rw [hN] at HN HG ⊢
  rw [hG] at HG ⊢
  clear hN hG
  have x3 := HN.out
  by_cases hsm : sm = m
  · subst hsm
    go_wp2_with fail
    go_loopw [21] (fun i wr => ∃ k : Nat, k ≤ sm ∧ i = .int .i64 k ∧ Hid (InCap (n.arcs.take k) (am.take k)) ∧ Hid (Blk wr G 2 (icells (outL K (n.arcs.take k) (am.take k))).toArray) ∧ Hid (Same noB w wr)) (fun i _ => sm - (intOf i).toNat)
    case atStart => exact ⟨0, Nat.zero_le _, rfl, ⟨by simp, fun j a x h1 _ => by simp at h1⟩, by show Blk _ _ _ _; rw [List.take_zero, List.take_zero, outL_zero]; exact HG.out, HS.out⟩
    case round =>
      clear HG HN HS x3
      obtain ⟨k, hk, rfl, HC, HG, HS⟩ := hrel
      by_cases hlt : k < sm
      · obtain ⟨x, hx⟩ : ∃ e, n.arcs[k]? = some e := ⟨_, List.getElem?_eq_getElem (by have := HL.out; omega)⟩
        obtain ⟨y, hy⟩ : ∃ e, am[k]? = some e := ⟨_, List.getElem?_eq_getElem (by have := HSL.out; omega)⟩
        have hxo := HOK.out.arcs x (List.mem_of_getElem? hx)
        have HX := Lib.hid hx
        have HY := Lib.hid hy
        obtain ⟨b, o, rfl, r⟩ := (HR.out.keep HS.out).at_ (by omega)
        obtain ⟨p0, p1, p2, p3⟩ := arc_at r hx
        have hi0 : (0 : Int) ≤ (k : Int) := by omega
        have hi1 : (k : Int) < (sm : Int) := by omega
        obtain ⟨f, hf⟩ : ∃ f : Nat, x.f = (f : Int) := ⟨x.f.toNat, by have := hxo.f; omega⟩
        obtain ⟨t, ht⟩ : ∃ t : Nat, x.t = (t : Int) := ⟨x.t.toNat, by have := hxo.t; omega⟩
        have hfK : f < K := by have := hxo.f; have := HKN.out; omega
        have htK : t < K := by have := hxo.t; have := HKN.out; omega
        have hft : f ≠ t := by have := hxo.ne; omega
        have hyc : x.c ≤ 1099511627776 := hxo.c.2
        have HF := Lib.hid hf
        have HT := Lib.hid ht
        have HFT := Lib.hid hft
        obtain ⟨xc, hxc⟩ : ∃ c, x.c = c := ⟨_, rfl⟩
        have HXC := Lib.hid hxc
        rw [hxc] at p2 hyc
        rw [hf] at p0
        rw [ht] at p1
        have HE0 := Lib.hid (row_stored (Blk.new wr 43 #[.int .i64 0, .int .i64 0, .int .i64 0, .int .i64 0]) #[.int .i64 (f : Int), .int .i64 (t : Int), .int .i64 xc, .int .i64 x.d])
        clear r hx hy hxo hf ht hxc hft
        go_upto_region 7 with (refine wpList_store_row rfl 43 _ _ rfl wr.heap.size #[.int .i64 (f : Int), .int .i64 (t : Int), .int .i64 xc, .int .i64 x.d] rfl rfl 43 _ (Blk.new wr 43 #[.int .i64 0, .int .i64 0, .int .i64 0, .int .i64 0]) (by kernel_rfl) rfl (by kernel_rfl) ?_)
        have hs0 : Same noB wr ((wr.alloc (.cells #[.int .i64 0, .int .i64 0, .int .i64 0, .int .i64 0] 43)).setRow wr.heap.size #[.int .i64 (f : Int), .int .i64 (t : Int), .int .i64 xc, .int .i64 x.d]) := ((Same.refl noB wr).alloc _).trans HE0.out.2 (fun b hb hx => by have h3 : b = wr.heap.size := hx; omega)
        refine wp_abs (fun W => Hid (Blk W wr.heap.size 43 #[.int .i64 (f : Int), .int .i64 (t : Int), .int .i64 xc, .int .i64 x.d]) ∧ Hid (Blk W G 2 (icells (outL K (n.arcs.take k) (am.take k))).toArray) ∧ Hid (Same noB w W)) ⟨HE0.out.1, HG.out.same hs0 (fun x => x), HS.out.trans' hs0⟩ ?_
        clear hs0 HE0 HS HG p0 p1 p2 p3
        rintro W2 ⟨HE, HG, HS⟩
        obtain ⟨E, hE⟩ : ∃ E, wr.heap.size = E := ⟨_, rfl⟩
        rw [hE] at HE ⊢
        clear hE
        obtain ⟨b', o', rfl, r'⟩ := (HR2.out.keep HS.out).at_ (by omega)
        have a0 := r'.cell k _ (icells_at HY.out)
        clear r'
        have p0 : W2.cell? ⟨E, 0, none⟩ = some (.int .i64 (f : Int)) := HE.out.cell 0
        have p2 : W2.cell? ⟨E, 2, none⟩ = some (.int .i64 xc) := HE.out.cell 2
        by_cases h1 : y < 0
        · have d1 : decide (y < 0) = true := decide_eq_true h1
          have HNC : Hid (¬ InCap n.arcs am) := fun hc => by
            have := hc.2 k x y HX.out HY.out
            omega
          clear h1
          go_wp2_with fail
          go_quiet (fail)
          go_wp2_with fail
          go_ret2
          exact ⟨⟨none, 0, 0⟩, false, rfl, fun h => absurd h (by decide), fun _ => ⟨HNC.out, rfl⟩, HS.out.drewN _⟩
        · have d1 : decide (y < 0) = false := decide_eq_false h1
          by_cases h2 : xc < y
          · have d2 : decide (xc < y) = true := decide_eq_true h2
            have HNC : Hid (¬ InCap n.arcs am) := fun hc => by
              have := hc.2 k x y HX.out HY.out
              have := HXC.out
              omega
            clear h1 h2
            go_wp2_with fail
            go_quiet (fail)
            go_wp2_with fail
            go_ret2
            exact ⟨⟨none, 0, 0⟩, false, rfl, fun h => absurd h (by decide), fun _ => ⟨HNC.out, rfl⟩, HS.out.drewN _⟩
          · have d2 : decide (xc < y) = false := decide_eq_false h2
            have HCN : Hid (InCap (n.arcs.take (k + 1)) (am.take (k + 1))) := HC.out.take_succ HX.out HY.out ⟨by omega, by have := HXC.out; omega⟩
            have hyb : 0 ≤ y ∧ y ≤ 1099511627776 := ⟨by omega, by omega⟩
            have hz1 := outL_at (arcs := n.arcs.take k) (am := am.take k) hfK
            have hz2 := outL_at (arcs := n.arcs.take k) (am := am.take k) htK
            have hb1 := netSum_small (l := n.arcs.take k) (HC.out.small_take HOK.out) (f : Int)
            have hb2 := netSum_small (l := n.arcs.take k) (HC.out.small_take HOK.out) (t : Int)
            have HON := Lib.hid (outL_next HX.out HY.out HF.out HT.out hfK htK HFT.out)
            have hmin : (am.take k).length ≤ 4000 := by rw [List.length_take]; omega
            obtain ⟨z1, hzz1⟩ : ∃ z, netSum (n.arcs.take k) (am.take k) (f : Int) = z := ⟨_, rfl⟩
            obtain ⟨z2, hzz2⟩ : ∃ z, netSum (n.arcs.take k) (am.take k) (t : Int) = z := ⟨_, rfl⟩
            rw [hzz1] at hz1 hb1 HON
            rw [hzz2] at hz2 hb2 HON
            have hw1 : IntKind.i64.wrap (z1 + y) = z1 + y := IntWalk.i64_in _ (by omega)
            have hw2 : IntKind.i64.wrap (z2 - y) = z2 - y := IntWalk.i64_in _ (by omega)
            have HZ2 : Hid (((outL K (n.arcs.take k) (am.take k)).set f (z1 + y))[t]? = some z2) := by
              show _ = _
              rw [List.getElem?_set_ne HFT.out, hz2]
            have HZ1 := Lib.hid hz1
            clear h1 h2 hz1 hz2 hb1 hb2 hmin hzz1 hzz2
            obtain ⟨L, hL⟩ : ∃ L, outL K (n.arcs.take k) (am.take k) = L := ⟨_, rfl⟩
            rw [hL] at HG HON HZ2 HZ1
            clear hL
            have hf0 : (0 : Int) ≤ (f : Int) := by omega
            have hf1 : (f : Int) < (K : Int) := by omega
            have ht0 : (0 : Int) ≤ (t : Int) := by omega
            have ht1 : (t : Int) < (K : Int) := by omega
            go_wp2_with fail
            go_quiet (fail)
            go_upto_region 9 with (fail)
            refine wp_abs (fun W => Hid (Blk W E 43 #[.int .i64 (f : Int), .int .i64 (t : Int), .int .i64 xc, .int .i64 x.d]) ∧ Hid (Blk W G 2 (icells L).toArray) ∧ Hid (W.cell? ⟨b', o' + k, none⟩ = some (.int .i64 y)) ∧ Hid (Same noB w W)) ⟨HE.out.drewN _, HG.out.drewN _, a0, HS.out.drewN _⟩ ?_
            clear HE HG HS a0 p0 p2
            rintro W5 ⟨HE, HG, HA0, HS⟩
            have a0 := HA0.out
            have p0 : W5.cell? ⟨E, 0, none⟩ = some (.int .i64 (f : Int)) := HE.out.cell 0
            have g0 : W5.cell? ⟨G, f, none⟩ = some (.int .i64 z1) := by rw [HG.out.cell]; simpa using icells_at HZ1.out
            have zf := HG.out.frozen f
            have l1 := HE.out.lt
            have l2 := HG.out.lt
            go_region
            go_upto_region 10 with (fail)
            have HG3 : Hid (Blk (W5.setCell ⟨G, f, none⟩ (.int .i64 (z1 + y))) G 2 (icells (L.set f (z1 + y))).toArray) := by
              show Blk _ _ _ _
              rw [← icells_set]
              exact HG.out.set_ f _
            have HE3 : Hid (Blk (W5.setCell ⟨G, f, none⟩ (.int .i64 (z1 + y))) E 43 #[.int .i64 (f : Int), .int .i64 (t : Int), .int .i64 xc, .int .i64 x.d]) := HE.out.same ((Same.refl (oneB G) W5).set1 f _) (fun e => HE.out.ne_ HG.out (by decide) e)
            have HS3 : Hid (Same noB w (W5.setCell ⟨G, f, none⟩ (.int .i64 (z1 + y)))) := HS.out.trans ((Same.refl (oneB G) W5).set1 f _) (fun b hb e => by have h3 : b = G := e; have := HGL.out; omega)
            refine wp_abs (fun W => Hid (Blk W E 43 #[.int .i64 (f : Int), .int .i64 (t : Int), .int .i64 xc, .int .i64 x.d]) ∧ Hid (Blk W G 2 (icells (L.set f (z1 + y))).toArray) ∧ Hid (Same noB w W)) ⟨HE3.out.drew, HG3.out.drew, HS3.out.drew⟩ ?_
            clear HE3 HG3 HS3 g0 zf l1 l2 a0 p0 HE HG HS HA0
            rintro W3 ⟨HE, HG, HS⟩
            obtain ⟨b9, o9, hb9, r'⟩ := (HR2.out.keep HS.out).at_ (by omega)
            injection hb9 with hb9
            injection hb9 with hb9 ho9
            subst hb9 ho9
            have a0 := r'.cell k _ (icells_at HY.out)
            have p1 : W3.cell? ⟨E, 1, none⟩ = some (.int .i64 (t : Int)) := HE.out.cell 1
            have g0 : W3.cell? ⟨G, t, none⟩ = some (.int .i64 z2) := by rw [HG.out.cell]; simpa using icells_at HZ2.out
            have zf := HG.out.frozen t
            have l1 := HE.out.lt
            have l2 := HG.out.lt
            clear r'
            go_region
            have HG4 : Hid (Blk (W3.setCell ⟨G, t, none⟩ (.int .i64 (z2 - y))) G 2 (icells (outL K (n.arcs.take (k + 1)) (am.take (k + 1)))).toArray) := by
              show Blk _ _ _ _
              rw [← HON.out, ← icells_set]
              exact HG.out.set_ t _
            have HS4 : Hid (Same noB w (W3.setCell ⟨G, t, none⟩ (.int .i64 (z2 - y)))) := HS.out.trans ((Same.refl (oneB G) W3).set1 t _) (fun b hb e => by have h3 : b = G := e; have := HGL.out; omega)
            clear g0 zf l1 l2 a0 p1 HE HG HS HON HZ1 HZ2
            go_wp2_with fail
            go_roundw
            case rel => exact ⟨k + 1, by omega, by go_num, HCN.out, HG4.out.drew, HS4.out.drew⟩
            case measure => simp [intOf]; omega
      · obtain rfl : k = sm := by omega
        have HCF : Hid (InCap n.arcs am) := by
          have h1 := HC.out
          rw [List.take_of_length_le (by have := HL.out; omega), List.take_of_length_le (by have := HSL.out; omega)] at h1
          exact h1
        have HGF : Hid (Blk wr G 2 (icells (outL K n.arcs am)).toArray) := by
          have h1 := HG.out
          rw [List.take_of_length_le (by have := HL.out; omega), List.take_of_length_le (by have := HSL.out; omega)] at h1
          exact h1
        clear HG HC
        go_wp2_with fail
        go_ret2
        have hlen : (outL K n.arcs am).length = K := by unfold outL; simp
        exact ⟨⟨some ⟨G, 0, none⟩, K, K⟩, true, rfl, fun _ => ⟨HCF.out, hlen.symm, Rd.of_blk HGF.out (fun x => x) (by simp [icells, hlen]) (Nat.le_refl _) (by simp [maxLen]; omega)⟩, fun h => absurd h (by decide), HS.out⟩
  · have HNC : Hid (¬ InCap n.arcs am) := fun hc => by
      have h1 := hc.1
      have h2 := HL.out
      have h3 := HSL.out
      omega
    have hne : ¬ (sm : Int) = (m : Int) := by omega
    clear hsm
    go_wp2_with fail
    go_ret2
    exact ⟨⟨none, 0, 0⟩, false, rfl, fun h => absurd h (by decide), fun _ => ⟨HNC.out, rfl⟩, HS.out⟩
end Go.Proofs.Ytpalacfgpcpppaa
