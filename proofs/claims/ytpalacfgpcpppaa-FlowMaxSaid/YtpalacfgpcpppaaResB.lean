/- Layer 10: Residual of the reference. (printed by genResB.py) -/
import Derived.Test.YtpalacfgpcpppaaResA
import Derived.Test.YtpalacfgpcpppaaFloQ
namespace Go.Proofs.Ytpalacfgpcpppaa
open Go Go.RowKit
set_option maxRecDepth 100000

/-- A pass that has come to arc k: from L0 to L; ch: whether it has changed something. -/
structure PassI (n : NetV) (am : List Int) (L0 L : List Bool) (k : Nat) (ch : Bool) : Prop where
  j : ResJ n am L
  same : ch = false → L = L0 ∧ ∀ i, i < k → ShutAt n.arcs am (fun v => inB L v = true) i
  less : ch = true → outC L < outC L0
  le : outC L ≤ outC L0
theorem PassI.keep {n : NetV} {am : List Int} {L0 L : List Bool} {k : Nat} {ch : Bool} (h : PassI n am L0 L k ch) (hs : ShutAt n.arcs am (fun v => inB L v = true) k) : PassI n am L0 L (k + 1) ch := by
  refine ⟨h.j, fun e => ⟨(h.same e).1, fun i hi => ?_⟩, h.less, h.le⟩
  by_cases e' : i = k
  · rw [e']; exact hs
  · exact (h.same e).2 i (by omega)
theorem PassI.add {n : NetV} {am : List Int} {L0 L : List Bool} {k t : Nat} {ch : Bool} (h : PassI n am L0 L k ch) (ht : (t : Int) < n.nodes) (hs : search n am (t : Int) ≠ none) (hf : L[t]? = some false) : PassI n am L0 (L.set t true) (k + 1) true := by
  have h1 := outC_set hf
  have h2 := h.le
  exact ⟨h.j.add ht hs, fun e => absurd e (by decide), fun _ => by omega, by omega⟩
theorem getD_false {L : List Bool} {v : Nat} {b : Bool} (h : L[v]? = some b) : inB L (v : Int) = b := by
  unfold inB
  rw [Int.toNat_natCast, List.getD_eq_getElem?_getD, h]
  rfl
set_option maxHeartbeats 32000000 in
theorem resid_ref {w : World} {n : NetV} {sa : Sl} {am : List Int} (h : NetIs w n) (hv : n.validB = true) (ha : IsI w noB sa am) (hl : am.length = n.arcs.length) :
    Calls Try.prog 15 #[n.val, .slice sa.addr sa.len sa.cap] w fun r w' => ∃ s : Sl, r = .returned (.slice s.addr s.len s.cap) ∧ IsBo w' noB s (sideL n am) ∧ Same noB w w' := by
  have HB := Lib.hid h
  have hok := NetV.validB_ok hv
  have HOK := Lib.hid hok
  have hcaps := h.rd.caps
  obtain ⟨SA, sm, sc⟩ := sa
  have hcap2 := ha.2.caps
  have hsl := ha.1
  simp only at hsl hcap2
  obtain ⟨K, hK⟩ : ∃ K : Nat, n.nodes = (K : Int) := ⟨n.nodes.toNat, by have := hok.nodes; omega⟩
  have hKb : K ≤ 400 := by have := hok.nodes; omega
  have hK2 : 2 ≤ K := by have := hok.nodes; omega
  obtain ⟨sK, hsK⟩ : ∃ sK : Nat, n.source = (sK : Int) := ⟨n.source.toNat, by have := hok.source; omega⟩
  have hsb : sK < K := by have := hok.source; omega
  have HKN := Lib.hid hK
  have HSK := Lib.hid hsK
  have HR2 : Hid (Rd w noB 1 (.slice SA sm sc) sm (icells am)) := ha.2
  unfold NetV.val
  rw [hK, hsK]
  dsimp only
  obtain ⟨A, hA⟩ : ∃ A, n.sl.addr = A := ⟨_, rfl⟩
  obtain ⟨m, hm⟩ : ∃ m, n.sl.len = m := ⟨_, rfl⟩
  obtain ⟨c, hcc⟩ : ∃ c, n.sl.cap = c := ⟨_, rfl⟩
  have HR : Hid (Rd w noB 4 (.slice A m c) m (acells n.arcs)) := by show Rd _ _ _ _ _ _; rw [← hA, ← hm, ← hcc]; exact HB.out.rd
  have hL : m = n.arcs.length := by rw [← hm]; exact HB.out.len
  rw [hA, hm, hcc]
  rw [hm, hcc] at hcaps
  have hmb : m ≤ 4000 := by have := hok.len; omega
  have hsmm : sm = m := by omega
  subst hsmm
  have HL := Lib.hid hL
  have HSL := Lib.hid hsl
  have m1 := fun w => make27 K (by omega) w
  clear h hv ha hok hK hsK hA hm hcc hL hsl hl HB
  go_enter Try.func15, Try.ntmps15
  go_upto_region 2 with (fail)
  have HG0 := Lib.hid (Blk.new (w.alloc (.cells #[.int .i64 (K : Int), .int .i64 (sK : Int), .int .i64 n.sink, .slice A sm c, .int .i64 n.hold] 24)) 4 (bcells (List.replicate K false)).toArray)
  rw [World.size_alloc] at HG0
  refine wp_abs (fun W => Hid (Blk W w.heap.size 24 #[.int .i64 (K : Int), .int .i64 (sK : Int), .int .i64 n.sink, .slice A sm c, .int .i64 n.hold]) ∧ Hid (Blk W (w.heap.size + 1) 4 (bcells (List.replicate K false)).toArray) ∧ Hid (Same noB w W)) ⟨(Blk.new w 24 _).alloc _, HG0.out, ((Same.refl _ _).alloc _).alloc _⟩ ?_
  clear HG0 m1
  rintro W0 ⟨HN, HG, HS⟩
  obtain ⟨N, hN⟩ : ∃ N, w.heap.size = N := ⟨_, rfl⟩
  obtain ⟨G, hG⟩ : ∃ G, N + 1 = G := ⟨_, rfl⟩
  have HGL : Hid (w.heap.size ≤ G) := by show _ ≤ _; omega
  rw [hN] at HN HG ⊢
  rw [hG] at HG ⊢
  clear hN hG
  have x1 : W0.cell? ⟨N, 1, none⟩ = some (.int .i64 (sK : Int)) := HN.out.cell 1
  have hi0 : (0 : Int) ≤ (sK : Int) := by omega
  have hi1 : (sK : Int) < (K : Int) := by omega
  have g0 : W0.cell? ⟨G, sK, none⟩ = some (.bool false) := by
    rw [HG.out.cell]
    have : (List.replicate K false)[sK]? = some false := by rw [List.getElem?_replicate, if_pos hsb]
    simpa using bcells_at this
  have z0 := HG.out.frozen sK
  go_upto_region 3 with (fail)
  have hs1 : Same (oneB G) W0 (W0.setCell ⟨G, sK, none⟩ (.bool true)) := (Same.refl _ W0).set1 _ _
  have HJ0 : Hid (ResJ n am ((List.replicate K false).set sK true)) := by
    have hlen : sK < (List.replicate K false).length := by simpa using hsb
    refine ⟨by rw [List.length_set, List.length_replicate]; exact HKN.out.symm, ?_, fun v hv0 hv => ?_⟩
    · rw [HSK.out, inB_set hlen (by omega)]; simp
    · rw [inB_set hlen hv0] at hv
      by_cases e : v = (sK : Int)
      · rw [e, ← HSK.out]; exact search_src HOK.out am
      · rw [decide_eq_false e, Bool.false_or] at hv
        unfold inB at hv
        rw [List.getD_eq_getElem?_getD, List.getElem?_replicate] at hv
        split at hv <;> cases hv
  refine wp_abs (fun W => Hid (Blk W N 24 #[.int .i64 (K : Int), .int .i64 (sK : Int), .int .i64 n.sink, .slice A sm c, .int .i64 n.hold]) ∧ Hid (Blk W G 4 (bcells ((List.replicate K false).set sK true)).toArray) ∧ Hid (Same noB w W)) ⟨HN.out.same hs1 (fun e => HN.out.ne_ HG.out (by decide) e), by show Blk _ _ _ _; rw [← bcells_set]; exact HG.out.set_ _ _, HS.out.trans hs1 (fun b hb e => by have h3 : b = G := e; have := HGL.out; omega)⟩ ?_
  clear hs1 HN HG HS x1 g0 z0
  rintro W1 ⟨HN, HG, HS⟩
  go_wp2_with fail
  go_loopg [6] (K + 1) (fun gk q wr => ∃ (L : List Bool) (ch : Bool), q = .bool ch ∧ Hid (ResJ n am L) ∧ Hid (outC L + (if ch then 1 else 0) ≤ gk) ∧ Hid (ch = false → L = sideL n am) ∧ Hid (Blk wr N 24 #[.int .i64 (K : Int), .int .i64 (sK : Int), .int .i64 n.sink, .slice A sm c, .int .i64 n.hold]) ∧ Hid (Blk wr G 4 (bcells L).toArray) ∧ Hid (Same noB w wr))
  case atStart =>
    refine ⟨_, true, rfl, HJ0.out, ?_, fun e => absurd e (by decide), HN.out, HG.out, HS.out⟩
    show _ ≤ _
    have h1 := List.length_filter_le (fun b => !b) ((List.replicate K false).set sK true)
    rw [List.length_set, List.length_replicate] at h1
    unfold outC
    simp
    exact h1
  case round =>
    clear HN HG HS HJ0
    obtain ⟨L0, ch, rfl, HJ, HK, HC, HN, HG, HS⟩ := hrel
    cases ch with
    | false =>
      have HF : Hid (L0 = sideL n am) := HC.out rfl
      clear HC
      go_wp2_with fail
      go_ret
      have hlen : L0.length = K := by have := HJ.out.len; have := HKN.out; omega
      refine ⟨⟨some ⟨G, 0, none⟩, K, K⟩, rfl, ?_, HS.out⟩
      rw [← HF.out]
      exact ⟨hlen.symm, Rd.of_blk HG.out (fun x => x) (by unfold bcells; simp [hlen]) (Nat.le_refl _) (by simp [maxLen]; omega)⟩
    | true =>
      have HKK := HK
      clear HK HC
      obtain ⟨ko, rfl⟩ : ∃ ko : Nat, ko = gk := ⟨_, rfl⟩
      go_wp2_with fail
      go_loopg [6, 7] (sm) (fun gk q s wr => ∃ (k : Nat) (L : List Bool) (ch : Bool), k ≤ sm ∧ Hid (gk + k = sm) ∧ s = .int .i64 k ∧ q = .bool ch ∧ Hid (PassI n am L0 L k ch) ∧ Hid (Blk wr N 24 #[.int .i64 (K : Int), .int .i64 (sK : Int), .int .i64 n.sink, .slice A sm c, .int .i64 n.hold]) ∧ Hid (Blk wr G 4 (bcells L).toArray) ∧ Hid (Same noB w wr))
      case atStart => exact ⟨0, L0, false, Nat.zero_le _, rfl, rfl, rfl, ⟨HJ.out, fun _ => ⟨rfl, fun i hi => absurd hi (Nat.not_lt_zero _)⟩, fun e => absurd e (by decide), Nat.le_refl _⟩, HN.out, HG.out, HS.out⟩
      case round =>
        clear HN HG HS
        obtain ⟨k, L, ch, hk, HKI, rfl, rfl, HP, HN, HG, HS⟩ := hrel
        have x3 : wr.cell? ⟨N, 3, none⟩ = some (.slice A sm c) := HN.out.cell 3
        by_cases hlt : k < sm
        · obtain ⟨x, hx⟩ : ∃ e, n.arcs[k]? = some e := ⟨_, List.getElem?_eq_getElem (by have := HL.out; omega)⟩
          obtain ⟨y, hy⟩ : ∃ e, am[k]? = some e := ⟨_, List.getElem?_eq_getElem (by have := HSL.out; omega)⟩
          have hxo := HOK.out.arcs x (List.mem_of_getElem? hx)
          have HX := Lib.hid hx
          have HY := Lib.hid hy
          obtain ⟨b, o, rfl, r⟩ := (HR.out.keep HS.out).at_ (by omega)
          obtain ⟨p0, p1, p2, p3⟩ := arc_at r hx
          have hk0 : (0 : Int) ≤ (k : Int) := by omega
          have hk1 : (k : Int) < (sm : Int) := by omega
          obtain ⟨f, hf⟩ : ∃ f : Nat, x.f = (f : Int) := ⟨x.f.toNat, by have := hxo.f; omega⟩
          obtain ⟨t, ht⟩ : ∃ t : Nat, x.t = (t : Int) := ⟨x.t.toNat, by have := hxo.t; omega⟩
          have hfK : f < K := by have := hxo.f; have := HKN.out; omega
          have htK : t < K := by have := hxo.t; have := HKN.out; omega
          obtain ⟨xc, hxc⟩ : ∃ c, x.c = c := ⟨_, rfl⟩
          rw [hf] at p0
          rw [ht] at p1
          rw [hxc] at p2
          have HF := Lib.hid hf
          have HT := Lib.hid ht
          have HXC := Lib.hid hxc
          have HE0 := Lib.hid (row_stored (Blk.new wr 43 #[.int .i64 0, .int .i64 0, .int .i64 0, .int .i64 0]) #[.int .i64 (f : Int), .int .i64 (t : Int), .int .i64 xc, .int .i64 x.d])
          have l3 := HN.out.lt
          clear r hx hy hxo hf ht hxc
          go_upto_region 10 with (refine wpList_store_row rfl 43 _ _ rfl wr.heap.size #[.int .i64 (f : Int), .int .i64 (t : Int), .int .i64 xc, .int .i64 x.d] rfl rfl 43 _ (Blk.new wr 43 #[.int .i64 0, .int .i64 0, .int .i64 0, .int .i64 0]) (by kernel_rfl) rfl (by kernel_rfl) ?_)
          have hs0 : Same noB wr ((wr.alloc (.cells #[.int .i64 0, .int .i64 0, .int .i64 0, .int .i64 0] 43)).setRow wr.heap.size #[.int .i64 (f : Int), .int .i64 (t : Int), .int .i64 xc, .int .i64 x.d]) := ((Same.refl noB wr).alloc _).trans HE0.out.2 (fun b hb hx => by have h3 : b = wr.heap.size := hx; omega)
          refine wp_abs (fun W => Hid (Blk W wr.heap.size 43 #[.int .i64 (f : Int), .int .i64 (t : Int), .int .i64 xc, .int .i64 x.d]) ∧ Hid (Blk W N 24 #[.int .i64 (K : Int), .int .i64 (sK : Int), .int .i64 n.sink, .slice (some ⟨b, o, none⟩) sm c, .int .i64 n.hold]) ∧ Hid (Blk W G 4 (bcells L).toArray) ∧ Hid (Same noB w W)) ⟨HE0.out.1, HN.out.same hs0 (fun x => x), HG.out.same hs0 (fun x => x), HS.out.trans' hs0⟩ ?_
          clear hs0 HE0 HS HG HN p0 p1 p2 p3 x3 l3
          rintro W2 ⟨HE, HN, HG, HS⟩
          obtain ⟨E, hE⟩ : ∃ E, wr.heap.size = E := ⟨_, rfl⟩
          rw [hE] at HE ⊢
          clear hE
          have p0 : W2.cell? ⟨E, 0, none⟩ = some (.int .i64 (f : Int)) := HE.out.cell 0
          have p1 : W2.cell? ⟨E, 1, none⟩ = some (.int .i64 (t : Int)) := HE.out.cell 1
          have p2 : W2.cell? ⟨E, 2, none⟩ = some (.int .i64 xc) := HE.out.cell 2
          obtain ⟨b', o', rfl, r'⟩ := (HR2.out.keep HS.out).at_ (by omega)
          have a0 := r'.cell k _ (icells_at HY.out)
          have hLK : L.length = K := by have := HP.out.j.len; have := HKN.out; omega
          obtain ⟨pf, hpf⟩ : ∃ q, L[f]? = some q := ⟨_, List.getElem?_eq_getElem (by omega)⟩
          obtain ⟨pt, hpt⟩ : ∃ q, L[t]? = some q := ⟨_, List.getElem?_eq_getElem (by omega)⟩
          have gf : W2.cell? ⟨G, f, none⟩ = some (.bool pf) := by rw [HG.out.cell]; simpa using bcells_at hpf
          have gt : W2.cell? ⟨G, t, none⟩ = some (.bool pt) := by rw [HG.out.cell]; simpa using bcells_at hpt
          have HIF : Hid (inB L x.f = pf) := by show _ = _; rw [HF.out]; exact getD_false hpf
          have HIT : Hid (inB L x.t = pt) := by show _ = _; rw [HT.out]; exact getD_false hpt
          have HPF := Lib.hid hpf
          have HPT := Lib.hid hpt
          have HSD := Lib.hid (res_sound HOK.out HX.out HY.out)
          have hf0 : (0 : Int) ≤ (f : Int) := by omega
          have hf1 : (f : Int) < (K : Int) := by omega
          have ht0 : (0 : Int) ≤ (t : Int) := by omega
          have ht1 : (t : Int) < (K : Int) := by omega
          clear r' hpf hpt hLK
          cases pf with
          | true =>
            cases pt with
            | true =>
              have HPN : Hid (PassI n am L0 L (k + 1) ch) := HP.out.keep (fun a z ha hz => by
                have e1 := ha.symm.trans HX.out
                have e2 := hz.symm.trans HY.out
                injection e1 with e1
                injection e2 with e2
                subst e1 e2
                have i1 := HIF.out
                have i2 := HIT.out
                have i3 := HXC.out
                refine ⟨fun q1 q2 => ?_, fun q1 q2 => ?_⟩ <;> dsimp only at q1 ⊢
                · show inB L a.t = true; exact i2
                · show inB L a.f = true; exact i1)
              go_frame
              go_wp2_with fail
              go_quiet (fail)
              go_wp2_with fail
              go_roundg (gk - 1)
              case measure => have h1 := HKI.out; omega
              case rel => exact ⟨k + 1, L, ch, by omega, by show _ = _; have h1 := HKI.out; omega, by go_num, rfl, HPN.out, HN.out.drewN _, HG.out.drewN _, HS.out.drewN _⟩
            | false =>
              by_cases h1 : y < xc
              · have d1 : decide (y < xc) = true := decide_eq_true h1
                have HPA : Hid (PassI n am L0 (L.set t true) (k + 1) true) := HP.out.add (by have := HKN.out; omega) (by
                  rw [← HT.out]
                  exact HSD.out.1 (HP.out.j.in_ _ (by rw [HF.out]; omega) HIF.out) (by rw [HXC.out]; exact h1)) HPT.out
                have hne : t ≠ f := fun e => by
                  have q1 := HPT.out
                  rw [e, HPF.out] at q1
                  cases q1
                have Q1 : Hid ((L.set t true)[f]? = some true) := by show _ = _; rw [List.getElem?_set_ne hne, HPF.out]
                have Q2 : Hid ((L.set t true)[t]? = some true) := List.getElem?_set_self (List.getElem?_eq_some_iff.1 HPT.out).1
                have zt := HG.out.frozen t
                have lg := HG.out.lt
                clear h1 hne
                go_frame
                go_wp2_with fail
                go_quiet (fail)
                go_upto_region 13 with (fail)
                have hs6 : ∀ q, Same (oneB G) W2 ((W2.drewN q).setCell ⟨G, t, none⟩ (.bool true)) := fun q => ((Same.refl (oneB G) W2).drewN q).set1 t _
                have HG6 : Hid (∀ q, Blk ((W2.drewN q).setCell ⟨G, t, none⟩ (.bool true)) G 4 (bcells (L.set t true)).toArray) := by
                  show ∀ q, Blk _ _ _ _
                  intro q
                  rw [← bcells_set]
                  exact (HG.out.drewN q).set_ _ _
                have HBG : Hid (b' ≠ G) := fun e => by
                  have q2 : W2.cell? ⟨G, o' + k, none⟩ = some (.int .i64 y) := by rw [← e]; exact a0
                  rw [HG.out.cell] at q2
                  simp [bcells] at q2
                refine wp_abs (fun W => Hid (Blk W E 43 #[.int .i64 (f : Int), .int .i64 (t : Int), .int .i64 xc, .int .i64 x.d]) ∧ Hid (Blk W N 24 #[.int .i64 (K : Int), .int .i64 (sK : Int), .int .i64 n.sink, .slice (some ⟨b, o, none⟩) sm c, .int .i64 n.hold]) ∧ Hid (Blk W G 4 (bcells (L.set t true)).toArray) ∧ Hid (W.cell? ⟨b', o' + k, none⟩ = some (.int .i64 y)) ∧ Hid (Same noB w W)) ⟨HE.out.same (hs6 _) (fun e => HE.out.ne_ HG.out (by decide) e), HN.out.same (hs6 _) (fun e => HN.out.ne_ HG.out (by decide) e), HG6.out _, (hs6 _).cell a0 (fun e => HBG.out e), HS.out.trans (hs6 _) (fun b hb e => by have h3 : b = G := e; have := HGL.out; omega)⟩ ?_
                clear HE HN HG HS p0 p1 p2 a0 gf gt
                rintro W7 ⟨HE, HN, HG, HA0, HS⟩
                have a0 := HA0.out
                have p0 : W7.cell? ⟨E, 0, none⟩ = some (.int .i64 (f : Int)) := HE.out.cell 0
                have p1 : W7.cell? ⟨E, 1, none⟩ = some (.int .i64 (t : Int)) := HE.out.cell 1
                have gf : W7.cell? ⟨G, f, none⟩ = some (.bool true) := by rw [HG.out.cell]; simpa using bcells_at Q1.out
                have gt : W7.cell? ⟨G, t, none⟩ = some (.bool true) := by rw [HG.out.cell]; simpa using bcells_at Q2.out
                clear HG6 hs6 HBG zt lg
                go_wp2_with fail
                go_roundg (gk - 1)
                case measure => have h1 := HKI.out; omega
                case rel => exact ⟨k + 1, (L.set t true), true, by omega, by show _ = _; have h1 := HKI.out; omega, by go_num, rfl, HPA.out, HN.out, HG.out, HS.out⟩
              · have d1 : decide (y < xc) = false := decide_eq_false h1
                have HPN : Hid (PassI n am L0 L (k + 1) ch) := HP.out.keep (fun a z ha hz => by
                  have e1 := ha.symm.trans HX.out
                  have e2 := hz.symm.trans HY.out
                  injection e1 with e1
                  injection e2 with e2
                  subst e1 e2
                  have i1 := HIF.out
                  have i2 := HIT.out
                  have i3 := HXC.out
                  refine ⟨fun q1 q2 => ?_, fun q1 q2 => ?_⟩ <;> dsimp only at q1 ⊢
                  · exact absurd q2 (by rw [i3]; exact h1)
                  · rw [i2] at q1; cases q1)
                clear h1
                go_frame
                go_wp2_with fail
                go_quiet (fail)
                go_wp2_with fail
                go_roundg (gk - 1)
                case measure => have h1 := HKI.out; omega
                case rel => exact ⟨k + 1, L, ch, by omega, by show _ = _; have h1 := HKI.out; omega, by go_num, rfl, HPN.out, HN.out.drewN _, HG.out.drewN _, HS.out.drewN _⟩
          | false =>
            cases pt with
            | false =>
              have HPN : Hid (PassI n am L0 L (k + 1) ch) := HP.out.keep (fun a z ha hz => by
                have e1 := ha.symm.trans HX.out
                have e2 := hz.symm.trans HY.out
                injection e1 with e1
                injection e2 with e2
                subst e1 e2
                have i1 := HIF.out
                have i2 := HIT.out
                have i3 := HXC.out
                refine ⟨fun q1 q2 => ?_, fun q1 q2 => ?_⟩ <;> dsimp only at q1 ⊢
                · rw [i1] at q1; cases q1
                · rw [i2] at q1; cases q1)
              go_frame
              go_wp2_with fail
              go_quiet (fail)
              go_wp2_with fail
              go_roundg (gk - 1)
              case measure => have h1 := HKI.out; omega
              case rel => exact ⟨k + 1, L, ch, by omega, by show _ = _; have h1 := HKI.out; omega, by go_num, rfl, HPN.out, HN.out.drewN _, HG.out.drewN _, HS.out.drewN _⟩
            | true =>
              by_cases h1 : 0 < y
              · have d1 : decide (0 < y) = true := decide_eq_true h1
                have HPA : Hid (PassI n am L0 (L.set f true) (k + 1) true) := HP.out.add (by have := HKN.out; omega) (by
                  rw [← HF.out]
                  exact HSD.out.2 (HP.out.j.in_ _ (by rw [HT.out]; omega) HIT.out) h1) HPF.out
                clear h1
                go_frame
                go_wp2_with fail
                go_quiet (fail)
                go_upto_region 13 with (fail)
                refine wp_abs (fun W => Hid (Blk W E 43 #[.int .i64 (f : Int), .int .i64 (t : Int), .int .i64 xc, .int .i64 x.d]) ∧ Hid (Blk W N 24 #[.int .i64 (K : Int), .int .i64 (sK : Int), .int .i64 n.sink, .slice (some ⟨b, o, none⟩) sm c, .int .i64 n.hold]) ∧ Hid (Blk W G 4 (bcells L).toArray) ∧ Hid (W.cell? ⟨b', o' + k, none⟩ = some (.int .i64 y)) ∧ Hid (Same noB w W)) ⟨HE.out.drewN _, HN.out.drewN _, HG.out.drewN _, ((Same.refl noB W2).drewN _).cell a0 (fun x => x), HS.out.drewN _⟩ ?_
                clear HE HN HG HS p0 p1 p2 a0 gf gt
                rintro W7 ⟨HE, HN, HG, HA0, HS⟩
                have a0 := HA0.out
                have p0 : W7.cell? ⟨E, 0, none⟩ = some (.int .i64 (f : Int)) := HE.out.cell 0
                have p1 : W7.cell? ⟨E, 1, none⟩ = some (.int .i64 (t : Int)) := HE.out.cell 1
                have gf : W7.cell? ⟨G, f, none⟩ = some (.bool false) := by rw [HG.out.cell]; simpa using bcells_at HPF.out
                have gt : W7.cell? ⟨G, t, none⟩ = some (.bool true) := by rw [HG.out.cell]; simpa using bcells_at HPT.out
                have zt := HG.out.frozen f
                have lg := HG.out.lt
                go_wp2_with fail
                have hs6 : Same (oneB G) W7 (W7.setCell ⟨G, f, none⟩ (.bool true)) := (Same.refl (oneB G) W7).set1 f _
                have HG6 : Hid (Blk (W7.setCell ⟨G, f, none⟩ (.bool true)) G 4 (bcells (L.set f true)).toArray) := by
                  show Blk _ _ _ _
                  rw [← bcells_set]
                  exact HG.out.set_ _ _
                go_roundg (gk - 1)
                case measure => have h1 := HKI.out; omega
                case rel => exact ⟨k + 1, L.set f true, true, by omega, by show _ = _; have h1 := HKI.out; omega, by go_num, rfl, HPA.out, HN.out.same hs6 (fun e => HN.out.ne_ HG.out (by decide) e), HG6.out, HS.out.trans hs6 (fun b hb e => by have h3 : b = G := e; have := HGL.out; omega)⟩
              · have d1 : decide (0 < y) = false := decide_eq_false h1
                have HPN : Hid (PassI n am L0 L (k + 1) ch) := HP.out.keep (fun a z ha hz => by
                  have e1 := ha.symm.trans HX.out
                  have e2 := hz.symm.trans HY.out
                  injection e1 with e1
                  injection e2 with e2
                  subst e1 e2
                  have i1 := HIF.out
                  have i2 := HIT.out
                  have i3 := HXC.out
                  refine ⟨fun q1 q2 => ?_, fun q1 q2 => ?_⟩ <;> dsimp only at q1 ⊢
                  · rw [i1] at q1; cases q1
                  · exact absurd q2 h1)
                clear h1
                go_frame
                go_wp2_with fail
                go_quiet (fail)
                go_wp2_with fail
                go_roundg (gk - 1)
                case measure => have h1 := HKI.out; omega
                case rel => exact ⟨k + 1, L, ch, by omega, by show _ = _; have h1 := HKI.out; omega, by go_num, rfl, HPN.out, HN.out.drewN _, HG.out.drewN _, HS.out.drewN _⟩
        · obtain rfl : k = sm := by omega
          have HR9 : Hid (outC L + (if ch then 1 else 0) ≤ ko - 1 ∧ ko ≠ 0) := by
            show _ ∧ _
            have q1 := HKK.out
            simp only [if_true] at q1
            cases ch with
            | true => have q2 := HP.out.less rfl; simp only [if_true]; omega
            | false => have q2 := (HP.out.same rfl).1; rw [q2]; simp only [Bool.false_eq_true, if_false]; omega
          have HC9 : Hid (ch = false → L = sideL n am) := fun e => HP.out.j.done HOK.out (fun j hj => (HP.out.same e).2 j (by have := HL.out; omega))
          clear hlt
          go_wp2_with fail
          go_roundg (ko - 1)
          case measure => have q1 := HR9.out; omega
          case rel => exact ⟨L, ch, rfl, HP.out.j, HR9.out.1, HC9.out, HN.out, HG.out, HS.out⟩
end Go.Proofs.Ytpalacfgpcpppaa
