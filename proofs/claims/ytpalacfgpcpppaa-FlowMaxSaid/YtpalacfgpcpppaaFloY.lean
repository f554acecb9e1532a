/- Layer 10: IsFlow of the reference. (printed by genFloY.py) -/
import Derived.Test.YtpalacfgpcpppaaFloT
namespace Go.Proofs.Ytpalacfgpcpppaa
open Go Go.RowKit
set_option maxRecDepth 100000

def IsfS (N F : Nat) (K sK tK : Nat) (A SA : Option Addr) (m c sm sc : Nat) (n : NetV) (f : FlowV) (w : World) : Prop := w.cell? ⟨N, 0, none⟩ = some (.int .i64 (K : Int)) ∧ w.cell? ⟨N, 1, none⟩ = some (.int .i64 (sK : Int)) ∧ w.cell? ⟨N, 2, none⟩ = some (.int .i64 (tK : Int)) ∧ w.cell? ⟨N, 3, none⟩ = some (.slice A m c) ∧ w.cell? ⟨N, 4, none⟩ = some (.int .i64 n.hold) ∧
  w.cell? ⟨F, 0, none⟩ = some (.int .i64 f.value) ∧ w.cell? ⟨F, 1, none⟩ = some (.slice SA sm sc)
def CapK (arcs : List ArcV) (am : List Int) (k : Nat) : Prop := ∀ (j : Nat) (a : ArcV) (x : Int), j < k → arcs[j]? = some a → am[j]? = some x → 0 ≤ x ∧ x ≤ a.c
set_option maxHeartbeats 16000000 in
theorem isflow_any {w : World} {n : NetV} {f : FlowV} (h : NetIs w n) (hv : n.validB = true) (hf : FlowIs w f) :
    Calls Try.prog 17 #[n.val, f.val] w fun r w' => ∃ b, r = .returned (.bool b) ∧ (b = true ↔ IsFl n f.am f.value) ∧ Same noB w w' := by
  have hok := NetV.validB_ok hv
  have HOK := Lib.hid hok
  have HB := Lib.hid h
  have hcaps := h.rd.caps
  have hcap2 := hf.a.2.caps
  have hsl := hf.a.1
  obtain ⟨K, hK⟩ : ∃ K : Nat, n.nodes = (K : Int) := ⟨n.nodes.toNat, by have := hok.nodes; omega⟩
  have hKb : K ≤ 400 := by have := hok.nodes; omega
  obtain ⟨sK, hsK⟩ : ∃ sK : Nat, n.source = (sK : Int) := ⟨n.source.toNat, by have := hok.source; omega⟩
  obtain ⟨tK, htK⟩ : ∃ tK : Nat, n.sink = (tK : Int) := ⟨n.sink.toNat, by have := hok.sink; omega⟩
  have HKN := Lib.hid hK
  have HSK := Lib.hid hsK
  have HTK := Lib.hid htK
  have hZ := fun (W : World) (hs : Same noB w W) (hl : f.am.length = n.arcs.length) (hsm : Small f.am) (v : Int) => net_any (h.keep hs) (hf.a.keep hs) hl hok.len hsm v
  unfold NetV.val at hZ ⊢
  unfold FlowV.val
  rw [hK, hsK, htK] at hZ ⊢
  obtain ⟨A, hA⟩ : ∃ A, n.sl.addr = A := ⟨_, rfl⟩
  obtain ⟨m, hm⟩ : ∃ m, n.sl.len = m := ⟨_, rfl⟩
  obtain ⟨c, hcc⟩ : ∃ c, n.sl.cap = c := ⟨_, rfl⟩
  obtain ⟨SA, hSA⟩ : ∃ A, f.sa.addr = A := ⟨_, rfl⟩
  obtain ⟨sm, hsm⟩ : ∃ m, f.sa.len = m := ⟨_, rfl⟩
  obtain ⟨sc, hsc⟩ : ∃ c, f.sa.cap = c := ⟨_, rfl⟩
  have HR : Hid (Rd w noB 4 (.slice A m c) m (acells n.arcs)) := by show Rd _ _ _ _ _ _; rw [← hA, ← hm, ← hcc]; exact HB.out.rd
  have HR2 : Hid (Rd w noB 1 (.slice SA sm sc) sm (icells f.am)) := by show Rd _ _ _ _ _ _; rw [← hSA, ← hsm, ← hsc]; exact hf.a.2
  have hL : m = n.arcs.length := by rw [← hm]; exact HB.out.len
  rw [hA, hm, hcc, hSA, hsm, hsc] at hZ ⊢
  rw [hm, hcc] at hcaps
  rw [hsm, hsc] at hcap2
  rw [hsm] at hsl
  have hmb : m ≤ 4000 := by have := HOK.out.len; omega
  have HL := Lib.hid hL
  have HSL := Lib.hid hsl
  have HZ := Lib.hid hZ
  clear h hv hf hok hZ hK hsK htK hA hm hcc hSA hsm hsc hL hsl HB
  go_enter Try.func17, Try.ntmps17
  go_upto_region 1 with (fail)
  have HN0 := Lib.hid (Blk.new w 24 #[.int .i64 (K : Int), .int .i64 (sK : Int), .int .i64 (tK : Int), .slice A m c, .int .i64 n.hold])
  have HF0 := Lib.hid (Blk.new (w.alloc (.cells #[.int .i64 (K : Int), .int .i64 (sK : Int), .int .i64 (tK : Int), .slice A m c, .int .i64 n.hold] 24)) 29 #[.int .i64 f.value, .slice SA sm sc, .slice f.ss.addr f.ss.len f.ss.cap])
  rw [World.size_alloc] at HF0
  refine wp_abs (fun W => Hid (Blk W w.heap.size 24 #[.int .i64 (K : Int), .int .i64 (sK : Int), .int .i64 (tK : Int), .slice A m c, .int .i64 n.hold]) ∧ Hid (Blk W (w.heap.size + 1) 29 #[.int .i64 f.value, .slice SA sm sc, .slice f.ss.addr f.ss.len f.ss.cap]) ∧ Hid (Same noB w W)) ⟨HN0.out.alloc _, HF0.out, ((Same.refl _ _).alloc _).alloc _⟩ ?_
  clear HN0 HF0
  rintro W0 ⟨HN, HF, HS⟩
  obtain ⟨N, hN⟩ : ∃ N, w.heap.size = N := ⟨_, rfl⟩
  obtain ⟨F, hF⟩ : ∃ F, N + 1 = F := ⟨_, rfl⟩
  rw [hN] at HN HF ⊢
  rw [hF] at HF ⊢
  clear hN hF
  have x3 : W0.cell? ⟨N, 3, none⟩ = some (.slice A m c) := HN.out.cell 3
  have f1 : W0.cell? ⟨F, 1, none⟩ = some (.slice SA sm sc) := HF.out.cell 1
  by_cases hsm : sm = m
  · subst hsm
    go_wp2_with fail
    go_loopw [5] (fun i wr => ∃ k : Nat, k ≤ sm ∧ i = .int .i64 k ∧ Hid (CapK n.arcs f.am k) ∧ Hid (Blk wr N 24 #[.int .i64 (K : Int), .int .i64 (sK : Int), .int .i64 (tK : Int), .slice A sm c, .int .i64 n.hold]) ∧ Hid (Blk wr F 29 #[.int .i64 f.value, .slice SA sm sc, .slice f.ss.addr f.ss.len f.ss.cap]) ∧ Hid (Same noB w wr)) (fun i _ => sm - (intOf i).toNat)
    case atStart => exact ⟨0, Nat.zero_le _, rfl, fun j a x hj => absurd hj (Nat.not_lt_zero _), HN.out, HF.out, HS.out⟩
    case round =>
      clear HN HF HS x3 f1
      obtain ⟨k, hk, rfl, HC, HN, HF, HS⟩ := hrel
      have x3 : wr.cell? ⟨N, 3, none⟩ = some (.slice A sm c) := HN.out.cell 3
      have f1 : wr.cell? ⟨F, 1, none⟩ = some (.slice SA sm sc) := HF.out.cell 1
      by_cases hlt : k < sm
      · obtain ⟨x, hx⟩ : ∃ e, n.arcs[k]? = some e := ⟨_, List.getElem?_eq_getElem (by have := HL.out; omega)⟩
        obtain ⟨y, hy⟩ : ∃ e, f.am[k]? = some e := ⟨_, List.getElem?_eq_getElem (by have := HSL.out; omega)⟩
        have HX := Lib.hid hx
        have HY := Lib.hid hy
        obtain ⟨b, o, rfl, r⟩ := (HR.out.keep HS.out).at_ (by omega)
        obtain ⟨b', o', rfl, r'⟩ := (HR2.out.keep HS.out).at_ (by omega)
        obtain ⟨p0, p1, p2, p3⟩ := arc_at r hx
        have a0 := r'.cell k _ (icells_at hy)
        have hi0 : (0 : Int) ≤ (k : Int) := by omega
        have hi1 : (k : Int) < (sm : Int) := by omega
        obtain ⟨xc, hxc⟩ : ∃ c, x.c = c := ⟨_, rfl⟩
        rw [hxc] at p2
        have HXC := Lib.hid hxc
        clear r r' hx hy hxc p0 p1 p3
        by_cases h1 : y < 0
        · have d1 : decide (y < 0) = true := decide_eq_true h1
          have HNC : Hid (¬ IsFl n f.am f.value) := fun hc => by
            have := hc.cap.2 k x y HX.out HY.out
            omega
          clear h1
          go_wp2_with fail
          go_quiet (fail)
          go_wp2_with fail
          go_ret
          exact ⟨false, rfl, ⟨fun h => absurd h (by decide), fun h => absurd h HNC.out⟩, HS.out.drewN _⟩
        · have d1 : decide (y < 0) = false := decide_eq_false h1
          by_cases h2 : xc < y
          · have d2 : decide (xc < y) = true := decide_eq_true h2
            have HNC : Hid (¬ IsFl n f.am f.value) := fun hc => by
              have := hc.cap.2 k x y HX.out HY.out
              have := HXC.out
              omega
            clear h1 h2
            go_wp2_with fail
            go_quiet (fail)
            go_wp2_with fail
            go_ret
            exact ⟨false, rfl, ⟨fun h => absurd h (by decide), fun h => absurd h HNC.out⟩, HS.out.drewN _⟩
          · have d2 : decide (xc < y) = false := decide_eq_false h2
            have HCN : Hid (CapK n.arcs f.am (k + 1)) := fun j a z hj ha hz => by
              by_cases e : j = k
              · subst e
                have e1 := ha.symm.trans HX.out
                have e2 := hz.symm.trans HY.out
                injection e1 with e1
                injection e2 with e2
                rw [e1, e2, HXC.out]
                omega
              · exact HC.out j a z (by omega) ha hz
            clear h1 h2
            go_wp2_with fail
            go_quiet (fail)
            go_wp2_with fail
            go_roundw
            case rel => exact ⟨k + 1, by omega, by go_num, HCN.out, HN.out.drewN _, HF.out.drewN _, HS.out.drewN _⟩
            case measure => simp [intOf]; omega
      · obtain rfl : k = sm := by omega
        have HCF : Hid (InCap n.arcs f.am) := ⟨by have := HL.out; have := HSL.out; omega, fun j a x ha hx => HC.out j a x (by have := (List.getElem?_eq_some_iff.1 ha).1; have := HL.out; omega) ha hx⟩
        have HZN : Hid (∀ (W : World), Same noB w W → ∀ v : Int, Calls Try.prog 37 #[.agg #[.int .i64 (K : Int), .int .i64 (sK : Int), .int .i64 (tK : Int), .slice A k c, .int .i64 n.hold], .slice SA k sc, .int .i64 v] W fun r w' => r = .returned (.int .i64 (netSum n.arcs f.am v)) ∧ Same noB W w') := fun W hs v => HZ.out W hs HCF.out.1 (HCF.out.small HOK.out) v
        clear HZ HC
        go_wp2_with fail
        go_loopw [6] (fun i wr => ∃ q : Nat, q ≤ K ∧ i = .int .i64 q ∧ Hid (MidK n f.am q) ∧ Hid (Blk wr N 24 #[.int .i64 (K : Int), .int .i64 (sK : Int), .int .i64 (tK : Int), .slice A k c, .int .i64 n.hold]) ∧ Hid (Blk wr F 29 #[.int .i64 f.value, .slice SA k sc, .slice f.ss.addr f.ss.len f.ss.cap]) ∧ Hid (Same noB w wr)) (fun i _ => K - (intOf i).toNat)
        case atStart => exact ⟨0, Nat.zero_le _, rfl, fun v hv => absurd hv (Nat.not_lt_zero _), HN.out, HF.out, HS.out⟩
        case round =>
          clear HN HF HS x3 f1
          obtain ⟨q, hq, rfl, HM, HN, HF, HS⟩ := hrel
          have x0 : wr.cell? ⟨N, 0, none⟩ = some (.int .i64 (K : Int)) := HN.out.cell 0
          have x1 : wr.cell? ⟨N, 1, none⟩ = some (.int .i64 (sK : Int)) := HN.out.cell 1
          have x2 : wr.cell? ⟨N, 2, none⟩ = some (.int .i64 (tK : Int)) := HN.out.cell 2
          have x3 : wr.cell? ⟨N, 3, none⟩ = some (.slice A k c) := HN.out.cell 3
          have x4 : wr.cell? ⟨N, 4, none⟩ = some (.int .i64 n.hold) := HN.out.cell 4
          have f1 : wr.cell? ⟨F, 1, none⟩ = some (.slice SA k sc) := HF.out.cell 1
          by_cases hlt : q < K
          · have hi1 : (q : Int) < (K : Int) := by omega
            by_cases h1 : q = sK
            · subst h1
              have HMN : Hid (MidK n f.am (q + 1)) := fun v hv h2 h3 => by
                by_cases e : v = q
                · subst e; exact absurd HSK.out.symm h2
                · exact HM.out v (by omega) h2 h3
              go_wp2_with fail
              go_roundw
              case rel => exact ⟨q + 1, by omega, by go_num, HMN.out, HN.out, HF.out, HS.out⟩
              case measure => simp [intOf]; omega
            · have b1 : ((q : Int) != (sK : Int)) = true := bne_iff_ne.2 (by omega)
              by_cases h2 : q = tK
              · subst h2
                have HMN : Hid (MidK n f.am (q + 1)) := fun v hv h3 h4 => by
                  by_cases e : v = q
                  · subst e; exact absurd HTK.out.symm h4
                  · exact HM.out v (by omega) h3 h4
                clear h1
                go_wp2_with fail
                go_roundw
                case rel => exact ⟨q + 1, by omega, by go_num, HMN.out, HN.out, HF.out, HS.out⟩
                case measure => simp [intOf]; omega
              · have b2 : ((q : Int) != (tK : Int)) = true := bne_iff_ne.2 (by omega)
                have HNE : Hid ((q : Int) ≠ n.source ∧ (q : Int) ≠ n.sink) := ⟨by rw [HSK.out]; omega, by rw [HTK.out]; omega⟩
                clear h1 h2
                go_wp2_with fail
                (with_reducible refine Calls.mono (HZN.out _ HS.out (q : Int)) ?_)
                clear x0 x1 x2 x3 x4 f1
                rintro r W3 ⟨rfl, hs1⟩
                replace HN := Lib.hid (HN.out.same hs1 (fun x => x))
                replace HF := Lib.hid (HF.out.same hs1 (fun x => x))
                replace HS := Lib.hid (HS.out.trans' hs1)
                clear hs1
                obtain ⟨x, hx⟩ : ∃ x, netSum n.arcs f.am (q : Int) = x := ⟨_, rfl⟩
                rw [hx]
                have HX := Lib.hid hx
                clear hx
                by_cases h3 : x = 0
                · have HMN : Hid (MidK n f.am (q + 1)) := fun v hv h4 h5 => by
                    by_cases e : v = q
                    · subst e; exact HX.out.trans h3
                    · exact HM.out v (by omega) h4 h5
                  subst h3
                  go_wp2_with fail
                  go_roundw
                  case rel => exact ⟨q + 1, by omega, by go_num, HMN.out, HN.out, HF.out, HS.out⟩
                  case measure => simp [intOf]; omega
                · have HNC : Hid (¬ IsFl n f.am f.value) := fun hc => h3 (by
                    have := hc.mid (q : Int) (by omega) (by have := HKN.out; omega) HNE.out.1 HNE.out.2
                    rw [← HX.out]
                    exact this)
                  have b3 : (x != 0) = true := bne_iff_ne.2 h3
                  clear h3
                  go_wp2_with fail
                  go_ret
                  exact ⟨false, rfl, ⟨fun h => absurd h (by decide), fun h => absurd h HNC.out⟩, HS.out⟩
          · obtain rfl : q = K := by omega
            obtain ⟨x, hx⟩ : ∃ x, netSum n.arcs f.am (sK : Int) = x := ⟨_, rfl⟩
            have HX := Lib.hid hx
            have HFI : Hid ((x == f.value) = true ↔ IsFl n f.am f.value) := by
              show _ ↔ _
              rw [beq_iff_eq]
              constructor
              · intro e
                exact ⟨HCF.out, fun v h1 h2 h3 h4 => by
                  obtain ⟨u, rfl⟩ : ∃ u : Nat, v = (u : Int) := ⟨v.toNat, by omega⟩
                  exact HM.out u (by have := HKN.out; omega) h3 h4, by rw [HSK.out, HX.out]; exact e⟩
              · intro hf
                rw [← HX.out, ← HSK.out]
                exact hf.src
            clear hx x1 x2 x3 x4 f1
            go_upto_region 13 with (fail)
            refine wp_region_T (S := IsfS N F q sK tK A SA k c k sc n f) (late := fun j => [].contains j) (by kernel_rfl) ?_ (fun hHeld => ?_)
            · exact ⟨HN.out.cell 0, HN.out.cell 1, HN.out.cell 2, HN.out.cell 3, HN.out.cell 4, HF.out.cell 0, HF.out.cell 1⟩
            refine T_take (i := 0) (v := ?va0) rfl (by kernel_rfl) (by kernel_rfl) (by kernel_rfl) (by kernel_rfl) (fun _ _ _ h => h) (Or.inl ⟨?_, ?_⟩) (by assumption) ?_
            rotate_left 1
            · rfl
            · (intro w hSw; unfold IsfS at hSw; go_simp; (try with_reducible rfl))
            go_simp
            refine T_pure (i := 1) (v := ?va1) rfl (by kernel_rfl) (by kernel_rfl) (by kernel_rfl) (fun _ _ _ h => h) (Or.inl ⟨?_, ?_⟩) ?_
            rotate_left 1
            · rfl
            · (intro w hSw; clear hSw; go_simp; (try with_reducible rfl))
            go_simp
            refine T_take (i := 2) (v := ?va2) rfl (by kernel_rfl) (by kernel_rfl) (by kernel_rfl) (by kernel_rfl) (fun _ _ _ h => h) (Or.inl ⟨?_, ?_⟩) (by assumption) ?_
            rotate_left 1
            · rfl
            · (intro w hSw; unfold IsfS at hSw; go_simp; (try with_reducible rfl))
            go_simp
            refine T_pure (i := 3) (v := ?va3) rfl (by kernel_rfl) (by kernel_rfl) (by kernel_rfl) (fun _ _ _ h => h) (Or.inl ⟨?_, ?_⟩) ?_
            rotate_left 1
            · rfl
            · (intro w hSw; clear hSw; go_simp; (try with_reducible rfl))
            go_simp
            refine T_take (i := 4) (v := ?va4) rfl (by kernel_rfl) (by kernel_rfl) (by kernel_rfl) (by kernel_rfl) (fun _ _ _ h => h) (Or.inl ⟨?_, ?_⟩) (by assumption) ?_
            rotate_left 1
            · rfl
            · (intro w hSw; unfold IsfS at hSw; go_simp; (try with_reducible rfl))
            go_simp
            refine T_pure (i := 6) (v := ?va6) rfl (by kernel_rfl) (by kernel_rfl) (by kernel_rfl) (fun _ _ _ h => h) (Or.inl ⟨?_, ?_⟩) ?_
            rotate_left 1
            · rfl
            · (intro w hSw; clear hSw; go_simp; (try with_reducible rfl))
            go_simp
            refine T_take (i := 7) (v := ?va7) rfl (by kernel_rfl) (by kernel_rfl) (by kernel_rfl) (by kernel_rfl) (fun _ _ _ h => h) (Or.inl ⟨?_, ?_⟩) (by assumption) ?_
            rotate_left 1
            · rfl
            · (intro w hSw; unfold IsfS at hSw; go_simp; (try with_reducible rfl))
            go_simp
            refine T_ready (rs := [5]) (by kernel_rfl) (by simp) ?_
            refine ReadyT.early rfl (fun K hK => ?_) ReadyT.nil
            go_simp
            (with_reducible refine Calls.mono (HZN.out _ HS.out.drew (sK : Int)) ?_)
            rintro r W3 ⟨rfl, hs1⟩
            rw [HX.out]
            replace hs1 := ((Same.refl noB _).drew).trans' hs1
            replace HN := Lib.hid (HN.out.same hs1 (fun x => x))
            replace HF := Lib.hid (HF.out.same hs1 (fun x => x))
            replace HS := Lib.hid (HS.out.trans' hs1)
            clear hs1
            clear hHeld
            go_wp2_with fail
            refine hK.out _ _ ?_ (fun hHeld => ?_)
            · exact ⟨HN.out.cell 0, HN.out.cell 1, HN.out.cell 2, HN.out.cell 3, HN.out.cell 4, HF.out.cell 0, HF.out.cell 1⟩
            clear hK K
            refine T_pure (i := 8) (v := ?va8) rfl (by kernel_rfl) (by kernel_rfl) (by kernel_rfl) (fun _ _ _ h => h) (Or.inl ⟨?_, ?_⟩) ?_
            rotate_left 1
            · rfl
            · (intro w hSw; clear hSw; go_simp; (try with_reducible rfl))
            go_simp
            refine T_pure (i := 9) (v := ?va9) rfl (by kernel_rfl) (by kernel_rfl) (by kernel_rfl) (fun _ _ _ h => h) (Or.inl ⟨?_, ?_⟩) ?_
            rotate_left 1
            · rfl
            · (intro w hSw; clear hSw; go_simp; (try with_reducible rfl))
            go_simp
            refine T_done (by kernel_rfl) ?_ _
            go_wp2_with fail
            go_ret
            exact ⟨_, rfl, HFI.out, HS.out⟩
  · have HNC : Hid (¬ IsFl n f.am f.value) := fun hc => by
      have h1 := hc.cap.1
      have h2 := HL.out
      have h3 := HSL.out
      omega
    have hne : ¬ (sm : Int) = (m : Int) := by omega
    clear hsm
    go_wp2_with fail
    go_ret
    exact ⟨false, rfl, ⟨fun h => absurd h (by decide), fun h => absurd h HNC.out⟩, HS.out⟩
end Go.Proofs.Ytpalacfgpcpppaa
