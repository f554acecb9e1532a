/- Layer 10: flows and Check of the program. -/
import Derived.Test.YtpalacfgpcpppaaFloS
import Derived.BigQuiet
namespace Go.Proofs.Ytpalacfgpcpppaa
open Go Go.RowKit
set_option maxRecDepth 100000

/-- The middle nodes up to k bear nothing. -/
def MidK (n : NetV) (am : List Int) (k : Nat) : Prop := ∀ v : Nat, v < k → (v : Int) ≠ n.source → (v : Int) ≠ n.sink → netSum n.arcs am (v : Int) = 0
set_option maxHeartbeats 16000000 in
theorem flows_any {w : World} {n : NetV} {f : FlowV} (h : NetIs w n) (hv : n.validB = true) (hf : FlowIs w f) :
    Calls Try.prog 39 #[n.val, f.val] w fun r w' => ∃ b, r = .returned (.bool b) ∧ (b = true ↔ IsFl n f.am f.value) ∧ Same noB w w' := by
  have hok := NetV.validB_ok hv
  have HOK := Lib.hid hok
  obtain ⟨K, hK⟩ : ∃ K : Nat, n.nodes = (K : Int) := ⟨n.nodes.toNat, by have := hok.nodes; omega⟩
  have hKb : K ≤ 400 := by have := hok.nodes; omega
  have HKN := Lib.hid hK
  have hZ := fun (W : World) (hs : Same noB w W) => bal_any (h.keep hs) hv (hf.a.keep hs)
  rw [show n.nodes.toNat = K by omega] at hZ
  obtain ⟨sK, hsK⟩ : ∃ sK : Nat, n.source = (sK : Int) := ⟨n.source.toNat, by have := hok.source; omega⟩
  have hsb : sK < K := by have := hok.source; omega
  have HSK := Lib.hid hsK
  obtain ⟨tK, htK⟩ : ∃ tK : Nat, n.sink = (tK : Int) := ⟨n.sink.toNat, by have := hok.sink; omega⟩
  have HTK := Lib.hid htK
  unfold NetV.val at hZ ⊢
  unfold FlowV.val
  rw [hsK, htK] at hZ ⊢
  have HZV := Lib.hid hZ
  clear h hv hf hok hZ hK hsK htK
  go_enter Try.func39, Try.ntmps39
  go_upto_region 1 with (fail)
  have HN0 := Lib.hid (Blk.new w 24 #[.int .i64 n.nodes, .int .i64 (sK : Int), .int .i64 (tK : Int), .slice n.sl.addr n.sl.len n.sl.cap, .int .i64 n.hold])
  have HF0 := Lib.hid (Blk.new (w.alloc (.cells #[.int .i64 n.nodes, .int .i64 (sK : Int), .int .i64 (tK : Int), .slice n.sl.addr n.sl.len n.sl.cap, .int .i64 n.hold] 24)) 29 #[.int .i64 f.value, .slice f.sa.addr f.sa.len f.sa.cap, .slice f.ss.addr f.ss.len f.ss.cap])
  rw [World.size_alloc] at HF0
  refine wp_abs (fun W => Hid (Blk W w.heap.size 24 #[.int .i64 n.nodes, .int .i64 (sK : Int), .int .i64 (tK : Int), .slice n.sl.addr n.sl.len n.sl.cap, .int .i64 n.hold]) ∧ Hid (Blk W (w.heap.size + 1) 29 #[.int .i64 f.value, .slice f.sa.addr f.sa.len f.sa.cap, .slice f.ss.addr f.ss.len f.ss.cap]) ∧ Hid (Same noB w W)) ⟨HN0.out.alloc _, HF0.out, ((Same.refl _ _).alloc _).alloc _⟩ ?_
  clear HN0 HF0
  rintro W0 ⟨HN, HF, HS⟩
  obtain ⟨N, hN⟩ : ∃ N, w.heap.size = N := ⟨_, rfl⟩
  obtain ⟨F, hF⟩ : ∃ F, N + 1 = F := ⟨_, rfl⟩
  rw [hN] at HN HF ⊢
  rw [hF] at HF ⊢
  clear hN hF
  have x0 : W0.cell? ⟨N, 0, none⟩ = some (.int .i64 n.nodes) := HN.out.cell 0
  have x1 : W0.cell? ⟨N, 1, none⟩ = some (.int .i64 (sK : Int)) := HN.out.cell 1
  have x2 : W0.cell? ⟨N, 2, none⟩ = some (.int .i64 (tK : Int)) := HN.out.cell 2
  have x3 : W0.cell? ⟨N, 3, none⟩ = some (.slice n.sl.addr n.sl.len n.sl.cap) := HN.out.cell 3
  have x4 : W0.cell? ⟨N, 4, none⟩ = some (.int .i64 n.hold) := HN.out.cell 4
  have f1 : W0.cell? ⟨F, 1, none⟩ = some (.slice f.sa.addr f.sa.len f.sa.cap) := HF.out.cell 1
  have HZ := Lib.hid (HZV.out W0 HS.out)
  clear HZV
  go_wp2_with fail
  (with_reducible refine Calls.mono HZ.out ?_)
  clear HZ x0 x1 x2 x3 x4 f1
  rintro r W1 ⟨s, ok, rfl, HT, HFS, hs1⟩
  replace HN := Lib.hid (HN.out.same hs1 (fun x => x))
  replace HF := Lib.hid (HF.out.same hs1 (fun x => x))
  replace HS := Lib.hid (HS.out.trans' hs1)
  clear hs1
  obtain ⟨S, sm, sc⟩ := s
  dsimp only
  cases ok with
  | false =>
    obtain ⟨hnc, he⟩ := HFS rfl
    injection he with e1 e2 e3
    subst e1 e2 e3
    have HNC : Hid (¬ IsFl n f.am f.value) := fun hc => hnc hc.cap
    clear HT HFS hnc
    go_wp2_with fail
    go_loopw [18] (fun i wr => i = .int .i64 0 ∧ Hid (Same noB w wr)) (fun i _ => 0)
    case atStart => exact ⟨rfl, HS.out⟩
    case round =>
      clear HS HN HF
      obtain ⟨rfl, HS⟩ := hrel
      go_wp2_with fail
      go_quiet (fail)
      go_wp2_with fail
      go_ret
      exact ⟨false, rfl, ⟨fun h => absurd h (by decide), fun h => absurd h HNC.out⟩, HS.out.drewN _⟩
  | true =>
    obtain ⟨hc, hI⟩ := HT rfl
    have HC := Lib.hid hc
    have hlen : sm = K := by have := hI.1; simp [outL] at this; exact this
    have hcaps := hI.2.caps
    simp only at hcaps
    subst hlen
    have HI : Hid (Rd W1 noB 1 (.slice S sm sc) sm (icells (outL sm n.arcs f.am))) := hI.2
    clear HT HFS hc hI
    go_wp2_with fail
    go_loopw [18] (fun i wr => ∃ k : Nat, k ≤ sm ∧ i = .int .i64 k ∧ Hid (MidK n f.am k) ∧ Hid (Same noB w wr) ∧ Hid (Same noB W1 wr)) (fun i _ => sm - (intOf i).toNat)
    case atStart => exact ⟨0, Nat.zero_le _, rfl, fun v hv => absurd hv (Nat.not_lt_zero _), HS.out, Same.refl _ _⟩
    case round =>
      clear HS
      obtain ⟨k, hk, rfl, HM, HS, HS1⟩ := hrel
      replace HN := Lib.hid (HN.out.same HS1.out (fun x => x))
      replace HF := Lib.hid (HF.out.same HS1.out (fun x => x))
      have x1 : wr.cell? ⟨N, 1, none⟩ = some (.int .i64 (sK : Int)) := HN.out.cell 1
      have x2 : wr.cell? ⟨N, 2, none⟩ = some (.int .i64 (tK : Int)) := HN.out.cell 2
      by_cases hlt : k < sm
      · obtain ⟨b, o, rfl, r⟩ := (HI.out.keep HS1.out).at_ (by omega)
        have a0 := r.cell k _ (icells_at (outL_at (arcs := n.arcs) (am := f.am) hlt))
        have hi0 : (0 : Int) ≤ (k : Int) := by omega
        have hi1 : (k : Int) < (sm : Int) := by omega
        obtain ⟨x, hx⟩ : ∃ x, netSum n.arcs f.am (k : Int) = x := ⟨_, rfl⟩
        rw [hx] at a0
        have HX := Lib.hid hx
        clear r hx
        by_cases h1 : k = sK
        · subst h1
          have HMN : Hid (MidK n f.am (k + 1)) := fun v hv h2 h3 => by
            by_cases e : v = k
            · subst e; exact absurd HSK.out.symm h2
            · exact HM.out v (by omega) h2 h3
          go_wp2_with fail
          go_roundw
          case rel => exact ⟨k + 1, by omega, by go_num, HMN.out, HS.out, HS1.out⟩
          case measure => simp [intOf]; omega
        · have h1' : ¬ (k : Int) = (sK : Int) := by omega
          by_cases h2 : k = tK
          · subst h2
            have HMN : Hid (MidK n f.am (k + 1)) := fun v hv h3 h4 => by
              by_cases e : v = k
              · subst e; exact absurd HTK.out.symm h4
              · exact HM.out v (by omega) h3 h4
            go_wp2_with fail
            go_roundw
            case rel => exact ⟨k + 1, by omega, by go_num, HMN.out, HS.out, HS1.out⟩
            case measure => simp [intOf]; omega
          · have h2' : ¬ (k : Int) = (tK : Int) := by omega
            by_cases h3 : x = 0
            · have HMN : Hid (MidK n f.am (k + 1)) := fun v hv h4 h5 => by
                by_cases e : v = k
                · subst e; exact HX.out.trans h3
                · exact HM.out v (by omega) h4 h5
              subst h3
              go_wp2_with fail
              go_roundw
              case rel => exact ⟨k + 1, by omega, by go_num, HMN.out, HS.out, HS1.out⟩
              case measure => simp [intOf]; omega
            · have HNC : Hid (¬ IsFl n f.am f.value) := fun hc => h3 (by
                have := hc.mid (k : Int) hi0 (by have := HKN.out; omega) (by rw [HSK.out]; exact h1') (by rw [HTK.out]; exact h2')
                rw [← HX.out]
                exact this)
              have b1 : ((k : Int) != (sK : Int)) = true := bne_iff_ne.2 h1'
              have b2 : ((k : Int) != (tK : Int)) = true := bne_iff_ne.2 h2'
              have b3 : (x != 0) = true := bne_iff_ne.2 h3
              clear h1 h1' h2 h2' h3
              go_wp2_with fail
              go_ret
              exact ⟨false, rfl, ⟨fun h => absurd h (by decide), fun h => absurd h HNC.out⟩, HS.out⟩
      · obtain rfl : k = sm := by omega
        obtain ⟨b, o, rfl, r⟩ := (HI.out.keep HS1.out).at_ (by omega)
        have a0 := r.cell sK _ (icells_at (outL_at (arcs := n.arcs) (am := f.am) hsb))
        have f0 : wr.cell? ⟨F, 0, none⟩ = some (.int .i64 f.value) := HF.out.cell 0
        have hi0 : (0 : Int) ≤ (sK : Int) := by omega
        have hi1 : (sK : Int) < (k : Int) := by omega
        obtain ⟨x, hx⟩ : ∃ x, netSum n.arcs f.am (sK : Int) = x := ⟨_, rfl⟩
        rw [hx] at a0
        have HX := Lib.hid hx
        have HFI : Hid ((x == f.value) = true ↔ IsFl n f.am f.value) := by
          show _ ↔ _
          rw [beq_iff_eq]
          constructor
          · intro e
            exact ⟨HC.out, fun v h1 h2 h3 h4 => by
              obtain ⟨u, rfl⟩ : ∃ u : Nat, v = (u : Int) := ⟨v.toNat, by omega⟩
              exact HM.out u (by have := HKN.out; omega) h3 h4, by rw [HSK.out, HX.out]; exact e⟩
          · intro hf
            rw [← HX.out, ← HSK.out]
            exact hf.src
        clear r hx
        go_wp2_with fail
        go_quiet (fail)
        go_wp2_with fail
        go_ret
        exact ⟨_, rfl, HFI.out, HS.out.drewN _⟩
end Go.Proofs.Ytpalacfgpcpppaa
