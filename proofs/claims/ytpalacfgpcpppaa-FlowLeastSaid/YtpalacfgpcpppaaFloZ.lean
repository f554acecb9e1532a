/- Layer 10: Least of the reference. -/
import Derived.Test.YtpalacfgpcpppaaFloE
import Derived.Test.YtpalacfgpcpppaaFloN
import Derived.Test.YtpalacfgpcpppaaFloQ
namespace Go.Proofs.Ytpalacfgpcpppaa
open Go Go.RowKit
set_option maxRecDepth 100000

def bitK (k v : Nat) : Bool := k / 2 ^ v % 2 == 1
theorem bits_one : ∀ y : Fin 256, (bits BinOp.and IntKind.i64 (y.val : Int) 1 == 1) = (y.val % 2 == 1) := by decide +kernel
theorem bitK_run {k v : Nat} (hk : k < 256) : (bits BinOp.and IntKind.i64 ((k : Int) / 2 ^ v) 1 == 1) = bitK k v := by
  have h1 : (k : Int) / 2 ^ v = ((k / 2 ^ v : Nat) : Int) := by
    rw [Int.natCast_ediv, Int.natCast_pow]
    rfl
  have h2 : k / 2 ^ v < 256 := Nat.lt_of_le_of_lt (Nat.div_le_self _ _) hk
  rw [h1]
  exact bits_one ⟨k / 2 ^ v, h2⟩
/-- The side that number k says. -/
def bitsL (K k : Nat) : List Bool := (List.range K).map (bitK k)
def rowK (K k v : Nat) : List Bool := (List.range K).map (fun u => if u < v then bitK k u else false)
theorem rowK_zero (K k : Nat) : rowK K k 0 = List.replicate K false := by
  unfold rowK
  refine List.ext_getElem (by simp) (fun i h1 h2 => ?_)
  simp
theorem rowK_all (K k : Nat) : rowK K k K = bitsL K k := by
  unfold rowK bitsL
  refine List.ext_getElem (by simp) (fun i h1 h2 => ?_)
  simp at h1 ⊢
  intro h
  omega
theorem rowK_next {K k v : Nat} (hv : v < K) : (rowK K k v).set v (bitK k v) = rowK K k (v + 1) := by
  refine List.ext_getElem? (fun i => ?_)
  by_cases hi : i < K
  · by_cases e : v = i
    · subst e
      rw [List.getElem?_set_self (by unfold rowK; simpa using hv)]
      unfold rowK
      simp [hi]
    · rw [List.getElem?_set_ne e]
      unfold rowK
      simp only [List.getElem?_map, List.getElem?_range hi, Option.map_some]
      have : i < v ↔ i < v + 1 := by omega
      simp [this]
  · rw [List.getElem?_eq_none (by unfold rowK; simp; omega), List.getElem?_eq_none (by unfold rowK; simp; omega)]
def encB : List Bool → Nat
  | [] => 0
  | b :: l => (if b then 1 else 0) + 2 * encB l
theorem encB_lt : ∀ l : List Bool, encB l < 2 ^ l.length
  | [] => by simp [encB]
  | b :: l => by
    have := encB_lt l
    simp only [encB, List.length_cons, Nat.pow_succ]
    split <;> omega
theorem bitK_enc : ∀ (l : List Bool) (v : Nat), v < l.length → some (bitK (encB l) v) = l[v]?
  | [], v, h => by simp at h
  | b :: l, 0, _ => by
    simp only [encB, bitK, Nat.pow_zero, Nat.div_one, List.getElem?_cons_zero]
    congr 1
    cases b
    · simp
    · simp
  | b :: l, v + 1, h => by
    have ih := bitK_enc l v (by simpa using h)
    rw [List.getElem?_cons_succ, ← ih]
    congr 1
    unfold bitK
    simp only [encB]
    have h1 : ((if b = true then 1 else 0) + 2 * encB l) / 2 ^ (v + 1) = encB l / 2 ^ v := by
      rw [Nat.pow_succ', ← Nat.div_div_eq_div_mul]
      congr 1
      split <;> omega
    rw [h1]
theorem bitsL_enc (l : List Bool) : bitsL l.length (encB l) = l := by
  refine List.ext_getElem? (fun i => ?_)
  by_cases hi : i < l.length
  · rw [← bitK_enc l i hi]
    unfold bitsL
    simp [hi]
  · rw [List.getElem?_eq_none (by unfold bitsL; simp; omega), List.getElem?_eq_none (by omega)]
def CutL (n : NetV) (l : List Bool) : Prop := inB l n.source = true ∧ inB l n.sink = false
/-- The least capacity of the cuts up to number k. -/
structure LstI (n : NetV) (K k : Nat) (best : Int) : Prop where
  is : best = -1 ∨ ∃ i, i < k ∧ CutL n (bitsL K i) ∧ capSum (bitsL K i) n.arcs = best
  all : ∀ i, i < k → CutL n (bitsL K i) → 0 ≤ best ∧ best ≤ capSum (bitsL K i) n.arcs
theorem LstI.zero (n : NetV) (K : Nat) : LstI n K 0 (-1) := ⟨.inl rfl, fun _ hi => absurd hi (Nat.not_lt_zero _)⟩
theorem LstI.skip {n : NetV} {K k : Nat} {best : Int} (h : LstI n K k best) (hc : ¬ CutL n (bitsL K k)) : LstI n K (k + 1) best := by
  refine ⟨h.is.imp id (fun ⟨i, a, b⟩ => ⟨i, by omega, b⟩), fun i hi hcut => ?_⟩
  by_cases e : i = k
  · subst e; exact absurd hcut hc
  · exact h.all i (by omega) hcut
theorem LstI.keep {n : NetV} {K k : Nat} {best : Int} (h : LstI n K k best) (h0 : 0 ≤ best) (hle : best ≤ capSum (bitsL K k) n.arcs) : LstI n K (k + 1) best := by
  refine ⟨h.is.imp id (fun ⟨i, a, b⟩ => ⟨i, by omega, b⟩), fun i hi hcut => ?_⟩
  by_cases e : i = k
  · subst e; exact ⟨h0, hle⟩
  · exact h.all i (by omega) hcut
theorem LstI.take {n : NetV} {K k : Nat} {best c : Int} (h : LstI n K k best) (hcut : CutL n (bitsL K k)) (hc : capSum (bitsL K k) n.arcs = c) (hc0 : 0 ≤ c) (hlt : best < 0 ∨ c < best) : LstI n K (k + 1) c := by
  refine ⟨.inr ⟨k, by omega, hcut, hc⟩, fun i hi hcut => ?_⟩
  by_cases e : i = k
  · subst e; exact ⟨hc0, by omega⟩
  · have := h.all i (by omega) hcut
    exact ⟨hc0, by omega⟩
theorem least_max {n : NetV} (hok : n.Ok) {am : List Int} {val best : Int} (h : MaxIs n am val) (hl : LstI n n.nodes.toNat (2 ^ n.nodes.toNat) best) : val = best := by
  have hlen := sideL_len n am
  have hcut : CutL n (sideL n am) := by
    refine ⟨?_, ?_⟩
    · rw [sideL_in hok am hok.source.1]; exact Option.isSome_iff_ne_none.2 (search_src hok am)
    · rw [sideL_in hok am hok.sink.1, h.stop]; rfl
  have he : bitsL n.nodes.toNat (encB (sideL n am)) = sideL n am := by rw [← hlen]; exact bitsL_enc _
  have h1 := hl.all (encB (sideL n am)) (by rw [← hlen]; exact encB_lt _) (by rw [he]; exact hcut)
  rw [he, ← max_cut hok h.flow h.stop] at h1
  rcases hl.is with e | ⟨i, _, hc, e⟩
  · omega
  · have := flow_weak hok h.flow (bitsL n.nodes.toNat i) hc.1 hc.2
    omega
theorem inB_bits {K k v : Nat} (hv : v < K) : inB (bitsL K k) (v : Int) = bitK k v := by
  unfold inB bitsL
  rw [Int.toNat_natCast, List.getD_eq_getElem?_getD, List.getElem?_map, List.getElem?_range hv]
  rfl
set_option maxHeartbeats 16000000 in
theorem rleast_any {w : World} {n : NetV} (h : NetIs w n) (hv : n.validB = true) (hn8 : n.nodes ≤ 8) :
    Calls Try.prog 16 #[n.val] w fun r w' => ∃ best, r = .returned (.int .i64 best) ∧ LstI n n.nodes.toNat (2 ^ n.nodes.toNat) best ∧ Same noB w w' := by
  have hok := NetV.validB_ok hv
  have HOK := Lib.hid hok
  obtain ⟨K, hK⟩ : ∃ K : Nat, n.nodes = (K : Int) := ⟨n.nodes.toNat, by have := hok.nodes; omega⟩
  have hKb : K ≤ 8 := by omega
  obtain ⟨sK, hsK⟩ : ∃ sK : Nat, n.source = (sK : Int) := ⟨n.source.toNat, by have := hok.source; omega⟩
  obtain ⟨tK, htK⟩ : ∃ tK : Nat, n.sink = (tK : Int) := ⟨n.sink.toNat, by have := hok.sink; omega⟩
  have hsb : sK < K := by have := hok.source; omega
  have htb : tK < K := by have := hok.sink; omega
  have hZ := fun (W : World) (hs : Same noB w W) (s : Sl) (side : List Bool) (hb : IsBo W noB s side) => rcap_any (h.keep hs) hv hb
  have HSK := Lib.hid hsK
  have HTK := Lib.hid htK
  unfold NetV.val at hZ ⊢
  rw [hK, Int.toNat_natCast]
  rw [hsK, htK] at hZ ⊢
  rw [hK] at hZ
  have HZ := Lib.hid hZ
  obtain ⟨E, hE⟩ : ∃ E : Nat, 2 ^ K = E := ⟨_, rfl⟩
  have hEb : E ≤ 256 := by
    rw [← hE]
    exact Nat.le_trans (Nat.pow_le_pow_right (by decide) hKb) (by decide)
  have hwE : IntKind.i64.wrap ((2 : Int) ^ K) = (E : Int) := by
    have e : (2 : Int) ^ K = (E : Int) := by rw [← hE, Int.natCast_pow]; rfl
    rw [e]
    exact IntWalk.i64_in _ (by omega)
  rw [hE]
  clear h hv hok hZ hsK htK hK hE hn8
  have hm1 := fun w => make27 K (by omega) w
  go_enter Try.func16, Try.ntmps16
  go_upto_region 1 with (fail)
  refine wp_abs (fun W => Hid (Blk W w.heap.size 24 #[.int .i64 (K : Int), .int .i64 (sK : Int), .int .i64 (tK : Int), .slice n.sl.addr n.sl.len n.sl.cap, .int .i64 n.hold]) ∧ Hid (Same noB w W)) ⟨Blk.new w 24 _, (Same.refl _ _).alloc _⟩ ?_
  rintro W0 ⟨HN, HS⟩
  obtain ⟨N, hN⟩ : ∃ N, w.heap.size = N := ⟨_, rfl⟩
  rw [hN] at HN ⊢
  clear hN
  go_wp2_with fail
  go_loopg [3, 4] (E) (fun gk s q wr => ∃ (k : Nat) (best : Int), k ≤ E ∧ Hid (gk + k = E) ∧ q = .int .i64 k ∧ s = .int .i64 best ∧ Hid (LstI n K k best) ∧ Hid (Blk wr N 24 #[.int .i64 (K : Int), .int .i64 (sK : Int), .int .i64 (tK : Int), .slice n.sl.addr n.sl.len n.sl.cap, .int .i64 n.hold]) ∧ Hid (Same noB w wr))
  case atStart => exact ⟨0, -1, Nat.zero_le _, rfl, rfl, rfl, LstI.zero n K, HN.out, HS.out⟩
  case round =>
    clear HN HS
    obtain ⟨k, best, hk, HK, rfl, rfl, HL, HN, HS⟩ := hrel
    have x0 : wr.cell? ⟨N, 0, none⟩ = some (.int .i64 (K : Int)) := HN.out.cell 0
    by_cases hlt : k < E
    · have hi1 : (k : Int) < (E : Int) := by omega
      have HG0 := Lib.hid (Blk.new wr 4 (bcells (List.replicate K false)).toArray)
      go_upto_region 6 with (fail)
      refine wp_abs (fun W => Hid (Blk W wr.heap.size 4 (bcells (List.replicate K false)).toArray) ∧ Hid (Blk W N 24 #[.int .i64 (K : Int), .int .i64 (sK : Int), .int .i64 (tK : Int), .slice n.sl.addr n.sl.len n.sl.cap, .int .i64 n.hold]) ∧ Hid (Same noB w W) ∧ Hid (w.heap.size ≤ wr.heap.size)) ⟨HG0.out, HN.out.alloc _, HS.out.alloc _, HS.out.size⟩ ?_
      clear HG0 HN HS x0
      rintro W1 ⟨HG, HN, HS, HGL⟩
      obtain ⟨G, hG⟩ : ∃ G, wr.heap.size = G := ⟨_, rfl⟩
      rw [hG] at HG HGL ⊢
      clear hG
      have HKK := HK
      clear HK
      go_wp2_with fail
      go_loopw [6] (fun i wr => ∃ v : Nat, v ≤ K ∧ i = .int .i64 v ∧ Hid (Blk wr G 4 (bcells (rowK K k v)).toArray) ∧ Hid (Blk wr N 24 #[.int .i64 (K : Int), .int .i64 (sK : Int), .int .i64 (tK : Int), .slice n.sl.addr n.sl.len n.sl.cap, .int .i64 n.hold]) ∧ Hid (Same noB w wr)) (fun i _ => K - (intOf i).toNat)
      case atStart => exact ⟨0, Nat.zero_le _, rfl, by rw [rowK_zero]; exact HG.out, HN.out, HS.out⟩
      case round =>
        clear HG HN HS
        obtain ⟨v, hv, rfl, HG, HN, HS⟩ := hrel
        have x0 : wr.cell? ⟨N, 0, none⟩ = some (.int .i64 (K : Int)) := HN.out.cell 0
        by_cases hlt2 : v < K
        · have hv1 : (v : Int) < (K : Int) := by omega
          have hv0 : (0 : Int) ≤ (v : Int) := by omega
          have hv64 : (v : Int) ≤ 64 := by omega
          have hb1 := bitK_run (k := k) (v := v) (by omega)
          have l1 := HG.out.lt
          have z1 := HG.out.frozen v
          obtain ⟨q, hq⟩ : ∃ q, (rowK K k v)[v]? = some q := ⟨_, List.getElem?_eq_getElem (by unfold rowK; simpa using hlt2)⟩
          have g1 : wr.cell? ⟨G, v, none⟩ = some (.bool q) := by rw [HG.out.cell]; simpa using bcells_at hq
          have HG2 : Hid (Blk (wr.setCell ⟨G, v, none⟩ (.bool (bitK k v))) G 4 (bcells (rowK K k (v + 1))).toArray) := by
            show Blk _ _ _ _
            rw [← rowK_next hlt2, ← bcells_set]
            exact HG.out.set_ v _
          have hs2 : Same (oneB G) wr (wr.setCell ⟨G, v, none⟩ (.bool (bitK k v))) := (Same.refl _ _).set1 v _
          have HN2 := Lib.hid (HN.out.same hs2 (fun e => HN.out.ne_ HG.out (by decide) e))
          have HS2 := Lib.hid (HS.out.trans hs2 (fun b hb e => by have h3 : b = G := e; have := HGL.out; omega))
          clear HG HN HS hs2 hq
          go_wp2_with fail
          go_roundw
          case rel => exact ⟨v + 1, by omega, by go_num, HG2.out, HN2.out, HS2.out⟩
          case measure => simp [intOf]; omega
        · obtain rfl : v = K := by omega
          have HGB : Hid (Blk wr G 4 (bcells (bitsL v k)).toArray) := by show Blk _ _ _ _; rw [← rowK_all]; exact HG.out
          have x1 : wr.cell? ⟨N, 1, none⟩ = some (.int .i64 (sK : Int)) := HN.out.cell 1
          have x2 : wr.cell? ⟨N, 2, none⟩ = some (.int .i64 (tK : Int)) := HN.out.cell 2
          have x3 : wr.cell? ⟨N, 3, none⟩ = some (.slice n.sl.addr n.sl.len n.sl.cap) := HN.out.cell 3
          have x4 : wr.cell? ⟨N, 4, none⟩ = some (.int .i64 n.hold) := HN.out.cell 4
          have hat : ∀ u : Nat, u < v → wr.cell? ⟨G, u, none⟩ = some (.bool (bitK k u)) := fun u hu => by
            rw [HGB.out.cell]
            have : (bitsL v k)[u]? = some (bitK k u) := by unfold bitsL; simp [hu]
            simpa using bcells_at this
          have b0 := hat sK hsb
          have b1 := hat tK htb
          have hi0 : (0 : Int) ≤ (sK : Int) := by omega
          have hi2 : (sK : Int) < (v : Int) := by omega
          have hi3 : (0 : Int) ≤ (tK : Int) := by omega
          have hi4 : (tK : Int) < (v : Int) := by omega
          have HI1 : Hid (inB (bitsL v k) n.source = bitK k sK) := by show _ = _; rw [HSK.out]; exact inB_bits hsb
          have HI2 : Hid (inB (bitsL v k) n.sink = bitK k tK) := by show _ = _; rw [HTK.out]; exact inB_bits htb
          clear HG hat
          cases hp : bitK k sK with
          | false =>
            rw [hp] at b0 HI1
            have HLN : Hid (LstI n v (k + 1) best) := HL.out.skip (fun hc => by have h1 := hc.1; rw [HI1.out] at h1; cases h1)
            clear hp
            go_wp2_with fail
            go_roundg (gk - 1)
            case measure => have h1 := HKK.out; omega
            case rel => exact ⟨k + 1, _, by omega, by show _ = _; have h1 := HKK.out; omega, by go_num, rfl, HLN.out, HN.out, HS.out⟩
          | true =>
            rw [hp] at b0 HI1
            clear hp
            cases hq : bitK k tK with
            | true =>
              rw [hq] at b1 HI2
              have HLN : Hid (LstI n v (k + 1) best) := HL.out.skip (fun hc => by have h1 := hc.2; rw [HI2.out] at h1; cases h1)
              clear hq
              go_wp2_with fail
              go_roundg (gk - 1)
              case measure => have h1 := HKK.out; omega
              case rel => exact ⟨k + 1, _, by omega, by show _ = _; have h1 := HKK.out; omega, by go_num, rfl, HLN.out, HN.out, HS.out⟩
            | false =>
              rw [hq] at b1 HI2
              have HCUT : Hid (CutL n (bitsL v k)) := ⟨HI1.out, HI2.out⟩
              have hblen : (bitsL v k).length = v := by unfold bitsL; simp
              have hbo : IsBo wr noB ⟨some ⟨G, 0, none⟩, v, v⟩ (bitsL v k) := ⟨hblen.symm, Rd.of_blk HGB.out (fun x => x) (by unfold bcells; simp [hblen]) (Nat.le_refl _) (by simp [maxLen]; omega)⟩
              have HZ1 := Lib.hid (HZ.out wr HS.out _ _ hbo)
              have HC0 : Hid (0 ≤ capSum (bitsL v k) n.arcs) := (capSum_small (bitsL v k) HOK.out.arcs).1
              clear hq hbo hblen
              go_wp2_with fail
              (with_reducible refine Calls.mono HZ1.out ?_)
              clear HZ1 x0 x1 x2 x3 x4 b0 b1
              rintro r W3 ⟨rfl, hs1⟩
              replace HN := Lib.hid (HN.out.same hs1 (fun x => x))
              replace HS := Lib.hid (HS.out.trans' hs1)
              clear hs1
              obtain ⟨cc, hcc⟩ : ∃ cc, capSum (bitsL v k) n.arcs = cc := ⟨_, rfl⟩
              rw [hcc] at HC0 ⊢
              have HCC := Lib.hid hcc
              clear hcc
              by_cases h1 : best < 0
              · have d1 : decide (best < 0) = true := decide_eq_true h1
                have HLN : Hid (LstI n v (k + 1) cc) := HL.out.take HCUT.out HCC.out HC0.out (.inl h1)
                clear h1
                go_wp2_with fail
                go_roundg (gk - 1)
                case measure => have h1 := HKK.out; omega
                case rel => exact ⟨k + 1, _, by omega, by show _ = _; have h1 := HKK.out; omega, by go_num, rfl, HLN.out, HN.out, HS.out⟩
              · have d1 : decide (best < 0) = false := decide_eq_false h1
                by_cases h2 : cc < best
                · have d2 : decide (cc < best) = true := decide_eq_true h2
                  have HLN : Hid (LstI n v (k + 1) cc) := HL.out.take HCUT.out HCC.out HC0.out (.inr h2)
                  clear h1 h2
                  go_wp2_with fail
                  go_roundg (gk - 1)
                  case measure => have h1 := HKK.out; omega
                  case rel => exact ⟨k + 1, _, by omega, by show _ = _; have h1 := HKK.out; omega, by go_num, rfl, HLN.out, HN.out, HS.out⟩
                · have d2 : decide (cc < best) = false := decide_eq_false h2
                  have HLN : Hid (LstI n v (k + 1) best) := HL.out.keep (by omega) (by rw [HCC.out]; omega)
                  clear h1 h2
                  go_wp2_with fail
                  go_roundg (gk - 1)
                  case measure => have h1 := HKK.out; omega
                  case rel => exact ⟨k + 1, _, by omega, by show _ = _; have h1 := HKK.out; omega, by go_num, rfl, HLN.out, HN.out, HS.out⟩
    · obtain rfl : k = E := by omega
      go_wp2_with fail
      go_ret
      exact ⟨best, rfl, HL.out, HS.out⟩
end Go.Proofs.Ytpalacfgpcpppaa
