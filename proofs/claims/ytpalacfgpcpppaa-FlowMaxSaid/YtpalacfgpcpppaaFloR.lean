/- Layer 10: Capacity of the program. -/
import Derived.Test.YtpalacfgpcpppaaFloE
import Derived.Test.YtpalacfgpcpppaaFloB
namespace Go.Proofs.Ytpalacfgpcpppaa
open Go Go.RowKit
set_option maxRecDepth 100000

set_option maxHeartbeats 8000000 in
theorem cin38 {w : World} {bad : Nat → Prop} {s : Sl} {side : List Bool} {S : Nat} (h : IsBo w bad s side) (c1 : w.cell? ⟨S, 0, none⟩ = some (.slice s.addr s.len s.cap)) {v : Int} (hv : 0 ≤ v) :
    Calls Try.prog 38 #[.int .i64 v, .pointer (some ⟨S, 0, none⟩)] w fun r w' => r = .returned (.bool (inB side v)) ∧ Same noB w w' := by
  obtain ⟨A, m, c⟩ := s
  obtain ⟨hl, hr⟩ := h
  simp only at hl hr c1
  have hcaps := hr.caps
  obtain ⟨k, rfl⟩ : ∃ k : Nat, v = (k : Int) := ⟨v.toNat, by omega⟩
  unfold inB
  rw [Int.toNat_natCast]
  by_cases hlt : k < m
  · obtain ⟨b, o, rfl, r⟩ := hr.at_ (by omega)
    obtain ⟨x, hx⟩ : ∃ x, side[k]? = some x := ⟨_, List.getElem?_eq_getElem (by omega)⟩
    have c0 := r.cell k _ (bcells_at hx)
    have HF : Hid (side.getD k false = x) := by show _ = _; rw [List.getD_eq_getElem?_getD, hx]; rfl
    have hi1 : (k : Int) < (m : Int) := by omega
    rw [HF.out]
    clear r hr hl hx
    go_enter Try.func38, Try.ntmps38
    go_wp2_with fail
    go_ret
    exact ⟨rfl, Same.refl _ _⟩
  · have HF : Hid (side.getD k false = false) := by show _ = _; rw [List.getD_eq_getElem?_getD, List.getElem?_eq_none (by omega)]; rfl
    have hi1 : ¬ ((k : Int) < (m : Int)) := by omega
    rw [HF.out]
    clear hr hl
    go_enter Try.func38, Try.ntmps38
    go_wp2_with fail
    go_ret
    exact ⟨rfl, Same.refl _ _⟩
set_option maxHeartbeats 16000000 in
theorem cap_any {w : World} {n : NetV} {s : Sl} {side : List Bool} (h : NetIs w n) (hv : n.validB = true) (hb : IsBo w noB s side) :
    Calls Try.prog 18 #[n.val, .slice s.addr s.len s.cap] w fun r w' => r = .returned (.int .i64 (capSum side n.arcs)) ∧ Same noB w w' := by
  have HB := Lib.hid h
  have hok := NetV.validB_ok hv
  have HOK := Lib.hid hok
  have hcaps := h.rd.caps
  have HV := Lib.hid hv
  have HBO := Lib.hid hb
  clear h hv hb hok
  have hZ := fun (W : World) (hs : Same noB w W) => valid_any (HB.out.keep hs)
  rw [HV.out] at hZ
  unfold NetV.val at hZ ⊢
  obtain ⟨A, hA⟩ : ∃ A, n.sl.addr = A := ⟨_, rfl⟩
  obtain ⟨m, hm⟩ : ∃ m, n.sl.len = m := ⟨_, rfl⟩
  obtain ⟨c, hcc⟩ : ∃ c, n.sl.cap = c := ⟨_, rfl⟩
  have HR : Hid (Rd w noB 4 (.slice A m c) m (acells n.arcs)) := by show Rd _ _ _ _ _ _; rw [← hA, ← hm, ← hcc]; exact HB.out.rd
  have hL : m = n.arcs.length := by rw [← hm]; exact HB.out.len
  rw [hA, hm, hcc] at hZ ⊢
  rw [hm, hcc] at hcaps
  have hmb : m ≤ 4000 := by have := HOK.out.len; omega
  have HL := Lib.hid hL
  have HZV := Lib.hid hZ
  clear hA hm hcc hL hZ HB HV
  go_enter Try.func18, Try.ntmps18
  go_upto_region 1 with (fail)
  have HN0 := Lib.hid (Blk.new w 24 #[.int .i64 n.nodes, .int .i64 n.source, .int .i64 n.sink, .slice A m c, .int .i64 n.hold])
  have HS0 := Lib.hid (Blk.new (w.alloc (.cells #[.int .i64 n.nodes, .int .i64 n.source, .int .i64 n.sink, .slice A m c, .int .i64 n.hold] 24)) 27 #[.slice s.addr s.len s.cap])
  rw [World.size_alloc] at HS0
  refine wp_abs (fun W => Hid (Blk W w.heap.size 24 #[.int .i64 n.nodes, .int .i64 n.source, .int .i64 n.sink, .slice A m c, .int .i64 n.hold]) ∧ Hid (W.cell? ⟨w.heap.size + 1, 0, none⟩ = some (.slice s.addr s.len s.cap)) ∧ Hid (Same noB w W)) ⟨HN0.out.alloc _, HS0.out.cell 0, ((Same.refl _ _).alloc _).alloc _⟩ ?_
  clear HN0 HS0
  rintro W0 ⟨HN, HSB, HS⟩
  obtain ⟨N, hN⟩ : ∃ N, w.heap.size = N := ⟨_, rfl⟩
  obtain ⟨S, hSS⟩ : ∃ S, N + 1 = S := ⟨_, rfl⟩
  rw [hN] at HN HSB ⊢
  rw [hSS] at HSB ⊢
  clear hN hSS
  have x0 : W0.cell? ⟨N, 0, none⟩ = some (.int .i64 n.nodes) := HN.out.cell 0
  have x1 : W0.cell? ⟨N, 1, none⟩ = some (.int .i64 n.source) := HN.out.cell 1
  have x2 : W0.cell? ⟨N, 2, none⟩ = some (.int .i64 n.sink) := HN.out.cell 2
  have x3 : W0.cell? ⟨N, 3, none⟩ = some (.slice A m c) := HN.out.cell 3
  have x4 : W0.cell? ⟨N, 4, none⟩ = some (.int .i64 n.hold) := HN.out.cell 4
  have HZ := Lib.hid (HZV.out W0 HS.out)
  clear HZV
  go_wp2_with fail
  (with_reducible refine Calls.mono HZ.out ?_)
  clear HZ x0 x1 x2 x3 x4
  rintro r W1 ⟨rfl, hs1⟩
  replace HN := Lib.hid (HN.out.same hs1 (fun x => x))
  replace HSB := Lib.hid (hs1.cell HSB.out (fun x => x))
  replace HS := Lib.hid (HS.out.trans' hs1)
  clear hs1
  have x3 : W1.cell? ⟨N, 3, none⟩ = some (.slice A m c) := HN.out.cell 3
  go_wp2_with fail
  go_loopg [6, 16] (m) (fun gk s' q wr => ∃ (k : Nat) (t : Int), k ≤ m ∧ Hid (gk + k = m) ∧ q = .int .i64 k ∧ s' = .int .i64 t ∧ Hid (t = capSum side (n.arcs.take k)) ∧ Hid (wr.cell? ⟨S, 0, none⟩ = some (.slice s.addr s.len s.cap)) ∧ Hid (Same noB w wr))
  case atStart => exact ⟨0, 0, Nat.zero_le _, rfl, rfl, rfl, by show _ = _; simp [capSum], HSB.out, HS.out⟩
  case round =>
    clear HN HS HSB x3
    obtain ⟨k, t, hk, HK, rfl, rfl, HT, HSB, HS⟩ := hrel
    by_cases hlt : k < m
    · have hi1 : (k : Int) < (m : Int) := by omega
      have hi0 : (0 : Int) ≤ (k : Int) := by omega
      obtain ⟨x, hx⟩ : ∃ e, n.arcs[k]? = some e := ⟨_, List.getElem?_eq_getElem (by have := HL.out; omega)⟩
      have hxo := HOK.out.arcs x (List.mem_of_getElem? hx)
      have HXO := Lib.hid hxo
      have HTN := Lib.hid (capSum_next (side := side) hx)
      have hbd := capSum_small side (l := n.arcs.take k) (fun a ha => HOK.out.arcs a (List.mem_of_mem_take ha))
      rw [List.length_take, ← HT.out] at hbd
      have hmin : min k n.arcs.length ≤ 4000 := by omega
      have hwa : IntKind.i64.wrap (t + x.c) = t + x.c := IntWalk.i64_in _ (by have := hxo.c; omega)
      obtain ⟨b, o, rfl, r⟩ := (HR.out.keep HS.out).at_ (by omega)
      obtain ⟨p0, p1, p2, p3⟩ := arc_at r hx
      clear r hx hbd hmin hxo
      have HE0 := Lib.hid (row_stored (Blk.new wr 43 #[.int .i64 0, .int .i64 0, .int .i64 0, .int .i64 0]) #[.int .i64 x.f, .int .i64 x.t, .int .i64 x.c, .int .i64 x.d])
      go_upto_region 8 with (refine wpList_store_row rfl 43 _ _ rfl wr.heap.size #[.int .i64 x.f, .int .i64 x.t, .int .i64 x.c, .int .i64 x.d] rfl rfl 43 _ (Blk.new wr 43 #[.int .i64 0, .int .i64 0, .int .i64 0, .int .i64 0]) (by kernel_rfl) rfl (by kernel_rfl) ?_)
      have hs0 : Same noB wr ((wr.alloc (.cells #[.int .i64 0, .int .i64 0, .int .i64 0, .int .i64 0] 43)).setRow wr.heap.size #[.int .i64 x.f, .int .i64 x.t, .int .i64 x.c, .int .i64 x.d]) := ((Same.refl noB wr).alloc _).trans HE0.out.2 (fun b hb hx => by have h3 : b = wr.heap.size := hx; omega)
      refine wp_abs (fun W => Hid (Blk W wr.heap.size 43 #[.int .i64 x.f, .int .i64 x.t, .int .i64 x.c, .int .i64 x.d]) ∧ Hid (W.cell? ⟨S, 0, none⟩ = some (.slice s.addr s.len s.cap)) ∧ Hid (Same noB w W)) ⟨HE0.out.1, hs0.cell HSB.out (fun x => x), HS.out.trans' hs0⟩ ?_
      clear hs0 HE0 HS HSB p0 p1 p2 p3
      rintro W2 ⟨HE, HSB, HS⟩
      obtain ⟨E, hE⟩ : ∃ E, wr.heap.size = E := ⟨_, rfl⟩
      rw [hE] at HE ⊢
      clear hE
      have p0 : W2.cell? ⟨E, 0, none⟩ = some (.int .i64 x.f) := HE.out.cell 0
      have HZ1 := Lib.hid (cin38 (HBO.out.keep HS.out) HSB.out HXO.out.f.1)
      go_wp2_with fail
      (with_reducible refine Calls.mono HZ1.out ?_)
      clear HZ1 p0
      rintro r W3 ⟨rfl, hs1⟩
      replace HE := Lib.hid (HE.out.same hs1 (fun x => x))
      replace HSB := Lib.hid (hs1.cell HSB.out (fun x => x))
      replace HS := Lib.hid (HS.out.trans' hs1)
      clear hs1
      cases h1 : inB side x.f with
      | false =>
        rw [h1] at HTN
        clear h1
        go_wp2_with fail
        go_roundg (gk - 1)
        case measure => have h1 := HK.out; omega
        case rel => exact ⟨k + 1, _, by omega, by show _ = _; have h1 := HK.out; omega, by go_num, rfl, by show _ = _; rw [HTN.out, ← HT.out]; simp, HSB.out, HS.out⟩
      | true =>
        rw [h1] at HTN
        have HZ1 := Lib.hid (cin38 (HBO.out.keep HS.out) HSB.out HXO.out.t.1)
        have p1 : W3.cell? ⟨E, 1, none⟩ = some (.int .i64 x.t) := HE.out.cell 1
        clear h1
        go_wp2_with fail
        (with_reducible refine Calls.mono HZ1.out ?_)
        clear HZ1 p1
        rintro r W4 ⟨rfl, hs1⟩
        replace HE := Lib.hid (HE.out.same hs1 (fun x => x))
        replace HSB := Lib.hid (hs1.cell HSB.out (fun x => x))
        replace HS := Lib.hid (HS.out.trans' hs1)
        clear hs1
        have p2 : W4.cell? ⟨E, 2, none⟩ = some (.int .i64 x.c) := HE.out.cell 2
        cases h2 : inB side x.t with
        | false =>
          rw [h2] at HTN
          clear h2
          go_wp2_with fail
          go_roundg (gk - 1)
          case measure => have h1 := HK.out; omega
          case rel => exact ⟨k + 1, _, by omega, by show _ = _; have h1 := HK.out; omega, by go_num, rfl, by show _ = _; rw [HTN.out, ← HT.out]; simp, HSB.out, HS.out⟩
        | true =>
          rw [h2] at HTN
          clear h2
          go_wp2_with fail
          go_roundg (gk - 1)
          case measure => have h1 := HK.out; omega
          case rel => exact ⟨k + 1, _, by omega, by show _ = _; have h1 := HK.out; omega, by go_num, rfl, by show _ = _; rw [HTN.out, ← HT.out]; simp, HSB.out, HS.out⟩
    · obtain rfl : k = m := by omega
      have HF : Hid (t = capSum side n.arcs) := by
        have h1 := HT.out
        rw [List.take_of_length_le (by have := HL.out; omega)] at h1
        exact h1
      go_wp2_with fail
      go_ret
      exact ⟨by rw [← HF.out] <;> rfl, HS.out⟩
end Go.Proofs.Ytpalacfgpcpppaa
