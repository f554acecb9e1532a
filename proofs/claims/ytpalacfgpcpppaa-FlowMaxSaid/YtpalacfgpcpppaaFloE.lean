/- Layer 10: valid networks; Capacity of the reference. (printed by genFloE.py) -/
import Derived.Test.YtpalacfgpcpppaaFloD
namespace Go.Proofs.Ytpalacfgpcpppaa
open Go Go.RowKit
set_option maxRecDepth 100000

structure ArcOk (nodes : Int) (a : ArcV) : Prop where
  f : 0 ≤ a.f ∧ a.f < nodes
  t : 0 ≤ a.t ∧ a.t < nodes
  ne : a.f ≠ a.t
  c : 0 ≤ a.c ∧ a.c ≤ 1099511627776
  d : 0 ≤ a.d ∧ a.d ≤ 16
structure NetV.Ok (n : NetV) : Prop where
  nodes : 2 ≤ n.nodes ∧ n.nodes ≤ 400
  source : 0 ≤ n.source ∧ n.source < n.nodes
  sink : 0 ≤ n.sink ∧ n.sink < n.nodes
  ne : n.source ≠ n.sink
  len : n.arcs.length ≤ 4000
  hold : 0 ≤ n.hold ∧ n.hold ≤ 1099511627776
  arcs : ∀ a ∈ n.arcs, ArcOk n.nodes a
theorem arcBad_ok {nodes : Int} {a : ArcV} (h : arcBad nodes a = false) : ArcOk nodes a := by
  unfold arcBad exB amB at h
  simp only [Bool.or_eq_false_iff, Bool.not_eq_false', Bool.and_eq_true, decide_eq_true_eq, decide_eq_false_iff_not, beq_eq_false_iff_ne] at h
  obtain ⟨⟨⟨⟨⟨h1, h2⟩, h3⟩, h4⟩, h5⟩, h6⟩ := h
  exact ⟨h1, h2, h3, h4, ⟨by omega, by omega⟩⟩
theorem NetV.validB_ok {n : NetV} (h : n.validB = true) : n.Ok := by
  unfold NetV.validB NetV.headB exB amB at h
  simp only [Bool.and_eq_true, Bool.not_eq_true', decide_eq_true_eq, decide_eq_false_iff_not, beq_eq_false_iff_ne] at h
  obtain ⟨⟨⟨⟨⟨⟨⟨h1, h2⟩, h3⟩, h4⟩, h5⟩, h6⟩, h7⟩, h8⟩ := h
  refine ⟨⟨by omega, by omega⟩, h3, h4, h5, by omega, h7, fun a ha => arcBad_ok ?_⟩
  rw [List.any_eq_false] at h8
  simpa using h8 a ha
/-- The capacity of a side. -/
def capSum (side : List Bool) : List ArcV → Int
  | [] => 0
  | a :: l => (if (inB side a.f && !inB side a.t) = true then a.c else 0) + capSum side l
theorem capSum_snoc (side : List Bool) (l : List ArcV) (a : ArcV) : capSum side (l ++ [a]) = capSum side l + (if (inB side a.f && !inB side a.t) = true then a.c else 0) := by
  induction l with
  | nil => simp [capSum]
  | cons b l ih => simp only [List.cons_append, capSum, ih]; omega
theorem capSum_next {side : List Bool} {l : List ArcV} {k : Nat} {a : ArcV} (h : l[k]? = some a) : capSum side (l.take (k + 1)) = capSum side (l.take k) + (if (inB side a.f && !inB side a.t) = true then a.c else 0) := by
  rw [take_snoc h, capSum_snoc]
theorem capSum_small {nodes : Int} (side : List Bool) : ∀ {l : List ArcV}, (∀ a ∈ l, ArcOk nodes a) → 0 ≤ capSum side l ∧ capSum side l ≤ 1099511627776 * (l.length : Int)
  | [], _ => by simp [capSum]
  | a :: l, h => by
    have h1 := capSum_small side (l := l) (fun b hb => h b (List.mem_cons_of_mem _ hb))
    have h2 := (h a (List.mem_cons_self ..)).c
    simp only [capSum, List.length_cons]
    split <;> omega
set_option maxHeartbeats 8000000 in
theorem rcap_any {w : World} {n : NetV} {s : Sl} {side : List Bool} (h : NetIs w n) (hv : n.validB = true) (hb : IsBo w noB s side) :
    Calls Try.prog 36 #[n.val, .slice s.addr s.len s.cap] w fun r w' => r = .returned (.int .i64 (capSum side n.arcs)) ∧ Same noB w w' := by
  have HB := Lib.hid h
  have hok := NetV.validB_ok hv
  have HOK := Lib.hid hok
  have hcaps := h.rd.caps
  have HV := Lib.hid hv
  have HBO := Lib.hid hb
  clear h hv hb hok
  obtain ⟨SA, sn, sc⟩ := s
  have hZ := fun (W : World) (hs : Same noB w W) => rvalid_any (HB.out.keep hs)
  rw [HV.out] at hZ
  unfold NetV.val at hZ ⊢
  obtain ⟨A, hA⟩ : ∃ A, n.sl.addr = A := ⟨_, rfl⟩
  obtain ⟨m, hm⟩ : ∃ m, n.sl.len = m := ⟨_, rfl⟩
  obtain ⟨c, hcc⟩ : ∃ c, n.sl.cap = c := ⟨_, rfl⟩
  have HR : Hid (Rd w noB 4 (.slice A m c) m (acells n.arcs)) := by show Rd _ _ _ _ _ _; rw [← hA, ← hm, ← hcc]; exact HB.out.rd
  have hL : m = n.arcs.length := by rw [← hm]; exact HB.out.len
  rw [hA, hm, hcc] at hZ ⊢
  rw [hm, hcc] at hcaps
  have hmb : m ≤ 4000 := by have := HOK.out.len; omega
  have HL := Lib.hid hL
  have HZV := Lib.hid hZ
  clear hA hm hcc hL hZ HB HV
  go_enter Try.func36, Try.ntmps36
  go_upto_region 1 with (fail)
  refine wp_abs (fun W => Hid (Blk W w.heap.size 24 #[.int .i64 n.nodes, .int .i64 n.source, .int .i64 n.sink, .slice A m c, .int .i64 n.hold]) ∧ Hid (Same noB w W)) ⟨Blk.new w 24 _, (Same.refl _ _).alloc _⟩ ?_
  rintro W0 ⟨HN, HS⟩
  obtain ⟨N, hN⟩ : ∃ N, w.heap.size = N := ⟨_, rfl⟩
  rw [hN] at HN ⊢
  clear hN
  go_wp2_with fail
  go_loopg [5, 6] (m) (fun gk s q wr => ∃ (k : Nat) (t : Int), k ≤ m ∧ Hid (gk + k = m) ∧ q = .int .i64 k ∧ s = .int .i64 t ∧ Hid (t = capSum side (n.arcs.take k)) ∧ Hid (Blk wr N 24 #[.int .i64 n.nodes, .int .i64 n.source, .int .i64 n.sink, .slice A m c, .int .i64 n.hold]) ∧ Hid (Same noB w wr))
  case atStart => exact ⟨0, 0, Nat.zero_le _, rfl, rfl, rfl, by show _ = _; simp [capSum], HN.out, HS.out⟩
  case round =>
    clear HN HS
    obtain ⟨k, t, hk, HK, rfl, rfl, HT, HN, HS⟩ := hrel
    have x0 : wr.cell? ⟨N, 0, none⟩ = some (.int .i64 n.nodes) := HN.out.cell 0
    have x1 : wr.cell? ⟨N, 1, none⟩ = some (.int .i64 n.source) := HN.out.cell 1
    have x2 : wr.cell? ⟨N, 2, none⟩ = some (.int .i64 n.sink) := HN.out.cell 2
    have x3 : wr.cell? ⟨N, 3, none⟩ = some (.slice A m c) := HN.out.cell 3
    have x4 : wr.cell? ⟨N, 4, none⟩ = some (.int .i64 n.hold) := HN.out.cell 4
    by_cases hlt : k < m
    · have hi1 : (k : Int) < (m : Int) := by omega
      have HZ := Lib.hid (HZV.out wr HS.out)
      go_wp2_with fail
      (with_reducible refine Calls.mono HZ.out ?_)
      clear HZ x0 x1 x2 x3 x4
      rintro r W1 ⟨rfl, hs1⟩
      replace HN := Lib.hid (HN.out.same hs1 (fun x => x))
      replace HS := Lib.hid (HS.out.trans' hs1)
      clear hs1
      obtain ⟨x, hx⟩ : ∃ e, n.arcs[k]? = some e := ⟨_, List.getElem?_eq_getElem (by have := HL.out; omega)⟩
      have hxo := HOK.out.arcs x (List.mem_of_getElem? hx)
      have HXO := Lib.hid hxo
      have HTN := Lib.hid (capSum_next (side := side) hx)
      have hbd := capSum_small side (l := n.arcs.take k) (fun a ha => HOK.out.arcs a (List.mem_of_mem_take ha))
      rw [List.length_take, ← HT.out] at hbd
      have hmin : min k n.arcs.length ≤ 4000 := by omega
      have hwa : IntKind.i64.wrap (t + x.c) = t + x.c := IntWalk.i64_in _ (by have := hxo.c; omega)
      obtain ⟨b, o, rfl, r⟩ := (HR.out.keep HS.out).at_ (by omega)
      obtain ⟨p0, p1, p2, p3⟩ := arc_at r hx
      have hi0 : (0 : Int) ≤ (k : Int) := by omega
      have x3 : W1.cell? ⟨N, 3, none⟩ = some (.slice (some ⟨b, o, none⟩) m c) := HN.out.cell 3
      have HZ1 := Lib.hid (in_any (HBO.out.keep HS.out) hxo.f.1)
      clear r hx hbd hmin hxo
      go_wp2_with fail
      (with_reducible refine Calls.mono HZ1.out ?_)
      clear HZ1
      rintro r W2 ⟨rfl, hs1⟩
      replace HN := Lib.hid (HN.out.same hs1 (fun x => x))
      replace HS := Lib.hid (HS.out.trans' hs1)
      replace x3 := hs1.cell x3 (fun x => x)
      replace p0 := hs1.cell p0 (fun x => x)
      replace p1 := hs1.cell p1 (fun x => x)
      replace p2 := hs1.cell p2 (fun x => x)
      replace p3 := hs1.cell p3 (fun x => x)
      clear hs1
      cases h1 : inB side x.f with
      | false =>
        rw [h1] at HTN
        clear h1
        go_wp2_with fail
        go_roundg (gk - 1)
        case measure => have h1 := HK.out; omega
        case rel => exact ⟨k + 1, _, by omega, by show _ = _; have h1 := HK.out; omega, by go_num, rfl, by show _ = _; rw [HTN.out, ← HT.out]; simp, HN.out, HS.out⟩
      | true =>
        rw [h1] at HTN
        have HZ1 := Lib.hid (in_any (HBO.out.keep HS.out) HXO.out.t.1)
        clear h1
        go_wp2_with fail
        (with_reducible refine Calls.mono HZ1.out ?_)
        clear HZ1
        rintro r W3 ⟨rfl, hs1⟩
        replace HN := Lib.hid (HN.out.same hs1 (fun x => x))
        replace HS := Lib.hid (HS.out.trans' hs1)
        replace x3 := hs1.cell x3 (fun x => x)
        replace p2 := hs1.cell p2 (fun x => x)
        clear hs1 p0 p1 p3
        cases h2 : inB side x.t with
        | false =>
          rw [h2] at HTN
          clear h2
          go_wp2_with fail
          go_roundg (gk - 1)
          case measure => have h1 := HK.out; omega
          case rel => exact ⟨k + 1, _, by omega, by show _ = _; have h1 := HK.out; omega, by go_num, rfl, by show _ = _; rw [HTN.out, ← HT.out]; simp, HN.out, HS.out⟩
        | true =>
          rw [h2] at HTN
          clear h2
          go_wp2_with fail
          go_roundg (gk - 1)
          case measure => have h1 := HK.out; omega
          case rel => exact ⟨k + 1, _, by omega, by show _ = _; have h1 := HK.out; omega, by go_num, rfl, by show _ = _; rw [HTN.out, ← HT.out]; simp, HN.out, HS.out⟩
    · obtain rfl : k = m := by omega
      have HF : Hid (t = capSum side n.arcs) := by
        have h1 := HT.out
        rw [List.take_of_length_le (by have := HL.out; omega)] at h1
        exact h1
      go_wp2_with fail
      go_ret
      exact ⟨by rw [← HF.out] <;> rfl, HS.out⟩
end Go.Proofs.Ytpalacfgpcpppaa
