/- Layer 10: flows in memory; Net, in and Capacity of the reference. (printed by genFloD.py) -/
import Derived.Test.YtpalacfgpcpppaaFloC
namespace Go.Proofs.Ytpalacfgpcpppaa
open Go Go.RowKit
set_option maxRecDepth 100000

/-- A flow; sa, ss: where its amounts and its side lie. -/
structure FlowV where
  value : Int
  am : List Int
  side : List Bool
  sa : Sl
  ss : Sl
def bcells (l : List Bool) : List Value := l.map Value.bool
theorem bcells_at {l : List Bool} {i : Nat} {x : Bool} (h : l[i]? = some x) : (bcells l)[i]? = some (.bool x) := by simp [bcells, h]
def FlowV.val (f : FlowV) : Value := .agg #[.int .i64 f.value, .slice f.sa.addr f.sa.len f.sa.cap, .slice f.ss.addr f.ss.len f.ss.cap]
/-- A slice that reads as ints, as Booleans. -/
def IsI (w : World) (bad : Nat → Prop) (s : Sl) (l : List Int) : Prop := s.len = l.length ∧ Rd w bad 1 (.slice s.addr s.len s.cap) s.len (icells l)
def IsBo (w : World) (bad : Nat → Prop) (s : Sl) (l : List Bool) : Prop := s.len = l.length ∧ Rd w bad 1 (.slice s.addr s.len s.cap) s.len (bcells l)
theorem IsI.keep {w w' : World} {bad : Nat → Prop} {s : Sl} {l : List Int} (h : IsI w bad s l) (hs : Same noB w w') : IsI w' bad s l := ⟨h.1, h.2.keep hs⟩
theorem IsBo.keep {w w' : World} {bad : Nat → Prop} {s : Sl} {l : List Bool} (h : IsBo w bad s l) (hs : Same noB w w') : IsBo w' bad s l := ⟨h.1, h.2.keep hs⟩
structure FlowIs (w : World) (f : FlowV) : Prop where
  a : IsI w noB f.sa f.am
  s : IsBo w noB f.ss f.side
theorem FlowIs.keep {w w' : World} {f : FlowV} (h : FlowIs w f) (hs : Same noB w w') : FlowIs w' f := ⟨h.a.keep hs, h.s.keep hs⟩
/-- What goes out of a node minus what comes in. -/
def netSum : List ArcV → List Int → Int → Int
  | a :: l, x :: m, v => ((if a.f = v then x else 0) - (if a.t = v then x else 0)) + netSum l m v
  | _, _, _ => 0
theorem netSum_snoc {l : List ArcV} {m : List Int} (h : l.length = m.length) (a : ArcV) (x v : Int) : netSum (l ++ [a]) (m ++ [x]) v = netSum l m v + ((if a.f = v then x else 0) - (if a.t = v then x else 0)) := by
  induction l generalizing m with
  | nil =>
    cases m with
    | nil => simp [netSum]
    | cons _ _ => simp at h
  | cons b l ih =>
    cases m with
    | nil => simp at h
    | cons y m =>
      have := ih (m := m) (by simpa using h)
      simp only [List.cons_append, netSum, this]
      omega
theorem take_snoc {α : Type} {l : List α} {k : Nat} {x : α} (h : l[k]? = some x) : l.take (k + 1) = l.take k ++ [x] := by
  rw [List.take_add_one, h]
  rfl
theorem netSum_next {l : List ArcV} {m : List Int} {k : Nat} {a : ArcV} {x : Int} (ha : l[k]? = some a) (hx : m[k]? = some x) (v : Int) : netSum (l.take (k + 1)) (m.take (k + 1)) v = netSum (l.take k) (m.take k) v + ((if a.f = v then x else 0) - (if a.t = v then x else 0)) := by
  rw [take_snoc ha, take_snoc hx, netSum_snoc]
  have h1 := (List.getElem?_eq_some_iff.1 ha).1
  have h2 := (List.getElem?_eq_some_iff.1 hx).1
  rw [List.length_take, List.length_take]
  omega
/-- Amounts that a network may bear. -/
def Small (m : List Int) : Prop := ∀ x ∈ m, 0 ≤ x ∧ x ≤ 1099511627776
theorem netSum_small : ∀ {l : List ArcV} {m : List Int}, Small m → ∀ v, -(1099511627776 * (m.length : Int)) ≤ netSum l m v ∧ netSum l m v ≤ 1099511627776 * (m.length : Int)
  | [], m, _, v => by cases m <;> simp [netSum] <;> omega
  | _ :: _, [], _, v => by simp [netSum]
  | a :: l, x :: m, h, v => by
    have h1 := netSum_small (l := l) (m := m) (fun y hy => h y (List.mem_cons_of_mem _ hy)) v
    have h2 := h x (List.mem_cons_self ..)
    simp only [netSum, List.length_cons]
    split <;> split <;> omega
theorem Small.take {m : List Int} (h : Small m) (k : Nat) : Small (m.take k) := fun x hx => h x (List.mem_of_mem_take hx)
set_option maxHeartbeats 8000000 in
theorem net_any {w : World} {n : NetV} {sa : Sl} {am : List Int} (h : NetIs w n) (ha : IsI w noB sa am) (hl : am.length = n.arcs.length) (hn : n.arcs.length ≤ 4000) (hs : Small am) (v : Int) :
    Calls Try.prog 37 #[n.val, .slice sa.addr sa.len sa.cap, .int .i64 v] w fun r w' => r = .returned (.int .i64 (netSum n.arcs am v)) ∧ Same noB w w' := by
  have HB := Lib.hid h
  have hcaps := h.rd.caps
  have HSM := Lib.hid hs
  have HLL := Lib.hid hl
  obtain ⟨SA, sm, sc⟩ := sa
  have HA := Lib.hid ha
  have hcap2 := ha.2.caps
  have hsl := ha.1
  simp only at hsl hcap2
  clear h hs ha
  unfold NetV.val
  dsimp only
  obtain ⟨A, hA⟩ : ∃ A, n.sl.addr = A := ⟨_, rfl⟩
  obtain ⟨m, hm⟩ : ∃ m, n.sl.len = m := ⟨_, rfl⟩
  obtain ⟨c, hcc⟩ : ∃ c, n.sl.cap = c := ⟨_, rfl⟩
  have HR : Hid (Rd w noB 4 (.slice A m c) m (acells n.arcs)) := by show Rd _ _ _ _ _ _; rw [← hA, ← hm, ← hcc]; exact HB.out.rd
  have hL : m = n.arcs.length := by rw [← hm]; exact HB.out.len
  rw [hA, hm, hcc]
  rw [hm, hcc] at hcaps
  have hsm : sm = m := by omega
  have hmb : m ≤ 4000 := by omega
  subst hsm
  have HL := Lib.hid hL
  have HR2 : Hid (Rd w noB 1 (.slice SA sm sc) sm (icells am)) := HA.out.2
  clear hA hm hcc hL hn hl hsl HA HB
  go_enter Try.func37, Try.ntmps37
  go_upto_region 1 with (fail)
  refine wp_abs (fun W => Hid (W.cell? ⟨w.heap.size, 3, none⟩ = some (.slice A sm c)) ∧ Hid (Same noB w W)) ⟨(Blk.new w 24 _).cell 3, (Same.refl _ _).alloc _⟩ ?_
  rintro W0 ⟨HN, HS⟩
  obtain ⟨N, hN⟩ : ∃ N, w.heap.size = N := ⟨_, rfl⟩
  rw [hN] at HN ⊢
  clear hN
  go_wp2_with fail
  go_loopg [7, 8] (sm) (fun gk s q wr => ∃ (k : Nat) (t : Int), k ≤ sm ∧ Hid (gk + k = sm) ∧ q = .int .i64 k ∧ s = .int .i64 t ∧ Hid (t = netSum (n.arcs.take k) (am.take k) v) ∧ Hid (wr.cell? ⟨N, 3, none⟩ = some (.slice A sm c)) ∧ Hid (Same noB w wr))
  case atStart => exact ⟨0, 0, Nat.zero_le _, rfl, rfl, rfl, by show _ = _; simp [netSum], HN.out, HS.out⟩
  case round =>
    clear HN HS
    obtain ⟨k, t, hk, HK, rfl, rfl, HT, HN, HS⟩ := hrel
    have x3 := HN.out
    by_cases hlt : k < sm
    · obtain ⟨x, hx⟩ : ∃ e, n.arcs[k]? = some e := ⟨_, List.getElem?_eq_getElem (by have := HL.out; omega)⟩
      obtain ⟨y, hy⟩ : ∃ e, am[k]? = some e := ⟨_, List.getElem?_eq_getElem (by have := HL.out; have := HLL.out; omega)⟩
      obtain ⟨b, o, rfl, r⟩ := (HR.out.keep HS.out).at_ (by omega)
      obtain ⟨b', o', rfl, r'⟩ := (HR2.out.keep HS.out).at_ (by omega)
      obtain ⟨p0, p1, p2, p3⟩ := arc_at r hx
      have c0 := r'.cell k _ (icells_at hy)
      have hi0 : (0 : Int) ≤ (k : Int) := by omega
      have hi1 : (k : Int) < (sm : Int) := by omega
      have HTN := Lib.hid (netSum_next hx hy v)
      have hbd := netSum_small (l := n.arcs.take k) (HSM.out.take k) v
      have hyb := HSM.out y (List.mem_of_getElem? hy)
      rw [List.length_take, ← HT.out] at hbd
      have hmin : min k am.length ≤ 4000 := by omega
      have hb1 : -4398046511104000 ≤ t ∧ t ≤ 4398046511104000 := by omega
      clear r r' hx hy hbd hmin
      have hwa : IntKind.i64.wrap (t + y) = t + y := IntWalk.i64_in _ (by omega)
      have hws : IntKind.i64.wrap (t - y) = t - y := IntWalk.i64_in _ (by omega)
      have hwb : IntKind.i64.wrap (t + y - y) = t + y - y := IntWalk.i64_in _ (by omega)
      have hwk : IntKind.i64.wrap ((k : Int) + 1) = (k : Int) + 1 := IntWalk.i64_in _ (by omega)
      by_cases h1 : x.f = v
      · have d1 : (x.f == v) = true := beq_iff_eq.2 h1
        have e1 : (if x.f = v then y else 0) = y := if_pos h1
        rw [e1] at HTN
        clear h1 e1
        by_cases h2 : x.t = v
        · have d2 : (x.t == v) = true := beq_iff_eq.2 h2
          have e2 : (if x.t = v then y else 0) = y := if_pos h2
          rw [e2] at HTN
          clear h2 e2
          go_wp2_with fail
          go_roundg (gk - 1)
          case measure => have h1 := HK.out; omega
          case rel => exact ⟨k + 1, _, by omega, by show _ = _; have h1 := HK.out; omega, by go_num, rfl, by show _ = _; rw [HTN.out, ← HT.out]; omega, HN.out, HS.out⟩
        · have d2 : (x.t == v) = false := beq_eq_false_iff_ne.2 h2
          have e2 : (if x.t = v then y else 0) = 0 := if_neg h2
          rw [e2] at HTN
          clear h2 e2
          go_wp2_with fail
          go_roundg (gk - 1)
          case measure => have h1 := HK.out; omega
          case rel => exact ⟨k + 1, _, by omega, by show _ = _; have h1 := HK.out; omega, by go_num, rfl, by show _ = _; rw [HTN.out, ← HT.out]; omega, HN.out, HS.out⟩
      · have d1 : (x.f == v) = false := beq_eq_false_iff_ne.2 h1
        have e1 : (if x.f = v then y else 0) = 0 := if_neg h1
        rw [e1] at HTN
        clear h1 e1
        by_cases h2 : x.t = v
        · have d2 : (x.t == v) = true := beq_iff_eq.2 h2
          have e2 : (if x.t = v then y else 0) = y := if_pos h2
          rw [e2] at HTN
          clear h2 e2
          go_wp2_with fail
          go_roundg (gk - 1)
          case measure => have h1 := HK.out; omega
          case rel => exact ⟨k + 1, _, by omega, by show _ = _; have h1 := HK.out; omega, by go_num, rfl, by show _ = _; rw [HTN.out, ← HT.out]; omega, HN.out, HS.out⟩
        · have d2 : (x.t == v) = false := beq_eq_false_iff_ne.2 h2
          have e2 : (if x.t = v then y else 0) = 0 := if_neg h2
          rw [e2] at HTN
          clear h2 e2
          go_wp2_with fail
          go_roundg (gk - 1)
          case measure => have h1 := HK.out; omega
          case rel => exact ⟨k + 1, _, by omega, by show _ = _; have h1 := HK.out; omega, by go_num, rfl, by show _ = _; rw [HTN.out, ← HT.out]; omega, HN.out, HS.out⟩
    · obtain rfl : k = sm := by omega
      have HF : Hid (t = netSum n.arcs am v) := by
        have h1 := HT.out
        rw [List.take_of_length_le (by have := HL.out; omega), List.take_of_length_le (by have := HL.out; have := HLL.out; omega)] at h1
        exact h1
      go_wp2_with fail
      go_ret
      exact ⟨by rw [← HF.out] <;> rfl, HS.out⟩
def inB (side : List Bool) (v : Int) : Bool := side.getD v.toNat false
theorem in_any {w : World} {bad : Nat → Prop} {s : Sl} {side : List Bool} (h : IsBo w bad s side) {v : Int} (hv : 0 ≤ v) :
    Calls Try.prog 44 #[.slice s.addr s.len s.cap, .int .i64 v] w fun r w' => r = .returned (.bool (inB side v)) ∧ Same noB w w' := by
  obtain ⟨A, m, c⟩ := s
  obtain ⟨hl, hr⟩ := h
  simp only at hl hr
  have hcaps := hr.caps
  obtain ⟨k, rfl⟩ : ∃ k : Nat, v = (k : Int) := ⟨v.toNat, by omega⟩
  unfold inB
  rw [Int.toNat_natCast]
  dsimp only
  by_cases hlt : k < m
  · obtain ⟨b, o, rfl, r⟩ := hr.at_ (by omega)
    obtain ⟨x, hx⟩ : ∃ x, side[k]? = some x := ⟨_, List.getElem?_eq_getElem (by omega)⟩
    have c0 := r.cell k _ (bcells_at hx)
    have HF : Hid (side.getD k false = x) := by show _ = _; rw [List.getD_eq_getElem?_getD, hx]; rfl
    have hi1 : (k : Int) < (m : Int) := by omega
    rw [HF.out]
    clear r hr hl hx
    go_enter Try.func44, Try.ntmps44
    go_wp2_with fail
    go_ret
    exact ⟨rfl, Same.refl _ _⟩
  · have HF : Hid (side.getD k false = false) := by show _ = _; rw [List.getD_eq_getElem?_getD, List.getElem?_eq_none (by omega)]; rfl
    have hi1 : ¬ ((k : Int) < (m : Int)) := by omega
    rw [HF.out]
    clear hr hl
    go_enter Try.func44, Try.ntmps44
    go_wp2_with fail
    go_ret
    exact ⟨rfl, Same.refl _ _⟩
end Go.Proofs.Ytpalacfgpcpppaa
