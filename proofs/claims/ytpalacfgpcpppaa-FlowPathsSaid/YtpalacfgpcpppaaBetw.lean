/- Layer 10: Between of the reference. -/
import Derived.Test.YtpalacfgpcpppaaPatA
import Derived.Test.YtpalacfgpcpppaaFloD
namespace Go.Proofs.Ytpalacfgpcpppaa
open Go Go.RowKit
set_option maxRecDepth 100000

theorem btw_snoc {l : List ArcV} {m : List Int} (h : l.length = m.length) (a : ArcV) (x u v : Int) : btwSum (l ++ [a]) (m ++ [x]) u v = btwSum l m u v + (if a.f = u ∧ a.t = v then x else 0) := by
  induction l generalizing m with
  | nil =>
    cases m with
    | nil => simp [btwSum]
    | cons y m => simp at h
  | cons b l ih =>
    cases m with
    | nil => simp at h
    | cons y m =>
      have := ih (m := m) (by simpa using h)
      simp only [List.cons_append, btwSum, this]
      omega
theorem btw_next {l : List ArcV} {m : List Int} {k : Nat} {a : ArcV} {x : Int} (ha : l[k]? = some a) (hx : m[k]? = some x) (u v : Int) : btwSum (l.take (k + 1)) (m.take (k + 1)) u v = btwSum (l.take k) (m.take k) u v + (if a.f = u ∧ a.t = v then x else 0) := by
  rw [take_snoc ha, take_snoc hx, btw_snoc]
  have h1 := (List.getElem?_eq_some_iff.1 ha).1
  have h2 := (List.getElem?_eq_some_iff.1 hx).1
  rw [List.length_take, List.length_take]
  omega
theorem btw_small : ∀ {l : List ArcV} {m : List Int}, Small m → ∀ u v, 0 ≤ btwSum l m u v ∧ btwSum l m u v ≤ 1099511627776 * (m.length : Int)
  | [], m, _, u, v => by cases m <;> simp [btwSum] <;> omega
  | _ :: _, [], _, u, v => by simp [btwSum]
  | a :: l, x :: m, h, u, v => by
    have h1 := btw_small (l := l) (m := m) (fun y hy => h y (List.mem_cons_of_mem _ hy)) u v
    have h2 := h x List.mem_cons_self
    simp only [btwSum, List.length_cons]
    split <;> omega
set_option maxHeartbeats 8000000 in
theorem btw_any {w : World} {n : NetV} {sa : Sl} {am : List Int} (h : NetIs w n) (ha : IsI w noB sa am) (hl : am.length = n.arcs.length) (hn : n.arcs.length ≤ 4000) (hs : Small am) (u v : Int) :
    Calls Try.prog 21 #[n.val, .slice sa.addr sa.len sa.cap, .int .i64 u, .int .i64 v] w fun r w' => r = .returned (.int .i64 (btwSum n.arcs am u v)) ∧ Same noB w w' := by
  have HB := Lib.hid h
  have hcaps := h.rd.caps
  have HSM := Lib.hid hs
  have HLL := Lib.hid hl
  obtain ⟨SA, sm, sc⟩ := sa
  have HA := Lib.hid ha
  have hcap2 := ha.2.caps
  have hsl := ha.1
  simp only at hsl hcap2
  clear h hs ha
  unfold NetV.val
  dsimp only
  obtain ⟨A, hA⟩ : ∃ A, n.sl.addr = A := ⟨_, rfl⟩
  obtain ⟨m, hm⟩ : ∃ m, n.sl.len = m := ⟨_, rfl⟩
  obtain ⟨c, hcc⟩ : ∃ c, n.sl.cap = c := ⟨_, rfl⟩
  have HR : Hid (Rd w noB 4 (.slice A m c) m (acells n.arcs)) := by show Rd _ _ _ _ _ _; rw [← hA, ← hm, ← hcc]; exact HB.out.rd
  have hL : m = n.arcs.length := by rw [← hm]; exact HB.out.len
  rw [hA, hm, hcc]
  rw [hm, hcc] at hcaps
  have hsm : sm = m := by omega
  have hmb : m ≤ 4000 := by omega
  subst hsm
  have HL := Lib.hid hL
  have HR2 : Hid (Rd w noB 1 (.slice SA sm sc) sm (icells am)) := HA.out.2
  clear hA hm hcc hL hn hl hsl HA HB
  go_enter Try.func21, Try.ntmps21
  go_upto_region 1 with (fail)
  refine wp_abs (fun W => Hid (W.cell? ⟨w.heap.size, 3, none⟩ = some (.slice A sm c)) ∧ Hid (Same noB w W)) ⟨(Blk.new w 24 _).cell 3, (Same.refl _ _).alloc _⟩ ?_
  rintro W0 ⟨HN, HS⟩
  obtain ⟨N, hN⟩ : ∃ N, w.heap.size = N := ⟨_, rfl⟩
  rw [hN] at HN ⊢
  clear hN
  go_wp2_with fail
  go_loopg [9, 10] (sm) (fun gk s q wr => ∃ (k : Nat) (t : Int), k ≤ sm ∧ Hid (gk + k = sm) ∧ q = .int .i64 k ∧ s = .int .i64 t ∧ Hid (t = btwSum (n.arcs.take k) (am.take k) u v) ∧ Hid (wr.cell? ⟨N, 3, none⟩ = some (.slice A sm c)) ∧ Hid (Same noB w wr))
  case atStart => exact ⟨0, 0, Nat.zero_le _, rfl, rfl, rfl, by show _ = _; simp [btwSum], HN.out, HS.out⟩
  case round =>
    clear HN HS
    obtain ⟨k, t, hk, HK, rfl, rfl, HT, HN, HS⟩ := hrel
    have x3 := HN.out
    by_cases hlt : k < sm
    · obtain ⟨x, hx⟩ : ∃ e, n.arcs[k]? = some e := ⟨_, List.getElem?_eq_getElem (by have := HL.out; omega)⟩
      obtain ⟨y, hy⟩ : ∃ e, am[k]? = some e := ⟨_, List.getElem?_eq_getElem (by have := HL.out; have := HLL.out; omega)⟩
      obtain ⟨b, o, rfl, r⟩ := (HR.out.keep HS.out).at_ (by omega)
      obtain ⟨b', o', rfl, r'⟩ := (HR2.out.keep HS.out).at_ (by omega)
      obtain ⟨p0, p1, p2, p3⟩ := arc_at r hx
      have c0 := r'.cell k _ (icells_at hy)
      have hi0 : (0 : Int) ≤ (k : Int) := by omega
      have hi1 : (k : Int) < (sm : Int) := by omega
      have HTN := Lib.hid (btw_next hx hy u v)
      have hbd := btw_small (l := n.arcs.take k) (HSM.out.take k) u v
      have hyb := HSM.out y (List.mem_of_getElem? hy)
      rw [List.length_take, ← HT.out] at hbd
      have hmin : min k am.length ≤ 4000 := by omega
      have hb1 : 0 ≤ t ∧ t ≤ 4398046511104000 := by omega
      clear r r' hx hy hbd hmin
      have hwa : IntKind.i64.wrap (t + y) = t + y := IntWalk.i64_in _ (by omega)
      have hwk : IntKind.i64.wrap ((k : Int) + 1) = (k : Int) + 1 := IntWalk.i64_in _ (by omega)
      by_cases h1 : x.f = u
      · have d1 : (x.f == u) = true := beq_iff_eq.2 h1
        by_cases h2 : x.t = v
        · have d2 : (x.t == v) = true := beq_iff_eq.2 h2
          rw [if_pos ⟨h1, h2⟩] at HTN
          clear h1 h2
          go_wp2_with fail
          go_roundg (gk - 1)
          case measure => have h1 := HK.out; omega
          case rel => exact ⟨k + 1, _, by omega, by show _ = _; have h1 := HK.out; omega, by go_num, rfl, by show _ = _; rw [HTN.out, ← HT.out], HN.out, HS.out⟩
        · have d2 : (x.t == v) = false := beq_eq_false_iff_ne.2 h2
          rw [if_neg (fun e => h2 e.2)] at HTN
          clear h1 h2
          go_wp2_with fail
          go_roundg (gk - 1)
          case measure => have h1 := HK.out; omega
          case rel => exact ⟨k + 1, _, by omega, by show _ = _; have h1 := HK.out; omega, by go_num, rfl, by show _ = _; rw [HTN.out, ← HT.out]; omega, HN.out, HS.out⟩
      · have d1 : (x.f == u) = false := beq_eq_false_iff_ne.2 h1
        rw [if_neg (fun e => h1 e.1)] at HTN
        clear h1
        go_wp2_with fail
        go_roundg (gk - 1)
        case measure => have h1 := HK.out; omega
        case rel => exact ⟨k + 1, _, by omega, by show _ = _; have h1 := HK.out; omega, by go_num, rfl, by show _ = _; rw [HTN.out, ← HT.out]; omega, HN.out, HS.out⟩
    · obtain rfl : k = sm := by omega
      have HF : Hid (t = btwSum n.arcs am u v) := by
        have h1 := HT.out
        rw [List.take_of_length_le (by have := HL.out; omega), List.take_of_length_le (by have := HL.out; have := HLL.out; omega)] at h1
        exact h1
      go_wp2_with fail
      go_ret
      exact ⟨by rw [← HF.out] <;> rfl, HS.out⟩
end Go.Proofs.Ytpalacfgpcpppaa
