/- Layer 36: From of the program. -/
import Derived.Test.YtlocfbjeljgblaaRepF
import Derived.Test.YtlocfbjeljgblaaRepH
namespace Go.Proofs.Ytlocfbjeljgblaa
open Go Go.RowKit
set_option maxRecDepth 100000

def Lg.atOf (g : Lg) (i : Int) : Nat := (i - g.base - 1).toNat
def Lg.fromL (g : Lg) (i most : Int) : List EnV := (g.es.drop (g.atOf i)).take most.toNat
theorem copy_nil {w w' : World} (hs : Same noB w w') : CopyIs w w' (.slice none 0 0) [] [] := ⟨World.ownsRow_nil _ _ _ _, fun g hg => by simp [Value.ownBlock] at hg, .nil, hs⟩
theorem CopyIs.before {w0 w w' : World} {v : Value} {es : List En} {vs : List EnV} (h : CopyIs w w' v es vs) (hs : Same noB w0 w) : CopyIs w0 w' v es vs :=
  ⟨h.own, fun g hg => Nat.le_trans hs.size (h.new g hg), h.is.imp fun _ _ k => k.same (Same.refl noB _) (fun _ _ x => x.elim) (fun _ _ hb => hb.imp (fun e => Nat.lt_of_lt_of_le e hs.size) id), hs.trans' h.since⟩
theorem copy_from {w w0 w' : World} {v : Value} {es : List En} {vs vs' : List EnV} (h : CopyIs w w' v es vs) (hs : Same noB w0 w) (he : vs = vs') : CopyIs w0 w' v es vs' := he ▸ h.before hs
theorem ecells_split (l : List En) (a : Nat) (h : a ≤ l.length) : ∃ r, ecells l = ecells (l.take a) ++ r ∧ (ecells (l.take a)).length = a * 15 ∧ r = ecells (l.drop a) := by
  refine ⟨ecells (l.drop a), ?_, ?_, rfl⟩
  · unfold ecells
    rw [← List.flatMap_append, List.take_append_drop]
  · have hz : ∀ m : List En, (ecells m).length = m.length * 15 := by
      intro m
      induction m with
      | nil => rfl
      | cons e m ih =>
        have : ecells (e :: m) = e.cells ++ ecells m := rfl
        rw [this, List.length_append, ih, List.length_cons, show e.cells.length = 15 from rfl]
        omega
    rw [hz, List.length_take, Nat.min_eq_left h]
theorem ecells_drop (l : List En) (a : Nat) (h : a ≤ l.length) : (ecells l).drop (a * 15) = ecells (l.drop a) := by
  obtain ⟨r, h1, h2, h3⟩ := ecells_split l a h
  rw [h1, ← h2, List.drop_left, h3]
theorem ecells_take (l : List En) (a : Nat) (h : a ≤ l.length) : (ecells l).take (a * 15) = ecells (l.take a) := by
  obtain ⟨r, h1, h2, h3⟩ := ecells_split l a h
  rw [h1, ← h2, List.take_left]
theorem enl_slice {w : World} {bad : Nat → Prop} {b o c n a m : Nat} {es : List En} {vs : List EnV} (h : EnL w bad (.slice (some ⟨b, o, none⟩) n c) es vs) (ha : a ≤ m) (hm : m ≤ es.length) (hc : a < es.length) :
    EnL w bad (.slice (some ⟨b, o + a * 15, none⟩) (m - a) (c - a)) ((es.drop a).take (m - a)) ((vs.drop a).take (m - a)) := by
  obtain ⟨hr, hi⟩ := h
  obtain ⟨A', c', e, hnc, hcm, _⟩ := hr.form
  injection e with e1 e2 e3
  subst e2 e3
  have h1 := hr.cut (k := a) (by omega) (by omega)
  rw [if_neg (by omega), ecells_drop _ _ (by omega)] at h1
  have h2 := h1.pre (k := m - a) (by omega) (by omega)
  rw [ecells_take _ _ (by rw [List.length_drop]; omega)] at h2
  have hl : ((es.drop a).take (m - a)).length = m - a := by rw [List.length_take, List.length_drop]; omega
  refine ⟨?_, (hi.drop a).take (m - a)⟩
  rw [hl]
  exact h2

theorem slice_run {b o n c a m : Nat} (h1 : a ≤ m) (h2 : m ≤ c) (hac : ¬ c = a) (wx : World) : (Instr.slice 27 (.slice (some ⟨b, o, none⟩) n c) (some (.int .i64 a)) (some (.int .i64 m)) none).run Try.prog wx = .ok (.slice (some ⟨b, o + a * 15, none⟩) (m - a) (c - a)) wx := by
  rw [run_slice_lh (P := Try.prog) (h0 := by omega) (h1 := by omega) (h2 := by omega) (ht := rfl)]
  simp [sliced, hac, Addr.add, go_sem]
set_option maxHeartbeats 8000000 in
theorem from_core {w : World} {M b o c n a k m : Nat} {base i most j : Int} {Q : World → Value → World → Prop}
    (c0 : w.cell? ⟨M, 0, none⟩ = some (.int .i64 base)) (c2 : w.cell? ⟨M, 2, none⟩ = some (.slice (some ⟨b, o, none⟩) n c))
    (hj : (if i < base + 1 then base + 1 else i) = j) (hw1 : IntKind.i64.wrap (base + 1) = base + 1) (hw2 : IntKind.i64.wrap (j - base) = (a : Int) + 1) (hw3 : IntKind.i64.wrap (a : Int) = (a : Int))
    (ha : (a : Int) < (n : Int)) (hm0 : 0 < most) (hk : (if (n : Int) < most then (n : Int) else most) = (k : Int)) (hw4 : IntKind.i64.wrap ((a : Int) + (k : Int)) = (a : Int) + (k : Int))
    (hm : (if (a : Int) + (k : Int) < (n : Int) then (a : Int) + (k : Int) else (n : Int)) = (m : Int)) (ham : a ≤ m) (hmc : m ≤ c) (hac : ¬ c = a)
    (HZ : Hid (∀ (W' : World), Same noB w W' → Calls Try.prog 51 #[.slice (some ⟨b, o + a * 15, none⟩) (m - a) (c - a)] W' fun e w2 => ∃ v', e = .returned v' ∧ Same noB W' w2 ∧ Q W' v' w2))
    (HQ : Hid (∀ W' v' w2, Same noB w W' → Q W' v' w2 → Q w v' w2)) :
    Calls Try.prog 19 #[.pointer (some ⟨M, 0, none⟩), .int .i64 i, .int .i64 most] w fun e w' => ∃ v', e = .returned v' ∧ Q w v' w' := by
  have hsl := slice_run (b := b) (o := o) (n := n) ham hmc hac
  have hd : decide ((n : Int) ≤ (a : Int)) = false := decide_eq_false (by omega)
  have hd2 : decide (most ≤ 0) = false := decide_eq_false (by omega)
  have ha' : a < n := by omega
  have HK := Lib.hid hk
  have HM := Lib.hid hm
  have HW4 := Lib.hid hw4
  clear ham hmc hac ha hk hm hw4
  go_enter Try.func19, Try.ntmps19
  go_wp2_with fail
  go_region_held3 (fun w' => w'.cell? ⟨M, 0, none⟩ = some (.int .i64 base))
    (first | with_reducible assumption | go_keep)
    (fail)
  all_goals go_wp2_with fail
  have hk := HK.out
  have hm := HM.out
  have hw4 := HW4.out
  clear hj hw1 hw2 hw3 HK HM HW4
  go_region_held3 (fun w' => w'.cell? ⟨M, 2, none⟩ = some (.slice (some ⟨b, o, none⟩) n c))
    (first | with_reducible assumption | go_keep)
    ((go_at_call 51; (with_reducible refine Calls.mono (HZ.out _ ((Same.refl noB w).drew.drew)) ?_); rintro e W2 ⟨v', rfl, hcp, hq⟩; have HCP := Lib.hid hq; have c2 := (((Same.refl noB w).drew.drew).trans' hcp).cell c2 (fun x => x); clear hcp hq))
  all_goals go_wp2_with fail
  all_goals
    go_ret
    exact ⟨_, rfl, HQ.out _ _ _ ((Same.refl noB w).drew.drew) HCP.out⟩
set_option maxHeartbeats 8000000 in
theorem from_out {w : World} {M a : Nat} {A : Option Addr} {n c : Nat} {base i most j : Int}
    (c0 : w.cell? ⟨M, 0, none⟩ = some (.int .i64 base)) (c2 : w.cell? ⟨M, 2, none⟩ = some (.slice A n c))
    (hj : (if i < base + 1 then base + 1 else i) = j) (hw1 : IntKind.i64.wrap (base + 1) = base + 1) (hw2 : IntKind.i64.wrap (j - base) = (a : Int) + 1) (hw3 : IntKind.i64.wrap (a : Int) = (a : Int)) (ha : n ≤ a) :
    Calls Try.prog 19 #[.pointer (some ⟨M, 0, none⟩), .int .i64 i, .int .i64 most] w fun e w' => e = .returned (.slice none 0 0) ∧ Same noB w w' := by
  have hd : decide ((n : Int) ≤ (a : Int)) = true := decide_eq_true (by omega)
  go_enter Try.func19, Try.ntmps19
  go_wp2_with fail
  go_region_held3 (fun w' => w'.cell? ⟨M, 0, none⟩ = some (.int .i64 base))
    (first | with_reducible assumption | go_keep)
    (fail)
  all_goals go_wp2_with fail
  all_goals
    go_ret
    exact ⟨rfl, (Same.refl _ _).drew⟩
set_option maxHeartbeats 8000000 in
theorem from_few {w : World} {M a : Nat} {A : Option Addr} {n c : Nat} {base i most j : Int}
    (c0 : w.cell? ⟨M, 0, none⟩ = some (.int .i64 base)) (c2 : w.cell? ⟨M, 2, none⟩ = some (.slice A n c))
    (hj : (if i < base + 1 then base + 1 else i) = j) (hw1 : IntKind.i64.wrap (base + 1) = base + 1) (hw2 : IntKind.i64.wrap (j - base) = (a : Int) + 1) (hw3 : IntKind.i64.wrap (a : Int) = (a : Int)) (ha : a < n) (hm : most ≤ 0) :
    Calls Try.prog 19 #[.pointer (some ⟨M, 0, none⟩), .int .i64 i, .int .i64 most] w fun e w' => e = .returned (.slice none 0 0) ∧ Same noB w w' := by
  have hd : decide ((n : Int) ≤ (a : Int)) = false := decide_eq_false (by omega)
  have hd2 : decide (most ≤ 0) = true := decide_eq_true (by omega)
  go_enter Try.func19, Try.ntmps19
  go_wp2_with fail
  go_region_held3 (fun w' => w'.cell? ⟨M, 0, none⟩ = some (.int .i64 base))
    (first | with_reducible assumption | go_keep)
    (fail)
  all_goals go_wp2_with fail
  all_goals
    go_ret
    exact ⟨rfl, (Same.refl _ _).drew⟩
theorem from_any {w : World} {M : Nat} {v : Value} {es : List En} {g : Lg} (h : LogIs w M v es g) (hf : g.Fit) (hsm : ∀ x ∈ g.es, x.c.Sm) {i most : Int} (hi : inI64 i) (hm : inI64 most) :
    Calls Try.prog 19 #[.pointer (some ⟨M, 0, none⟩), .int .i64 i, .int .i64 most] w fun e w' => ∃ v', e = .returned v' ∧ ∃ es', CopyIs w w' v' es' (g.fromL i most) := by
  obtain ⟨A, c, rfl, hc1, hc2⟩ := h.form
  obtain ⟨c0, c1, c2⟩ := h.cells
  have hl := h.len
  have hfl := hf.len
  have hlo := hf.lo
  have hhi := hf.hi
  have hi1 := hi.2
  have hm1 := hm.2
  obtain ⟨j, hj⟩ : ∃ j, (if i < g.base + 1 then g.base + 1 else i) = j := ⟨_, rfl⟩
  have hj1 : g.base + 1 ≤ j := by split at hj <;> omega
  have hj2 : j ≤ 9223372036854775807 := by split at hj <;> omega
  obtain ⟨a, ha⟩ : ∃ a : Nat, j - g.base = (a : Int) + 1 := ⟨(j - g.base - 1).toNat, by omega⟩
  have hat : g.atOf i = a := by unfold Lg.atOf; split at hj <;> omega
  have hw1 : IntKind.i64.wrap (g.base + 1) = g.base + 1 := IntWalk.i64_in _ (by omega)
  have hw2 : IntKind.i64.wrap (j - g.base) = (a : Int) + 1 := by rw [IntWalk.i64_in _ (by omega), ha]
  have hw3 : IntKind.i64.wrap (a : Int) = (a : Int) := IntWalk.i64_in _ (by omega)
  by_cases h2 : a < es.length
  · by_cases h3 : 0 < most
    · obtain ⟨x, hx⟩ : ∃ x, g.es[a]? = some x := ⟨_, List.getElem?_eq_getElem (by omega)⟩
      obtain ⟨b, o, e, hA, _⟩ := h.at_ hx
      subst hA
      obtain ⟨k, hk⟩ : ∃ k : Nat, (if (es.length : Int) < most then (es.length : Int) else most) = (k : Int) := ⟨(if (es.length : Int) < most then (es.length : Int) else most).toNat, by split <;> omega⟩
      have hk1 : k ≤ es.length := by split at hk <;> omega
      have hk2 : 0 < k := by split at hk <;> omega
      obtain ⟨m, hm⟩ : ∃ m : Nat, (if (a : Int) + (k : Int) < (es.length : Int) then (a : Int) + (k : Int) else (es.length : Int)) = (m : Int) := ⟨(if (a : Int) + (k : Int) < (es.length : Int) then (a : Int) + (k : Int) else (es.length : Int)).toNat, by split <;> omega⟩
      have hm2 : a ≤ m := by split at hm <;> omega
      have hm3 : m ≤ es.length := by split at hm <;> omega
      have hL : (g.es.drop a).take (m - a) = g.fromL i most := by
        unfold Lg.fromL
        rw [hat, List.take_eq_take_iff, List.length_drop, ← hl]
        split at hm <;> split at hk <;> omega
      have hen := enl_slice h.enl (a := a) (m := m) hm2 hm3 h2
      have HZ := Lib.hid (fun (W' : World) (hs : Same noB w W') => (copied_any (w := W') (hen.keep hs) (by rw [List.length_take, List.length_drop]; omega) (fun x hx => hsm x (List.mem_of_mem_drop (List.mem_of_mem_take hx)))).mono (R' := fun e w2 => ∃ v', e = .returned v' ∧ Same noB W' w2 ∧ ∃ es', CopyIs W' w2 v' es' (g.fromL i most)) (by
        rintro e w2 ⟨v', es', rfl, hc⟩
        exact ⟨v', rfl, hc.since, es', hL ▸ hc⟩))
      exact from_core c0 c2 hj hw1 hw2 hw3 (by omega) h3 hk (IntWalk.i64_in _ (by omega)) hm hm2 (by omega) (by omega) HZ (Lib.hid fun W' v' w2 hs ⟨es', hc⟩ => ⟨es', hc.before hs⟩)
    · refine (from_few c0 c2 hj hw1 hw2 hw3 h2 (by omega)).mono ?_
      rintro e w' ⟨rfl, hs⟩
      refine ⟨_, rfl, [], ?_⟩
      have : g.fromL i most = [] := by
        unfold Lg.fromL
        rw [show most.toNat = 0 from by omega, List.take_zero]
      rw [this]
      exact copy_nil hs
  · refine (from_out c0 c2 hj hw1 hw2 hw3 (by omega)).mono ?_
    rintro e w' ⟨rfl, hs⟩
    refine ⟨_, rfl, [], ?_⟩
    have : g.fromL i most = [] := by
      unfold Lg.fromL
      rw [hat, List.drop_eq_nil_of_le (by omega), List.take_nil]
    rw [this]
    exact copy_nil hs
end Go.Proofs.Ytlocfbjeljgblaa
