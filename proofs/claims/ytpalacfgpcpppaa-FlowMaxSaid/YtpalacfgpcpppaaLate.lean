/- A drawn region whose loads are taken first although late stores hit their cells: the condition on the world is asked behind an operation only if that operation may come ahead of a load. Over any program. -/
import Derived.Deep.RegionHeld3
namespace Go.Proofs.Ytpalacfgpcpppaa
open Go

section
variable {P : Program} {ops : Array Oper} {Q : Exit → Act → World → Prop} {md : Region.Mode} {S : World → Prop} {late : Nat → Bool}

/-- Whatever order is picked; S is shown behind each operation that is not late. -/
def AnyT (P : Program) (md : Region.Mode) (ops : Array Oper) (Q : Exit → Act → World → Prop) (S : World → Prop) (late : Nat → Bool) : Nat → Array Bool → Act → World → Prop
  | 0, l, a, w => Region.ready md ops l = [] ∧ Q .normal a w
  | n + 1, l, a, w => (Region.ready md ops l = [] → Q .normal a w) ∧ ∀ j ∈ Region.ready md ops l, wpOp P ops Q j (fun a' w' => (late j = false → S w → S w') ∧ AnyT P md ops Q S late n (l.setIfInBounds j true) a' w') a w
theorem any_of_T : ∀ (n : Nat) (l : Array Bool) (a : Act) (w : World), AnyT P md ops Q S late n l a w → wpAny P md ops Q n l a w
  | 0, _, _, _, h => h
  | n + 1, _, _, _, h => ⟨h.1, fun j hj => wpOp_mono (fun a' w' k => any_of_T n _ a' w' k.2) (h.2 j hj)⟩
def lateOk (md : Region.Mode) (ops : Array Oper) (late : Nat → Bool) (i : Nat) : Bool :=
  (List.range ops.size).all fun j => !late j || match ops[j]? with | some o => o.after.any (fun e => Region.binds md e && e.on == i) | none => true
theorem lateOk_spec {i j : Nat} {o : Oper} (h : lateOk md ops late i = true) (ho : ops[j]? = some o) (hl : late j = true) : ∃ e ∈ o.after, Region.binds md e = true ∧ e.on = i := by
  unfold lateOk at h
  have h1 := List.all_eq_true.1 h j (List.mem_range.2 (Array.getElem?_eq_some_iff.1 ho).1)
  rw [hl, ho] at h1
  have h2 : o.after.any (fun e => Region.binds md e && e.on == i) = true := by simpa using h1
  obtain ⟨k, hk, he⟩ := Array.any_eq_true.1 h2
  exact ⟨o.after[k], Array.getElem_mem hk, by simpa using he⟩
/-- A ready operation waits for nothing that has not come up. -/
theorem ready_not {i j : Nat} {o : Oper} {l : Array Bool} (hi : i ∈ Region.ready md ops l) (hj : j ∈ Region.ready md ops l) (ho : ops[j]? = some o) : ∀ e ∈ o.after, Region.binds md e = true → e.on ≠ i := by
  intro e he hb heq
  obtain ⟨_, o', ho', hall⟩ := mem_ready.1 hj
  rw [ho] at ho'
  injection ho' with ho'
  subst ho'
  have h1 := hall e he hb
  have h0 := (mem_ready.1 hi).1
  rw [heq] at h1
  by_cases hs : i < l.size
  · simp [hs] at h0 h1
    rw [h0] at h1
    cases h1
  · simp [Array.getElem?_eq_none (by omega : l.size ≤ i)] at h1
theorem T_first {i : Nat} {oi : Oper} {v : Value} (hi : ops[i]? = some oi) (hsel : ∀ (j : Nat) (o : Oper) cs b, ops[j]? = some o → o.op ≠ .select cs b) (hlate : lateOk md ops late i = true)
    (hQ : ∀ c a w, Q (.panic c) (a.put oi.dst v) w → Q (.panic c) a w) :
    ∀ (n : Nat) (l : Array Bool) (a : Act) (w : World),
      (∀ j oj, ops[j]? = some oj → j ≠ i → l.getD j true = false → (∀ e ∈ oj.after, Region.binds md e = true → e.on ≠ i) → oi.apart ops oj = true) →
      i ∈ Region.ready md ops l → YieldsIf P ops S oi v a → S w → AnyT P md ops Q S late n (l.setIfInBounds i true) (a.put oi.dst v) w → AnyT P md ops Q S late (n + 1) l a w := by
  intro n
  induction n with
  | zero =>
    intro l a w _ hr hy hS H
    refine ⟨fun h => (by rw [h] at hr; cases hr), fun j hj => ?_⟩
    by_cases e : j = i
    · subst e
      exact hy.wpOp hi hS ⟨fun _ _ => hS, H⟩
    · have := ready_mono hj e
      rw [H.1] at this
      cases this
  | succ n ih =>
    intro l a w hfree hr hy hS H
    refine ⟨fun h => (by rw [h] at hr; cases hr), fun j hj => ?_⟩
    by_cases e : j = i
    · subst e
      exact hy.wpOp hi hS ⟨fun _ _ => hS, H⟩
    · obtain ⟨hun, oj, hoj, _⟩ := mem_ready.1 hj
      have hno := ready_not hr hj hoj
      have hl : late j = false := by
        cases hl : late j with
        | false => rfl
        | true =>
          obtain ⟨e', he, hb, ho⟩ := lateOk_spec hlate hoj hl
          exact absurd ho (hno e' he hb)
      have h2 := wpOp_putIf hoj (hfree j oj hoj e hun hno) (fun cs b => hsel i oi cs b hi) (fun cs b => hsel j oj cs b hoj) hQ hy (H.2 j (ready_mono hj e))
      refine wpOp_mono (fun a' w' h3 => ⟨h3.2.1, ih (l.setIfInBounds j true) a' w' (fun k ok hk hki hku hkn => ?_) (ready_mono hr (Ne.symm e)) h3.1 (h3.2.1 hl hS) ?_⟩) h2
      · refine hfree k ok hk hki ?_ hkn
        by_cases hjk : j = k
        · subst hjk; exact hun
        · rw [getD_set_ne true hjk] at hku
          exact hku
      · rw [Array.setIfInBounds_comm _ _ e]
        exact h3.2.2
/-- One that yields in whatever world. -/
theorem T_firstP {i : Nat} {oi : Oper} {v : Value} (hi : ops[i]? = some oi) (hsel : ∀ (j : Nat) (o : Oper) cs b, ops[j]? = some o → o.op ≠ .select cs b)
    (hQ : ∀ c a w, Q (.panic c) (a.put oi.dst v) w → Q (.panic c) a w) :
    ∀ (n : Nat) (l : Array Bool) (a : Act) (w : World),
      (∀ j oj, ops[j]? = some oj → j ≠ i → l.getD j true = false → (∀ e ∈ oj.after, Region.binds md e = true → e.on ≠ i) → oi.apart ops oj = true) →
      i ∈ Region.ready md ops l → YieldsIf P ops (fun _ => True) oi v a → AnyT P md ops Q S late n (l.setIfInBounds i true) (a.put oi.dst v) w → AnyT P md ops Q S late (n + 1) l a w := by
  intro n
  induction n with
  | zero =>
    intro l a w _ hr hy H
    refine ⟨fun h => (by rw [h] at hr; cases hr), fun j hj => ?_⟩
    by_cases e : j = i
    · subst e
      exact hy.wpOp hi trivial ⟨fun _ hS => hS, H⟩
    · have := ready_mono hj e
      rw [H.1] at this
      cases this
  | succ n ih =>
    intro l a w hfree hr hy H
    refine ⟨fun h => (by rw [h] at hr; cases hr), fun j hj => ?_⟩
    by_cases e : j = i
    · subst e
      exact hy.wpOp hi trivial ⟨fun _ hS => hS, H⟩
    · obtain ⟨hun, oj, hoj, _⟩ := mem_ready.1 hj
      have hno := ready_not hr hj hoj
      have h2 := wpOp_putIf hoj (hfree j oj hoj e hun hno) (fun cs b => hsel i oi cs b hi) (fun cs b => hsel j oj cs b hoj) hQ hy (H.2 j (ready_mono hj e))
      refine wpOp_mono (fun a' w' h3 => ⟨h3.2.1, ih (l.setIfInBounds j true) a' w' (fun k ok hk hki hku hkn => ?_) (ready_mono hr (Ne.symm e)) h3.1 ?_⟩) h2
      · refine hfree k ok hk hki ?_ hkn
        by_cases hjk : j = k
        · subst hjk; exact hun
        · rw [getD_set_ne true hjk] at hku
          exact hku
      · rw [Array.setIfInBounds_comm _ _ e]
        exact h3.2.2
theorem T_take {i : Nat} {oi : Oper} {v : Value} {n : Nat} {l : Array Bool} {a : Act} {w : World} (hi : ops[i]? = some oi) (hs : Region.noSelect ops = true) (hf : Region.free md ops l i = true) (hr : (Region.ready md ops l).contains i = true) (hlate : lateOk md ops late i = true)
    (hQ : ∀ c a w, Q (.panic c) (a.put oi.dst v) w → Q (.panic c) a w) (hy : YieldsIf P ops S oi v a) (hS : S w)
    (h : AnyT P md ops Q S late n (l.setIfInBounds i true) (a.put oi.dst v) w) : AnyT P md ops Q S late (n + 1) l a w :=
  T_first hi (Region.noSelect_spec hs) hlate hQ n l a w (Region.free_spec hi hf) (by simpa using hr) hy hS h
theorem T_pure {i : Nat} {oi : Oper} {v : Value} {n : Nat} {l : Array Bool} {a : Act} {w : World} (hi : ops[i]? = some oi) (hs : Region.noSelect ops = true) (hf : Region.free md ops l i = true) (hr : (Region.ready md ops l).contains i = true)
    (hQ : ∀ c a w, Q (.panic c) (a.put oi.dst v) w → Q (.panic c) a w) (hy : YieldsIf P ops (fun _ => True) oi v a)
    (h : AnyT P md ops Q S late n (l.setIfInBounds i true) (a.put oi.dst v) w) : AnyT P md ops Q S late (n + 1) l a w :=
  T_firstP hi (Region.noSelect_spec hs) hQ n l a w (Region.free_spec hi hf) (by simpa using hr) hy h
theorem T_done {l : Array Bool} {a : Act} {w : World} (hr : Region.ready md ops l = []) (h : Q .normal a w) : ∀ n, AnyT P md ops Q S late n l a w
  | 0 => ⟨hr, h⟩
  | _ + 1 => ⟨fun _ => h, by rw [hr]; simp⟩
def ReadyT (P : Program) (md : Region.Mode) (ops : Array Oper) (Q : Exit → Act → World → Prop) (S : World → Prop) (late : Nat → Bool) (n : Nat) (l : Array Bool) (a : Act) (w : World) (rs : List Nat) : Prop :=
  ∀ j ∈ rs, wpOp P ops Q j (fun a' w' => (late j = false → S w → S w') ∧ AnyT P md ops Q S late n (l.setIfInBounds j true) a' w') a w
theorem ReadyT.nil {n : Nat} {l : Array Bool} {a : Act} {w : World} : ReadyT P md ops Q S late n l a w [] := fun _ h => by cases h
/-- An operation that comes up, not late: S anew. -/
theorem ReadyT.early {n : Nat} {l : Array Bool} {a : Act} {w : World} {i : Nat} {o : Oper} {rs : List Nat} (ho : ops[i]? = some o)
    (h : ∀ K' : Act → World → Prop, Shut (∀ a w, S w → (S w → AnyT P md ops Q S late n (l.setIfInBounds i true) a w) → K' a w) → if Region.wanted o (yielded ops a.tmps) = true then Oper.wp P o a w K' Q else K' (a.put o.dst undef) w)
    (hs : ReadyT P md ops Q S late n l a w rs) : ReadyT P md ops Q S late n l a w (i :: rs) := fun j hj => by
  rcases List.mem_cons.1 hj with rfl | hj
  · exact wpOp_step ho (fun K' hK => h K' (fun a w hS hW => hK a w ⟨fun _ _ => hS, hW hS⟩))
  · exact hs j hj
/-- A late one: nothing is asked. -/
theorem ReadyT.behind {n : Nat} {l : Array Bool} {a : Act} {w : World} {i : Nat} {o : Oper} {rs : List Nat} (ho : ops[i]? = some o) (hl : late i = true)
    (h : ∀ K' : Act → World → Prop, Shut (∀ a w, AnyT P md ops Q S late n (l.setIfInBounds i true) a w → K' a w) → if Region.wanted o (yielded ops a.tmps) = true then Oper.wp P o a w K' Q else K' (a.put o.dst undef) w)
    (hs : ReadyT P md ops Q S late n l a w rs) : ReadyT P md ops Q S late n l a w (i :: rs) := fun j hj => by
  rcases List.mem_cons.1 hj with rfl | hj
  · exact wpOp_step ho (fun K' hK => h K' (fun a w hW => hK a w ⟨fun h0 => (by rw [hl] at h0; cases h0), hW⟩))
  · exact hs j hj
theorem T_ready {rs : List Nat} {n : Nat} {l : Array Bool} {a : Act} {w : World} (hr : Region.ready md ops l = rs) (hne : rs ≠ []) (h : ReadyT P md ops Q S late n l a w rs) : AnyT P md ops Q S late (n + 1) l a w :=
  ⟨fun h0 => absurd (hr ▸ h0) hne, hr ▸ h⟩
theorem wp_region_T {id : Nat} {a : Act} {w : World} (hm : P.follows .mixedOrders = true) (hS : S w.drew) (h : S w.drew → AnyT P .any ops Q S late ops.size (Array.replicate ops.size false) a w.drew) : (Code.region id ops true).wp P Q a w :=
  wp_region_any hm (any_of_T _ _ _ _ (h hS))
end
end Go.Proofs.Ytpalacfgpcpppaa
