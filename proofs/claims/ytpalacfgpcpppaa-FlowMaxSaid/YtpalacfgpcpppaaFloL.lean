/- A range over a map that reads as a partial function, in whatever order, over any program. -/
import Derived.Test.YtpalacfgpcpppaaMaps
import Derived.Maps.RangeWalk
namespace Go.Proofs.Ytpalacfgpcpppaa
open Go Go.RowKit Go.Maps
open Go.MapKept (Stamped stamped_iff)
open Go.ChangeMaps (setBlock)
section
variable {P : Program} {kt : TypeId} {κ : Type}
theorem sb_other {w : World} {r k : Nat} (o : Obj) (h : k ≠ r) : (setBlock w r o).heap[k]? = w.heap[k]? := by
  simp [setBlock, Ne.symm h]
theorem sb_same {w : World} {r : Nat} (o : Obj) (h : r < w.heap.size) : (setBlock w r o).heap[r]? = some o := by
  simp [setBlock, h]
/-- Block r is an iterator over block b, a map that holds what f says; done: the keys that have come; cnt are still to come. -/
def MapIt (E : KeyEnc P kt κ) (w : World) (b r : Nat) (f : κ → Option Value) (done : κ → Bool) (cnt : Nat) : Prop :=
  ∃ es clock since c0 seen, w.heap[b]? = some (.map es clock) ∧ Stamped es clock ∧ Ents E es.toList f ∧ w.heap[r]? = some (.mapIter (some b) since seen c0) ∧ since ≤ c0 ∧ since ≤ clock ∧ (∀ x ∈ es.toList, x.born < since) ∧
    (∀ e ∈ es.toList, ∀ k, e.key = E.enc k → done k = seen.contains e.born) ∧ (leftOf es seen).size = cnt
variable {E : KeyEnc P kt κ} {w w' : World} {b r n cnt : Nat} {f : κ → Option Value} {done : κ → Bool}
theorem MapIt.same {S : Nat → Prop} (h : MapIt E w b r f done cnt) (hs : Same S w w') (hb : ¬ S b) (hr : ¬ S r) : MapIt E w' b r f done cnt := by
  obtain ⟨es, clock, since, c0, seen, h1, h2, h3, h4, h5⟩ := h
  exact ⟨es, clock, since, c0, seen, hs.heap h1 hb, h2, h3, hs.heap h4 hr, h5⟩
theorem MapIt.lt (h : MapIt E w b r f done cnt) : b < w.heap.size ∧ r < w.heap.size := by
  obtain ⟨es, clock, since, c0, seen, h1, h2, h3, h4, h5⟩ := h
  exact ⟨lt_of_heap h1, lt_of_heap h4⟩
theorem MapIt.ne_blk (h : MapIt E w b r f done cnt) {g : Nat} {t : TypeId} {cs : Array Value} (hg : Blk w g t cs) : b ≠ g ∧ r ≠ g := by
  obtain ⟨es, clock, since, c0, seen, h1, h2, h3, h4, h5⟩ := h
  constructor
  · rintro rfl
    rw [show w.heap[b]? = _ from hg] at h1
    cases h1
  · rintro rfl
    rw [show w.heap[r]? = _ from hg] at h4
    cases h4
theorem MapF.range (h : MapF E w b n f) {t e : TypeId} (ht : P.underlying t = some (.map kt e)) :
    (Instr.range t (.map (some b))).run P w = .ok (.pointer (some ⟨w.heap.size, 0, none⟩)) (w.alloc (.mapIter (some b) h.choose_spec.choose #[] h.choose_spec.choose)) ∧
    ∃ cnt, cnt ≤ n ∧ MapIt E (w.alloc (.mapIter (some b) h.choose_spec.choose #[] h.choose_spec.choose)) b w.heap.size f (fun _ => false) cnt := by
  have hc := h.choose_spec.choose_spec
  generalize h.choose_spec.choose = clock at hc ⊢
  generalize h.choose = es at hc
  obtain ⟨hb, hst, hs, H⟩ := hc
  have hl : (leftOf es #[]).size ≤ n := Nat.le_trans (by unfold leftOf; exact Array.size_filter_le ..) hs
  refine ⟨run_range_map w t kt e b es clock ht hb, _, hl, es, clock, clock, clock, #[], (Go.heap_alloc_old w _ (lt_of_heap hb)).trans hb, hst, H, Go.heap_alloc_new w _, Nat.le_refl _, Nat.le_refl _, ((stamped_iff es clock).1 hst).1, fun e _ k _ => by simp, rfl⟩
theorem MapIt.next [DecidableEq κ] (h : MapIt E w b r f done cnt) (ty : TypeId) :
    (cnt = 0 ∧ (∀ k v, f k = some v → done k = true) ∧ (Instr.next (.pointer (some ⟨r, 0, none⟩)) false ty).run P w = .ok (.tuple #[.bool false]) w) ∨
    ∃ k v w' cnt', f k = some v ∧ done k = false ∧ E.ok k ∧ cnt' < cnt ∧ (Instr.next (.pointer (some ⟨r, 0, none⟩)) false ty).run P w = .ok (.tuple #[.bool true, E.enc k, v]) w' ∧
      MapIt E w' b r f (fun x => if x = k then true else done x) cnt' ∧ w.grownBy w' (some r) ∧ (Instr.entry (.pointer (some ⟨r, 0, none⟩))).run P w' = .ok (.tuple #[E.enc k, v]) w' := by
  obtain ⟨es, clock, since, c0, seen, hb, hst, H, hr, hsc, hcl, hold, hdone, hcnt⟩ := h
  obtain ⟨_, hnd, hpw⟩ := (stamped_iff es clock).1 hst
  have hbr : b ≠ r := by
    rintro rfl
    rw [hb] at hr
    cases hr
  rcases run_next_at (P := P) w ty r b since c0 seen es clock hr hb hold hsc with ⟨h0, hrun⟩ | ⟨e, he, w1, hw1, hrun⟩
  · left
    refine ⟨by omega, fun k v hk => ?_, hrun⟩
    obtain ⟨x, hx, h1, _⟩ := (H.holds k v).1 hk
    rw [hdone x hx k h1]
    exact all_seen es seen h0 x hx
  · right
    obtain ⟨hm, hns⟩ := mem_left he
    obtain ⟨k, hk, hek⟩ := H.keys e hm
    have hf : f k = some e.val := (H.holds k e.val).2 ⟨e, hm, hek, rfl⟩
    have hw1h : w1.heap = w.heap := by rcases hw1 with rfl | rfl <;> rfl
    have hr1 : w1.heap[r]? = some (.mapIter (some b) since seen c0) := by rw [hw1h]; exact hr
    have hb2 : (setBlock w1 r (.mapIter (some b) since (seen.push e.born) clock)).heap[b]? = some (.map es clock) := by
      rw [sb_other _ hbr, hw1h]
      exact hb
    have hr2 := sb_same (.mapIter (some b) since (seen.push e.born) clock) (lt_of_heap hr1)
    refine ⟨k, e.val, _, _, hf, by rw [hdone e hm k hek]; exact hns, hk, by rw [← hcnt]; exact left_shrinks es seen e he, by rw [hrun, hek], ⟨es, clock, since, clock, seen.push e.born, hb2, hst, H, hr2, hcl, hcl, hold, fun x hx y hy => ?_, rfl⟩, ?_, ?_⟩
    · by_cases e1 : y = k
      · subst e1
        have : x = e := entry_eq_of_key hpw hx hm (hy.trans hek.symm)
        subst this
        simp
      · have hne : x.born ≠ e.born := by
          intro hbb
          have hxe : x = e := by
            obtain ⟨i, hi, rfl⟩ := List.getElem_of_mem hx
            obtain ⟨j, hj, rfl⟩ := List.getElem_of_mem hm
            have := List.nodup_iff_pairwise_ne.1 hnd
            rw [List.pairwise_map] at this
            rcases Nat.lt_trichotomy i j with hlt | rfl | hlt
            · exact absurd hbb (List.pairwise_iff_getElem.1 this i j hi hj hlt)
            · rfl
            · exact absurd hbb.symm (List.pairwise_iff_getElem.1 this j i hj hi hlt)
          subst hxe
          exact e1 (E.inj _ _ (hy.symm.trans hek))
        show (if y = k then true else done y) = _
        rw [if_neg e1, hdone x hx y hy]
        simp [hne]
    · refine ⟨?_, ?_, ?_, ?_, fun i _ hi => ?_⟩
      · rcases hw1 with rfl | rfl <;> rfl
      · rcases hw1 with rfl | rfl <;> rfl
      · rcases hw1 with rfl | rfl <;> rfl
      · show w.heap.size ≤ (w1.heap.setIfInBounds _ _).size
        simp [hw1h]
      · rw [sb_other _ (fun e => hi (by rw [e])), hw1h]
    · rw [← hek]
      exact run_entry_at _ r b since seen es clock e hr2 hb2 hm hnd
end
section
variable {P : Program} {kt : TypeId} {κ : Type} {E : KeyEnc P kt κ} {b r n cnt : Nat} {f : κ → Option Value} {done : κ → Bool} {w : World} {ops : Array Oper} {rest : List Oper} {o : Oper} {a : Act} {Q : Exit → Act → World → Prop}
theorem wpL_range (hg : o.guard = none) (m : Operand) (t e : TypeId) (hop : o.op = Op.range t m) (ht : P.underlying t = some (.map kt e)) (hm : a.eval m = .map (some b)) (h : MapF E w b n f)
    (hK : ∀ w' cnt, MapIt E w' b w.heap.size f (fun _ => false) cnt → cnt ≤ n → Same noB w w' → w'.heap.size = w.heap.size + 1 → wpList P ops Q rest (a.put o.dst (.pointer (some ⟨w.heap.size, 0, none⟩))) w') : wpList P ops Q (o :: rest) a w := by
  refine wpList_plain hg fun K' hK' => ?_
  obtain ⟨hrun, cnt, hc, hit⟩ := h.range ht
  unfold Oper.wp
  simp [execOp, hop, hm, hrun, Result.andThen]
  exact hK' _ _ (hK _ cnt hit hc ((Same.refl _ _).alloc _) (by simp))
theorem wpL_next [DecidableEq κ] (hg : o.guard = none) (it : Operand) (hop : o.op = Op.next it false) (hit : a.eval it = .pointer (some ⟨r, 0, none⟩)) (h : MapIt E w b r f done cnt)
    (hDone : cnt = 0 → (∀ k v, f k = some v → done k = true) → wpList P ops Q rest (a.put o.dst (.tuple #[.bool false])) w)
    (hMore : ∀ k v w' cnt', f k = some v → done k = false → E.ok k → cnt' < cnt → MapIt E w' b r f (fun x => if x = k then true else done x) cnt' → w.grownBy w' (some r) → (Instr.entry (.pointer (some ⟨r, 0, none⟩))).run P w' = .ok (.tuple #[E.enc k, v]) w' →
      wpList P ops Q rest (a.put o.dst (.tuple #[.bool true, E.enc k, v])) w') : wpList P ops Q (o :: rest) a w := by
  refine wpList_plain hg fun K' hK' => ?_
  unfold Oper.wp
  rcases h.next o.type with ⟨h0, h1, hrun⟩ | ⟨k, v, w', cnt', h1, h2, h3, h4, hrun, h5, h6, h7⟩
  · simp [execOp, hop, hit, hrun, Result.andThen]
    exact hK' _ _ (hDone h0 h1)
  · simp [execOp, hop, hit, hrun, Result.andThen]
    exact hK' _ _ (hMore k v w' cnt' h1 h2 h3 h4 h5 h6 h7)
end
end Go.Proofs.Ytpalacfgpcpppaa
