/- A map in memory as a partial function of its keys, over any program. -/
import Derived.Test.YtpalacfgpcpppaaMem
import Derived.Maps.OwnSet
namespace Go.Proofs.Ytpalacfgpcpppaa
open Go Go.RowKit Go.Maps
open Go.MapKept (Stamped stamped_iff stamped_push stamped_modify stamped_erase stamped_empty)
open Go.ChangeMaps (setBlock heap_setBlock_same heap_setBlock_other modify_eq_set)

/-- Keys as plain data. -/
structure KeyEnc (P : Program) (kt : TypeId) (κ : Type) where
  enc : κ → Value
  ok : κ → Prop
  law : Keyed P kt
  key : ∀ k, ok k → ∃ l, keyOf P kt (enc k) = some l
  inj : ∀ k k', enc k = enc k' → k = k'

section
variable {P : Program} {kt : TypeId} {κ : Type}

/-- The entries of a map that holds what f says. -/
structure Ents (E : KeyEnc P kt κ) (es : List MapEntry) (f : κ → Option Value) : Prop where
  keys : ∀ e ∈ es, ∃ k, E.ok k ∧ e.key = E.enc k
  holds : ∀ k v, f k = some v ↔ ∃ e ∈ es, e.key = E.enc k ∧ e.val = v

/-- Block b is a map of at most n entries that holds what f says. -/
def MapF (E : KeyEnc P kt κ) (w : World) (b n : Nat) (f : κ → Option Value) : Prop :=
  ∃ es clock, w.heap[b]? = some (.map es clock) ∧ Stamped es clock ∧ es.size ≤ n ∧ Ents E es.toList f

variable {E : KeyEnc P kt κ} {w w' : World} {b n : Nat} {f : κ → Option Value}

theorem MapF.made (E : KeyEnc P kt κ) (w : World) : MapF E (w.alloc (.map #[] 0)) w.heap.size 0 (fun _ => none) :=
  ⟨#[], 0, (MapKept.heap_alloc w _).1, stamped_empty 0, by simp, ⟨by simp, by simp⟩⟩
theorem MapF.lt (h : MapF E w b n f) : b < w.heap.size := by obtain ⟨es, c, hb, _⟩ := h; exact lt_of_heap hb
theorem MapF.same {S : Nat → Prop} (h : MapF E w b n f) (hs : Same S w w') (hn : ¬ S b) : MapF E w' b n f := by
  obtain ⟨es, c, hb, r⟩ := h
  exact ⟨es, c, hs.heap hb hn, r⟩
theorem MapF.ne_blk {g : Nat} {t : TypeId} {cs : Array Value} (h : MapF E w b n f) (hg : Blk w g t cs) : b ≠ g := by
  rintro rfl
  obtain ⟨es, c, hb, _⟩ := h
  unfold Blk at hg
  rw [hg] at hb
  cases hb
theorem MapF.mono (h : MapF E w b n f) {n' : Nat} (hn : n ≤ n') : MapF E w b n' f := by
  obtain ⟨es, c, hb, h1, h2, h3⟩ := h
  exact ⟨es, c, hb, h1, Nat.le_trans h2 hn, h3⟩

variable {es : List MapEntry}
theorem Ents.find (h : Ents E es f) (w : World) {k : κ} (hk : E.ok k) :
    ((Instr.findKey kt (E.enc k) es).run P w = .ok none w ∧ (∀ e ∈ es, e.key ≠ E.enc k) ∧ f k = none) ∨ ∃ j e, (Instr.findKey kt (E.enc k) es).run P w = .ok (some (j, e.val)) w ∧ es[j]? = some e ∧ e.key = E.enc k ∧ f k = some e.val := by
  obtain ⟨l, hl⟩ := E.key k hk
  rcases E.law.find w hl es (fun e he => by obtain ⟨k', hk', e1⟩ := h.keys e he; rw [e1]; exact E.key k' hk') with ⟨h1, h2⟩ | ⟨j, e, h1, h2, h3⟩
  · refine .inl ⟨h1, h2, ?_⟩
    cases hf : f k with
    | none => rfl
    | some v =>
      obtain ⟨e, he, e1, _⟩ := (h.holds k v).1 hf
      exact absurd e1 (h2 e he)
  · exact .inr ⟨j, e, h1, h2, h3, (h.holds k e.val).2 ⟨e, List.mem_of_getElem? h2, h3, rfl⟩⟩

/-- m[k], without and with ok. -/
theorem MapF.lookup (h : MapF E w b n f) {t e : TypeId} (ht : P.underlying t = some (.map kt e)) {z : Value} (hz : (zeroValue e).run P w = .ok z w) {k : κ} (hk : E.ok k) (c : Bool) :
    (Instr.lookup t (.map (some b)) (E.enc k) c).run P w = .ok (if c then .tuple #[(f k).getD z, .bool (f k).isSome] else (f k).getD z) w := by
  obtain ⟨es, cl, hb, hst, hs, H⟩ := h
  obtain ⟨l, hl⟩ := E.key k hk
  rcases H.find w hk with ⟨h1, _, h2⟩ | ⟨j, x, h1, _, _, h2⟩
  · cases c <;> simp [Instr.lookup, run_underlying ht, MapKept.run_getObj_map hb, E.law.check w _ hl, h1, hz, h2, Result.andThen]
  · cases c <;> simp [Instr.lookup, run_underlying ht, MapKept.run_getObj_map hb, E.law.check w _ hl, h1, h2, Result.andThen]

theorem lookup_nil (E : KeyEnc P kt κ) {t e : TypeId} (ht : P.underlying t = some (.map kt e)) {z : Value} (hz : (zeroValue e).run P w = .ok z w) {k : κ} (hk : E.ok k) (c : Bool) :
    (Instr.lookup t (.map none) (E.enc k) c).run P w = .ok (if c then .tuple #[z, .bool false] else z) w := by
  obtain ⟨l, hl⟩ := E.key k hk
  exact Maps.look_nil c E.law ht hz hl

variable [DecidableEq κ]
def upd (f : κ → Option Value) (k : κ) (v : Value) : κ → Option Value := fun k' => if k' = k then some v else f k'
def ers (f : κ → Option Value) (k : κ) : κ → Option Value := fun k' => if k' = k then none else f k'

theorem Ents.push (H : Ents E es f) {k : κ} (hk : E.ok k) (hne : ∀ e ∈ es, e.key ≠ E.enc k) (v : Value) (born : Nat) : Ents E (es ++ [⟨E.enc k, v, born⟩]) (upd f k v) := by
  refine ⟨fun e he => ?_, fun k' v' => ?_⟩
  · rcases List.mem_append.1 he with he | he
    · exact H.keys e he
    · simp at he
      subst he
      exact ⟨k, hk, rfl⟩
  · unfold upd
    by_cases e : k' = k
    · subst e
      rw [if_pos rfl]
      constructor
      · intro h
        injection h with h
        exact ⟨⟨E.enc k', v, born⟩, by simp, rfl, h⟩
      · rintro ⟨e, he, e1, e2⟩
        rcases List.mem_append.1 he with he | he
        · exact absurd e1 (hne e he)
        · simp at he
          subst he
          rw [← e2]
    · rw [if_neg e, H.holds]
      constructor
      · rintro ⟨x, hx, e1, e2⟩
        exact ⟨x, List.mem_append_left _ hx, e1, e2⟩
      · rintro ⟨x, hx, e1, e2⟩
        rcases List.mem_append.1 hx with hx | hx
        · exact ⟨x, hx, e1, e2⟩
        · simp at hx
          subst hx
          exact absurd (E.inj _ _ e1).symm e

theorem Ents.set_ (H : Ents E es f) (hp : es.Pairwise (fun x y => x.key ≠ y.key)) {k : κ} {j : Nat} {e : MapEntry} (hj : es[j]? = some e) (hek : e.key = E.enc k) (hk : E.ok k) (v : Value) : Ents E (es.set j { e with key := E.enc k, val := v }) (upd f k v) := by
  have hjl : j < es.length := (List.getElem?_eq_some_iff.1 hj).1
  have hmem : ∀ x, x ∈ es.set j { e with key := E.enc k, val := v } → x = { e with key := E.enc k, val := v } ∨ (x ∈ es ∧ x.key ≠ E.enc k) := by
    intro x hx
    obtain ⟨i, hi, rfl⟩ := List.getElem_of_mem hx
    rw [List.length_set] at hi
    by_cases hij : i = j
    · subst hij
      left
      rw [List.getElem_set]
      simp
    · right
      rw [List.getElem_set, if_neg (fun h => hij h.symm)]
      refine ⟨List.getElem_mem _, fun hx => ?_⟩
      have hej : es[j] = e := (List.getElem?_eq_some_iff.1 hj).2
      rcases Nat.lt_or_gt_of_ne hij with hlt | hlt
      · exact List.pairwise_iff_getElem.1 hp i j hi hjl hlt (by rw [hej, hx, hek])
      · exact List.pairwise_iff_getElem.1 hp j i hjl hi hlt (by rw [hej, hx, hek])
  have hnew : ({ e with key := E.enc k, val := v } : MapEntry) ∈ es.set j { e with key := E.enc k, val := v } := List.mem_iff_getElem.2 ⟨j, by simpa using hjl, by simp⟩
  have hold : ∀ x ∈ es, x.key ≠ E.enc k → x ∈ es.set j { e with key := E.enc k, val := v } := by
    intro x hx hne
    obtain ⟨i, hi, rfl⟩ := List.getElem_of_mem hx
    refine List.mem_iff_getElem.2 ⟨i, by simpa using hi, ?_⟩
    rw [List.getElem_set, if_neg]
    rintro rfl
    have hej : es[j] = e := (List.getElem?_eq_some_iff.1 hj).2
    exact hne (by rw [hej]; exact hek)
  refine ⟨fun x hx => ?_, fun k' v' => ?_⟩
  · rcases hmem x hx with rfl | ⟨hx, _⟩
    · exact ⟨k, hk, rfl⟩
    · exact H.keys x hx
  · unfold upd
    by_cases e1 : k' = k
    · subst e1
      rw [if_pos rfl]
      constructor
      · intro h
        injection h with h
        exact ⟨_, hnew, rfl, h⟩
      · rintro ⟨x, hx, e1, e2⟩
        rcases hmem x hx with rfl | ⟨_, hne⟩
        · rw [← e2]
        · exact absurd e1 hne
    · rw [if_neg e1, H.holds]
      constructor
      · rintro ⟨x, hx, e2, e3⟩
        exact ⟨x, hold x hx (fun h => e1 (E.inj _ _ (e2.symm.trans h))), e2, e3⟩
      · rintro ⟨x, hx, e2, e3⟩
        rcases hmem x hx with rfl | ⟨hx, _⟩
        · exact absurd (E.inj _ _ e2).symm e1
        · exact ⟨x, hx, e2, e3⟩

/-- m[k] = v. -/
theorem MapF.store (h : MapF E w b n f) {t e : TypeId} (ht : P.underlying t = some (.map kt e)) {k : κ} (hk : E.ok k) (v : Value) :
    ∃ w', (Instr.mapUpdate t (.map (some b)) (E.enc k) v).run P w = .ok () w' ∧ MapF E w' b (n + 1) (upd f k v) ∧ w.grownBy w' (some b) := by
  obtain ⟨es, cl, hb, hst, hs, H⟩ := h
  obtain ⟨l, hl⟩ := E.key k hk
  have hpw := ((stamped_iff es cl).1 hst).2.2
  rcases H.find w hk with ⟨h1, h2, _⟩ | ⟨j, x, h1, h2, h3, _⟩
  · refine ⟨setBlock w b (.map (es.push ⟨E.enc k, v, cl⟩) (cl + 1)), by simp [Instr.mapUpdate, run_underlying ht, MapKept.run_getObj_map hb, E.law.check w false hl, h1, MapKept.run_setObj_map _ hb, Result.andThen, setBlock],
      ⟨_, _, heap_setBlock_same hb _, stamped_push hst h2, by simp; omega, by rw [Array.toList_push]; exact H.push hk h2 v cl⟩, ⟨rfl, rfl, rfl, by simp [setBlock], fun i _ hi => heap_setBlock_other hb _ (fun e => hi (by rw [e]))⟩⟩
  · have hj : es[j]? = some x := by simpa using h2
    have hkeyf : ∀ e', es[j]? = some e' → ({ e' with key := E.enc k, val := v } : MapEntry).key = e'.key := fun e' he' => by rw [hj] at he'; cases he'; exact h3.symm
    refine ⟨setBlock w b (.map (es.modify j (fun e' => { e' with key := E.enc k, val := v })) cl), ?_, ⟨_, _, heap_setBlock_same hb _, stamped_modify hst _ _ (fun _ _ => rfl) (fun e' _ he' => hkeyf e' he'), by simpa using (by omega), ?_⟩, ⟨rfl, rfl, rfl, by simp [setBlock], fun i _ hi => heap_setBlock_other hb _ (fun e => hi (by rw [e]))⟩⟩
    · simp [Instr.mapUpdate, run_underlying ht, MapKept.run_getObj_map hb, E.law.check w false hl, h1, hj, h3, E.law.stays w hl, MapKept.run_setObj_map _ hb, Result.andThen, setBlock]
    · rw [Array.toList_modify, modify_eq_set _ _ _ _ h2]
      exact H.set_ hpw h2 h3 hk v

theorem run_entryStore {w : World} {b : Nat} {es : Array MapEntry} {cl : Nat} (hb : w.heap[b]? = some (.map es cl)) (t : TypeId) (s i : Nat) (hfi : es.findIdx? (fun e => (e.born : Int) == (s : Int)) = some i) (v : Value) :
    (Instr.entryStore t (.map (some b)) (.int .i64 s) v).run P w = .ok () (setBlock w b (.map (es.modify i (fun e => { e with val := v })) cl)) := by
  simp [Instr.entryStore, MapKept.run_getObj_map hb, asInt, asIntOf, hfi, MapKept.run_setObj_map _ hb, Result.andThen, setBlock]

/-- m[k]++ and the like: the entry is made or found, then stored into. -/
theorem MapF.entry (h : MapF E w b n f) {t e : TypeId} (ht : P.underlying t = some (.map kt e)) {z : Value} (hz : (zeroValue e).run P w = .ok z w) {k : κ} (hk : E.ok k) :
    ∃ (s : Nat) (w1 : World), (Instr.mapEntry t (.map (some b)) (E.enc k)).run P w = .ok (.tuple #[(f k).getD z, .int .i64 s]) w1 ∧ w.grownBy w1 (some b) ∧ MapF E w1 b (n + 1) (upd f k ((f k).getD z)) ∧
      ∀ v, ∃ w2, (Instr.entryStore t (.map (some b)) (.int .i64 s) v).run P w1 = .ok () w2 ∧ MapF E w2 b (n + 1) (upd f k v) ∧ w.grownBy w2 (some b) := by
  obtain ⟨es, cl, hb, hst, hs, H⟩ := h
  obtain ⟨l, hl⟩ := E.key k hk
  obtain ⟨hlt, hnd, hpw⟩ := (stamped_iff es cl).1 hst
  rcases H.find w hk with ⟨h1, h2, h3⟩ | ⟨j, x, h1, h2, h3, h4⟩
  · have hb1 : (setBlock w b (.map (es.push ⟨E.enc k, z, cl⟩) (cl + 1))).heap[b]? = some (.map (es.push ⟨E.enc k, z, cl⟩) (cl + 1)) := heap_setBlock_same hb _
    refine ⟨cl, setBlock w b (.map (es.push ⟨E.enc k, z, cl⟩) (cl + 1)), by simp [Instr.mapEntry, run_underlying ht, MapKept.run_getObj_map hb, E.law.check w false hl, h1, hz, h3, goInt, MapKept.run_setObj_map _ hb, Result.andThen, setBlock],
      ⟨rfl, rfl, rfl, by simp [setBlock], fun i _ hi => heap_setBlock_other hb _ (fun e => hi (by rw [e]))⟩, ⟨_, _, hb1, stamped_push hst h2, by simp; omega, by rw [Array.toList_push, h3]; exact H.push hk h2 z cl⟩, fun v => ?_⟩
    have hfi : (es.push ⟨E.enc k, z, cl⟩).findIdx? (fun e => (e.born : Int) == (cl : Int)) = some es.size := by
      rw [Array.findIdx?_eq_some_iff_getElem]
      refine ⟨by simp, by simp, fun i hi => ?_⟩
      have hi' : i < es.size := by simpa using hi
      rw [Array.getElem_push_lt hi']
      have := hlt es[i] (by simp)
      simp
      omega
    refine ⟨setBlock (setBlock w b (.map (es.push ⟨E.enc k, z, cl⟩) (cl + 1))) b (.map ((es.push ⟨E.enc k, z, cl⟩).modify es.size (fun e => { e with val := v })) (cl + 1)), ?_, ⟨_, _, heap_setBlock_same hb1 _, stamped_modify (stamped_push hst h2) _ _ (fun _ _ => rfl) (fun _ _ _ => rfl), by simp; omega, ?_⟩,
      ⟨rfl, rfl, rfl, by simp [setBlock], fun i _ hi => (heap_setBlock_other hb1 _ (fun e => hi (by rw [e]))).trans (heap_setBlock_other hb _ (fun e => hi (by rw [e])))⟩⟩
    · exact run_entryStore hb1 t _ _ hfi v
    · have e1 : ((es.push ⟨E.enc k, z, cl⟩).modify es.size (fun e => { e with val := v })).toList = es.toList ++ [⟨E.enc k, v, cl⟩] := by
        rw [Array.toList_modify, Array.toList_push]
        rw [modify_eq_set _ _ _ ⟨E.enc k, z, cl⟩ (by simp)]
        simp
      rw [e1]
      exact H.push hk h2 v cl
  · have hj : es[j]? = some x := by simpa using h2
    have hjl : j < es.size := (Array.getElem?_eq_some_iff.1 hj).1
    have hxj : es[j] = x := (Array.getElem?_eq_some_iff.1 hj).2
    have hkeyf : ∀ e', es[j]? = some e' → ({ e' with key := E.enc k } : MapEntry).key = e'.key := fun e' he' => by rw [hj] at he'; cases he'; exact h3.symm
    have hb1 : (setBlock w b (.map (es.modify j (fun e' => { e' with key := E.enc k })) cl)).heap[b]? = some (.map (es.modify j (fun e' => { e' with key := E.enc k })) cl) := heap_setBlock_same hb _
    have hst1 : Stamped (es.modify j (fun e' => { e' with key := E.enc k })) cl := stamped_modify hst _ _ (fun _ _ => rfl) (fun e' _ he' => hkeyf e' he')
    refine ⟨x.born, setBlock w b (.map (es.modify j (fun e' => { e' with key := E.enc k })) cl), by simp [Instr.mapEntry, run_underlying ht, MapKept.run_getObj_map hb, E.law.check w false hl, h1, hj, h3, h4, goInt, E.law.stays w hl, MapKept.run_setObj_map _ hb, Result.andThen, setBlock],
      ⟨rfl, rfl, rfl, by simp [setBlock], fun i _ hi => heap_setBlock_other hb _ (fun e => hi (by rw [e]))⟩, ⟨_, _, hb1, hst1, by simpa using (by omega), ?_⟩, fun v => ?_⟩
    · rw [Array.toList_modify, modify_eq_set _ _ _ _ h2, h4]
      exact H.set_ hpw h2 h3 hk x.val
    have hfi : (es.modify j (fun e' => { e' with key := E.enc k })).findIdx? (fun e => (e.born : Int) == (x.born : Int)) = some j := by
      rw [Array.findIdx?_eq_some_iff_getElem]
      refine ⟨by simpa using hjl, ?_, fun i hi => ?_⟩
      · rw [Array.getElem_modify]
        simp [hxj]
      · rw [Array.getElem_modify, if_neg (by omega)]
        have hne : es[i].born ≠ es[j].born := by
          intro h
          have := (List.nodup_iff_pairwise_ne.1 hnd)
          rw [List.pairwise_map] at this
          exact List.pairwise_iff_getElem.1 this i j (by simp; omega) (by simpa using hjl) hi (by simpa using h)
        rw [hxj] at hne
        simp
        omega
    refine ⟨setBlock (setBlock w b (.map (es.modify j (fun e' => { e' with key := E.enc k })) cl)) b (.map ((es.modify j (fun e' => { e' with key := E.enc k })).modify j (fun e => { e with val := v })) cl), ?_, ⟨_, _, heap_setBlock_same hb1 _, stamped_modify hst1 _ _ (fun _ _ => rfl) (fun _ _ _ => rfl), by simpa using (by omega), ?_⟩,
      ⟨rfl, rfl, rfl, by simp [setBlock], fun i _ hi => (heap_setBlock_other hb1 _ (fun e => hi (by rw [e]))).trans (heap_setBlock_other hb _ (fun e => hi (by rw [e])))⟩⟩
    · exact run_entryStore hb1 t _ _ hfi v
    · have e1 : ((es.modify j (fun e' => { e' with key := E.enc k })).modify j (fun e => { e with val := v })).toList = es.toList.set j { x with key := E.enc k, val := v } := by
        rw [Array.toList_modify, Array.toList_modify, modify_eq_set _ _ _ _ h2, modify_eq_set _ _ _ { x with key := E.enc k } (by rw [List.getElem?_set_self (by simpa using hjl)]), List.set_set]
      rw [e1]
      exact H.set_ hpw h2 h3 hk v

/-- delete(m, k). -/
theorem MapF.drop (h : MapF E w b n f) {t e : TypeId} (ht : P.underlying t = some (.map kt e)) {k : κ} (hk : E.ok k) (ty : TypeId) :
    ∃ w', (Builtin.delete_ #[t, kt] ty #[.map (some b), E.enc k]).run P w = .ok (.tuple #[]) w' ∧ MapF E w' b n (ers f k) ∧ w.grownBy w' (some b) := by
  obtain ⟨es, cl, hb, hst, hs, H⟩ := h
  obtain ⟨l, hl⟩ := E.key k hk
  have hpw := ((stamped_iff es cl).1 hst).2.2
  rcases H.find w hk with ⟨h1, h2, h3⟩ | ⟨j, x, h1, h2, h3, h4⟩
  · refine ⟨setBlock w b (.map es cl), by simp [Builtin.delete_, run_underlying ht, MapKept.run_getObj_map hb, E.law.check w _ hl, h1, MapKept.run_setObj_map _ hb, Result.andThen, setBlock],
      ⟨_, _, heap_setBlock_same hb _, hst, hs, ⟨H.keys, fun k' v' => ?_⟩⟩, ⟨rfl, rfl, rfl, by simp [setBlock], fun i _ hi => heap_setBlock_other hb _ (fun e => hi (by rw [e]))⟩⟩
    unfold ers
    by_cases e1 : k' = k
    · subst e1
      rw [if_pos rfl, ← H.holds, h3]
    · rw [if_neg e1, H.holds]
  · have hjl : j < es.toList.length := (List.getElem?_eq_some_iff.1 h2).1
    have hjs : j < es.size := by simpa using hjl
    have hsub : (es.eraseIdxIfInBounds j).toList = es.toList.eraseIdx j := by
      unfold Array.eraseIdxIfInBounds
      rw [dif_pos hjs]
      simp
    have hxj : es.toList[j] = x := (List.getElem?_eq_some_iff.1 h2).2
    refine ⟨setBlock w b (.map (es.eraseIdxIfInBounds j) cl), by simp [Builtin.delete_, run_underlying ht, MapKept.run_getObj_map hb, E.law.check w _ hl, h1, MapKept.run_setObj_map _ hb, Result.andThen, setBlock],
      ⟨_, _, heap_setBlock_same hb _, stamped_erase hst j, Nat.le_trans (MapFrom.size_erase es j) hs, ?_⟩, ⟨rfl, rfl, rfl, by simp [setBlock], fun i _ hi => heap_setBlock_other hb _ (fun e => hi (by rw [e]))⟩⟩
    rw [hsub]
    have hmem : ∀ y, y ∈ es.toList.eraseIdx j ↔ y ∈ es.toList ∧ y.key ≠ E.enc k := by
      intro y
      constructor
      · intro hy
        obtain ⟨i, hne, hi⟩ := List.mem_eraseIdx_iff_getElem?.1 hy
        have hil : i < es.toList.length := (List.getElem?_eq_some_iff.1 hi).1
        have hiy : es.toList[i] = y := (List.getElem?_eq_some_iff.1 hi).2
        refine ⟨List.mem_of_getElem? hi, fun hky => ?_⟩
        rcases Nat.lt_or_gt_of_ne hne with hlt | hlt
        · exact List.pairwise_iff_getElem.1 hpw i j hil hjl hlt (by rw [hiy, hxj, hky, h3])
        · exact List.pairwise_iff_getElem.1 hpw j i hjl hil hlt (by rw [hiy, hxj, hky, h3])
      · rintro ⟨hy, hne⟩
        obtain ⟨i, hi, rfl⟩ := List.getElem_of_mem hy
        refine List.mem_eraseIdx_iff_getElem?.2 ⟨i, ?_, List.getElem?_eq_getElem hi⟩
        rintro rfl
        exact hne (by rw [hxj]; exact h3)
    refine ⟨fun e he => H.keys e ((hmem e).1 he).1, fun k' v' => ?_⟩
    unfold ers
    by_cases e1 : k' = k
    · subst e1
      rw [if_pos rfl]
      constructor
      · intro h
        cases h
      · rintro ⟨y, hy, e2, _⟩
        exact absurd e2 ((hmem y).1 hy).2
    · rw [if_neg e1, H.holds]
      constructor
      · rintro ⟨y, hy, e2, e3⟩
        exact ⟨y, (hmem y).2 ⟨hy, fun h => e1 (E.inj _ _ (e2.symm.trans h))⟩, e2, e3⟩
      · rintro ⟨y, hy, e2, e3⟩
        exact ⟨y, ((hmem y).1 hy).1, e2, e3⟩
end
end Go.Proofs.Ytpalacfgpcpppaa
