/- Further words for memory over any program: ints in 64 bits, rows that a call made, slices that are cut, lists of ints. -/
import Derived.Test.YtpalacfgpcpppaaMem
import Derived.IntWalk
namespace Go.Proofs.Ytpalacfgpcpppaa
open Go Go.RowKit
set_option maxRecDepth 100000

def inI64 (x : Int) : Prop := -9223372036854775808 ≤ x ∧ x ≤ 9223372036854775807
theorem inI64.wf {x : Int} (h : inI64 x) : (Lit.int .i64 x).wf = true := WalkArith.wf_i64 h
theorem inI64.of {x : Int} (h : (Lit.int .i64 x).wf = true) : inI64 x := by
  simpa [inI64, Lit.wf, IntKind.min, IntKind.max, IntKind.signed, IntKind.bits] using h
theorem inI64_of {x : Int} (h : -1000000 ≤ x) (h' : x ≤ 1000000) : inI64 x := ⟨by omega, by omega⟩
theorem inI64_wrap (x : Int) : inI64 (wrap64 x) := by
  unfold inI64 wrap64
  omega
theorem calls_abs {P : Program} {f : Nat} {args : Array Value} {Q : Ending → World → Prop} {w : World} (F : World → Prop) (hF : F w) (h : ∀ w, F w → Calls P f args w Q) : Calls P f args w Q := h w hF

/-- A row that a call has made. -/
structure AppAt (W w' : World) (v : Value) (n : Nat) (e : TypeId) (size : Nat) (xs : List Value) : Prop where
  own : w'.ownsRow 0 e size v n xs
  new : ∀ g, v.ownBlock = some g → W.heap.size ≤ g
  since : Same noB W w'
theorem own_lit (w : World) (e : TypeId) (size : Nat) : (w.alloc (.cells #[] e)).ownsRow 0 e size (.slice (some ⟨w.heap.size, 0, none⟩) 0 0) 0 [] :=
  ⟨by simp, .inr ⟨w.heap.size, 0, #[], rfl, by simp, heap_alloc_new w _, Nat.le_refl _, by simp [maxLen], by simp, by simp⟩⟩
theorem AppAt.rd {W w' : World} {v : Value} {n : Nat} {e : TypeId} {size : Nat} {xs : List Value} {bad : Nat → Prop} (h : AppAt W w' v n e size xs) (hb : ∀ b, bad b → b < W.heap.size) : Rd w' bad size v n xs := Rd.of_own h.own (fun g hg hx => by have := h.new g hg; have := hb g hx; omega)
theorem AppAt.next {W w1 w2 : World} {v v2 : Value} {n n2 : Nat} {e : TypeId} {size : Nat} {xs ys : List Value} (h : AppAt W w1 v n e size xs) (hg : w1.grownBy w2 v.ownBlock) (hat : v2.ownBlock = v.ownBlock ∨ v2.ownBlock = some w1.heap.size) (ho : w2.ownsRow 0 e size v2 n2 ys) : AppAt W w2 v2 n2 e size ys :=
  ⟨ho, fun g hg' => by
    rcases hat with ha | ha
    · exact h.new g (ha.symm.trans hg')
    · rw [ha] at hg'
      injection hg' with hg'
      have := h.since.size
      omega, h.since.grown hg (fun k hk hlt => by have := h.new k hk; omega)⟩
theorem AppAt.lit (W : World) (e : TypeId) (size : Nat) : AppAt W (W.alloc (.cells #[] e)) (.slice (some ⟨W.heap.size, 0, none⟩) 0 0) 0 e size [] :=
  ⟨own_lit W e size, fun g hg => by simp [Value.ownBlock] at hg; omega, (Same.refl _ _).alloc _⟩
theorem AppAt.nil_ (W : World) (e : TypeId) (size : Nat) : AppAt W W (.slice none 0 0) 0 e size [] :=
  ⟨World.ownsRow_nil _ _ _ _, fun g hg => by simp [Value.ownBlock] at hg, Same.refl _ _⟩
theorem AppAt.keep {W w1 w2 : World} {v : Value} {n : Nat} {e : TypeId} {size : Nat} {xs : List Value} (h : AppAt W w1 v n e size xs) (hs : Same noB w1 w2) : AppAt W w2 v n e size xs := ⟨own_same h.own hs (fun _ _ x => x), h.new, h.since.trans' hs⟩
theorem AppAt.before {W W' w1 : World} {v : Value} {n : Nat} {e : TypeId} {size : Nat} {xs : List Value} (h : AppAt W' w1 v n e size xs) (hs : Same noB W W') : AppAt W w1 v n e size xs := ⟨h.own, fun g hg => Nat.le_trans hs.size (h.new g hg), hs.trans' h.since⟩

def icells (l : List Int) : List Value := l.map (Value.int .i64)
theorem icells_len (l : List Int) : (icells l).length = l.length * 1 := by simp [icells]
theorem icells_at {l : List Int} {i : Nat} {x : Int} (h : l[i]? = some x) : (icells l)[i]? = some (.int .i64 x) := by simp [icells, h]
theorem icells_one (l : List Int) : ∀ u ∈ icells l, u.oneCell' = true := by
  intro u hu
  simp [icells] at hu
  obtain ⟨x, _, rfl⟩ := hu
  rfl
theorem icells_snoc (l : List Int) (x : Int) : icells (l ++ [x]) = icells l ++ [.int .i64 x] := by simp [icells]
theorem int_one (x : Int) : ∀ u ∈ [Value.int .i64 x], u.oneCell' = true := by simp [Value.oneCell']

theorem Rd.bound {w : World} {bad : Nat → Prop} {size n : Nat} {A : Option Addr} {c : Nat} {xs : List Value} (h : Rd w bad size (.slice A n c) n xs) : n ≤ 9223372036854775807 := by
  obtain ⟨A', c', e, h1, h2, _⟩ := h
  simp only [maxLen] at h2
  injection e with e1 e2 e3
  omega
theorem Rd.keep {w w' : World} {bad : Nat → Prop} {size n : Nat} {v : Value} {xs : List Value} (h : Rd w bad size v n xs) (hs : Same noB w w') : Rd w' bad size v n xs := h.same hs (fun _ _ x => x.elim) (fun _ _ x => x)
theorem Rd.caps {w : World} {bad : Nat → Prop} {size n c : Nat} {A : Option Addr} {xs : List Value} (h : Rd w bad size (.slice A n c) n xs) : n ≤ c ∧ c ≤ 9223372036854775807 := by
  obtain ⟨A', c', e, h1, h2, _⟩ := h
  injection e with e1 e2 e3
  subst e3
  exact ⟨h1, by simpa [maxLen] using h2⟩
theorem Rd.pre {w : World} {bad : Nat → Prop} {size n b o c k : Nat} {xs : List Value} (h : Rd w bad size (.slice (some ⟨b, o, none⟩) n c) n xs) (hk : k ≤ n) (hp : 0 < n) : Rd w bad size (.slice (some ⟨b, o, none⟩) k c) k (xs.take (k * size)) := by
  obtain ⟨b', o', e', r⟩ := h.at_ hp
  obtain ⟨A, c', e, hnc, hcm, hl, hA, _⟩ := h
  injection e with e1 e2 e3
  subst e1 e3
  injection e' with e'
  injection e' with e1 e2
  subst e1 e2
  have hm : k * size ≤ n * size := Nat.mul_le_mul_right _ hk
  refine ⟨_, _, rfl, by omega, hcm, by rw [List.length_take]; omega, (fun h => by cases h), fun _ => ⟨b, o, rfl, r.lt, r.ok, fun j u hu => r.cell j u ?_⟩⟩
  rw [List.getElem?_take] at hu
  split at hu
  · exact hu
  · cases hu
theorem Rd.cut {w : World} {bad : Nat → Prop} {size n b o c k : Nat} {xs : List Value} (h : Rd w bad size (.slice (some ⟨b, o, none⟩) n c) n xs) (hk : k ≤ n) (hp : 0 < n) :
    Rd w bad size (.slice (if c = k then some ⟨b, o, none⟩ else some ⟨b, o + k * size, none⟩) (n - k) (c - k)) (n - k) (xs.drop (k * size)) := by
  obtain ⟨b', o', e', r⟩ := h.at_ hp
  obtain ⟨A, c', e, hnc, hcm, hl, hA, _⟩ := h
  injection e with e1 e2 e3
  subst e1 e3
  injection e' with e'
  injection e' with e1 e2
  subst e1 e2
  refine ⟨_, _, rfl, by omega, by omega, by rw [List.length_drop, hl, Nat.sub_mul], fun h' => ?_, fun hpos => ?_⟩
  · split at h' <;> cases h'
  · rw [if_neg (by omega)]
    refine ⟨b, o + k * size, rfl, r.lt, r.ok, fun j u hu => ?_⟩
    have := r.cell (k * size + j) u (by rw [← hu, List.getElem?_drop])
    rwa [← Nat.add_assoc] at this

/-- A row of structs of one-cell fields: element i's cells. -/
theorem flat_at {α : Type} (f : α → List Value) (n : Nat) (hf : ∀ a, (f a).length = n) {l : List α} {i : Nat} {a : α} (h : l[i]? = some a) (j : Nat) (hj : j < n) : (l.flatMap f)[i * n + j]? = (f a)[j]? := by
  induction l generalizing i with
  | nil => simp at h
  | cons x l ih =>
    rw [List.flatMap_cons]
    cases i with
    | zero =>
      simp at h
      subst h
      rw [List.getElem?_append_left (by rw [hf]; omega)]
      simp
    | succ i =>
      rw [List.getElem?_append_right (by rw [hf, Nat.succ_mul]; omega), hf, show (i + 1) * n + j - n = i * n + j from by rw [Nat.succ_mul]; omega]
      exact ih (by simpa using h)
theorem flat_len {α : Type} (f : α → List Value) (n : Nat) (hf : ∀ a, (f a).length = n) (l : List α) : (l.flatMap f).length = l.length * n := by
  induction l with
  | nil => simp
  | cons x l ih => rw [List.flatMap_cons, List.length_append, hf, ih, List.length_cons, Nat.succ_mul]; omega
end Go.Proofs.Ytpalacfgpcpppaa
