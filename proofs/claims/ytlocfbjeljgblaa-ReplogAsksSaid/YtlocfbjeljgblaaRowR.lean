/- Layer 36: calls of the law, an entry, a command that come in as arguments, opened. -/
import Derived.Test.YtlocfbjeljgblaaRepD
import Derived.ProofKit
import Derived.OpenShut
import Derived.ShutString
import Derived.ChangeOld
import Derived.Below
import Derived.Deep.Slices
import Derived.Deep.Fields
import Derived.ChangeSame
namespace Go.Proofs.Ytlocfbjeljgblaa
open Go Go.RowKit Go.ChangeShapes Go.WideShapes Go.Deep
set_option maxRecDepth 100000

section
variable {H : Type} {enc : TypeId × Value → H} {P : Program} {w : World} {base : Nat} {spare : Nat → Bool} {held : Bool}
theorem slice_form {t e : TypeId} {fuel : Nat} {v : Value} {x : DataW H × List MemPlace} (ht : P.underlying t = some (.slice e)) (h : DataW.trod enc P w base spare held fuel t [v] = some x) : ∃ A len cap, v = .slice A len cap := by
  rcases open_slice ht h with ⟨hcs, _⟩ | ⟨a, l, c, m, n, D, Pl, hcs, _⟩
  · simp at hcs
    exact ⟨_, _, _, hcs⟩
  · simp at hcs
    exact ⟨_, _, _, hcs⟩
/-- A slice of structs whose fields are one cell each. -/
theorem rows_of {t e : TypeId} {fs : Array Field} {fuel : Nat} {A : Option Addr} {len cap : Nat} {x : DataW H × List MemPlace}
    (ht : P.underlying t = some (.slice e)) (he : P.underlying e = some (.struct fs)) (hone : oneCellFields P fs = true) (hC : P.cellsOf e = fs.size) (h : DataW.trod enc P w base spare held fuel t [.slice A len cap] = some x) :
    (A = none ∧ len = 0 ∧ cap = 0) ∨ ∃ a, A = some a ∧ len ≤ cap ∧ cap ≤ maxLen ∧ ∀ i, i < len → ∀ (j : Nat) (f : Field), fs[j]? = some f →
      ∃ (v : Value) (y : DataW H × List MemPlace) (n : Nat), w.cell? (a.add (i * fs.size + j)) = some v ∧ DataW.trod enc P w base spare held n f.type [v] = some y := by
  rcases open_slice ht h with ⟨hcs, _⟩ | ⟨a, l, c, m, n, D, Pl, hcs, _, hl, hm, hmm, _, hi⟩
  · simp at hcs
    exact .inl hcs
  · simp at hcs
    obtain ⟨rfl, rfl, rfl⟩ := hcs
    have hlm : len ≤ m := by rw [hmm]; split <;> omega
    refine .inr ⟨a, rfl, hl, hm, fun i hil j f hj => ?_⟩
    obtain ⟨cs, hc, htr⟩ := hi i (by omega)
    rw [hC] at hc
    obtain ⟨ys, n', _, _, _, hyl, hf⟩ := DataW.trod_struct he htr
    obtain ⟨_, hcl, hat⟩ := World.cells?_some hc
    obtain ⟨ho, hk⟩ := hone_of hone j f hj
    have hjl : j < fs.size := (Array.getElem?_eq_some_iff.1 hj).1
    have h1 := hf j f hj
    rw [ho, hk, List.drop_eq_getElem_cons (by omega)] at h1
    refine ⟨cs[j], ys[j], n', ?_, ?_⟩
    · rw [← Go.Deep.add_add, hat j hjl, List.getElem?_eq_getElem (by omega)]
    · exact h1.trans (List.getElem?_eq_getElem (by omega))
/-- A slice of one-cell elements. -/
theorem ones_of {t e : TypeId} {fuel : Nat} {A : Option Addr} {len cap : Nat} {x : DataW H × List MemPlace}
    (ht : P.underlying t = some (.slice e)) (hC : P.cellsOf e = 1) (h : DataW.trod enc P w base spare held fuel t [.slice A len cap] = some x) :
    (A = none ∧ len = 0 ∧ cap = 0) ∨ ∃ a, A = some a ∧ len ≤ cap ∧ cap ≤ maxLen ∧ ∀ i, i < len → ∃ (v : Value) (y : DataW H × List MemPlace) (n : Nat), w.cell? (a.add (i * 1 + 0)) = some v ∧ DataW.trod enc P w base spare held n e [v] = some y := by
  rcases open_slice ht h with ⟨hcs, _⟩ | ⟨a, l, c, m, n, D, Pl, hcs, _, hl, hm, hmm, _, hi⟩
  · simp at hcs
    exact .inl hcs
  · simp at hcs
    obtain ⟨rfl, rfl, rfl⟩ := hcs
    have hlm : len ≤ m := by rw [hmm]; split <;> omega
    refine .inr ⟨a, rfl, hl, hm, fun i hil => ?_⟩
    obtain ⟨cs, hc, htr⟩ := hi i (by omega)
    rw [hC] at hc
    obtain ⟨_, hcl, hat⟩ := World.cells?_some hc
    match cs, hcl with
    | [v], _ =>
      refine ⟨v, _, _, ?_, htr⟩
      have := hat 0 (by omega)
      rw [← Go.Deep.add_add, hC] at *
      exact this
end

theorem list_of_lt {α : Type} (P : Nat → α → Prop) : ∀ n : Nat, (∀ i, i < n → ∃ x, P i x) → ∃ l : List α, l.length = n ∧ ∀ i x, l[i]? = some x → P i x
  | 0, _ => ⟨[], rfl, by simp⟩
  | n + 1, h => by
    obtain ⟨l, hl, hp⟩ := list_of_lt P n (fun i hi => h i (by omega))
    obtain ⟨x, hx⟩ := h n (by omega)
    refine ⟨l ++ [x], by simp [hl], fun i y hy => ?_⟩
    rcases Nat.lt_or_ge i l.length with h' | h'
    · rw [List.getElem?_append_left h'] at hy
      exact hp i y hy
    · rw [List.getElem?_append_right h'] at hy
      have h0 : i - l.length = 0 := by
        rcases Nat.eq_zero_or_pos (i - l.length) with h0 | h0
        · exact h0
        · rw [List.getElem?_eq_none (by simp; omega)] at hy
          cases hy
      rw [h0] at hy
      simp at hy
      subst hy
      have : i = n := by omega
      rw [this]
      exact hx

/-- From the cells of each element to the slice read as a list. -/
theorem rd_of {α : Type} (f : α → List Value) (size : Nat) (hpos : 0 < size) (hf : ∀ a, (f a).length = size) (ok : α → Prop) {w : World} {A : Option Addr} {len cap : Nat}
    (h : (A = none ∧ len = 0 ∧ cap = 0) ∨ ∃ a, A = some a ∧ len ≤ cap ∧ cap ≤ maxLen ∧ ∀ i, i < len → ∃ x : α, ok x ∧ ∀ j u, (f x)[j]? = some u → w.cell? (a.add (i * size + j)) = some u) :
    ∃ l : List α, l.length = len ∧ Rd w noB size (.slice A len cap) len (l.flatMap f) ∧ ∀ x ∈ l, ok x := by
  rcases h with ⟨rfl, rfl, rfl⟩ | ⟨a, rfl, hl, hm, hi⟩
  · exact ⟨[], rfl, Rd.nil_ _ _ _, by simp⟩
  · obtain ⟨l, hll, hlp⟩ := list_of_lt (fun i (x : α) => ok x ∧ ∀ j u, (f x)[j]? = some u → w.cell? (a.add (i * size + j)) = some u) len hi
    have hfl := flat_len f size hf l
    refine ⟨l, hll, ⟨some a, cap, rfl, hl, hm, by rw [hfl, hll], fun h => (by cases h), fun hp => ?_⟩, fun o ho => ?_⟩
    · obtain ⟨o0, ho0⟩ : ∃ o, l[0]? = some o := ⟨_, List.getElem?_eq_getElem (by omega)⟩
      obtain ⟨u0, hu0⟩ : ∃ u, (f o0)[0]? = some u := ⟨_, List.getElem?_eq_getElem (by rw [hf]; exact hpos)⟩
      have hc0 := (hlp 0 o0 ho0).2 0 u0 hu0
      obtain ⟨b, o, spot⟩ := a
      have hspot : spot = none := by simpa [Addr.add] using World.cell?_spot hc0
      subst hspot
      refine ⟨b, o, rfl, ?_, fun x => x, fun j u hu => ?_⟩
      · have := World.block_lt_of_cell? w _ hc0
        simpa [Addr.add] using this
      · have hjl : j < (l.flatMap f).length := (List.getElem?_eq_some_iff.1 hu).1
        rw [hfl] at hjl
        have hdiv : j / size < l.length := by
          rw [Nat.div_lt_iff_lt_mul hpos]
          exact hjl
        obtain ⟨x, hx⟩ : ∃ x, l[j / size]? = some x := ⟨_, List.getElem?_eq_getElem hdiv⟩
        have hmd : j / size * size + j % size = j := Nat.div_add_mod' j size
        have hc := (hlp (j / size) x hx).2 (j % size) u (by
          rw [← flat_at f size hf hx (j % size) (Nat.mod_lt _ hpos), hmd]
          exact hu)
        have hadd : (⟨b, o, none⟩ : Addr).add j = ⟨b, o + j, none⟩ := by unfold Addr.add; split <;> simp_all
        rw [hmd, hadd] at hc
        exact hc
    · obtain ⟨i, hi', rfl⟩ := List.getElem_of_mem ho
      exact (hlp i _ (List.getElem?_eq_getElem hi')).1
section
variable {H : Type} {enc : TypeId × Value → H} {P : Program} {w : World} {base : Nat} {spare : Nat → Bool} {held : Bool}
/-- The elements of a slice: their cells, and the walk over each. -/
theorem rowsN_of {t e : TypeId} {fuel C : Nat} {A : Option Addr} {len cap : Nat} {x : DataW H × List MemPlace}
    (ht : P.underlying t = some (.slice e)) (hC : P.cellsOf e = C) (h : DataW.trod enc P w base spare held fuel t [.slice A len cap] = some x) :
    (A = none ∧ len = 0 ∧ cap = 0) ∨ ∃ a, A = some a ∧ len ≤ cap ∧ cap ≤ maxLen ∧ ∀ i, i < len → ∃ (cs : List Value) (y : DataW H × List MemPlace) (n : Nat), cs.length = C ∧ (∀ j u, cs[j]? = some u → w.cell? (a.add (i * C + j)) = some u) ∧ DataW.trod enc P w base spare held n e cs = some y := by
  rcases open_slice ht h with ⟨hcs, _⟩ | ⟨a, l, c, m, n, D, Pl, hcs, _, hl, hm, hmm, _, hi⟩
  · simp at hcs
    exact .inl hcs
  · simp at hcs
    obtain ⟨rfl, rfl, rfl⟩ := hcs
    have hlm : len ≤ m := by rw [hmm]; split <;> omega
    refine .inr ⟨a, rfl, hl, hm, fun i hil => ?_⟩
    obtain ⟨cs, hc, htr⟩ := hi i (by omega)
    rw [hC] at hc
    obtain ⟨_, hcl, hat⟩ := World.cells?_some hc
    refine ⟨cs, _, _, hcl, fun j u hu => ?_, htr⟩
    have hj : j < C := by have := (List.getElem?_eq_some_iff.1 hu).1; omega
    rw [← Go.Deep.add_add, hat j hj]
    exact hu
theorem fieldN {t : TypeId} {fs : Array Field} {fuel : Nat} {cs : List Value} {x : DataW H × List MemPlace} (hs : P.underlying t = some (.struct fs)) (h : DataW.trod enc P w base spare held fuel t cs = some x) (j : Nat) (f : Field) (m : Nat) (hf : fs[j]? = some f) (ho : P.cellsOf f.type = m) :
    ∃ (y : DataW H × List MemPlace) (n : Nat), DataW.trod enc P w base spare held n f.type ((cs.drop f.offset).take m) = some y := by
  obtain ⟨xs, n, _, _, _, hlen, hg⟩ := DataW.trod_struct hs h
  have hjl : j < fs.size := (Array.getElem?_eq_some_iff.1 hf).1
  have h1 := hg j f hf
  rw [ho] at h1
  exact ⟨xs[j], n, h1.trans (List.getElem?_eq_getElem (by omega))⟩
theorem field1 {t : TypeId} {fs : Array Field} {fuel : Nat} {cs : List Value} {x : DataW H × List MemPlace} (hs : P.underlying t = some (.struct fs)) (h : DataW.trod enc P w base spare held fuel t cs = some x) (j : Nat) (f : Field) (v : Value) (hf : fs[j]? = some f) (ho : P.cellsOf f.type = 1) (hv : cs[f.offset]? = some v) :
    ∃ (y : DataW H × List MemPlace) (n : Nat), DataW.trod enc P w base spare held n f.type [v] = some y := by
  obtain ⟨y, n, h1⟩ := fieldN hs h j f 1 hf ho
  have hcl : f.offset < cs.length := (List.getElem?_eq_some_iff.1 hv).1
  rw [List.drop_eq_getElem_cons hcl, (List.getElem?_eq_some_iff.1 hv).2] at h1
  exact ⟨y, n, h1⟩
end
theorem list13 {l : List Value} (h : l.length = 13) : ∃ v0 v1 v2 v3 v4 v5 v6 v7 v8 v9 v10 v11 v12, l = [v0, v1, v2, v3, v4, v5, v6, v7, v8, v9, v10, v11, v12] := by
  match l, h with
  | [v0, v1, v2, v3, v4, v5, v6, v7, v8, v9, v10, v11, v12], _ => exact ⟨v0, v1, v2, v3, v4, v5, v6, v7, v8, v9, v10, v11, v12, rfl⟩
theorem list15 {l : List Value} (h : l.length = 15) : ∃ v0 v1 m, l = v0 :: v1 :: m ∧ m.length = 13 := by
  match l, h with
  | v0 :: v1 :: m, h => exact ⟨v0, v1, m, rfl, by simpa using h⟩
theorem list5 {l : List Value} (h : l.length = 5) : ∃ v0 v1 v2 v3 v4, l = [v0, v1, v2, v3, v4] := by
  match l, h with
  | [v0, v1, v2, v3, v4], _ => exact ⟨v0, v1, v2, v3, v4, rfl⟩
theorem all2_pairs {α β : Type} {R : α → β → Prop} : ∀ {l : List (α × β)}, (∀ x ∈ l, R x.1 x.2) → All2 R (l.map Prod.fst) (l.map Prod.snd)
  | [], _ => .nil
  | x :: _, h => .cons (h x (List.mem_cons_self ..)) (all2_pairs fun y hy => h y (List.mem_cons_of_mem _ hy))
theorem icells_flat (l : List Int) : l.flatMap (fun k => [Value.int .i64 k]) = icells l := by
  induction l with
  | nil => rfl
  | cons x l ih => rw [List.flatMap_cons, ih]; rfl
section
variable {H : Type} {enc : TypeId × Value → H} {w : World} {base : Nat} {spare : Nat → Bool} {held : Bool} {fuel : Nat} {A : Option Addr} {len cap : Nat} {x : DataW H × List MemPlace}
theorem int_form {n : Nat} {v : Value} {y : DataW H × List MemPlace} (h : DataW.trod enc Try.prog w base spare held n 3 [v] = some y) : ∃ k : Int, v = .int .i64 k ∧ inI64 k := by
  obtain ⟨k, e, _, hw⟩ := DataW.trod_int Try.underlying3 h
  simp only [List.cons.injEq, and_true] at e
  exact ⟨k, e, inI64.of hw⟩
theorem str_form {n : Nat} {v : Value} {y : DataW H × List MemPlace} (h : DataW.trod enc Try.prog w base spare held n 9 [v] = some y) : ∃ s : ByteArray, v = .string s := by
  obtain ⟨s, e, _⟩ := DataW.trod_string Try.underlying9 h
  simp only [List.cons.injEq, and_true] at e
  exact ⟨s, e⟩
theorem bool_form {n : Nat} {v : Value} {y : DataW H × List MemPlace} (h : DataW.trod enc Try.prog w base spare held n 4 [v] = some y) : ∃ s : Bool, v = .bool s := by
  obtain ⟨s, e, _⟩ := DataW.trod_bool Try.underlying4 h
  simp only [List.cons.injEq, and_true] at e
  exact ⟨s, e⟩
theorem open_sl {v : Value} (h : DataW.trod enc Try.prog w base spare held fuel 49 [v] = some x) : ∃ (s : Sl) (l : List Int), v = .slice s.addr s.len s.cap ∧ SlIs w noB s l := by
  obtain ⟨A, len, cap, rfl⟩ := slice_form Try.underlying49 h
  obtain ⟨l, h1, h2, _⟩ := rd_of (fun k : Int => [Value.int .i64 k]) 1 (by decide) (fun _ => rfl) (fun _ => True) (A := A) (len := len) (cap := cap) (w := w) ((ones_of Try.underlying49 (by kernel_rfl) h).imp id (fun ⟨a, e, h1, h2, h3⟩ => ⟨a, e, h1, h2, fun i hi => by
    obtain ⟨v, y, n, hc, ht⟩ := h3 i hi
    obtain ⟨k, rfl, _⟩ := int_form ht
    refine ⟨k, trivial, fun j u hu => ?_⟩
    match j, hu with
    | 0, hu => injection hu with hu; subst hu; exact hc⟩))
  exact ⟨⟨A, len, cap⟩, l, rfl, h1.symm, by rw [← icells_flat]; exact h2⟩
theorem cm_of {cs : List Value} (h : DataW.trod enc Try.prog w base spare held fuel 55 cs = some x) (hl : cs.length = 13) : ∃ (c : Cm) (v : CmV), cs = c.cells ∧ CmIs w noB c v := by
  obtain ⟨v0, v1, v2, v3, v4, v5, v6, v7, v8, v9, v10, v11, v12, rfl⟩ := list13 hl
  obtain ⟨y0, n0, t0⟩ := field1 Try.underlying55 h 0 _ v0 rfl (by kernel_rfl) rfl
  obtain ⟨y1, n1, t1⟩ := field1 Try.underlying55 h 1 _ v1 rfl (by kernel_rfl) rfl
  obtain ⟨y2, n2, t2⟩ := field1 Try.underlying55 h 2 _ v2 rfl (by kernel_rfl) rfl
  obtain ⟨y3, n3, t3⟩ := field1 Try.underlying55 h 3 _ v3 rfl (by kernel_rfl) rfl
  obtain ⟨y4, n4, t4⟩ := field1 Try.underlying55 h 4 _ v4 rfl (by kernel_rfl) rfl
  obtain ⟨y5, n5, t5⟩ := field1 Try.underlying55 h 5 _ v5 rfl (by kernel_rfl) rfl
  obtain ⟨yc, nc, tc⟩ := fieldN Try.underlying55 h 6 _ 4 rfl (by kernel_rfl)
  obtain ⟨yd, nd, td⟩ := fieldN Try.underlying55 h 7 _ 3 rfl (by kernel_rfl)
  replace tc : DataW.trod enc Try.prog w base spare held nc 51 [v6, v7, v8, v9] = some yc := tc
  replace td : DataW.trod enc Try.prog w base spare held nd 53 [v10, v11, v12] = some yd := td
  obtain ⟨y6, n6, t6⟩ := field1 Try.underlying51 tc 0 _ v6 rfl (by kernel_rfl) rfl
  obtain ⟨y7, n7, t7⟩ := field1 Try.underlying51 tc 1 _ v7 rfl (by kernel_rfl) rfl
  obtain ⟨y8, n8, t8⟩ := field1 Try.underlying51 tc 2 _ v8 rfl (by kernel_rfl) rfl
  obtain ⟨y9, n9, t9⟩ := field1 Try.underlying51 tc 3 _ v9 rfl (by kernel_rfl) rfl
  obtain ⟨y10, n10, t10⟩ := field1 Try.underlying53 td 0 _ v10 rfl (by kernel_rfl) rfl
  obtain ⟨y11, n11, t11⟩ := field1 Try.underlying53 td 1 _ v11 rfl (by kernel_rfl) rfl
  obtain ⟨y12, n12, t12⟩ := field1 Try.underlying53 td 2 _ v12 rfl (by kernel_rfl) rfl
  obtain ⟨k0, rfl, _⟩ := int_form t0
  obtain ⟨k1, rfl, _⟩ := int_form t1
  obtain ⟨k2, rfl, _⟩ := int_form t2
  obtain ⟨k3, rfl⟩ := str_form t3
  obtain ⟨k4, rfl, _⟩ := int_form t4
  obtain ⟨k5, rfl, _⟩ := int_form t5
  obtain ⟨k6, rfl, _⟩ := int_form t6
  obtain ⟨k7, rfl, _⟩ := int_form t7
  obtain ⟨s1, l1, rfl, i1⟩ := open_sl t8
  obtain ⟨s2, l2, rfl, i2⟩ := open_sl t9
  obtain ⟨s3, l3, rfl, i3⟩ := open_sl t10
  obtain ⟨s4, l4, rfl, i4⟩ := open_sl t11
  obtain ⟨s5, l5, rfl, i5⟩ := open_sl t12
  exact ⟨⟨⟨k0, k1, k2, k3, k4, k5, k6, k7⟩, s1, s2, s3, s4, s5⟩, ⟨⟨k0, k1, k2, k3, k4, k5, k6, k7⟩, l1, l2, l3, l4, l5⟩, rfl, ⟨rfl, i1, i2, i3, i4, i5⟩⟩
theorem en_of {cs : List Value} (h : DataW.trod enc Try.prog w base spare held fuel 57 cs = some x) (hl : cs.length = 15) : ∃ (c : En) (v : EnV), cs = c.cells ∧ EnIs w noB c v := by
  obtain ⟨v0, v1, m, rfl, hm⟩ := list15 hl
  obtain ⟨y0, n0, t0⟩ := field1 Try.underlying57 h 0 _ v0 rfl (by kernel_rfl) rfl
  obtain ⟨y1, n1, t1⟩ := field1 Try.underlying57 h 1 _ v1 rfl (by kernel_rfl) rfl
  obtain ⟨yc, nc, tc⟩ := fieldN Try.underlying57 h 2 _ 13 rfl (by kernel_rfl)
  replace tc : DataW.trod enc Try.prog w base spare held nc 55 (m.take 13) = some yc := tc
  rw [List.take_of_length_le (by omega)] at tc
  obtain ⟨c, v, rfl, hi⟩ := cm_of tc hm
  obtain ⟨k0, rfl, _⟩ := int_form t0
  obtain ⟨k1, rfl, _⟩ := int_form t1
  exact ⟨⟨k0, k1, c⟩, ⟨k0, k1, v⟩, rfl, ⟨rfl, rfl, hi⟩⟩
theorem open_ens (h : DataW.trod enc Try.prog w base spare held fuel 27 [.slice A len cap] = some x) : ∃ (es : List En) (vs : List EnV), len = es.length ∧ EnL w noB (.slice A len cap) es vs := by
  obtain ⟨l, h1, h2, h3⟩ := rd_of (fun x : En × EnV => x.1.cells) 15 (by decide) (fun _ => rfl) (fun x => EnIs w noB x.1 x.2) (A := A) (len := len) (cap := cap) (w := w) ((rowsN_of (C := 15) Try.underlying27 (by kernel_rfl) h).imp id (fun ⟨a, e, h1, h2, h3⟩ => ⟨a, e, h1, h2, fun i hi => by
    obtain ⟨cs, y, n, hl, hc, ht⟩ := h3 i hi
    obtain ⟨c, v, rfl, hi⟩ := en_of ht hl
    exact ⟨(c, v), hi, hc⟩⟩))
  refine ⟨l.map Prod.fst, l.map Prod.snd, by rw [List.length_map, h1], ?_, all2_pairs h3⟩
  rw [List.length_map, h1]
  have : ecells (l.map Prod.fst) = l.flatMap (fun x : En × EnV => x.1.cells) := by unfold ecells; rw [List.flatMap_map]
  rw [this]
  exact h2
theorem op_of {cs : List Value} (h : DataW.trod enc Try.prog w base spare held fuel 35 cs = some x) (hl : cs.length = 5) : ∃ (c : OpR) (v : OpV), cs = c.cells ∧ OpIs w noB c v := by
  obtain ⟨v0, v1, v2, v3, v4, rfl⟩ := list5 hl
  obtain ⟨y0, n0, t0⟩ := field1 Try.underlying35 h 0 _ v0 rfl (by kernel_rfl) rfl
  obtain ⟨y1, n1, t1⟩ := field1 Try.underlying35 h 1 _ v1 rfl (by kernel_rfl) rfl
  obtain ⟨y2, n2, t2⟩ := field1 Try.underlying35 h 2 _ v2 rfl (by kernel_rfl) rfl
  obtain ⟨y3, n3, t3⟩ := field1 Try.underlying35 h 3 _ v3 rfl (by kernel_rfl) rfl
  obtain ⟨y4, n4, t4⟩ := field1 Try.underlying35 h 4 _ v4 rfl (by kernel_rfl) rfl
  obtain ⟨k0, rfl, _⟩ := int_form t0
  obtain ⟨k1, rfl, _⟩ := int_form t1
  obtain ⟨k2, rfl, _⟩ := int_form t2
  obtain ⟨k3, rfl⟩ := bool_form t3
  obtain ⟨A, len, cap, rfl⟩ := slice_form Try.underlying27 t4
  obtain ⟨es, vs, hn, he⟩ := open_ens t4
  exact ⟨⟨k0, k1, k2, k3, ⟨A, len, cap⟩⟩, ⟨k0, k1, k2, k3, vs⟩, rfl, ⟨rfl, rfl, rfl, rfl, es, hn, he⟩⟩
end
theorem open_op {H : Type} {enc : TypeId × Value → H} {w : World} {base : Nat} {spare : Nat → Bool} {held : Bool} {r : Reach} {b0 : Nat} {v : Value} {d : DataW H} {pl : List MemPlace} (hv : Value.okWide Try.prog w r b0 35 v) (h : DataW.Trod enc Try.prog w base spare held 35 v d pl) :
    ∃ (c : OpR) (y : OpV), v = c.val ∧ OpIs w noB c y := by
  obtain ⟨cs, rfl, hsz⟩ := okWide_struct Try.underlying35 hv
  have hC : Try.prog.cellsOf 35 = 5 := by kernel_rfl
  rw [hC] at hsz
  obtain ⟨l⟩ := cs
  obtain ⟨fuel, hf⟩ := h
  obtain ⟨c, y, rfl, hi⟩ := op_of (cs := l) hf (by simpa using hsz)
  exact ⟨c, y, rfl, hi⟩
theorem open_cm {H : Type} {enc : TypeId × Value → H} {w : World} {base : Nat} {spare : Nat → Bool} {held : Bool} {r : Reach} {b0 : Nat} {v : Value} {d : DataW H} {pl : List MemPlace} (hv : Value.okWide Try.prog w r b0 55 v) (h : DataW.Trod enc Try.prog w base spare held 55 v d pl) :
    ∃ (c : Cm) (y : CmV), v = c.val ∧ CmIs w noB c y := by
  obtain ⟨cs, rfl, hsz⟩ := okWide_struct Try.underlying55 hv
  have hC : Try.prog.cellsOf 55 = 13 := by kernel_rfl
  rw [hC] at hsz
  obtain ⟨l⟩ := cs
  obtain ⟨fuel, hf⟩ := h
  obtain ⟨c, y, rfl, hi⟩ := cm_of (cs := l) hf (by simpa using hsz)
  exact ⟨c, y, rfl, hi⟩
theorem open_ops {H : Type} {enc : TypeId × Value → H} {w : World} {base : Nat} {spare : Nat → Bool} {held : Bool} {v : Value} {d : DataW H} {pl : List MemPlace} (h : DataW.Trod enc Try.prog w base spare held 22 v d pl) (hv : ∃ A len cap, v = .slice A len cap) :
    ∃ (os : List OpR) (ys : List OpV), OpL w noB v os ys := by
  obtain ⟨A, len, cap, rfl⟩ := hv
  obtain ⟨fuel, hf⟩ := h
  have hf' : DataW.trod enc Try.prog w base spare held fuel 22 [.slice A len cap] = some (d, pl) := hf
  obtain ⟨l, h1, h2, h3⟩ := rd_of (fun x : OpR × OpV => x.1.cells) 5 (by decide) (fun _ => rfl) (fun x => OpIs w noB x.1 x.2) (A := A) (len := len) (cap := cap) (w := w) ((rowsN_of (C := 5) Try.underlying22 (by kernel_rfl) hf').imp id (fun ⟨a, e, h1, h2, h3⟩ => ⟨a, e, h1, h2, fun i hi => by
    obtain ⟨cs, y, n, hl, hc, ht⟩ := h3 i hi
    obtain ⟨c, v, rfl, hi⟩ := op_of ht hl
    exact ⟨(c, v), hi, hc⟩⟩))
  refine ⟨l.map Prod.fst, l.map Prod.snd, ?_, all2_pairs h3⟩
  rw [List.length_map, h1]
  have : ocells (l.map Prod.fst) = l.flatMap (fun x : OpR × OpV => x.1.cells) := by unfold ocells; rw [List.flatMap_map]
  rw [this]
  exact h2
end Go.Proofs.Ytlocfbjeljgblaa
