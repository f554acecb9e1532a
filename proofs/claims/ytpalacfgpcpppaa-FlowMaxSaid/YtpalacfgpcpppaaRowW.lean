/- Layer 10: networks, flows, sides that come in as arguments, opened. -/
import Derived.Test.YtpalacfgpcpppaaFloD
import Derived.ProofKit
import Derived.OpenShut
import Derived.ShutString
import Derived.ChangeOld
import Derived.Below
import Derived.Deep.Slices
import Derived.Deep.Fields
import Derived.ChangeSame
namespace Go.Proofs.Ytpalacfgpcpppaa
open Go Go.RowKit Go.ChangeShapes Go.WideShapes Go.Deep
set_option maxRecDepth 100000

section
variable {H : Type} {enc : TypeId × Value → H} {P : Program} {w : World} {base : Nat} {spare : Nat → Bool} {held : Bool}
theorem slice_form {t e : TypeId} {fuel : Nat} {v : Value} {x : DataW H × List MemPlace} (ht : P.underlying t = some (.slice e)) (h : DataW.trod enc P w base spare held fuel t [v] = some x) : ∃ A len cap, v = .slice A len cap := by
  rcases open_slice ht h with ⟨hcs, _⟩ | ⟨a, l, c, m, n, D, Pl, hcs, _⟩
  · simp at hcs
    exact ⟨_, _, _, hcs⟩
  · simp at hcs
    exact ⟨_, _, _, hcs⟩
/-- A slice of one-cell elements. -/
theorem ones_of {t e : TypeId} {fuel : Nat} {A : Option Addr} {len cap : Nat} {x : DataW H × List MemPlace}
    (ht : P.underlying t = some (.slice e)) (hC : P.cellsOf e = 1) (h : DataW.trod enc P w base spare held fuel t [.slice A len cap] = some x) :
    (A = none ∧ len = 0 ∧ cap = 0) ∨ ∃ a, A = some a ∧ len ≤ cap ∧ cap ≤ maxLen ∧ ∀ i, i < len → ∃ (v : Value) (y : DataW H × List MemPlace) (n : Nat), w.cell? (a.add (i * 1 + 0)) = some v ∧ DataW.trod enc P w base spare held n e [v] = some y := by
  rcases open_slice ht h with ⟨hcs, _⟩ | ⟨a, l, c, m, n, D, Pl, hcs, _, hl, hm, hmm, _, hi⟩
  · simp at hcs
    exact .inl hcs
  · simp at hcs
    obtain ⟨rfl, rfl, rfl⟩ := hcs
    have hlm : len ≤ m := by rw [hmm]; split <;> omega
    refine .inr ⟨a, rfl, hl, hm, fun i hil => ?_⟩
    obtain ⟨cs, hc, htr⟩ := hi i (by omega)
    rw [hC] at hc
    obtain ⟨_, hcl, hat⟩ := World.cells?_some hc
    match cs, hcl with
    | [v], _ =>
      refine ⟨v, _, _, ?_, htr⟩
      have := hat 0 (by omega)
      rw [← Go.Deep.add_add, hC] at *
      exact this
end

theorem list_of_lt {α : Type} (P : Nat → α → Prop) : ∀ n : Nat, (∀ i, i < n → ∃ x, P i x) → ∃ l : List α, l.length = n ∧ ∀ i x, l[i]? = some x → P i x
  | 0, _ => ⟨[], rfl, by simp⟩
  | n + 1, h => by
    obtain ⟨l, hl, hp⟩ := list_of_lt P n (fun i hi => h i (by omega))
    obtain ⟨x, hx⟩ := h n (by omega)
    refine ⟨l ++ [x], by simp [hl], fun i y hy => ?_⟩
    rcases Nat.lt_or_ge i l.length with h' | h'
    · rw [List.getElem?_append_left h'] at hy
      exact hp i y hy
    · rw [List.getElem?_append_right h'] at hy
      have h0 : i - l.length = 0 := by
        rcases Nat.eq_zero_or_pos (i - l.length) with h0 | h0
        · exact h0
        · rw [List.getElem?_eq_none (by simp; omega)] at hy
          cases hy
      rw [h0] at hy
      simp at hy
      subst hy
      have : i = n := by omega
      rw [this]
      exact hx

/-- From the cells of each element to the slice read as a list. -/
theorem rd_of {α : Type} (f : α → List Value) (size : Nat) (hpos : 0 < size) (hf : ∀ a, (f a).length = size) (ok : α → Prop) {w : World} {A : Option Addr} {len cap : Nat}
    (h : (A = none ∧ len = 0 ∧ cap = 0) ∨ ∃ a, A = some a ∧ len ≤ cap ∧ cap ≤ maxLen ∧ ∀ i, i < len → ∃ x : α, ok x ∧ ∀ j u, (f x)[j]? = some u → w.cell? (a.add (i * size + j)) = some u) :
    ∃ l : List α, l.length = len ∧ Rd w noB size (.slice A len cap) len (l.flatMap f) ∧ ∀ x ∈ l, ok x := by
  rcases h with ⟨rfl, rfl, rfl⟩ | ⟨a, rfl, hl, hm, hi⟩
  · exact ⟨[], rfl, Rd.nil_ _ _ _, by simp⟩
  · obtain ⟨l, hll, hlp⟩ := list_of_lt (fun i (x : α) => ok x ∧ ∀ j u, (f x)[j]? = some u → w.cell? (a.add (i * size + j)) = some u) len hi
    have hfl := flat_len f size hf l
    refine ⟨l, hll, ⟨some a, cap, rfl, hl, hm, by rw [hfl, hll], fun h => (by cases h), fun hp => ?_⟩, fun o ho => ?_⟩
    · obtain ⟨o0, ho0⟩ : ∃ o, l[0]? = some o := ⟨_, List.getElem?_eq_getElem (by omega)⟩
      obtain ⟨u0, hu0⟩ : ∃ u, (f o0)[0]? = some u := ⟨_, List.getElem?_eq_getElem (by rw [hf]; exact hpos)⟩
      have hc0 := (hlp 0 o0 ho0).2 0 u0 hu0
      obtain ⟨b, o, spot⟩ := a
      have hspot : spot = none := by simpa [Addr.add] using World.cell?_spot hc0
      subst hspot
      refine ⟨b, o, rfl, ?_, fun x => x, fun j u hu => ?_⟩
      · have := World.block_lt_of_cell? w _ hc0
        simpa [Addr.add] using this
      · have hjl : j < (l.flatMap f).length := (List.getElem?_eq_some_iff.1 hu).1
        rw [hfl] at hjl
        have hdiv : j / size < l.length := by
          rw [Nat.div_lt_iff_lt_mul hpos]
          exact hjl
        obtain ⟨x, hx⟩ : ∃ x, l[j / size]? = some x := ⟨_, List.getElem?_eq_getElem hdiv⟩
        have hmd : j / size * size + j % size = j := Nat.div_add_mod' j size
        have hc := (hlp (j / size) x hx).2 (j % size) u (by
          rw [← flat_at f size hf hx (j % size) (Nat.mod_lt _ hpos), hmd]
          exact hu)
        have hadd : (⟨b, o, none⟩ : Addr).add j = ⟨b, o + j, none⟩ := by unfold Addr.add; split <;> simp_all
        rw [hmd, hadd] at hc
        exact hc
    · obtain ⟨i, hi', rfl⟩ := List.getElem_of_mem ho
      exact (hlp i _ (List.getElem?_eq_getElem hi')).1
section
variable {H : Type} {enc : TypeId × Value → H} {P : Program} {w : World} {base : Nat} {spare : Nat → Bool} {held : Bool}
/-- The elements of a slice: their cells, and the walk over each. -/
theorem rowsN_of {t e : TypeId} {fuel C : Nat} {A : Option Addr} {len cap : Nat} {x : DataW H × List MemPlace}
    (ht : P.underlying t = some (.slice e)) (hC : P.cellsOf e = C) (h : DataW.trod enc P w base spare held fuel t [.slice A len cap] = some x) :
    (A = none ∧ len = 0 ∧ cap = 0) ∨ ∃ a, A = some a ∧ len ≤ cap ∧ cap ≤ maxLen ∧ ∀ i, i < len → ∃ (cs : List Value) (y : DataW H × List MemPlace) (n : Nat), cs.length = C ∧ (∀ j u, cs[j]? = some u → w.cell? (a.add (i * C + j)) = some u) ∧ DataW.trod enc P w base spare held n e cs = some y := by
  rcases open_slice ht h with ⟨hcs, _⟩ | ⟨a, l, c, m, n, D, Pl, hcs, _, hl, hm, hmm, _, hi⟩
  · simp at hcs
    exact .inl hcs
  · simp at hcs
    obtain ⟨rfl, rfl, rfl⟩ := hcs
    have hlm : len ≤ m := by rw [hmm]; split <;> omega
    refine .inr ⟨a, rfl, hl, hm, fun i hil => ?_⟩
    obtain ⟨cs, hc, htr⟩ := hi i (by omega)
    rw [hC] at hc
    obtain ⟨_, hcl, hat⟩ := World.cells?_some hc
    refine ⟨cs, _, _, hcl, fun j u hu => ?_, htr⟩
    have hj : j < C := by have := (List.getElem?_eq_some_iff.1 hu).1; omega
    rw [← Go.Deep.add_add, hat j hj]
    exact hu
theorem fieldN {t : TypeId} {fs : Array Field} {fuel : Nat} {cs : List Value} {x : DataW H × List MemPlace} (hs : P.underlying t = some (.struct fs)) (h : DataW.trod enc P w base spare held fuel t cs = some x) (j : Nat) (f : Field) (m : Nat) (hf : fs[j]? = some f) (ho : P.cellsOf f.type = m) :
    ∃ (y : DataW H × List MemPlace) (n : Nat), DataW.trod enc P w base spare held n f.type ((cs.drop f.offset).take m) = some y := by
  obtain ⟨xs, n, _, _, _, hlen, hg⟩ := DataW.trod_struct hs h
  have hjl : j < fs.size := (Array.getElem?_eq_some_iff.1 hf).1
  have h1 := hg j f hf
  rw [ho] at h1
  exact ⟨xs[j], n, h1.trans (List.getElem?_eq_getElem (by omega))⟩
theorem field1 {t : TypeId} {fs : Array Field} {fuel : Nat} {cs : List Value} {x : DataW H × List MemPlace} (hs : P.underlying t = some (.struct fs)) (h : DataW.trod enc P w base spare held fuel t cs = some x) (j : Nat) (f : Field) (v : Value) (hf : fs[j]? = some f) (ho : P.cellsOf f.type = 1) (hv : cs[f.offset]? = some v) :
    ∃ (y : DataW H × List MemPlace) (n : Nat), DataW.trod enc P w base spare held n f.type [v] = some y := by
  obtain ⟨y, n, h1⟩ := fieldN hs h j f 1 hf ho
  have hcl : f.offset < cs.length := (List.getElem?_eq_some_iff.1 hv).1
  rw [List.drop_eq_getElem_cons hcl, (List.getElem?_eq_some_iff.1 hv).2] at h1
  exact ⟨y, n, h1⟩
end
theorem list3 {l : List Value} (h : l.length = 3) : ∃ v0 v1 v2, l = [v0, v1, v2] := by
  match l, h with
  | [v0, v1, v2], _ => exact ⟨v0, v1, v2, rfl⟩
theorem list4 {l : List Value} (h : l.length = 4) : ∃ v0 v1 v2 v3, l = [v0, v1, v2, v3] := by
  match l, h with
  | [v0, v1, v2, v3], _ => exact ⟨v0, v1, v2, v3, rfl⟩
theorem list5 {l : List Value} (h : l.length = 5) : ∃ v0 v1 v2 v3 v4, l = [v0, v1, v2, v3, v4] := by
  match l, h with
  | [v0, v1, v2, v3, v4], _ => exact ⟨v0, v1, v2, v3, v4, rfl⟩
theorem icells_flat (l : List Int) : l.flatMap (fun k => [Value.int .i64 k]) = icells l := by
  induction l with
  | nil => rfl
  | cons x l ih => rw [List.flatMap_cons, ih]; rfl
theorem bcells_flat (l : List Bool) : l.flatMap (fun k => [Value.bool k]) = bcells l := by
  induction l with
  | nil => rfl
  | cons x l ih => rw [List.flatMap_cons, ih]; rfl
section
variable {H : Type} {enc : TypeId × Value → H} {w : World} {base : Nat} {spare : Nat → Bool} {held : Bool} {fuel : Nat} {A : Option Addr} {len cap : Nat} {x : DataW H × List MemPlace}
theorem int_form {n : Nat} {v : Value} {y : DataW H × List MemPlace} (h : DataW.trod enc Try.prog w base spare held n 3 [v] = some y) : ∃ k : Int, v = .int .i64 k := by
  obtain ⟨k, e, _, _⟩ := DataW.trod_int Try.underlying3 h
  simp only [List.cons.injEq, and_true] at e
  exact ⟨k, e⟩
theorem int_form2 {n : Nat} {v : Value} {y : DataW H × List MemPlace} (h : DataW.trod enc Try.prog w base spare held n 2 [v] = some y) : ∃ k : Int, v = .int .i64 k := by
  obtain ⟨k, e, _, _⟩ := DataW.trod_int Try.underlying2 h
  simp only [List.cons.injEq, and_true] at e
  exact ⟨k, e⟩
theorem bool_form {n : Nat} {v : Value} {y : DataW H × List MemPlace} (h : DataW.trod enc Try.prog w base spare held n 4 [v] = some y) : ∃ s : Bool, v = .bool s := by
  obtain ⟨s, e, _⟩ := DataW.trod_bool Try.underlying4 h
  simp only [List.cons.injEq, and_true] at e
  exact ⟨s, e⟩
theorem open_am {v : Value} (h : DataW.trod enc Try.prog w base spare held fuel 26 [v] = some x) : ∃ (s : Sl) (l : List Int), v = .slice s.addr s.len s.cap ∧ IsI w noB s l := by
  obtain ⟨A, len, cap, rfl⟩ := slice_form Try.underlying26 h
  obtain ⟨l, h1, h2, _⟩ := rd_of (fun k : Int => [Value.int .i64 k]) 1 (by decide) (fun _ => rfl) (fun _ => True) (A := A) (len := len) (cap := cap) (w := w) ((ones_of Try.underlying26 (by kernel_rfl) h).imp id (fun ⟨a, e, h1, h2, h3⟩ => ⟨a, e, h1, h2, fun i hi => by
    obtain ⟨v, y, n, hc, ht⟩ := h3 i hi
    obtain ⟨k, rfl⟩ := int_form2 ht
    refine ⟨k, trivial, fun j u hu => ?_⟩
    match j, hu with
    | 0, hu => injection hu with hu; subst hu; exact hc⟩))
  exact ⟨⟨A, len, cap⟩, l, rfl, h1.symm, by rw [← icells_flat]; exact h2⟩
theorem open_bo {v : Value} (h : DataW.trod enc Try.prog w base spare held fuel 27 [v] = some x) : ∃ (s : Sl) (l : List Bool), v = .slice s.addr s.len s.cap ∧ IsBo w noB s l := by
  obtain ⟨A, len, cap, rfl⟩ := slice_form Try.underlying27 h
  obtain ⟨l, h1, h2, _⟩ := rd_of (fun k : Bool => [Value.bool k]) 1 (by decide) (fun _ => rfl) (fun _ => True) (A := A) (len := len) (cap := cap) (w := w) ((ones_of Try.underlying27 (by kernel_rfl) h).imp id (fun ⟨a, e, h1, h2, h3⟩ => ⟨a, e, h1, h2, fun i hi => by
    obtain ⟨v, y, n, hc, ht⟩ := h3 i hi
    obtain ⟨k, rfl⟩ := bool_form ht
    refine ⟨k, trivial, fun j u hu => ?_⟩
    match j, hu with
    | 0, hu => injection hu with hu; subst hu; exact hc⟩))
  exact ⟨⟨A, len, cap⟩, l, rfl, h1.symm, by rw [← bcells_flat]; exact h2⟩
theorem arc_of {cs : List Value} (h : DataW.trod enc Try.prog w base spare held fuel 43 cs = some x) (hl : cs.length = 4) : ∃ a : ArcV, cs = a.cells := by
  obtain ⟨v0, v1, v2, v3, rfl⟩ := list4 hl
  obtain ⟨y0, n0, t0⟩ := field1 Try.underlying43 h 0 _ v0 rfl (by kernel_rfl) rfl
  obtain ⟨y1, n1, t1⟩ := field1 Try.underlying43 h 1 _ v1 rfl (by kernel_rfl) rfl
  obtain ⟨y2, n2, t2⟩ := field1 Try.underlying43 h 2 _ v2 rfl (by kernel_rfl) rfl
  obtain ⟨y3, n3, t3⟩ := field1 Try.underlying43 h 3 _ v3 rfl (by kernel_rfl) rfl
  obtain ⟨k0, rfl⟩ := int_form t0
  obtain ⟨k1, rfl⟩ := int_form t1
  obtain ⟨k2, rfl⟩ := int_form2 t2
  obtain ⟨k3, rfl⟩ := int_form t3
  exact ⟨⟨k0, k1, k2, k3⟩, rfl⟩
theorem open_arcs (h : DataW.trod enc Try.prog w base spare held fuel 22 [.slice A len cap] = some x) : ∃ l : List ArcV, len = l.length ∧ Rd w noB 4 (.slice A len cap) len (acells l) := by
  obtain ⟨l, h1, h2, _⟩ := rd_of ArcV.cells 4 (by decide) (fun _ => rfl) (fun _ => True) (A := A) (len := len) (cap := cap) (w := w) ((rowsN_of (C := 4) Try.underlying22 (by kernel_rfl) h).imp id (fun ⟨a, e, h1, h2, h3⟩ => ⟨a, e, h1, h2, fun i hi => by
    obtain ⟨cs, y, n, hl, hc, ht⟩ := h3 i hi
    obtain ⟨c, rfl⟩ := arc_of ht hl
    exact ⟨c, trivial, hc⟩⟩))
  exact ⟨l, h1.symm, h2⟩
end
theorem open_net {H : Type} {enc : TypeId × Value → H} {w : World} {base : Nat} {spare : Nat → Bool} {held : Bool} {r : Reach} {b0 : Nat} {v : Value} {d : DataW H} {pl : List MemPlace} (hv : Value.okWide Try.prog w r b0 24 v) (h : DataW.Trod enc Try.prog w base spare held 24 v d pl) :
    ∃ n : NetV, v = n.val ∧ NetIs w n := by
  obtain ⟨cs, rfl, hsz⟩ := okWide_struct Try.underlying24 hv
  have hC : Try.prog.cellsOf 24 = 5 := by kernel_rfl
  rw [hC] at hsz
  obtain ⟨l⟩ := cs
  obtain ⟨fuel, hf⟩ := h
  obtain ⟨v0, v1, v2, v3, v4, rfl⟩ := list5 (l := l) (by simpa using hsz)
  have hf' : DataW.trod enc Try.prog w base spare held fuel 24 [v0, v1, v2, v3, v4] = some (d, pl) := hf
  obtain ⟨y0, n0, t0⟩ := field1 Try.underlying24 hf' 0 _ v0 rfl (by kernel_rfl) rfl
  obtain ⟨y1, n1, t1⟩ := field1 Try.underlying24 hf' 1 _ v1 rfl (by kernel_rfl) rfl
  obtain ⟨y2, n2, t2⟩ := field1 Try.underlying24 hf' 2 _ v2 rfl (by kernel_rfl) rfl
  obtain ⟨y3, n3, t3⟩ := field1 Try.underlying24 hf' 3 _ v3 rfl (by kernel_rfl) rfl
  obtain ⟨y4, n4, t4⟩ := field1 Try.underlying24 hf' 4 _ v4 rfl (by kernel_rfl) rfl
  obtain ⟨k0, rfl⟩ := int_form t0
  obtain ⟨k1, rfl⟩ := int_form t1
  obtain ⟨k2, rfl⟩ := int_form t2
  obtain ⟨k4, rfl⟩ := int_form2 t4
  obtain ⟨A, len, cap, rfl⟩ := slice_form Try.underlying22 t3
  obtain ⟨ar, hn, he⟩ := open_arcs t3
  exact ⟨⟨k0, k1, k2, ar, k4, ⟨A, len, cap⟩⟩, rfl, ⟨hn, he⟩⟩
theorem open_flow {H : Type} {enc : TypeId × Value → H} {w : World} {base : Nat} {spare : Nat → Bool} {held : Bool} {r : Reach} {b0 : Nat} {v : Value} {d : DataW H} {pl : List MemPlace} (hv : Value.okWide Try.prog w r b0 29 v) (h : DataW.Trod enc Try.prog w base spare held 29 v d pl) :
    ∃ f : FlowV, v = f.val ∧ FlowIs w f := by
  obtain ⟨cs, rfl, hsz⟩ := okWide_struct Try.underlying29 hv
  have hC : Try.prog.cellsOf 29 = 3 := by kernel_rfl
  rw [hC] at hsz
  obtain ⟨l⟩ := cs
  obtain ⟨fuel, hf⟩ := h
  obtain ⟨v0, v1, v2, rfl⟩ := list3 (l := l) (by simpa using hsz)
  have hf' : DataW.trod enc Try.prog w base spare held fuel 29 [v0, v1, v2] = some (d, pl) := hf
  obtain ⟨y0, n0, t0⟩ := field1 Try.underlying29 hf' 0 _ v0 rfl (by kernel_rfl) rfl
  obtain ⟨y1, n1, t1⟩ := field1 Try.underlying29 hf' 1 _ v1 rfl (by kernel_rfl) rfl
  obtain ⟨y2, n2, t2⟩ := field1 Try.underlying29 hf' 2 _ v2 rfl (by kernel_rfl) rfl
  obtain ⟨k0, rfl⟩ := int_form2 t0
  obtain ⟨s1, l1, rfl, i1⟩ := open_am t1
  obtain ⟨s2, l2, rfl, i2⟩ := open_bo t2
  exact ⟨⟨k0, l1, l2, s1, s2⟩, rfl, ⟨i1, i2⟩⟩
theorem open_bools {H : Type} {enc : TypeId × Value → H} {w : World} {base : Nat} {spare : Nat → Bool} {held : Bool} {v : Value} {d : DataW H} {pl : List MemPlace} (h : DataW.Trod enc Try.prog w base spare held 27 v d pl) (hv : ∃ A len cap, v = .slice A len cap) :
    ∃ (s : Sl) (l : List Bool), v = .slice s.addr s.len s.cap ∧ IsBo w noB s l := by
  obtain ⟨A, len, cap, rfl⟩ := hv
  obtain ⟨fuel, hf⟩ := h
  have hf' : DataW.trod enc Try.prog w base spare held fuel 27 [.slice A len cap] = some (d, pl) := hf
  exact open_bo hf'
end Go.Proofs.Ytpalacfgpcpppaa
