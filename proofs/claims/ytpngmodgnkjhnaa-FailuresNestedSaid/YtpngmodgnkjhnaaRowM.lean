/- Layer 14: a model that comes in as an argument, opened. -/
import Derived.Test.YtpngmodgnkjhnaaSiteA
import Derived.ProofKit
import Derived.OpenShut
import Derived.ShutString
import Derived.ChangeOld
import Derived.Below
import Derived.Deep.Slices
import Derived.Deep.Fields
import Derived.ChangeSame
namespace Go.Proofs.Ytpngmodgnkjhnaa
open Go Go.RowKit Go.ChangeShapes Go.WideShapes Go.Deep
set_option maxRecDepth 100000

section
variable {H : Type} {enc : TypeId × Value → H} {P : Program} {w : World} {base : Nat} {spare : Nat → Bool} {held : Bool}
theorem slice_form {t e : TypeId} {fuel : Nat} {v : Value} {x : DataW H × List MemPlace} (ht : P.underlying t = some (.slice e)) (h : DataW.trod enc P w base spare held fuel t [v] = some x) : ∃ A len cap, v = .slice A len cap := by
  rcases open_slice ht h with ⟨hcs, _⟩ | ⟨a, l, c, m, n, D, Pl, hcs, _⟩
  · simp at hcs
    exact ⟨_, _, _, hcs⟩
  · simp at hcs
    exact ⟨_, _, _, hcs⟩
/-- A slice of structs whose fields are one cell each. -/
theorem rows_of {t e : TypeId} {fs : Array Field} {fuel : Nat} {A : Option Addr} {len cap : Nat} {x : DataW H × List MemPlace}
    (ht : P.underlying t = some (.slice e)) (he : P.underlying e = some (.struct fs)) (hone : oneCellFields P fs = true) (hC : P.cellsOf e = fs.size) (h : DataW.trod enc P w base spare held fuel t [.slice A len cap] = some x) :
    (A = none ∧ len = 0 ∧ cap = 0) ∨ ∃ a, A = some a ∧ len ≤ cap ∧ cap ≤ maxLen ∧ ∀ i, i < len → ∀ (j : Nat) (f : Field), fs[j]? = some f →
      ∃ (v : Value) (y : DataW H × List MemPlace) (n : Nat), w.cell? (a.add (i * fs.size + j)) = some v ∧ DataW.trod enc P w base spare held n f.type [v] = some y := by
  rcases open_slice ht h with ⟨hcs, _⟩ | ⟨a, l, c, m, n, D, Pl, hcs, _, hl, hm, hmm, _, hi⟩
  · simp at hcs
    exact .inl hcs
  · simp at hcs
    obtain ⟨rfl, rfl, rfl⟩ := hcs
    have hlm : len ≤ m := by rw [hmm]; split <;> omega
    refine .inr ⟨a, rfl, hl, hm, fun i hil j f hj => ?_⟩
    obtain ⟨cs, hc, htr⟩ := hi i (by omega)
    rw [hC] at hc
    obtain ⟨ys, n', _, _, _, hyl, hf⟩ := DataW.trod_struct he htr
    obtain ⟨_, hcl, hat⟩ := World.cells?_some hc
    obtain ⟨ho, hk⟩ := hone_of hone j f hj
    have hjl : j < fs.size := (Array.getElem?_eq_some_iff.1 hj).1
    have h1 := hf j f hj
    rw [ho, hk, List.drop_eq_getElem_cons (by omega)] at h1
    refine ⟨cs[j], ys[j], n', ?_, ?_⟩
    · rw [← Go.Deep.add_add, hat j hjl, List.getElem?_eq_getElem (by omega)]
    · exact h1.trans (List.getElem?_eq_getElem (by omega))
/-- A slice of one-cell elements. -/
theorem ones_of {t e : TypeId} {fuel : Nat} {A : Option Addr} {len cap : Nat} {x : DataW H × List MemPlace}
    (ht : P.underlying t = some (.slice e)) (hC : P.cellsOf e = 1) (h : DataW.trod enc P w base spare held fuel t [.slice A len cap] = some x) :
    (A = none ∧ len = 0 ∧ cap = 0) ∨ ∃ a, A = some a ∧ len ≤ cap ∧ cap ≤ maxLen ∧ ∀ i, i < len → ∃ (v : Value) (y : DataW H × List MemPlace) (n : Nat), w.cell? (a.add (i * 1 + 0)) = some v ∧ DataW.trod enc P w base spare held n e [v] = some y := by
  rcases open_slice ht h with ⟨hcs, _⟩ | ⟨a, l, c, m, n, D, Pl, hcs, _, hl, hm, hmm, _, hi⟩
  · simp at hcs
    exact .inl hcs
  · simp at hcs
    obtain ⟨rfl, rfl, rfl⟩ := hcs
    have hlm : len ≤ m := by rw [hmm]; split <;> omega
    refine .inr ⟨a, rfl, hl, hm, fun i hil => ?_⟩
    obtain ⟨cs, hc, htr⟩ := hi i (by omega)
    rw [hC] at hc
    obtain ⟨_, hcl, hat⟩ := World.cells?_some hc
    match cs, hcl with
    | [v], _ =>
      refine ⟨v, _, _, ?_, htr⟩
      have := hat 0 (by omega)
      rw [← Go.Deep.add_add, hC] at *
      exact this
end

theorem list_of_lt {α : Type} (P : Nat → α → Prop) : ∀ n : Nat, (∀ i, i < n → ∃ x, P i x) → ∃ l : List α, l.length = n ∧ ∀ i x, l[i]? = some x → P i x
  | 0, _ => ⟨[], rfl, by simp⟩
  | n + 1, h => by
    obtain ⟨l, hl, hp⟩ := list_of_lt P n (fun i hi => h i (by omega))
    obtain ⟨x, hx⟩ := h n (by omega)
    refine ⟨l ++ [x], by simp [hl], fun i y hy => ?_⟩
    rcases Nat.lt_or_ge i l.length with h' | h'
    · rw [List.getElem?_append_left h'] at hy
      exact hp i y hy
    · rw [List.getElem?_append_right h'] at hy
      have h0 : i - l.length = 0 := by
        rcases Nat.eq_zero_or_pos (i - l.length) with h0 | h0
        · exact h0
        · rw [List.getElem?_eq_none (by simp; omega)] at hy
          cases hy
      rw [h0] at hy
      simp at hy
      subst hy
      have : i = n := by omega
      rw [this]
      exact hx

/-- From the cells of each element to the slice read as a list. -/
theorem rd_of {α : Type} (f : α → List Value) (size : Nat) (hpos : 0 < size) (hf : ∀ a, (f a).length = size) (ok : α → Prop) {w : World} {A : Option Addr} {len cap : Nat}
    (h : (A = none ∧ len = 0 ∧ cap = 0) ∨ ∃ a, A = some a ∧ len ≤ cap ∧ cap ≤ maxLen ∧ ∀ i, i < len → ∃ x : α, ok x ∧ ∀ j u, (f x)[j]? = some u → w.cell? (a.add (i * size + j)) = some u) :
    ∃ l : List α, l.length = len ∧ Rd w noB size (.slice A len cap) len (l.flatMap f) ∧ ∀ x ∈ l, ok x := by
  rcases h with ⟨rfl, rfl, rfl⟩ | ⟨a, rfl, hl, hm, hi⟩
  · exact ⟨[], rfl, Rd.nil_ _ _ _, by simp⟩
  · obtain ⟨l, hll, hlp⟩ := list_of_lt (fun i (x : α) => ok x ∧ ∀ j u, (f x)[j]? = some u → w.cell? (a.add (i * size + j)) = some u) len hi
    have hfl := flat_len f size hf l
    refine ⟨l, hll, ⟨some a, cap, rfl, hl, hm, by rw [hfl, hll], fun h => (by cases h), fun hp => ?_⟩, fun o ho => ?_⟩
    · obtain ⟨o0, ho0⟩ : ∃ o, l[0]? = some o := ⟨_, List.getElem?_eq_getElem (by omega)⟩
      obtain ⟨u0, hu0⟩ : ∃ u, (f o0)[0]? = some u := ⟨_, List.getElem?_eq_getElem (by rw [hf]; exact hpos)⟩
      have hc0 := (hlp 0 o0 ho0).2 0 u0 hu0
      obtain ⟨b, o, spot⟩ := a
      have hspot : spot = none := by simpa [Addr.add] using World.cell?_spot hc0
      subst hspot
      refine ⟨b, o, rfl, ?_, fun x => x, fun j u hu => ?_⟩
      · have := World.block_lt_of_cell? w _ hc0
        simpa [Addr.add] using this
      · have hjl : j < (l.flatMap f).length := (List.getElem?_eq_some_iff.1 hu).1
        rw [hfl] at hjl
        have hdiv : j / size < l.length := by
          rw [Nat.div_lt_iff_lt_mul hpos]
          exact hjl
        obtain ⟨x, hx⟩ : ∃ x, l[j / size]? = some x := ⟨_, List.getElem?_eq_getElem hdiv⟩
        have hmd : j / size * size + j % size = j := Nat.div_add_mod' j size
        have hc := (hlp (j / size) x hx).2 (j % size) u (by
          rw [← flat_at f size hf hx (j % size) (Nat.mod_lt _ hpos), hmd]
          exact hu)
        have hadd : (⟨b, o, none⟩ : Addr).add j = ⟨b, o + j, none⟩ := by unfold Addr.add; split <;> simp_all
        rw [hmd, hadd] at hc
        exact hc
    · obtain ⟨i, hi', rfl⟩ := List.getElem_of_mem ho
      exact (hlp i _ (List.getElem?_eq_getElem hi')).1
theorem scells_flat (l : List ByteArray) : l.flatMap (fun s => [Value.string s]) = scells l := by
  induction l with
  | nil => rfl
  | cons x l ih => rw [List.flatMap_cons, ih]; rfl

section
variable {H : Type} {enc : TypeId × Value → H} {w : World} {base : Nat} {spare : Nat → Bool} {held : Bool} {fuel : Nat} {A : Option Addr} {len cap : Nat} {x : DataW H × List MemPlace}
theorem open_strs (h : DataW.trod enc Try.prog w base spare held fuel 22 [.slice A len cap] = some x) : ∃ l : List ByteArray, l.length = len ∧ Rd w noB 1 (.slice A len cap) len (scells l) := by
  obtain ⟨l, h1, h2, _⟩ := rd_of (fun s : ByteArray => [Value.string s]) 1 (by decide) (fun _ => rfl) (fun _ => True) (A := A) (len := len) (cap := cap) (w := w) ((ones_of Try.underlying22 (by kernel_rfl) h).imp id (fun ⟨a, e, h1, h2, h3⟩ => ⟨a, e, h1, h2, fun i hi => by
    obtain ⟨v, y, n, hc, ht⟩ := h3 i hi
    obtain ⟨s, e, _⟩ := DataW.trod_string Try.underlying9 ht
    simp only [List.cons.injEq, and_true] at e
    subst e
    refine ⟨s, trivial, fun j u hu => ?_⟩
    match j, hu with
    | 0, hu => injection hu with hu; subst hu; exact hc⟩))
  exact ⟨l, h1, by rw [← scells_flat]; exact h2⟩
theorem int_form {n : Nat} {v : Value} {y : DataW H × List MemPlace} (h : DataW.trod enc Try.prog w base spare held n 3 [v] = some y) : ∃ k : Int, v = .int .i64 k ∧ inI64 k := by
  obtain ⟨k, e, _, hw⟩ := DataW.trod_int Try.underlying3 h
  simp only [List.cons.injEq, and_true] at e
  exact ⟨k, e, inI64.of hw⟩
theorem str_form {n : Nat} {v : Value} {y : DataW H × List MemPlace} (h : DataW.trod enc Try.prog w base spare held n 9 [v] = some y) : ∃ s : ByteArray, v = .string s := by
  obtain ⟨s, e, _⟩ := DataW.trod_string Try.underlying9 h
  simp only [List.cons.injEq, and_true] at e
  exact ⟨s, e⟩
theorem bool_form {n : Nat} {v : Value} {y : DataW H × List MemPlace} (h : DataW.trod enc Try.prog w base spare held n 4 [v] = some y) : ∃ s : Bool, v = .bool s := by
  obtain ⟨s, e, _⟩ := DataW.trod_bool Try.underlying4 h
  simp only [List.cons.injEq, and_true] at e
  exact ⟨s, e⟩
theorem open_rks (h : DataW.trod enc Try.prog w base spare held fuel 23 [.slice A len cap] = some x) : ∃ l : List Rk, l.length = len ∧ Rd w noB 3 (.slice A len cap) len (rkcells l) ∧ ∀ x ∈ l, inI64 x.site ∧ inI64 x.feed :=
  rd_of Rk.cells 3 (by decide) (fun _ => rfl) (fun x => inI64 x.site ∧ inI64 x.feed) ((rows_of Try.underlying23 Try.underlying59 (by kernel_rfl) (by kernel_rfl) h).imp id (fun ⟨a, e, h1, h2, h3⟩ => ⟨a, e, h1, h2, fun i hi => by
    obtain ⟨v0, y0, n0, c0, t0⟩ := h3 i hi 0 _ rfl
    obtain ⟨v1, y1, n1, c1, t1⟩ := h3 i hi 1 _ rfl
    obtain ⟨v2, y2, n2, c2, t2⟩ := h3 i hi 2 _ rfl
    obtain ⟨s, rfl⟩ := str_form t0
    obtain ⟨k1, rfl, w1⟩ := int_form t1
    obtain ⟨k2, rfl, w2⟩ := int_form t2
    refine ⟨⟨s, k1, k2⟩, ⟨w1, w2⟩, fun j u hu => ?_⟩
    match j, hu with
    | 0, hu => injection hu with hu; subst hu; exact c0
    | 1, hu => injection hu with hu; subst hu; exact c1
    | 2, hu => injection hu with hu; subst hu; exact c2⟩))
theorem open_mcs (h : DataW.trod enc Try.prog w base spare held fuel 24 [.slice A len cap] = some x) : ∃ l : List Mc, l.length = len ∧ Rd w noB 3 (.slice A len cap) len (mccells l) ∧ ∀ x ∈ l, inI64 x.rack ∧ inI64 x.cap :=
  rd_of Mc.cells 3 (by decide) (fun _ => rfl) (fun x => inI64 x.rack ∧ inI64 x.cap) ((rows_of Try.underlying24 Try.underlying57 (by kernel_rfl) (by kernel_rfl) h).imp id (fun ⟨a, e, h1, h2, h3⟩ => ⟨a, e, h1, h2, fun i hi => by
    obtain ⟨v0, y0, n0, c0, t0⟩ := h3 i hi 0 _ rfl
    obtain ⟨v1, y1, n1, c1, t1⟩ := h3 i hi 1 _ rfl
    obtain ⟨v2, y2, n2, c2, t2⟩ := h3 i hi 2 _ rfl
    obtain ⟨s, rfl⟩ := str_form t0
    obtain ⟨k1, rfl, w1⟩ := int_form t1
    obtain ⟨k2, rfl, w2⟩ := int_form t2
    refine ⟨⟨s, k1, k2⟩, ⟨w1, w2⟩, fun j u hu => ?_⟩
    match j, hu with
    | 0, hu => injection hu with hu; subst hu; exact c0
    | 1, hu => injection hu with hu; subst hu; exact c1
    | 2, hu => injection hu with hu; subst hu; exact c2⟩))
theorem open_lks (h : DataW.trod enc Try.prog w base spare held fuel 25 [.slice A len cap] = some x) : ∃ l : List Lk, l.length = len ∧ Rd w noB 3 (.slice A len cap) len (lkcells l) ∧ ∀ x ∈ l, inI64 x.a ∧ inI64 x.b ∧ inI64 x.cap :=
  rd_of Lk.cells 3 (by decide) (fun _ => rfl) (fun x => inI64 x.a ∧ inI64 x.b ∧ inI64 x.cap) ((rows_of Try.underlying25 Try.underlying101 (by kernel_rfl) (by kernel_rfl) h).imp id (fun ⟨a, e, h1, h2, h3⟩ => ⟨a, e, h1, h2, fun i hi => by
    obtain ⟨v0, y0, n0, c0, t0⟩ := h3 i hi 0 _ rfl
    obtain ⟨v1, y1, n1, c1, t1⟩ := h3 i hi 1 _ rfl
    obtain ⟨v2, y2, n2, c2, t2⟩ := h3 i hi 2 _ rfl
    obtain ⟨k0, rfl, w0⟩ := int_form t0
    obtain ⟨k1, rfl, w1⟩ := int_form t1
    obtain ⟨k2, rfl, w2⟩ := int_form t2
    refine ⟨⟨k0, k1, k2⟩, ⟨w0, w1, w2⟩, fun j u hu => ?_⟩
    match j, hu with
    | 0, hu => injection hu with hu; subst hu; exact c0
    | 1, hu => injection hu with hu; subst hu; exact c1
    | 2, hu => injection hu with hu; subst hu; exact c2⟩))
theorem open_its (h : DataW.trod enc Try.prog w base spare held fuel 26 [.slice A len cap] = some x) : ∃ l : List It, l.length = len ∧ Rd w noB 7 (.slice A len cap) len (itcells l) := by
  obtain ⟨l, h1, h2, _⟩ := rd_of It.cells 7 (by decide) (fun _ => rfl) (fun _ => True) (A := A) (len := len) (cap := cap) (w := w) ((rows_of Try.underlying26 Try.underlying64 (by kernel_rfl) (by kernel_rfl) h).imp id (fun ⟨a, e, h1, h2, h3⟩ => ⟨a, e, h1, h2, fun i hi => by
    obtain ⟨v0, y0, n0, c0, t0⟩ := h3 i hi 0 _ rfl
    obtain ⟨v1, y1, n1, c1, t1⟩ := h3 i hi 1 _ rfl
    obtain ⟨v2, y2, n2, c2, t2⟩ := h3 i hi 2 _ rfl
    obtain ⟨v3, y3, n3, c3, t3⟩ := h3 i hi 3 _ rfl
    obtain ⟨v4, y4, n4, c4, t4⟩ := h3 i hi 4 _ rfl
    obtain ⟨v5, y5, n5, c5, t5⟩ := h3 i hi 5 _ rfl
    obtain ⟨v6, y6, n6, c6, t6⟩ := h3 i hi 6 _ rfl
    obtain ⟨s, rfl⟩ := str_form t0
    obtain ⟨k1, rfl, _⟩ := int_form t1
    obtain ⟨k2, rfl, _⟩ := int_form t2
    obtain ⟨k3, rfl, _⟩ := int_form t3
    obtain ⟨k4, rfl, _⟩ := int_form t4
    obtain ⟨k5, rfl, _⟩ := int_form t5
    obtain ⟨A6, l6, c6', rfl⟩ := slice_form Try.underlying46 t6
    refine ⟨⟨s, k1, k2, k3, k4, k5, ⟨A6, l6, c6'⟩⟩, trivial, fun j u hu => ?_⟩
    match j, hu with
    | 0, hu => injection hu with hu; subst hu; exact c0
    | 1, hu => injection hu with hu; subst hu; exact c1
    | 2, hu => injection hu with hu; subst hu; exact c2
    | 3, hu => injection hu with hu; subst hu; exact c3
    | 4, hu => injection hu with hu; subst hu; exact c4
    | 5, hu => injection hu with hu; subst hu; exact c5
    | 6, hu => injection hu with hu; subst hu; exact c6⟩))
  exact ⟨l, h1, h2⟩
theorem open_rus (h : DataW.trod enc Try.prog w base spare held fuel 27 [.slice A len cap] = some x) : ∃ l : List Ru, l.length = len ∧ Rd w noB 7 (.slice A len cap) len (rucells l) := by
  obtain ⟨l, h1, h2, _⟩ := rd_of Ru.cells 7 (by decide) (fun _ => rfl) (fun _ => True) (A := A) (len := len) (cap := cap) (w := w) ((rows_of Try.underlying27 Try.underlying66 (by kernel_rfl) (by kernel_rfl) h).imp id (fun ⟨a, e, h1, h2, h3⟩ => ⟨a, e, h1, h2, fun i hi => by
    obtain ⟨v0, y0, n0, c0, t0⟩ := h3 i hi 0 _ rfl
    obtain ⟨v1, y1, n1, c1, t1⟩ := h3 i hi 1 _ rfl
    obtain ⟨v2, y2, n2, c2, t2⟩ := h3 i hi 2 _ rfl
    obtain ⟨v3, y3, n3, c3, t3⟩ := h3 i hi 3 _ rfl
    obtain ⟨v4, y4, n4, c4, t4⟩ := h3 i hi 4 _ rfl
    obtain ⟨v5, y5, n5, c5, t5⟩ := h3 i hi 5 _ rfl
    obtain ⟨v6, y6, n6, c6, t6⟩ := h3 i hi 6 _ rfl
    obtain ⟨k0, rfl, _⟩ := int_form t0
    obtain ⟨k1, rfl, _⟩ := int_form t1
    obtain ⟨k2, rfl, _⟩ := int_form t2
    obtain ⟨k3, rfl, _⟩ := int_form t3
    obtain ⟨k4, rfl, _⟩ := int_form t4
    obtain ⟨b5, rfl⟩ := bool_form t5
    obtain ⟨A6, l6, c6', rfl⟩ := slice_form Try.underlying46 t6
    refine ⟨⟨k0, k1, k2, k3, k4, b5, ⟨A6, l6, c6'⟩⟩, trivial, fun j u hu => ?_⟩
    match j, hu with
    | 0, hu => injection hu with hu; subst hu; exact c0
    | 1, hu => injection hu with hu; subst hu; exact c1
    | 2, hu => injection hu with hu; subst hu; exact c2
    | 3, hu => injection hu with hu; subst hu; exact c3
    | 4, hu => injection hu with hu; subst hu; exact c4
    | 5, hu => injection hu with hu; subst hu; exact c5
    | 6, hu => injection hu with hu; subst hu; exact c6⟩))
  exact ⟨l, h1, h2⟩
end

theorem agg_fields {H : Type} {enc : TypeId × Value → H} {P : Program} {w : World} {base : Nat} {spare : Nat → Bool} {held : Bool} {t : TypeId} {fs : Array Field} {fuel : Nat} {cs : List Value} {x : DataW H × List MemPlace} (hs : P.underlying t = some (.struct fs)) (hone : oneCellFields P fs = true)
    (h : DataW.trod enc P w base spare held fuel t cs = some x) (j : Nat) (f : Field) (v : Value) (hf : fs[j]? = some f) (hv : cs[j]? = some v) : ∃ y n, DataW.trod enc P w base spare held n f.type [v] = some y := by
  obtain ⟨xs, n, _, _, _, hlen, hg⟩ := DataW.trod_struct hs h
  obtain ⟨ho, hk⟩ := hone_of hone j f hf
  have hjl : j < fs.size := (Array.getElem?_eq_some_iff.1 hf).1
  have hcl : j < cs.length := (List.getElem?_eq_some_iff.1 hv).1
  have h1 := hg j f hf
  rw [ho, hk, List.drop_eq_getElem_cons hcl, (List.getElem?_eq_some_iff.1 hv).2] at h1
  exact ⟨xs[j], n, h1.trans (List.getElem?_eq_getElem (by omega))⟩

theorem open_model {H : Type} {enc : TypeId × Value → H} {w : World} {base : Nat} {spare : Nat → Bool} {held : Bool} {r : Reach} {b0 : Nat} {v : Value} {d : DataW H} {pl : List MemPlace} (hv : Value.okWide Try.prog w r b0 29 v) (h : DataW.Trod enc Try.prog w base spare held 29 v d pl) :
    ∃ p m, v = mdlVal p m ∧ MdlIn w p m := by
  obtain ⟨cs, rfl, hsz⟩ := okWide_struct Try.underlying29 hv
  have hC : Try.prog.cellsOf 29 = 11 := by kernel_rfl
  rw [hC] at hsz
  obtain ⟨l⟩ := cs
  match l, hsz with
  | [v0, v1, v2, v3, v4, v5, v6, v7, v8, v9, v10], _ =>
    obtain ⟨fuel, hf⟩ := h
    have hf' : DataW.trod enc Try.prog w base spare held fuel 29 [v0, v1, v2, v3, v4, v5, v6, v7, v8, v9, v10] = some (d, pl) := hf
    obtain ⟨y0, n0, t0⟩ := agg_fields Try.underlying29 (by kernel_rfl) hf' 0 _ v0 rfl rfl
    obtain ⟨y1, n1, t1⟩ := agg_fields Try.underlying29 (by kernel_rfl) hf' 1 _ v1 rfl rfl
    obtain ⟨y2, n2, t2⟩ := agg_fields Try.underlying29 (by kernel_rfl) hf' 2 _ v2 rfl rfl
    obtain ⟨y3, n3, t3⟩ := agg_fields Try.underlying29 (by kernel_rfl) hf' 3 _ v3 rfl rfl
    obtain ⟨y4, n4, t4⟩ := agg_fields Try.underlying29 (by kernel_rfl) hf' 4 _ v4 rfl rfl
    obtain ⟨y5, n5, t5⟩ := agg_fields Try.underlying29 (by kernel_rfl) hf' 5 _ v5 rfl rfl
    obtain ⟨y6, n6, t6⟩ := agg_fields Try.underlying29 (by kernel_rfl) hf' 6 _ v6 rfl rfl
    obtain ⟨y7, n7, t7⟩ := agg_fields Try.underlying29 (by kernel_rfl) hf' 7 _ v7 rfl rfl
    obtain ⟨y8, n8, t8⟩ := agg_fields Try.underlying29 (by kernel_rfl) hf' 8 _ v8 rfl rfl
    obtain ⟨y9, n9, t9⟩ := agg_fields Try.underlying29 (by kernel_rfl) hf' 9 _ v9 rfl rfl
    obtain ⟨y10, n10, t10⟩ := agg_fields Try.underlying29 (by kernel_rfl) hf' 10 _ v10 rfl rfl
    obtain ⟨A0, l0, k0, rfl⟩ := slice_form Try.underlying22 t0
    obtain ⟨A1, l1, k1, rfl⟩ := slice_form Try.underlying22 t1
    obtain ⟨A2, l2, k2, rfl⟩ := slice_form Try.underlying23 t2
    obtain ⟨A3, l3, k3, rfl⟩ := slice_form Try.underlying24 t3
    obtain ⟨A4, l4, k4, rfl⟩ := slice_form Try.underlying25 t4
    obtain ⟨A5, l5, k5, rfl⟩ := slice_form Try.underlying26 t5
    obtain ⟨i6, rfl, _⟩ := int_form t6
    obtain ⟨i7, rfl, _⟩ := int_form t7
    obtain ⟨i8, rfl, _⟩ := int_form t8
    obtain ⟨i9, rfl, _⟩ := int_form t9
    obtain ⟨A10, l10, k10, rfl⟩ := slice_form Try.underlying27 t10
    obtain ⟨ls, hs1, hs2⟩ := open_strs t0
    obtain ⟨lf, hf1, hf2⟩ := open_strs t1
    obtain ⟨lr, hr1, hr2, hr3⟩ := open_rks t2
    obtain ⟨lm, hm1, hm2, hm3⟩ := open_mcs t3
    obtain ⟨ll, hl1, hl2, hl3⟩ := open_lks t4
    obtain ⟨li, hi1, hi2⟩ := open_its t5
    obtain ⟨lu, hu1, hu2⟩ := open_rus t10
    exact ⟨⟨⟨A0, l0, k0⟩, ⟨A1, l1, k1⟩, ⟨A2, l2, k2⟩, ⟨A3, l3, k3⟩, ⟨A4, l4, k4⟩, ⟨A5, l5, k5⟩, ⟨A10, l10, k10⟩⟩, ⟨ls, lf, lr, lm, ll, li, i6, i7, i8, i9, lu⟩, rfl, ⟨hs2, hf2, hr2, hm2, hl2, hi2, hu2, ⟨hr3, hm3, hl3⟩, hs1.symm, hf1.symm, hr1.symm, hm1.symm, hl1.symm, hi1.symm, hu1.symm⟩⟩
end Go.Proofs.Ytpngmodgnkjhnaa
