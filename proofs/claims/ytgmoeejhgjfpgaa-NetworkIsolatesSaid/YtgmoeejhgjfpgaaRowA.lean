/- The arguments of the statements: lists of operations, opened; the row's frame for one and for two such arguments. -/
import Derived.Test.YtgmoeejhgjfpgaaNetF
import Derived.ProofKit
import Derived.OpenShut
import Derived.ShutString
import Derived.ChangeOld
import Derived.Below
import Derived.Deep.Slices
import Derived.Deep.Fields
import Derived.ChangeSame
namespace Go.Proofs.Ytgmoeejhgjfpgaa
open Go Go.RowKit Go.ChangeShapes Go.WideShapes Go.Deep

/-- A slice of structs whose fields are one cell each: what lies in its cells. -/
theorem rows_of {H : Type} {enc : TypeId × Value → H} {P : Program} {w : World} {base : Nat} {spare : Nat → Bool} {held : Bool} {t e : TypeId} {fs : Array Field} {fuel : Nat} {A : Option Addr} {len cap : Nat} {x : DataW H × List MemPlace}
    (ht : P.underlying t = some (.slice e)) (he : P.underlying e = some (.struct fs)) (hone : oneCellFields P fs = true) (hC : P.cellsOf e = fs.size) (h : DataW.trod enc P w base spare held fuel t [.slice A len cap] = some x) :
    (A = none ∧ len = 0 ∧ cap = 0) ∨ ∃ a, A = some a ∧ len ≤ cap ∧ cap ≤ maxLen ∧ ∀ i, i < len → ∀ (j : Nat) (f : Field), fs[j]? = some f →
      ∃ (v : Value) (y : DataW H × List MemPlace) (n : Nat), w.cell? (a.add (i * fs.size + j)) = some v ∧ DataW.trod enc P w base spare held n f.type [v] = some y := by
  rcases open_slice ht h with ⟨hcs, _⟩ | ⟨a, l, c, m, n, D, Pl, hcs, _, hl, hm, hmm, _, hi⟩
  · simp at hcs
    exact .inl hcs
  · simp at hcs
    obtain ⟨rfl, rfl, rfl⟩ := hcs
    have hlm : len ≤ m := by rw [hmm]; split <;> omega
    refine .inr ⟨a, rfl, hl, hm, fun i hil j f hj => ?_⟩
    obtain ⟨cs, hc, htr⟩ := hi i (by omega)
    rw [hC] at hc
    obtain ⟨ys, n', _, _, _, hyl, hf⟩ := DataW.trod_struct he htr
    obtain ⟨_, hcl, hat⟩ := World.cells?_some hc
    obtain ⟨ho, hk⟩ := hone_of hone j f hj
    have hjl : j < fs.size := (Array.getElem?_eq_some_iff.1 hj).1
    have h1 := hf j f hj
    rw [ho, hk, List.drop_eq_getElem_cons (by omega)] at h1
    refine ⟨cs[j], ys[j], n', ?_, ?_⟩
    · rw [← Go.Deep.add_add, hat j hjl, List.getElem?_eq_getElem (by omega)]
    · exact h1.trans (List.getElem?_eq_getElem (by omega))

theorem list_of_lt {α : Type} (P : Nat → α → Prop) : ∀ n : Nat, (∀ i, i < n → ∃ x, P i x) → ∃ l : List α, l.length = n ∧ ∀ i x, l[i]? = some x → P i x
  | 0, _ => ⟨[], rfl, by simp⟩
  | n + 1, h => by
    obtain ⟨l, hl, hp⟩ := list_of_lt P n (fun i hi => h i (by omega))
    obtain ⟨x, hx⟩ := h n (by omega)
    refine ⟨l ++ [x], by simp [hl], fun i y hy => ?_⟩
    rcases Nat.lt_or_ge i l.length with h' | h'
    · rw [List.getElem?_append_left h'] at hy
      exact hp i y hy
    · rw [List.getElem?_append_right h'] at hy
      have h0 : i - l.length = 0 := by
        rcases Nat.eq_zero_or_pos (i - l.length) with h0 | h0
        · exact h0
        · rw [List.getElem?_eq_none (by simp; omega)] at hy
          cases hy
      rw [h0] at hy
      simp at hy
      subst hy
      have : i = n := by omega
      rw [this]
      exact hx

theorem open_ops {H : Type} {enc : TypeId × Value → H} {w : World} {base : Nat} {spare : Nat → Bool} {held : Bool} {fuel : Nat} {A : Option Addr} {len cap : Nat} {x : DataW H × List MemPlace}
    (h : DataW.trod enc Try.prog w base spare held fuel 22 [.slice A len cap] = some x) : ∃ l : List Opn, l.length = len ∧ Rd w noB 5 (.slice A len cap) l.length (ocells l) ∧ ∀ o ∈ l, o.ok := by
  rcases rows_of Try.underlying22 Try.underlying30 (by kernel_rfl) (by kernel_rfl) h with ⟨rfl, rfl, rfl⟩ | ⟨a, rfl, hl, hm, hi⟩
  · exact ⟨[], rfl, Rd.nil_ _ _ _, by simp⟩
  · obtain ⟨l, hll, hlp⟩ := list_of_lt (fun i (o : Opn) => o.ok ∧ ∀ j u, o.cells[j]? = some u → w.cell? (a.add (i * 5 + j)) = some u) len (fun i hil => by
      obtain ⟨v0, y0, n0, c0, t0⟩ := hi i hil 0 _ rfl
      obtain ⟨v1, y1, n1, c1, t1⟩ := hi i hil 1 _ rfl
      obtain ⟨v2, y2, n2, c2, t2⟩ := hi i hil 2 _ rfl
      obtain ⟨v3, y3, n3, c3, t3⟩ := hi i hil 3 _ rfl
      obtain ⟨v4, y4, n4, c4, t4⟩ := hi i hil 4 _ rfl
      obtain ⟨k0, e0, _, w0⟩ := DataW.trod_int Try.underlying3 t0
      obtain ⟨k1, e1, _, w1⟩ := DataW.trod_int Try.underlying3 t1
      obtain ⟨k2, e2, _, w2⟩ := DataW.trod_int Try.underlying3 t2
      obtain ⟨k3, e3, _, w3⟩ := DataW.trod_int Try.underlying3 t3
      obtain ⟨s4, e4, _, w4⟩ := DataW.trod_string Try.underlying9 t4
      simp only [List.cons.injEq, and_true] at e0 e1 e2 e3 e4
      subst e0 e1 e2 e3 e4
      refine ⟨⟨k0, k1, k2, k3, s4⟩, ⟨inI64.of w0, inI64.of w1, inI64.of w2, inI64.of w3, w4⟩, fun j u hu => ?_⟩
      have hj : j < 5 := (List.getElem?_eq_some_iff.1 hu).1
      match j, hj, hu with
      | 0, _, hu => injection hu with hu; subst hu; exact c0
      | 1, _, hu => injection hu with hu; subst hu; exact c1
      | 2, _, hu => injection hu with hu; subst hu; exact c2
      | 3, _, hu => injection hu with hu; subst hu; exact c3
      | 4, _, hu => injection hu with hu; subst hu; exact c4)
    refine ⟨l, hll, ⟨some a, cap, by rw [hll], by omega, hm, ocells_len l, fun h => (by cases h), fun hp => ?_⟩, fun o ho => ?_⟩
    · obtain ⟨o0, ho0⟩ : ∃ o, l[0]? = some o := ⟨_, List.getElem?_eq_getElem hp⟩
      have hc0 := (hlp 0 o0 ho0).2 0 _ rfl
      obtain ⟨b, o, spot⟩ := a
      have hspot : spot = none := by simpa [Addr.add] using World.cell?_spot hc0
      subst hspot
      refine ⟨b, o, rfl, ?_, fun x => x, fun j u hu => ?_⟩
      · have := World.block_lt_of_cell? w _ hc0
        simpa [Addr.add] using this
      · have hjl : j < (ocells l).length := (List.getElem?_eq_some_iff.1 hu).1
        rw [ocells_len] at hjl
        obtain ⟨x, hx⟩ : ∃ x, l[j / 5]? = some x := ⟨_, List.getElem?_eq_getElem (by omega)⟩
        have hc := (hlp (j / 5) x hx).2 (j % 5) u (by
          rw [← ocells_at hx (j % 5) (Nat.mod_lt _ (by omega)), ← hu]
          congr 1
          omega)
        have hadd : (⟨b, o, none⟩ : Addr).add j = ⟨b, o + j, none⟩ := by unfold Addr.add; split <;> simp_all
        rw [show j / 5 * 5 + j % 5 = j from by omega, hadd] at hc
        exact hc
    · obtain ⟨i, hi', rfl⟩ := List.getElem_of_mem ho
      exact (hlp i _ (List.getElem?_eq_getElem hi')).1
end Go.Proofs.Ytgmoeejhgjfpgaa
