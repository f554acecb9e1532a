/- Layer 36: a call of the law in plain words, and what stays bounded (no program in sight). -/
import Derived.Test.YtlocfbjeljgblaaRepInv
import Derived.Test.YtlocfbjeljgblaaRepZ
namespace Go.Proofs.Ytlocfbjeljgblaa
open Go Go.RowKit
set_option maxRecDepth 100000

/-- The log after a call. -/
def Lg.step (g : Lg) (x : OpV) : Lg :=
  if x.k = 0 then (g.append x.b (x.es.map EnV.c)).1
  else if x.k = 1 then (g.merge x.a x.b x.fitL).1
  else if x.k = 2 then (g.compact x.a).1
  else if x.k = 3 then Lg.new x.a x.b
  else g
/-- What holds of a log after k calls. -/
structure Lg.Bd (g : Lg) (k : Nat) : Prop where
  inv : g.Inv
  hi : g.base + g.es.length ≤ 1099511627776 + 8 * k
  len : g.es.length ≤ 8 * k
theorem fitV_sm {i t : Int} {l : List EnV} (h : ∀ x ∈ l, x.c.Sm) : ∀ x ∈ fitV i t l, x.c.Sm := by
  induction l generalizing i t with
  | nil => intro x hx; simp [fitV] at hx
  | cons e l ih =>
    intro x hx
    unfold fitV at hx
    rcases List.mem_cons.1 hx with rfl | hx
    · exact h e (List.mem_cons_self ..)
    · exact ih (fun y hy => h y (List.mem_cons_of_mem _ hy)) x hx
theorem OpV.Small.fitL {x : OpV} (h : x.Small) : x.fitL.length ≤ 8 ∧ ∀ e ∈ x.fitL, e.c.Sm := by
  unfold OpV.fitL
  split
  · exact ⟨by rw [fitV_len]; exact h.n, fitV_sm h.sm⟩
  · exact ⟨h.n, h.sm⟩
theorem OpV.Small.cms {x : OpV} (h : x.Small) : (x.es.map EnV.c).length ≤ 8 ∧ ∀ c ∈ x.es.map EnV.c, c.Sm := by
  refine ⟨by rw [List.length_map]; exact h.n, fun c hc => ?_⟩
  obtain ⟨e, he, rfl⟩ := List.mem_map.1 hc
  exact h.sm e he
theorem Lg.append_base (g : Lg) (t : Int) (vs : List CmV) : (g.append t vs).1.base = g.base := by unfold Lg.append; split <;> rfl
theorem Lg.merge_base (g : Lg) (i t : Int) (vs : List EnV) : (g.merge i t vs).1.base = g.base := by
  unfold Lg.merge
  split
  · rfl
  · split
    · rfl
    · split <;> rfl
theorem Lg.compact_len (g : Lg) (i : Int) : (g.compact i).1.es.length ≤ g.es.length := by
  unfold Lg.compact
  split
  · simp only [List.length_drop]; omega
  · exact Nat.le_refl _
namespace Lg.Bd
variable {g : Lg} {k : Nat}
theorem more (h : g.Bd k) : g.Bd (k + 1) := ⟨h.inv, by have := h.hi; omega, by have := h.len; omega⟩
theorem new_ {i t : Int} (h : i ≤ 1099511627776) (k : Nat) : (Lg.new i t).Bd k := ⟨Lg.inv_new i t, by unfold Lg.new; simp only [List.length_nil]; omega, by unfold Lg.new; simp⟩
theorem append (h : g.Bd k) (t : Int) {vs : List CmV} (hn : vs.length ≤ 8) (hs : ∀ x ∈ vs, x.Sm) : (g.append t vs).1.Bd (k + 1) := by
  obtain ⟨h1, h2⟩ := h.inv.append t hs
  have hb := g.append_base t vs
  have := h.hi
  have := h.len
  exact ⟨h1, by omega, by omega⟩
theorem merge (h : g.Bd k) (i t : Int) {vs : List EnV} (hn : vs.length ≤ 8) (hs : ∀ x ∈ vs, x.c.Sm) : (g.merge i t vs).1.Bd (k + 1) := by
  obtain ⟨h1, h2⟩ := h.inv.merge i t hs
  have hb := g.merge_base i t vs
  have := h.hi
  have := h.len
  exact ⟨h1, by omega, by omega⟩
theorem compact (h : g.Bd k) (i : Int) : (g.compact i).1.Bd (k + 1) := by
  obtain ⟨h1, h2⟩ := h.inv.compact i
  have hb := g.compact_len i
  have := h.hi
  have := h.len
  exact ⟨h1, by omega, by omega⟩
theorem step (h : g.Bd k) {x : OpV} (hs : x.Small) : (g.step x).Bd (k + 1) := by
  unfold Lg.step
  split
  · exact h.append _ hs.cms.1 hs.cms.2
  · split
    · exact h.merge _ _ hs.fitL.1 hs.fitL.2
    · split
      · exact h.compact _
      · split
        · exact new_ hs.a.2 _
        · exact h.more
theorem fit (h : g.Bd k) (hk : k ≤ 100) : g.Fit := ⟨h.inv.b0, by have := h.hi; omega, by have := h.len; omega⟩
theorem last (h : g.Bd k) (hk : k ≤ 100) : 0 ≤ g.last.1 ∧ g.last.1 ≤ 4398046511104 := by
  have h1 := h.inv.last.1
  have h2 := h.hi
  have h3 := h.inv.b0
  omega
end Lg.Bd
end Go.Proofs.Ytlocfbjeljgblaa
