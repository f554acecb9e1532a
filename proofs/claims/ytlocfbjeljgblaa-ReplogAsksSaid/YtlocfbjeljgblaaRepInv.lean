/- Layer 36: what holds of a log after any calls (no program in sight). -/
import Derived.Test.YtlocfbjeljgblaaRepW
namespace Go.Proofs.Ytlocfbjeljgblaa
open Go Go.RowKit
set_option maxRecDepth 100000

structure Lg.Inv (g : Lg) : Prop where
  b0 : 0 ≤ g.base
  t0 : 0 ≤ g.term
  idx : ∀ (k : Nat) (x : EnV), g.es[k]? = some x → x.i = g.base + 1 + k
  ter : ∀ (k : Nat) (x : EnV), g.es[k]? = some x → g.term ≤ x.t
  asc : ∀ (j k : Nat) (x y : EnV), j ≤ k → g.es[j]? = some x → g.es[k]? = some y → x.t ≤ y.t
  sm : ∀ x ∈ g.es, x.c.Sm
theorem Lg.inv_new (i t : Int) : (Lg.new i t).Inv := ⟨by unfold Lg.new; simp only; omega, by unfold Lg.new; simp only; omega, fun k x h => by simp [Lg.new] at h, fun k x h => by simp [Lg.new] at h, fun j k x y _ h => by simp [Lg.new] at h, fun x h => by simp [Lg.new] at h⟩
theorem Lg.Inv.last {g : Lg} (h : g.Inv) : g.last.1 = g.base + g.es.length ∧ g.term ≤ g.last.2 ∧ ∀ (k : Nat) (x : EnV), g.es[k]? = some x → x.t ≤ g.last.2 := by
  cases hn : g.es.length with
  | zero =>
    have he : g.es = [] := List.eq_nil_of_length_eq_zero hn
    rw [Lg.last_nil he]
    refine ⟨by simp, Int.le_refl _, fun k x hx => by rw [he] at hx; simp at hx⟩
  | succ n =>
    obtain ⟨x, hx⟩ : ∃ x, g.es[n]? = some x := ⟨_, List.getElem?_eq_getElem (by omega)⟩
    rw [Lg.last_at hn hx]
    refine ⟨by have := h.idx n x hx; simp only; omega, h.ter n x hx, fun k y hy => h.asc k n y x (by have := (List.getElem?_eq_some_iff.1 hy).1; omega) hy hx⟩
theorem appV_at {i t : Int} {vs : List CmV} {k : Nat} {x : EnV} (h : (appV i t vs)[k]? = some x) : x.i = i + k ∧ x.t = t := by
  induction vs generalizing i k with
  | nil => simp [appV] at h
  | cons c l ih =>
    cases k with
    | zero => simp [appV] at h; subst h; exact ⟨by simp, rfl⟩
    | succ k =>
      have := ih (i := i + 1) (k := k) (by simpa [appV] using h)
      exact ⟨by omega, this.2⟩
theorem Lg.Inv.append {g : Lg} (h : g.Inv) (t : Int) {vs : List CmV} (hs : ∀ x ∈ vs, x.Sm) : (g.append t vs).1.Inv ∧ (g.append t vs).1.base + (g.append t vs).1.es.length ≤ g.base + g.es.length + vs.length := by
  obtain ⟨hl, hlt, hle⟩ := h.last
  unfold Lg.append
  split
  · exact ⟨h, by simp only; omega⟩
  · rename_i ht
    have key : ∀ (k : Nat) (x : EnV), (g.es ++ appV (g.last.1 + 1) t vs)[k]? = some x → x.i = g.base + 1 + k ∧ ((k < g.es.length ∧ g.es[k]? = some x) ∨ (g.es.length ≤ k ∧ x.t = t)) := by
      intro k x hx
      by_cases hk : k < g.es.length
      · rw [List.getElem?_append_left hk] at hx
        exact ⟨h.idx k x hx, .inl ⟨hk, hx⟩⟩
      · rw [List.getElem?_append_right (by omega)] at hx
        have := appV_at hx
        exact ⟨by omega, .inr ⟨by omega, this.2⟩⟩
    refine ⟨⟨h.b0, h.t0, fun k x hx => (key k x hx).1, fun k x hx => ?_, fun j k x y hjk hx hy => ?_, fun x hx => ?_⟩, by simp only [List.length_append, appV_len]; omega⟩
    · rcases (key k x hx).2 with ⟨_, h2⟩ | ⟨_, h2⟩
      · exact h.ter k x h2
      · simp only; omega
    · rcases (key j x hx).2 with ⟨h1, h2⟩ | ⟨h1, h2⟩ <;> rcases (key k y hy).2 with ⟨h3, h4⟩ | ⟨h3, h4⟩
      · exact h.asc j k x y hjk h2 h4
      · have := hle j x h2; omega
      · omega
      · omega
    · rcases List.mem_append.1 hx with hx | hx
      · exact h.sm x hx
      · exact appV_sm hs x hx
theorem Lg.Inv.compact {g : Lg} (h : g.Inv) (i : Int) : (g.compact i).1.Inv ∧ (g.compact i).1.base + (g.compact i).1.es.length = g.base + g.es.length := by
  unfold Lg.compact
  cases hq : (g.termAt i).2 with
  | false => exact ⟨h, rfl⟩
  | true =>
    rw [if_pos rfl]
    by_cases h0 : i = g.base
    · subst h0
      rw [g.termAt_base, show (g.base - g.base).toNat = 0 from by omega, List.drop_zero]
      exact ⟨h, rfl⟩
    · obtain ⟨h1, h2⟩ := Lg.termAt_in hq
      obtain ⟨k, x, rfl, hx⟩ := Lg.at_form (g := g) (i := i) (by omega) h2
      have hk := (List.getElem?_eq_some_iff.1 hx).1
      rw [Lg.termAt_yes hx, show (g.base + 1 + (k : Int) - g.base).toNat = k + 1 from by omega]
      have hb0 := h.b0
      have ht0 := h.t0
      have hxt := h.ter k x hx
      refine ⟨⟨by simp only; omega, by simp only; omega, fun j y hy => ?_, fun j y hy => ?_, fun j l y z hjl hy hz => ?_, fun y hy => h.sm y (List.mem_of_mem_drop hy)⟩, by simp only [List.length_drop]; omega⟩
      · rw [List.getElem?_drop] at hy
        have := h.idx _ y hy
        simp only
        omega
      · rw [List.getElem?_drop] at hy
        exact h.asc k _ x y (by omega) hx hy
      · rw [List.getElem?_drop] at hy hz
        exact h.asc _ _ y z (by omega) hy hz
theorem foll_ter {i t : Int} {l : List EnV} (h : follB i t l = true) : (∀ (j : Nat) (x : EnV), l[j]? = some x → t ≤ x.t) ∧ ∀ (j k : Nat) (x y : EnV), j ≤ k → l[j]? = some x → l[k]? = some y → x.t ≤ y.t := by
  induction l generalizing i t with
  | nil => exact ⟨fun j x hx => by simp at hx, fun j k x y _ hx => by simp at hx⟩
  | cons e l ih =>
    unfold follB at h
    simp only [Bool.and_eq_true, beq_iff_eq, decide_eq_true_eq] at h
    obtain ⟨h1, h2⟩ := ih h.2
    have ht := h.1.2
    have hd : ∀ (j : Nat) (x : EnV), (e :: l)[j]? = some x → e.t ≤ x.t := by
      intro j x hx
      cases j with
      | zero => simp at hx; subst hx; exact Int.le_refl _
      | succ j => exact h1 j x (by simpa using hx)
    refine ⟨fun j x hx => Int.le_trans ht (hd j x hx), fun j k x y hjk hx hy => ?_⟩
    cases j with
    | zero => simp at hx; subst hx; exact hd k y hy
    | succ j =>
      cases k with
      | zero => omega
      | succ k => exact h2 j k x y (by omega) (by simpa using hx) (by simpa using hy)
theorem Lg.Inv.merge {g : Lg} (h : g.Inv) (i t : Int) {vs : List EnV} (hs : ∀ x ∈ vs, x.c.Sm) : (g.merge i t vs).1.Inv ∧ (g.merge i t vs).1.base + (g.merge i t vs).1.es.length ≤ g.base + g.es.length + vs.length := by
  unfold Lg.merge
  cases hfo : followB i t vs with
  | false => rw [if_pos rfl]; exact ⟨h, by simp only; omega⟩
  | true =>
    rw [if_neg (by decide)]
    cases hma : g.mat i t with
    | false => rw [if_pos (by rfl)]; exact ⟨h, by simp only; omega⟩
    | true =>
      cases han : vs.any (fun x => contraB g.base g.term x.i x.t) with
      | true => rw [if_pos (by rfl)]; exact ⟨h, by simp only; omega⟩
      | false =>
        rw [if_neg (by decide)]
        cases hfi : vs.findIdx? (fun x => g.fresh x.i x.t) with
        | none => exact ⟨h, by simp only; omega⟩
        | some k =>
          rw [List.findIdx?_eq_some_iff_getElem] at hfi
          obtain ⟨hk, hkf, hkn⟩ := hfi
          have hx : vs[k]? = some vs[k] := List.getElem?_eq_getElem hk
          generalize vs[k] = x at hx hkf
          have hnf : ∀ (j : Nat) (z : EnV), j < k → vs[j]? = some z → g.fresh z.i z.t = false := fun j z hj hz => by
            have := hkn j hj
            rw [(List.getElem?_eq_some_iff.1 hz).2] at this
            simpa using this
          have hpos := Lg.fresh_pos hfo hma hx hkf hnf
          have hxi := follow_at hfo hx
          have hfo2 := hfo
          unfold followB at hfo2
          simp only [Bool.and_eq_true, decide_eq_true_eq] at hfo2
          obtain ⟨ht1, ht2⟩ := foll_ter hfo2.2
          obtain ⟨m, hm⟩ : ∃ m : Nat, i + 1 + k - g.base - 1 = (m : Int) := ⟨(i + 1 + k - g.base - 1).toNat, by omega⟩
          dsimp only
          rw [show (i + 1 + (k : Int) - g.base - 1).toNat = m from by omega]
          have hmn : m ≤ g.es.length := by omega
          have hco : ∀ (j : Nat) (z : EnV), vs[j]? = some z → g.base < z.i → g.term ≤ z.t := by
            intro j z hz hb
            rw [List.any_eq_false] at han
            have := han z (List.mem_of_getElem? hz)
            unfold contraB at this
            rw [decide_eq_true hb] at this
            simp only [Bool.true_and, Bool.or_eq_true, not_or, decide_eq_true_eq] at this
            omega
          have key : ∀ (j : Nat) (z : EnV), (g.es.take m ++ vs.drop k)[j]? = some z → z.i = g.base + 1 + j ∧ ((j < m ∧ g.es[j]? = some z) ∨ (m ≤ j ∧ vs[k + (j - m)]? = some z)) := by
            intro j z hz
            have hlt : (g.es.take m).length = m := by rw [List.length_take]; omega
            by_cases hj : j < m
            · rw [List.getElem?_append_left (by omega), List.getElem?_take, if_pos hj] at hz
              exact ⟨h.idx j z hz, .inl ⟨hj, hz⟩⟩
            · rw [List.getElem?_append_right (by omega), hlt, List.getElem?_drop] at hz
              have := follow_at hfo hz
              exact ⟨by omega, .inr ⟨by omega, hz⟩⟩
          have hjoin : ∀ (z : EnV), 0 < m → g.es[m - 1]? = some z → z.t ≤ x.t := by
            intro z hm0 hz
            have hzi := h.idx _ z hz
            have htz : g.termAt (g.base + 1 + (m - 1 : Nat)) = (z.t, true) := Lg.termAt_yes hz
            cases hk0 : k with
            | zero =>
              subst hk0
              unfold Lg.mat at hma
              rw [show i = g.base + 1 + ((m - 1 : Nat) : Int) from by omega, htz, decide_eq_false (by omega)] at hma
              have h1 : z.t = t := by simpa using hma
              have := ht1 0 x hx
              omega
            | succ k' =>
              subst hk0
              obtain ⟨y, hy⟩ : ∃ y, vs[k']? = some y := ⟨_, List.getElem?_eq_getElem (by omega)⟩
              have hyi := follow_at hfo hy
              have hyf := hnf k' y (by omega) hy
              unfold Lg.fresh at hyf
              rw [show y.i = g.base + 1 + ((m - 1 : Nat) : Int) from by omega, htz, decide_eq_true (by omega)] at hyf
              have h1 : z.t = y.t := by simpa using hyf
              have := ht2 k' (k' + 1) y x (by omega) hy hx
              omega
          refine ⟨⟨h.b0, h.t0, fun j z hz => (key j z hz).1, fun j z hz => ?_, fun j l y z hjl hy hz => ?_, fun z hz => ?_⟩, by simp only [List.length_append, List.length_take, List.length_drop]; omega⟩
          · obtain ⟨h1, h2⟩ := key j z hz
            rcases h2 with ⟨_, h2⟩ | ⟨_, h2⟩
            · exact h.ter j z h2
            · exact hco _ z h2 (by omega)
          · rcases (key j y hy).2 with ⟨h1, h2⟩ | ⟨h1, h2⟩ <;> rcases (key l z hz).2 with ⟨h3, h4⟩ | ⟨h3, h4⟩
            · exact h.asc j l y z hjl h2 h4
            · obtain ⟨q, hq⟩ : ∃ q, g.es[m - 1]? = some q := ⟨_, List.getElem?_eq_getElem (by omega)⟩
              have e1 := h.asc j (m - 1) y q (by omega) h2 hq
              have e2 := hjoin q (by omega) hq
              have e3 := ht2 k _ x z (by omega) hx h4
              omega
            · omega
            · exact ht2 _ _ y z (by omega) h2 h4
          · rcases List.mem_append.1 hz with hz | hz
            · exact h.sm z (List.mem_of_mem_take hz)
            · exact hs z (List.mem_of_mem_drop hz)
end Go.Proofs.Ytlocfbjeljgblaa
