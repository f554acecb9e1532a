/- Layer 36: a log of the program alone; what merging leaves (no program in sight). -/
import Derived.Test.YtlocfbjeljgblaaRepSI
namespace Go.Proofs.Ytlocfbjeljgblaa
open Go Go.RowKit
set_option maxRecDepth 100000

/-- A log of the program, clear of the blocks of B. -/
structure SL (B : Nat → Prop) (w : World) (M : Nat) (v : Value) (es : List En) (g : Lg) : Prop where
  log : LogIs w M v es g
  far : All2 (EnIs w (bd B M v)) es g.es
  old : ∀ b, B b → b < w.heap.size ∧ ¬ lgB M v b
theorem St.sl {B : Nat → Prop} {w : World} {M : Nat} {v lv : Value} {es ls : List En} {g : Lg} (h : St B w M v es lv ls g) : SL B w M v es g := ⟨h.log, h.far, h.old⟩
namespace SL
variable {B B' : Nat → Prop} {w w' : World} {M : Nat} {v : Value} {es : List En} {g g' : Lg}
theorem more (h : SL B w M v es g) (hs : Same noB w w') (hB : ∀ b, B' b → B b ∨ (w.heap.size ≤ b ∧ b < w'.heap.size)) : SL B' w' M v es g := by
  have hb : ∀ b, b < w.heap.size → bd B' M v b → bd B M v b := fun b hb hx => hx.elim .inl (fun hx => (hB b hx).elim .inr (fun hx => by omega))
  refine ⟨h.log.keep hs, h.far.imp fun _ _ k => k.same hs (fun _ _ x => x.elim) hb, fun b hx => ?_⟩
  have hz := hs.size
  rcases hB b hx with hx | hx
  · exact ⟨by have := (h.old b hx).1; omega, (h.old b hx).2⟩
  · exact ⟨hx.2, fun e => by have := h.log.blt b e; omega⟩
theorem keep (h : SL B w M v es g) (hs : Same noB w w') : SL B w' M v es g := h.more hs (fun _ hb => .inl hb)
theorem put {S : Nat → Prop} (h : SL B w M v es g) (hs : Same S w w') (hS : ∀ b, S b → B b) : SL B w' M v es g := by
  have hn : ∀ b, b < w.heap.size → S b → bd B M v b := fun b _ hx => .inr (hS b hx)
  refine ⟨⟨h.log.box.same hs (fun x => (h.old M (hS M x)).2 (.inl rfl)), own_same h.log.own hs (fun b hb x => (h.old b (hS b x)).2 (.inr hb.symm)), h.far.imp fun _ _ k => k.same hs hn (fun _ _ x => .inl x)⟩, h.far.imp fun _ _ k => k.same hs hn (fun _ _ x => x), fun b hb => ⟨by have := (h.old b hb).1; have := hs.size; omega, (h.old b hb).2⟩⟩
theorem less (h : SL B w M v es g) (hB : ∀ b, B' b → B b) : SL B' w M v es g := h.more (Same.refl noB w) (fun b hb => .inl (hB b hb))
/-- Behind a call of the program that has changed the log. -/
theorem step {W w3 w4 : World} (h : SL B W M v es g) (hl : LogToB W w3 M v es g g') (hs : Same noB w3 w4) : ∃ v' es', SL B w4 M v' es' g' ∧ Same (lgB M v) W w4 ∧ ∀ b, lgB M v' b → lgB M v b ∨ W.heap.size ≤ b := by
  obtain ⟨v', es', h1, h2, h3, h4⟩ := hl
  have hb : ∀ b, b < W.heap.size → lgB M v' b → lgB M v b := by
    intro b hb hx
    rcases hx with hx | hx
    · exact .inl hx
    · rcases h3 b hx.symm with hx | hx
      · exact .inr hx.symm
      · omega
  refine ⟨v', es', SL.keep (w := w3) ⟨h1, h4 B (fun b hb => (h.old b hb).1) h.far, fun b hx => ⟨by have := (h.old b hx).1; have := h2.size; omega, fun e => (h.old b hx).2 (hb b (h.old b hx).1 e)⟩⟩ hs, h2.trans hs (fun _ _ x => x.elim), fun b hx => ?_⟩
  by_cases hlt : b < W.heap.size
  · exact .inl (hb b hlt hx)
  · exact .inr (by omega)
theorem bad (h : SL B w M v es g) : ∀ b, bd B M v b → b < w.heap.size := fun b hb => hb.elim (h.log.blt b) (fun x => (h.old b x).1)
end SL
theorem sl_merge {B bad : Nat → Prop} {w : World} {M : Nat} {v cv : Value} {es cs : List En} {vs : List EnV} {g : Lg} (h : SL B w M v es g) (hf : g.Fit) (hla : 0 ≤ g.last.1 ∧ g.last.1 ≤ 4398046511104) (hc : EnL w bad cv cs vs) (hlb : ∀ b, lgB M v b → bad b) (hsm : ∀ x ∈ vs, x.c.Sm) (hn : vs.length ≤ 1000) {i t : Int} (hi1 : -4398046511104 ≤ i) (hi2 : i ≤ 4398046511104) {g' : Lg} {q : Int} {want : List EnV} {ok : Bool} (ha : g.merge i t vs = (g', q, want, ok)) :
    Calls Try.prog 17 #[.pointer (some ⟨M, 0, none⟩), .int .i64 i, .int .i64 t, cv] w fun r w' => ∃ O oc v' es', r = .returned (.tuple #[.int .i64 q, .slice O want.length oc, .bool ok]) ∧ SL B w' M v' es' g' ∧ Same (lgB M v) w w' ∧ ∀ b, lgB M v' b → lgB M v b ∨ w.heap.size ≤ b := by
  refine (merge_any h.log hf hla hc hlb hn hsm hi1 hi2).mono ?_
  rintro r w' ⟨W3, o, os, rfl, hl2, hcp⟩
  rw [ha] at hl2 hcp ⊢
  obtain ⟨O, oc, rfl⟩ := own_form hcp.own
  have hol := hcp.is.len
  obtain ⟨v', es', h2, h3, h4⟩ := h.step hl2 hcp.since
  exact ⟨O, oc, v', es', by rw [hol], h2, h3, h4⟩
/-- What a merge that returns true has read. -/
structure Lg.MOk (g : Lg) (i t : Int) (vs : List EnV) (g' : Lg) : Prop where
  fol : followB i t vs = true
  mat : g.mat i t = true
  con : ∀ x ∈ vs, contraB g.base g.term x.i x.t = false
  base : g'.base = g.base
  term : g'.term = g.term
  es : ((∀ x ∈ vs, g.fresh x.i x.t = false) ∧ g' = g) ∨ ∃ (k m : Nat) (x : EnV), vs[k]? = some x ∧ g.fresh x.i x.t = true ∧ (∀ (j : Nat) (z : EnV), j < k → vs[j]? = some z → g.fresh z.i z.t = false) ∧ i + 1 + k = g.base + 1 + m ∧ m ≤ g.es.length ∧ g'.es = g.es.take m ++ vs.drop k
theorem Lg.merge_ok {g g' : Lg} {i t q : Int} {vs want : List EnV} (h : g.merge i t vs = (g', q, want, true)) : q = i + vs.length ∧ g.MOk i t vs g' := by
  unfold Lg.merge at h
  cases hfo : followB i t vs with
  | false => rw [hfo, if_pos rfl] at h; simp at h
  | true =>
    rw [hfo, if_neg (by decide)] at h
    cases hma : g.mat i t with
    | false => rw [hma, if_pos (by rfl)] at h; simp at h
    | true =>
      cases han : vs.any (fun x => contraB g.base g.term x.i x.t) with
      | true => rw [hma, han, if_pos (by rfl)] at h; simp at h
      | false =>
        rw [hma, han, if_neg (by decide)] at h
        have hcon : ∀ x ∈ vs, contraB g.base g.term x.i x.t = false := fun x hx => by
          rw [List.any_eq_false] at han
          simpa using han x hx
        cases hfi : vs.findIdx? (fun x => g.fresh x.i x.t) with
        | none =>
          rw [hfi] at h
          simp only [Prod.mk.injEq] at h
          rw [List.findIdx?_eq_none_iff] at hfi
          exact ⟨h.2.1.symm, hfo, hma, hcon, by rw [← h.1], by rw [← h.1], .inl ⟨fun x hx => by simpa using hfi x hx, h.1.symm⟩⟩
        | some k =>
          rw [hfi] at h
          simp only [Prod.mk.injEq] at h
          rw [List.findIdx?_eq_some_iff_getElem] at hfi
          obtain ⟨hk, hkf, hkn⟩ := hfi
          have hx : vs[k]? = some vs[k] := List.getElem?_eq_getElem hk
          generalize vs[k] = x at hx hkf
          have hnf : ∀ (j : Nat) (z : EnV), j < k → vs[j]? = some z → g.fresh z.i z.t = false := fun j z hj hz => by
            have := hkn j hj
            rw [(List.getElem?_eq_some_iff.1 hz).2] at this
            simpa using this
          have hpos := Lg.fresh_pos hfo hma hx hkf hnf
          have hxi := follow_at hfo hx
          refine ⟨h.2.1.symm, hfo, hma, hcon, by rw [← h.1], by rw [← h.1], .inr ⟨k, (i + 1 + k - g.base - 1).toNat, x, hx, hkf, hnf, by omega, by omega, by rw [← h.1]⟩⟩
theorem Lg.termAt_at {g : Lg} {k : Nat} {e : EnV} {i : Int} (hi : i = g.base + 1 + k) (h : g.es[k]? = some e) : g.termAt i = (e.t, true) := by rw [hi]; exact Lg.termAt_yes h
/-- The entries are there. -/
theorem Lg.MOk.has {g g' : Lg} {i t : Int} {vs : List EnV} (h : g.MOk i t vs g') {j : Nat} {x : EnV} (hx : vs[j]? = some x) (hb : g.base < x.i) : g'.termAt x.i = (x.t, true) := by
  have hxi := follow_at h.fol hx
  rcases h.es with ⟨hn, rfl⟩ | ⟨k, m, z, hz, _, hnf, hkm, hm, he⟩
  · exact (Lg.fresh_no (hn x (List.mem_of_getElem? hx))).resolve_left (by omega)
  · have hl : (g.es.take m).length = m := by rw [List.length_take]; omega
    by_cases hjk : j < k
    · have h1 := (Lg.fresh_no (hnf j x hjk hx)).resolve_left (by omega)
      obtain ⟨p, hp⟩ : ∃ p : Nat, x.i = g.base + 1 + p := ⟨(x.i - g.base - 1).toNat, by omega⟩
      have hpm : p < m := by omega
      obtain ⟨y, hy⟩ : ∃ y, g.es[p]? = some y := ⟨_, List.getElem?_eq_getElem (by omega)⟩
      rw [Lg.termAt_at hp hy] at h1
      have : g'.es[p]? = some y := by rw [he, List.getElem?_append_left (by omega), List.getElem?_take, if_pos hpm]; exact hy
      rw [Lg.termAt_at (by rw [h.base]; exact hp) this]
      exact h1
    · have : g'.es[m + (j - k)]? = some x := by
        rw [he, List.getElem?_append_right (by omega), hl, List.getElem?_drop, show k + (m + (j - k) - m) = j from by omega]
        exact hx
      exact Lg.termAt_at (by rw [h.base]; omega) this
theorem Lg.MOk.term_eq {g g' : Lg} {i t : Int} {vs : List EnV} (h : g.MOk i t vs g') {j : Nat} {x : EnV} (hx : vs[j]? = some x) (hp : (g'.termAt x.i).2 = true) : (g'.termAt x.i).1 = x.t := by
  by_cases hb : g.base < x.i
  · rw [h.has hx hb]
  · by_cases h0 : x.i = g.base
    · have hc := h.con x (List.mem_of_getElem? hx)
      unfold contraB at hc
      rw [Bool.or_eq_false_iff, h0] at hc
      have h1 : x.t = g.term := by simpa using hc.1
      rw [h0, ← h.base, Lg.termAt_base, h.term, h1]
    · have := Lg.termAt_in hp
      rw [h.base] at this
      omega
end Go.Proofs.Ytlocfbjeljgblaa
