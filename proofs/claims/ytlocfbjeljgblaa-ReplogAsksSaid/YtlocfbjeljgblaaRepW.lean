/- Layer 36: Merge of the program: its contract. -/
import Derived.Test.YtlocfbjeljgblaaRepV
namespace Go.Proofs.Ytlocfbjeljgblaa
open Go Go.RowKit
set_option maxRecDepth 100000

theorem foll_at {i t : Int} {l : List EnV} (h : follB i t l = true) {j : Nat} {x : EnV} (hx : l[j]? = some x) : x.i = i + 1 + j := by
  induction l generalizing i t j with
  | nil => simp at hx
  | cons y l ih =>
    unfold follB at h
    simp only [Bool.and_eq_true, beq_iff_eq, decide_eq_true_eq] at h
    cases j with
    | zero =>
      simp at hx
      subst hx
      have := h.1.1
      omega
    | succ j =>
      have := ih h.2 (by simpa using hx)
      omega
theorem follow_at {i t : Int} {l : List EnV} (h : followB i t l = true) {j : Nat} {x : EnV} (hx : l[j]? = some x) : x.i = i + 1 + j := by
  unfold followB at h
  simp only [Bool.and_eq_true] at h
  exact foll_at h.2 hx
/-- Merging in plain words. -/
def Lg.merge (g : Lg) (i t : Int) (vs : List EnV) : Lg × Int × List EnV × Bool :=
  if followB i t vs = false then (g, 0, [], false)
  else if (!g.mat i t || vs.any (fun x => contraB g.base g.term x.i x.t)) = true then (g, max g.base (min g.last.1 (i - 1)), [], false)
  else match vs.findIdx? (fun x => g.fresh x.i x.t) with
    | none => (g, i + vs.length, [], true)
    | some k => (⟨g.base, g.term, g.es.take (i + 1 + k - g.base - 1).toNat ++ vs.drop k⟩, i + vs.length, vs.drop k, true)
/-- The first entry that is fresh stands at most one behind the log's end. -/
theorem Lg.fresh_pos {g : Lg} {i t : Int} {vs : List EnV} (hfo : followB i t vs = true) (hm : g.mat i t = true) {k : Nat} {x : EnV} (hx : vs[k]? = some x) (hf : g.fresh x.i x.t = true) (hn : ∀ (j : Nat) (z : EnV), j < k → vs[j]? = some z → g.fresh z.i z.t = false) : g.base < x.i ∧ x.i ≤ g.base + g.es.length + 1 := by
  have hxi := follow_at hfo hx
  have h1 : g.base < x.i := by
    unfold Lg.fresh at hf
    simp only [Bool.and_eq_true, decide_eq_true_eq] at hf
    exact hf.1
  refine ⟨h1, ?_⟩
  cases k with
  | zero =>
    unfold Lg.mat at hm
    simp only [Bool.or_eq_true, Bool.and_eq_true, decide_eq_true_eq] at hm
    rcases hm with hm | hm
    · omega
    · have := Lg.termAt_in hm.1
      omega
  | succ k =>
    obtain ⟨z, hz⟩ : ∃ z, vs[k]? = some z := ⟨_, List.getElem?_eq_getElem (by have := (List.getElem?_eq_some_iff.1 hx).1; omega)⟩
    have hzi := follow_at hfo hz
    have hnf := hn k z (by omega) hz
    unfold Lg.fresh at hnf
    by_cases hb : g.base < z.i
    · rw [decide_eq_true hb, Bool.true_and, Bool.or_eq_false_iff] at hnf
      have := Lg.termAt_in (g := g) (i := z.i) (by simpa using hnf.1)
      omega
    · omega
theorem ecells_take2 (l : List En) (a : Nat) (h : a ≤ l.length) : (ecells l).take (a * 15) = ecells (l.take a) := ecells_take l a h
set_option maxHeartbeats 4000000 in
theorem merge_any {w : World} {bad : Nat → Prop} {M : Nat} {v cv : Value} {es : List En} {g : Lg} {cs : List En} {vs : List EnV} (h : LogIs w M v es g) (hf : g.Fit) (_hl : 0 ≤ g.last.1 ∧ g.last.1 ≤ 4398046511104) (hc : EnL w bad cv cs vs) (hlb : ∀ b, lgB M v b → bad b) (hcl : vs.length ≤ 1000) (hsm : ∀ x ∈ vs, x.c.Sm) {i t : Int} (hi1 : -4398046511104 ≤ i) (hi2 : i ≤ 4398046511104) :
    Calls Try.prog 17 #[.pointer (some ⟨M, 0, none⟩), .int .i64 i, .int .i64 t, cv] w fun r w' => ∃ W3 o os, r = .returned (.tuple #[.int .i64 (g.merge i t vs).2.1, o, .bool (g.merge i t vs).2.2.2]) ∧ LogToB w W3 M v es g (g.merge i t vs).1 ∧ CopyIs W3 w' o os (g.merge i t vs).2.2.1 := by
  have hcc := hc.len
  have h45 := fun (W : World) (hs : Same noB w W) => follow_any (t := t) (hc.keep hs) (by omega) hi2
  have h23 := fun (W : World) (hs : Same noB w W) => last_any (h.keep hs) hf
  have h46 := fun (W : World) (hs : Same noB w W) => matches_any (h.keep hs) hf (i := i) ⟨by omega, by omega⟩ t
  have h47 := fun (W : World) (hs : Same noB w W) => cont48 (M := M) (p := contraB g.base g.term) (hc.keep hs) (Lib.hid fun W2 e x hs2 hx hei het => by
    have h2 := (h.keep hs).keep hs2
    have := contradicts_any (e := e) h2.cells.1 h2.cells.2.1
    rw [hei, het] at this
    exact this)
  have h49 : followB i t vs = true → ∀ (W : World) (B : Nat), Same noB w W → W.cell? ⟨B, 0, none⟩ = some (.pointer (some ⟨M, 0, none⟩)) → Calls Try.prog 49 #[cv, .func (.func 50) #[] #[.pointer (some ⟨B, 0, none⟩)]] W fun r w' => r = .returned (.int .i64 (fidx (fun x : EnV => g.fresh x.i x.t) vs)) ∧ Same noB W w' := by
    intro hfo W B hs hB
    refine idx50 (p := g.fresh) (hc.keep hs) (Lib.hid fun W2 e x hs2 hx hei het => ?_)
    obtain ⟨j, hj, hjx⟩ := List.getElem_of_mem hx
    have hxi := follow_at hfo (List.getElem?_eq_some_iff.2 ⟨hj, hjx⟩)
    have := mc_any ((h.keep hs).keep hs2) hf (hs2.cell hB (fun x => x)) (e := e) ⟨by omega, by omega⟩
    rw [hei, het] at this
    exact this
  obtain ⟨A, c, rfl, hc1, hc2, hr⟩ := hc.rd.form
  have hc0 := h.cells.1
  unfold Lg.merge
  cases hfo : followB i t vs with
  | false =>
    rw [if_pos rfl]
    rw [hfo] at h45
    refine (merge_no1 (Lib.hid h45)).mono ?_
    rintro r w' ⟨rfl, hs⟩
    exact ⟨w', _, [], rfl, LogToB.same h hs, copy_nil (Same.refl _ _)⟩
  | true =>
    rw [if_neg (by decide)]
    rw [hfo] at h45
    have h49 := h49 hfo
    have hw : IntKind.i64.wrap (i - 1) = i - 1 := IntWalk.i64_in _ (by omega)
    have hj1 : (if i - 1 < g.last.1 then i - 1 else g.last.1) = min g.last.1 (i - 1) := by split <;> omega
    have hj2 : (if g.base < min g.last.1 (i - 1) then min g.last.1 (i - 1) else g.base) = max g.base (min g.last.1 (i - 1)) := by split <;> omega
    cases hma : g.mat i t with
    | false =>
      rw [if_pos (by rfl)]
      rw [hma] at h46
      refine (merge_no2 hc0 hw hj1 hj2 (Lib.hid h45) (Lib.hid h23) (Lib.hid h46)).mono ?_
      rintro r w' ⟨rfl, hs⟩
      exact ⟨w', _, [], rfl, LogToB.same h hs, copy_nil (Same.refl _ _)⟩
    | true =>
      rw [hma] at h46
      cases han : vs.any (fun x => contraB g.base g.term x.i x.t) with
      | true =>
        rw [if_pos (by rfl)]
        rw [han] at h47
        refine (merge_no3 hc0 hw hj1 hj2 (Lib.hid h45) (Lib.hid h23) (Lib.hid h46) (Lib.hid h47)).mono ?_
        rintro r w' ⟨rfl, hs⟩
        exact ⟨w', _, [], rfl, LogToB.same h hs, copy_nil (Same.refl _ _)⟩
      | false =>
        rw [if_neg (by decide)]
        rw [han] at h47
        have hw2 : IntKind.i64.wrap (i + cs.length) = i + cs.length := IntWalk.i64_in _ (by omega)
        have hcv : (vs.length : Int) = cs.length := by omega
        cases hfi : vs.findIdx? (fun x => g.fresh x.i x.t) with
        | none =>
          have hq : fidx (fun x : EnV => g.fresh x.i x.t) vs = -1 := by unfold fidx; rw [hfi]
          rw [hq] at h49
          refine (merge_none hw2 (Lib.hid h45) (Lib.hid h23) (Lib.hid h46) (Lib.hid h47) (Lib.hid h49)).mono ?_
          rintro r w' ⟨rfl, hs⟩
          exact ⟨w', _, [], by rw [hcv], LogToB.same h hs, copy_nil (Same.refl _ _)⟩
        | some k =>
          have hq : fidx (fun x : EnV => g.fresh x.i x.t) vs = (k : Int) := by unfold fidx; rw [hfi]
          rw [hq] at h49
          rw [List.findIdx?_eq_some_iff_getElem] at hfi
          obtain ⟨hk, hkf, hkn⟩ := hfi
          have hx : vs[k]? = some vs[k] := List.getElem?_eq_getElem hk
          generalize vs[k] = x at hx hkf
          have hpos := Lg.fresh_pos hfo hma hx hkf (fun j z hj hz => by
            have := hkn j hj
            rw [(List.getElem?_eq_some_iff.1 hz).2] at this
            simpa using this)
          have hxi := follow_at hfo hx
          have hfl := hf.len
          have hlo := hf.lo
          have hhi := hf.hi
          have hle := h.len
          obtain ⟨m, hm⟩ : ∃ m : Nat, x.i - g.base = (m : Int) + 1 := ⟨(x.i - g.base - 1).toNat, by omega⟩
          have hmt : (i + 1 + k - g.base - 1).toNat = m := by omega
          have hmn : m ≤ es.length := by omega
          obtain ⟨e, he, hie⟩ := hc.is.at2 hx
          obtain ⟨fb, o, rfl, r⟩ := hr.at_ (by omega)
          obtain ⟨p0, _⟩ := en_at r he
          rw [hie.i] at p0
          have hck : ¬ c = k := by omega
          have hcut := enl_cut hc (a := k) (by omega)
          have hadd : Option.map (fun x => x.add (k * 15)) (some (⟨fb, o, none⟩ : Addr)) = some ⟨fb, o + k * 15, none⟩ := by simp [Addr.add]
          rw [if_neg hck, hadd] at hcut
          have hsl1 := fun wx => slice_from (A := some ⟨fb, o, none⟩) (n := cs.length) (c := c) (a := k) (by omega) wx
          rw [if_neg hck, hadd] at hsl1
          obtain ⟨L, lc, rfl, hl1, hl2⟩ := h.form
          have hown : w.ownsRow 0 57 15 (.slice L m lc) m (ecells (es.take m)) ∧ ∀ a, L = some a → ∃ g, a = ⟨g, 0, none⟩ := by
            rcases h.own.2 with ⟨e1, e2⟩ | ⟨g0, cap, cur, e1, _⟩
            · injection e1 with e1 e3 e4
              obtain rfl : m = 0 := by omega
              refine ⟨?_, fun a ha => by rw [e1] at ha; cases ha⟩
              rw [e1, e4]
              exact World.ownsRow_nil _ _ _ _
            · injection e1 with e1 e3 e4
              have h2 := h.own
              rw [e1] at h2
              have h3 := own_prefix h2 hmn
              rw [ecells_take _ _ hmn] at h3
              rw [e1]
              exact ⟨h3, fun a ha => by injection ha with ha; exact ⟨g0, ha.symm⟩⟩
          have hMA : (Value.slice L es.length lc).ownBlock ≠ some M := by
            intro e
            obtain ⟨ds, hb⟩ := own_blk h.own e
            exact Blk.ne_ h.box hb (by decide) rfl
          have hFA : (Value.slice L es.length lc).ownBlock ≠ some fb := fun e => r.ok (hlb fb (.inr e.symm))
          have hdl : (cs.drop k).length = cs.length - k := List.length_drop
          have hHC : ∀ W : World, Same (lgB M (.slice L es.length lc)) w W → Calls Try.prog 51 #[.slice (some ⟨fb, o + k * 15, none⟩) (cs.length - k) (c - k)] W fun r w' => ∃ O on oc os, r = .returned (.slice O on oc) ∧ os.length = on ∧ on = cs.length - k ∧ w'.ownsRow 0 57 15 (.slice O on oc) on (ecells os) ∧ Same noB W w' ∧ CopyIs W w' (.slice O on oc) os (vs.drop k) := by
            intro W hs
            refine (copied_any (hcut.same (bad' := noB) hs (fun b _ hb => hlb b hb) (fun _ _ x => x.elim)) (by rw [List.length_drop]; omega) (fun y hy => hsm y (List.mem_of_mem_drop hy))).mono ?_
            rintro r w' ⟨v', es', rfl, hcp⟩
            obtain ⟨O, oc, rfl⟩ := own_form hcp.own
            have hl := hcp.is.len
            rw [List.length_drop] at hl
            exact ⟨O, _, oc, es', rfl, rfl, by omega, hcp.own, hcp.since, hcp⟩
          refine (merge_yes (Q := fun W v os w' => CopyIs W w' v os (vs.drop k)) hw2 h.box hown.1 hMA hFA (by omega) (by omega) (by omega) p0 (by rw [IntWalk.i64_in _ (by omega)]; exact hm) (IntWalk.i64_in _ (by omega)) hsl1 (fun wx => slice_to (by omega) hown.2 wx) (Lib.hid hHC) (Lib.hid h45) (Lib.hid h23) (Lib.hid h46) (Lib.hid h47) (Lib.hid h49)).mono ?_
          rintro r w' ⟨W1, W2, W3, v1, v2, os1, os2, A3, c3, rfl, hs1, hq1, hs12, hs23, hown3, hat, hbox, hq2, hs3⟩
          have hL := h.box.lt
          have hsz1 := hs1.size
          have hsz2 := hs12.size
          have hOL : ∀ b, (Value.slice L es.length lc).ownBlock = some b → b < w.heap.size := fun b hb => (h.own.lt b hb).2
          have hs02 : Same noB w W2 := hs1.trans' hs12
          have hall : Same (lgB M (.slice L es.length lc)) w W3 := hs02.of_no.trans' hs23
          have hl3 := hq1.is.len
          rw [List.length_drop] at hl3
          have hold : ∀ b, b < w.heap.size → lgB M (.slice A3 (m + (cs.length - k)) c3) b → lgB M (.slice L es.length lc) b := by
            intro b hb hx
            rcases hx with hx | hx
            · exact .inl hx
            · rcases hat with ha | ha
              · exact .inr (by rw [← ha]; exact hx)
              · have := ha b hx.symm; omega
          have hnew : ∀ b, b < W2.heap.size → lgB M (.slice A3 (m + (cs.length - k)) c3) b → b < W1.heap.size := by
            intro b hb hx
            rcases hx with hx | hx
            · have h3 : b = M := hx; omega
            · rcases hat with ha | ha
              · have := hOL b (by rw [← ha]; exact hx.symm); omega
              · have := ha b hx.symm; omega
          have hnewS : ∀ b, lgB M (.slice L es.length lc) b → b < W1.heap.size := by
            intro b hx
            rcases hx with hx | hx
            · have h3 : b = M := hx; omega
            · have := hOL b hx.symm; omega
          dsimp only
          rw [hmt]
          refine ⟨W3, v2, os2, by rw [hcv], ⟨.slice A3 (m + (cs.length - k)) c3, es.take m ++ os1, ⟨hbox, ?_, ?_⟩, hall, ?_, ?_⟩, hq2⟩
          · rw [List.length_append, List.length_take, Nat.min_eq_left hmn, show os1.length = cs.length - k from by omega]
            exact hown3
          · exact ((h.is.take m).imp fun _ _ k => k.same hall (fun _ _ x => x) hold).app (hq1.is.imp fun _ _ k => k.same hs23 (fun b _ hb => .inl (hnewS b hb)) (fun b hb hx => .inl (hnew b hb hx)))
          · intro b hb
            rcases hat with ha | ha
            · exact .inl (by rw [← ha]; exact hb)
            · have := ha b hb; exact .inr (by omega)
          · intro B hB hA
            refine ((hA.take m).imp fun _ _ k => k.same hall (fun _ _ x => .inl x) (fun b hb hx => hx.imp (hold b hb) id)).app (hq1.is.imp fun _ _ k => k.same hs23 (fun b _ hb => .inl (hnewS b hb)) (fun b hb hx => ?_))
            rcases hx with hx | hx
            · exact .inl (hnew b hb hx)
            · have := hB b hx; exact .inl (by omega)
end Go.Proofs.Ytlocfbjeljgblaa
