/- A queue of ints in memory of the call's own: a slice that is cut at its head and appended to; reversing a row of ints. -/
import Derived.Test.YtkmclglphelhdaaSiteL
import Derived.Test.YtkmclglphelhdaaSiteQ
import Derived.Deep.Onto
import Derived.Deep.LoopGhost
namespace Go.Proofs.Ytkmclglphelhdaa
open Go Go.RowKit Go.Maps

/-- A queue: it lies at o of block g. -/
structure Qu (W : World) (g o c : Nat) (l : List Int) : Prop where
  cap : l.length ≤ c
  max : c ≤ maxLen
  blk : ∃ cur, Blk W g 3 cur ∧ o + c ≤ cur.size ∧ ∀ (j : Nat) (x : Int), l[j]? = some x → cur[o + j]? = some (.int .i64 x)
def quVal (g o c : Nat) (l : List Int) : Value := .slice (some ⟨g, o, none⟩) l.length c
section
variable {W W' : World} {g o c : Nat} {l : List Int}
theorem Qu.at_ (h : Qu W g o c l) {j : Nat} {x : Int} (hx : l[j]? = some x) : W.cell? ⟨g, o + j, none⟩ = some (.int .i64 x) := by
  obtain ⟨cur, hb, _, hc⟩ := h.blk
  rw [hb.cell]
  exact hc j x hx
theorem Qu.lt (h : Qu W g o c l) : g < W.heap.size := by
  obtain ⟨cur, hb, _⟩ := h.blk
  exact hb.lt
theorem Qu.same {S : Nat → Prop} (h : Qu W g o c l) (hs : Same S W W') (hn : ¬ S g) : Qu W' g o c l := by
  obtain ⟨cur, hb, r⟩ := h.blk
  exact ⟨h.cap, h.max, cur, hb.same hs hn, r⟩
theorem Qu.ne_blk (h : Qu W g o c l) {b : Nat} {t : TypeId} {cs : Array Value} (hb : Blk W b t cs) (ht : t ≠ 3) : g ≠ b := by
  obtain ⟨cur, hc, _⟩ := h.blk
  exact hc.ne_ hb (Ne.symm ht)
theorem Qu.one (W : World) (x : Int) : Qu (W.alloc (.cells #[.int .i64 x] 3)) W.heap.size 0 1 [x] :=
  ⟨Nat.le_refl _, by simp [maxLen], _, Blk.new _ _ _, by simp, fun j y hy => by
    cases j with
    | zero => injection hy with e; subst e; rfl
    | succ j => simp at hy⟩
/-- queue[1:]. -/
theorem Qu.tail {x : Int} (h : Qu W g o c (x :: l)) : Qu W g (if c = 1 then o else o + 1) (c - 1) l := by
  have hc := h.cap
  have hm := h.max
  rw [List.length_cons] at hc
  obtain ⟨cur, hb, hs, hj⟩ := h.blk
  refine ⟨by omega, by omega, cur, hb, by split <;> omega, fun j y hy => ?_⟩
  have hl := (List.getElem?_eq_some_iff.1 hy).1
  rw [if_neg (by omega)]
  have := hj (j + 1) y hy
  rwa [show o + 1 + j = o + (j + 1) from by omega]
/-- append(queue, x): in place, or in a new block. -/
theorem run_qapp (h : Qu W g o c l) {ad : Addr} {c' : Nat} {x : Int} (hx : W.cell? (ad.add 0) = some (.int .i64 x)) (hl : l.length ≤ 1000000) (ty : TypeId) :
    ∃ g' o' cap' W', (Builtin.append_ #[35, 35] ty #[.slice (some ⟨g, o, none⟩) l.length c, .slice (some ad) 1 c']).run Try.prog W = .ok (.slice (some ⟨g', o', none⟩) (l.length + 1) cap') W' ∧ Qu W' g' o' cap' (l ++ [x]) ∧
      W.grownBy W' (some g) ∧ (g' = g ∨ W.heap.size ≤ g') := by
  obtain ⟨i0, hi, hz0, hz1, hz2⟩ := info_parts (show (Try.prog.info? 3).map (fun i => (i.zero, i.size, i.bytes)) = some (some (.int .i64 0), 1, 8) from by kernel_rfl)
  obtain ⟨cur, hb, hs, hj⟩ := h.blk
  have hnews : ∀ (j : Nat) (u : Value), [Value.int .i64 x][j]? = some u → W.cell? (ad.add j) = some u := fun j u hu => by
    cases j with
    | zero => injection hu with e; subst e; exact hx
    | succ j => simp at hu
  by_cases hr : l.length + 1 ≤ c
  · have hlt : o + l.length < cur.size := by omega
    have hrun := run_append_room_cells (P := Try.prog) W 35 ty 3 i0 Try.underlying35 hi g o l.length c ad 1 c' [.int .i64 x] (by rw [hz1]; rfl) hnews (int_one x) hr
      (fun j hj' => by
        have : j = 0 := by simpa using hj'
        subst this
        rw [hz1, Nat.mul_one, Nat.add_zero, hb.cell, Array.getElem?_eq_getElem hlt]; rfl)
      (fun j _ => hb.frozen _)
    rw [hz1, Nat.mul_one] at hrun
    have hst : W.setCells g (o + l.length) [.int .i64 x] = W.setCell ⟨g, o + l.length, none⟩ (.int .i64 x) := rfl
    rw [hst] at hrun
    refine ⟨g, o, c, _, hrun, ⟨by rw [List.length_append]; exact hr, h.max, _, hb.set_ _ _, by simpa using hs, fun j y hy => ?_⟩, ?_, .inl rfl⟩
    · rw [Array.getElem?_setIfInBounds]
      by_cases e : j < l.length
      · rw [if_neg (by omega)]
        rw [List.getElem?_append_left e] at hy
        exact hj j y hy
      · rw [List.getElem?_append_right (by omega)] at hy
        have e0 : j - l.length = 0 := by
          have := (List.getElem?_eq_some_iff.1 hy).1
          simp at this
          omega
        rw [e0] at hy
        simp at hy
        subst hy
        rw [if_pos (by omega), if_pos (by omega)]
    · exact ((Same.refl (oneB g) W).set1 _ _).to_grown (fun b _ e => by rw [show b = g from e])
  · obtain ⟨v', W', hrun, hown, hg⟩ := run_append_arg_grows (P := Try.prog) W 35 ty 3 i0 (.int .i64 0) 1 8 Try.underlying35 hi hz0 hz1 hz2 rfl (by decide) ⟨g, o, none⟩ l.length c (icells l) (icells_len l)
      (fun j u hu => by
        rw [Addr.add_lit, hb.cell]
        unfold icells at hu
        rw [List.getElem?_map] at hu
        cases hl2 : l[j]? with
        | none => rw [hl2] at hu; cases hu
        | some y => rw [hl2] at hu; injection hu with e; subst e; exact hj j y hl2)
      ad 1 c' [.int .i64 x] rfl hnews (by omega) (by simp only [maxLen]; omega) (by omega)
    obtain ⟨hln, h2⟩ := hown
    rcases h2 with ⟨_, e2⟩ | ⟨g', cap', cur', rfl, hbg, hg', hnc, hcm, hcs, ht⟩
    · omega
    · have hlt' : W'.heap.size = W.heap.size + (W'.heap.size - W.heap.size) := by have := hg.size; omega
      refine ⟨g', 0, cap', W', hrun, ⟨by rw [List.length_append]; exact hnc, hcm, cur', hg', by rw [hcs]; omega, fun j y hy => ?_⟩, ?_, ?_⟩
      · have h3 : (icells l ++ [.int .i64 x])[j]? = some (.int .i64 y) := by rw [← icells_snoc]; exact icells_at hy
        rw [← ht, List.getElem?_take] at h3
        split at h3
        · rw [Nat.zero_add]; simpa using h3
        · cases h3
      · exact ⟨hg.os, hg.tape, hg.output, hg.size, fun k hk _ => hg.block k hk (by simp)⟩
      · exact .inr hbg
theorem wpL_qapp {ops : Array Oper} {rest : List Oper} {op : Oper} {a : Act} {Q : Exit → Act → World → Prop} (hgd : op.guard = none) (s x : Operand) (ho : op.op = .call { callee := .builtin .append, args := #[s, x], argTypes := #[35, 35] })
    {n : Nat} (hs : a.eval s = .slice (some ⟨g, o, none⟩) n c) (hn : n = l.length) (h : Qu W g o c l) {ad : Addr} {c' : Nat} {y : Int} (hx : a.eval x = .slice (some ad) 1 c') (hy : W.cell? (ad.add 0) = some (.int .i64 y)) (hl : l.length ≤ 1000000)
    (hK : ∀ g' o' cap' W', Qu W' g' o' cap' (l ++ [y]) → W.grownBy W' (some g) → (g' = g ∨ W.heap.size ≤ g') → wpList Try.prog ops Q rest (a.put op.dst (.slice (some ⟨g', o', none⟩) (n + 1) cap')) W') : wpList Try.prog ops Q (op :: rest) a W :=
  wpList_plain hgd fun K hK' => by
    subst hn
    obtain ⟨g', o', cap', W', hrun, h2, h3, h4⟩ := run_qapp h hy hl op.type
    unfold Oper.wp
    simp only [execOp, ho, resolve, invoke, builtin, Sem.run_bind, Sem.run_pure, Result.andThen_ok, List.map_toArray, List.map_cons, List.map_nil, hs, hx]
    rw [hrun]
    exact hK' _ _ (hK g' o' cap' W' h2 h3 h4)
end

end Go.Proofs.Ytkmclglphelhdaa
