/- SitePartition: make's row; what the loops keep. -/
import Derived.Test.YtkmclglphelhdaaPartR
namespace Go.Proofs.Ytkmclglphelhdaa
open Go Go.RowKit Go.Maps

/-- make([]int, n): a row of zeros. -/
theorem make_row (w : World) (N : Nat) (hN : N ≤ 1000000) :
    ∃ w', (Instr.makeSlice 35 (.int .i64 ((N : Int) + 1)) (.int .i64 ((N : Int) + 1))).run Try.prog w = .ok (.slice (some ⟨w.heap.size, 0, none⟩) (N + 1) (N + 1)) w' ∧
      w'.ownsRow 0 3 1 (.slice (some ⟨w.heap.size, 0, none⟩) (N + 1) (N + 1)) (N + 1) (seenCells [] N) ∧ Same noB w w' := by
  rw [seenCells_nil]
  exact make_zero w N hN

/-- The model's box and the row seen, since w. -/
structure PrI (w W : World) (p : MPl) (m : Mdl) (M g N : Nat) (P : List Int) : Prop where
  mb : MB w W p m M
  own : W.ownsRow 0 3 1 (.slice (some ⟨g, 0, none⟩) (N + 1) (N + 1)) (N + 1) (seenCells P N)
  lo : w.heap.size ≤ g
theorem PrI.keep {w W W' : World} {p : MPl} {m : Mdl} {M g N : Nat} {P : List Int} (h : PrI w W p m M g N P) (hs : Same noB W W') : PrI w W' p m M g N P :=
  ⟨h.mb.keep hs, own_same h.own hs (fun _ _ x => x), h.lo⟩
theorem PrI.at_ {w W : World} {p : MPl} {m : Mdl} {M g N : Nat} {P : List Int} (h : PrI w W p m M g N P) {i : Nat} (hi : i ≤ N) : W.cell? ⟨g, i, none⟩ = some (.int .i64 (seenF P (i : Int))) ∧ W.frozen? ⟨g, i, none⟩ = false ∧ g < W.heap.size :=
  own_at h.own (seenCells_at hi)
/-- seen[x]++ for a number that is new. -/
theorem PrI.see {w W : World} {p : MPl} {m : Mdl} {M g N : Nat} {P : List Int} (h : PrI w W p m M g N P) (hin : MdlIn w p m) {x : Nat} (hx : x ≤ N) (hn : (x : Int) ∉ P) : PrI w (W.setCell ⟨g, x, none⟩ (.int .i64 (seenF P (x : Int) + 1))) p m M g N (P ++ [(x : Int)]) := by
  have hs : Same (oneB g) W (W.setCell ⟨g, x, none⟩ (.int .i64 (seenF P (x : Int) + 1))) := (Same.refl _ _).set1 _ _
  have hsince : Same noB w (W.setCell ⟨g, x, none⟩ (.int .i64 (seenF P (x : Int) + 1))) := h.mb.since.trans hs (fun b hb e => by
    have := h.lo
    rw [show b = g from e] at hb
    omega)
  obtain ⟨cs, hc⟩ := own_blk h.own rfl
  refine ⟨⟨hin.keep hsince, h.mb.box.same hs (fun e => ?_), hsince⟩, by rw [← seenCells_set hx hn]; exact own_set h.own _, h.lo⟩
  have e' : M = g := e
  subst e'
  exact h.mb.box.ne_ hc (by decide) rfl
end Go.Proofs.Ytkmclglphelhdaa
