/- A store into a row of ints of the call's own; make. -/
import Derived.Test.YtkmclglphelhdaaSiteC
import Derived.Laws.OwnMore
namespace Go.Proofs.Ytkmclglphelhdaa
open Go Go.RowKit Go.Maps

theorem own_set {w : World} {g n c i : Nat} {xs : List Value} (h : w.ownsRow 0 3 1 (.slice (some ⟨g, 0, none⟩) n c) n xs) (u : Value) :
    (w.setCell ⟨g, i, none⟩ u).ownsRow 0 3 1 (.slice (some ⟨g, 0, none⟩) n c) n (xs.set i u) := by
  obtain ⟨hl, hr⟩ := h
  refine ⟨by rw [List.length_set]; exact hl, ?_⟩
  rcases hr with ⟨e, _⟩ | ⟨g', cap, cur, e, hb, hg, hnc, hcm, hcs, ht⟩
  · cases e
  · simp only [Value.slice.injEq, Option.some.injEq, Addr.mk.injEq, and_true, true_and] at e
    obtain ⟨rfl, rfl⟩ := e
    have hB : Blk w g 3 cur := hg
    refine .inr ⟨g, c, cur.setIfInBounds i u, rfl, hb, hB.set_ i u, hnc, hcm, by simpa using hcs, ?_⟩
    rw [← ht, Array.toList_setIfInBounds, List.take_set]
theorem own_at {w : World} {g n c i : Nat} {xs : List Value} {u : Value} (h : w.ownsRow 0 3 1 (.slice (some ⟨g, 0, none⟩) n c) n xs) (hi : xs[i]? = some u) : w.cell? ⟨g, i, none⟩ = some u ∧ w.frozen? ⟨g, i, none⟩ = false ∧ g < w.heap.size := by
  obtain ⟨hl, hr⟩ := h
  rcases hr with ⟨e, _⟩ | ⟨g', cap, cur, e, hb, hg, hnc, hcm, hcs, ht⟩
  · cases e
  · simp only [Value.slice.injEq, Option.some.injEq, Addr.mk.injEq, and_true, true_and] at e
    obtain ⟨rfl, rfl⟩ := e
    have hB : Blk w g 3 cur := hg
    refine ⟨?_, hB.frozen i, hB.lt⟩
    rw [hB.cell]
    rw [← ht, List.getElem?_take] at hi
    split at hi
    · simpa using hi
    · cases hi
theorem info3 : (Try.prog.info? 3).map (fun i => (i.zero, i.size, i.bytes)) = some (some (.int .i64 0), 1, 8) := by kernel_rfl
/-- make([]int, n): a row of zeros. -/
theorem make_zero (w : World) (N : Nat) (hN : N ≤ 1000000) :
    ∃ w', (Instr.makeSlice 35 (.int .i64 ((N : Int) + 1)) (.int .i64 ((N : Int) + 1))).run Try.prog w = .ok (.slice (some ⟨w.heap.size, 0, none⟩) (N + 1) (N + 1)) w' ∧
      w'.ownsRow 0 3 1 (.slice (some ⟨w.heap.size, 0, none⟩) (N + 1) (N + 1)) (N + 1) (List.replicate (N + 1) (.int .i64 0)) ∧ Same noB w w' := by
  obtain ⟨i0, hi, hz0, hz1, hz2⟩ := info_parts info3
  obtain ⟨w', h1, h2, h3⟩ := run_make_full (P := Try.prog) w 0 35 3 i0 (.int .i64 0) 1 Try.underlying35 hi hz0 hz1 .i64 .i64 (N + 1) (by rw [hz2]; omega) (by simp [maxLen]; omega) (Nat.zero_le _)
  refine ⟨w', by rw [show ((N : Int) + 1) = ((N + 1 : Nat) : Int) from by omega]; exact h1, ?_, (Same.of_grown h3).mono (fun b _ e => by cases e)⟩
  rw [Nat.mul_one, show (Value.int IntKind.i64 0).cells = #[.int .i64 0] from rfl, toList_madeCells_one] at *
  exact h2

end Go.Proofs.Ytkmclglphelhdaa
