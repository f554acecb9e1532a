/- Layer 36: the law's comparison of a log with the reference, of equal data. -/
import Derived.Test.YtlocfbjeljgblaaRepJ
import Derived.Test.YtlocfbjeljgblaaRepI
import Derived.Test.YtlocfbjeljgblaaRepC
namespace Go.Proofs.Ytlocfbjeljgblaa
open Go Go.RowKit
set_option maxRecDepth 100000

def SmS (N : Nat) (base term : Int) (lv : Value) (w' : World) : Prop := w'.cell? ⟨N, 0, none⟩ = some (.int .i64 base) ∧ w'.cell? ⟨N, 1, none⟩ = some (.int .i64 term) ∧ w'.cell? ⟨N, 2, none⟩ = some lv
set_option maxHeartbeats 8000000 in
theorem same_core {w : World} {M n c : Nat} {A : Option Addr} {base term l1 l2 : Int}
    (H21 : Hid (∀ W : World, Same noB w W → Calls Try.prog 21 #[.pointer (some ⟨M, 0, none⟩)] W fun r w' => r = .returned (.tuple #[.int .i64 base, .int .i64 term]) ∧ Same noB W w'))
    (H23 : Hid (∀ W : World, Same noB w W → Calls Try.prog 23 #[.pointer (some ⟨M, 0, none⟩)] W fun r w' => r = .returned (.tuple #[.int .i64 l1, .int .i64 l2]) ∧ Same noB W w'))
    (H39 : Hid (∀ W : World, Same noB w W → Calls Try.prog 39 #[.agg #[.int .i64 base, .int .i64 term, .slice A n c]] W fun r w' => r = .returned (.tuple #[.int .i64 l1, .int .i64 l2]) ∧ Same noB W w'))
    (H19 : Hid (∀ W : World, Same noB w W → Calls Try.prog 19 #[.pointer (some ⟨M, 0, none⟩), .int .i64 0, .int .i64 1000] W fun r w' => ∃ v1, r = .returned v1 ∧ Same noB W w' ∧ Hid (∀ W3 : World, Same noB w' W3 → Calls Try.prog 20 #[v1, .slice A n c] W3 fun r w' => r = .returned (.bool true) ∧ Same noB W3 w'))) :
    Calls Try.prog 13 #[.pointer (some ⟨M, 0, none⟩), .agg #[.int .i64 base, .int .i64 term, .slice A n c]] w fun r w' => r = .returned (.bool true) ∧ Same noB w w' := by
  go_enter Try.func13, Try.ntmps13
  go_upto_region 1 with (fail)
  refine wp_abs (fun W => W.cell? ⟨w.heap.size, 0, none⟩ = some (.int .i64 base) ∧ W.cell? ⟨w.heap.size, 1, none⟩ = some (.int .i64 term) ∧ W.cell? ⟨w.heap.size, 2, none⟩ = some (.slice A n c) ∧ Hid (Same noB w W)) ⟨by go_simp, by go_simp, by go_simp, (Same.refl _ _).alloc _⟩ ?_
  rintro W0 ⟨d0, d1, d2, HS⟩
  obtain ⟨N, hN⟩ : ∃ N, w.heap.size = N := ⟨_, rfl⟩
  rw [hN] at d0 d1 d2 ⊢
  go_wp2_with fail
  (with_reducible refine Calls.mono (H21.out W0 HS.out) ?_)
  rintro r W1 ⟨rfl, hs1⟩
  replace d0 := hs1.cell d0 (fun x => x)
  replace d1 := hs1.cell d1 (fun x => x)
  replace d2 := hs1.cell d2 (fun x => x)
  replace HS := Lib.hid (HS.out.trans' hs1)
  clear hs1 H21
  go_wp2_with fail
  (with_reducible refine Calls.mono (H23.out W1 HS.out) ?_)
  rintro r W2 ⟨rfl, hs1⟩
  replace d0 := hs1.cell d0 (fun x => x)
  replace d1 := hs1.cell d1 (fun x => x)
  replace d2 := hs1.cell d2 (fun x => x)
  replace HS := Lib.hid (HS.out.trans' hs1)
  clear hs1 H23
  go_wp2_with fail
  (with_reducible refine Calls.mono (H39.out W2 HS.out) ?_)
  rintro r W3 ⟨rfl, hs1⟩
  replace d0 := hs1.cell d0 (fun x => x)
  replace d1 := hs1.cell d1 (fun x => x)
  replace d2 := hs1.cell d2 (fun x => x)
  replace HS := Lib.hid (HS.out.trans' hs1)
  clear hs1 H39
  go_wp2_with fail
  go_region_held3 (fun w' => w'.cell? ⟨N, 0, none⟩ = some (.int .i64 base) ∧ w'.cell? ⟨N, 1, none⟩ = some (.int .i64 term) ∧ w'.cell? ⟨N, 2, none⟩ = some (.slice A n c))
    (first | (refine ⟨?_, ?_, ?_⟩ <;> with_reducible assumption) | go_keep)
    (first
      | (go_at_call 19; (with_reducible refine Calls.mono (H19.out _ HS.out.drew) ?_); rintro r W4 ⟨v1, rfl, hs1, H20⟩; replace d0 := hs1.cell (w := W3.drew) d0 (fun x => x); replace d1 := hs1.cell (w := W3.drew) d1 (fun x => x); replace d2 := hs1.cell (w := W3.drew) d2 (fun x => x); have HS4 := Lib.hid (HS.out.drew.trans' hs1); clear hs1)
      | (go_at_call 20; (with_reducible refine Calls.mono (H20.out _ (Same.refl _ _)) ?_); rintro r W5 ⟨rfl, hs1⟩; replace d0 := hs1.cell d0 (fun x => x); replace d1 := hs1.cell d1 (fun x => x); replace d2 := hs1.cell d2 (fun x => x); have HS5 := Lib.hid (HS4.out.trans' hs1); clear hs1))
  all_goals go_wp2_with fail
  all_goals
    go_ret
    exact ⟨rfl, HS5.out⟩
theorem same_any {w : World} {bad : Nat → Prop} {M : Nat} {v lv : Value} {es ls : List En} {g : Lg} (h : LogIs w M v es g) (hr : EnL w bad lv ls g.es) (hf : g.Fit) (hsm : ∀ x ∈ g.es, x.c.Sm) (hlen : g.es.length ≤ 1000) :
    Calls Try.prog 13 #[.pointer (some ⟨M, 0, none⟩), .agg #[.int .i64 g.base, .int .i64 g.term, lv]] w fun r w' => r = .returned (.bool true) ∧ Same noB w w' := by
  have h39 := fun (W : World) (hs : Same noB w W) => rlast_any (hr.keep hs) (by omega)
  obtain ⟨A, c, rfl, hc1, hc2, _⟩ := hr.rd.form
  have hlo := hf.lo
  have hL : g.fromL 0 1000 = g.es := by
    unfold Lg.fromL Lg.atOf
    rw [show (0 - g.base - 1).toNat = 0 from by omega, List.drop_zero, List.take_of_length_le (by simpa using hlen)]
  refine same_core (Lib.hid fun W hs => base_any (h.keep hs)) (Lib.hid fun W hs => last_any (h.keep hs) hf) (Lib.hid h39) (Lib.hid fun W hs => (from_any (h.keep hs) hf hsm (i := 0) (most := 1000) ⟨by omega, by omega⟩ ⟨by omega, by omega⟩).mono ?_)
  rintro r w' ⟨v1, rfl, es', hcp⟩
  rw [hL] at hcp
  have hen : EnL w' noB v1 es' g.es := ⟨Rd.of_own hcp.own (fun _ _ x => x), hcp.is.imp fun _ _ k => k.same (Same.refl noB _) (fun _ _ x => x.elim) (fun _ _ x => x.elim)⟩
  exact ⟨v1, rfl, hcp.since, fun W3 hs3 => sameents_true (hen.keep hs3) ((hr.keep (hs.trans' hcp.since)).keep hs3)⟩
end Go.Proofs.Ytlocfbjeljgblaa
