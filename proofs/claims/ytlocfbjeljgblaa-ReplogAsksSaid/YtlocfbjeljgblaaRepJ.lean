/- Layer 36: New of the program, New and Last of the reference. -/
import Derived.Test.YtlocfbjeljgblaaRepE
import Derived.Deep.CutRange
namespace Go.Proofs.Ytlocfbjeljgblaa
open Go Go.RowKit
set_option maxRecDepth 100000

def Lg.new (i t : Int) : Lg := ⟨max i 0, max t 0, []⟩
theorem max_if (i : Int) : (if i < 0 then 0 else i) = max i 0 := by split <;> omega
theorem max_if' (i : Int) : (if 0 < i then i else 0) = max i 0 := by split <;> omega
theorem new_log (w : World) (i t : Int) : LogIs (w.alloc (.cells #[.int .i64 (max i 0), .int .i64 (max t 0), .slice none 0 0] 80)) w.heap.size (.slice none 0 0) [] (Lg.new i t) :=
  ⟨Blk.new _ _ _, World.ownsRow_nil _ _ _ _, .nil⟩
theorem res_c {fn : Func} {i : Nat} (hres : fn.results = #[.cell i 29]) {tmps : Array Value} {w : World} {g : Nat} {a b c : Value} (hb : Blk w g 29 #[a, b, c]) (h4 : tmps.getD i undef = .pointer (some ⟨g, 0, none⟩)) :
    (results fn tmps).run Try.prog w = .ok (.agg #[a, b, c]) w := by
  have c0 : w.cell? ⟨g, 0, none⟩ = some a := hb.cell 0
  have c1 : w.cell? ⟨g, 1, none⟩ = some b := hb.cell 1
  have c2 : w.cell? ⟨g, 2, none⟩ = some c := hb.cell 2
  simp only [Array.getD_eq_getD_getElem?] at h4
  simp [results, hres, go_sem, h4, c0, c1, c2]
theorem res_ct {fn : Func} {i j : Nat} (hres : fn.results = #[.cell i 29, .tmp j]) {tmps : Array Value} {w : World} {g : Nat} {a b c v : Value} (hb : Blk w g 29 #[a, b, c]) (h4 : tmps.getD i undef = .pointer (some ⟨g, 0, none⟩)) (h5 : tmps.getD j undef = v) :
    (results fn tmps).run Try.prog w = .ok (.tuple #[.agg #[a, b, c], v]) w := by
  have c0 : w.cell? ⟨g, 0, none⟩ = some a := hb.cell 0
  have c1 : w.cell? ⟨g, 1, none⟩ = some b := hb.cell 1
  have c2 : w.cell? ⟨g, 2, none⟩ = some c := hb.cell 2
  simp only [Array.getD_eq_getD_getElem?] at h4 h5
  simp [results, hres, go_sem, h4, h5, c0, c1, c2]
theorem res_cttt {fn : Func} {i j k l : Nat} (hres : fn.results = #[.cell i 29, .tmp j, .tmp k, .tmp l]) {tmps : Array Value} {w : World} {g : Nat} {a b c v v' v2 : Value} (hb : Blk w g 29 #[a, b, c]) (h4 : tmps.getD i undef = .pointer (some ⟨g, 0, none⟩)) (h5 : tmps.getD j undef = v) (h6 : tmps.getD k undef = v') (h7 : tmps.getD l undef = v2) :
    (results fn tmps).run Try.prog w = .ok (.tuple #[.agg #[a, b, c], v, v', v2]) w := by
  have c0 : w.cell? ⟨g, 0, none⟩ = some a := hb.cell 0
  have c1 : w.cell? ⟨g, 1, none⟩ = some b := hb.cell 1
  have c2 : w.cell? ⟨g, 2, none⟩ = some c := hb.cell 2
  simp only [Array.getD_eq_getD_getElem?] at h4 h5 h6 h7
  simp [results, hres, go_sem, h4, h5, h6, h7, c0, c1, c2]
theorem res_tct {fn : Func} {i j k : Nat} (hres : fn.results = #[.tmp j, .cell i 29, .tmp k]) {tmps : Array Value} {w : World} {g : Nat} {a b c v v' : Value} (hb : Blk w g 29 #[a, b, c]) (h4 : tmps.getD i undef = .pointer (some ⟨g, 0, none⟩)) (h5 : tmps.getD j undef = v) (h6 : tmps.getD k undef = v') :
    (results fn tmps).run Try.prog w = .ok (.tuple #[v, .agg #[a, b, c], v']) w := by
  have c0 : w.cell? ⟨g, 0, none⟩ = some a := hb.cell 0
  have c1 : w.cell? ⟨g, 1, none⟩ = some b := hb.cell 1
  have c2 : w.cell? ⟨g, 2, none⟩ = some c := hb.cell 2
  simp only [Array.getD_eq_getD_getElem?] at h4 h5 h6
  simp [results, hres, go_sem, h4, h5, h6, c0, c1, c2]
/-- A result that is an entry. -/
theorem res_et {fn : Func} {i j : Nat} (hres : fn.results = #[.cell i 57, .tmp j]) {tmps : Array Value} {w : World} {g : Nat} {e : En} {v : Value} (hb : Blk w g 57 e.cells.toArray) (h4 : tmps.getD i undef = .pointer (some ⟨g, 0, none⟩)) (h5 : tmps.getD j undef = v) :
    (results fn tmps).run Try.prog w = .ok (.tuple #[e.val, v]) w := by
  have c0 := hb.cell 0
  have c1 := hb.cell 1
  have c2 := hb.cell 2
  have c3 := hb.cell 3
  have c4 := hb.cell 4
  have c5 := hb.cell 5
  have c6 := hb.cell 6
  have c7 := hb.cell 7
  have c8 := hb.cell 8
  have c9 := hb.cell 9
  have c10 := hb.cell 10
  have c11 := hb.cell 11
  have c12 := hb.cell 12
  have c13 := hb.cell 13
  have c14 := hb.cell 14
  simp only [En.cells, List.getElem?_toArray, List.getElem?_cons_zero, List.getElem?_cons_succ] at c0 c1 c2 c3 c4 c5 c6 c7 c8 c9 c10 c11 c12 c13 c14
  clear hb
  simp only [Array.getD_eq_getD_getElem?] at h4 h5
  simp [results, hres, go_sem, h4, h5, c0, c1, c2, c3, c4, c5, c6, c7, c8, c9, c10, c11, c12, c13, c14, En.val]
set_option maxHeartbeats 4000000 in
theorem new_any (w : World) (i t : Int) :
    Calls Try.prog 11 #[.int .i64 i, .int .i64 t] w fun e w' => ∃ M, e = .returned (.pointer (some ⟨M, 0, none⟩)) ∧ w.heap.size ≤ M ∧ LogIs w' M (.slice none 0 0) [] (Lg.new i t) ∧ Same noB w w' := by
  have h1 := max_if i
  have h2 := max_if t
  go_enter Try.func11, Try.ntmps11
  go_wp2_with fail
  go_ret
  exact ⟨_, rfl, Nat.le_refl _, new_log w i t, (Same.refl _ _).alloc _⟩
set_option maxHeartbeats 4000000 in
theorem rnew_any (w : World) (i t : Int) :
    Calls Try.prog 12 #[.int .i64 i, .int .i64 t] w fun e w' => e = .returned (.agg #[.int .i64 (Lg.new i t).base, .int .i64 (Lg.new i t).term, .slice none 0 0]) ∧ Same noB w w' := by
  have h1 := max_if' i
  have h2 := max_if' t
  have HZ : Hid (Value.agg #[.int .i64 (max i 0), .int .i64 (max t 0), .slice none 0 0] = .agg #[.int .i64 (Lg.new i t).base, .int .i64 (Lg.new i t).term, .slice none 0 0]) := rfl
  rw [← HZ.out]
  go_enter Try.func12, Try.ntmps12
  go_upto_region 1 with (fail)
  refine wp_abs (fun W => Blk W w.heap.size 29 #[.int .i64 0, .int .i64 0, .slice none 0 0] ∧ Same noB w W) ⟨Blk.new _ _ _, (Same.refl _ _).alloc _⟩ ?_
  rintro W ⟨hb, hs⟩
  have hf0 := hb.frozen 0
  have hf1 := hb.frozen 1
  have hf2 := hb.frozen 2
  have q0 : W.cell? ⟨w.heap.size, 0, none⟩ = some (.int .i64 0) := hb.cell 0
  have q1 : W.cell? ⟨w.heap.size, 1, none⟩ = some (.int .i64 0) := hb.cell 1
  have q2 : W.cell? ⟨w.heap.size, 2, none⟩ = some (.slice none 0 0) := hb.cell 2
  have hb4 := Lib.hid (((hb.set_ 0 (.int .i64 (max i 0))).set_ 1 (.int .i64 (max t 0))).set_ 2 (.slice none 0 0))
  have HS := Lib.hid hs
  have HN : Hid (w.heap.size = w.heap.size) := rfl
  go_wp2_with fail
  (try simp only [Exit.inBlock, Exit.then])
  refine bodyPost_ret (res_c rfl hb4.out rfl) rfl ?_
  exact ⟨rfl, HS.out.trans ((((Same.refl (fun b => b = w.heap.size) W).setCell (fun _ => rfl) _).setCell (fun _ => rfl) _).setCell (fun _ => rfl) _) (fun b hb hx => absurd hx (Nat.ne_of_lt hb))⟩
set_option maxHeartbeats 4000000 in
theorem rlast_any {w : World} {bad : Nat → Prop} {v : Value} {es : List En} {g : Lg} (h : EnL w bad v es g.es) (hf : g.es.length ≤ 100000) :
    Calls Try.prog 39 #[.agg #[.int .i64 g.base, .int .i64 g.term, v]] w fun e w' => e = .returned (.tuple #[.int .i64 g.last.1, .int .i64 g.last.2]) ∧ Same noB w w' := by
  obtain ⟨A, c, rfl, hc1, hc2, _⟩ := h.rd.form
  have hl := h.len
  have hcc := h.rd.caps
  cases hn : es.length with
  | zero =>
    have HL : Hid (g.last = (g.base, g.term)) := Lg.last_nil (List.eq_nil_of_length_eq_zero (by omega))
    rw [HL.out]
    clear h hl hf hn hc1 hc2 hcc
    go_enter Try.func39, Try.ntmps39
    go_upto_region 1 with (fail)
    refine wp_abs (fun W => W.cell? ⟨w.heap.size, 0, none⟩ = some (.int .i64 g.base) ∧ W.cell? ⟨w.heap.size, 1, none⟩ = some (.int .i64 g.term) ∧ W.cell? ⟨w.heap.size, 2, none⟩ = some (.slice A 0 c) ∧ Hid (Same noB w W)) ⟨by go_simp, by go_simp, by go_simp, (Same.refl _ _).alloc _⟩ ?_
    rintro W ⟨d0, d1, d2, HS⟩
    generalize w.heap.size = N at *
    go_wp2_with fail
    go_region_held3 (fun w' => w'.cell? ⟨N, 0, none⟩ = some (.int .i64 g.base) ∧ w'.cell? ⟨N, 1, none⟩ = some (.int .i64 g.term))
      (first | (refine ⟨?_, ?_⟩ <;> with_reducible assumption) | go_keep)
      (fail)
    all_goals go_wp2_with fail
    all_goals
      go_ret2
      exact ⟨rfl, HS.out.drew⟩
  | succ k =>
    obtain ⟨x, hx⟩ : ∃ x, g.es[k]? = some x := ⟨_, List.getElem?_eq_getElem (by omega)⟩
    obtain ⟨e, he, hi⟩ := h.is.at2 hx
    obtain ⟨b, o, rfl, r⟩ := h.rd.at_ (by omega)
    obtain ⟨p0, p1, _⟩ := en_at r he
    rw [hi.i] at p0
    rw [hi.t] at p1
    have HL : Hid (g.last = (x.i, x.t)) := Lg.last_at (by omega) hx
    rw [HL.out]
    have HP := Lib.hid (And.intro p0 p1)
    have hk0 : (0 : Int) ≤ (k : Int) := by omega
    have hk1 : (k : Int) < (k : Int) + 1 := by omega
    have hk2 : k + 1 ≤ 100000 := by omega
    have hk3 : k + 1 ≤ c := by omega
    have hk4 : IntKind.i64.wrap (k : Int) = (k : Int) := IntWalk.i64_in _ (by omega)
    clear h hl hf hn hc1 hc2 hcc p0 p1 hi he r hx
    go_enter Try.func39, Try.ntmps39
    go_upto_region 1 with (fail)
    refine wp_abs (fun W => W.cell? ⟨w.heap.size, 2, none⟩ = some (.slice (some ⟨b, o, none⟩) (k + 1) c) ∧ Hid (Same noB w W)) ⟨by go_simp, (Same.refl _ _).alloc _⟩ ?_
    rintro W ⟨d2, HS⟩
    have p0 := HS.out.cell HP.out.1 (fun x => x)
    have p1 := HS.out.cell HP.out.2 (fun x => x)
    clear HP
    generalize w.heap.size = N at *
    go_wp2_with fail
    go_region_held3 (fun w' => w'.cell? ⟨N, 2, none⟩ = some (.slice (some ⟨b, o, none⟩) (k + 1) c) ∧ w'.cell? ⟨b, o + k * 15, none⟩ = some (.int .i64 x.i) ∧ w'.cell? ⟨b, o + k * 15 + 1, none⟩ = some (.int .i64 x.t))
      (first | (refine ⟨?_, ?_, ?_⟩ <;> with_reducible assumption) | go_keep)
      (fail)
    all_goals go_wp2_with fail
    all_goals
      go_ret2
      exact ⟨rfl, HS.out.drew⟩
end Go.Proofs.Ytlocfbjeljgblaa
