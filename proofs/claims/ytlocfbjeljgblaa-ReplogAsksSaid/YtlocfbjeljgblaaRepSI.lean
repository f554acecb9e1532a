/- Layer 36: the example of the chapter. (printed by genRepSI.py) -/
import Derived.Test.YtlocfbjeljgblaaRepSG
import Derived.Test.YtlocfbjeljgblaaRepSH
namespace Go.Proofs.Ytlocfbjeljgblaa
open Go Go.RowKit
set_option maxRecDepth 100000

/-- A log of the program, made behind w. -/
structure LgN (w W : World) (M : Nat) (v : Value) (es : List En) (g : Lg) : Prop where
  log : LogIs W M v es g
  since : Same noB w W
  m0 : ∀ b, lgB M v b → w.heap.size ≤ b
namespace LgN
variable {w W W' W3 : World} {M : Nat} {v : Value} {es : List En} {g g' : Lg}
theorem keep (h : LgN w W M v es g) (hs : Same noB W W') : LgN w W' M v es g := ⟨h.log.keep hs, h.since.trans' hs, h.m0⟩
theorem step (h : LgN w W M v es g) (hk : Same noB W W') (hl : LogToB W' W3 M v es g g') {w' : World} (hs : Same noB W3 w') : ∃ v' es', LgN w w' M v' es' g' := by
  obtain ⟨v', es', h1, h2, h3, _⟩ := hl
  have hz := h.since.size
  have hz2 := hk.size
  refine ⟨v', es', h1.keep hs, ((h.since.trans' hk).trans h2 (fun b hb x => by have := h.m0 b x; omega)).trans' hs, fun b hb => ?_⟩
  rcases hb with hb | hb
  · exact h.m0 b (.inl hb)
  · rcases h3 b hb.symm with hb | hb
    · exact h.m0 b (.inr hb.symm)
    · omega
end LgN
def vz : CmV := ⟨⟨0, 0, 0, .empty, 0, 0, 0, 0⟩, [], [], [], [], []⟩
def v1 : CmV := ⟨⟨1, 3, 1, .empty, 0, 0, 0, 0⟩, [], [], [], [], []⟩
def cz : Cm := ⟨⟨0, 0, 0, .empty, 0, 0, 0, 0⟩, ⟨none, 0, 0⟩, ⟨none, 0, 0⟩, ⟨none, 0, 0⟩, ⟨none, 0, 0⟩, ⟨none, 0, 0⟩⟩
def c1 : Cm := ⟨⟨1, 3, 1, .empty, 0, 0, 0, 0⟩, ⟨none, 0, 0⟩, ⟨none, 0, 0⟩, ⟨none, 0, 0⟩, ⟨none, 0, 0⟩, ⟨none, 0, 0⟩⟩
theorem sl_nil (w : World) (bad : Nat → Prop) : SlIs w bad ⟨none, 0, 0⟩ [] := ⟨rfl, Rd.nil_ _ _ _⟩
theorem cz_is (w : World) (bad : Nat → Prop) : CmIs w bad cz vz := ⟨rfl, sl_nil w bad, sl_nil w bad, sl_nil w bad, sl_nil w bad, sl_nil w bad⟩
theorem c1_is (w : World) (bad : Nat → Prop) : CmIs w bad c1 v1 := ⟨rfl, sl_nil w bad, sl_nil w bad, sl_nil w bad, sl_nil w bad, sl_nil w bad⟩
theorem vz_sm : vz.Sm := ⟨by simp [vz], by simp [vz], by simp [vz], by simp [vz], by simp [vz]⟩
theorem v1_sm : v1.Sm := ⟨by simp [v1], by simp [v1], by simp [v1], by simp [v1], by simp [v1]⟩
theorem ccells_len (cs : List Cm) : (ccells cs).length = cs.length * 13 := flat_len Cm.cells 13 (fun _ => rfl) cs
theorem ecells_len (es : List En) : (ecells es).length = es.length * 15 := flat_len En.cells 15 (fun _ => rfl) es
theorem aw_app {w W : World} {M : Nat} {v : Value} {es : List En} {g : Lg} (h : LgN w W M v es g) (hf : g.Fit) (hla : 0 ≤ g.last.1 ∧ g.last.1 ≤ 4398046511104) {cs : List Cm} {vs : List CmV} (hcs : ∀ (W : World) (bad : Nat → Prop), All2 (CmIs W bad) cs vs) (hsm : ∀ x ∈ vs, x.Sm) (hn : vs.length ≤ 1000) (t : Int) {g' : Lg} {want : List EnV} (ha : g.append t vs = (g', want)) :
    Calls Try.prog 27 #[.pointer (some ⟨M, 0, none⟩), .int .i64 t, .slice (some ⟨W.heap.size, 0, none⟩) cs.length cs.length] (W.alloc (.cells (ccells cs).toArray 55)) fun r w' => ∃ O oc v' es', r = .returned (.slice O want.length oc) ∧ LgN w w' M v' es' g' := by
  have hs := (Same.refl noB W).alloc (.cells (ccells cs).toArray 55)
  have hl := (hcs W noB).len
  refine (append_any (bad := lgB M v) (h.log.keep hs) hf hla ⟨Rd.of_blk (Blk.new W 55 (ccells cs).toArray) (fun x => by have := h.log.blt _ x; omega) (by rw [ccells_len]) (Nat.le_refl _) (by simp only [maxLen]; omega), hcs _ _⟩ (fun b hb => hb) hn hsm t).mono ?_
  rintro r w' ⟨W3, o, os, rfl, hl2, hcp⟩
  rw [ha] at hl2 hcp
  obtain ⟨O, oc, rfl⟩ := own_form hcp.own
  have hol := hcp.is.len
  obtain ⟨v', es', h2⟩ := h.step hs hl2 hcp.since
  exact ⟨O, oc, v', es', by rw [hol], h2⟩
theorem aw_merge {w W : World} {M : Nat} {v cv : Value} {es cs : List En} {vs : List EnV} {g : Lg} (h : LgN w W M v es g) (hf : g.Fit) (hla : 0 ≤ g.last.1 ∧ g.last.1 ≤ 4398046511104) {Wa : World} (hs : Same noB W Wa) (hc : EnL Wa (lgB M v) cv cs vs) (hsm : ∀ x ∈ vs, x.c.Sm) (hn : vs.length ≤ 1000) {i t : Int} (hi1 : -4398046511104 ≤ i) (hi2 : i ≤ 4398046511104) {g' : Lg} {q : Int} {want : List EnV} {ok : Bool} (ha : g.merge i t vs = (g', q, want, ok)) :
    Calls Try.prog 17 #[.pointer (some ⟨M, 0, none⟩), .int .i64 i, .int .i64 t, cv] Wa fun r w' => ∃ O oc v' es', r = .returned (.tuple #[.int .i64 q, .slice O want.length oc, .bool ok]) ∧ LgN w w' M v' es' g' := by
  refine (merge_any (h.log.keep hs) hf hla hc (fun b hb => hb) hn hsm hi1 hi2).mono ?_
  rintro r w' ⟨W3, o, os, rfl, hl2, hcp⟩
  rw [ha] at hl2 hcp ⊢
  obtain ⟨O, oc, rfl⟩ := own_form hcp.own
  have hol := hcp.is.len
  obtain ⟨v', es', h2⟩ := h.step hs hl2 hcp.since
  exact ⟨O, oc, v', es', by rw [hol], h2⟩
def ga : Lg := ⟨0, 0, [⟨1, 1, vz⟩, ⟨2, 1, v1⟩]⟩
def gb : Lg := ⟨0, 0, [⟨1, 1, vz⟩, ⟨2, 1, v1⟩, ⟨3, 2, vz⟩]⟩
def gc : Lg := ⟨0, 0, [⟨1, 1, vz⟩, ⟨2, 3, vz⟩]⟩
theorem g0_eq : Lg.new 0 0 = ⟨0, 0, []⟩ := rfl
theorem ga_eq : (Lg.new 0 0).append 1 [vz, v1] = (ga, [⟨1, 1, vz⟩, ⟨2, 1, v1⟩]) := by rfl
theorem gb_eq : ga.append 2 [vz] = (gb, [⟨3, 2, vz⟩]) := by rfl
theorem gc_eq : gb.merge 1 1 [⟨2, 3, vz⟩] = (gc, 2, [⟨2, 3, vz⟩], true) := by rfl
theorem gd_eq : gc.merge 4 3 [] = (gc, 2, [], false) := by rfl
theorem gc_last : gc.last = (2, 3) := by rfl
theorem gc_newer : gc.newer 2 3 = true := by rfl
theorem gc_pend : gc.pend 3 1 0 = false := by rfl
theorem fit_small {g : Lg} (h0 : 0 ≤ g.base) (h1 : g.base ≤ 10) (h2 : g.es.length ≤ 10) : g.Fit := ⟨h0, by omega, by omega⟩
set_option maxHeartbeats 8000000 in
theorem awake_any (w : World) :
    Calls Try.prog 9 #[] w fun r w' => r = .returned (.bool true) ∧ Same noB w w' := by
  go_enter Try.func9, Try.ntmps9
  go_wp2_with fail
  (with_reducible refine Calls.mono (new_any w 0 0) ?_)
  rintro r W1 ⟨M, rfl, hM, hl, hs⟩
  have HL : Hid (LgN w W1 M (.slice none 0 0) [] (Lg.new 0 0)) := ⟨hl, hs, fun b hb => hb.elim (fun e => by rw [e]; exact hM) (fun e => by simp [Value.ownBlock] at e)⟩
  clear hM hl hs
  have hZ : Calls Try.prog 27 #[.pointer (some ⟨M, 0, none⟩), .int .i64 1, .slice (some ⟨W1.heap.size, 0, none⟩) 2 2] (W1.alloc (.cells #[.int .i64 0, .int .i64 0, .int .i64 0, .string ⟨#[]⟩, .int .i64 0, .int .i64 0, .int .i64 0, .int .i64 0, .slice none 0 0, .slice none 0 0, .slice none 0 0, .slice none 0 0, .slice none 0 0, .int .i64 1, .int .i64 3, .int .i64 1, .string ⟨#[]⟩, .int .i64 0, .int .i64 0, .int .i64 0, .int .i64 0, .slice none 0 0, .slice none 0 0, .slice none 0 0, .slice none 0 0, .slice none 0 0] 55)) _ :=
    aw_app (cs := [cz, c1]) HL.out (fit_small (by decide) (by decide) (by decide)) (by decide) (fun W bad => .cons (cz_is W bad) (.cons (c1_is W bad) .nil)) (fun x hx => by
      rcases List.mem_cons.1 hx with rfl | hx
      · exact vz_sm
      · rw [List.mem_singleton.1 hx]; exact v1_sm) (by decide) 1 ga_eq
  have HZ := Lib.hid hZ
  clear hZ
  go_wp2_with fail
  (with_reducible refine Calls.mono HZ.out ?_)
  clear HZ HL
  rintro r W2 ⟨O, oc, v', es', rfl, h2⟩
  have HL := Lib.hid h2
  clear h2
  have hZ : Calls Try.prog 27 #[.pointer (some ⟨M, 0, none⟩), .int .i64 2, .slice (some ⟨W2.heap.size, 0, none⟩) 1 1] (W2.alloc (.cells #[.int .i64 0, .int .i64 0, .int .i64 0, .string ⟨#[]⟩, .int .i64 0, .int .i64 0, .int .i64 0, .int .i64 0, .slice none 0 0, .slice none 0 0, .slice none 0 0, .slice none 0 0, .slice none 0 0] 55)) _ :=
    aw_app (cs := [cz]) HL.out (fit_small (by decide) (by decide) (by decide)) (by decide) (fun W bad => .cons (cz_is W bad) .nil) (fun x hx => by rw [List.mem_singleton.1 hx]; exact vz_sm) (by decide) 2 gb_eq
  have HZ := Lib.hid hZ
  clear hZ
  go_wp2_with fail
  (with_reducible refine Calls.mono HZ.out ?_)
  clear HZ HL
  rintro r W3 ⟨O2, oc2, v2, es2, rfl, h2⟩
  have HL := Lib.hid h2
  clear h2
  have hEn : EnL (W3.alloc (.cells #[.int .i64 2, .int .i64 3, .int .i64 0, .int .i64 0, .int .i64 0, .string ⟨#[]⟩, .int .i64 0, .int .i64 0, .int .i64 0, .int .i64 0, .slice none 0 0, .slice none 0 0, .slice none 0 0, .slice none 0 0, .slice none 0 0] 57)) (lgB M v2) (.slice (some ⟨W3.heap.size, 0, none⟩) 1 1) [⟨2, 3, cz⟩] [⟨2, 3, vz⟩] := ⟨Rd.of_blk (Blk.new W3 57 (ecells [⟨2, 3, cz⟩]).toArray) (fun x => by have := HL.out.log.blt _ x; omega) rfl (Nat.le_refl _) (by simp [maxLen]), .cons ⟨rfl, rfl, cz_is _ _⟩ .nil⟩
  have HZ := Lib.hid (aw_merge (i := 1) (t := 1) HL.out (fit_small (by decide) (by decide) (by decide)) (by decide) ((Same.refl noB W3).alloc _) hEn (fun x hx => by rw [List.mem_singleton.1 hx]; exact vz_sm) (by decide) (by decide) (by decide) gc_eq)
  clear hEn
  go_wp2_with fail
  (with_reducible refine Calls.mono HZ.out ?_)
  clear HZ HL
  rintro r W4 ⟨O3, oc3, v3, es3, rfl, h2⟩
  have HL := Lib.hid h2
  clear h2
  have HZ := Lib.hid (last_any HL.out.log (fit_small (by decide) (by decide) (by decide)))
  rw [gc_last] at HZ
  go_wp2_with fail
  (with_reducible refine Calls.mono HZ.out ?_)
  clear HZ
  rintro r W5 ⟨rfl, hs1⟩
  replace HL := Lib.hid (HL.out.keep hs1)
  clear hs1
  have HZ := Lib.hid (aw_merge (i := 4) (t := 3) HL.out (fit_small (by decide) (by decide) (by decide)) (by decide) (Same.refl noB W5) (cv := .slice none 0 0) (cs := []) ⟨Rd.nil_ _ _ _, .nil⟩ (fun x hx => by cases hx) (by decide) (by decide) (by decide) gd_eq)
  go_wp2_with fail
  (with_reducible refine Calls.mono HZ.out ?_)
  clear HZ HL
  rintro r W6 ⟨O4, oc4, v4, es4, rfl, h2⟩
  have HL := Lib.hid h2
  clear h2
  have HZ := Lib.hid (newer_any HL.out.log (fit_small (by decide) (by decide) (by decide)) 2 3)
  rw [gc_newer] at HZ
  go_wp2_with fail
  (with_reducible refine Calls.mono HZ.out ?_)
  clear HZ
  rintro r W7 ⟨rfl, hs1⟩
  replace HL := Lib.hid (HL.out.keep hs1)
  clear hs1
  have HZ := Lib.hid (pend_any HL.out.log 3 1 0)
  rw [gc_pend] at HZ
  go_wp2_with fail
  (with_reducible refine Calls.mono HZ.out ?_)
  clear HZ
  rintro r W8 ⟨rfl, hs1⟩
  replace HL := Lib.hid (HL.out.keep hs1)
  clear hs1
  go_wp2_with fail
  go_ret
  exact ⟨rfl, HL.out.since⟩
end Go.Proofs.Ytlocfbjeljgblaa
