/- Layer 14: a model in its box; Domains, kinds, Domain. -/
import Derived.Test.YtpngmodgnkjhnaaSiteA
import Derived.Test.YtpngmodgnkjhnaaMaps
namespace Go.Proofs.Ytpngmodgnkjhnaa
open Go Go.RowKit Go.Maps
set_option maxRecDepth 100000

/-- A model that lies in its box at M, since w0. -/
structure MB (w0 W : World) (p : MPl) (m : Mdl) (M : Nat) : Prop where
  inn : MdlIn W p m
  box : Blk W M 29 (mdlCells p m)
  since : Same noB w0 W
theorem MB.keep {w0 W W' : World} {p : MPl} {m : Mdl} {M : Nat} (h : MB w0 W p m M) (hs : Same noB W W') : MB w0 W' p m M := ⟨h.inn.keep hs, h.box.same hs (fun x => x), h.since.trans' hs⟩
theorem MB.start {w : World} {p : MPl} {m : Mdl} (h : MdlIn w p m) : MB w (w.alloc (.cells (mdlCells p m) 29)) p m w.heap.size := ⟨h.keep ((Same.refl _ _).alloc _), Blk.new _ _ _, (Same.refl _ _).alloc _⟩
section
variable {w0 W : World} {p : MPl} {m : Mdl} {M : Nat}
theorem MB.c0 (h : MB w0 W p m M) : W.cell? ⟨M, 0, none⟩ = some (.slice p.s.addr p.s.len p.s.cap) := h.box.cell 0
theorem MB.c1 (h : MB w0 W p m M) : W.cell? ⟨M, 1, none⟩ = some (.slice p.f.addr p.f.len p.f.cap) := h.box.cell 1
theorem MB.c2 (h : MB w0 W p m M) : W.cell? ⟨M, 2, none⟩ = some (.slice p.r.addr p.r.len p.r.cap) := h.box.cell 2
theorem MB.c3 (h : MB w0 W p m M) : W.cell? ⟨M, 3, none⟩ = some (.slice p.mc.addr p.mc.len p.mc.cap) := h.box.cell 3
theorem MB.c4 (h : MB w0 W p m M) : W.cell? ⟨M, 4, none⟩ = some (.slice p.l.addr p.l.len p.l.cap) := h.box.cell 4
theorem MB.all (h : MB w0 W p m M) : W.cell? ⟨M, 0, none⟩ = some (.slice p.s.addr p.s.len p.s.cap) ∧ W.cell? ⟨M, 1, none⟩ = some (.slice p.f.addr p.f.len p.f.cap) ∧ W.cell? ⟨M, 2, none⟩ = some (.slice p.r.addr p.r.len p.r.cap) ∧ W.cell? ⟨M, 3, none⟩ = some (.slice p.mc.addr p.mc.len p.mc.cap) ∧
    W.cell? ⟨M, 4, none⟩ = some (.slice p.l.addr p.l.len p.l.cap) ∧ W.cell? ⟨M, 5, none⟩ = some (.slice p.i.addr p.i.len p.i.cap) ∧ W.cell? ⟨M, 6, none⟩ = some (.int .i64 m.dark) ∧ W.cell? ⟨M, 7, none⟩ = some (.int .i64 m.slots) ∧ W.cell? ⟨M, 8, none⟩ = some (.int .i64 m.reserve) ∧
    W.cell? ⟨M, 9, none⟩ = some (.int .i64 m.failures) ∧ W.cell? ⟨M, 10, none⟩ = some (.slice p.ru.addr p.ru.len p.ru.cap) :=
  ⟨h.box.cell 0, h.box.cell 1, h.box.cell 2, h.box.cell 3, h.box.cell 4, h.box.cell 5, h.box.cell 6, h.box.cell 7, h.box.cell 8, h.box.cell 9, h.box.cell 10⟩
end

theorem rdomains_any {w : World} {p : MPl} {m : Mdl} (h : MdlIn w p m) (by_ : Int) :
    Calls Try.prog 36 #[mdlVal p m, .int .i64 by_] w fun e w' => e = .returned (.int .i64 (m.domains by_)) ∧ Same noB w w' := by
  have HQ : Hid ((m.domains by_) = if by_ = 1 then p.mc.len else if by_ = 2 then p.r.len else if by_ = 3 then p.f.len else if by_ = 4 then p.s.len else 0) := by
    show m.domains by_ = _
    rw [h.lm, h.lr, h.lf, h.ls]
    rfl
  generalize m.domains by_ = q at *
  unfold mdlVal
  have hs : Same noB w (w.alloc (.cells (mdlCells p m) 29)) := (Same.refl _ _).alloc _
  have HS : Hid (Same noB w (w.alloc (.cells #[.slice p.s.addr p.s.len p.s.cap, .slice p.f.addr p.f.len p.f.cap, .slice p.r.addr p.r.len p.r.cap, .slice p.mc.addr p.mc.len p.mc.cap, .slice p.l.addr p.l.len p.l.cap, .slice p.i.addr p.i.len p.i.cap,
    .int .i64 m.dark, .int .i64 m.slots, .int .i64 m.reserve, .int .i64 m.failures, .slice p.ru.addr p.ru.len p.ru.cap] 29))) := hs
  clear hs h
  by_cases e1 : by_ = 1
  · subst e1
    go_enter Try.func36, Try.ntmps36
    go_wp2_with fail
    go_ret
    exact ⟨by rw [HQ.out] <;> rfl, HS.out⟩
  by_cases e2 : by_ = 2
  · subst e2
    go_enter Try.func36, Try.ntmps36
    go_wp2_with fail
    go_ret
    exact ⟨by rw [HQ.out] <;> rfl, HS.out⟩
  by_cases e3 : by_ = 3
  · subst e3
    go_enter Try.func36, Try.ntmps36
    go_wp2_with fail
    go_ret
    exact ⟨by rw [HQ.out] <;> rfl, HS.out⟩
  by_cases e4 : by_ = 4
  · subst e4
    go_enter Try.func36, Try.ntmps36
    go_wp2_with fail
    go_ret
    exact ⟨by rw [HQ.out] <;> rfl, HS.out⟩
  have f1 : (by_ == 1) = false := by simpa using e1
  have f2 : (by_ == 2) = false := by simpa using e2
  have f3 : (by_ == 3) = false := by simpa using e3
  have f4 : (by_ == 4) = false := by simpa using e4
  rw [if_neg e1, if_neg e2, if_neg e3, if_neg e4] at HQ
  clear e1 e2 e3 e4
  go_enter Try.func36, Try.ntmps36
  go_wp2_with fail
  go_ret
  exact ⟨by rw [HQ.out] <;> rfl, HS.out⟩

theorem law3 : Keyed Try.prog 3 := int_keyed Try.underlying3
/-- An int as a key. -/
def eI : KeyEnc Try.prog 3 Int where
  enc := fun x => .int .i64 x
  ok := inI64
  law := law3
  key := fun _ h => ⟨_, keyOf_int_mk Try.underlying3 h.wf⟩
  inj := fun _ _ h => by injection h
def kindV (n f : Nat) : Value := .agg #[.int .i64 n, .func (.func f) #[] #[]]
def kindsF (p : MPl) : Int → Option Value := upd (upd (upd (upd (fun _ => none) 1 (kindV p.mc.len 68)) 2 (kindV p.r.len 69)) 3 (kindV p.f.len 70)) 4 (kindV p.s.len 71)

theorem kinds_any {w : World} {p : MPl} {m : Mdl} :
    Calls Try.prog 53 #[mdlVal p m] w fun e w' => ∃ b, e = .returned (.map (some b)) ∧ MapF eI w' b 4 (kindsF p) ∧ Same noB w w' := by
  have hB : Blk (w.alloc (.cells (mdlCells p m) 29)) w.heap.size 29 (mdlCells p m) := Blk.new _ _ _
  have hM := MapF.made eI (w.alloc (.cells (mdlCells p m) 29))
  have hz : (w.alloc (.cells (mdlCells p m) 29)).heap.size = w.heap.size + 1 := by simp
  rw [hz] at hM
  have hB0 := hB.alloc (.map #[] 0)
  obtain ⟨w1, r1, hM1, g1⟩ := hM.store Try.underlying88 (k := (1 : Int)) (inI64_of (by decide) (by decide)) (kindV p.mc.len 68)
  obtain ⟨w2, r2, hM2, g2⟩ := hM1.store Try.underlying88 (k := (2 : Int)) (inI64_of (by decide) (by decide)) (kindV p.r.len 69)
  obtain ⟨w3, r3, hM3, g3⟩ := hM2.store Try.underlying88 (k := (3 : Int)) (inI64_of (by decide) (by decide)) (kindV p.f.len 70)
  obtain ⟨w4, r4, hM4, g4⟩ := hM3.store Try.underlying88 (k := (4 : Int)) (inI64_of (by decide) (by decide)) (kindV p.s.len 71)
  have hne : ∀ b, rowB (some (w.heap.size + 1)) b → b = w.heap.size + 1 := fun b h => by injection h
  have s1 := Same.of_grown g1
  have s2 := Same.of_grown g2
  have s3 := Same.of_grown g3
  have s4 := Same.of_grown g4
  have hn : ¬ rowB (some (w.heap.size + 1)) w.heap.size := fun h => by have := hne _ h; omega
  have hB1 := hB0.same s1 hn
  have hB2 := hB1.same s2 hn
  have hB3 := hB2.same s3 hn
  have c1 : w1.cell? ⟨w.heap.size, 2, none⟩ = some (.slice p.r.addr p.r.len p.r.cap) := hB1.cell 2
  have c2 : w2.cell? ⟨w.heap.size, 1, none⟩ = some (.slice p.f.addr p.f.len p.f.cap) := hB2.cell 1
  have c3 : w3.cell? ⟨w.heap.size, 0, none⟩ = some (.slice p.s.addr p.s.len p.s.cap) := hB3.cell 0
  have hall : Same noB w w4 := by
    have ha : Same noB w ((w.alloc (.cells (mdlCells p m) 29)).alloc (.map #[] 0)) := ((Same.refl _ _).alloc _).alloc _
    refine ha.trans (((s1.trans' s2).trans' s3).trans' s4) (fun b hb h => ?_)
    have := hne b h
    omega
  have HF : Hid (MapF eI w4 (w.heap.size + 1) 4 (kindsF p) ∧ Same noB w w4) := ⟨hM4, hall⟩
  have e1 : (Instr.mapUpdate 88 (.map (some (w.heap.size + 1))) (.int .i64 1) (.agg #[.int .i64 p.mc.len, .func (.func 68) #[] #[]])).run Try.prog ((w.alloc (.cells #[.slice p.s.addr p.s.len p.s.cap, .slice p.f.addr p.f.len p.f.cap, .slice p.r.addr p.r.len p.r.cap, .slice p.mc.addr p.mc.len p.mc.cap, .slice p.l.addr p.l.len p.l.cap, .slice p.i.addr p.i.len p.i.cap,
    .int .i64 m.dark, .int .i64 m.slots, .int .i64 m.reserve, .int .i64 m.failures, .slice p.ru.addr p.ru.len p.ru.cap] 29)).alloc (.map #[] 0)) = .ok () w1 := r1
  have e2 : (Instr.mapUpdate 88 (.map (some (w.heap.size + 1))) (.int .i64 2) (.agg #[.int .i64 p.r.len, .func (.func 69) #[] #[]])).run Try.prog w1 = .ok () w2 := r2
  have e3 : (Instr.mapUpdate 88 (.map (some (w.heap.size + 1))) (.int .i64 3) (.agg #[.int .i64 p.f.len, .func (.func 70) #[] #[]])).run Try.prog w2 = .ok () w3 := r3
  have e4 : (Instr.mapUpdate 88 (.map (some (w.heap.size + 1))) (.int .i64 4) (.agg #[.int .i64 p.s.len, .func (.func 71) #[] #[]])).run Try.prog w3 = .ok () w4 := r4
  clear hB hM hz hB0 hM1 g1 hM2 g2 hM3 g3 hM4 g4 r1 r2 r3 r4 hne s1 s2 s3 s4 hn hB1 hB2 hB3 hall
  unfold mdlVal
  have hmm := @run_makeMap Try.prog
  go_enter Try.func53, Try.ntmps53
  go_wp2_with fail
  go_ret
  exact ⟨_, rfl, HF.out⟩

theorem zero64 (w : World) : (zeroValue 87).run Try.prog w = .ok (.agg #[.int .i64 0, .nilFunc]) w := by kernel_rfl

theorem domains_any {w : World} {p : MPl} {m : Mdl} (h : MdlIn w p m) {by_ : Int} (hb : inI64 by_) :
    Calls Try.prog 37 #[mdlVal p m, .int .i64 by_] w fun e w' => e = .returned (.int .i64 (m.domains by_)) ∧ Same noB w w' := by
  have HQ : Hid ((m.domains by_) = if by_ = 1 then p.mc.len else if by_ = 2 then p.r.len else if by_ = 3 then p.f.len else if by_ = 4 then p.s.len else 0) := by
    show m.domains by_ = _
    rw [h.lm, h.lr, h.lf, h.ls]
    rfl
  generalize m.domains by_ = q at *
  have HK := Lib.hid (kinds_any (w := w.alloc (.cells (mdlCells p m) 29)) (p := p) (m := m))
  have HS : Hid (Same noB w (w.alloc (.cells (mdlCells p m) 29))) := (Same.refl _ _).alloc _
  have Hb := Lib.hid hb
  clear h hb
  unfold mdlVal at *
  unfold mdlCells at *
  go_enter Try.func37, Try.ntmps37
  go_wp2_with fail
  have hZ := HK.out
  (with_reducible refine Calls.mono hZ ?_)
  clear hZ HK
  rintro e w1 ⟨b, rfl, hM, hs⟩
  have hl := hM.lookup Try.underlying88 (zero64 w1) Hb.out false
  have HS1 := Lib.hid (HS.out.trans' hs)
  have hk : ∃ u : Value, (kindsF p by_).getD (.agg #[.int .i64 0, .nilFunc]) = .agg #[.int .i64 q, u] ∧ ∀ w : World, (Instr.field 87 (.agg #[.int .i64 q, u]) 0).run Try.prog w = .ok (.int .i64 q) w := by
    rw [HQ.out]
    unfold kindsF upd kindV
    by_cases e1 : by_ = 1
    · subst e1; exact ⟨_, rfl, fun _ => by rfl⟩
    by_cases e2 : by_ = 2
    · subst e2; exact ⟨_, rfl, fun _ => by rfl⟩
    by_cases e3 : by_ = 3
    · subst e3; exact ⟨_, rfl, fun _ => by rfl⟩
    by_cases e4 : by_ = 4
    · subst e4; exact ⟨_, rfl, fun _ => by rfl⟩
    simp only [e1, e2, e3, e4, if_false]
    exact ⟨_, rfl, fun _ => by rfl⟩
  obtain ⟨u, hu, hfd⟩ := hk
  simp only [Bool.false_eq_true, if_false] at hl
  rw [hu] at hl
  have hl2 : (Instr.lookup 88 (.map (some b)) (.int .i64 by_) false).run Try.prog w1 = .ok (.agg #[.int .i64 q, u]) w1 := hl
  clear hM hs hu HS HQ hl
  go_wp2_with fail
  go_ret
  exact ⟨rfl, HS1.out⟩
end Go.Proofs.Ytpngmodgnkjhnaa
