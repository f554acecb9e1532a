/- Layer 14: Route of the program at the example. -/
import Derived.Test.YtkmclglphelhdaaSiteK
namespace Go.Proofs.Ytkmclglphelhdaa
open Go Go.RowKit Go.Maps

/-- Route's memory: the model's box at M, the map at B, a row of ints of the call's own. -/
structure RtI (w W : World) (p : MPl) (m : Mdl) (M B n : Nat) (f : Int → Option Value) (q : Value) (nq : Nat) (xs : List Value) : Prop where
  inn : MdlIn w p m
  since : Same noB w W
  box : Blk W M 29 (mdlCells p m)
  map : MapF eI W B n f
  own : W.ownsRow 0 3 1 q nq xs
  new : ∀ g, q.ownBlock = some g → w.heap.size ≤ g
  lb : w.heap.size ≤ B
section
variable {w W W' : World} {p : MPl} {m : Mdl} {M B n n' : Nat} {f f' : Int → Option Value} {q q' : Value} {nq nq' : Nat} {xs xs' : List Value}
theorem RtI.keep (h : RtI w W p m M B n f q nq xs) (hs : Same noB W W') : RtI w W' p m M B n f q nq xs :=
  ⟨h.inn, h.since.trans' hs, h.box.same hs (fun x => x), h.map.same hs (fun x => x), own_same h.own hs (fun _ _ x => x), h.new, h.lb⟩
theorem RtI.mb (h : RtI w W p m M B n f q nq xs) : MB w W p m M := ⟨h.inn.keep h.since, h.box, h.since⟩
theorem RtI.upd (h : RtI w W p m M B n f q nq xs) (hM : MapF eI W' B n' f') (hg : W.grownBy W' (some B)) : RtI w W' p m M B n' f' q nq xs := by
  have hs : Same (oneB B) W W' := (Same.of_grown hg).mono (fun b _ e => by injection e)
  refine ⟨h.inn, h.since.trans hs (fun b hb e => ?_), h.box.same hs (fun e => h.map.ne_blk h.box (show M = B from e).symm), hM, own_same h.own hs (fun g hg' e => ?_), h.new, h.lb⟩
  · have := h.lb
    rw [show b = B from e] at hb
    omega
  · obtain ⟨cs, hc⟩ := own_blk h.own hg'
    exact h.map.ne_blk hc (show g = B from e).symm
theorem RtI.app (h : RtI w W p m M B n f q nq xs) (hg : W.grownBy W' q.ownBlock) (hat : q'.ownBlock = q.ownBlock ∨ q'.ownBlock = some W.heap.size) (ho : W'.ownsRow 0 3 1 q' nq' xs') : RtI w W' p m M B n f q' nq' xs' := by
  have hs := Same.of_grown hg
  have hne : ∀ t cs b, Blk W b t cs → t ≠ 3 → ¬ rowB q.ownBlock b := fun t cs b hb ht e => by
    obtain ⟨cs', hc⟩ := own_blk h.own e.symm
    exact hb.ne_ hc ht rfl
  refine ⟨h.inn, h.since.trans hs (fun b hb e => ?_), h.box.same hs (hne _ _ _ h.box (by decide)), h.map.same hs (fun e => ?_), ho, fun g hg' => ?_, h.lb⟩
  · have := h.new b e.symm
    omega
  · obtain ⟨cs', hc⟩ := own_blk h.own e.symm
    exact h.map.ne_blk hc rfl
  · rcases hat with ha | ha
    · exact h.new g (ha.symm.trans hg')
    · rw [ha] at hg'
      injection hg' with hg'
      have := h.since.size
      omega
/-- Another row in the place of the row that was followed. -/
theorem RtI.row (h : RtI w W p m M B n f q nq xs) {q2 : Value} {nq2 : Nat} {xs2 : List Value} (ho : W.ownsRow 0 3 1 q2 nq2 xs2) (hn : ∀ g, q2.ownBlock = some g → w.heap.size ≤ g) : RtI w W p m M B n f q2 nq2 xs2 :=
  ⟨h.inn, h.since, h.box, h.map, ho, hn, h.lb⟩
end
theorem own_one (W : World) (x : Int) : (W.alloc (.cells #[.int .i64 x] 3)).ownsRow 0 3 1 (.slice (some ⟨W.heap.size, 0, none⟩) 1 1) 1 [.int .i64 x] :=
  ⟨rfl, .inr ⟨W.heap.size, 1, #[.int .i64 x], rfl, Nat.zero_le _, heap_alloc_new W _, Nat.le_refl _, by simp [maxLen], rfl, rfl⟩⟩
theorem own_addr {w : World} {A : Option Addr} {n c : Nat} {xs : List Value} (h : w.ownsRow 0 3 1 (.slice A n c) n xs) (hn : 0 < n) : ∃ g, A = some ⟨g, 0, none⟩ ∧ n ≤ c ∧ c ≤ maxLen ∧ ∀ j u, xs[j]? = some u → w.cell? ⟨g, j, none⟩ = some u := by
  rcases h.2 with ⟨e, _⟩ | ⟨g, cap, cur, e, hb, hg, hnc, hcm, hcs, ht⟩
  · injection e with e1 e2 e3
    omega
  · injection e with e1 e2 e3
    subst e1 e3
    refine ⟨g, rfl, hnc, hcm, fun j u hu => ?_⟩
    rw [cell_of_row w g j cur 3 (0, 0) hg]
    rw [← ht, List.getElem?_take] at hu
    split at hu
    · simpa using hu
    · cases hu
theorem rev2 {w : World} {g c : Nat} {a b : Int} (h0 : w.cell? ⟨g, 0, none⟩ = some (.int .i64 a)) (h1 : w.cell? ⟨g, 1, none⟩ = some (.int .i64 b)) (f0 : w.frozen? ⟨g, 0, none⟩ = false) (f1 : w.frozen? ⟨g, 1, none⟩ = false) :
    Calls Try.prog 49 #[.slice (some ⟨g, 0, none⟩) 2 c] w fun e w' => e = .returned (.tuple #[]) ∧ (w'.cell? ⟨g, 0, none⟩ = some (.int .i64 b) ∧ w'.cell? ⟨g, 1, none⟩ = some (.int .i64 a)) ∧ Same (oneB g) w w' := by
  have hl := World.block_lt_of_cell? w _ h0
  have hl' : g < w.heap.size := hl
  clear hl
  go_enter Try.func49, Try.ntmps49
  go_wp2_with fail
  refine wp_loop_rounds 2 ?_
  rw [rounds_succ]
  go_wp2_with fail
  go_region
  all_goals go_wp2_with fail
  all_goals
    rw [rounds_succ]
    go_wp2_with fail
    go_end0
    refine ⟨rfl, ⟨?_, ?_⟩, ?_⟩
    · go_simp
    · go_simp
    · exact (((Same.refl _ _).set1 _ _).set1 _ _).drew
theorem ex_near2 : exM.nearK 2 exM.sites.length = [1] := by decide
theorem ex_near1 : exM.nearK 1 exM.sites.length = [2] := by decide
theorem zero3 (w : World) : (zeroValue 3).run Try.prog w = .ok (.int .i64 0) w := by kernel_rfl
/-- before, once the neighbours of 2 have been seen. -/
def exF : Int → Option Value := upd (upd (fun _ => none) 2 (.int .i64 0)) 1 (.int .i64 2)

set_option maxHeartbeats 8000000 in
theorem route_ex {w : World} {p : MPl} (h : MdlIn w p exM) :
    Calls Try.prog 28 #[mdlVal p exM, .int .i64 2, .int .i64 1] w fun e w' => ∃ v', e = .returned v' ∧ Rd w' noB 1 v' 2 (icells [2, 1]) ∧ Same noB w w' := by
  have hmb := MB.start h
  have hM := MapF.made eI (w.alloc (.cells (mdlCells p exM) 29))
  have hz : (w.alloc (.cells (mdlCells p exM) 29)).heap.size = w.heap.size + 1 := by simp
  rw [hz] at hM
  obtain ⟨w1, r1, hM1, g1⟩ := hM.store Try.underlying69 (k := (2 : Int)) (inI64_of (by decide) (by decide)) (.int .i64 0)
  have hq0 : RtI w ((w.alloc (.cells (mdlCells p exM) 29)).alloc (.map #[] 0)) p exM w.heap.size (w.heap.size + 1) 0 (fun _ => none) (.slice none 0 0) 0 [] :=
    ⟨h, hmb.since.alloc _, hmb.box.alloc _, hM, World.ownsRow_nil _ _ _ _, fun g hg => by simp [Value.ownBlock] at hg, by omega⟩
  have HR1 := Lib.hid (hq0.upd hM1 g1)
  have e1 : (Instr.mapUpdate 69 (.map (some (w.heap.size + 1))) (.int .i64 2) (.int .i64 0)).run Try.prog ((w.alloc (.cells #[.slice p.s.addr p.s.len p.s.cap, .slice p.f.addr p.f.len p.f.cap, .slice p.r.addr p.r.len p.r.cap, .slice p.mc.addr p.mc.len p.mc.cap, .slice p.l.addr p.l.len p.l.cap, .slice p.i.addr p.i.len p.i.cap,
    .int .i64 exM.dark, .int .i64 exM.slots, .int .i64 exM.reserve, .int .i64 exM.failures, .slice p.ru.addr p.ru.len p.ru.cap] 29)).alloc (.map #[] 0)) = .ok () w1 := r1
  have HE2 : Hid (exB 2 p.s.len = true) := by show exB _ _ = true; rw [h.ls]; decide
  have HE1 : Hid (exB 1 p.s.len = true) := by show exB _ _ = true; rw [h.ls]; decide
  clear hmb hM hz r1 hM1 g1 hq0 h
  unfold mdlVal
  have hmm := @run_makeMap Try.prog
  go_enter Try.func28, Try.ntmps28
  go_wp2_with fail
  refine (exists_any 2 p.s.len _).mono ?_
  rintro e w2 ⟨rfl, rfl⟩
  rw [HE2.out]
  go_wp2_with fail
  refine (exists_any 1 p.s.len _).mono ?_
  rintro e w2 ⟨rfl, rfl⟩
  rw [HE1.out]
  go_wp2_with fail
  refine wp_abs (fun W => Hid (RtI w W p exM w.heap.size (w.heap.size + 1) 1 (upd (fun _ => none) 2 (.int .i64 0)) (.slice (some ⟨w1.heap.size, 0, none⟩) 1 1) 1 [.int .i64 2])) ?_ ?_
  · exact (HR1.out.keep ((Same.refl _ _).alloc _)).row (own_one _ 2) (fun g hg => by simp [Value.ownBlock] at hg; have := HR1.out.since.size; omega)
  clear HR1 e1 HE1 HE2 hmm
  generalize hMm : w.heap.size = M at *
  have hMB : M < M + 1 := by omega
  generalize M + 1 = B at *
  generalize w1.heap.size = G at *
  clear w1
  intro W HR
  refine wp_loop_rounds 3 ?_
  rw [rounds_succ]
  go_wp2_with fail
  obtain ⟨c0, c1, c2, c3, c4, c5, c6, c7, c8, c9, c10⟩ := HR.out.mb.all
  have hq0 : W.cell? ⟨G, 0, none⟩ = some (.int .i64 2) := by
    obtain ⟨b, o, e, r⟩ := (Rd.of_own (bad := noB) HR.out.own (fun _ _ x => x)).at_ (by omega)
    injection e with e
    injection e with e1 e2
    subst e1 e2
    exact r.cell 0 _ rfl
  have HRd := Lib.hid (HR.out.keep ((Same.refl noB W).drew))
  clear HR
  have hNZ := near_yes HRd.out.mb.inn (s := 2) (by decide) (by decide) (by decide)
  rw [ex_near2] at hNZ
  unfold mdlVal at hNZ
  have HNZ := Lib.hid hNZ
  clear hNZ
  go_region_held3 (fun w' => w'.cell? ⟨M, 0, none⟩ = some (.slice p.s.addr p.s.len p.s.cap) ∧ w'.cell? ⟨M, 1, none⟩ = some (.slice p.f.addr p.f.len p.f.cap) ∧ w'.cell? ⟨M, 2, none⟩ = some (.slice p.r.addr p.r.len p.r.cap) ∧ w'.cell? ⟨M, 3, none⟩ = some (.slice p.mc.addr p.mc.len p.mc.cap) ∧ w'.cell? ⟨M, 4, none⟩ = some (.slice p.l.addr p.l.len p.l.cap) ∧ w'.cell? ⟨M, 5, none⟩ = some (.slice p.i.addr p.i.len p.i.cap) ∧ w'.cell? ⟨M, 6, none⟩ = some (.int .i64 exM.dark) ∧ w'.cell? ⟨M, 7, none⟩ = some (.int .i64 exM.slots) ∧ w'.cell? ⟨M, 8, none⟩ = some (.int .i64 exM.reserve) ∧ w'.cell? ⟨M, 9, none⟩ = some (.int .i64 exM.failures) ∧ w'.cell? ⟨M, 10, none⟩ = some (.slice p.ru.addr p.ru.len p.ru.cap) ∧ w'.cell? ⟨G, 0, none⟩ = some (.int .i64 2))
      (first | (refine ⟨?_, ?_, ?_, ?_, ?_, ?_, ?_, ?_, ?_, ?_, ?_, ?_⟩ <;> with_reducible assumption) | go_keep)
      ((go_at_call 26; have hZ := HNZ.out; (with_reducible refine Calls.mono hZ ?_); clear hZ; rintro e W2 ⟨v2, rfl, ha⟩; obtain ⟨A2, c2', rfl, hc21, hc22, hr2⟩ := (ha.rd (bad := noB) (fun _ e => e.elim)).form; have HR2 := Lib.hid (HRd.out.keep ha.since); have HN2 := Lib.hid hr2; have hq0 := ha.since.cell (show W.drew.cell? ⟨G, 0, none⟩ = some (.int .i64 2) from hq0) (fun x => x); obtain ⟨c0, c1, c2, c3, c4, c5, c6, c7, c8, c9, c10⟩ := HR2.out.mb.all; clear ha hr2))
  clear HNZ HRd
  obtain ⟨nb, no, hA2, nr⟩ := HN2.out.at_ (by decide)
  have n0 := nr.cell 0 (.int .i64 1) rfl
  rw [Nat.add_zero] at n0
  subst hA2
  have hl1 := HR2.out.map.lookup Try.underlying69 (zero3 W2) (k := (1 : Int)) (inI64_of (by decide) (by decide)) true
  have hl : (Instr.lookup 69 (.map (some B)) (.int .i64 1) true).run Try.prog W2 = .ok (.tuple #[.int .i64 0, .bool false]) W2 := hl1
  obtain ⟨W3, r3, hM3, g3⟩ := HR2.out.map.store Try.underlying69 (k := (1 : Int)) (inI64_of (by decide) (by decide)) (.int .i64 2)
  have HR3 := Lib.hid (HR2.out.upd hM3 g3)
  have r3' : (Instr.mapUpdate 69 (.map (some B)) (.int .i64 1) (.int .i64 2)).run Try.prog W2 = .ok () W3 := r3
  clear hl1 r3 hM3 g3 nr HN2
  go_wp2_with fail
  refine wp_loop_rounds 2 ?_
  rw [rounds_succ]
  go_wp2_with (at_builtin; refine wpL_app slI rfl _ _ rfl rfl ((HR3.out.keep ((Same.refl _ _).alloc _)).own) rfl (bad := noB) (Rd.of_blk (Blk.new W3 3 [Value.int .i64 1].toArray) (fun x => x) (by rfl) (by omega) (by simp [maxLen])) (int_one 1) (by decide) (Nat.zero_le _) ?_; intro A4 c4' W4 hown4 hgrow4 hat4 _; have HR4 := Lib.hid ((HR3.out.keep ((Same.refl _ _).alloc _)).app hgrow4 hat4 hown4); obtain ⟨g4, rfl, hc41, hc42, hcl⟩ := own_addr hown4 (by decide); have q1f := hcl 1 (.int .i64 1) rfl; clear hown4 hgrow4 hat4 hcl)
  have hne : ¬ c4' = 1 := by omega
  have hc43 : c4' ≤ 9223372036854775807 := by unfold maxLen at hc42; omega
  have hc44 : (2 : Int) ≤ (c4' : Int) := by omega
  clear hc42
  clear c0 c1 c2 c3 c4 c5 c6 c7 c8 c9 c10 hl n0 r3' HR2 HR3 hq0 hc22
  rw [rounds_succ]
  go_wp2_with fail
  rw [rounds_succ]
  obtain ⟨c0, c1, c2, c3, c4, c5, c6, c7, c8, c9, c10⟩ := HR4.out.mb.all
  go_wp2_with fail
  have HRd := Lib.hid (HR4.out.keep ((Same.refl noB W4).drew))
  clear HR4
  have hNZ := near_yes HRd.out.mb.inn (s := 1) (by decide) (by decide) (by decide)
  rw [ex_near1] at hNZ
  unfold mdlVal at hNZ
  have HNZ := Lib.hid hNZ
  clear hNZ
  go_region_held3 (fun w' => w'.cell? ⟨M, 0, none⟩ = some (.slice p.s.addr p.s.len p.s.cap) ∧ w'.cell? ⟨M, 1, none⟩ = some (.slice p.f.addr p.f.len p.f.cap) ∧ w'.cell? ⟨M, 2, none⟩ = some (.slice p.r.addr p.r.len p.r.cap) ∧ w'.cell? ⟨M, 3, none⟩ = some (.slice p.mc.addr p.mc.len p.mc.cap) ∧ w'.cell? ⟨M, 4, none⟩ = some (.slice p.l.addr p.l.len p.l.cap) ∧ w'.cell? ⟨M, 5, none⟩ = some (.slice p.i.addr p.i.len p.i.cap) ∧ w'.cell? ⟨M, 6, none⟩ = some (.int .i64 exM.dark) ∧ w'.cell? ⟨M, 7, none⟩ = some (.int .i64 exM.slots) ∧ w'.cell? ⟨M, 8, none⟩ = some (.int .i64 exM.reserve) ∧ w'.cell? ⟨M, 9, none⟩ = some (.int .i64 exM.failures) ∧ w'.cell? ⟨M, 10, none⟩ = some (.slice p.ru.addr p.ru.len p.ru.cap) ∧ w'.cell? ⟨g4, 1, none⟩ = some (.int .i64 1))
      (first | (refine ⟨?_, ?_, ?_, ?_, ?_, ?_, ?_, ?_, ?_, ?_, ?_, ?_⟩ <;> with_reducible assumption) | go_keep)
      ((go_at_call 26; have hZ := HNZ.out; (with_reducible refine Calls.mono hZ ?_); clear hZ; rintro e W5 ⟨v2, rfl, ha⟩; obtain ⟨A5, c5', rfl, hc51, hc52, hr5⟩ := (ha.rd (bad := noB) (fun _ e => e.elim)).form; have HR5 := Lib.hid (HRd.out.keep ha.since); have HN5 := Lib.hid hr5; have q1f := ha.since.cell (show W4.drew.cell? ⟨g4, 1, none⟩ = some (.int .i64 1) from q1f) (fun x => x); obtain ⟨c0, c1, c2, c3, c4, c5, c6, c7, c8, c9, c10⟩ := HR5.out.mb.all; clear ha hr5))
  clear HNZ HRd
  obtain ⟨nb5, no5, hA5, nr⟩ := HN5.out.at_ (by decide)
  have n0 := nr.cell 0 (.int .i64 2) rfl
  rw [Nat.add_zero] at n0
  subst hA5
  have hl1 := HR5.out.map.lookup Try.underlying69 (zero3 W5) (k := (2 : Int)) (inI64_of (by decide) (by decide)) true
  have hl : (Instr.lookup 69 (.map (some B)) (.int .i64 2) true).run Try.prog W5 = .ok (.tuple #[.int .i64 0, .bool true]) W5 := hl1
  clear hl1 nr HN5
  go_wp2_with fail
  have k1 : (Instr.lookup 69 (.map (some B)) (.int .i64 1) true).run Try.prog W5 = .ok (.tuple #[.int .i64 2, .bool true]) W5 := HR5.out.map.lookup Try.underlying69 (zero3 W5) (k := (1 : Int)) (inI64_of (by decide) (by decide)) true
  have HO5 := Lib.hid (HR5.out.row (World.ownsRow_nil W5 0 3 1) (fun g hg => by simp [Value.ownBlock] at hg))
  clear HR5
  refine wp_loop_rounds 2 ?_
  rw [rounds_succ]
  go_wp2_with fail
  rw [rounds_succ]
  go_wp2_with fail
  all_goals
    rw [rounds_succ]
    go_wp2_with fail
    refine wp_loop_rounds 3 ?_
    rw [rounds_succ]
    go_wp2_with (at_builtin; refine wpL_app slI rfl _ _ rfl rfl ((HO5.out.keep ((Same.refl _ _).alloc _)).own) rfl (bad := noB) (Rd.of_blk (Blk.new W5 3 [Value.int .i64 1].toArray) (fun x => x) (by rfl) (by omega) (by simp [maxLen])) (int_one 1) (by decide) (Nat.zero_le _) ?_; intro A6 c6' W6 hown6 hgrow6 hat6 _; have HR6 := Lib.hid ((HO5.out.keep ((Same.refl _ _).alloc _)).app hgrow6 hat6 hown6); have k2 : (Instr.lookup 69 (.map (some B)) (.int .i64 1) false).run Try.prog W6 = .ok (.int .i64 2) W6 := HR6.out.map.lookup Try.underlying69 (zero3 W6) (k := (1 : Int)) (inI64_of (by decide) (by decide)) false; clear hown6 hgrow6 hat6)
    rw [rounds_succ]
    go_wp2_with (at_builtin; refine wpL_app slI rfl _ _ rfl rfl ((HR6.out.keep ((Same.refl _ _).alloc _)).own) rfl (bad := noB) (Rd.of_blk (Blk.new W6 3 [Value.int .i64 2].toArray) (fun x => x) (by rfl) (by omega) (by simp [maxLen])) (int_one 2) (by decide) (Nat.zero_le _) ?_; intro A7 c7' W7 hown7 hgrow7 hat7 _; have HR7 := Lib.hid ((HR6.out.keep ((Same.refl _ _).alloc _)).app hgrow7 hat7 hown7); have k3 : (Instr.lookup 69 (.map (some B)) (.int .i64 2) false).run Try.prog W7 = .ok (.int .i64 0) W7 := HR7.out.map.lookup Try.underlying69 (zero3 W7) (k := (2 : Int)) (inI64_of (by decide) (by decide)) false; obtain ⟨g7, rfl, hc71, hc72, hcl7⟩ := own_addr hown7 (by decide); have y0 := hcl7 0 (.int .i64 1) rfl; have y1 := hcl7 1 (.int .i64 2) rfl; clear hown7 hgrow7 hat7 hcl7)
    rw [rounds_succ]
    go_wp2_with fail
    obtain ⟨cs7, hb7⟩ := own_blk HR7.out.own rfl
    refine (rev2 y0 y1 (hb7.frozen 0) (hb7.frozen 1)).mono ?_
    rintro e W8 ⟨rfl, ⟨z0, z1⟩, hs⟩
    have hg7 : w.heap.size ≤ g7 := HR7.out.new g7 rfl
    have HF : Hid (Rd W8 noB 1 (.slice (some ⟨g7, 0, none⟩) 2 c7') 2 (icells [2, 1]) ∧ Same noB w W8) := by
      refine ⟨⟨_, _, rfl, hc71, hc72, rfl, (fun e => by cases e), fun _ => ⟨g7, 0, rfl, World.block_lt_of_cell? W8 _ z0, fun x => x, fun j u hu => ?_⟩⟩, HR7.out.since.trans hs (fun b hb e => ?_)⟩
      · match j, hu with
        | 0, hu => injection hu with hu; subst hu; exact z0
        | 1, hu => injection hu with hu; subst hu; exact z1
      · rw [show b = g7 from e] at hb
        omega
    clear hs z0 z1 hb7
    go_wp2_with fail
    go_ret
    exact ⟨_, rfl, HF.out.1, HF.out.2⟩
end Go.Proofs.Ytkmclglphelhdaa
