/- Layer 21: awake. -/
import Derived.Test.YtpngmodgnkjhnaaFailN
import Derived.Test.YtpngmodgnkjhnaaFailI
import Derived.Test.YtpngmodgnkjhnaaFailL
namespace Go.Proofs.Ytpngmodgnkjhnaa
open Go Go.RowKit Go.Maps
set_option maxRecDepth 100000

theorem exD_worst (on : Sl) : worst (exD on 3) [[⟨2, 0⟩]] 1 = (⟨1, 2⟩, 0) := by kernel_rfl
theorem exD_decl (on : Sl) : declL (exD on 3) = [⟨0, 0⟩, ⟨1, 1⟩, ⟨1, 2⟩, ⟨2, 1⟩] := by kernel_rfl
theorem exD_name (on : Sl) : namOf (exD on 3) ⟨1, 2⟩ = ⟨#[109, 97, 99, 104, 105, 110, 101, 32, 109, 50]⟩ := by kernel_rfl
theorem exD_hit (on : Sl) : hitB (exD on 3) ⟨1, 2⟩ 2 = true := by kernel_rfl
theorem exD_surv (on : Sl) : survs (exD on 3) [[⟨2, 0⟩]] ⟨0, 0⟩ 1 = [2] := by kernel_rfl
theorem exD_few (on : Sl) (h : on.len = 1) : fewB (exD on 3) = true := by
  obtain ⟨a, l, c⟩ := on
  obtain rfl : l = 1 := h
  kernel_rfl
theorem exD_dom (on : Sl) (b : Int) : (exD on 3).domains b ≤ 1000000 := by
  unfold Mdl.domains
  repeat' split
  all_goals (first | decide | simp [exD, exM])
theorem exD_short (on : Sl) (h : on.len = 1) : (exD on 3).Short := fewB_short (exD_few on h)
/-- awake's memory. -/
structure AwI (w W : World) (p : MPl) (on : Sl) (M : Nat) : Prop where
  mb : MB w W p (exD on 3) M
  on : On2 W on
theorem AwI.keep {w W W' : World} {p : MPl} {on : Sl} {M : Nat} (h : AwI w W p on M) (hs : Same noB W W') : AwI w W' p on M := ⟨h.mb.keep hs, h.on.keep hs (fun _ _ _ x => x.elim)⟩
theorem AwI.one {w W : World} {p : MPl} {on : Sl} {M : Nat} (h : AwI w W p on M) : on.len = 1 := by obtain ⟨g, rfl, _⟩ := h.on; rfl
theorem AwI.start {w w1 : World} {p : MPl} {on : Sl} (h : MdlIn w1 p (exD on 0)) (ho : On2 w1 on) (hs : Same noB w w1) : AwI w (w1.alloc (.cells (mdlCells p (exD on 3)) 29)) p on w1.heap.size :=
  ⟨⟨(show MdlIn w1 p (exD on 3) from ⟨h.s, h.f, h.r, h.mc, h.l, h.i, h.ru, exD_ok _ _, h.ls, h.lf, h.lr, h.lm, h.ll, h.li, h.lru⟩).keep ((Same.refl _ _).alloc _), Blk.new _ _ _, hs.alloc _⟩, ho.keep ((Same.refl noB _).alloc _) (fun _ _ _ x => x.elim)⟩

theorem worst_ex {w : World} {p : MPl} {on s : Sl} (h : MdlIn w p (exD on 3)) (hP : PlIn w s [[⟨2, 0⟩]]) :
    Calls Try.prog 18 #[mdlVal p (exD on 3), plVal s, .int .i64 1] w fun e w' => e = .returned (.tuple #[.agg #[.int .i64 1, .int .i64 2], .int .i64 0]) ∧ Same noB w w' := by
  have h1 := worst_any (item := 1) h hP (exD_dom on) (by rw [exD_decl]; decide) (by decide)
  rw [exD_worst] at h1
  exact h1
theorem surv_ex {w : World} {p : MPl} {on s : Sl} (h : MdlIn w p (exD on 3)) (hP : PlIn w s [[⟨2, 0⟩]]) :
    Calls Try.prog 20 #[mdlVal p (exD on 3), plVal s, .agg #[.int .i64 0, .int .i64 0], .int .i64 1] w fun e w' => (∃ A c, e = .returned (.slice A 1 c)) ∧ Same noB w w' := by
  have h1 := surv_any h hP ⟨0, 0⟩ (inI64_of (by decide) (by decide)) 1 (by decide)
  rw [exD_surv] at h1
  refine h1.mono fun e w' ⟨v, he, ha⟩ => ⟨?_, ha.since⟩
  obtain ⟨A, c, rfl⟩ := own_form ha.own
  exact ⟨A, c, he⟩
theorem all_ex {w : World} {p : MPl} {on : Sl} (h : MdlIn w p (exD on 3)) :
    Calls Try.prog 13 #[mdlVal p (exD on 3)] w fun e w' => ∃ v, e = .returned v ∧ AppAt w w' v 4 31 2 (flcells [⟨0, 0⟩, ⟨1, 1⟩, ⟨1, 2⟩, ⟨2, 1⟩]) := by
  have h1 := all_any h (exD_dom on) (by rw [exD_decl]; decide)
  rw [exD_decl] at h1
  exact h1
theorem name_ex {w : World} {p : MPl} {on : Sl} (h : MdlIn w p (exD on 3)) (ho : on.len = 1) :
    Calls Try.prog 15 #[mdlVal p (exD on 3), .agg #[.int .i64 1, .int .i64 2]] w fun e w' => e = .returned (.string ⟨#[109, 97, 99, 104, 105, 110, 101, 32, 109, 50]⟩) ∧ Same noB w w' := by
  have h1 := name_any h (exD_short on ho) ⟨1, 2⟩ (inI64_of (by decide) (by decide))
  rw [exD_name] at h1
  exact h1
theorem hits_ex {w : World} {p : MPl} {on : Sl} (h : MdlIn w p (exD on 3)) :
    Calls Try.prog 23 #[mdlVal p (exD on 3), .agg #[.int .i64 1, .int .i64 2], .int .i64 2] w fun e w' => e = .returned (.bool true) ∧ Same noB w w' := by
  have h1 := hits_any h ⟨1, 2⟩ (inI64_of (by decide) (by decide)) 2
  rw [exD_hit] at h1
  exact h1

theorem lit_fl (W : World) : Rd (W.alloc (.cells #[.int .i64 0, .int .i64 0, .int .i64 1, .int .i64 1, .int .i64 1, .int .i64 2, .int .i64 2, .int .i64 1] 31)).drew noB 2 (.slice (some ⟨W.heap.size, 0, none⟩) 4 4) 4 (flcells [⟨0, 0⟩, ⟨1, 1⟩, ⟨1, 2⟩, ⟨2, 1⟩]) :=
  Rd.of_blk (cs := flcells [⟨0, 0⟩, ⟨1, 1⟩, ⟨1, 2⟩, ⟨2, 1⟩]) (Blk.new W 31 _).drew (fun x => x) rfl (Nat.le_refl _) (by simp [maxLen])
theorem same_ex {W : World} {v : Value} (hr : Rd W noB 2 v 4 (flcells [⟨0, 0⟩, ⟨1, 1⟩, ⟨1, 2⟩, ⟨2, 1⟩])) :
    Calls Try.prog 12 #[v, .slice (some ⟨W.heap.size, 0, none⟩) 4 4] (W.alloc (.cells #[.int .i64 0, .int .i64 0, .int .i64 1, .int .i64 1, .int .i64 1, .int .i64 2, .int .i64 2, .int .i64 1] 31)).drew fun e w' => e = .returned (.bool true) ∧ Same noB W w' :=
  (same_true (l := [⟨0, 0⟩, ⟨1, 1⟩, ⟨1, 2⟩, ⟨2, 1⟩]) ((hr.keep ((Same.refl _ _).alloc _)).drew) (lit_fl W)).mono fun _ _ ⟨h1, h2⟩ => ⟨h1, (((Same.refl _ _).alloc _).drew).trans' h2⟩

set_option maxHeartbeats 8000000 in
theorem awake_any (w : World) : Calls Try.prog 10 #[] w fun e w' => e = .returned (.bool true) ∧ Same noB w w' := by
  go_enter Try.func10, Try.ntmps10
  go_wp2_with fail
  refine (example15_any w).mono ?_
  rintro e w1 ⟨p, on, rfl, hin, ho, hs⟩
  have HA0 := Lib.hid (AwI.start hin ho hs)
  clear hin ho hs
  unfold mdlVal
  unfold mdlCells at HA0
  go_wp2_with fail
  refine wp_abs (fun W => Hid (AwI w W p on w1.heap.size)) HA0 ?_
  clear HA0
  generalize w1.heap.size = M at *
  intro W HA
  obtain ⟨c0, c1, c2, c3, c4, c5, c6, c7, c8, c9, c10⟩ := HA.out.mb.all
  have HZ := Lib.hid (fun (W' : World) (hs : Same noB W W') => initial_ex (HA.out.keep hs).mb.inn (HA.out.keep hs).on)
  unfold mdlVal at HZ
  have x0 : W.heap.size ≠ M := World.new_ne W _ c0
  go_cut [2, 3] from 7 to 14 (fun g k wx => ∃ G, g = .pointer (some ⟨G, 0, none⟩) ∧ k = .int .i64 0 ∧ Same noB W wx ∧ Blk wx G 31 #[.int .i64 1, .int .i64 2])
  case first =>
    go_region_held3 (fun w' => w'.cell? ⟨M, 0, none⟩ = some (.slice p.s.addr p.s.len p.s.cap) ∧ w'.cell? ⟨M, 1, none⟩ = some (.slice p.f.addr p.f.len p.f.cap) ∧ w'.cell? ⟨M, 2, none⟩ = some (.slice p.r.addr p.r.len p.r.cap) ∧ w'.cell? ⟨M, 3, none⟩ = some (.slice p.mc.addr p.mc.len p.mc.cap) ∧ w'.cell? ⟨M, 4, none⟩ = some (.slice p.l.addr p.l.len p.l.cap) ∧ w'.cell? ⟨M, 5, none⟩ = some (.slice p.i.addr p.i.len p.i.cap) ∧ w'.cell? ⟨M, 6, none⟩ = some (.int .i64 (exD on 3).dark) ∧ w'.cell? ⟨M, 7, none⟩ = some (.int .i64 (exD on 3).slots) ∧ w'.cell? ⟨M, 8, none⟩ = some (.int .i64 (exD on 3).reserve) ∧ w'.cell? ⟨M, 9, none⟩ = some (.int .i64 (exD on 3).failures) ∧ w'.cell? ⟨M, 10, none⟩ = some (.slice p.ru.addr p.ru.len p.ru.cap))
      (first | (refine ⟨?_, ?_, ?_, ?_, ?_, ?_, ?_, ?_, ?_, ?_, ?_⟩ <;> with_reducible assumption) | go_keep)
      (first
        | (go_at_call 33; have hZ := HZ.out; (with_reducible refine Calls.mono (hZ _ (by (repeat (first | exact Same.refl _ _ | assumption | refine Same.drew ?_ | refine Same.alloc ?_ _)))) ?_); clear hZ; rintro e W2 ⟨s, rfl, hP, hs2⟩; have HP := Lib.hid hP; have hs2H := Lib.hid hs2; have HS2 : Hid (Same noB W W2) := Same.trans' (by (repeat (first | exact Same.refl _ _ | assumption | refine Same.drew ?_ | refine Same.alloc ?_ _))) hs2; have HA2 := Lib.hid (HA.out.keep HS2.out); obtain ⟨c0, c1, c2, c3, c4, c5, c6, c7, c8, c9, c10⟩ := HA2.out.mb.all; have x0 : W2.heap.size ≠ M := World.new_ne W2 _ c0; (try (have hb5 := (by with_reducible exact hs2H.out : Same noB (W.alloc _).drew W2); have HY := Lib.hid ((Blk.new W 31 #[.int .i64 0, .int .i64 0]).drew.same hb5 (fun x => x)); clear hb5)); clear hs2 hP hs2H)
        | (go_at_call 18; have hZ := fun (W' : World) (hs : Same noB W2 W') => worst_ex (HA2.out.keep hs).mb.inn (HP.out.keep hs); unfold mdlVal at hZ; (with_reducible refine Calls.mono (hZ _ (by (repeat (first | exact Same.refl _ _ | assumption | refine Same.drew ?_ | refine Same.alloc ?_ _)))) ?_); clear hZ; rintro e W3 ⟨rfl, hs3⟩; have hs3H := Lib.hid hs3; have HS3 : Hid (Same noB W2 W3) := Same.trans' (by (repeat (first | exact Same.refl _ _ | assumption | refine Same.drew ?_ | refine Same.alloc ?_ _))) hs3; have HA3 := Lib.hid (HA2.out.keep HS3.out); obtain ⟨c0, c1, c2, c3, c4, c5, c6, c7, c8, c9, c10⟩ := HA3.out.mb.all; have x0 : W3.heap.size ≠ M := World.new_ne W3 _ c0; (first | (have hb5 := (by with_reducible exact hs3H.out : Same noB (W2.alloc _) W3); have HY := Lib.hid ((Blk.new W2 31 #[.int .i64 0, .int .i64 0]).same hb5 (fun x => x)); have y0 := HY.out.cell 0; have y1 := HY.out.cell 1; have z0 := HY.out.frozen 0; have z1 := HY.out.frozen 1; clear hb5) | (have HY := Lib.hid (HY.out.same HS3.out (fun x => x)); have y0 := HY.out.cell 0; have y1 := HY.out.cell 1; have z0 := HY.out.frozen 0; have z1 := HY.out.frozen 1) | skip); clear hs3 hs3H))
    all_goals go_wp2_with fail
    all_goals
      go_meet
      refine ⟨_, rfl, rfl, ?_, ?_⟩
    all_goals first
      | exact Blk.new _ _ _
      | exact (HS2.out.trans' HS3.out).alloc _
      | exact (HY.out.set_ 0 _).set_ 1 _
      | exact ((HS2.out.trans' HS3.out).setCell (fun h => absurd h (Nat.not_lt.2 (Nat.le_refl _))) _).setCell (fun h => absurd h (Nat.not_lt.2 (Nat.le_refl _))) _
      | exact ((HS2.out.trans' HS3.out).setCell (fun h => absurd h (Nat.not_lt.2 HS2.out.size)) _).setCell (fun h => absurd h (Nat.not_lt.2 HS2.out.size)) _
  case rest =>
    obtain ⟨G, rfl, rfl, hs, hb⟩ := hcut
    have HB := Lib.hid (And.intro (HA.out.keep hs) hb)
    clear hs hb HA HZ c0 c1 c2 c3 c4 c5 c6 c7 c8 c9 c10 x0
    obtain ⟨c0, c1, c2, c3, c4, c5, c6, c7, c8, c9, c10⟩ := HB.out.1.mb.all
    go_wp2_with fail
    have hZ := all_ex HB.out.1.mb.inn
    unfold mdlVal at hZ
    (with_reducible refine Calls.mono hZ ?_)
    clear hZ
    rintro e W4 ⟨v, rfl, ha⟩
    have HB4 : Hid (AwI w W4 p on M ∧ Blk W4 G 31 #[.int .i64 1, .int .i64 2]) := ⟨HB.out.1.keep ha.since, HB.out.2.same ha.since (fun x => x)⟩
    have HR := Lib.hid (ha.rd (bad := noB) (fun _ e => e.elim))
    clear ha HB c0 c1 c2 c3 c4 c5 c6 c7 c8 c9 c10
    go_wp2_with fail
    have HB := HB4
    clear HB4
    obtain ⟨c0, c1, c2, c3, c4, c5, c6, c7, c8, c9, c10⟩ := HB.out.1.mb.all; have g0 := HB.out.2.cell 0; have g1 := HB.out.2.cell 1; simp only [List.getElem?_toArray, List.getElem?_cons_zero, List.getElem?_cons_succ] at g0 g1
    have x0 : W4.heap.size ≠ M := World.new_ne W4 _ c0
    have x1 : W4.heap.size ≠ G := World.new_ne W4 _ g0
    go_region_held3 (fun w' => w'.cell? ⟨M, 0, none⟩ = some (.slice p.s.addr p.s.len p.s.cap) ∧ w'.cell? ⟨M, 1, none⟩ = some (.slice p.f.addr p.f.len p.f.cap) ∧ w'.cell? ⟨M, 2, none⟩ = some (.slice p.r.addr p.r.len p.r.cap) ∧ w'.cell? ⟨M, 3, none⟩ = some (.slice p.mc.addr p.mc.len p.mc.cap) ∧ w'.cell? ⟨M, 4, none⟩ = some (.slice p.l.addr p.l.len p.l.cap) ∧ w'.cell? ⟨M, 5, none⟩ = some (.slice p.i.addr p.i.len p.i.cap) ∧ w'.cell? ⟨M, 6, none⟩ = some (.int .i64 (exD on 3).dark) ∧ w'.cell? ⟨M, 7, none⟩ = some (.int .i64 (exD on 3).slots) ∧ w'.cell? ⟨M, 8, none⟩ = some (.int .i64 (exD on 3).reserve) ∧ w'.cell? ⟨M, 9, none⟩ = some (.int .i64 (exD on 3).failures) ∧ w'.cell? ⟨M, 10, none⟩ = some (.slice p.ru.addr p.ru.len p.ru.cap) ∧ w'.cell? ⟨G, 0, none⟩ = some (.int .i64 1) ∧ w'.cell? ⟨G, 1, none⟩ = some (.int .i64 2))
      (first | (refine ⟨?_, ?_, ?_, ?_, ?_, ?_, ?_, ?_, ?_, ?_, ?_, ?_, ?_⟩ <;> with_reducible assumption) | go_keep)
      (first
        | (go_at_call 12; (with_reducible refine Calls.mono (same_ex HR.out) ?_); rintro e W5 ⟨rfl, hs⟩; have HB := Lib.hid (And.intro (HB.out.1.keep hs) (HB.out.2.same hs (fun x => x))); clear hs; obtain ⟨c0, c1, c2, c3, c4, c5, c6, c7, c8, c9, c10⟩ := HB.out.1.mb.all; have g0 := HB.out.2.cell 0; have g1 := HB.out.2.cell 1; simp only [List.getElem?_toArray, List.getElem?_cons_zero, List.getElem?_cons_succ] at g0 g1; clear HR)
        | (go_at_call 15; have hZ := name_ex HB.out.1.mb.inn HB.out.1.one; unfold mdlVal at hZ; (with_reducible refine Calls.mono hZ ?_); clear hZ; rintro e W5 ⟨rfl, hs⟩; have HB := Lib.hid (And.intro (HB.out.1.keep hs) (HB.out.2.same hs (fun x => x))); clear hs; obtain ⟨c0, c1, c2, c3, c4, c5, c6, c7, c8, c9, c10⟩ := HB.out.1.mb.all; have g0 := HB.out.2.cell 0; have g1 := HB.out.2.cell 1; simp only [List.getElem?_toArray, List.getElem?_cons_zero, List.getElem?_cons_succ] at g0 g1)
        | (go_at_call 23; have hZ := hits_ex HB.out.1.mb.inn; unfold mdlVal at hZ; (with_reducible refine Calls.mono hZ ?_); clear hZ; rintro e W5 ⟨rfl, hs⟩; have HB := Lib.hid (And.intro (HB.out.1.keep hs) (HB.out.2.same hs (fun x => x))); clear hs; obtain ⟨c0, c1, c2, c3, c4, c5, c6, c7, c8, c9, c10⟩ := HB.out.1.mb.all; have g0 := HB.out.2.cell 0; have g1 := HB.out.2.cell 1; simp only [List.getElem?_toArray, List.getElem?_cons_zero, List.getElem?_cons_succ] at g0 g1)
        | (go_at_call 33; have hZ := initial_ex HB.out.1.mb.inn HB.out.1.on; unfold mdlVal at hZ; (with_reducible refine Calls.mono hZ ?_); clear hZ; rintro e W5 ⟨s, rfl, hP, hs⟩; have HP := Lib.hid hP; clear hP; have HB := Lib.hid (And.intro (HB.out.1.keep hs) (HB.out.2.same hs (fun x => x))); clear hs; obtain ⟨c0, c1, c2, c3, c4, c5, c6, c7, c8, c9, c10⟩ := HB.out.1.mb.all; have g0 := HB.out.2.cell 0; have g1 := HB.out.2.cell 1; simp only [List.getElem?_toArray, List.getElem?_cons_zero, List.getElem?_cons_succ] at g0 g1)
        | (go_at_call 20; have hZ := surv_ex HB.out.1.mb.inn HP.out; unfold mdlVal at hZ; (with_reducible refine Calls.mono hZ ?_); clear hZ; rintro e W5 ⟨⟨A, c, rfl⟩, hs⟩; have HB := Lib.hid (And.intro (HB.out.1.keep hs) (HB.out.2.same hs (fun x => x))); clear hs; obtain ⟨c0, c1, c2, c3, c4, c5, c6, c7, c8, c9, c10⟩ := HB.out.1.mb.all; have g0 := HB.out.2.cell 0; have g1 := HB.out.2.cell 1; simp only [List.getElem?_toArray, List.getElem?_cons_zero, List.getElem?_cons_succ] at g0 g1))
    all_goals go_wp2_with fail
    all_goals
      go_ret
      exact ⟨rfl, HB.out.1.mb.since⟩
end Go.Proofs.Ytpngmodgnkjhnaa
