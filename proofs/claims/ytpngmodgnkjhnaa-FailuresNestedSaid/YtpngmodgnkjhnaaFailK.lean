/- Layer 21: Name of the program. (printed by genFailK.py) -/
import Derived.Test.YtpngmodgnkjhnaaFailJ
namespace Go.Proofs.Ytpngmodgnkjhnaa
open Go Go.RowKit Go.Maps
set_option maxRecDepth 100000

set_option maxHeartbeats 4000000 in
theorem name_big {w : World} {p : MPl} {m : Mdl} (h : MdlIn w p m) (fb fn : Int) (hb : inI64 fb) (h0 : ¬ (fb = 0 ∧ fn = 0)) (h1 : 1 ≤ fn) (he : exB fn (m.domains fb) = false) :
    Calls Try.prog 15 #[mdlVal p m, Fl.val ⟨fb, fn⟩] w fun e w' => e = .returned (.string (namOf m ⟨fb, fn⟩)) ∧ Same noB w w' := by
  have hmb := MB.start h
  have hz : (w.alloc (.cells (mdlCells p m) 29)).heap.size = w.heap.size + 1 := by simp
  have hfb := Blk.new (w.alloc (.cells (mdlCells p m) 29)) 31 #[.int .i64 fb, .int .i64 fn]
  rw [hz] at hfb
  have HMF : Hid (MF w ((w.alloc (.cells (mdlCells p m) 29)).alloc (.cells #[.int .i64 fb, .int .i64 fn] 31)) p m ⟨fb, fn⟩ w.heap.size (w.heap.size + 1)) := ⟨hmb.keep ((Same.refl _ _).alloc _), hfb⟩
  have HQ : Hid (namOf m ⟨fb, fn⟩ = ⟨#[]⟩) := by
    show namOf m ⟨fb, fn⟩ = _
    unfold namOf
    rw [if_neg h0, if_pos he]
  obtain ⟨D, hD⟩ : ∃ D, m.domains fb = D := ⟨_, rfl⟩
  rw [hD] at he
  have HD := Lib.hid hD
  have HE := Lib.hid he
  have HBB := Lib.hid hb
  have g1 : decide (fn < 1) = false := decide_eq_false (by omega)
  have g2 : decide ((D : Int) < fn) = true := decide_eq_true (by
    have h2 : ¬ (1 ≤ fn ∧ fn ≤ (D : Int)) := fun e => by rw [exB_iff.2 e] at he; cases he
    omega)
  generalize namOf m ⟨fb, fn⟩ = qq at *
  clear h hmb hz hfb hD he
  unfold mdlVal Fl.val
  unfold mdlCells at HMF
  simp only at *
  by_cases e0 : fb = 0
  · have e1 : fn ≠ 0 := fun e => h0 ⟨e0, e⟩
    subst e0
    clear h0
    go_enter Try.func15, Try.ntmps15
    go_wp2_with fail
    refine wp_abs (fun W => Hid (MF w W p m ⟨0, fn⟩ w.heap.size (w.heap.size + 1))) HMF ?_
    clear HMF
    generalize w.heap.size = M at *
    generalize M + 1 = G at *
    intro W HM0
    have HM := Lib.hid (HM0.out.keep ((Same.refl noB W).drew))
    obtain ⟨c0, c1, c2, c3, c4, c5, c6, c7, c8, c9, c10⟩ := HM0.out.mb.all
    obtain ⟨f0, f1⟩ := HM0.out.all
    have HS0 := Lib.hid HM0.out.mb.since
    clear HM0
    simp only at f0 f1
    go_region_held3 (fun w' => w'.cell? ⟨M, 0, none⟩ = some (.slice p.s.addr p.s.len p.s.cap) ∧ w'.cell? ⟨M, 1, none⟩ = some (.slice p.f.addr p.f.len p.f.cap) ∧ w'.cell? ⟨M, 2, none⟩ = some (.slice p.r.addr p.r.len p.r.cap) ∧ w'.cell? ⟨M, 3, none⟩ = some (.slice p.mc.addr p.mc.len p.mc.cap) ∧ w'.cell? ⟨M, 4, none⟩ = some (.slice p.l.addr p.l.len p.l.cap) ∧ w'.cell? ⟨M, 5, none⟩ = some (.slice p.i.addr p.i.len p.i.cap) ∧ w'.cell? ⟨M, 6, none⟩ = some (.int .i64 m.dark) ∧ w'.cell? ⟨M, 7, none⟩ = some (.int .i64 m.slots) ∧ w'.cell? ⟨M, 8, none⟩ = some (.int .i64 m.reserve) ∧ w'.cell? ⟨M, 9, none⟩ = some (.int .i64 m.failures) ∧ w'.cell? ⟨M, 10, none⟩ = some (.slice p.ru.addr p.ru.len p.ru.cap) ∧ w'.cell? ⟨G, 0, none⟩ = some (.int .i64 0) ∧ w'.cell? ⟨G, 1, none⟩ = some (.int .i64 fn))
      (first | (refine ⟨?_, ?_, ?_, ?_, ?_, ?_, ?_, ?_, ?_, ?_, ?_, ?_, ?_⟩ <;> with_reducible assumption) | go_keep)
      ((go_at_call 37; have hZ := domains_any HM.out.mb.inn (by_ := 0) (by first | exact inI64_of (by decide) (by decide) | exact HBB.out); unfold mdlVal at hZ; rw [HD.out] at hZ; (with_reducible refine Calls.mono hZ ?_); clear hZ; rintro e W2 ⟨rfl, hs⟩; have HM := Lib.hid (HM.out.keep hs); obtain ⟨c0, c1, c2, c3, c4, c5, c6, c7, c8, c9, c10⟩ := HM.out.mb.all; obtain ⟨f0, f1⟩ := HM.out.all; clear hs))
    all_goals go_wp2_with fail
    all_goals
      go_ret
      exact ⟨by rw [HQ.out] <;> rfl, HM.out.mb.since⟩
  · clear h0
    go_enter Try.func15, Try.ntmps15
    go_wp2_with fail
    refine wp_abs (fun W => Hid (MF w W p m ⟨fb, fn⟩ w.heap.size (w.heap.size + 1))) HMF ?_
    clear HMF
    generalize w.heap.size = M at *
    generalize M + 1 = G at *
    intro W HM0
    have HM := Lib.hid (HM0.out.keep ((Same.refl noB W).drew))
    obtain ⟨c0, c1, c2, c3, c4, c5, c6, c7, c8, c9, c10⟩ := HM0.out.mb.all
    obtain ⟨f0, f1⟩ := HM0.out.all
    have HS0 := Lib.hid HM0.out.mb.since
    clear HM0
    simp only at f0 f1
    go_region_held3 (fun w' => w'.cell? ⟨M, 0, none⟩ = some (.slice p.s.addr p.s.len p.s.cap) ∧ w'.cell? ⟨M, 1, none⟩ = some (.slice p.f.addr p.f.len p.f.cap) ∧ w'.cell? ⟨M, 2, none⟩ = some (.slice p.r.addr p.r.len p.r.cap) ∧ w'.cell? ⟨M, 3, none⟩ = some (.slice p.mc.addr p.mc.len p.mc.cap) ∧ w'.cell? ⟨M, 4, none⟩ = some (.slice p.l.addr p.l.len p.l.cap) ∧ w'.cell? ⟨M, 5, none⟩ = some (.slice p.i.addr p.i.len p.i.cap) ∧ w'.cell? ⟨M, 6, none⟩ = some (.int .i64 m.dark) ∧ w'.cell? ⟨M, 7, none⟩ = some (.int .i64 m.slots) ∧ w'.cell? ⟨M, 8, none⟩ = some (.int .i64 m.reserve) ∧ w'.cell? ⟨M, 9, none⟩ = some (.int .i64 m.failures) ∧ w'.cell? ⟨M, 10, none⟩ = some (.slice p.ru.addr p.ru.len p.ru.cap) ∧ w'.cell? ⟨G, 0, none⟩ = some (.int .i64 fb) ∧ w'.cell? ⟨G, 1, none⟩ = some (.int .i64 fn))
      (first | (refine ⟨?_, ?_, ?_, ?_, ?_, ?_, ?_, ?_, ?_, ?_, ?_, ?_, ?_⟩ <;> with_reducible assumption) | go_keep)
      ((go_at_call 37; have hZ := domains_any HM.out.mb.inn (by_ := fb) (by first | exact inI64_of (by decide) (by decide) | exact HBB.out); unfold mdlVal at hZ; rw [HD.out] at hZ; (with_reducible refine Calls.mono hZ ?_); clear hZ; rintro e W2 ⟨rfl, hs⟩; have HM := Lib.hid (HM.out.keep hs); obtain ⟨c0, c1, c2, c3, c4, c5, c6, c7, c8, c9, c10⟩ := HM.out.mb.all; obtain ⟨f0, f1⟩ := HM.out.all; clear hs))
    all_goals go_wp2_with fail
    all_goals
      go_ret
      exact ⟨by rw [HQ.out] <;> rfl, HM.out.mb.since⟩
set_option maxHeartbeats 4000000 in
theorem name_machines {w : World} {p : MPl} {m : Mdl} (h : MdlIn w p m) (hsh : m.Short) (fn : Int) (he : exB fn (m.domains 1) = true) :
    Calls Try.prog 15 #[mdlVal p m, Fl.val ⟨1, fn⟩] w fun e w' => e = .returned (.string (namOf m ⟨1, fn⟩)) ∧ Same noB w w' := by
  have hmb := MB.start h
  have hz : (w.alloc (.cells (mdlCells p m) 29)).heap.size = w.heap.size + 1 := by simp
  have hfb := Blk.new (w.alloc (.cells (mdlCells p m) 29)) 31 #[.int .i64 1, .int .i64 fn]
  rw [hz] at hfb
  have hrow := hmb.inn.mc.keep ((Same.refl noB _).alloc (.cells #[.int .i64 1, .int .i64 fn] 31))
  have hlen := h.lm
  have HMF : Hid (MF w ((w.alloc (.cells (mdlCells p m) 29)).alloc (.cells #[.int .i64 1, .int .i64 fn] 31)) p m ⟨1, fn⟩ w.heap.size (w.heap.size + 1)) := ⟨hmb.keep ((Same.refl _ _).alloc _), hfb⟩
  have hD : m.domains 1 = p.mc.len := h.lm.symm
  rw [hD] at he
  obtain ⟨h1, h2⟩ := exB_iff.1 he
  obtain ⟨k, rfl⟩ : ∃ k : Nat, fn = (k : Int) + 1 := ⟨(fn - 1).toNat, by omega⟩
  have hlt : k < p.mc.len := by omega
  obtain ⟨x, hx⟩ : ∃ x, m.machines[k]? = some x := ⟨_, List.getElem?_eq_getElem (by omega)⟩
  have hxs : x.name.size ≤ 1000 := hsh.mc x (List.mem_of_getElem? hx)
  have HQ : Hid (namOf m ⟨1, (k : Int) + 1⟩ = ⟨#[109, 97, 99, 104, 105, 110, 101, 32]⟩ ++ x.name) := by
    show namOf m ⟨1, (k : Int) + 1⟩ = _
    unfold namOf
    rw [if_neg (by rintro ⟨e, _⟩; have e' : (1 : Int) = 0 := e; omega), if_neg (by simp only [hD, he]; decide)]
    simp only [show ((k : Int) + 1 - 1).toNat = k from by omega, hx]
    rfl
  obtain ⟨D, hDD⟩ : ∃ D, m.domains 1 = D := ⟨_, rfl⟩
  have HD := Lib.hid hDD
  rw [hD] at hDD
  have g1 : decide ((k : Int) + 1 < 1) = false := decide_eq_false (by omega)
  have g2 : decide ((D : Int) < (k : Int) + 1) = false := decide_eq_false (by omega)
  have HXX := Lib.hid hx
  have hpl : 0 < p.mc.len := by omega
  generalize namOf m ⟨1, (k : Int) + 1⟩ = qq at *
  have hk0 : (0 : Int) ≤ (k : Int) := Int.natCast_nonneg _
  have hk1 : (k : Int) < (p.mc.len : Int) := by omega
  have hw1 : IntKind.i64.wrap ((k : Int) + 1 - 1) = (k : Int) := by
    rw [show (k : Int) + 1 - 1 = (k : Int) from by omega]
    have h3 := hmb.inn.mc.caps
    exact IntWalk.i64_in _ ⟨by omega, by omega⟩
  have hw2 : IntKind.i64.wrap (k : Int) = (k : Int) := by have h3 := hmb.inn.mc.caps; exact IntWalk.i64_in _ ⟨by omega, by omega⟩
  clear h hmb hz hfb hD he hrow hlen h1 h2 hsh hDD hx
  unfold mdlVal Fl.val
  unfold mdlCells at HMF
  simp only at *
  go_enter Try.func15, Try.ntmps15
  go_wp2_with fail
  refine wp_abs (fun W => Hid (MF w W p m ⟨1, (k : Int) + 1⟩ w.heap.size (w.heap.size + 1))) HMF ?_
  clear HMF
  generalize w.heap.size = M at *
  generalize M + 1 = G at *
  intro W HM0
  have HM := Lib.hid (HM0.out.keep ((Same.refl noB W).drew))
  obtain ⟨c0, c1, c2, c3, c4, c5, c6, c7, c8, c9, c10⟩ := HM0.out.mb.all
  obtain ⟨f0, f1⟩ := HM0.out.all
  have HS0 := Lib.hid HM0.out.mb.since
  clear HM0
  simp only at f0 f1
  go_region_held3 (fun w' => w'.cell? ⟨M, 0, none⟩ = some (.slice p.s.addr p.s.len p.s.cap) ∧ w'.cell? ⟨M, 1, none⟩ = some (.slice p.f.addr p.f.len p.f.cap) ∧ w'.cell? ⟨M, 2, none⟩ = some (.slice p.r.addr p.r.len p.r.cap) ∧ w'.cell? ⟨M, 3, none⟩ = some (.slice p.mc.addr p.mc.len p.mc.cap) ∧ w'.cell? ⟨M, 4, none⟩ = some (.slice p.l.addr p.l.len p.l.cap) ∧ w'.cell? ⟨M, 5, none⟩ = some (.slice p.i.addr p.i.len p.i.cap) ∧ w'.cell? ⟨M, 6, none⟩ = some (.int .i64 m.dark) ∧ w'.cell? ⟨M, 7, none⟩ = some (.int .i64 m.slots) ∧ w'.cell? ⟨M, 8, none⟩ = some (.int .i64 m.reserve) ∧ w'.cell? ⟨M, 9, none⟩ = some (.int .i64 m.failures) ∧ w'.cell? ⟨M, 10, none⟩ = some (.slice p.ru.addr p.ru.len p.ru.cap) ∧ w'.cell? ⟨G, 0, none⟩ = some (.int .i64 1) ∧ w'.cell? ⟨G, 1, none⟩ = some (.int .i64 ((k : Int) + 1)))
    (first | (refine ⟨?_, ?_, ?_, ?_, ?_, ?_, ?_, ?_, ?_, ?_, ?_, ?_, ?_⟩ <;> with_reducible assumption) | go_keep)
    ((go_at_call 37; have hZ := domains_any HM.out.mb.inn (by_ := 1) (by first | exact inI64_of (by decide) (by decide) | exact HBB.out); unfold mdlVal at hZ; rw [HD.out] at hZ; (with_reducible refine Calls.mono hZ ?_); clear hZ; rintro e W2 ⟨rfl, hs⟩; have HM := Lib.hid (HM.out.keep hs); obtain ⟨c0, c1, c2, c3, c4, c5, c6, c7, c8, c9, c10⟩ := HM.out.mb.all; obtain ⟨f0, f1⟩ := HM.out.all; clear hs))
  all_goals
    obtain ⟨rb, ro, hadr, r⟩ := HM.out.mb.inn.mc.at_ hpl
    have hx := HXX.out
    obtain ⟨d0, _, _⟩ := mc_at r hx
    clear r hx
    simp only [hadr] at *
    go_wp2_with fail
  all_goals
    go_ret
    exact ⟨by rw [HQ.out] <;> rfl, HM.out.mb.since⟩
set_option maxHeartbeats 4000000 in
theorem name_racks {w : World} {p : MPl} {m : Mdl} (h : MdlIn w p m) (hsh : m.Short) (fn : Int) (he : exB fn (m.domains 2) = true) :
    Calls Try.prog 15 #[mdlVal p m, Fl.val ⟨2, fn⟩] w fun e w' => e = .returned (.string (namOf m ⟨2, fn⟩)) ∧ Same noB w w' := by
  have hmb := MB.start h
  have hz : (w.alloc (.cells (mdlCells p m) 29)).heap.size = w.heap.size + 1 := by simp
  have hfb := Blk.new (w.alloc (.cells (mdlCells p m) 29)) 31 #[.int .i64 2, .int .i64 fn]
  rw [hz] at hfb
  have hrow := hmb.inn.r.keep ((Same.refl noB _).alloc (.cells #[.int .i64 2, .int .i64 fn] 31))
  have hlen := h.lr
  have HMF : Hid (MF w ((w.alloc (.cells (mdlCells p m) 29)).alloc (.cells #[.int .i64 2, .int .i64 fn] 31)) p m ⟨2, fn⟩ w.heap.size (w.heap.size + 1)) := ⟨hmb.keep ((Same.refl _ _).alloc _), hfb⟩
  have hD : m.domains 2 = p.r.len := h.lr.symm
  rw [hD] at he
  obtain ⟨h1, h2⟩ := exB_iff.1 he
  obtain ⟨k, rfl⟩ : ∃ k : Nat, fn = (k : Int) + 1 := ⟨(fn - 1).toNat, by omega⟩
  have hlt : k < p.r.len := by omega
  obtain ⟨x, hx⟩ : ∃ x, m.racks[k]? = some x := ⟨_, List.getElem?_eq_getElem (by omega)⟩
  have hxs : x.name.size ≤ 1000 := hsh.r x (List.mem_of_getElem? hx)
  have HQ : Hid (namOf m ⟨2, (k : Int) + 1⟩ = ⟨#[114, 97, 99, 107, 32]⟩ ++ x.name) := by
    show namOf m ⟨2, (k : Int) + 1⟩ = _
    unfold namOf
    rw [if_neg (by rintro ⟨e, _⟩; have e' : (2 : Int) = 0 := e; omega), if_neg (by simp only [hD, he]; decide)]
    simp only [show ((k : Int) + 1 - 1).toNat = k from by omega, hx]
    rfl
  obtain ⟨D, hDD⟩ : ∃ D, m.domains 2 = D := ⟨_, rfl⟩
  have HD := Lib.hid hDD
  rw [hD] at hDD
  have g1 : decide ((k : Int) + 1 < 1) = false := decide_eq_false (by omega)
  have g2 : decide ((D : Int) < (k : Int) + 1) = false := decide_eq_false (by omega)
  have HXX := Lib.hid hx
  have hpl : 0 < p.r.len := by omega
  generalize namOf m ⟨2, (k : Int) + 1⟩ = qq at *
  have hk0 : (0 : Int) ≤ (k : Int) := Int.natCast_nonneg _
  have hk1 : (k : Int) < (p.r.len : Int) := by omega
  have hw1 : IntKind.i64.wrap ((k : Int) + 1 - 1) = (k : Int) := by
    rw [show (k : Int) + 1 - 1 = (k : Int) from by omega]
    have h3 := hmb.inn.r.caps
    exact IntWalk.i64_in _ ⟨by omega, by omega⟩
  have hw2 : IntKind.i64.wrap (k : Int) = (k : Int) := by have h3 := hmb.inn.r.caps; exact IntWalk.i64_in _ ⟨by omega, by omega⟩
  clear h hmb hz hfb hD he hrow hlen h1 h2 hsh hDD hx
  unfold mdlVal Fl.val
  unfold mdlCells at HMF
  simp only at *
  go_enter Try.func15, Try.ntmps15
  go_wp2_with fail
  refine wp_abs (fun W => Hid (MF w W p m ⟨2, (k : Int) + 1⟩ w.heap.size (w.heap.size + 1))) HMF ?_
  clear HMF
  generalize w.heap.size = M at *
  generalize M + 1 = G at *
  intro W HM0
  have HM := Lib.hid (HM0.out.keep ((Same.refl noB W).drew))
  obtain ⟨c0, c1, c2, c3, c4, c5, c6, c7, c8, c9, c10⟩ := HM0.out.mb.all
  obtain ⟨f0, f1⟩ := HM0.out.all
  have HS0 := Lib.hid HM0.out.mb.since
  clear HM0
  simp only at f0 f1
  go_region_held3 (fun w' => w'.cell? ⟨M, 0, none⟩ = some (.slice p.s.addr p.s.len p.s.cap) ∧ w'.cell? ⟨M, 1, none⟩ = some (.slice p.f.addr p.f.len p.f.cap) ∧ w'.cell? ⟨M, 2, none⟩ = some (.slice p.r.addr p.r.len p.r.cap) ∧ w'.cell? ⟨M, 3, none⟩ = some (.slice p.mc.addr p.mc.len p.mc.cap) ∧ w'.cell? ⟨M, 4, none⟩ = some (.slice p.l.addr p.l.len p.l.cap) ∧ w'.cell? ⟨M, 5, none⟩ = some (.slice p.i.addr p.i.len p.i.cap) ∧ w'.cell? ⟨M, 6, none⟩ = some (.int .i64 m.dark) ∧ w'.cell? ⟨M, 7, none⟩ = some (.int .i64 m.slots) ∧ w'.cell? ⟨M, 8, none⟩ = some (.int .i64 m.reserve) ∧ w'.cell? ⟨M, 9, none⟩ = some (.int .i64 m.failures) ∧ w'.cell? ⟨M, 10, none⟩ = some (.slice p.ru.addr p.ru.len p.ru.cap) ∧ w'.cell? ⟨G, 0, none⟩ = some (.int .i64 2) ∧ w'.cell? ⟨G, 1, none⟩ = some (.int .i64 ((k : Int) + 1)))
    (first | (refine ⟨?_, ?_, ?_, ?_, ?_, ?_, ?_, ?_, ?_, ?_, ?_, ?_, ?_⟩ <;> with_reducible assumption) | go_keep)
    ((go_at_call 37; have hZ := domains_any HM.out.mb.inn (by_ := 2) (by first | exact inI64_of (by decide) (by decide) | exact HBB.out); unfold mdlVal at hZ; rw [HD.out] at hZ; (with_reducible refine Calls.mono hZ ?_); clear hZ; rintro e W2 ⟨rfl, hs⟩; have HM := Lib.hid (HM.out.keep hs); obtain ⟨c0, c1, c2, c3, c4, c5, c6, c7, c8, c9, c10⟩ := HM.out.mb.all; obtain ⟨f0, f1⟩ := HM.out.all; clear hs))
  all_goals
    obtain ⟨rb, ro, hadr, r⟩ := HM.out.mb.inn.r.at_ hpl
    have hx := HXX.out
    obtain ⟨d0, _, _⟩ := rk_at r hx
    clear r hx
    simp only [hadr] at *
    go_wp2_with fail
  all_goals
    go_ret
    exact ⟨by rw [HQ.out] <;> rfl, HM.out.mb.since⟩
set_option maxHeartbeats 4000000 in
theorem name_feeds {w : World} {p : MPl} {m : Mdl} (h : MdlIn w p m) (hsh : m.Short) (fn : Int) (he : exB fn (m.domains 3) = true) :
    Calls Try.prog 15 #[mdlVal p m, Fl.val ⟨3, fn⟩] w fun e w' => e = .returned (.string (namOf m ⟨3, fn⟩)) ∧ Same noB w w' := by
  have hmb := MB.start h
  have hz : (w.alloc (.cells (mdlCells p m) 29)).heap.size = w.heap.size + 1 := by simp
  have hfb := Blk.new (w.alloc (.cells (mdlCells p m) 29)) 31 #[.int .i64 3, .int .i64 fn]
  rw [hz] at hfb
  have hrow := hmb.inn.f.keep ((Same.refl noB _).alloc (.cells #[.int .i64 3, .int .i64 fn] 31))
  have hlen := h.lf
  have HMF : Hid (MF w ((w.alloc (.cells (mdlCells p m) 29)).alloc (.cells #[.int .i64 3, .int .i64 fn] 31)) p m ⟨3, fn⟩ w.heap.size (w.heap.size + 1)) := ⟨hmb.keep ((Same.refl _ _).alloc _), hfb⟩
  have hD : m.domains 3 = p.f.len := h.lf.symm
  rw [hD] at he
  obtain ⟨h1, h2⟩ := exB_iff.1 he
  obtain ⟨k, rfl⟩ : ∃ k : Nat, fn = (k : Int) + 1 := ⟨(fn - 1).toNat, by omega⟩
  have hlt : k < p.f.len := by omega
  obtain ⟨x, hx⟩ : ∃ x, m.feeds[k]? = some x := ⟨_, List.getElem?_eq_getElem (by omega)⟩
  have hxs : x.size ≤ 1000 := hsh.f x (List.mem_of_getElem? hx)
  have HQ : Hid (namOf m ⟨3, (k : Int) + 1⟩ = ⟨#[102, 101, 101, 100, 32]⟩ ++ x) := by
    show namOf m ⟨3, (k : Int) + 1⟩ = _
    unfold namOf
    rw [if_neg (by rintro ⟨e, _⟩; have e' : (3 : Int) = 0 := e; omega), if_neg (by simp only [hD, he]; decide)]
    simp only [show ((k : Int) + 1 - 1).toNat = k from by omega, hx]
    rfl
  obtain ⟨D, hDD⟩ : ∃ D, m.domains 3 = D := ⟨_, rfl⟩
  have HD := Lib.hid hDD
  rw [hD] at hDD
  have g1 : decide ((k : Int) + 1 < 1) = false := decide_eq_false (by omega)
  have g2 : decide ((D : Int) < (k : Int) + 1) = false := decide_eq_false (by omega)
  have HXX := Lib.hid hx
  have hpl : 0 < p.f.len := by omega
  generalize namOf m ⟨3, (k : Int) + 1⟩ = qq at *
  have hk0 : (0 : Int) ≤ (k : Int) := Int.natCast_nonneg _
  have hk1 : (k : Int) < (p.f.len : Int) := by omega
  have hw1 : IntKind.i64.wrap ((k : Int) + 1 - 1) = (k : Int) := by
    rw [show (k : Int) + 1 - 1 = (k : Int) from by omega]
    have h3 := hmb.inn.f.caps
    exact IntWalk.i64_in _ ⟨by omega, by omega⟩
  have hw2 : IntKind.i64.wrap (k : Int) = (k : Int) := by have h3 := hmb.inn.f.caps; exact IntWalk.i64_in _ ⟨by omega, by omega⟩
  clear h hmb hz hfb hD he hrow hlen h1 h2 hsh hDD hx
  unfold mdlVal Fl.val
  unfold mdlCells at HMF
  simp only at *
  go_enter Try.func15, Try.ntmps15
  go_wp2_with fail
  refine wp_abs (fun W => Hid (MF w W p m ⟨3, (k : Int) + 1⟩ w.heap.size (w.heap.size + 1))) HMF ?_
  clear HMF
  generalize w.heap.size = M at *
  generalize M + 1 = G at *
  intro W HM0
  have HM := Lib.hid (HM0.out.keep ((Same.refl noB W).drew))
  obtain ⟨c0, c1, c2, c3, c4, c5, c6, c7, c8, c9, c10⟩ := HM0.out.mb.all
  obtain ⟨f0, f1⟩ := HM0.out.all
  have HS0 := Lib.hid HM0.out.mb.since
  clear HM0
  simp only at f0 f1
  go_region_held3 (fun w' => w'.cell? ⟨M, 0, none⟩ = some (.slice p.s.addr p.s.len p.s.cap) ∧ w'.cell? ⟨M, 1, none⟩ = some (.slice p.f.addr p.f.len p.f.cap) ∧ w'.cell? ⟨M, 2, none⟩ = some (.slice p.r.addr p.r.len p.r.cap) ∧ w'.cell? ⟨M, 3, none⟩ = some (.slice p.mc.addr p.mc.len p.mc.cap) ∧ w'.cell? ⟨M, 4, none⟩ = some (.slice p.l.addr p.l.len p.l.cap) ∧ w'.cell? ⟨M, 5, none⟩ = some (.slice p.i.addr p.i.len p.i.cap) ∧ w'.cell? ⟨M, 6, none⟩ = some (.int .i64 m.dark) ∧ w'.cell? ⟨M, 7, none⟩ = some (.int .i64 m.slots) ∧ w'.cell? ⟨M, 8, none⟩ = some (.int .i64 m.reserve) ∧ w'.cell? ⟨M, 9, none⟩ = some (.int .i64 m.failures) ∧ w'.cell? ⟨M, 10, none⟩ = some (.slice p.ru.addr p.ru.len p.ru.cap) ∧ w'.cell? ⟨G, 0, none⟩ = some (.int .i64 3) ∧ w'.cell? ⟨G, 1, none⟩ = some (.int .i64 ((k : Int) + 1)))
    (first | (refine ⟨?_, ?_, ?_, ?_, ?_, ?_, ?_, ?_, ?_, ?_, ?_, ?_, ?_⟩ <;> with_reducible assumption) | go_keep)
    ((go_at_call 37; have hZ := domains_any HM.out.mb.inn (by_ := 3) (by first | exact inI64_of (by decide) (by decide) | exact HBB.out); unfold mdlVal at hZ; rw [HD.out] at hZ; (with_reducible refine Calls.mono hZ ?_); clear hZ; rintro e W2 ⟨rfl, hs⟩; have HM := Lib.hid (HM.out.keep hs); obtain ⟨c0, c1, c2, c3, c4, c5, c6, c7, c8, c9, c10⟩ := HM.out.mb.all; obtain ⟨f0, f1⟩ := HM.out.all; clear hs))
  all_goals
    obtain ⟨rb, ro, hadr, r⟩ := HM.out.mb.inn.f.at_ hpl
    have hx := HXX.out
    have d0 := s_at r hx
    clear r hx
    simp only [hadr] at *
    go_wp2_with fail
  all_goals
    go_ret
    exact ⟨by rw [HQ.out] <;> rfl, HM.out.mb.since⟩
set_option maxHeartbeats 4000000 in
theorem name_sites {w : World} {p : MPl} {m : Mdl} (h : MdlIn w p m) (hsh : m.Short) (fn : Int) (he : exB fn (m.domains 4) = true) :
    Calls Try.prog 15 #[mdlVal p m, Fl.val ⟨4, fn⟩] w fun e w' => e = .returned (.string (namOf m ⟨4, fn⟩)) ∧ Same noB w w' := by
  have hmb := MB.start h
  have hz : (w.alloc (.cells (mdlCells p m) 29)).heap.size = w.heap.size + 1 := by simp
  have hfb := Blk.new (w.alloc (.cells (mdlCells p m) 29)) 31 #[.int .i64 4, .int .i64 fn]
  rw [hz] at hfb
  have hrow := hmb.inn.s.keep ((Same.refl noB _).alloc (.cells #[.int .i64 4, .int .i64 fn] 31))
  have hlen := h.ls
  have HMF : Hid (MF w ((w.alloc (.cells (mdlCells p m) 29)).alloc (.cells #[.int .i64 4, .int .i64 fn] 31)) p m ⟨4, fn⟩ w.heap.size (w.heap.size + 1)) := ⟨hmb.keep ((Same.refl _ _).alloc _), hfb⟩
  have hD : m.domains 4 = p.s.len := h.ls.symm
  rw [hD] at he
  obtain ⟨h1, h2⟩ := exB_iff.1 he
  obtain ⟨k, rfl⟩ : ∃ k : Nat, fn = (k : Int) + 1 := ⟨(fn - 1).toNat, by omega⟩
  have hlt : k < p.s.len := by omega
  obtain ⟨x, hx⟩ : ∃ x, m.sites[k]? = some x := ⟨_, List.getElem?_eq_getElem (by omega)⟩
  have hxs : x.size ≤ 1000 := hsh.s x (List.mem_of_getElem? hx)
  have HQ : Hid (namOf m ⟨4, (k : Int) + 1⟩ = ⟨#[115, 105, 116, 101, 32]⟩ ++ x) := by
    show namOf m ⟨4, (k : Int) + 1⟩ = _
    unfold namOf
    rw [if_neg (by rintro ⟨e, _⟩; have e' : (4 : Int) = 0 := e; omega), if_neg (by simp only [hD, he]; decide)]
    simp only [show ((k : Int) + 1 - 1).toNat = k from by omega, hx]
    rfl
  obtain ⟨D, hDD⟩ : ∃ D, m.domains 4 = D := ⟨_, rfl⟩
  have HD := Lib.hid hDD
  rw [hD] at hDD
  have g1 : decide ((k : Int) + 1 < 1) = false := decide_eq_false (by omega)
  have g2 : decide ((D : Int) < (k : Int) + 1) = false := decide_eq_false (by omega)
  have HXX := Lib.hid hx
  have hpl : 0 < p.s.len := by omega
  generalize namOf m ⟨4, (k : Int) + 1⟩ = qq at *
  have hk0 : (0 : Int) ≤ (k : Int) := Int.natCast_nonneg _
  have hk1 : (k : Int) < (p.s.len : Int) := by omega
  have hw1 : IntKind.i64.wrap ((k : Int) + 1 - 1) = (k : Int) := by
    rw [show (k : Int) + 1 - 1 = (k : Int) from by omega]
    have h3 := hmb.inn.s.caps
    exact IntWalk.i64_in _ ⟨by omega, by omega⟩
  have hw2 : IntKind.i64.wrap (k : Int) = (k : Int) := by have h3 := hmb.inn.s.caps; exact IntWalk.i64_in _ ⟨by omega, by omega⟩
  clear h hmb hz hfb hD he hrow hlen h1 h2 hsh hDD hx
  unfold mdlVal Fl.val
  unfold mdlCells at HMF
  simp only at *
  go_enter Try.func15, Try.ntmps15
  go_wp2_with fail
  refine wp_abs (fun W => Hid (MF w W p m ⟨4, (k : Int) + 1⟩ w.heap.size (w.heap.size + 1))) HMF ?_
  clear HMF
  generalize w.heap.size = M at *
  generalize M + 1 = G at *
  intro W HM0
  have HM := Lib.hid (HM0.out.keep ((Same.refl noB W).drew))
  obtain ⟨c0, c1, c2, c3, c4, c5, c6, c7, c8, c9, c10⟩ := HM0.out.mb.all
  obtain ⟨f0, f1⟩ := HM0.out.all
  have HS0 := Lib.hid HM0.out.mb.since
  clear HM0
  simp only at f0 f1
  go_region_held3 (fun w' => w'.cell? ⟨M, 0, none⟩ = some (.slice p.s.addr p.s.len p.s.cap) ∧ w'.cell? ⟨M, 1, none⟩ = some (.slice p.f.addr p.f.len p.f.cap) ∧ w'.cell? ⟨M, 2, none⟩ = some (.slice p.r.addr p.r.len p.r.cap) ∧ w'.cell? ⟨M, 3, none⟩ = some (.slice p.mc.addr p.mc.len p.mc.cap) ∧ w'.cell? ⟨M, 4, none⟩ = some (.slice p.l.addr p.l.len p.l.cap) ∧ w'.cell? ⟨M, 5, none⟩ = some (.slice p.i.addr p.i.len p.i.cap) ∧ w'.cell? ⟨M, 6, none⟩ = some (.int .i64 m.dark) ∧ w'.cell? ⟨M, 7, none⟩ = some (.int .i64 m.slots) ∧ w'.cell? ⟨M, 8, none⟩ = some (.int .i64 m.reserve) ∧ w'.cell? ⟨M, 9, none⟩ = some (.int .i64 m.failures) ∧ w'.cell? ⟨M, 10, none⟩ = some (.slice p.ru.addr p.ru.len p.ru.cap) ∧ w'.cell? ⟨G, 0, none⟩ = some (.int .i64 4) ∧ w'.cell? ⟨G, 1, none⟩ = some (.int .i64 ((k : Int) + 1)))
    (first | (refine ⟨?_, ?_, ?_, ?_, ?_, ?_, ?_, ?_, ?_, ?_, ?_, ?_, ?_⟩ <;> with_reducible assumption) | go_keep)
    ((go_at_call 37; have hZ := domains_any HM.out.mb.inn (by_ := 4) (by first | exact inI64_of (by decide) (by decide) | exact HBB.out); unfold mdlVal at hZ; rw [HD.out] at hZ; (with_reducible refine Calls.mono hZ ?_); clear hZ; rintro e W2 ⟨rfl, hs⟩; have HM := Lib.hid (HM.out.keep hs); obtain ⟨c0, c1, c2, c3, c4, c5, c6, c7, c8, c9, c10⟩ := HM.out.mb.all; obtain ⟨f0, f1⟩ := HM.out.all; clear hs))
  all_goals
    obtain ⟨rb, ro, hadr, r⟩ := HM.out.mb.inn.s.at_ hpl
    have hx := HXX.out
    have d0 := s_at r hx
    clear r hx
    simp only [hadr] at *
    go_wp2_with fail
  all_goals
    go_ret
    exact ⟨by rw [HQ.out] <;> rfl, HM.out.mb.since⟩
end Go.Proofs.Ytpngmodgnkjhnaa
