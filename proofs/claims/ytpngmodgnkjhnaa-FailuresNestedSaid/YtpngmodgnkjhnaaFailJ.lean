/- Layer 21: Name of the program and of the reference. -/
import Derived.Test.YtpngmodgnkjhnaaFailC
import Derived.Test.YtpngmodgnkjhnaaSiteT
import Derived.Laws.Concat
namespace Go.Proofs.Ytpngmodgnkjhnaa
open Go Go.RowKit Go.Maps
set_option maxRecDepth 100000

/-- The text of a failure. -/
def namOf (m : Mdl) (f : Fl) : ByteArray :=
  if f.by_ = 0 ∧ f.num = 0 then ⟨#[110, 111, 116, 104, 105, 110, 103]⟩
  else if exB f.num (m.domains f.by_) = false then ⟨#[]⟩
  else if f.by_ = 1 then ⟨#[109, 97, 99, 104, 105, 110, 101, 32]⟩ ++ ((m.machines[(f.num - 1).toNat]?).map Mc.name).getD ⟨#[]⟩
  else if f.by_ = 2 then ⟨#[114, 97, 99, 107, 32]⟩ ++ ((m.racks[(f.num - 1).toNat]?).map Rk.name).getD ⟨#[]⟩
  else if f.by_ = 3 then ⟨#[102, 101, 101, 100, 32]⟩ ++ (m.feeds[(f.num - 1).toNat]?).getD ⟨#[]⟩
  else ⟨#[115, 105, 116, 101, 32]⟩ ++ (m.sites[(f.num - 1).toNat]?).getD ⟨#[]⟩
/-- No name is long. -/
structure Mdl.Short (m : Mdl) : Prop where
  s : ∀ x ∈ m.sites, x.size ≤ 1000
  f : ∀ x ∈ m.feeds, x.size ≤ 1000
  r : ∀ x ∈ m.racks, x.name.size ≤ 1000
  mc : ∀ x ∈ m.machines, x.name.size ≤ 1000
theorem mxI_le {z n b : Int} (h : mxI z n ≤ b) : z ≤ b ∧ n ≤ b := by
  unfold mxI at h
  split at h <;> omega
theorem runK_le {α : Type} {f : Int → α → Int} (hf : ∀ z x, z ≤ f z x) (z : Int) (l : List α) (k : Nat) : z ≤ runK f z l k := by
  unfold runK
  generalize l.take k = t
  induction t generalizing z with
  | nil => exact Int.le_refl _
  | cons x t ih => exact Int.le_trans (hf z x) (ih (f z x))
theorem runK_mem {α : Type} {f : Int → α → Int} {g : α → Int} (hf : ∀ z x, z ≤ f z x) (hg : ∀ z x, g x ≤ f z x) (z : Int) (l : List α) : ∀ x ∈ l, g x ≤ runK f z l l.length := by
  unfold runK
  rw [List.take_length]
  induction l generalizing z with
  | nil => intro x hx; cases hx
  | cons y t ih =>
    intro x hx
    rcases List.mem_cons.1 hx with rfl | hx
    · refine Int.le_trans (hg z x) ?_
      have h1 := runK_le hf (f z x) t t.length
      unfold runK at h1
      rw [List.take_length] at h1
      exact h1
    · exact ih (f z y) x hx
theorem mxI_ge (z n : Int) : z ≤ mxI z n ∧ n ≤ mxI z n := by
  unfold mxI
  split <;> omega
theorem fewB_short {m : Mdl} (h : fewB m = true) : m.Short := by
  unfold fewB at h
  rw [Bool.and_eq_true, decide_eq_true_eq, decide_eq_true_eq] at h
  have hz := h.2
  unfold fewZ at hz
  have gS : ∀ z (x : ByteArray), z ≤ fS z x ∧ (x.size : Int) ≤ fS z x := fun z x => mxI_ge z _
  have gR : ∀ z (x : Rk), z ≤ fRk z x ∧ (x.name.size : Int) ≤ fRk z x := fun z x => mxI_ge z _
  have gM : ∀ z (x : Mc), z ≤ fMc z x ∧ (x.name.size : Int) ≤ fMc z x := fun z x => mxI_ge z _
  have gI : ∀ z (x : It), z ≤ fIt z x := fun z x => Int.le_trans (mxI_ge z _).1 (mxI_ge _ _).1
  have gU : ∀ z (x : Ru), z ≤ fRu z x := fun z x => (mxI_ge z _).1
  have e6 := Int.le_trans (runK_le gU _ m.rules m.rules.length) hz
  have e5 := Int.le_trans (runK_le gI _ m.items m.items.length) e6
  have e4 := Int.le_trans (runK_le (fun z x => (gM z x).1) _ m.machines m.machines.length) e5
  have e3 := Int.le_trans (runK_le (fun z x => (gR z x).1) _ m.racks m.racks.length) e4
  have e2 := Int.le_trans (runK_le (fun z x => (gS z x).1) _ m.feeds m.feeds.length) e3
  refine ⟨fun x hx => ?_, fun x hx => ?_, fun x hx => ?_, fun x hx => ?_⟩
  · have := Int.le_trans (runK_mem (fun z x => (gS z x).1) (fun z x => (gS z x).2) _ m.sites x hx) e2
    omega
  · have := Int.le_trans (runK_mem (fun z x => (gS z x).1) (fun z x => (gS z x).2) _ m.feeds x hx) e3
    omega
  · have := Int.le_trans (runK_mem (fun z x => (gR z x).1) (fun z x => (gR z x).2) _ m.racks x hx) e4
    omega
  · have := Int.le_trans (runK_mem (fun z x => (gM z x).1) (fun z x => (gM z x).2) _ m.machines x hx) e5
    omega
set_option maxHeartbeats 4000000 in
theorem rname_no {w : World} {p : MPl} {m : Mdl} (h : MdlIn w p m) (fb fn : Int) (h0 : ¬ (fb = 0 ∧ fn = 0)) (he : exB fn (m.domains fb) = false) :
    Calls Try.prog 16 #[mdlVal p m, Fl.val ⟨fb, fn⟩] w fun e w' => e = .returned (.string (namOf m ⟨fb, fn⟩)) ∧ Same noB w w' := by
  have hmb := MB.start h
  have hz : (w.alloc (.cells (mdlCells p m) 29)).heap.size = w.heap.size + 1 := by simp
  have hfb := Blk.new (w.alloc (.cells (mdlCells p m) 29)) 31 #[.int .i64 fb, .int .i64 fn]
  rw [hz] at hfb
  have HMF : Hid (MF w ((w.alloc (.cells (mdlCells p m) 29)).alloc (.cells #[.int .i64 fb, .int .i64 fn] 31)) p m ⟨fb, fn⟩ w.heap.size (w.heap.size + 1)) := ⟨hmb.keep ((Same.refl _ _).alloc _), hfb⟩
  have HQ : Hid (namOf m ⟨fb, fn⟩ = ⟨#[]⟩) := by
    show namOf m ⟨fb, fn⟩ = _
    unfold namOf
    rw [if_neg h0, if_pos he]
  obtain ⟨D, hD⟩ : ∃ D, m.domains fb = D := ⟨_, rfl⟩
  rw [hD] at he
  have HD := Lib.hid hD
  have HE := Lib.hid he
  have HX := Lib.hid (fun W => rexists_any fn D W)
  rw [he] at HX
  generalize namOf m ⟨fb, fn⟩ = qq at *
  clear h hmb hz hfb hD he
  unfold mdlVal Fl.val
  unfold mdlCells at HMF
  simp only at *
  by_cases e0 : fb = 0
  · have e1 : fn ≠ 0 := fun e => h0 ⟨e0, e⟩
    subst e0
    clear h0
    go_enter Try.func16, Try.ntmps16
    go_wp2_with fail
    refine wp_abs (fun W => Hid (MF w W p m ⟨0, fn⟩ w.heap.size (w.heap.size + 1))) HMF ?_
    clear HMF
    generalize w.heap.size = M at *
    generalize M + 1 = G at *
    intro W HM0
    have HM := Lib.hid (HM0.out.keep ((Same.refl noB W).drew))
    obtain ⟨c0, c1, c2, c3, c4, c5, c6, c7, c8, c9, c10⟩ := HM0.out.mb.all
    obtain ⟨f0, f1⟩ := HM0.out.all
    have HS0 := Lib.hid HM0.out.mb.since
    clear HM0
    simp only at f0 f1
    go_region_held3 (fun w' => w'.cell? ⟨M, 0, none⟩ = some (.slice p.s.addr p.s.len p.s.cap) ∧ w'.cell? ⟨M, 1, none⟩ = some (.slice p.f.addr p.f.len p.f.cap) ∧ w'.cell? ⟨M, 2, none⟩ = some (.slice p.r.addr p.r.len p.r.cap) ∧ w'.cell? ⟨M, 3, none⟩ = some (.slice p.mc.addr p.mc.len p.mc.cap) ∧ w'.cell? ⟨M, 4, none⟩ = some (.slice p.l.addr p.l.len p.l.cap) ∧ w'.cell? ⟨M, 5, none⟩ = some (.slice p.i.addr p.i.len p.i.cap) ∧ w'.cell? ⟨M, 6, none⟩ = some (.int .i64 m.dark) ∧ w'.cell? ⟨M, 7, none⟩ = some (.int .i64 m.slots) ∧ w'.cell? ⟨M, 8, none⟩ = some (.int .i64 m.reserve) ∧ w'.cell? ⟨M, 9, none⟩ = some (.int .i64 m.failures) ∧ w'.cell? ⟨M, 10, none⟩ = some (.slice p.ru.addr p.ru.len p.ru.cap) ∧ w'.cell? ⟨G, 0, none⟩ = some (.int .i64 0) ∧ w'.cell? ⟨G, 1, none⟩ = some (.int .i64 fn))
      (first | (refine ⟨?_, ?_, ?_, ?_, ?_, ?_, ?_, ?_, ?_, ?_, ?_, ?_, ?_⟩ <;> with_reducible assumption) | go_keep)
      (first
        | (go_at_call 36; have hZ := rdomains_any HM.out.mb.inn 0; unfold mdlVal at hZ; rw [HD.out] at hZ; (with_reducible refine Calls.mono hZ ?_); clear hZ; rintro e W2 ⟨rfl, hs⟩; have HM := Lib.hid (HM.out.keep hs); obtain ⟨c0, c1, c2, c3, c4, c5, c6, c7, c8, c9, c10⟩ := HM.out.mb.all; obtain ⟨f0, f1⟩ := HM.out.all; clear hs)
        | (go_at_call 29; (with_reducible refine Calls.mono (HX.out _) ?_); rintro e W3 ⟨rfl, hw3⟩; rw [hw3]; clear hw3))
    all_goals go_wp2_with fail
    all_goals
      go_ret
      exact ⟨by rw [HQ.out] <;> rfl, HM.out.mb.since⟩
  · clear h0
    go_enter Try.func16, Try.ntmps16
    go_wp2_with fail
    refine wp_abs (fun W => Hid (MF w W p m ⟨fb, fn⟩ w.heap.size (w.heap.size + 1))) HMF ?_
    clear HMF
    generalize w.heap.size = M at *
    generalize M + 1 = G at *
    intro W HM0
    have HM := Lib.hid (HM0.out.keep ((Same.refl noB W).drew))
    obtain ⟨c0, c1, c2, c3, c4, c5, c6, c7, c8, c9, c10⟩ := HM0.out.mb.all
    obtain ⟨f0, f1⟩ := HM0.out.all
    have HS0 := Lib.hid HM0.out.mb.since
    clear HM0
    simp only at f0 f1
    go_region_held3 (fun w' => w'.cell? ⟨M, 0, none⟩ = some (.slice p.s.addr p.s.len p.s.cap) ∧ w'.cell? ⟨M, 1, none⟩ = some (.slice p.f.addr p.f.len p.f.cap) ∧ w'.cell? ⟨M, 2, none⟩ = some (.slice p.r.addr p.r.len p.r.cap) ∧ w'.cell? ⟨M, 3, none⟩ = some (.slice p.mc.addr p.mc.len p.mc.cap) ∧ w'.cell? ⟨M, 4, none⟩ = some (.slice p.l.addr p.l.len p.l.cap) ∧ w'.cell? ⟨M, 5, none⟩ = some (.slice p.i.addr p.i.len p.i.cap) ∧ w'.cell? ⟨M, 6, none⟩ = some (.int .i64 m.dark) ∧ w'.cell? ⟨M, 7, none⟩ = some (.int .i64 m.slots) ∧ w'.cell? ⟨M, 8, none⟩ = some (.int .i64 m.reserve) ∧ w'.cell? ⟨M, 9, none⟩ = some (.int .i64 m.failures) ∧ w'.cell? ⟨M, 10, none⟩ = some (.slice p.ru.addr p.ru.len p.ru.cap) ∧ w'.cell? ⟨G, 0, none⟩ = some (.int .i64 fb) ∧ w'.cell? ⟨G, 1, none⟩ = some (.int .i64 fn))
      (first | (refine ⟨?_, ?_, ?_, ?_, ?_, ?_, ?_, ?_, ?_, ?_, ?_, ?_, ?_⟩ <;> with_reducible assumption) | go_keep)
      (first
        | (go_at_call 36; have hZ := rdomains_any HM.out.mb.inn fb; unfold mdlVal at hZ; rw [HD.out] at hZ; (with_reducible refine Calls.mono hZ ?_); clear hZ; rintro e W2 ⟨rfl, hs⟩; have HM := Lib.hid (HM.out.keep hs); obtain ⟨c0, c1, c2, c3, c4, c5, c6, c7, c8, c9, c10⟩ := HM.out.mb.all; obtain ⟨f0, f1⟩ := HM.out.all; clear hs)
        | (go_at_call 29; (with_reducible refine Calls.mono (HX.out _) ?_); rintro e W3 ⟨rfl, hw3⟩; rw [hw3]; clear hw3))
    all_goals go_wp2_with fail
    all_goals
      go_ret
      exact ⟨by rw [HQ.out] <;> rfl, HM.out.mb.since⟩
set_option maxHeartbeats 4000000 in
theorem rname_machines {w : World} {p : MPl} {m : Mdl} (h : MdlIn w p m) (hsh : m.Short) (fn : Int) (he : exB fn (m.domains 1) = true) :
    Calls Try.prog 16 #[mdlVal p m, Fl.val ⟨1, fn⟩] w fun e w' => e = .returned (.string (namOf m ⟨1, fn⟩)) ∧ Same noB w w' := by
  have hmb := MB.start h
  have hz : (w.alloc (.cells (mdlCells p m) 29)).heap.size = w.heap.size + 1 := by simp
  have hfb := Blk.new (w.alloc (.cells (mdlCells p m) 29)) 31 #[.int .i64 1, .int .i64 fn]
  rw [hz] at hfb
  have hrow := hmb.inn.mc.keep ((Same.refl noB _).alloc (.cells #[.int .i64 1, .int .i64 fn] 31))
  have hlen := h.lm
  have HMF : Hid (MF w ((w.alloc (.cells (mdlCells p m) 29)).alloc (.cells #[.int .i64 1, .int .i64 fn] 31)) p m ⟨1, fn⟩ w.heap.size (w.heap.size + 1)) := ⟨hmb.keep ((Same.refl _ _).alloc _), hfb⟩
  have hD : m.domains 1 = p.mc.len := h.lm.symm
  rw [hD] at he
  obtain ⟨h1, h2⟩ := exB_iff.1 he
  have HX := Lib.hid (fun W => rexists_any fn p.mc.len W)
  rw [he] at HX
  obtain ⟨k, rfl⟩ : ∃ k : Nat, fn = (k : Int) + 1 := ⟨(fn - 1).toNat, by omega⟩
  have hlt : k < p.mc.len := by omega
  obtain ⟨x, hx⟩ : ∃ x, m.machines[k]? = some x := ⟨_, List.getElem?_eq_getElem (by omega)⟩
  have hxs : x.name.size ≤ 1000 := hsh.mc x (List.mem_of_getElem? hx)
  have HQ : Hid (namOf m ⟨1, (k : Int) + 1⟩ = ⟨#[109, 97, 99, 104, 105, 110, 101, 32]⟩ ++ x.name) := by
    show namOf m ⟨1, (k : Int) + 1⟩ = _
    unfold namOf
    rw [if_neg (by rintro ⟨e, _⟩; have e' : (1 : Int) = 0 := e; omega), if_neg (by simp only [hD, he]; decide)]
    simp only [show ((k : Int) + 1 - 1).toNat = k from by omega, hx]
    rfl
  obtain ⟨D, hDD⟩ : ∃ D, m.domains 1 = D := ⟨_, rfl⟩
  have HD := Lib.hid hDD
  rw [hD] at hDD
  rw [hDD] at HX
  have HXX := Lib.hid hx
  have hpl : 0 < p.mc.len := by omega
  generalize namOf m ⟨1, (k : Int) + 1⟩ = qq at *
  have hk0 : (0 : Int) ≤ (k : Int) := Int.natCast_nonneg _
  have hk1 : (k : Int) < (p.mc.len : Int) := by omega
  have hw1 : IntKind.i64.wrap ((k : Int) + 1 - 1) = (k : Int) := by
    rw [show (k : Int) + 1 - 1 = (k : Int) from by omega]
    have h3 := hmb.inn.mc.caps
    exact IntWalk.i64_in _ ⟨by omega, by omega⟩
  have hw2 : IntKind.i64.wrap (k : Int) = (k : Int) := by have h3 := hmb.inn.mc.caps; exact IntWalk.i64_in _ ⟨by omega, by omega⟩
  clear h hmb hz hfb hD he hrow hlen h1 h2 hsh hDD hx
  unfold mdlVal Fl.val
  unfold mdlCells at HMF
  simp only at *
  go_enter Try.func16, Try.ntmps16
  go_wp2_with fail
  refine wp_abs (fun W => Hid (MF w W p m ⟨1, (k : Int) + 1⟩ w.heap.size (w.heap.size + 1))) HMF ?_
  clear HMF
  generalize w.heap.size = M at *
  generalize M + 1 = G at *
  intro W HM0
  have HM := Lib.hid (HM0.out.keep ((Same.refl noB W).drew))
  obtain ⟨c0, c1, c2, c3, c4, c5, c6, c7, c8, c9, c10⟩ := HM0.out.mb.all
  obtain ⟨f0, f1⟩ := HM0.out.all
  have HS0 := Lib.hid HM0.out.mb.since
  clear HM0
  simp only at f0 f1
  go_region_held3 (fun w' => w'.cell? ⟨M, 0, none⟩ = some (.slice p.s.addr p.s.len p.s.cap) ∧ w'.cell? ⟨M, 1, none⟩ = some (.slice p.f.addr p.f.len p.f.cap) ∧ w'.cell? ⟨M, 2, none⟩ = some (.slice p.r.addr p.r.len p.r.cap) ∧ w'.cell? ⟨M, 3, none⟩ = some (.slice p.mc.addr p.mc.len p.mc.cap) ∧ w'.cell? ⟨M, 4, none⟩ = some (.slice p.l.addr p.l.len p.l.cap) ∧ w'.cell? ⟨M, 5, none⟩ = some (.slice p.i.addr p.i.len p.i.cap) ∧ w'.cell? ⟨M, 6, none⟩ = some (.int .i64 m.dark) ∧ w'.cell? ⟨M, 7, none⟩ = some (.int .i64 m.slots) ∧ w'.cell? ⟨M, 8, none⟩ = some (.int .i64 m.reserve) ∧ w'.cell? ⟨M, 9, none⟩ = some (.int .i64 m.failures) ∧ w'.cell? ⟨M, 10, none⟩ = some (.slice p.ru.addr p.ru.len p.ru.cap) ∧ w'.cell? ⟨G, 0, none⟩ = some (.int .i64 1) ∧ w'.cell? ⟨G, 1, none⟩ = some (.int .i64 ((k : Int) + 1)))
    (first | (refine ⟨?_, ?_, ?_, ?_, ?_, ?_, ?_, ?_, ?_, ?_, ?_, ?_, ?_⟩ <;> with_reducible assumption) | go_keep)
    (first
        | (go_at_call 36; have hZ := rdomains_any HM.out.mb.inn 1; unfold mdlVal at hZ; rw [HD.out] at hZ; (with_reducible refine Calls.mono hZ ?_); clear hZ; rintro e W2 ⟨rfl, hs⟩; have HM := Lib.hid (HM.out.keep hs); obtain ⟨c0, c1, c2, c3, c4, c5, c6, c7, c8, c9, c10⟩ := HM.out.mb.all; obtain ⟨f0, f1⟩ := HM.out.all; clear hs)
        | (go_at_call 29; (with_reducible refine Calls.mono (HX.out _) ?_); rintro e W3 ⟨rfl, hw3⟩; rw [hw3]; clear hw3))
  all_goals
    obtain ⟨rb, ro, hadr, r⟩ := HM.out.mb.inn.mc.at_ hpl
    have hx := HXX.out
    obtain ⟨d0, _, _⟩ := mc_at r hx
    clear r hx
    simp only [hadr] at *
    go_wp2_with fail
  all_goals
    go_ret
    exact ⟨by rw [HQ.out] <;> rfl, HM.out.mb.since⟩
set_option maxHeartbeats 4000000 in
theorem rname_racks {w : World} {p : MPl} {m : Mdl} (h : MdlIn w p m) (hsh : m.Short) (fn : Int) (he : exB fn (m.domains 2) = true) :
    Calls Try.prog 16 #[mdlVal p m, Fl.val ⟨2, fn⟩] w fun e w' => e = .returned (.string (namOf m ⟨2, fn⟩)) ∧ Same noB w w' := by
  have hmb := MB.start h
  have hz : (w.alloc (.cells (mdlCells p m) 29)).heap.size = w.heap.size + 1 := by simp
  have hfb := Blk.new (w.alloc (.cells (mdlCells p m) 29)) 31 #[.int .i64 2, .int .i64 fn]
  rw [hz] at hfb
  have hrow := hmb.inn.r.keep ((Same.refl noB _).alloc (.cells #[.int .i64 2, .int .i64 fn] 31))
  have hlen := h.lr
  have HMF : Hid (MF w ((w.alloc (.cells (mdlCells p m) 29)).alloc (.cells #[.int .i64 2, .int .i64 fn] 31)) p m ⟨2, fn⟩ w.heap.size (w.heap.size + 1)) := ⟨hmb.keep ((Same.refl _ _).alloc _), hfb⟩
  have hD : m.domains 2 = p.r.len := h.lr.symm
  rw [hD] at he
  obtain ⟨h1, h2⟩ := exB_iff.1 he
  have HX := Lib.hid (fun W => rexists_any fn p.r.len W)
  rw [he] at HX
  obtain ⟨k, rfl⟩ : ∃ k : Nat, fn = (k : Int) + 1 := ⟨(fn - 1).toNat, by omega⟩
  have hlt : k < p.r.len := by omega
  obtain ⟨x, hx⟩ : ∃ x, m.racks[k]? = some x := ⟨_, List.getElem?_eq_getElem (by omega)⟩
  have hxs : x.name.size ≤ 1000 := hsh.r x (List.mem_of_getElem? hx)
  have HQ : Hid (namOf m ⟨2, (k : Int) + 1⟩ = ⟨#[114, 97, 99, 107, 32]⟩ ++ x.name) := by
    show namOf m ⟨2, (k : Int) + 1⟩ = _
    unfold namOf
    rw [if_neg (by rintro ⟨e, _⟩; have e' : (2 : Int) = 0 := e; omega), if_neg (by simp only [hD, he]; decide)]
    simp only [show ((k : Int) + 1 - 1).toNat = k from by omega, hx]
    rfl
  obtain ⟨D, hDD⟩ : ∃ D, m.domains 2 = D := ⟨_, rfl⟩
  have HD := Lib.hid hDD
  rw [hD] at hDD
  rw [hDD] at HX
  have HXX := Lib.hid hx
  have hpl : 0 < p.r.len := by omega
  generalize namOf m ⟨2, (k : Int) + 1⟩ = qq at *
  have hk0 : (0 : Int) ≤ (k : Int) := Int.natCast_nonneg _
  have hk1 : (k : Int) < (p.r.len : Int) := by omega
  have hw1 : IntKind.i64.wrap ((k : Int) + 1 - 1) = (k : Int) := by
    rw [show (k : Int) + 1 - 1 = (k : Int) from by omega]
    have h3 := hmb.inn.r.caps
    exact IntWalk.i64_in _ ⟨by omega, by omega⟩
  have hw2 : IntKind.i64.wrap (k : Int) = (k : Int) := by have h3 := hmb.inn.r.caps; exact IntWalk.i64_in _ ⟨by omega, by omega⟩
  clear h hmb hz hfb hD he hrow hlen h1 h2 hsh hDD hx
  unfold mdlVal Fl.val
  unfold mdlCells at HMF
  simp only at *
  go_enter Try.func16, Try.ntmps16
  go_wp2_with fail
  refine wp_abs (fun W => Hid (MF w W p m ⟨2, (k : Int) + 1⟩ w.heap.size (w.heap.size + 1))) HMF ?_
  clear HMF
  generalize w.heap.size = M at *
  generalize M + 1 = G at *
  intro W HM0
  have HM := Lib.hid (HM0.out.keep ((Same.refl noB W).drew))
  obtain ⟨c0, c1, c2, c3, c4, c5, c6, c7, c8, c9, c10⟩ := HM0.out.mb.all
  obtain ⟨f0, f1⟩ := HM0.out.all
  have HS0 := Lib.hid HM0.out.mb.since
  clear HM0
  simp only at f0 f1
  go_region_held3 (fun w' => w'.cell? ⟨M, 0, none⟩ = some (.slice p.s.addr p.s.len p.s.cap) ∧ w'.cell? ⟨M, 1, none⟩ = some (.slice p.f.addr p.f.len p.f.cap) ∧ w'.cell? ⟨M, 2, none⟩ = some (.slice p.r.addr p.r.len p.r.cap) ∧ w'.cell? ⟨M, 3, none⟩ = some (.slice p.mc.addr p.mc.len p.mc.cap) ∧ w'.cell? ⟨M, 4, none⟩ = some (.slice p.l.addr p.l.len p.l.cap) ∧ w'.cell? ⟨M, 5, none⟩ = some (.slice p.i.addr p.i.len p.i.cap) ∧ w'.cell? ⟨M, 6, none⟩ = some (.int .i64 m.dark) ∧ w'.cell? ⟨M, 7, none⟩ = some (.int .i64 m.slots) ∧ w'.cell? ⟨M, 8, none⟩ = some (.int .i64 m.reserve) ∧ w'.cell? ⟨M, 9, none⟩ = some (.int .i64 m.failures) ∧ w'.cell? ⟨M, 10, none⟩ = some (.slice p.ru.addr p.ru.len p.ru.cap) ∧ w'.cell? ⟨G, 0, none⟩ = some (.int .i64 2) ∧ w'.cell? ⟨G, 1, none⟩ = some (.int .i64 ((k : Int) + 1)))
    (first | (refine ⟨?_, ?_, ?_, ?_, ?_, ?_, ?_, ?_, ?_, ?_, ?_, ?_, ?_⟩ <;> with_reducible assumption) | go_keep)
    (first
        | (go_at_call 36; have hZ := rdomains_any HM.out.mb.inn 2; unfold mdlVal at hZ; rw [HD.out] at hZ; (with_reducible refine Calls.mono hZ ?_); clear hZ; rintro e W2 ⟨rfl, hs⟩; have HM := Lib.hid (HM.out.keep hs); obtain ⟨c0, c1, c2, c3, c4, c5, c6, c7, c8, c9, c10⟩ := HM.out.mb.all; obtain ⟨f0, f1⟩ := HM.out.all; clear hs)
        | (go_at_call 29; (with_reducible refine Calls.mono (HX.out _) ?_); rintro e W3 ⟨rfl, hw3⟩; rw [hw3]; clear hw3))
  all_goals
    obtain ⟨rb, ro, hadr, r⟩ := HM.out.mb.inn.r.at_ hpl
    have hx := HXX.out
    obtain ⟨d0, _, _⟩ := rk_at r hx
    clear r hx
    simp only [hadr] at *
    go_wp2_with fail
  all_goals
    go_ret
    exact ⟨by rw [HQ.out] <;> rfl, HM.out.mb.since⟩
set_option maxHeartbeats 4000000 in
theorem rname_feeds {w : World} {p : MPl} {m : Mdl} (h : MdlIn w p m) (hsh : m.Short) (fn : Int) (he : exB fn (m.domains 3) = true) :
    Calls Try.prog 16 #[mdlVal p m, Fl.val ⟨3, fn⟩] w fun e w' => e = .returned (.string (namOf m ⟨3, fn⟩)) ∧ Same noB w w' := by
  have hmb := MB.start h
  have hz : (w.alloc (.cells (mdlCells p m) 29)).heap.size = w.heap.size + 1 := by simp
  have hfb := Blk.new (w.alloc (.cells (mdlCells p m) 29)) 31 #[.int .i64 3, .int .i64 fn]
  rw [hz] at hfb
  have hrow := hmb.inn.f.keep ((Same.refl noB _).alloc (.cells #[.int .i64 3, .int .i64 fn] 31))
  have hlen := h.lf
  have HMF : Hid (MF w ((w.alloc (.cells (mdlCells p m) 29)).alloc (.cells #[.int .i64 3, .int .i64 fn] 31)) p m ⟨3, fn⟩ w.heap.size (w.heap.size + 1)) := ⟨hmb.keep ((Same.refl _ _).alloc _), hfb⟩
  have hD : m.domains 3 = p.f.len := h.lf.symm
  rw [hD] at he
  obtain ⟨h1, h2⟩ := exB_iff.1 he
  have HX := Lib.hid (fun W => rexists_any fn p.f.len W)
  rw [he] at HX
  obtain ⟨k, rfl⟩ : ∃ k : Nat, fn = (k : Int) + 1 := ⟨(fn - 1).toNat, by omega⟩
  have hlt : k < p.f.len := by omega
  obtain ⟨x, hx⟩ : ∃ x, m.feeds[k]? = some x := ⟨_, List.getElem?_eq_getElem (by omega)⟩
  have hxs : x.size ≤ 1000 := hsh.f x (List.mem_of_getElem? hx)
  have HQ : Hid (namOf m ⟨3, (k : Int) + 1⟩ = ⟨#[102, 101, 101, 100, 32]⟩ ++ x) := by
    show namOf m ⟨3, (k : Int) + 1⟩ = _
    unfold namOf
    rw [if_neg (by rintro ⟨e, _⟩; have e' : (3 : Int) = 0 := e; omega), if_neg (by simp only [hD, he]; decide)]
    simp only [show ((k : Int) + 1 - 1).toNat = k from by omega, hx]
    rfl
  obtain ⟨D, hDD⟩ : ∃ D, m.domains 3 = D := ⟨_, rfl⟩
  have HD := Lib.hid hDD
  rw [hD] at hDD
  rw [hDD] at HX
  have HXX := Lib.hid hx
  have hpl : 0 < p.f.len := by omega
  generalize namOf m ⟨3, (k : Int) + 1⟩ = qq at *
  have hk0 : (0 : Int) ≤ (k : Int) := Int.natCast_nonneg _
  have hk1 : (k : Int) < (p.f.len : Int) := by omega
  have hw1 : IntKind.i64.wrap ((k : Int) + 1 - 1) = (k : Int) := by
    rw [show (k : Int) + 1 - 1 = (k : Int) from by omega]
    have h3 := hmb.inn.f.caps
    exact IntWalk.i64_in _ ⟨by omega, by omega⟩
  have hw2 : IntKind.i64.wrap (k : Int) = (k : Int) := by have h3 := hmb.inn.f.caps; exact IntWalk.i64_in _ ⟨by omega, by omega⟩
  clear h hmb hz hfb hD he hrow hlen h1 h2 hsh hDD hx
  unfold mdlVal Fl.val
  unfold mdlCells at HMF
  simp only at *
  go_enter Try.func16, Try.ntmps16
  go_wp2_with fail
  refine wp_abs (fun W => Hid (MF w W p m ⟨3, (k : Int) + 1⟩ w.heap.size (w.heap.size + 1))) HMF ?_
  clear HMF
  generalize w.heap.size = M at *
  generalize M + 1 = G at *
  intro W HM0
  have HM := Lib.hid (HM0.out.keep ((Same.refl noB W).drew))
  obtain ⟨c0, c1, c2, c3, c4, c5, c6, c7, c8, c9, c10⟩ := HM0.out.mb.all
  obtain ⟨f0, f1⟩ := HM0.out.all
  have HS0 := Lib.hid HM0.out.mb.since
  clear HM0
  simp only at f0 f1
  go_region_held3 (fun w' => w'.cell? ⟨M, 0, none⟩ = some (.slice p.s.addr p.s.len p.s.cap) ∧ w'.cell? ⟨M, 1, none⟩ = some (.slice p.f.addr p.f.len p.f.cap) ∧ w'.cell? ⟨M, 2, none⟩ = some (.slice p.r.addr p.r.len p.r.cap) ∧ w'.cell? ⟨M, 3, none⟩ = some (.slice p.mc.addr p.mc.len p.mc.cap) ∧ w'.cell? ⟨M, 4, none⟩ = some (.slice p.l.addr p.l.len p.l.cap) ∧ w'.cell? ⟨M, 5, none⟩ = some (.slice p.i.addr p.i.len p.i.cap) ∧ w'.cell? ⟨M, 6, none⟩ = some (.int .i64 m.dark) ∧ w'.cell? ⟨M, 7, none⟩ = some (.int .i64 m.slots) ∧ w'.cell? ⟨M, 8, none⟩ = some (.int .i64 m.reserve) ∧ w'.cell? ⟨M, 9, none⟩ = some (.int .i64 m.failures) ∧ w'.cell? ⟨M, 10, none⟩ = some (.slice p.ru.addr p.ru.len p.ru.cap) ∧ w'.cell? ⟨G, 0, none⟩ = some (.int .i64 3) ∧ w'.cell? ⟨G, 1, none⟩ = some (.int .i64 ((k : Int) + 1)))
    (first | (refine ⟨?_, ?_, ?_, ?_, ?_, ?_, ?_, ?_, ?_, ?_, ?_, ?_, ?_⟩ <;> with_reducible assumption) | go_keep)
    (first
        | (go_at_call 36; have hZ := rdomains_any HM.out.mb.inn 3; unfold mdlVal at hZ; rw [HD.out] at hZ; (with_reducible refine Calls.mono hZ ?_); clear hZ; rintro e W2 ⟨rfl, hs⟩; have HM := Lib.hid (HM.out.keep hs); obtain ⟨c0, c1, c2, c3, c4, c5, c6, c7, c8, c9, c10⟩ := HM.out.mb.all; obtain ⟨f0, f1⟩ := HM.out.all; clear hs)
        | (go_at_call 29; (with_reducible refine Calls.mono (HX.out _) ?_); rintro e W3 ⟨rfl, hw3⟩; rw [hw3]; clear hw3))
  all_goals
    obtain ⟨rb, ro, hadr, r⟩ := HM.out.mb.inn.f.at_ hpl
    have hx := HXX.out
    have d0 := s_at r hx
    clear r hx
    simp only [hadr] at *
    go_wp2_with fail
  all_goals
    go_ret
    exact ⟨by rw [HQ.out] <;> rfl, HM.out.mb.since⟩
set_option maxHeartbeats 4000000 in
theorem rname_sites {w : World} {p : MPl} {m : Mdl} (h : MdlIn w p m) (hsh : m.Short) (fn : Int) (he : exB fn (m.domains 4) = true) :
    Calls Try.prog 16 #[mdlVal p m, Fl.val ⟨4, fn⟩] w fun e w' => e = .returned (.string (namOf m ⟨4, fn⟩)) ∧ Same noB w w' := by
  have hmb := MB.start h
  have hz : (w.alloc (.cells (mdlCells p m) 29)).heap.size = w.heap.size + 1 := by simp
  have hfb := Blk.new (w.alloc (.cells (mdlCells p m) 29)) 31 #[.int .i64 4, .int .i64 fn]
  rw [hz] at hfb
  have hrow := hmb.inn.s.keep ((Same.refl noB _).alloc (.cells #[.int .i64 4, .int .i64 fn] 31))
  have hlen := h.ls
  have HMF : Hid (MF w ((w.alloc (.cells (mdlCells p m) 29)).alloc (.cells #[.int .i64 4, .int .i64 fn] 31)) p m ⟨4, fn⟩ w.heap.size (w.heap.size + 1)) := ⟨hmb.keep ((Same.refl _ _).alloc _), hfb⟩
  have hD : m.domains 4 = p.s.len := h.ls.symm
  rw [hD] at he
  obtain ⟨h1, h2⟩ := exB_iff.1 he
  have HX := Lib.hid (fun W => rexists_any fn p.s.len W)
  rw [he] at HX
  obtain ⟨k, rfl⟩ : ∃ k : Nat, fn = (k : Int) + 1 := ⟨(fn - 1).toNat, by omega⟩
  have hlt : k < p.s.len := by omega
  obtain ⟨x, hx⟩ : ∃ x, m.sites[k]? = some x := ⟨_, List.getElem?_eq_getElem (by omega)⟩
  have hxs : x.size ≤ 1000 := hsh.s x (List.mem_of_getElem? hx)
  have HQ : Hid (namOf m ⟨4, (k : Int) + 1⟩ = ⟨#[115, 105, 116, 101, 32]⟩ ++ x) := by
    show namOf m ⟨4, (k : Int) + 1⟩ = _
    unfold namOf
    rw [if_neg (by rintro ⟨e, _⟩; have e' : (4 : Int) = 0 := e; omega), if_neg (by simp only [hD, he]; decide)]
    simp only [show ((k : Int) + 1 - 1).toNat = k from by omega, hx]
    rfl
  obtain ⟨D, hDD⟩ : ∃ D, m.domains 4 = D := ⟨_, rfl⟩
  have HD := Lib.hid hDD
  rw [hD] at hDD
  rw [hDD] at HX
  have HXX := Lib.hid hx
  have hpl : 0 < p.s.len := by omega
  generalize namOf m ⟨4, (k : Int) + 1⟩ = qq at *
  have hk0 : (0 : Int) ≤ (k : Int) := Int.natCast_nonneg _
  have hk1 : (k : Int) < (p.s.len : Int) := by omega
  have hw1 : IntKind.i64.wrap ((k : Int) + 1 - 1) = (k : Int) := by
    rw [show (k : Int) + 1 - 1 = (k : Int) from by omega]
    have h3 := hmb.inn.s.caps
    exact IntWalk.i64_in _ ⟨by omega, by omega⟩
  have hw2 : IntKind.i64.wrap (k : Int) = (k : Int) := by have h3 := hmb.inn.s.caps; exact IntWalk.i64_in _ ⟨by omega, by omega⟩
  clear h hmb hz hfb hD he hrow hlen h1 h2 hsh hDD hx
  unfold mdlVal Fl.val
  unfold mdlCells at HMF
  simp only at *
  go_enter Try.func16, Try.ntmps16
  go_wp2_with fail
  refine wp_abs (fun W => Hid (MF w W p m ⟨4, (k : Int) + 1⟩ w.heap.size (w.heap.size + 1))) HMF ?_
  clear HMF
  generalize w.heap.size = M at *
  generalize M + 1 = G at *
  intro W HM0
  have HM := Lib.hid (HM0.out.keep ((Same.refl noB W).drew))
  obtain ⟨c0, c1, c2, c3, c4, c5, c6, c7, c8, c9, c10⟩ := HM0.out.mb.all
  obtain ⟨f0, f1⟩ := HM0.out.all
  have HS0 := Lib.hid HM0.out.mb.since
  clear HM0
  simp only at f0 f1
  go_region_held3 (fun w' => w'.cell? ⟨M, 0, none⟩ = some (.slice p.s.addr p.s.len p.s.cap) ∧ w'.cell? ⟨M, 1, none⟩ = some (.slice p.f.addr p.f.len p.f.cap) ∧ w'.cell? ⟨M, 2, none⟩ = some (.slice p.r.addr p.r.len p.r.cap) ∧ w'.cell? ⟨M, 3, none⟩ = some (.slice p.mc.addr p.mc.len p.mc.cap) ∧ w'.cell? ⟨M, 4, none⟩ = some (.slice p.l.addr p.l.len p.l.cap) ∧ w'.cell? ⟨M, 5, none⟩ = some (.slice p.i.addr p.i.len p.i.cap) ∧ w'.cell? ⟨M, 6, none⟩ = some (.int .i64 m.dark) ∧ w'.cell? ⟨M, 7, none⟩ = some (.int .i64 m.slots) ∧ w'.cell? ⟨M, 8, none⟩ = some (.int .i64 m.reserve) ∧ w'.cell? ⟨M, 9, none⟩ = some (.int .i64 m.failures) ∧ w'.cell? ⟨M, 10, none⟩ = some (.slice p.ru.addr p.ru.len p.ru.cap) ∧ w'.cell? ⟨G, 0, none⟩ = some (.int .i64 4) ∧ w'.cell? ⟨G, 1, none⟩ = some (.int .i64 ((k : Int) + 1)))
    (first | (refine ⟨?_, ?_, ?_, ?_, ?_, ?_, ?_, ?_, ?_, ?_, ?_, ?_, ?_⟩ <;> with_reducible assumption) | go_keep)
    (first
        | (go_at_call 36; have hZ := rdomains_any HM.out.mb.inn 4; unfold mdlVal at hZ; rw [HD.out] at hZ; (with_reducible refine Calls.mono hZ ?_); clear hZ; rintro e W2 ⟨rfl, hs⟩; have HM := Lib.hid (HM.out.keep hs); obtain ⟨c0, c1, c2, c3, c4, c5, c6, c7, c8, c9, c10⟩ := HM.out.mb.all; obtain ⟨f0, f1⟩ := HM.out.all; clear hs)
        | (go_at_call 29; (with_reducible refine Calls.mono (HX.out _) ?_); rintro e W3 ⟨rfl, hw3⟩; rw [hw3]; clear hw3))
  all_goals
    obtain ⟨rb, ro, hadr, r⟩ := HM.out.mb.inn.s.at_ hpl
    have hx := HXX.out
    have d0 := s_at r hx
    clear r hx
    simp only [hadr] at *
    go_wp2_with fail
  all_goals
    go_ret
    exact ⟨by rw [HQ.out] <;> rfl, HM.out.mb.since⟩
theorem rname_any {w : World} {p : MPl} {m : Mdl} (h : MdlIn w p m) (hs : m.Short) (f : Fl) :
    Calls Try.prog 16 #[mdlVal p m, f.val] w fun e w' => e = .returned (.string (namOf m f)) ∧ Same noB w w' := by
  obtain ⟨fb, fn⟩ := f
  by_cases h0 : fb = 0 ∧ fn = 0
  · obtain ⟨rfl, rfl⟩ := h0
    have hmb := MB.start h
    have HMF : Hid (Same noB w ((w.alloc (.cells (mdlCells p m) 29)).alloc (.cells #[.int .i64 0, .int .i64 0] 31))) := hmb.since.trans' ((Same.refl _ _).alloc _)
    clear h hmb hs
    unfold mdlVal Fl.val
    unfold mdlCells at HMF
    go_enter Try.func16, Try.ntmps16
    go_wp2_with fail
    go_ret
    exact ⟨rfl, HMF.out⟩
  · cases he : exB fn (m.domains fb)
    · exact rname_no h fb fn h0 he
    · by_cases e1 : fb = 1
      · subst e1; exact rname_machines h hs fn he
      by_cases e2 : fb = 2
      · subst e2; exact rname_racks h hs fn he
      by_cases e3 : fb = 3
      · subst e3; exact rname_feeds h hs fn he
      by_cases e4 : fb = 4
      · subst e4; exact rname_sites h hs fn he
      exfalso
      have hd : m.domains fb = 0 := by
        unfold Mdl.domains
        simp [e1, e2, e3, e4]
      rw [hd] at he
      obtain ⟨q1, q2⟩ := exB_iff.1 he
      omega
end Go.Proofs.Ytpngmodgnkjhnaa
