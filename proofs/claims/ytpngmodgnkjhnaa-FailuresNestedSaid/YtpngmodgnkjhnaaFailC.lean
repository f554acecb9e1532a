/- Layer 21: Hits and Covers, of the program and of the reference. (printed by genFailC.py) -/
import Derived.Test.YtpngmodgnkjhnaaSiteE
import Derived.Test.YtpngmodgnkjhnaaFailB
namespace Go.Proofs.Ytpngmodgnkjhnaa
open Go Go.RowKit Go.Maps
set_option maxRecDepth 100000

def hitB (m : Mdl) (f : Fl) (n : Int) : Bool := decide (1 ≤ f.num) && m.domain f.by_ n == f.num
/-- A model and a failure in their boxes. -/
structure MF (w0 W : World) (p : MPl) (m : Mdl) (f : Fl) (M G : Nat) : Prop where
  mb : MB w0 W p m M
  fb : Blk W G 31 #[.int .i64 f.by_, .int .i64 f.num]
theorem MF.keep {w0 W W' : World} {p : MPl} {m : Mdl} {f : Fl} {M G : Nat} (h : MF w0 W p m f M G) (hs : Same noB W W') : MF w0 W' p m f M G := ⟨h.mb.keep hs, h.fb.same hs (fun x => x)⟩
theorem MF.all {w0 W : World} {p : MPl} {m : Mdl} {f : Fl} {M G : Nat} (h : MF w0 W p m f M G) : W.cell? ⟨G, 0, none⟩ = some (.int .i64 f.by_) ∧ W.cell? ⟨G, 1, none⟩ = some (.int .i64 f.num) := ⟨h.fb.cell 0, h.fb.cell 1⟩


set_option maxHeartbeats 4000000 in
theorem hits_any {w : World} {p : MPl} {m : Mdl} (h : MdlIn w p m) (f : Fl) (hb : inI64 f.by_) (n : Int) :
    Calls Try.prog 23 #[mdlVal p m, f.val, .int .i64 n] w fun e w' => e = .returned (.bool (hitB m f n)) ∧ Same noB w w' := by
  have hmb := MB.start h
  have hz : (w.alloc (.cells (mdlCells p m) 29)).heap.size = w.heap.size + 1 := by simp
  have hfb := Blk.new (w.alloc (.cells (mdlCells p m) 29)) 31 #[.int .i64 f.by_, .int .i64 f.num]
  rw [hz] at hfb
  have HMF : Hid (MF w ((w.alloc (.cells (mdlCells p m) 29)).alloc (.cells #[.int .i64 f.by_, .int .i64 f.num] 31)) p m f w.heap.size (w.heap.size + 1)) := ⟨hmb.keep ((Same.refl _ _).alloc _), hfb⟩
  have Hb := Lib.hid hb
  have HQ : Hid (hitB m f n = (decide (1 ≤ f.num) && m.domain f.by_ n == f.num)) := rfl
  generalize hitB m f n = q at *
  clear h hb hmb hfb hz
  unfold mdlVal Fl.val
  unfold mdlCells at HMF
  go_enter Try.func23, Try.ntmps23
  go_wp2_with fail
  refine wp_abs (fun W => Hid (MF w W p m f w.heap.size (w.heap.size + 1))) HMF ?_
  clear HMF
  generalize w.heap.size = M at *
  generalize M + 1 = G at *
  intro W HM0
  have HM := Lib.hid (HM0.out.keep ((Same.refl noB W).drew))
  obtain ⟨c0, c1, c2, c3, c4, c5, c6, c7, c8, c9, c10⟩ := HM0.out.mb.all
  obtain ⟨f0, f1⟩ := HM0.out.all
  have HS0 := Lib.hid HM0.out.mb.since
  clear HM0
  obtain ⟨fb, fn⟩ := f
  simp only at *
  by_cases h1 : 1 ≤ fn
  · have d1 : decide (1 ≤ fn) = true := decide_eq_true h1
    obtain ⟨dd, hdd⟩ : ∃ dd, m.domain fb n = dd := ⟨_, rfl⟩
    have HDD := Lib.hid hdd
    clear hdd
    go_region_held3 (fun w' => w'.cell? ⟨M, 0, none⟩ = some (.slice p.s.addr p.s.len p.s.cap) ∧ w'.cell? ⟨M, 1, none⟩ = some (.slice p.f.addr p.f.len p.f.cap) ∧ w'.cell? ⟨M, 2, none⟩ = some (.slice p.r.addr p.r.len p.r.cap) ∧ w'.cell? ⟨M, 3, none⟩ = some (.slice p.mc.addr p.mc.len p.mc.cap) ∧ w'.cell? ⟨M, 4, none⟩ = some (.slice p.l.addr p.l.len p.l.cap) ∧ w'.cell? ⟨M, 5, none⟩ = some (.slice p.i.addr p.i.len p.i.cap) ∧ w'.cell? ⟨M, 6, none⟩ = some (.int .i64 m.dark) ∧ w'.cell? ⟨M, 7, none⟩ = some (.int .i64 m.slots) ∧ w'.cell? ⟨M, 8, none⟩ = some (.int .i64 m.reserve) ∧ w'.cell? ⟨M, 9, none⟩ = some (.int .i64 m.failures) ∧ w'.cell? ⟨M, 10, none⟩ = some (.slice p.ru.addr p.ru.len p.ru.cap) ∧ w'.cell? ⟨G, 0, none⟩ = some (.int .i64 fb) ∧ w'.cell? ⟨G, 1, none⟩ = some (.int .i64 fn))
      (first | (refine ⟨?_, ?_, ?_, ?_, ?_, ?_, ?_, ?_, ?_, ?_, ?_, ?_, ?_⟩ <;> with_reducible assumption) | go_keep)
      ((go_at_call 43; have hZ := domain_any (by_ := fb) (i := n) HM.out.mb.inn Hb.out; unfold mdlVal at hZ; rw [HDD.out] at hZ; (with_reducible refine Calls.mono hZ ?_); clear hZ; rintro e W2 ⟨rfl, hs⟩; have HM := Lib.hid (HM.out.keep hs); obtain ⟨c0, c1, c2, c3, c4, c5, c6, c7, c8, c9, c10⟩ := HM.out.mb.all; obtain ⟨f0, f1⟩ := HM.out.all; clear hs))
    all_goals go_wp2_with fail
    all_goals
      go_ret
      exact ⟨by rw [HQ.out, HDD.out, d1]; rfl, HM.out.mb.since⟩
  · have d1 : decide (1 ≤ fn) = false := decide_eq_false h1
    clear h1
    go_quiet (fail)
    all_goals go_wp2_with fail
    all_goals
      go_ret
      exact ⟨by rw [HQ.out, d1]; rfl, by first | exact HS0.out.drew | exact HS0.out.drewN _⟩


set_option maxHeartbeats 4000000 in
theorem rhits_any {w : World} {p : MPl} {m : Mdl} (h : MdlIn w p m) (f : Fl) (hb : inI64 f.by_) (n : Int) :
    Calls Try.prog 25 #[mdlVal p m, f.val, .int .i64 n] w fun e w' => e = .returned (.bool (hitB m f n)) ∧ Same noB w w' := by
  have hmb := MB.start h
  have hz : (w.alloc (.cells (mdlCells p m) 29)).heap.size = w.heap.size + 1 := by simp
  have hfb := Blk.new (w.alloc (.cells (mdlCells p m) 29)) 31 #[.int .i64 f.by_, .int .i64 f.num]
  rw [hz] at hfb
  have HMF : Hid (MF w ((w.alloc (.cells (mdlCells p m) 29)).alloc (.cells #[.int .i64 f.by_, .int .i64 f.num] 31)) p m f w.heap.size (w.heap.size + 1)) := ⟨hmb.keep ((Same.refl _ _).alloc _), hfb⟩
  have Hb := Lib.hid hb
  have HQ : Hid (hitB m f n = (decide (1 ≤ f.num) && m.domain f.by_ n == f.num)) := rfl
  generalize hitB m f n = q at *
  clear h hb hmb hfb hz
  unfold mdlVal Fl.val
  unfold mdlCells at HMF
  go_enter Try.func25, Try.ntmps25
  go_wp2_with fail
  refine wp_abs (fun W => Hid (MF w W p m f w.heap.size (w.heap.size + 1))) HMF ?_
  clear HMF
  generalize w.heap.size = M at *
  generalize M + 1 = G at *
  intro W HM0
  have HM := Lib.hid (HM0.out.keep ((Same.refl noB W).drew))
  obtain ⟨c0, c1, c2, c3, c4, c5, c6, c7, c8, c9, c10⟩ := HM0.out.mb.all
  obtain ⟨f0, f1⟩ := HM0.out.all
  have HS0 := Lib.hid HM0.out.mb.since
  clear HM0
  obtain ⟨fb, fn⟩ := f
  simp only at *
  by_cases h1 : 1 ≤ fn
  · have d1 : decide (1 ≤ fn) = true := decide_eq_true h1
    obtain ⟨dd, hdd⟩ : ∃ dd, m.domain fb n = dd := ⟨_, rfl⟩
    have HDD := Lib.hid hdd
    clear hdd
    go_region_held3 (fun w' => w'.cell? ⟨M, 0, none⟩ = some (.slice p.s.addr p.s.len p.s.cap) ∧ w'.cell? ⟨M, 1, none⟩ = some (.slice p.f.addr p.f.len p.f.cap) ∧ w'.cell? ⟨M, 2, none⟩ = some (.slice p.r.addr p.r.len p.r.cap) ∧ w'.cell? ⟨M, 3, none⟩ = some (.slice p.mc.addr p.mc.len p.mc.cap) ∧ w'.cell? ⟨M, 4, none⟩ = some (.slice p.l.addr p.l.len p.l.cap) ∧ w'.cell? ⟨M, 5, none⟩ = some (.slice p.i.addr p.i.len p.i.cap) ∧ w'.cell? ⟨M, 6, none⟩ = some (.int .i64 m.dark) ∧ w'.cell? ⟨M, 7, none⟩ = some (.int .i64 m.slots) ∧ w'.cell? ⟨M, 8, none⟩ = some (.int .i64 m.reserve) ∧ w'.cell? ⟨M, 9, none⟩ = some (.int .i64 m.failures) ∧ w'.cell? ⟨M, 10, none⟩ = some (.slice p.ru.addr p.ru.len p.ru.cap) ∧ w'.cell? ⟨G, 0, none⟩ = some (.int .i64 fb) ∧ w'.cell? ⟨G, 1, none⟩ = some (.int .i64 fn))
      (first | (refine ⟨?_, ?_, ?_, ?_, ?_, ?_, ?_, ?_, ?_, ?_, ?_, ?_, ?_⟩ <;> with_reducible assumption) | go_keep)
      ((go_at_call 44; have hZ := rdomain_any HM.out.mb.inn fb n; unfold mdlVal at hZ; rw [HDD.out] at hZ; (with_reducible refine Calls.mono hZ ?_); clear hZ; rintro e W2 ⟨rfl, hs⟩; have HM := Lib.hid (HM.out.keep hs); obtain ⟨c0, c1, c2, c3, c4, c5, c6, c7, c8, c9, c10⟩ := HM.out.mb.all; obtain ⟨f0, f1⟩ := HM.out.all; clear hs))
    all_goals go_wp2_with fail
    all_goals
      go_ret
      exact ⟨by rw [HQ.out, HDD.out, d1]; rfl, HM.out.mb.since⟩
  · have d1 : decide (1 ≤ fn) = false := decide_eq_false h1
    clear h1
    go_quiet (fail)
    all_goals go_wp2_with fail
    all_goals
      go_ret
      exact ⟨by rw [HQ.out, d1]; rfl, by first | exact HS0.out.drew | exact HS0.out.drewN _⟩


def okB (m : Mdl) (f g : Fl) (i : Nat) : Bool := !hitB m g ((i : Int) + 1) || hitB m f ((i : Int) + 1)
def coverB (m : Mdl) (f g : Fl) : Bool := (List.range m.machines.length).all (okB m f g)
theorem coverB_yes {m : Mdl} {f g : Fl} (h : ∀ i, i < m.machines.length → okB m f g i = true) : coverB m f g = true := by
  unfold coverB
  rw [List.all_eq_true]
  intro i hi
  exact h i (List.mem_range.1 hi)
theorem coverB_no {m : Mdl} {f g : Fl} {i : Nat} (hi : i < m.machines.length) (h : okB m f g i = false) : coverB m f g = false := by
  unfold coverB
  rw [List.all_eq_false]
  exact ⟨i, List.mem_range.2 hi, by rw [h]; simp⟩

set_option maxHeartbeats 4000000 in
theorem covers_any {w : World} {p : MPl} {m : Mdl} (h : MdlIn w p m) (f g : Fl) (hf : inI64 f.by_) (hg : inI64 g.by_) (hlen : m.machines.length ≤ 1000000) :
    Calls Try.prog 26 #[mdlVal p m, f.val, g.val] w fun e w' => e = .returned (.bool (coverB m f g)) ∧ Same noB w w' := by
  have hmb := MB.start h
  have hz : (w.alloc (.cells (mdlCells p m) 29)).heap.size = w.heap.size + 1 := by simp
  have hz2 : ((w.alloc (.cells (mdlCells p m) 29)).alloc (.cells #[.int .i64 f.by_, .int .i64 f.num] 31)).heap.size = w.heap.size + 1 + 1 := by simp
  have hfb := Blk.new (w.alloc (.cells (mdlCells p m) 29)) 31 #[.int .i64 f.by_, .int .i64 f.num]
  have hgb := Blk.new ((w.alloc (.cells (mdlCells p m) 29)).alloc (.cells #[.int .i64 f.by_, .int .i64 f.num] 31)) 31 #[.int .i64 g.by_, .int .i64 g.num]
  rw [hz] at hfb
  rw [hz2] at hgb
  have HMF : Hid (MF w (((w.alloc (.cells (mdlCells p m) 29)).alloc (.cells #[.int .i64 f.by_, .int .i64 f.num] 31)).alloc (.cells #[.int .i64 g.by_, .int .i64 g.num] 31)) p m f w.heap.size (w.heap.size + 1) ∧
    Blk (((w.alloc (.cells (mdlCells p m) 29)).alloc (.cells #[.int .i64 f.by_, .int .i64 f.num] 31)).alloc (.cells #[.int .i64 g.by_, .int .i64 g.num] 31)) (w.heap.size + 1 + 1) 31 #[.int .i64 g.by_, .int .i64 g.num]) :=
    ⟨⟨hmb.keep (((Same.refl _ _).alloc _).alloc _), hfb.alloc _⟩, hgb⟩
  have Hf := Lib.hid hf
  have Hg := Lib.hid hg
  have HLN := Lib.hid h.lm
  have hN : p.mc.len ≤ 1000000 := by rw [HLN.out]; exact hlen
  have HQ1 : Hid ((∀ i, i < p.mc.len → okB m f g i = true) → coverB m f g = true) := fun h => coverB_yes (by rw [← HLN.out]; exact h)
  have HQ2 : Hid (∀ i, i < p.mc.len → okB m f g i = false → coverB m f g = false) := fun i hi h => coverB_no (by rw [← HLN.out]; exact hi) h
  generalize coverB m f g = q at *
  clear h hf hg hlen hmb hfb hgb hz hz2
  obtain ⟨fb, fn⟩ := f
  obtain ⟨gb, gn⟩ := g
  unfold mdlVal Fl.val
  unfold mdlCells at HMF
  simp only at *
  go_enter Try.func26, Try.ntmps26
  go_wp2_with fail
  refine wp_abs (fun W => Hid (MF w W p m ⟨fb, fn⟩ w.heap.size (w.heap.size + 1) ∧ Blk W (w.heap.size + 1 + 1) 31 #[.int .i64 gb, .int .i64 gn])) HMF ?_
  clear HMF
  generalize w.heap.size = M at *
  generalize hG : M + 1 = G at *
  clear hG
  generalize hG2 : G + 1 = G2 at *
  clear hG2
  intro W HM0
  have c3 := HM0.out.1.mb.c3
  go_wp2_with fail
  clear c3
  go_loopw [11] (fun i wr => ∃ t : Nat, t ≤ p.mc.len ∧ i = .int .i64 t ∧ Hid ((∀ i, i < t → okB m ⟨fb, fn⟩ ⟨gb, gn⟩ i = true) ∧ MF w wr p m ⟨fb, fn⟩ M G ∧ Blk wr G2 31 #[.int .i64 gb, .int .i64 gn])) (fun i _ => p.mc.len - (intOf i).toNat)
  case atStart => exact ⟨0, Nat.zero_le _, rfl, fun i hi => absurd hi (by omega), HM0.out⟩
  case round =>
    obtain ⟨t, ht, rfl, HT⟩ := hrel
    clear HM0
    by_cases hlt : t < p.mc.len
    · obtain ⟨c0, c1, c2, c3, c4, c5, c6, c7, c8, c9, c10⟩ := HT.out.2.1.mb.all
      obtain ⟨f0, f1⟩ := HT.out.2.1.all
      have g0 : wr.cell? ⟨G2, 0, none⟩ = some (.int .i64 gb) := HT.out.2.2.cell 0
      have g1 : wr.cell? ⟨G2, 1, none⟩ = some (.int .i64 gn) := HT.out.2.2.cell 1
      have HOK : Hid (okB m ⟨fb, fn⟩ ⟨gb, gn⟩ t = (!hitB m ⟨gb, gn⟩ ((t : Int) + 1) || hitB m ⟨fb, fn⟩ ((t : Int) + 1))) := rfl
      go_wp2_with fail
      have hZ := hits_any HT.out.2.1.mb.inn ⟨gb, gn⟩ Hg.out ((t : Int) + 1)
      unfold mdlVal Fl.val at hZ
      simp only at hZ
      (with_reducible refine Calls.mono hZ ?_)
      clear hZ
      rintro e W5 ⟨rfl, hs⟩
      have HT5 : Hid ((∀ i, i < t → okB m ⟨fb, fn⟩ ⟨gb, gn⟩ i = true) ∧ MF w W5 p m ⟨fb, fn⟩ M G ∧ Blk W5 G2 31 #[.int .i64 gb, .int .i64 gn]) := ⟨HT.out.1, HT.out.2.1.keep hs, HT.out.2.2.same hs (fun x => x)⟩
      clear hs HT c0 c1 c2 c3 c4 c5 c6 c7 c8 c9 c10 f0 f1 g0 g1
      cases hhg : hitB m ⟨gb, gn⟩ ((t : Int) + 1)
      · have HO1 : Hid (okB m ⟨fb, fn⟩ ⟨gb, gn⟩ t = true) := by show okB _ _ _ _ = _; rw [HOK.out, hhg]; rfl
        have HT6 : Hid ((∀ i, i < t + 1 → okB m ⟨fb, fn⟩ ⟨gb, gn⟩ i = true) ∧ MF w W5 p m ⟨fb, fn⟩ M G ∧ Blk W5 G2 31 #[.int .i64 gb, .int .i64 gn]) := ⟨fun i hi => by
          by_cases e : i = t
          · rw [e]; exact HO1.out
          · exact HT5.out.1 i (by omega), HT5.out.2⟩
        clear hhg
        go_wp2_with fail
        go_roundw
        case rel => exact ⟨t + 1, by omega, by go_num, HT6.out⟩
        case measure => simp [intOf]; omega
      · obtain ⟨c0, c1, c2, c3, c4, c5, c6, c7, c8, c9, c10⟩ := HT5.out.2.1.mb.all
        obtain ⟨f0, f1⟩ := HT5.out.2.1.all
        have HHG := Lib.hid hhg
        clear hhg
        go_wp2_with fail
        have hZ := hits_any HT5.out.2.1.mb.inn ⟨fb, fn⟩ Hf.out ((t : Int) + 1)
        unfold mdlVal Fl.val at hZ
        simp only at hZ
        (with_reducible refine Calls.mono hZ ?_)
        clear hZ
        rintro e W6 ⟨rfl, hs⟩
        have HT6 : Hid (MF w W6 p m ⟨fb, fn⟩ M G ∧ Blk W6 G2 31 #[.int .i64 gb, .int .i64 gn]) := ⟨HT5.out.2.1.keep hs, HT5.out.2.2.same hs (fun x => x)⟩
        clear hs c0 c1 c2 c3 c4 c5 c6 c7 c8 c9 c10 f0 f1
        cases hhf : hitB m ⟨fb, fn⟩ ((t : Int) + 1)
        · have HO1 : Hid (q = false) := HQ2.out t hlt (by rw [HOK.out, HHG.out, hhf]; rfl)
          clear hhf
          go_wp2_with fail
          go_ret
          exact ⟨by rw [HO1.out] <;> rfl, HT6.out.1.mb.since⟩
        · have HO1 : Hid (okB m ⟨fb, fn⟩ ⟨gb, gn⟩ t = true) := by show okB _ _ _ _ = _; rw [HOK.out, hhf]; simp
          have HT7 : Hid ((∀ i, i < t + 1 → okB m ⟨fb, fn⟩ ⟨gb, gn⟩ i = true) ∧ MF w W6 p m ⟨fb, fn⟩ M G ∧ Blk W6 G2 31 #[.int .i64 gb, .int .i64 gn]) := ⟨fun i hi => by
            by_cases e : i = t
            · rw [e]; exact HO1.out
            · exact HT5.out.1 i (by omega), HT6.out⟩
          clear hhf
          go_wp2_with fail
          go_roundw
          case rel => exact ⟨t + 1, by omega, by go_num, HT7.out⟩
          case measure => simp [intOf]; omega
    · obtain rfl : t = p.mc.len := by omega
      have HO1 : Hid (q = true) := HQ1.out HT.out.1
      have c3 := HT.out.2.1.mb.c3
      go_wp2_with fail
      go_ret
      exact ⟨by rw [HO1.out] <;> rfl, HT.out.2.1.mb.since⟩

set_option maxHeartbeats 4000000 in
theorem rcovers_any {w : World} {p : MPl} {m : Mdl} (h : MdlIn w p m) (f g : Fl) (hf : inI64 f.by_) (hg : inI64 g.by_) (hlen : m.machines.length ≤ 1000000) :
    Calls Try.prog 27 #[mdlVal p m, f.val, g.val] w fun e w' => e = .returned (.bool (coverB m f g)) ∧ Same noB w w' := by
  have hmb := MB.start h
  have hz : (w.alloc (.cells (mdlCells p m) 29)).heap.size = w.heap.size + 1 := by simp
  have hz2 : ((w.alloc (.cells (mdlCells p m) 29)).alloc (.cells #[.int .i64 f.by_, .int .i64 f.num] 31)).heap.size = w.heap.size + 1 + 1 := by simp
  have hfb := Blk.new (w.alloc (.cells (mdlCells p m) 29)) 31 #[.int .i64 f.by_, .int .i64 f.num]
  have hgb := Blk.new ((w.alloc (.cells (mdlCells p m) 29)).alloc (.cells #[.int .i64 f.by_, .int .i64 f.num] 31)) 31 #[.int .i64 g.by_, .int .i64 g.num]
  rw [hz] at hfb
  rw [hz2] at hgb
  have HMF : Hid (MF w (((w.alloc (.cells (mdlCells p m) 29)).alloc (.cells #[.int .i64 f.by_, .int .i64 f.num] 31)).alloc (.cells #[.int .i64 g.by_, .int .i64 g.num] 31)) p m f w.heap.size (w.heap.size + 1) ∧
    Blk (((w.alloc (.cells (mdlCells p m) 29)).alloc (.cells #[.int .i64 f.by_, .int .i64 f.num] 31)).alloc (.cells #[.int .i64 g.by_, .int .i64 g.num] 31)) (w.heap.size + 1 + 1) 31 #[.int .i64 g.by_, .int .i64 g.num]) :=
    ⟨⟨hmb.keep (((Same.refl _ _).alloc _).alloc _), hfb.alloc _⟩, hgb⟩
  have Hf := Lib.hid hf
  have Hg := Lib.hid hg
  have HLN := Lib.hid h.lm
  have hN : p.mc.len ≤ 1000000 := by rw [HLN.out]; exact hlen
  have HQ1 : Hid ((∀ i, i < p.mc.len → okB m f g i = true) → coverB m f g = true) := fun h => coverB_yes (by rw [← HLN.out]; exact h)
  have HQ2 : Hid (∀ i, i < p.mc.len → okB m f g i = false → coverB m f g = false) := fun i hi h => coverB_no (by rw [← HLN.out]; exact hi) h
  generalize coverB m f g = q at *
  clear h hf hg hlen hmb hfb hgb hz hz2
  obtain ⟨fb, fn⟩ := f
  obtain ⟨gb, gn⟩ := g
  unfold mdlVal Fl.val
  unfold mdlCells at HMF
  simp only at *
  go_enter Try.func27, Try.ntmps27
  go_wp2_with fail
  refine wp_abs (fun W => Hid (MF w W p m ⟨fb, fn⟩ w.heap.size (w.heap.size + 1) ∧ Blk W (w.heap.size + 1 + 1) 31 #[.int .i64 gb, .int .i64 gn])) HMF ?_
  clear HMF
  generalize w.heap.size = M at *
  generalize hG : M + 1 = G at *
  clear hG
  generalize hG2 : G + 1 = G2 at *
  clear hG2
  intro W HM0
  have c3 := HM0.out.1.mb.c3
  go_wp2_with fail
  clear c3
  go_loopw [7] (fun i wr => ∃ t : Nat, t ≤ p.mc.len ∧ i = .int .i64 ((t : Int) + 1) ∧ Hid ((∀ i, i < t → okB m ⟨fb, fn⟩ ⟨gb, gn⟩ i = true) ∧ MF w wr p m ⟨fb, fn⟩ M G ∧ Blk wr G2 31 #[.int .i64 gb, .int .i64 gn])) (fun i _ => p.mc.len + 1 - (intOf i).toNat)
  case atStart => exact ⟨0, Nat.zero_le _, rfl, fun i hi => absurd hi (by omega), HM0.out⟩
  case round =>
    obtain ⟨t, ht, rfl, HT⟩ := hrel
    clear HM0
    by_cases hlt : t < p.mc.len
    · obtain ⟨c0, c1, c2, c3, c4, c5, c6, c7, c8, c9, c10⟩ := HT.out.2.1.mb.all
      obtain ⟨f0, f1⟩ := HT.out.2.1.all
      have g0 : wr.cell? ⟨G2, 0, none⟩ = some (.int .i64 gb) := HT.out.2.2.cell 0
      have g1 : wr.cell? ⟨G2, 1, none⟩ = some (.int .i64 gn) := HT.out.2.2.cell 1
      have HOK : Hid (okB m ⟨fb, fn⟩ ⟨gb, gn⟩ t = (!hitB m ⟨gb, gn⟩ ((t : Int) + 1) || hitB m ⟨fb, fn⟩ ((t : Int) + 1))) := rfl
      go_wp2_with fail
      have hZ := rhits_any HT.out.2.1.mb.inn ⟨gb, gn⟩ Hg.out ((t : Int) + 1)
      unfold mdlVal Fl.val at hZ
      simp only at hZ
      (with_reducible refine Calls.mono hZ ?_)
      clear hZ
      rintro e W5 ⟨rfl, hs⟩
      have HT5 : Hid ((∀ i, i < t → okB m ⟨fb, fn⟩ ⟨gb, gn⟩ i = true) ∧ MF w W5 p m ⟨fb, fn⟩ M G ∧ Blk W5 G2 31 #[.int .i64 gb, .int .i64 gn]) := ⟨HT.out.1, HT.out.2.1.keep hs, HT.out.2.2.same hs (fun x => x)⟩
      clear hs HT c0 c1 c2 c3 c4 c5 c6 c7 c8 c9 c10 f0 f1 g0 g1
      cases hhg : hitB m ⟨gb, gn⟩ ((t : Int) + 1)
      · have HO1 : Hid (okB m ⟨fb, fn⟩ ⟨gb, gn⟩ t = true) := by show okB _ _ _ _ = _; rw [HOK.out, hhg]; rfl
        have HT6 : Hid ((∀ i, i < t + 1 → okB m ⟨fb, fn⟩ ⟨gb, gn⟩ i = true) ∧ MF w W5 p m ⟨fb, fn⟩ M G ∧ Blk W5 G2 31 #[.int .i64 gb, .int .i64 gn]) := ⟨fun i hi => by
          by_cases e : i = t
          · rw [e]; exact HO1.out
          · exact HT5.out.1 i (by omega), HT5.out.2⟩
        clear hhg
        go_wp2_with fail
        go_roundw
        case rel => exact ⟨t + 1, by omega, by rw [show (((t + 1 : Nat) : Int) + 1) = (t : Int) + 1 + 1 from by omega], HT6.out⟩
        case measure => simp [intOf]; omega
      · obtain ⟨c0, c1, c2, c3, c4, c5, c6, c7, c8, c9, c10⟩ := HT5.out.2.1.mb.all
        obtain ⟨f0, f1⟩ := HT5.out.2.1.all
        have HHG := Lib.hid hhg
        clear hhg
        go_wp2_with fail
        have hZ := rhits_any HT5.out.2.1.mb.inn ⟨fb, fn⟩ Hf.out ((t : Int) + 1)
        unfold mdlVal Fl.val at hZ
        simp only at hZ
        (with_reducible refine Calls.mono hZ ?_)
        clear hZ
        rintro e W6 ⟨rfl, hs⟩
        have HT6 : Hid (MF w W6 p m ⟨fb, fn⟩ M G ∧ Blk W6 G2 31 #[.int .i64 gb, .int .i64 gn]) := ⟨HT5.out.2.1.keep hs, HT5.out.2.2.same hs (fun x => x)⟩
        clear hs c0 c1 c2 c3 c4 c5 c6 c7 c8 c9 c10 f0 f1
        cases hhf : hitB m ⟨fb, fn⟩ ((t : Int) + 1)
        · have HO1 : Hid (q = false) := HQ2.out t hlt (by rw [HOK.out, HHG.out, hhf]; rfl)
          clear hhf
          go_wp2_with fail
          go_ret
          exact ⟨by rw [HO1.out] <;> rfl, HT6.out.1.mb.since⟩
        · have HO1 : Hid (okB m ⟨fb, fn⟩ ⟨gb, gn⟩ t = true) := by show okB _ _ _ _ = _; rw [HOK.out, hhf]; simp
          have HT7 : Hid ((∀ i, i < t + 1 → okB m ⟨fb, fn⟩ ⟨gb, gn⟩ i = true) ∧ MF w W6 p m ⟨fb, fn⟩ M G ∧ Blk W6 G2 31 #[.int .i64 gb, .int .i64 gn]) := ⟨fun i hi => by
            by_cases e : i = t
            · rw [e]; exact HO1.out
            · exact HT5.out.1 i (by omega), HT6.out⟩
          clear hhf
          go_wp2_with fail
          go_roundw
          case rel => exact ⟨t + 1, by omega, by rw [show (((t + 1 : Nat) : Int) + 1) = (t : Int) + 1 + 1 from by omega], HT7.out⟩
          case measure => simp [intOf]; omega
    · obtain rfl : t = p.mc.len := by omega
      have HO1 : Hid (q = true) := HQ1.out HT.out.1
      have c3 := HT.out.2.1.mb.c3
      go_wp2_with fail
      go_ret
      exact ⟨by rw [HO1.out] <;> rfl, HT.out.2.1.mb.since⟩
end Go.Proofs.Ytpngmodgnkjhnaa
