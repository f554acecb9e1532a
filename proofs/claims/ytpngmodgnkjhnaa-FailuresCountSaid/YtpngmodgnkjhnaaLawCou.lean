/- FailuresCount: its walk. (printed by genLawCou.py) -/
import Derived.Test.YtpngmodgnkjhnaaValH
import Derived.Test.YtpngmodgnkjhnaaFailQ
namespace Go.Proofs.Ytpngmodgnkjhnaa
open Go Go.RowKit Go.Maps
set_option maxRecDepth 100000

/-- How many of the first k are hit. -/
def hitN (p : Int → Bool) (l : List Int) (k : Nat) : Nat := ((l.take k).filter p).length
theorem hitN_le (p : Int → Bool) (l : List Int) (k : Nat) : hitN p l k ≤ k := by
  unfold hitN
  exact Nat.le_trans (List.length_filter_le _ _) (List.length_take_le _ _)
theorem hitN_step {p : Int → Bool} {l : List Int} {k : Nat} {x : Int} (h : l[k]? = some x) : hitN p l (k + 1) = hitN p l k + if p x then 1 else 0 := by
  unfold hitN
  rw [List.take_add_one, h, List.filter_append, List.length_append]
  cases hp : p x <;> simp [hp]
theorem keep_hit (p : Int → Bool) (l : List Int) : hitN p l l.length + (keepL p l).length = l.length := by
  unfold hitN keepL
  rw [List.take_of_length_le (Nat.le_refl _)]
  induction l with
  | nil => rfl
  | cons x l ih => cases hp : p x <;> simp [hp] <;> omega
theorem survs_none (m : Mdl) (P : List (List Un)) (item : Int) : survs m P ⟨0, 0⟩ item = machs P item 0 := keepL_all fun x _ => by unfold hitB; rfl
/-- Count's memory. -/
structure CoI (w W : World) (p : MPl) (m : Mdl) (s : Sl) (P : List (List Un)) (f : Fl) (M Q F : Nat) : Prop where
  mq : MQ w W p m s P M Q
  fb : Blk W F 31 #[.int .i64 f.by_, .int .i64 f.num]
theorem CoI.keep {w W W' : World} {p : MPl} {m : Mdl} {s : Sl} {P : List (List Un)} {f : Fl} {M Q F : Nat} (h : CoI w W p m s P f M Q F) (hs : Same noB W W') : CoI w W' p m s P f M Q F := ⟨h.mq.keep hs, h.fb.same hs (fun x => x)⟩
theorem CoI.all {w W : World} {p : MPl} {m : Mdl} {s : Sl} {P : List (List Un)} {f : Fl} {M Q F : Nat} (h : CoI w W p m s P f M Q F) : W.cell? ⟨F, 0, none⟩ = some (.int .i64 f.by_) ∧ W.cell? ⟨F, 1, none⟩ = some (.int .i64 f.num) := ⟨h.fb.cell 0, h.fb.cell 1⟩
theorem CoI.start {w : World} {p : MPl} {m : Mdl} {s : Sl} {P : List (List Un)} (h : MdlIn w p m) (hp : PlIn w s P) (f : Fl) :
    CoI w (((w.alloc (.cells (mdlCells p m) 29)).alloc (.cells #[.slice s.addr s.len s.cap] 41)).alloc (.cells #[.int .i64 f.by_, .int .i64 f.num] 31)) p m s P f w.heap.size (w.heap.size + 1) (w.heap.size + 1 + 1) := by
  have b1 := new_at (w := (w.alloc (.cells (mdlCells p m) 29)).alloc (.cells #[.slice s.addr s.len s.cap] 41)) (n := w.heap.size + 1 + 1) (by simp) 31 #[.int .i64 f.by_, .int .i64 f.num]
  exact ⟨(MQ.start h hp).keep ((Same.refl _ _).alloc _), b1⟩

set_option maxHeartbeats 16000000 in
theorem lawCount_any {w : World} {p : MPl} {m : Mdl} {s : Sl} {P : List (List Un)} (h : MdlIn w p m) (hu : Ful w m) (hp : PlIn w s P) (f : Fl) (hf : inI64 f.by_) (n : Int) :
    Calls Try.prog 6 #[mdlVal p m, plVal s, f.val, .int .i64 n] w fun e w' => e = .returned (.bool true) ∧ Same noB w w' := by
  have HM0 := Lib.hid (CoI.start h hp f)
  have Hf := Lib.hid hf
  have HU := Lib.hid hu
  obtain ⟨q, hq⟩ : ∃ q, largeB m P = q := ⟨_, rfl⟩
  have HQ := Lib.hid hq
  clear h hp hf hq hu
  unfold mdlVal plVal Fl.val
  unfold mdlCells at HM0
  go_enter Try.func6, Try.ntmps6
  go_wp2_with fail
  refine calls_abs (fun W => Hid (CoI w W p m s P f w.heap.size (w.heap.size + 1) (w.heap.size + 1 + 1))) HM0 ?_
  clear HM0
  generalize w.heap.size + 1 + 1 = F at *
  generalize w.heap.size + 1 = Q at *
  generalize w.heap.size = M at *
  intro W HM0
  refine (awake_any W).mono ?_
  rintro e W1 ⟨rfl, hs⟩
  have HM := Lib.hid (HM0.out.keep hs)
  clear hs HM0
  obtain ⟨c0, c1, c2, c3, c4, c5, c6, c7, c8, c9, c10⟩ := HM.out.mq.mb.all; have cq := HM.out.mq.pb.c; obtain ⟨f0, f1⟩ := HM.out.all
  obtain ⟨fb, fn⟩ := f
  simp only at *
  go_wp2_with fail
  have hZ := large_any HM.out.mq.mb.inn HM.out.mq.pb.inn
  unfold mdlVal plVal at hZ
  rw [HQ.out] at hZ
  (with_reducible refine Calls.mono hZ ?_)
  clear hZ
  rintro e W2 ⟨rfl, hs⟩
  have HM := Lib.hid (HM.out.keep hs)
  clear hs
  obtain ⟨c0, c1, c2, c3, c4, c5, c6, c7, c8, c9, c10⟩ := HM.out.mq.mb.all; have cq := HM.out.mq.pb.c; obtain ⟨f0, f1⟩ := HM.out.all
  cases q
  · have HS := Lib.hid (small2 HQ.out)
    go_wp2_with fail
    have hZ := valid21_any HM.out.mq.mb.inn HS.out.sm (HU.out.keep HM.out.mq.mb.since) HM.out.mq.pb.inn HS.out.us
    unfold mdlVal plVal at hZ
    (with_reducible refine Calls.mono hZ ?_)
    clear hZ
    rintro e W3 ⟨b2, rfl, hs⟩
    have HM := Lib.hid (HM.out.keep hs)
    clear hs c0 c1 c2 c3 c4 c5 c6 c7 c8 c9 c10 cq f0 f1
    cases b2
    · go_wp2_with fail
      go_ret
      exact ⟨rfl, HM.out.mq.mb.since⟩
    · obtain ⟨c0, c1, c2, c3, c4, c5, c6, c7, c8, c9, c10⟩ := HM.out.mq.mb.all; have cq := HM.out.mq.pb.c; obtain ⟨f0, f1⟩ := HM.out.all
      go_wp2_with fail
      have hZ := rmachs_any HM.out.mq.pb.inn n 0 (HS.out.us n)
      unfold plVal at hZ
      (with_reducible refine Calls.mono hZ ?_)
      clear hZ
      rintro e W4 ⟨v, rfl, ha⟩
      have HSN := Lib.hid (survs_none m P n)
      have HSV : Hid (∀ f, survs m P f n = keepL (hitB m f) (machs P n 0)) := fun _ => rfl
      have HLM : Hid ((machs P n 0).length ≤ 1000000) := by
        show _ ≤ _
        unfold machs
        rw [List.length_map]
        exact Nat.le_trans (List.length_filter_le _ _) (HS.out.us n)
      have hr := ha.rd (bad := noB) (fun _ e => e.elim)
      generalize machs P n 0 = l at *
      have HR : Hid (CoI w W4 p m s P ⟨fb, fn⟩ M Q F ∧ Rd W4 noB 1 v l.length (icells l)) := ⟨HM.out.keep ha.since, hr⟩
      clear ha hr HM c0 c1 c2 c3 c4 c5 c6 c7 c8 c9 c10 cq f0 f1
      obtain ⟨A, c, hv, hc1, hc2, hr⟩ := HR.out.2.form
      subst hv
      unfold maxLen at hc2
      clear hr
      have hLM : l.length ≤ 1000000 := HLM.out
      go_wp2_with fail
      go_loopg [10, 11] (l.length) (fun gk h i wr => ∃ t : Nat, t ≤ l.length ∧ Hid (gk + t = l.length) ∧ i = .int .i64 t ∧ h = .int .i64 (hitN (hitB m ⟨fb, fn⟩) l t) ∧ Hid (CoI w wr p m s P ⟨fb, fn⟩ M Q F ∧ Rd wr noB 1 (.slice A l.length c) l.length (icells l)))
      case atStart => exact ⟨0, Nat.zero_le _, rfl, rfl, by unfold hitN; rfl, HR.out⟩
      case round =>
        obtain ⟨t, ht, HT, rfl, rfl, HR2⟩ := hrel
        clear HR
        have HM := Lib.hid HR2.out.1
        obtain ⟨c0, c1, c2, c3, c4, c5, c6, c7, c8, c9, c10⟩ := HM.out.mq.mb.all; have cq := HM.out.mq.pb.c; obtain ⟨f0, f1⟩ := HM.out.all
        have hhl := hitN_le (hitB m ⟨fb, fn⟩) l t
        by_cases hlt : t < l.length
        · obtain ⟨x, hx⟩ : ∃ x, l[t]? = some x := ⟨_, List.getElem?_eq_getElem hlt⟩
          have HST := Lib.hid (hitN_step (p := hitB m ⟨fb, fn⟩) hx)
          obtain ⟨b, o, rfl, r1⟩ := HR2.out.2.at_ (by omega)
          have p0 := r1.cell t _ (icells_at hx)
          have hi0 : (0 : Int) ≤ (t : Int) := by omega
          have hi1 : (t : Int) < (l.length : Int) := by omega
          obtain ⟨be, hbe⟩ : ∃ be, hitB m ⟨fb, fn⟩ x = be := ⟨_, rfl⟩
          have HBE := Lib.hid hbe
          clear r1 hx hbe
          generalize hitN (hitB m ⟨fb, fn⟩) l t = h0 at *
          have HRd : Hid (CoI w wr.drew p m s P ⟨fb, fn⟩ M Q F ∧ Rd wr.drew noB 1 (.slice (some ⟨b, o, none⟩) l.length c) l.length (icells l)) := ⟨HR2.out.1.keep ((Same.refl _ _).drew), HR2.out.2.keep ((Same.refl _ _).drew)⟩
          go_wp2_with fail
          go_region_held3 (fun w' => w'.cell? ⟨M, 0, none⟩ = some (.slice p.s.addr p.s.len p.s.cap) ∧ w'.cell? ⟨M, 1, none⟩ = some (.slice p.f.addr p.f.len p.f.cap) ∧ w'.cell? ⟨M, 2, none⟩ = some (.slice p.r.addr p.r.len p.r.cap) ∧ w'.cell? ⟨M, 3, none⟩ = some (.slice p.mc.addr p.mc.len p.mc.cap) ∧ w'.cell? ⟨M, 4, none⟩ = some (.slice p.l.addr p.l.len p.l.cap) ∧ w'.cell? ⟨M, 5, none⟩ = some (.slice p.i.addr p.i.len p.i.cap) ∧ w'.cell? ⟨M, 6, none⟩ = some (.int .i64 m.dark) ∧ w'.cell? ⟨M, 7, none⟩ = some (.int .i64 m.slots) ∧ w'.cell? ⟨M, 8, none⟩ = some (.int .i64 m.reserve) ∧ w'.cell? ⟨M, 9, none⟩ = some (.int .i64 m.failures) ∧ w'.cell? ⟨M, 10, none⟩ = some (.slice p.ru.addr p.ru.len p.ru.cap) ∧ w'.cell? ⟨F, 0, none⟩ = some (.int .i64 fb) ∧ w'.cell? ⟨F, 1, none⟩ = some (.int .i64 fn) ∧ w'.cell? ⟨b, o + t, none⟩ = some (.int .i64 x))
            (first | (refine ⟨?_, ?_, ?_, ?_, ?_, ?_, ?_, ?_, ?_, ?_, ?_, ?_, ?_, ?_⟩ <;> with_reducible assumption) | go_keep)
            ((go_at_call 23; have hZ := hits_any HRd.out.1.mq.mb.inn ⟨fb, fn⟩ Hf.out x; rw [HBE.out] at hZ; unfold mdlVal Fl.val at hZ; (with_reducible refine Calls.mono hZ ?_); clear hZ; rintro e W5 ⟨rfl, hs⟩; have HR5 : Hid (CoI w W5 p m s P ⟨fb, fn⟩ M Q F ∧ Rd W5 noB 1 (.slice (some ⟨b, o, none⟩) l.length c) l.length (icells l)) := ⟨HRd.out.1.keep hs, HRd.out.2.keep hs⟩; have HM := Lib.hid HR5.out.1; obtain ⟨c0, c1, c2, c3, c4, c5, c6, c7, c8, c9, c10⟩ := HM.out.mq.mb.all; have cq := HM.out.mq.pb.c; obtain ⟨f0, f1⟩ := HM.out.all; have p0 := hs.cell p0 (fun x => x); clear hs))
          cases be
          · have HNX : Hid (hitN (hitB m ⟨fb, fn⟩) l (t + 1) = h0) := by show _ = _; rw [HST.out, HBE.out]; rfl
            go_wp2_with fail
            go_roundg (gk - 1)
            case measure => have h1 := HT.out; omega
            case rel => exact ⟨t + 1, by omega, by show _ = _; have h1 := HT.out; omega, by go_num, by rw [HNX.out], HR5.out⟩
          · have HNX : Hid (hitN (hitB m ⟨fb, fn⟩) l (t + 1) = h0 + 1) := by show _ = _; rw [HST.out, HBE.out]; rfl
            go_wp2_with fail
            go_roundg (gk - 1)
            case measure => have h1 := HT.out; omega
            case rel => exact ⟨t + 1, by omega, by show _ = _; have h1 := HT.out; omega, by go_num, by rw [HNX.out]; go_num, HR5.out⟩
        · obtain rfl : t = l.length := by omega
          have hkh := keep_hit (hitB m ⟨fb, fn⟩) l
          rw [← HSV.out] at hkh
          go_wp2_with fail
          have hZ := surv_any HM.out.mq.mb.inn HM.out.mq.pb.inn ⟨fb, fn⟩ Hf.out n (HS.out.us n)
          unfold mdlVal plVal Fl.val at hZ
          (with_reducible refine Calls.mono hZ ?_)
          clear hZ
          rintro e W5 ⟨v, rfl, ha⟩
          obtain ⟨A5, c5', rfl⟩ := own_form ha.own
          have HM5 := Lib.hid (HM.out.keep ha.since)
          have HR5 := Lib.hid (HR2.out.2.keep ha.since)
          clear ha c0 c1 c2 c3 c4 c5 c6 c7 c8 c9 c10 cq f0 f1 HM HR2
          have HM := HM5
          obtain ⟨c0, c1, c2, c3, c4, c5, c6, c7, c8, c9, c10⟩ := HM.out.mq.mb.all; have cq := HM.out.mq.pb.c; obtain ⟨f0, f1⟩ := HM.out.all
          generalize (survs m P ⟨fb, fn⟩ n).length = n5 at *
          generalize hitN (hitB m ⟨fb, fn⟩) l l.length = h0 at *
          have hsum : (((h0 : Int) + (n5 : Int)) == (l.length : Int)) = true := beq_iff_eq.2 (by omega)
          go_wp2_with fail
          have hZ := surv_any HM.out.mq.mb.inn HM.out.mq.pb.inn ⟨0, 0⟩ (inI64_of (by decide) (by decide)) n (HS.out.us n)
          unfold mdlVal plVal Fl.val at hZ
          (with_reducible refine Calls.mono hZ ?_)
          clear hZ
          rintro e W6 ⟨v, rfl, ha⟩
          have HA6 := Lib.hid (ha.rd (bad := noB) (fun _ e => e.elim))
          rw [HSN.out] at HA6
          have HR6 := Lib.hid (HR5.out.keep ha.since)
          have HM6 := Lib.hid (HM.out.keep ha.since)
          clear ha
          go_wp2_with fail
          refine (ints_true HA6.out HR6.out).mono ?_
          rintro e W7 ⟨rfl, hs⟩
          have HM7 := Lib.hid (HM6.out.keep hs)
          clear hs
          go_wp2_with fail
          go_ret
          exact ⟨by first | rfl | simp, HM7.out.mq.mb.since⟩
  · go_wp2_with fail
    go_ret
    exact ⟨rfl, HM.out.mq.mb.since⟩
end Go.Proofs.Ytpngmodgnkjhnaa
