/- FailuresLeast: its walk. -/
import Derived.Test.YtpngmodgnkjhnaaFailP
import Derived.Deep.CutRange
namespace Go.Proofs.Ytpngmodgnkjhnaa
open Go Go.RowKit Go.Maps
set_option maxRecDepth 100000

/-- Whether a failure is among the first t. -/
def fndB (f : Fl) (L : List Fl) (t : Nat) : Bool := decide (f ∈ L.take t)
theorem fndB_zero (f : Fl) (L : List Fl) : fndB f L 0 = false := by simp [fndB]
theorem fndB_all {f : Fl} {L : List Fl} (h : f ∈ L) : fndB f L L.length = true := by simp [fndB, h]
theorem fndB_step {f x : Fl} {L : List Fl} {t : Nat} (h : L[t]? = some x) : fndB f L (t + 1) = (fndB f L t || decide (x = f)) := by
  unfold fndB
  rw [List.take_add_one, h]
  simp [eq_comm]
/-- Least's memory. -/
structure LeI (w W : World) (p : MPl) (m : Mdl) (s : Sl) (P : List (List Un)) (M Q B : Nat) (fb fn : Int) (v : Value) (L : List Fl) : Prop where
  mq : MQ w W p m s P M Q
  fb : Blk W B 31 #[.int .i64 fb, .int .i64 fn]
  rd : Rd W noB 2 v L.length (flcells L)
theorem LeI.keep {w W W' : World} {p : MPl} {m : Mdl} {s : Sl} {P : List (List Un)} {M Q B : Nat} {fb fn : Int} {v : Value} {L : List Fl} (h : LeI w W p m s P M Q B fb fn v L) (hs : Same noB W W') : LeI w W' p m s P M Q B fb fn v L := ⟨h.mq.keep hs, h.fb.same hs (fun x => x), h.rd.keep hs⟩
theorem LeI.all {w W : World} {p : MPl} {m : Mdl} {s : Sl} {P : List (List Un)} {M Q B : Nat} {fb fn : Int} {v : Value} {L : List Fl} (h : LeI w W p m s P M Q B fb fn v L) : W.cell? ⟨B, 0, none⟩ = some (.int .i64 fb) ∧ W.cell? ⟨B, 1, none⟩ = some (.int .i64 fn) := ⟨h.fb.cell 0, h.fb.cell 1⟩
theorem LeI.at_ {w W : World} {p : MPl} {m : Mdl} {s : Sl} {P : List (List Un)} {M Q B : Nat} {fb fn : Int} {A : Option Addr} {c : Nat} {L : List Fl} {t : Nat} {x : Fl} (h : LeI w W p m s P M Q B fb fn (.slice A L.length c) L) (hx : L[t]? = some x) :
    ∃ b o, A = some ⟨b, o, none⟩ ∧ W.cell? ⟨b, o + t * 2, none⟩ = some (.int .i64 x.by_) ∧ W.cell? ⟨b, o + t * 2 + 1, none⟩ = some (.int .i64 x.num) := by
  obtain ⟨b, o, e, r⟩ := h.rd.at_ (by have := (List.getElem?_eq_some_iff.1 hx).1; omega)
  exact ⟨b, o, e, fl_at r hx⟩

set_option maxHeartbeats 8000000 in
theorem lawLeast_any {w : World} {p : MPl} {m : Mdl} {s : Sl} {P : List (List Un)} (h : MdlIn w p m) (hp : PlIn w s P) (item : Int) :
    Calls Try.prog 5 #[mdlVal p m, plVal s, .int .i64 item] w fun e w' => e = .returned (.bool true) ∧ Same noB w w' := by
  have HM0 := Lib.hid (MQ.start h hp)
  obtain ⟨q, hq⟩ : ∃ q, largeB m P = q := ⟨_, rfl⟩
  have HQ := Lib.hid hq
  clear h hp hq
  unfold mdlVal plVal
  unfold mdlCells at HM0
  go_enter Try.func5, Try.ntmps5
  go_wp2_with fail
  refine calls_abs (fun W => Hid (MQ w W p m s P w.heap.size (w.heap.size + 1))) HM0 ?_
  clear HM0
  generalize w.heap.size = M at *
  generalize M + 1 = Q at *
  intro W HM0
  refine (awake_any W).mono ?_
  rintro e W1 ⟨rfl, hs⟩
  have HM := Lib.hid (HM0.out.keep hs)
  clear hs HM0
  obtain ⟨c0, c1, c2, c3, c4, c5, c6, c7, c8, c9, c10⟩ := HM.out.mb.all
  have cq := HM.out.pb.c
  go_wp2_with fail
  have hZ := large_any HM.out.mb.inn HM.out.pb.inn
  unfold mdlVal plVal at hZ
  rw [HQ.out] at hZ
  (with_reducible refine Calls.mono hZ ?_)
  clear hZ
  rintro e W2 ⟨rfl, hs⟩
  have HM := Lib.hid (HM.out.keep hs)
  clear hs
  cases q
  · have HS := Lib.hid (small2 HQ.out)
    obtain ⟨c0, c1, c2, c3, c4, c5, c6, c7, c8, c9, c10⟩ := HM.out.mb.all
    have cq := HM.out.pb.c
    obtain ⟨r, hr⟩ : ∃ r, worst m P item = r := ⟨_, rfl⟩
    have HR := Lib.hid hr
    clear hr
    obtain ⟨⟨fb, fn⟩, k⟩ := r
    go_wp2_with fail
    have hZ := worst_any HM.out.mb.inn HM.out.pb.inn item HS.out.dom HS.out.decl (HS.out.us item)
    rw [HR.out] at hZ
    unfold mdlVal plVal Fl.val at hZ
    (with_reducible refine Calls.mono hZ ?_)
    clear hZ
    rintro e W3 ⟨rfl, hs⟩
    have HM := Lib.hid (HM.out.keep hs)
    clear hs
    go_upto_region 7 with (fail)
    have HM3 : Hid (MQ w (W3.alloc (.cells #[.int .i64 fb, .int .i64 fn] 31)) p m s P M Q) := HM.out.keep ((Same.refl _ _).alloc _)
    have HB := Lib.hid (Blk.new W3 31 #[.int .i64 fb, .int .i64 fn])
    refine wp_abs (fun W => Hid (MQ w W p m s P M Q ∧ Blk W W3.heap.size 31 #[.int .i64 fb, .int .i64 fn])) ⟨HM3.out, HB.out⟩ ?_
    clear HM3 HB HM
    intro W4 HM
    obtain ⟨c0, c1, c2, c3, c4, c5, c6, c7, c8, c9, c10⟩ := HM.out.1.mb.all
    have cq := HM.out.1.pb.c
    go_wp2_with fail
    have hZ := all_any HM.out.1.mb.inn HS.out.dom HS.out.decl
    unfold mdlVal at hZ
    (with_reducible refine Calls.mono hZ ?_)
    clear hZ
    rintro e W5 ⟨v, rfl, ha⟩
    obtain ⟨A, c, rfl, hc1, hc2, hrd⟩ := (ha.rd (bad := noB) (fun _ e => e.elim)).form
    have HV : Hid (LeI w W5 p m s P M Q W3.heap.size fb fn (.slice A (declL m).length c) (declL m)) := ⟨HM.out.1.keep ha.since, HM.out.2.same ha.since (fun x => x), hrd⟩
    clear ha hrd HM c0 c1 c2 c3 c4 c5 c6 c7 c8 c9 c10 cq
    have HF : Hid ((⟨fb, fn⟩ : Fl) ∈ declL m ∧ k = nS m P item ⟨fb, fn⟩ ∧ ∀ x ∈ declL m, k ≤ nS m P item x) := by
      have h1 := wst_mem (g := nS m P item) (decl_ne m)
      have h2 : wst (nS m P item) (declL m) = (⟨fb, fn⟩, k) := HR.out
      rw [h2] at h1
      exact h1
    have HY := Lib.hid (fun (x : Fl) (hx : x ∈ declL m) => (show inI64 x.by_ from inI64_of (by have := (decl_by hx).1; omega) (by have := (decl_by hx).2.1; omega)))
    have hLn : (declL m).length ≤ 4000000 := HS.out.decl
    clear HR
    generalize declL m = L at *
    generalize W3.heap.size = B at *
    go_wp2_with fail
    go_loopg [9, 27] (L.length) (fun gk fo i wr => ∃ t : Nat, t ≤ L.length ∧ Hid (gk + t = L.length) ∧ i = .int .i64 t ∧ fo = .bool (fndB ⟨fb, fn⟩ L t) ∧ Hid (LeI w wr p m s P M Q B fb fn (.slice A L.length c) L))
    case atStart => exact ⟨0, Nat.zero_le _, rfl, rfl, by rw [fndB_zero], HV.out⟩
    case round =>
      obtain ⟨t, ht, HT, rfl, rfl, HV2⟩ := hrel
      clear HV
      by_cases hlt : t < L.length
      · obtain ⟨x, hx⟩ : ∃ x, L[t]? = some x := ⟨_, List.getElem?_eq_getElem hlt⟩
        have HX := Lib.hid hx
        have HST := Lib.hid (fndB_step (f := ⟨fb, fn⟩) hx)
        have HBX := Lib.hid (HY.out x (List.mem_of_getElem? hx))
        have HKX := Lib.hid (HF.out.2.2 x (List.mem_of_getElem? hx))
        obtain ⟨b, o, rfl, e0, e1⟩ := HV2.out.at_ hx
        obtain ⟨c0, c1, c2, c3, c4, c5, c6, c7, c8, c9, c10⟩ := HV2.out.mq.mb.all
        have cq := HV2.out.mq.pb.c
        obtain ⟨f0, f1⟩ := HV2.out.all
        have hfl := HV2.out.fb.lt
        clear hx
        obtain ⟨xb, xn⟩ := x
        simp only at e0 e1 HBX
        obtain ⟨fo, hfo⟩ : ∃ fo, fndB ⟨fb, fn⟩ L t = fo := ⟨_, rfl⟩
        have HFO := Lib.hid hfo
        rw [hfo]
        clear hfo
        cases fo
        · by_cases h1 : xb = fb
          · subst h1
            by_cases h2 : xn = fn
            · subst h2
              have HNX : Hid (fndB ⟨xb, xn⟩ L (t + 1) = true) := by
                show _ = _
                rw [HST.out, HFO.out]
                simp
              go_upto_region 11 with (fail)
              have H6 : Hid (LeI w (wr.alloc (.cells #[.int .i64 xb, .int .i64 xn] 31)) p m s P M Q B xb xn (.slice (some ⟨b, o, none⟩) L.length c) L ∧ Blk (wr.alloc (.cells #[.int .i64 xb, .int .i64 xn] 31)) wr.heap.size 31 #[.int .i64 xb, .int .i64 xn]) := ⟨HV2.out.keep ((Same.refl _ _).alloc _), Blk.new _ _ _⟩
              refine wp_abs (fun W => Hid (LeI w W p m s P M Q B xb xn (.slice (some ⟨b, o, none⟩) L.length c) L ∧ Blk W wr.heap.size 31 #[.int .i64 xb, .int .i64 xn])) H6 ?_
              clear H6 HV2 c0 c1 c2 c3 c4 c5 c6 c7 c8 c9 c10 cq f0 f1 e0 e1 hfl
              generalize wr.heap.size = X at *
              intro W6 H6
              obtain ⟨c0, c1, c2, c3, c4, c5, c6, c7, c8, c9, c10⟩ := H6.out.1.mq.mb.all
              have cq := H6.out.1.mq.pb.c
              have d0 := H6.out.2.cell 0
              have d1 := H6.out.2.cell 1
              simp only [List.getElem?_toArray, List.getElem?_cons_zero, List.getElem?_cons_succ] at d0 d1
              go_wp2_with fail
              have hZ := surv_any H6.out.1.mq.mb.inn H6.out.1.mq.pb.inn ⟨xb, xn⟩ HBX.out item (HS.out.us item)
              unfold mdlVal plVal Fl.val at hZ
              (with_reducible refine Calls.mono hZ ?_)
              clear hZ
              rintro e W7 ⟨v7, rfl, ha⟩
              obtain ⟨A7, c7', rfl⟩ := own_form ha.own
              have H7 := Lib.hid (H6.out.1.keep ha.since)
              have hk7 : k ≤ ((survs m P ⟨xb, xn⟩ item).length : Int) := HKX.out
              generalize (survs m P ⟨xb, xn⟩ item).length = n7 at *
              clear ha H6 c0 c1 c2 c3 c4 c5 c6 c7 c8 c9 c10 cq d0 d1
              have hd7 : decide ((n7 : Int) < k) = false := decide_eq_false (by omega)
              go_wp2_with fail
              go_roundg (gk - 1)
              case measure => have h1 := HT.out; omega
              case rel => exact ⟨t + 1, by omega, by show _ = _; have h1 := HT.out; omega, by go_num, by rw [HNX.out], H7.out⟩
            · have hb2 : (xn == fn) = false := beq_eq_false_iff_ne.2 h2
              have HNX : Hid (fndB ⟨xb, fn⟩ L (t + 1) = false) := by
                show _ = _
                rw [HST.out, HFO.out]
                simp [h2]
              go_upto_region 11 with (fail)
              have H6 : Hid (LeI w (wr.alloc (.cells #[.int .i64 xb, .int .i64 xn] 31)) p m s P M Q B xb fn (.slice (some ⟨b, o, none⟩) L.length c) L ∧ Blk (wr.alloc (.cells #[.int .i64 xb, .int .i64 xn] 31)) wr.heap.size 31 #[.int .i64 xb, .int .i64 xn]) := ⟨HV2.out.keep ((Same.refl _ _).alloc _), Blk.new _ _ _⟩
              refine wp_abs (fun W => Hid (LeI w W p m s P M Q B xb fn (.slice (some ⟨b, o, none⟩) L.length c) L ∧ Blk W wr.heap.size 31 #[.int .i64 xb, .int .i64 xn])) H6 ?_
              clear H6 HV2 c0 c1 c2 c3 c4 c5 c6 c7 c8 c9 c10 cq f0 f1 e0 e1 hfl
              generalize wr.heap.size = X at *
              intro W6 H6
              obtain ⟨c0, c1, c2, c3, c4, c5, c6, c7, c8, c9, c10⟩ := H6.out.1.mq.mb.all
              have cq := H6.out.1.mq.pb.c
              have d0 := H6.out.2.cell 0
              have d1 := H6.out.2.cell 1
              simp only [List.getElem?_toArray, List.getElem?_cons_zero, List.getElem?_cons_succ] at d0 d1
              go_wp2_with fail
              have hZ := surv_any H6.out.1.mq.mb.inn H6.out.1.mq.pb.inn ⟨xb, xn⟩ HBX.out item (HS.out.us item)
              unfold mdlVal plVal Fl.val at hZ
              (with_reducible refine Calls.mono hZ ?_)
              clear hZ
              rintro e W7 ⟨v7, rfl, ha⟩
              obtain ⟨A7, c7', rfl⟩ := own_form ha.own
              have H7 := Lib.hid (H6.out.1.keep ha.since)
              have hk7 : k ≤ ((survs m P ⟨xb, xn⟩ item).length : Int) := HKX.out
              generalize (survs m P ⟨xb, xn⟩ item).length = n7 at *
              clear ha H6 c0 c1 c2 c3 c4 c5 c6 c7 c8 c9 c10 cq d0 d1
              have hd7 : decide ((n7 : Int) < k) = false := decide_eq_false (by omega)
              go_wp2_with fail
              go_roundg (gk - 1)
              case measure => have h1 := HT.out; omega
              case rel => exact ⟨t + 1, by omega, by show _ = _; have h1 := HT.out; omega, by go_num, by rw [HNX.out], H7.out⟩
          · have hb1 : (xb == fb) = false := beq_eq_false_iff_ne.2 h1
            have HNX : Hid (fndB ⟨fb, fn⟩ L (t + 1) = false) := by
              show _ = _
              rw [HST.out, HFO.out]
              simp [h1]
            go_upto_region 11 with (fail)
            have H6 : Hid (LeI w (wr.alloc (.cells #[.int .i64 xb, .int .i64 xn] 31)) p m s P M Q B fb fn (.slice (some ⟨b, o, none⟩) L.length c) L ∧ Blk (wr.alloc (.cells #[.int .i64 xb, .int .i64 xn] 31)) wr.heap.size 31 #[.int .i64 xb, .int .i64 xn]) := ⟨HV2.out.keep ((Same.refl _ _).alloc _), Blk.new _ _ _⟩
            refine wp_abs (fun W => Hid (LeI w W p m s P M Q B fb fn (.slice (some ⟨b, o, none⟩) L.length c) L ∧ Blk W wr.heap.size 31 #[.int .i64 xb, .int .i64 xn])) H6 ?_
            clear H6 HV2 c0 c1 c2 c3 c4 c5 c6 c7 c8 c9 c10 cq f0 f1 e0 e1 hfl
            generalize wr.heap.size = X at *
            intro W6 H6
            obtain ⟨c0, c1, c2, c3, c4, c5, c6, c7, c8, c9, c10⟩ := H6.out.1.mq.mb.all
            have cq := H6.out.1.mq.pb.c
            have d0 := H6.out.2.cell 0
            have d1 := H6.out.2.cell 1
            simp only [List.getElem?_toArray, List.getElem?_cons_zero, List.getElem?_cons_succ] at d0 d1
            go_wp2_with fail
            have hZ := surv_any H6.out.1.mq.mb.inn H6.out.1.mq.pb.inn ⟨xb, xn⟩ HBX.out item (HS.out.us item)
            unfold mdlVal plVal Fl.val at hZ
            (with_reducible refine Calls.mono hZ ?_)
            clear hZ
            rintro e W7 ⟨v7, rfl, ha⟩
            obtain ⟨A7, c7', rfl⟩ := own_form ha.own
            have H7 := Lib.hid (H6.out.1.keep ha.since)
            have hk7 : k ≤ ((survs m P ⟨xb, xn⟩ item).length : Int) := HKX.out
            generalize (survs m P ⟨xb, xn⟩ item).length = n7 at *
            clear ha H6 c0 c1 c2 c3 c4 c5 c6 c7 c8 c9 c10 cq d0 d1
            have hd7 : decide ((n7 : Int) < k) = false := decide_eq_false (by omega)
            go_wp2_with fail
            go_roundg (gk - 1)
            case measure => have h1 := HT.out; omega
            case rel => exact ⟨t + 1, by omega, by show _ = _; have h1 := HT.out; omega, by go_num, by rw [HNX.out], H7.out⟩
        ·
          have HNX : Hid (fndB ⟨fb, fn⟩ L (t + 1) = true) := by
            show _ = _
            rw [HST.out, HFO.out]
            simp
          go_upto_region 11 with (fail)
          have H6 : Hid (LeI w (wr.alloc (.cells #[.int .i64 xb, .int .i64 xn] 31)) p m s P M Q B fb fn (.slice (some ⟨b, o, none⟩) L.length c) L ∧ Blk (wr.alloc (.cells #[.int .i64 xb, .int .i64 xn] 31)) wr.heap.size 31 #[.int .i64 xb, .int .i64 xn]) := ⟨HV2.out.keep ((Same.refl _ _).alloc _), Blk.new _ _ _⟩
          refine wp_abs (fun W => Hid (LeI w W p m s P M Q B fb fn (.slice (some ⟨b, o, none⟩) L.length c) L ∧ Blk W wr.heap.size 31 #[.int .i64 xb, .int .i64 xn])) H6 ?_
          clear H6 HV2 c0 c1 c2 c3 c4 c5 c6 c7 c8 c9 c10 cq f0 f1 e0 e1 hfl
          generalize wr.heap.size = X at *
          intro W6 H6
          obtain ⟨c0, c1, c2, c3, c4, c5, c6, c7, c8, c9, c10⟩ := H6.out.1.mq.mb.all
          have cq := H6.out.1.mq.pb.c
          have d0 := H6.out.2.cell 0
          have d1 := H6.out.2.cell 1
          simp only [List.getElem?_toArray, List.getElem?_cons_zero, List.getElem?_cons_succ] at d0 d1
          go_wp2_with fail
          have hZ := surv_any H6.out.1.mq.mb.inn H6.out.1.mq.pb.inn ⟨xb, xn⟩ HBX.out item (HS.out.us item)
          unfold mdlVal plVal Fl.val at hZ
          (with_reducible refine Calls.mono hZ ?_)
          clear hZ
          rintro e W7 ⟨v7, rfl, ha⟩
          obtain ⟨A7, c7', rfl⟩ := own_form ha.own
          have H7 := Lib.hid (H6.out.1.keep ha.since)
          have hk7 : k ≤ ((survs m P ⟨xb, xn⟩ item).length : Int) := HKX.out
          generalize (survs m P ⟨xb, xn⟩ item).length = n7 at *
          clear ha H6 c0 c1 c2 c3 c4 c5 c6 c7 c8 c9 c10 cq d0 d1
          have hd7 : decide ((n7 : Int) < k) = false := decide_eq_false (by omega)
          go_wp2_with fail
          go_roundg (gk - 1)
          case measure => have h1 := HT.out; omega
          case rel => exact ⟨t + 1, by omega, by show _ = _; have h1 := HT.out; omega, by go_num, by rw [HNX.out], H7.out⟩
      · obtain rfl : t = L.length := by omega
        have HFA := Lib.hid (fndB_all HF.out.1)
        rw [HFA.out]
        obtain ⟨c0, c1, c2, c3, c4, c5, c6, c7, c8, c9, c10⟩ := HV2.out.mq.mb.all
        have cq := HV2.out.mq.pb.c
        obtain ⟨f0, f1⟩ := HV2.out.all
        have hfl := HV2.out.fb.lt
        go_wp2_with fail
        have hZ := surv_any HV2.out.mq.mb.inn HV2.out.mq.pb.inn ⟨fb, fn⟩ (HY.out _ HF.out.1) item (HS.out.us item)
        unfold mdlVal plVal Fl.val at hZ
        (with_reducible refine Calls.mono hZ ?_)
        clear hZ
        rintro e W7 ⟨v7, rfl, ha⟩
        obtain ⟨A7, c7', rfl⟩ := own_form ha.own
        have H7 := Lib.hid (HV2.out.keep ha.since)
        have hk7 : ((survs m P ⟨fb, fn⟩ item).length : Int) = k := HF.out.2.1.symm
        have hk8 : (((survs m P ⟨fb, fn⟩ item).length : Int) == k) = true := beq_iff_eq.2 hk7
        generalize (survs m P ⟨fb, fn⟩ item).length = n7 at *
        clear ha hk7
        go_wp2_with fail
        go_ret
        exact ⟨by first | rfl | simp, H7.out.mq.mb.since⟩
  · go_wp2_with fail
    go_ret
    exact ⟨rfl, HM.out.mb.since⟩
end Go.Proofs.Ytpngmodgnkjhnaa
