/- Layer 21: Few of a placement; large. -/
import Derived.Test.YtpngmodgnkjhnaaFailD
import Derived.Test.YtpngmodgnkjhnaaSiteT
namespace Go.Proofs.Ytpngmodgnkjhnaa
open Go Go.RowKit Go.Maps
set_option maxRecDepth 100000

/-- A placement in its box. -/
structure PB (w0 W : World) (s : Sl) (P : List (List Un)) (Q : Nat) : Prop where
  inn : PlIn W s P
  box : Blk W Q 41 #[.slice s.addr s.len s.cap]
  since : Same noB w0 W
theorem PB.keep {w0 W W' : World} {s : Sl} {P : List (List Un)} {Q : Nat} (h : PB w0 W s P Q) (hs : Same noB W W') : PB w0 W' s P Q := ⟨h.inn.keep hs, h.box.same hs (fun x => x), h.since.trans' hs⟩
theorem PB.start {w : World} {s : Sl} {P : List (List Un)} (h : PlIn w s P) : PB w (w.alloc (.cells #[.slice s.addr s.len s.cap] 41)) s P w.heap.size := ⟨h.keep ((Same.refl _ _).alloc _), Blk.new _ _ _, (Same.refl _ _).alloc _⟩
theorem PB.c {w0 W : World} {s : Sl} {P : List (List Un)} {Q : Nat} (h : PB w0 W s P Q) : W.cell? ⟨Q, 0, none⟩ = some (.slice s.addr s.len s.cap) := h.box.cell 0
def fewPB (P : List (List Un)) : Bool := P.all (fun us => decide (us.length ≤ 24)) && decide (P.length ≤ 24)
theorem few20_any {w : World} {s : Sl} {P : List (List Un)} (h : PlIn w s P) : Calls Try.prog 38 #[plVal s] w fun e w' => e = .returned (.bool (fewPB P)) ∧ Same noB w w' := by
  have HB0 := Lib.hid (PB.start h)
  have HN := Lib.hid h.n
  have hcap : s.len ≤ 9223372036854775807 := by obtain ⟨rs, _, hr, _⟩ := h.rows; have := hr.caps; omega
  have HQ : Hid (fewPB P = (P.all (fun us => decide (us.length ≤ 24)) && decide (s.len ≤ 24))) := by show fewPB P = _; unfold fewPB; rw [h.n]
  generalize fewPB P = q at *
  clear h
  unfold plVal
  go_enter Try.func38, Try.ntmps38
  go_wp2_with fail
  refine wp_abs (fun W => Hid (PB w W s P w.heap.size)) HB0 ?_
  clear HB0
  generalize w.heap.size = Q at *
  intro W HB0
  go_loopw [3] (fun i wr => ∃ k : Nat, k ≤ s.len ∧ i = .int .i64 k ∧ Hid ((∀ (j : Nat) us, j < k → P[j]? = some us → us.length ≤ 24) ∧ PB w wr s P Q)) (fun i _ => s.len - (intOf i).toNat)
  case atStart => exact ⟨0, Nat.zero_le _, rfl, fun j us hj => by omega, HB0.out⟩
  case round =>
    obtain ⟨k, hk, rfl, HV⟩ := hrel
    clear HB0
    have c := HV.out.2.c
    by_cases hlt : k < s.len
    · obtain ⟨k', b, o, sl, he, hk2, ha, hc, hl, hr⟩ := HV.out.2.inn.at_ (item := (k : Int) + 1) (by omega) (by omega)
      obtain rfl : k' = k := by omega
      obtain ⟨us, hus⟩ : ∃ us, P[k']? = some us := ⟨_, List.getElem?_eq_getElem (by have := HN.out; omega)⟩
      have hu : unitsOf P ((k' : Int) + 1) = us := by
        unfold unitsOf
        rw [if_pos ⟨by omega, by have := HN.out; omega⟩, show ((k' : Int) + 1 - 1).toNat = k' from by omega, hus]
        rfl
      rw [hu] at hl
      rw [ha] at c
      have HL := Lib.hid hl
      have HU := Lib.hid hus
      have hb0 : (0 : Int) ≤ (k' : Int) := Int.natCast_nonneg _
      have hb1 : (k' : Int) < (s.len : Int) := by omega
      clear hr hu hl hus he ha
      by_cases h24 : sl.len ≤ 24
      · have d1 : decide ((24 : Int) < (sl.len : Int)) = false := decide_eq_false (by omega)
        go_wp2_with fail
        go_roundw
        case rel => exact ⟨k' + 1, by omega, by go_num, ⟨fun j us' hj hus' => by
          by_cases e : j = k'
          · subst e
            rw [HU.out] at hus'
            cases hus'
            rw [← HL.out]
            exact h24
          · exact HV.out.1 j us' (by omega) hus', HV.out.2⟩⟩
        case measure => simp [intOf]; omega
      · have d1 : decide ((24 : Int) < (sl.len : Int)) = true := decide_eq_true (by omega)
        have HR : Hid (q = false) := by
          show q = false
          rw [HQ.out]
          have : P.all (fun us => decide (us.length ≤ 24)) = false := by
            cases hq : P.all (fun us => decide (us.length ≤ 24))
            · rfl
            · rw [List.all_eq_true] at hq
              have := hq us (List.mem_of_getElem? HU.out)
              rw [decide_eq_true_eq, ← HL.out] at this
              omega
          rw [this]
          rfl
        go_wp2_with fail
        go_ret
        exact ⟨by rw [HR.out] <;> rfl, HV.out.2.since⟩
    · obtain rfl : k = s.len := by omega
      have HR : Hid (q = decide ((s.len : Int) ≤ 24)) := by
        show q = _
        rw [HQ.out]
        have : P.all (fun us => decide (us.length ≤ 24)) = true := by
          rw [List.all_eq_true]
          intro us hus
          obtain ⟨j, hj, he⟩ := List.mem_iff_getElem.1 hus
          rw [decide_eq_true_eq]
          exact HV.out.1 j us (by have := HN.out; omega) (by rw [List.getElem?_eq_getElem hj, he])
        rw [this, Bool.true_and, decide_eq_decide]
        omega
      go_wp2_with fail
      go_ret
      exact ⟨by rw [HR.out] <;> rfl, HV.out.2.since⟩

/-- A model and a placement in their boxes. -/
structure MQ (w0 W : World) (p : MPl) (m : Mdl) (s : Sl) (P : List (List Un)) (M Q : Nat) : Prop where
  mb : MB w0 W p m M
  pb : PB w0 W s P Q
theorem MQ.keep {w0 W W' : World} {p : MPl} {m : Mdl} {s : Sl} {P : List (List Un)} {M Q : Nat} (h : MQ w0 W p m s P M Q) (hs : Same noB W W') : MQ w0 W' p m s P M Q := ⟨h.mb.keep hs, h.pb.keep hs⟩
theorem MQ.start {w : World} {p : MPl} {m : Mdl} {s : Sl} {P : List (List Un)} (h : MdlIn w p m) (hp : PlIn w s P) : MQ w ((w.alloc (.cells (mdlCells p m) 29)).alloc (.cells #[.slice s.addr s.len s.cap] 41)) p m s P w.heap.size (w.heap.size + 1) := by
  have h1 : Same noB w (w.alloc (.cells (mdlCells p m) 29)) := (Same.refl _ _).alloc _
  have h2 := PB.start (hp.keep h1)
  have hz : (w.alloc (.cells (mdlCells p m) 29)).heap.size = w.heap.size + 1 := by simp
  rw [hz] at h2
  exact ⟨(MB.start h).keep ((Same.refl _ _).alloc _), h2.inn, h2.box, h1.trans' h2.since⟩
def largeB (m : Mdl) (P : List (List Un)) : Bool := !fewB m || !fewPB P
theorem large_any {w : World} {p : MPl} {m : Mdl} {s : Sl} {P : List (List Un)} (h : MdlIn w p m) (hp : PlIn w s P) : Calls Try.prog 17 #[mdlVal p m, plVal s] w fun e w' => e = .returned (.bool (largeB m P)) ∧ Same noB w w' := by
  have HM0 := Lib.hid (MQ.start h hp)
  have HQ : Hid (largeB m P = (!fewB m || !fewPB P)) := rfl
  obtain ⟨b1, hb1⟩ : ∃ b, fewB m = b := ⟨_, rfl⟩
  obtain ⟨b2, hb2⟩ : ∃ b, fewPB P = b := ⟨_, rfl⟩
  rw [hb1, hb2] at HQ
  have HB1 := Lib.hid hb1
  have HB2 := Lib.hid hb2
  generalize largeB m P = q at *
  clear h hp hb1 hb2
  unfold mdlVal plVal
  unfold mdlCells at HM0
  go_enter Try.func17, Try.ntmps17
  go_wp2_with fail
  refine calls_abs (fun W => Hid (MQ w W p m s P w.heap.size (w.heap.size + 1))) HM0 ?_
  clear HM0
  generalize w.heap.size = M at *
  generalize M + 1 = Q at *
  intro W HM0
  have hZ := few2_any HM0.out.mb.inn
  unfold mdlVal at hZ
  rw [HB1.out] at hZ
  (with_reducible refine Calls.mono hZ ?_)
  clear hZ
  rintro e W2 ⟨rfl, hs⟩
  have HM := Lib.hid (HM0.out.keep hs)
  have cq := HM.out.pb.c
  clear hs HM0
  cases b1
  · go_wp2_with fail
    go_ret
    exact ⟨by rw [HQ.out] <;> rfl, HM.out.mb.since⟩
  · go_wp2_with fail
    have hZ := few20_any HM.out.pb.inn
    unfold plVal at hZ
    rw [HB2.out] at hZ
    (with_reducible refine Calls.mono hZ ?_)
    clear hZ
    rintro e W3 ⟨rfl, hs⟩
    have HM := Lib.hid (HM.out.keep hs)
    clear hs
    cases b2
    all_goals
      go_wp2_with fail
      go_ret
      exact ⟨by rw [HQ.out] <;> rfl, HM.out.mb.since⟩
theorem large_no {m : Mdl} {P : List (List Un)} (h : largeB m P = false) : m.Small ∧ P.length ≤ 24 ∧ ∀ us ∈ P, us.length ≤ 24 := by
  unfold largeB at h
  rw [Bool.or_eq_false_iff] at h
  have h1 : fewB m = true := by simpa using h.1
  have h2 : fewPB P = true := by simpa using h.2
  unfold fewPB at h2
  rw [Bool.and_eq_true, decide_eq_true_eq, List.all_eq_true] at h2
  exact ⟨fewB_small h1, h2.2, fun us hu => by simpa using h2.1 us hu⟩
end Go.Proofs.Ytpngmodgnkjhnaa
