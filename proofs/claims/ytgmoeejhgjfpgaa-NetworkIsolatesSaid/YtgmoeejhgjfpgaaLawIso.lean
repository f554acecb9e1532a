/- NetworkIsolates: its walk. -/
import Derived.Test.YtgmoeejhgjfpgaaLawEmp
namespace Go.Proofs.Ytgmoeejhgjfpgaa
open Go Go.RowKit Go.Maps

theorem Two.protect {T : Nat → Prop} {w : World} {n : Nat} {st : NetSt} {k c : Nat} {st2 : NetSt} {k2 : Nat} (h : Two T w n st k c st2 k2) (o : Obj) : Two (fun b => T b ∨ b = w.heap.size) (w.alloc o) n st k c st2 k2 := by
  obtain ⟨h0, S, S2, h1, h2, h3, h4, h5⟩ := h
  have hk : Same noB w (w.alloc o) := (Same.refl _ _).alloc _
  have hz : (w.alloc o).heap.size = w.heap.size + 1 := by simp
  refine ⟨fun b hb => ?_, S, S2, h1.same hk (fun _ _ x => x), h2.same hk (fun _ _ x => x), fun b hb hx => hx.elim (h3 b hb) (fun e => by have := h1.bd b hb; omega), fun b hb hx => hx.elim (h4 b hb) (fun e => by have := h2.bd b hb; omega), h5⟩
  rcases hb with hb | hb
  · have := h0 b hb
    omega
  · omega
theorem Two.weaken {T T' : Nat → Prop} {w : World} {n : Nat} {st : NetSt} {k c : Nat} {st2 : NetSt} {k2 : Nat} (h : Two T w n st k c st2 k2) (hT : ∀ b, T' b → T b) : Two T' w n st k c st2 k2 := by
  obtain ⟨h0, S, S2, h1, h2, h3, h4, h5⟩ := h
  exact ⟨fun b hb => h0 b (hT b hb), S, S2, h1, h2, fun b hb hx => h3 b hb (hT b hx), fun b hb hx => h4 b hb (hT b hx), h5⟩

/-- Two networks since the call's start. -/
structure IsoI (w W : World) (n : Nat) (st : NetSt) (k m : Nat) (st2 : NetSt) (k2 : Nat) : Prop where
  two : Two (fun b => b < w.heap.size) W n st k m st2 k2
  since : Same noB w W
section
variable {w W W' : World} {n : Nat} {st : NetSt} {k m : Nat} {st2 : NetSt} {k2 : Nat}
theorem IsoI.symm (h : IsoI w W n st k m st2 k2) : IsoI w W m st2 k2 n st k := ⟨h.two.symm, h.since⟩
theorem IsoI.keep (h : IsoI w W n st k m st2 k2) (hs : Same noB W W') : IsoI w W' n st k m st2 k2 := ⟨h.two.keep hs, h.since.trans' hs⟩
theorem IsoI.left (h : IsoI w W n st k m st2 k2) : ∃ T', NetOn T' W n st k ∧ ∀ w' st' k', NetOn T' w' n st' k' → Same (notB T') W w' → IsoI w w' n st' k' m st2 k2 := by
  obtain ⟨T', h1, h2⟩ := h.two.left
  exact ⟨T', h1, fun w' st' k' hn hs => ⟨(h2 w' st' k' hn hs).1, h.since.trans (h2 w' st' k' hn hs).2 (fun _ hb x => (x hb).elim)⟩⟩
theorem IsoI.left1 (h : IsoI w W n st k m st2 k2) (o : Obj) : ∃ T', NetOn T' (W.alloc o) n st k ∧ ∀ w' st' k', NetOn T' w' n st' k' → Same (notB T') (W.alloc o) w' → IsoI w w' n st' k' m st2 k2 ∧ w'.heap[W.heap.size]? = (W.alloc o).heap[W.heap.size]? := by
  obtain ⟨T', h1, h2⟩ := (h.two.protect o).left
  have hk : Same noB W (W.alloc o) := (Same.refl _ _).alloc _
  refine ⟨T', h1, fun w' st' k' hn hs => ?_⟩
  obtain ⟨h3, h4⟩ := h2 w' st' k' hn hs
  exact ⟨⟨h3.weaken (fun b hb => .inl hb), (h.since.trans' hk).trans h4 (fun b hb x => (x (.inl hb)).elim)⟩, h4.block _ (by simp) (fun x => x (.inr rfl))⟩
end

theorem inI64_wrap (x : Int) : inI64 (wrap64 x) := by
  unfold inI64 wrap64
  omega
theorem cut_left {st : NetSt} {e : Int} (h : st.iso.contains e = true) (y : Int) (d : ByteArray) : st.sent e y = 0 ∧ st.send e y d = st := by
  unfold NetSt.sent NetSt.send NetSt.cut
  rw [h]
  exact ⟨rfl, rfl⟩
theorem cut_right {st : NetSt} {e : Int} (h : st.iso.contains e = true) (y : Int) (d : ByteArray) : st.sent y e = 0 ∧ st.send y e d = st := by
  unfold NetSt.sent NetSt.send NetSt.cut
  rw [h, Bool.or_true]
  exact ⟨rfl, rfl⟩
theorem isolated_mem (st : NetSt) (e : Int) : (st.isolate e).iso.contains e = true := by simp [NetSt.isolate]
theorem iso_form {st : NetSt} {e : Int} (he : st.iso.contains e = true) (i : Int) : ∃ a b c d q, gotten (st.arrives i) = .tuple #[.agg #[.int .i64 a, .int .i64 b, .int .i64 c, .string d], .bool q] ∧ (q = true → (b == e) = false ∧ (c == e) = false) := by
  unfold NetSt.arrives
  cases st.ps[st.at_ i]? with
  | none => exact ⟨0, 0, 0, .empty, false, rfl, fun h => by cases h⟩
  | some p =>
    by_cases hc : st.cut p.frm p.to = true
    · simp only [hc, if_true]
      exact ⟨0, 0, 0, .empty, false, rfl, fun h => by cases h⟩
    · simp only [hc]
      refine ⟨p.num, p.frm, p.to, p.data, true, rfl, fun _ => ?_⟩
      unfold NetSt.cut at hc
      constructor
      · apply Bool.eq_false_iff.2
        intro hx
        rw [beq_iff_eq.1 hx, he] at hc
        exact hc rfl
      · apply Bool.eq_false_iff.2
        intro hx
        rw [beq_iff_eq.1 hx, he, Bool.or_true] at hc
        exact hc rfl
/-- The state without its first j packets. -/
def NetSt.rest (st : NetSt) (j : Nat) : NetSt := ⟨st.ps.drop j, st.last, st.iso⟩
theorem rest_zero (st : NetSt) : st.rest 0 = st := rfl
theorem at_zero (st : NetSt) : st.at_ 0 = 0 := by unfold NetSt.at_; simp
theorem rest_drop (st : NetSt) (j : Nat) : (st.rest j).drop 0 = st.rest (j + 1) := by
  unfold NetSt.drop
  rw [at_zero]
  unfold NetSt.rest
  rw [List.eraseIdx_zero, List.tail_drop]
theorem NetSt.ok.rest {st : NetSt} (h : st.ok) (j : Nat) : (st.rest j).ok :=
  ⟨by have := h.1; simp only [NetSt.rest, List.length_drop]; omega, h.2.1, h.2.2.1, fun p hp => h.2.2.2 p (List.mem_of_mem_drop hp)⟩
theorem rest_arrives {st : NetSt} {j : Nat} {p : Pk} (h : st.ps[j]? = some p) : (st.rest j).arrives 0 = if st.cut p.frm p.to then none else some p := by
  unfold NetSt.arrives
  rw [at_zero]
  unfold NetSt.rest
  simp only [List.getElem?_drop, Nat.add_zero, h]
  rfl

/-- Two networks beside kept blocks T, since the call's start. -/
structure IsoJ (w W : World) (T : Nat → Prop) (n : Nat) (st : NetSt) (k m : Nat) (st2 : NetSt) (k2 : Nat) : Prop where
  two : Two T W n st k m st2 k2
  tt : ∀ b, b < w.heap.size → T b
  since : Same noB w W
section
variable {w W W' : World} {T : Nat → Prop} {n : Nat} {st : NetSt} {k m : Nat} {st2 : NetSt} {k2 : Nat}
theorem IsoJ.keep (h : IsoJ w W T n st k m st2 k2) (hs : Same noB W W') : IsoJ w W' T n st k m st2 k2 := ⟨h.two.keep hs, h.tt, h.since.trans' hs⟩
theorem IsoJ.left1 (h : IsoJ w W T n st k m st2 k2) (o : Obj) : ∃ T', NetOn T' (W.alloc o) n st k ∧ ∀ w' st' k', NetOn T' w' n st' k' → Same (notB T') (W.alloc o) w' → IsoJ w w' T n st' k' m st2 k2 ∧ w'.heap[W.heap.size]? = (W.alloc o).heap[W.heap.size]? ∧ Same (notB T) W w' := by
  obtain ⟨T', h1, h2⟩ := (h.two.protect o).left
  have hk : Same noB W (W.alloc o) := (Same.refl _ _).alloc _
  refine ⟨T', h1, fun w' st' k' hn hs => ?_⟩
  obtain ⟨h3, h4⟩ := h2 w' st' k' hn hs
  exact ⟨⟨h3.weaken (fun b hb => .inl hb), h.tt, (h.since.trans' hk).trans h4 (fun b hb x => (x (.inl (h.tt b hb))).elim)⟩, h4.block _ (by simp) (fun x => x (.inr rfl)), hk.of_no.trans h4 (fun b _ hb ht => hb (.inl ht))⟩
/-- Behind Pending: its rows are kept from now on. -/
theorem IsoI.pend {wa : World} {v : Value} {len : Nat} {xs : List Value} (h : IsoI w W n st k m st2 k2) (ha : AppAt W wa v len 34 4 xs) : ∃ T, IsoJ w wa T n st k m st2 k2 ∧ Rd wa (notB T) 4 v len xs := by
  obtain ⟨⟨h0, S, S2, h1, h2, h3, h4, h5⟩, hs⟩ := h
  have hz := ha.since.size
  refine ⟨fun b => b < wa.heap.size ∧ ¬ S b ∧ ¬ S2 b, ⟨⟨fun b hb => hb.1, S, S2, h1.same ha.since (fun _ _ x => x), h2.same ha.since (fun _ _ x => x), fun b hb x => x.2.1 hb, fun b hb x => x.2.2 hb, h5⟩, fun b hb => ⟨by have := h0 b hb; omega, fun x => h3 b x hb, fun x => h4 b x hb⟩, hs.trans' ha.since⟩, Rd.of_own ha.own (fun g hg x => x ⟨own_lt ha.own hg, fun y => ?_, fun y => ?_⟩)⟩
  · have := h1.bd g y
    have := ha.new g hg
    omega
  · have := h2.bd g y
    have := ha.new g hg
    omega
end
theorem iso_at {w W : World} {T : Nat → Prop} {n : Nat} {st : NetSt} {j k m : Nat} {st2 : NetSt} {k2 : Nat} (h : Hid (IsoJ w W T n (st.rest j) k m st2 k2)) {x : Int} (hx : Hid (inI64 x)) {q : Bool} (hq : Hid (st.iso.contains x = q)) :
    Calls Try.prog 26 #[.pointer (some ⟨n, 0, none⟩), .int .i64 x] W fun e w' => e = .returned (.bool q) ∧ w' = W := by
  have h1 := isolated_on h.out.two.on hx.out
  have h2 : (st.rest j).iso.contains x = q := hq.out
  rw [h2] at h1
  exact h1

theorem rest_len (st : NetSt) : (st.rest st.ps.length).ps.length = 0 := by simp [NetSt.rest]
theorem natsub (r : Nat) (h : 0 < r) : ((r : Int) - 1) = ((r - 1 : Nat) : Int) := by omega

set_option maxHeartbeats 16000000 in
theorem isolates_any {w : World} {v : Value} {l : List Opn} (h : Rd w noB 5 v l.length (ocells l)) (hok : ∀ o ∈ l, o.ok) {x : Int} (hx : inI64 x) :
    Calls Try.prog 7 #[v, .int .i64 x] w fun e w' => e = .returned (.bool true) ∧ Same noB w w' := by
  have H0 := Lib.hid (few_any h 30 (fun o ho => (hok o ho).2.2.2.2))
  by_cases hf : few l 30 = true
  · have hlen := few_len hf
    have hl : l.length ≤ 40 := by omega
    have HU := Lib.hid (acts_upto hok)
    have HR := Lib.hid (run_any h hok (by omega))
    have Hi := Lib.hid hx
    rw [hf] at H0
    clear h hok hf hlen hx
    go_enter Try.func7, Try.ntmps7
    go_wp2_with fail
    have hZ := H0.out
    (with_reducible refine Calls.mono hZ ?_)
    clear hZ
    rintro e w1 ⟨rfl, rfl⟩
    go_wp2_with fail
    have hZ := HR.out
    (with_reducible refine Calls.mono hZ ?_)
    clear hZ
    rintro e w2 ⟨n, v', k, rfl, hn, hs, hk⟩
    have HOK := Lib.hid (HU.out.ok (by omega))
    generalize startSt.acts l = st0 at *
    obtain ⟨A, c, A', c', rfl, _, _⟩ := id hn.ref
    have HI := Lib.hid (And.intro (hn.on.keep ((Same.refl _ _).alloc (.cells #[.slice A st0.ps.length c, .int .i64 st0.last, .slice A' st0.iso.length c'] 43))) (hs.alloc (.cells #[.slice A st0.ps.length c, .int .i64 st0.last, .slice A' st0.iso.length c'] 43)))
    have HK := Lib.hid hk
    clear hn hs H0 HR HU hk
    go_wp2_with fail
    have hZ := isolate_on HI.out.1 Hi.out (by have := HK.out; omega)
    (with_reducible refine Calls.mono hZ ?_)
    clear hZ
    rintro e w3 ⟨rfl, hn, hs⟩
    have HN3 := Lib.hid hn
    have HS3 : Hid (Same noB w1 w3) := HI.out.2.trans hs (fun _ hb x => (x hb).elim)
    have HOK1 : Hid ((st0.isolate x).ok) := HOK.out
    have HX := Lib.hid (isolated_mem st0 x)
    clear hn hs HI HK HOK
    generalize st0.isolate x = st at *
    generalize k + 1 = k1 at *
    go_wp2_with fail
    have hZ := netclone_any HN3.out HOK1.out.1
    (with_reducible refine Calls.mono hZ ?_)
    clear hZ
    rintro e w4 ⟨m, rfl, hc⟩
    have HI4 : Hid (IsoI w1 w4 n st k1 m st k1) := ⟨Two.start HN3.out hc.since hc, HS3.out.trans' hc.since⟩
    clear hc HN3 HS3
    go_wp2_with fail
    have hZ := isolated_on HI4.out.two.on Hi.out
    rw [HX.out] at hZ
    (with_reducible refine Calls.mono hZ ?_)
    clear hZ
    rintro e w5 ⟨rfl, rfl⟩
    go_wp2_with fail
    obtain ⟨T1, hn, hnx⟩ := HI4.out.left
    have hZ := send_on hn HOK1.out Hi.out (inI64_wrap (x + 1)) ⟨#[120]⟩
    rw [(cut_left HX.out (wrap64 (x + 1)) ⟨#[120]⟩).1, (cut_left HX.out (wrap64 (x + 1)) ⟨#[120]⟩).2] at hZ
    have HNX := Lib.hid hnx
    clear hn hnx
    (with_reducible refine Calls.mono hZ ?_)
    clear hZ
    rintro e w6 ⟨rfl, hn, hs⟩
    have HI6 := Lib.hid (HNX.out _ _ _ hn hs)
    clear hn hs HNX HI4
    go_wp2_with fail
    obtain ⟨T2, hn, hnx⟩ := HI6.out.left
    have hZ := send_on hn HOK1.out (inI64_of (x := 7) (by decide) (by decide)) Hi.out ⟨#[120]⟩
    rw [(cut_right HX.out 7 ⟨#[120]⟩).1, (cut_right HX.out 7 ⟨#[120]⟩).2] at hZ
    have HNX := Lib.hid hnx
    clear hn hnx
    (with_reducible refine Calls.mono hZ ?_)
    clear hZ
    rintro e w7 ⟨rfl, hn, hs⟩
    have HI7 := Lib.hid (HNX.out _ _ _ hn hs)
    clear hn hs HNX HI6
    go_wp2_with fail
    have hZ := len_on HI7.out.two.on
    (with_reducible refine Calls.mono hZ ?_)
    clear hZ
    rintro e w8 ⟨rfl, rfl⟩
    have hlb := HOK1.out.1
    go_wp2_with fail
    go_loopw [9] (fun kk wr => ∃ r : Nat, r ≤ st.ps.length ∧ kk = .int .i64 r ∧ Hid (IsoI w1 wr n (st.rest (st.ps.length - r)) k1 m st k1)) (fun kk _ => (intOf kk).toNat)
    case atStart => exact ⟨st.ps.length, Nat.le_refl _, rfl, by rw [Nat.sub_self]; exact HI7⟩
    case round =>
      obtain ⟨r, hr, rfl, HV⟩ := hrel
      clear HI7
      by_cases hr0 : 0 < r
      · obtain ⟨T3, hn, hnx⟩ := HV.out.left
        have hZ := deliver_on hn (HOK1.out.rest _) (inI64_of (x := 0) (by decide) (by decide))
        obtain ⟨pa, pb, pc, pd, q, hg, hm⟩ := iso_form (st := st.rest (st.ps.length - r)) HX.out 0
        rw [hg, rest_drop] at hZ
        have HZ := Lib.hid hZ
        have HM := Lib.hid hm
        have HNX := Lib.hid hnx
        have hsub := natsub r hr0
        have HSUB := Lib.hid hsub
        clear hn hnx hZ hg hm hsub HV
        have hr1 : (1 : Int) ≤ (r : Int) := by omega
        have hr2 : (r : Int) ≤ 1000000 := by omega
        cases q
        · clear HM
          go_wp2_with fail
          have hZ := HZ.out
          (with_reducible refine Calls.mono hZ ?_)
          clear hZ HZ
          rintro e w8 ⟨rfl, hn, hs⟩
          have HI8 := Lib.hid (HNX.out _ _ _ hn hs)
          clear hn hs HNX
          go_wp2_with fail
          go_roundw
          case rel => exact ⟨r - 1, by omega, by rw [HSUB.out], by rw [show st.ps.length - (r - 1) = st.ps.length - r + 1 from by omega]; exact HI8.out.keep ((Same.refl _ _).alloc _)⟩
          case measure => simp [intOf]; omega
        · obtain ⟨eb, ec⟩ := HM.out rfl
          clear HM
          go_wp2_with fail
          have hZ := HZ.out
          (with_reducible refine Calls.mono hZ ?_)
          clear hZ HZ
          rintro e w8 ⟨rfl, hn, hs⟩
          have HI8 := Lib.hid (HNX.out _ _ _ hn hs)
          clear hn hs HNX
          go_wp2_with fail
          go_roundw
          case rel => exact ⟨r - 1, by omega, by rw [HSUB.out], by rw [show st.ps.length - (r - 1) = st.ps.length - r + 1 from by omega]; exact HI8.out.keep ((Same.refl _ _).alloc _)⟩
          case measure => simp [intOf]; omega
      · obtain rfl : r = 0 := by omega
        have HV0 := Lib.hid HV.out
        rw [Nat.sub_zero] at HV0
        clear HV hr0 hr
        go_wp2_with fail
        obtain ⟨T4, hn, hnx⟩ := HV0.out.symm.left
        have hZ := join_on hn Hi.out
        have HNX := Lib.hid hnx
        clear hn hnx
        (with_reducible refine Calls.mono hZ ?_)
        clear hZ
        rintro e w9 ⟨rfl, hn, hs⟩
        have HI9 := Lib.hid (HNX.out _ _ _ hn hs)
        have HOK2 : Hid ((st.join x).ok) := HOK1.out.join x
        clear hn hs HNX HV0
        generalize st.join x = sj at *
        go_wp2_with fail
        have hZ := pending_on HI9.out.two.on HOK2.out.1
        (with_reducible refine Calls.mono hZ ?_)
        clear hZ
        rintro e wa ⟨va, rfl, ha⟩
        obtain ⟨T5, hj5, hr5⟩ := HI9.out.pend ha
        obtain ⟨A5, c5, rfl, hc51, hc52, hr5⟩ := hr5.form
        have HA := Lib.hid (And.intro hj5 hr5)
        have hsl := HOK2.out.1
        clear ha hj5 hr5 HI9 hc51 hc52
        go_wp2_with fail
        go_loopw [85] (fun i wr => ∃ j : Nat, j ≤ sj.ps.length ∧ i = .int .i64 j ∧ Hid (IsoJ w1 wr T5 m (sj.rest j) k1 n (st.rest st.ps.length) k1 ∧ Rd wr (notB T5) 4 (.slice A5 sj.ps.length c5) sj.ps.length (pcells sj.ps))) (fun i _ => sj.ps.length - (intOf i).toNat)
        case atStart => exact ⟨0, Nat.zero_le _, rfl, HA⟩
        case round =>
          obtain ⟨j, hj, rfl, HW⟩ := hrel
          clear HA
          by_cases hlt : j < sj.ps.length
          · obtain ⟨b, o, rfl, r⟩ := HW.out.2.at_ (by omega)
            obtain ⟨p, hp⟩ : ∃ p, sj.ps[j]? = some p := ⟨_, List.getElem?_eq_getElem hlt⟩
            obtain ⟨c0, c1, c2, c3⟩ := pk_cells4 r hp
            obtain ⟨T6, hn, hnx⟩ := HW.out.1.left1 (.cells #[.int .i64 p.num, .int .i64 p.frm, .int .i64 p.to, .string p.data] 34)
            have hZ := deliver_on hn (HOK2.out.rest j) (inI64_of (x := 0) (by decide) (by decide))
            have hpe := HOK2.out.2.2.2 p (List.mem_of_getElem? hp)
            have HPA := Lib.hid hpe.1
            have HPB := Lib.hid hpe.2
            rw [rest_arrives hp, rest_drop] at hZ
            unfold NetSt.cut at hZ
            obtain ⟨qa, hqa⟩ : ∃ q, sj.iso.contains p.frm = q := ⟨_, rfl⟩
            obtain ⟨qb, hqb⟩ : ∃ q, sj.iso.contains p.to = q := ⟨_, rfl⟩
            rw [hqa, hqb] at hZ
            have HQA := Lib.hid hqa
            have HQB := Lib.hid hqb
            have HNX := Lib.hid hnx
            have hfin : ∀ w', Same (notB T5) wr w' → Rd w' (notB T5) 4 (.slice (some ⟨b, o, none⟩) sj.ps.length c5) sj.ps.length (pcells sj.ps) := fun w' hs => HW.out.2.same hs (fun _ _ x => x) (fun _ _ x => x)
            have HFIN := Lib.hid hfin
            clear r hp hn hnx hpe hqa hqb hfin HW
            cases qa <;> cases qb
            all_goals simp only [Bool.or_false, Bool.or_true, if_true, if_false, gotten, noPk, Pk.val, Bool.false_eq_true] at hZ
            all_goals
              have HZ := Lib.hid hZ
              clear hZ
              go_wp2_with fail
              have hZ := HZ.out
              (with_reducible refine Calls.mono hZ ?_)
              clear hZ HZ
              rintro e wb ⟨rfl, hn, hs⟩
              obtain ⟨hJ, hB, hS⟩ := HNX.out _ _ _ hn hs
              have hBk : Blk wb wr.heap.size 34 #[.int .i64 p.num, .int .i64 p.frm, .int .i64 p.to, .string p.data] := hB.trans (Blk.new wr 34 _)
              have x0 := hBk.cell 0
              have x1 := hBk.cell 1
              have x2 := hBk.cell 2
              have x3 := hBk.cell 3
              have xl := hBk.lt
              have HJ := Lib.hid hJ
              have HR := Lib.hid (HFIN.out _ hS)
              clear hn hs HNX hJ hB hS hBk HFIN c0 c1 c2 c3
              go_wp2_with fail
              refine (iso_at (Lib.hid (HJ.out.keep ((Same.refl _ _).alloc _))) HPA HQA).mono ?_
              rintro e wc ⟨rfl, rfl⟩
              go_wp2_with fail
              try (refine (iso_at (Lib.hid (HJ.out.keep ((Same.refl _ _).alloc _))) HPB HQB).mono ?_; rintro e wc ⟨rfl, rfl⟩; go_wp2_with fail)
              go_roundw
              case rel => exact ⟨j + 1, by omega, by go_num, ⟨HJ.out.keep ((Same.refl _ _).alloc _), HR.out.same ((Same.refl noB _).alloc _) (fun _ _ x => x.elim) (fun _ _ x => x)⟩⟩
              case measure => simp [intOf]; omega
          · obtain rfl : j = sj.ps.length := by omega
            have HW1 := Lib.hid HW.out.1
            clear HW
            go_wp2_with fail
            have hZ := len_on HW1.out.two.symm.on
            rw [rest_len] at hZ
            (with_reducible refine Calls.mono hZ ?_)
            clear hZ
            rintro e wb ⟨rfl, rfl⟩
            go_wp2_with fail
            have hZ := len_on HW1.out.two.on
            rw [rest_len] at hZ
            (with_reducible refine Calls.mono hZ ?_)
            clear hZ
            rintro e wb ⟨rfl, rfl⟩
            go_wp2_with fail
            refine (awake_any _).mono ?_
            rintro e wb ⟨rfl, hs⟩
            have HS := Lib.hid (HW1.out.since.trans' hs)
            clear hs
            go_wp2_with fail
            go_ret
            exact ⟨rfl, HS.out⟩
  · rw [Bool.not_eq_true] at hf
    rw [hf] at H0
    clear h hok hf
    go_enter Try.func7, Try.ntmps7
    go_wp2_with fail
    have hZ := H0.out
    (with_reducible refine Calls.mono hZ ?_)
    clear hZ
    rintro e w1 ⟨rfl, rfl⟩
    go_wp2_with fail
    refine (awake_any _).mono ?_
    rintro e w4 ⟨rfl, hs⟩
    have HS := Lib.hid hs
    clear hs
    go_wp2_with fail
    go_ret
    exact ⟨rfl, HS.out⟩
end Go.Proofs.Ytgmoeejhgjfpgaa
