/- The walk of NetworkConserves. -/
import Derived.Test.YtgmoeejhgjfpgaaNetI
namespace Go.Proofs.Ytgmoeejhgjfpgaa
open Go Go.RowKit

theorem zero3 (w : World) : (zeroValue 3).run Try.prog w = .ok (.int .i64 0) w := by kernel_rfl
/-- How often each packet was counted. -/
def SentIs (w : World) (b : Nat) (c : Pk → Nat) : Prop := ∃ n f, MapF eP w b n f ∧ ∀ q, (f q).getD (.int .i64 0) = .int .i64 (c q)
/-- Which numbers are marked. -/
def SeenIs (w : World) (b : Nat) (s : Int → Bool) : Prop := ∃ n g, MapF eI w b n g ∧ ∀ x, (g x).getD (.bool false) = .bool (s x)

theorem SentIs.made (w : World) : SentIs (w.alloc (.map #[] 0)) w.heap.size (fun _ => 0) := ⟨0, _, MapF.made eP w, fun _ => rfl⟩
theorem SeenIs.made (w : World) : SeenIs (w.alloc (.map #[] 0)) w.heap.size (fun _ => false) := ⟨0, _, MapF.made eI w, fun _ => rfl⟩
theorem SentIs.same {S : Nat → Prop} {w w' : World} {b : Nat} {c : Pk → Nat} (h : SentIs w b c) (hs : Same S w w') (hn : ¬ S b) : SentIs w' b c := by
  obtain ⟨n, f, h1, h2⟩ := h
  exact ⟨n, f, h1.same hs hn, h2⟩
theorem SeenIs.same {S : Nat → Prop} {w w' : World} {b : Nat} {s : Int → Bool} (h : SeenIs w b s) (hs : Same S w w') (hn : ¬ S b) : SeenIs w' b s := by
  obtain ⟨n, f, h1, h2⟩ := h
  exact ⟨n, f, h1.same hs hn, h2⟩
theorem SentIs.lookup {w : World} {b : Nat} {c : Pk → Nat} (h : SentIs w b c) {q : Pk} (hq : q.ok) : (Instr.lookup 27 (.map (some b)) q.val false).run Try.prog w = .ok (.int .i64 (c q)) w := by
  obtain ⟨n, f, h1, h2⟩ := h
  have := h1.lookup Try.underlying27 (zero3 w) (k := q) hq false
  rw [← h2 q]
  exact this
theorem SeenIs.lookup {w : World} {b : Nat} {s : Int → Bool} (h : SeenIs w b s) {x : Int} (hx : inI64 x) : (Instr.lookup 28 (.map (some b)) (.int .i64 x) false).run Try.prog w = .ok (.bool (s x)) w := by
  obtain ⟨n, f, h1, h2⟩ := h
  have := h1.lookup Try.underlying28 (zero4 w) (k := x) hx false
  rw [← h2 x]
  exact this
theorem SentIs.incr {w : World} {b : Nat} {c : Pk → Nat} (h : SentIs w b c) {q : Pk} (hq : q.ok) :
    ∃ (s : Nat) (w1 w2 : World), (Instr.mapEntry 27 (.map (some b)) q.val).run Try.prog w = .ok (.tuple #[.int .i64 (c q), .int .i64 s]) w1 ∧ (Instr.lookup 27 (.map (some b)) q.val false).run Try.prog w1 = .ok (.int .i64 (c q)) w1 ∧
      (Instr.entryStore 27 (.map (some b)) (.int .i64 s) (.int .i64 ((c q : Int) + 1))).run Try.prog w1 = .ok () w2 ∧ SentIs w2 b (bump c q) ∧ Same (oneB b) w w2 := by
  obtain ⟨n, f, h1, h2⟩ := h
  obtain ⟨s, w1, r1, _, m1, r2⟩ := h1.entry Try.underlying27 (zero3 w) (k := q) hq
  obtain ⟨w2, r3, m2, g2⟩ := r2 (.int .i64 ((c q : Int) + 1))
  refine ⟨s, w1, w2, ?_, ?_, r3, ⟨_, _, m2, fun p => ?_⟩, (Same.of_grown g2).mono (fun x _ e => by injection e)⟩
  · rw [← h2 q]
    exact r1
  · have := m1.lookup Try.underlying27 (zero3 w1) (k := q) hq false
    have e : upd f q ((f q).getD (.int .i64 0)) q = some ((f q).getD (.int .i64 0)) := by simp [upd]
    rw [e] at this
    rw [← h2 q]
    exact this
  · unfold upd bump
    split
    · simp
    · exact h2 p
theorem SeenIs.mark {w : World} {b : Nat} {s : Int → Bool} (h : SeenIs w b s) {x : Int} (hx : inI64 x) (y : Bool) :
    ∃ w', (Instr.mapUpdate 28 (.map (some b)) (.int .i64 x) (.bool y)).run Try.prog w = .ok () w' ∧ SeenIs w' b (setS s x y) ∧ Same (oneB b) w w' := by
  obtain ⟨n, f, h1, h2⟩ := h
  obtain ⟨w', r1, m1, g1⟩ := h1.store Try.underlying28 (k := x) hx (.bool y)
  refine ⟨w', r1, ⟨_, _, m1, fun p => ?_⟩, (Same.of_grown g1).mono (fun x _ e => by injection e)⟩
  unfold upd setS
  split
  · simp
  · exact h2 p

/-- The memory of NetworkConserves. -/
structure CMem (T : Nat → Prop) (bs bm n : Nat) (w0 w : World) (st : NetSt) (kk : Nat) (c : Pk → Nat) (s : Int → Bool) : Prop where
  net : NetOn T w n st kk
  sent : SentIs w bs c
  seen : SeenIs w bm s
  since : Same noB w0 w
  told : ∀ b, b < w0.heap.size → T b
  ts : T bs
  tm : T bm
  old : w0.heap.size ≤ bs ∧ w0.heap.size ≤ bm
  ne : bs ≠ bm

section
variable {T : Nat → Prop} {bs bm n : Nat} {w0 w w' : World} {st st' : NetSt} {kk kk' : Nat} {c c' : Pk → Nat} {s s' : Int → Bool}
theorem CMem.netop (h : CMem T bs bm n w0 w st kk c s) (hn : NetOn T w' n st' kk') (hs : Same (notB T) w w') : CMem T bs bm n w0 w' st' kk' c s :=
  ⟨hn, h.sent.same hs (fun e => e h.ts), h.seen.same hs (fun e => e h.tm), h.since.trans hs (fun b hb e => absurd (h.told b hb) e), h.told, h.ts, h.tm, h.old, h.ne⟩
theorem CMem.keep (h : CMem T bs bm n w0 w st kk c s) (hs : Same noB w w') : CMem T bs bm n w0 w' st kk c s :=
  ⟨h.net.keep hs, h.sent.same hs (fun e => e), h.seen.same hs (fun e => e), h.since.trans' hs, h.told, h.ts, h.tm, h.old, h.ne⟩
theorem CMem.sentop (h : CMem T bs bm n w0 w st kk c s) (hn : SentIs w' bs c') (hs : Same (oneB bs) w w') : CMem T bs bm n w0 w' st kk c' s :=
  ⟨h.net.next hs (fun b _ e => by rw [show b = bs from e]; exact h.ts), hn, h.seen.same hs (fun e => h.ne e.symm), h.since.trans hs (fun b hb e => absurd h.old.1 (by rw [show b = bs from e] at hb; omega)), h.told, h.ts, h.tm, h.old, h.ne⟩
theorem CMem.seenop (h : CMem T bs bm n w0 w st kk c s) (hn : SeenIs w' bm s') (hs : Same (oneB bm) w w') : CMem T bs bm n w0 w' st kk c s' :=
  ⟨h.net.next hs (fun b _ e => by rw [show b = bm from e]; exact h.tm), h.sent.same hs (fun e => h.ne e), hn, h.since.trans hs (fun b hb e => absurd h.old.2 (by rw [show b = bm from e] at hb; omega)), h.told, h.ts, h.tm, h.old, h.ne⟩
theorem CMem.protect (h : CMem T bs bm n w0 w st kk c s) (o : Obj) : CMem (fun b => T b ∨ b = w.heap.size) bs bm n w0 (w.alloc o) st kk c s :=
  ⟨h.net.protect o, h.sent.same ((Same.refl noB _).alloc o) (fun e => e), h.seen.same ((Same.refl noB _).alloc o) (fun e => e), h.since.alloc o, fun b hb => .inl (h.told b hb), .inl h.ts, .inl h.tm, h.old, h.ne⟩
theorem CMem.weaken {T' : Nat → Prop} (h : CMem T bs bm n w0 w st kk c s) (hT : ∀ b, T' b → T b) (h1 : ∀ b, b < w0.heap.size → T' b) (h2 : T' bs) (h3 : T' bm) : CMem T' bs bm n w0 w st kk c s :=
  ⟨h.net.weaken hT, h.sent, h.seen, h.since, h1, h2, h3, h.old, h.ne⟩
end

theorem op_cases (k : Int) : k = 0 ∨ k = 1 ∨ k = 2 ∨ k = 3 ∨ k = 4 ∨ k = 5 ∨ ((k == 0) = false ∧ (k == 1) = false ∧ (k == 2) = false ∧ (k == 3) = false ∧ (k == 4) = false ∧ (k == 5) = false) := by
  simp
  omega

set_option maxRecDepth 100000 in
set_option maxHeartbeats 4000000 in
theorem conserves_any {w : World} {v : Value} {l : List Opn} (h : Rd w noB 5 v l.length (ocells l)) (hok : ∀ o ∈ l, o.ok) :
    Calls Try.prog 3 #[v] w fun e w' => e = .returned (.bool true) ∧ Same noB w w' := by
  have hfew := Lib.hid (few_any h 40 (fun o ho => (hok o ho).2.2.2.2))
  by_cases hf : few l 40 = true
  · rw [hf] at hfew
    obtain ⟨A, c, rfl, hnc, hcm, hr⟩ := h.form
    have HR := Lib.hid hr
    have HO := Lib.hid hok
    have hlen : l.length ≤ 40 := by
      unfold few at hf
      simp at hf
      omega
    clear h hf hr hok hcm hnc
    go_enter Try.func3, Try.ntmps3
    go_wp2_with fail
    refine hfew.out.mono ?_
    rintro e w' ⟨rfl, hw⟩
    obtain rfl := hw.symm
    go_wp2_with fail
    refine (new_new w).mono ?_
    rintro e w1 ⟨n, rfl, hn⟩
    have HN := Lib.hid hn
    clear hn hfew
    have hmm := @run_makeMap Try.prog
    go_wp2_with fail
    refine wp_abs (fun W => CMem (fun b => (b < w.heap.size ∨ b = w1.heap.size) ∨ b = w1.heap.size + 1) w1.heap.size (w1.heap.size + 1) n w W ⟨[], 0, []⟩ 0 (fun _ => 0) (fun _ => false)) ?_ ?_
    · have hz := HN.out.since.size
      refine ⟨?_, ?_, ?_, (HN.out.since.alloc _).alloc _, fun b hb => .inl (.inl hb), .inl (.inr rfl), .inr rfl, ⟨hz, by omega⟩, by omega⟩
      · have := (HN.out.on.protect (.map #[] 0)).protect (.map #[] 0)
        simpa using this
      · exact (SentIs.made w1).same ((Same.refl noB _).alloc _) (fun x => x)
      · have := SeenIs.made (w1.alloc (.map #[] 0))
        simpa using this
    clear HN hmm
    generalize (fun b => (b < w.heap.size ∨ b = w1.heap.size) ∨ b = w1.heap.size + 1) = T
    generalize w1.heap.size + 1 = bm
    generalize w1.heap.size = bs
    intro W hW
    have HW := Lib.hid hW
    clear hW
    go_loopw [5, 6, 25] (fun r a i wr => ∃ (j : Nat) (st : NetSt) (kk : Nat) (c : Pk → Nat) (s : Int → Bool) (rm ad : Nat), j ≤ l.length ∧ i = .int .i64 j ∧ r = .int .i64 rm ∧ a = .int .i64 ad ∧ Hid (CInv j st kk c s rm ad) ∧ Hid (CMem T bs bm n w wr st kk c s)) (fun _ _ i _ => l.length - (intOf i).toNat)
    case atStart => exact ⟨0, _, _, _, _, 0, 0, Nat.zero_le _, rfl, rfl, rfl, CInv.start, HW⟩
    case round =>
      obtain ⟨j, st, kk, cn, sn, rm, ad, hj, rfl, rfl, rfl, HI, HC⟩ := hrel
      by_cases hlt : j < l.length
      · obtain ⟨b, o, rfl, r⟩ := HR.out.at_ (by omega)
        obtain ⟨⟨kd, x, y, i, d⟩, hx⟩ : ∃ x, l[j]? = some x := ⟨_, List.getElem?_eq_getElem hlt⟩
        have r' : RdAt wr noB b o (ocells l) := by
          have hs := HC.out.since
          exact ⟨Nat.lt_of_lt_of_le r.lt hs.size, fun e => e, fun t u hu => hs.cell (r.cell t u hu) (fun e => e)⟩
        have c0 := r'.cell (j * 5 + 0) (.int .i64 kd) (by rw [ocells_at hx 0 (by omega)]; rfl)
        have c1 := r'.cell (j * 5 + 1) (.int .i64 x) (by rw [ocells_at hx 1 (by omega)]; rfl)
        have c2 := r'.cell (j * 5 + 2) (.int .i64 y) (by rw [ocells_at hx 2 (by omega)]; rfl)
        have c3 := r'.cell (j * 5 + 3) (.int .i64 i) (by rw [ocells_at hx 3 (by omega)]; rfl)
        have c4 := r'.cell (j * 5 + 4) (.string d) (by rw [ocells_at hx 4 (by omega)]; rfl)
        obtain ⟨hk1, hx1, hy1, hi1, hd1⟩ := HO.out _ (List.mem_of_getElem? hx)
        rw [Nat.add_zero] at c0
        rw [← Nat.add_assoc] at c1 c2 c3 c4
        clear r r' hx
        go_wp2_with fail
        obtain ⟨W1, hW1⟩ : ∃ W1, W1 = wr.alloc (.cells #[.int .i64 kd, .int .i64 x, .int .i64 y, .int .i64 i, .string d] 30) := ⟨_, rfl⟩
        rw [← hW1]
        have HT : Hid ((∀ b, b < w.heap.size → T b) ∧ T bs ∧ T bm) := ⟨HC.out.told, HC.out.ts, HC.out.tm⟩
        obtain ⟨T1, hT1⟩ : ∃ T1 : Nat → Prop, T1 = fun b => T b ∨ b = wr.heap.size := ⟨_, rfl⟩
        have HM : Hid (CMem T1 bs bm n w W1 st kk cn sn) := by rw [hT1, hW1]; exact HC.out.protect _
        have HW1 : Hid (∀ b, T b → T1 b) := by rw [hT1]; exact fun b hb => .inl hb
        have HB1 : Hid (T1 wr.heap.size) := by rw [hT1]; exact .inr rfl
        have HB : Hid (Blk W1 wr.heap.size 30 #[.int .i64 kd, .int .i64 x, .int .i64 y, .int .i64 i, .string d]) := by rw [hW1]; exact Blk.new _ _ _
        clear hW1 hT1 HC c0 c1 c2 c3 c4
        generalize wr.heap.size = B at *
        have b0 : W1.cell? ⟨B, 0, none⟩ = some (.int .i64 kd) := HB.out.cell 0
        have b1 : W1.cell? ⟨B, 1, none⟩ = some (.int .i64 x) := HB.out.cell 1
        have b2 : W1.cell? ⟨B, 2, none⟩ = some (.int .i64 y) := HB.out.cell 2
        have b3 : W1.cell? ⟨B, 3, none⟩ = some (.int .i64 i) := HB.out.cell 3
        have b4 : W1.cell? ⟨B, 4, none⟩ = some (.string d) := HB.out.cell 4
        have hok1 := HI.out.ok (by omega)
        have hadb := HI.out.adb
        have hcnt := HI.out.cnt
        have hkb := HI.out.kk
        have hrm : rm ≤ ad := by omega
        have hpl := HI.out.len
        have HCNT := Lib.hid hcnt
        clear hcnt
        refine (len_on HM.out.net).mono ?_
        rintro e w' ⟨rfl, hw⟩
        obtain rfl := hw.symm
        rcases op_cases kd with rfl | rfl | rfl | rfl | rfl | rfl | ⟨e0, e1, e2, e3, e4, e5⟩
        · by_cases hc : st.cut x y = true
          · have hq : (((st.send x y d).ps.length : Int) != (ad : Int) - (rm : Int)) = false := by have := HCNT.out; have := (HI.out.sendNot (d := d) hc).cnt; simp; omega
            have hcall := send_on HM.out.net hok1 hx1 hy1 d
            have hst : st.sent x y = 0 := by unfold NetSt.sent; rw [if_pos hc]
            rw [hst] at hcall
            have HK := Lib.hid hcall
            have HV := Lib.hid (HI.out.sendNot (d := d) hc)
            clear hcall hc hst
            go_wp2_with fail
            refine HK.out.mono ?_
            rintro e w2 ⟨rfl, hn2, hs2⟩
            have HD := Lib.hid (HM.out.netop hn2 hs2)
            clear hn2 hs2
            go_wp2_with fail
            refine (len_on (HD.out).net).mono ?_
            rintro e w9 ⟨rfl, hw⟩
            obtain rfl := hw.symm
            go_wp2_with fail
            exact ⟨⟨j + 1, _, _, _, _, rm, ad, by omega, by go_num, rfl, rfl, HV.out, (HD.out).weaken HW1.out HT.out.1 HT.out.2.1 HT.out.2.2⟩, by simp [intOf]; omega⟩
          · rw [Bool.not_eq_true] at hc
            have hq : (((st.send x y d).ps.length : Int) != ((ad : Int) + 1) - (rm : Int)) = false := by have := HCNT.out; have := (HI.out.send hx1 hy1 hd1 hc).cnt; simp; omega
            have hcall := send_on HM.out.net hok1 hx1 hy1 d
            have hst : st.sent x y = st.last + 1 := by unfold NetSt.sent; rw [if_neg (by rw [hc]; simp)]
            rw [hst] at hcall
            have hl0 := HI.out.last0
            have HK := Lib.hid hcall
            have HV := Lib.hid (HI.out.send hx1 hy1 hd1 hc)
            have hmb := HI.out.cb ⟨0, x, y, d⟩
            clear hcall hc hst
            go_wp2_with fail
            refine HK.out.mono ?_
            rintro e w2 ⟨rfl, hn2, hs2⟩
            have HD := Lib.hid (HM.out.netop hn2 hs2)
            have HB2 := Lib.hid (HB.out.same hs2 (fun e => e HB1.out))
            have d1 : w2.cell? ⟨B, 1, none⟩ = some (.int .i64 x) := HB2.out.cell 1
            have d2 : w2.cell? ⟨B, 2, none⟩ = some (.int .i64 y) := HB2.out.cell 2
            have d4 : w2.cell? ⟨B, 4, none⟩ = some (.string d) := HB2.out.cell 4
            have hqk : Pk.ok ⟨0, x, y, d⟩ := ⟨inI64_zero, hx1, hy1, hd1⟩
            have hsd : SentIs w2.drew bs cn := HD.out.sent.same ((Same.refl noB w2).drew) (fun e => e)
            have hlk := hsd.lookup hqk
            obtain ⟨sk, w3, w4, hme, hlk2, hes, hm4, hg4⟩ := hsd.incr hqk
            have HD4 := Lib.hid ((HD.out.keep ((Same.refl noB w2).drew)).sentop hm4 hg4)
            simp only [Pk.val] at hlk hme hlk2
            generalize cn ⟨0, x, y, d⟩ = m at hlk hme hlk2 hes hmb
            have hwr : IntKind.i64.wrap ((m : Int) + 1) = (m : Int) + 1 := IntWalk.i64_in _ (by omega)
            clear hn2 hs2 hqk hsd hm4 hg4
            go_wp2_with fail
            go_region
            all_goals
              go_wp2_with fail
              refine (len_on (HD4.out).net).mono ?_
              rintro e w9 ⟨rfl, hw⟩
              obtain rfl := hw.symm
              go_wp2_with fail
              exact ⟨⟨j + 1, _, _, _, _, rm, ad + 1, by omega, by go_num, rfl, by go_num, HV.out, (HD4.out).weaken HW1.out HT.out.1 HT.out.2.1 HT.out.2.2⟩, by simp [intOf]; omega⟩
        · by_cases hp : 0 < st.ps.length
          · obtain ⟨⟨pn, pf, pt, pd⟩, hpk⟩ : ∃ p, st.ps[st.at_ i]? = some p := ⟨_, List.getElem?_eq_getElem (st.at_lt i hp)⟩
            by_cases hc : st.cut pf pt = true
            · have har : st.arrives i = none := by unfold NetSt.arrives; rw [hpk]; exact if_pos hc
              clear hc hpk
              rcases (by omega : 1 < st.ps.length ∨ st.ps.length ≤ 1) with hp2 | hp2
              · have hq : (((st.drop i).ps.length : Int) != (ad : Int) - ((rm : Int) + 1)) = false := by have := HCNT.out; have := (HI.out.drop i (by omega)).cnt; simp; omega
                have hcall := deliver_on HM.out.net hok1 hi1
                have hg : gotten (st.arrives i) = .tuple #[.agg #[.int .i64 0, .int .i64 0, .int .i64 0, .string .empty], .bool false] := by rw [har]; rfl
                rw [hg] at hcall
                have HK := Lib.hid hcall
                have HV := Lib.hid ((HI.out.drop i (by omega)).mark0)
                clear hcall hg
                go_wp2_with fail
                refine HK.out.mono ?_
                rintro e w2 ⟨rfl, hn2, hs2⟩
                have HD := Lib.hid ((HM.out.netop hn2 hs2).keep ((Same.refl noB w2).alloc (.cells #[.int .i64 0, .int .i64 0, .int .i64 0, .string .empty] 34)))
                obtain ⟨w3, hmu, hm3, hg3⟩ := HD.out.seen.mark inI64_zero false
                have HD3 := Lib.hid (HD.out.seenop hm3 hg3)
                clear hn2 hs2 hm3 hg3
                go_wp2_with fail
                refine (len_on (HD3.out).net).mono ?_
                rintro e w9 ⟨rfl, hw⟩
                obtain rfl := hw.symm
                go_wp2_with fail
                exact ⟨⟨j + 1, _, _, _, _, rm + 1, ad, by omega, by go_num, by go_num, rfl, HV.out, (HD3.out).weaken HW1.out HT.out.1 HT.out.2.1 HT.out.2.2⟩, by simp [intOf]; omega⟩
              · have hq : (((st.drop i).ps.length : Int) != (ad : Int) - ((rm : Int) + (st.ps.length : Int))) = false := by have := HCNT.out; have := (HI.out.drop i (by omega)).cnt; simp; omega
                have hcall := deliver_on HM.out.net hok1 hi1
                have hg : gotten (st.arrives i) = .tuple #[.agg #[.int .i64 0, .int .i64 0, .int .i64 0, .string .empty], .bool false] := by rw [har]; rfl
                rw [hg] at hcall
                have HK := Lib.hid hcall
                have HV := Lib.hid ((HI.out.drop i (by omega)).mark0)
                clear hcall hg
                go_wp2_with fail
                refine HK.out.mono ?_
                rintro e w2 ⟨rfl, hn2, hs2⟩
                have HD := Lib.hid ((HM.out.netop hn2 hs2).keep ((Same.refl noB w2).alloc (.cells #[.int .i64 0, .int .i64 0, .int .i64 0, .string .empty] 34)))
                obtain ⟨w3, hmu, hm3, hg3⟩ := HD.out.seen.mark inI64_zero false
                have HD3 := Lib.hid (HD.out.seenop hm3 hg3)
                clear hn2 hs2 hm3 hg3
                go_wp2_with fail
                refine (len_on (HD3.out).net).mono ?_
                rintro e w9 ⟨rfl, hw⟩
                obtain rfl := hw.symm
                go_wp2_with fail
                exact ⟨⟨j + 1, _, _, _, _, rm + 1, ad, by omega, by go_num, by go_num, rfl, HV.out, (HD3.out).weaken HW1.out HT.out.1 HT.out.2.1 HT.out.2.2⟩, by simp [intOf]; omega⟩
            · have har : st.arrives i = some ⟨pn, pf, pt, pd⟩ := by unfold NetSt.arrives; rw [hpk]; exact if_neg hc
              clear hc
              rcases (by omega : 1 < st.ps.length ∨ st.ps.length ≤ 1) with hp2 | hp2
              · have hq : (((st.drop i).ps.length : Int) != (ad : Int) - ((rm : Int) + 1)) = false := by have := HCNT.out; have := (HI.out.deliver hpk).cnt; simp; omega
                have hcall := deliver_on HM.out.net hok1 hi1
                have hg : gotten (st.arrives i) = .tuple #[.agg #[.int .i64 pn, .int .i64 pf, .int .i64 pt, .string pd], .bool true] := by rw [har]; rfl
                rw [hg] at hcall
                have HK := Lib.hid hcall
                have HV := Lib.hid (HI.out.deliver hpk)
                have hpm := List.mem_of_getElem? hpk
                have hpo := HI.out.pok _ hpm
                have hpn := HI.out.numb _ hpm
                have hpn' : inI64 pn := inI64_of (by have : 1 ≤ pn := hpn.1; omega) (by have : pn ≤ st.last := hpn.2; have := HI.out.lastj; omega)
                have hsn : sn pn = false := HI.out.seen _ hpm
                have hcn : cn ⟨0, pf, pt, pd⟩ ≠ 0 := HI.out.sent _ hpm
                have hcz : ((cn ⟨0, pf, pt, pd⟩ : Int) == 0) = false := by simp; exact hcn
                have HCZ := Lib.hid hcz
                have HSN := Lib.hid hsn
                clear hcall hg hpk hpm hpn hsn hcn hcz
                go_wp2_with fail
                refine HK.out.mono ?_
                rintro e w2 ⟨rfl, hn2, hs2⟩
                have HD := Lib.hid ((HM.out.netop hn2 hs2).keep ((Same.refl noB w2).alloc (.cells #[.int .i64 0, .int .i64 pf, .int .i64 pt, .string pd] 34)))
                have hlk := HD.out.sent.lookup (q := ⟨0, pf, pt, pd⟩) ⟨inI64_zero, hpo⟩
                have hls := HD.out.seen.lookup hpn'
                obtain ⟨w3, hmu, hm3, hg3⟩ := HD.out.seen.mark hpn' true
                have HD3 := Lib.hid (HD.out.seenop hm3 hg3)
                rw [HSN.out] at hls
                have hcz := HCZ.out
                simp only [Pk.val] at hlk
                generalize cn ⟨0, pf, pt, pd⟩ = m at hlk hcz HCZ
                clear hn2 hs2 hm3 hg3 hpo hpn' HSN HCZ
                go_wp2_with fail
                refine (len_on (HD3.out).net).mono ?_
                rintro e w9 ⟨rfl, hw⟩
                obtain rfl := hw.symm
                go_wp2_with fail
                exact ⟨⟨j + 1, _, _, _, _, rm + 1, ad, by omega, by go_num, by go_num, rfl, HV.out, (HD3.out).weaken HW1.out HT.out.1 HT.out.2.1 HT.out.2.2⟩, by simp [intOf]; omega⟩
              · have hq : (((st.drop i).ps.length : Int) != (ad : Int) - ((rm : Int) + (st.ps.length : Int))) = false := by have := HCNT.out; have := (HI.out.deliver hpk).cnt; simp; omega
                have hcall := deliver_on HM.out.net hok1 hi1
                have hg : gotten (st.arrives i) = .tuple #[.agg #[.int .i64 pn, .int .i64 pf, .int .i64 pt, .string pd], .bool true] := by rw [har]; rfl
                rw [hg] at hcall
                have HK := Lib.hid hcall
                have HV := Lib.hid (HI.out.deliver hpk)
                have hpm := List.mem_of_getElem? hpk
                have hpo := HI.out.pok _ hpm
                have hpn := HI.out.numb _ hpm
                have hpn' : inI64 pn := inI64_of (by have : 1 ≤ pn := hpn.1; omega) (by have : pn ≤ st.last := hpn.2; have := HI.out.lastj; omega)
                have hsn : sn pn = false := HI.out.seen _ hpm
                have hcn : cn ⟨0, pf, pt, pd⟩ ≠ 0 := HI.out.sent _ hpm
                have hcz : ((cn ⟨0, pf, pt, pd⟩ : Int) == 0) = false := by simp; exact hcn
                have HCZ := Lib.hid hcz
                have HSN := Lib.hid hsn
                clear hcall hg hpk hpm hpn hsn hcn hcz
                go_wp2_with fail
                refine HK.out.mono ?_
                rintro e w2 ⟨rfl, hn2, hs2⟩
                have HD := Lib.hid ((HM.out.netop hn2 hs2).keep ((Same.refl noB w2).alloc (.cells #[.int .i64 0, .int .i64 pf, .int .i64 pt, .string pd] 34)))
                have hlk := HD.out.sent.lookup (q := ⟨0, pf, pt, pd⟩) ⟨inI64_zero, hpo⟩
                have hls := HD.out.seen.lookup hpn'
                obtain ⟨w3, hmu, hm3, hg3⟩ := HD.out.seen.mark hpn' true
                have HD3 := Lib.hid (HD.out.seenop hm3 hg3)
                rw [HSN.out] at hls
                have hcz := HCZ.out
                simp only [Pk.val] at hlk
                generalize cn ⟨0, pf, pt, pd⟩ = m at hlk hcz HCZ
                clear hn2 hs2 hm3 hg3 hpo hpn' HSN HCZ
                go_wp2_with fail
                refine (len_on (HD3.out).net).mono ?_
                rintro e w9 ⟨rfl, hw⟩
                obtain rfl := hw.symm
                go_wp2_with fail
                exact ⟨⟨j + 1, _, _, _, _, rm + 1, ad, by omega, by go_num, by go_num, rfl, HV.out, (HD3.out).weaken HW1.out HT.out.1 HT.out.2.1 HT.out.2.2⟩, by simp [intOf]; omega⟩
          · have hp2 : st.ps.length ≤ 1 := by omega
            have har : st.arrives i = none := by unfold NetSt.arrives; rw [List.getElem?_eq_none (by omega)]
            have hq : (((st.drop i).ps.length : Int) != (ad : Int) - ((rm : Int) + (st.ps.length : Int))) = false := by have := HCNT.out; have := (HI.out.dropNot i (by omega)).cnt; simp; omega
            have hcall := deliver_on HM.out.net hok1 hi1
            have hg : gotten (st.arrives i) = .tuple #[.agg #[.int .i64 0, .int .i64 0, .int .i64 0, .string .empty], .bool false] := by rw [har]; rfl
            rw [hg] at hcall
            have HK := Lib.hid hcall
            have HV := Lib.hid ((HI.out.dropNot i (by omega)).mark0)
            clear hcall hg
            go_wp2_with fail
            refine HK.out.mono ?_
            rintro e w2 ⟨rfl, hn2, hs2⟩
            have HD := Lib.hid ((HM.out.netop hn2 hs2).keep ((Same.refl noB w2).alloc (.cells #[.int .i64 0, .int .i64 0, .int .i64 0, .string .empty] 34)))
            obtain ⟨w3, hmu, hm3, hg3⟩ := HD.out.seen.mark inI64_zero false
            have HD3 := Lib.hid (HD.out.seenop hm3 hg3)
            clear hn2 hs2 hm3 hg3
            go_wp2_with fail
            refine (len_on (HD3.out).net).mono ?_
            rintro e w9 ⟨rfl, hw⟩
            obtain rfl := hw.symm
            go_wp2_with fail
            exact ⟨⟨j + 1, _, _, _, _, rm, ad, by omega, by go_num, by go_num, rfl, HV.out, (HD3.out).weaken HW1.out HT.out.1 HT.out.2.1 HT.out.2.2⟩, by simp [intOf]; omega⟩
        · rcases (by omega : 1 < st.ps.length ∨ (0 < st.ps.length ∧ st.ps.length ≤ 1) ∨ st.ps.length ≤ 0) with hp | ⟨hp, hp2⟩ | hp
          · have hp0 : 0 < st.ps.length := by omega
            have hq : (((st.drop i).ps.length : Int) != (ad : Int) - ((rm : Int) + 1)) = false := by have := HCNT.out; have := (HI.out.drop i (by omega)).cnt; simp; omega
            have hcall := drop_on HM.out.net hok1 hi1
            rw [decide_eq_true hp0] at hcall
            have HK := Lib.hid hcall
            clear hcall
            go_wp2_with fail
            refine HK.out.mono ?_
            rintro e w2 ⟨rfl, hn2, hs2⟩
            have HD := Lib.hid (HM.out.netop hn2 hs2)
            clear hn2 hs2
            go_wp2_with fail
            refine (len_on (HD.out).net).mono ?_
            rintro e w9 ⟨rfl, hw⟩
            obtain rfl := hw.symm
            go_wp2_with fail
            exact ⟨⟨j + 1, _, _, _, _, rm + 1, ad, by omega, by go_num, by go_num, rfl, HI.out.drop i (by omega), (HD.out).weaken HW1.out HT.out.1 HT.out.2.1 HT.out.2.2⟩, by simp [intOf]; omega⟩
          · have hq : (((st.drop i).ps.length : Int) != (ad : Int) - ((rm : Int) + (st.ps.length : Int))) = false := by have := HCNT.out; have := (HI.out.drop i (by omega)).cnt; simp; omega
            have hcall := drop_on HM.out.net hok1 hi1
            rw [decide_eq_true hp] at hcall
            have HK := Lib.hid hcall
            clear hcall
            go_wp2_with fail
            refine HK.out.mono ?_
            rintro e w2 ⟨rfl, hn2, hs2⟩
            have HD := Lib.hid (HM.out.netop hn2 hs2)
            clear hn2 hs2
            go_wp2_with fail
            refine (len_on (HD.out).net).mono ?_
            rintro e w9 ⟨rfl, hw⟩
            obtain rfl := hw.symm
            go_wp2_with fail
            exact ⟨⟨j + 1, _, _, _, _, rm + 1, ad, by omega, by go_num, by go_num, rfl, HI.out.drop i (by omega), (HD.out).weaken HW1.out HT.out.1 HT.out.2.1 HT.out.2.2⟩, by simp [intOf]; omega⟩
          · have hq : (((st.drop i).ps.length : Int) != (ad : Int) - ((rm : Int) + (st.ps.length : Int))) = false := by have := HCNT.out; have := (HI.out.dropNot i (by omega)).cnt; simp; omega
            have hcall := drop_on HM.out.net hok1 hi1
            rw [decide_eq_false (by omega : ¬ 0 < st.ps.length)] at hcall
            have HK := Lib.hid hcall
            clear hcall
            go_wp2_with fail
            refine HK.out.mono ?_
            rintro e w2 ⟨rfl, hn2, hs2⟩
            have HD := Lib.hid (HM.out.netop hn2 hs2)
            clear hn2 hs2
            go_wp2_with fail
            refine (len_on (HD.out).net).mono ?_
            rintro e w9 ⟨rfl, hw⟩
            obtain rfl := hw.symm
            go_wp2_with fail
            exact ⟨⟨j + 1, _, _, _, _, rm, ad, by omega, by go_num, by go_num, rfl, HI.out.dropNot i (by omega), (HD.out).weaken HW1.out HT.out.1 HT.out.2.1 HT.out.2.2⟩, by simp [intOf]; omega⟩
        · by_cases hp : 0 < st.ps.length
          · have hq : (((st.double i).ps.length : Int) != ((ad : Int) + 1) - (rm : Int)) = false := by have := HCNT.out; have := (HI.out.double i hp).cnt; simp; omega
            have hcall := double_on HM.out.net hok1 hi1
            rw [decide_eq_true hp] at hcall
            have HK := Lib.hid hcall
            clear hcall
            go_wp2_with fail
            refine HK.out.mono ?_
            rintro e w2 ⟨rfl, hn2, hs2⟩
            have HD := Lib.hid (HM.out.netop hn2 hs2)
            clear hn2 hs2
            go_wp2_with fail
            refine (len_on (HD.out).net).mono ?_
            rintro e w9 ⟨rfl, hw⟩
            obtain rfl := hw.symm
            go_wp2_with fail
            exact ⟨⟨j + 1, _, _, _, _, rm, ad + 1, by omega, by go_num, rfl, by go_num, HI.out.double i hp, (HD.out).weaken HW1.out HT.out.1 HT.out.2.1 HT.out.2.2⟩, by simp [intOf]; omega⟩
          · have hq : (((st.double i).ps.length : Int) != (ad : Int) - (rm : Int)) = false := by have := HCNT.out; have := (HI.out.doubleNot i hp).cnt; simp; omega
            have hcall := double_on HM.out.net hok1 hi1
            rw [decide_eq_false hp] at hcall
            have HK := Lib.hid hcall
            clear hcall
            go_wp2_with fail
            refine HK.out.mono ?_
            rintro e w2 ⟨rfl, hn2, hs2⟩
            have HD := Lib.hid (HM.out.netop hn2 hs2)
            clear hn2 hs2
            go_wp2_with fail
            refine (len_on (HD.out).net).mono ?_
            rintro e w9 ⟨rfl, hw⟩
            obtain rfl := hw.symm
            go_wp2_with fail
            exact ⟨⟨j + 1, _, _, _, _, rm, ad, by omega, by go_num, rfl, rfl, HI.out.doubleNot i hp, (HD.out).weaken HW1.out HT.out.1 HT.out.2.1 HT.out.2.2⟩, by simp [intOf]; omega⟩
        · have hq : (((st.isolate x).ps.length : Int) != (ad : Int) - (rm : Int)) = false := by have := HCNT.out; have := (HI.out.isolate x).cnt; simp; omega
          have hcall := isolate_on HM.out.net hx1 (by omega)
          have HK := Lib.hid hcall
          clear hcall
          go_wp2_with fail
          refine HK.out.mono ?_
          rintro e w2 ⟨rfl, hn2, hs2⟩
          have HD := Lib.hid (HM.out.netop hn2 hs2)
          clear hn2 hs2
          go_wp2_with fail
          refine (len_on (HD.out).net).mono ?_
          rintro e w9 ⟨rfl, hw⟩
          obtain rfl := hw.symm
          go_wp2_with fail
          exact ⟨⟨j + 1, _, _, _, _, rm, ad, by omega, by go_num, rfl, rfl, HI.out.isolate x, (HD.out).weaken HW1.out HT.out.1 HT.out.2.1 HT.out.2.2⟩, by simp [intOf]; omega⟩
        · have hq : (((st.join x).ps.length : Int) != (ad : Int) - (rm : Int)) = false := by have := HCNT.out; have := (HI.out.join x).cnt; simp; omega
          have hcall := join_on HM.out.net hx1
          have HK := Lib.hid hcall
          clear hcall
          go_wp2_with fail
          refine HK.out.mono ?_
          rintro e w2 ⟨rfl, hn2, hs2⟩
          have HD := Lib.hid (HM.out.netop hn2 hs2)
          clear hn2 hs2
          go_wp2_with fail
          refine (len_on (HD.out).net).mono ?_
          rintro e w9 ⟨rfl, hw⟩
          obtain rfl := hw.symm
          go_wp2_with fail
          exact ⟨⟨j + 1, _, _, _, _, rm, ad, by omega, by go_num, rfl, rfl, HI.out.join x, (HD.out).weaken HW1.out HT.out.1 HT.out.2.1 HT.out.2.2⟩, by simp [intOf]; omega⟩
        · have hq : ((st.ps.length : Int) != (ad : Int) - (rm : Int)) = false := by have := HCNT.out; simp; omega
          go_wp2_with fail
          refine (len_on (HM.out).net).mono ?_
          rintro e w9 ⟨rfl, hw⟩
          obtain rfl := hw.symm
          go_wp2_with fail
          exact ⟨⟨j + 1, _, _, _, _, rm, ad, by omega, by go_num, rfl, rfl, HI.out.idle, (HM.out).weaken HW1.out HT.out.1 HT.out.2.1 HT.out.2.2⟩, by simp [intOf]; omega⟩
      · obtain rfl : j = l.length := by omega
        go_wp2_with fail
        refine (awake_any wr).mono ?_
        rintro e w9 ⟨rfl, hs⟩
        have HS := Lib.hid hs
        clear hs
        go_wp2_with fail
        go_ret
        exact ⟨rfl, HC.out.since.trans' HS.out⟩
  · rw [Bool.not_eq_true] at hf
    rw [hf] at hfew
    clear h hf hok
    go_enter Try.func3, Try.ntmps3
    go_wp2_with fail
    refine hfew.out.mono ?_
    rintro e w' ⟨rfl, hw⟩
    obtain rfl := hw.symm
    go_wp2_with fail
    refine (awake_any w).mono ?_
    rintro e w9 ⟨rfl, hs⟩
    have HS := Lib.hid hs
    clear hs
    go_wp2_with fail
    go_ret
    exact ⟨rfl, HS.out⟩
end Go.Proofs.Ytgmoeejhgjfpgaa
