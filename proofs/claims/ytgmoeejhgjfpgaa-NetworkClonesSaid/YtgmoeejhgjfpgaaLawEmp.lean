/- NetworkEmpty: its walk. -/
import Derived.Test.YtgmoeejhgjfpgaaLawDbl
import Derived.Test.YtgmoeejhgjfpgaaPair
namespace Go.Proofs.Ytgmoeejhgjfpgaa
open Go Go.RowKit Go.Maps

theorem NetSt.drop_idx (st : NetSt) (i : Int) : st.drop (st.at_ i : Int) = st.drop i := by
  have h : st.at_ (st.at_ i : Int) = st.at_ i := by
    unfold NetSt.at_
    by_cases h0 : st.ps.length = 0
    · rw [h0]; simp; omega
    · have h1 := Int.emod_nonneg i (b := (st.ps.length : Int)) (by omega)
      rw [Int.toNat_of_nonneg h1, Int.emod_emod]
  unfold NetSt.drop
  rw [h]
theorem NetSt.ok.drop {st : NetSt} (h : st.ok) (i : Int) : (st.drop i).ok :=
  ⟨by have := List.length_eraseIdx_le st.ps (st.at_ i); have := h.1; simp only [NetSt.drop]; omega, h.2.1, h.2.2.1, fun p hp => h.2.2.2 p (List.mem_of_mem_eraseIdx hp)⟩
theorem gotten_nil {st : NetSt} (i : Int) (h : st.ps.length = 0) : gotten (st.arrives i) = .tuple #[.agg #[.int .i64 0, .int .i64 0, .int .i64 0, .string .empty], .bool false] := by
  unfold NetSt.arrives
  rw [List.getElem?_eq_none (by omega)]
  rfl

set_option maxHeartbeats 8000000 in
theorem empty_any {w : World} {v : Value} {l : List Opn} (h : Rd w noB 5 v l.length (ocells l)) (hok : ∀ o ∈ l, o.ok) {i : Int} (hi : inI64 i) :
    Calls Try.prog 8 #[v, .int .i64 i] w fun e w' => e = .returned (.bool true) ∧ Same noB w w' := by
  have H0 := Lib.hid (few_any h 30 (fun o ho => (hok o ho).2.2.2.2))
  by_cases hf : few l 30 = true
  · have hlen := few_len hf
    have hl : l.length ≤ 40 := by omega
    have HU := Lib.hid (acts_upto hok)
    have HR := Lib.hid (run_any h hok (by omega))
    have Hi := Lib.hid hi
    rw [hf] at H0
    clear h hok hf hlen hi
    go_enter Try.func8, Try.ntmps8
    go_wp2_with fail
    have hZ := H0.out
    (with_reducible refine Calls.mono hZ ?_)
    clear hZ
    rintro e w1 ⟨rfl, rfl⟩
    go_wp2_with fail
    have hZ := HR.out
    (with_reducible refine Calls.mono hZ ?_)
    clear hZ
    rintro e w2 ⟨n, v', k, rfl, hn, hs, _⟩
    have HOK := Lib.hid (HU.out.ok (by omega))
    generalize startSt.acts l = st at *
    obtain ⟨A, c, A', c', rfl, _, _⟩ := id hn.ref
    obtain ⟨T, hL⟩ := LawI.start hn hs
    have HI := Lib.hid hL
    clear hL hn hs H0 HR HU
    go_wp2_with fail
    refine calls_abs (fun W => Hid (LawI w1 W T n st k w2.heap.size st A c A' c')) HI ?_
    clear HI
    generalize w2.heap.size = M at *
    intro W HI
    have hZ := netclone_any HI.out.net HOK.out.1
    (with_reducible refine Calls.mono hZ ?_)
    clear hZ
    rintro e w3 ⟨m, rfl, hc⟩
    have HT := Lib.hid (Two.start HI.out.net hc.since hc)
    have HI3 := Lib.hid (HI.out.keep hc.since)
    clear HI hc
    have m0 := HI3.out.m.cell 0
    have m1 := HI3.out.m.cell 1
    have m2 := HI3.out.m.cell 2
    by_cases hp : st.ps.length = 0
    · have HG := Lib.hid (gotten_nil (st := st) i hp)
      have HD := Lib.hid (And.intro (st.drop_nil i hp) (st.double_nil i hp))
      have hd : decide (0 < st.ps.length) = false := decide_eq_false (by omega)
      have Hd := Lib.hid hd
      have HP0 := Lib.hid hp
      rw [hp] at m0
      clear hd hp HT
      go_wp2_with fail
      have hZ := deliver_on HI3.out.net HOK.out Hi.out
      rw [HG.out, HD.out.1] at hZ
      (with_reducible refine Calls.mono hZ ?_)
      clear hZ
      rintro e w4 ⟨rfl, hn, hs⟩
      have HI4 := Lib.hid (HI3.out.next hn hs)
      clear hn hs HI3
      go_wp2_with fail
      have hZ := drop_on (HI4.out.net.keep ((Same.refl _ _).alloc (.cells #[.int .i64 0, .int .i64 0, .int .i64 0, .string .empty] 34))) HOK.out Hi.out
      rw [HD.out.1, Hd.out] at hZ
      (with_reducible refine Calls.mono hZ ?_)
      clear hZ
      rintro e w5 ⟨rfl, hn, hs⟩
      have HI5 := Lib.hid ((HI4.out.keep ((Same.refl _ _).alloc (.cells #[.int .i64 0, .int .i64 0, .int .i64 0, .string .empty] 34))).next hn hs)
      clear hn hs HI4
      go_wp2_with fail
      have hZ := double_on HI5.out.net HOK.out Hi.out
      rw [HD.out.2, Hd.out] at hZ
      (with_reducible refine Calls.mono hZ ?_)
      clear hZ
      rintro e w6 ⟨rfl, hn, hs⟩
      have HI6 := Lib.hid (HI5.out.next hn hs)
      clear hn hs HI5
      go_wp2_with fail
      have hZ := len_on HI6.out.net
      rw [HP0.out] at hZ
      (with_reducible refine Calls.mono hZ ?_)
      clear hZ
      rintro e w7 ⟨rfl, rfl⟩
      go_wp2_with fail
      refine (awake_any _).mono ?_
      rintro e w8 ⟨rfl, hs⟩
      have HS := Lib.hid (HI6.out.since.trans' hs)
      clear hs
      go_wp2_with fail
      go_ret
      exact ⟨rfl, HS.out⟩
    · have hp' : 0 < st.ps.length := by omega
      have hix := st.idx_some i hp'
      have hjl := st.at_lt i hp'
      have hdj := st.drop_idx i
      have hj64 : inI64 (st.at_ i : Int) := inI64_of (by omega) (by have := HOK.out.1; omega)
      have e0 : ((st.ps.length : Int) == 0) = false := by simpa using hp
      have hd : decide (0 < st.ps.length) = true := decide_eq_true hp'
      have HIX := Lib.hid hix
      have HDJ := Lib.hid hdj
      have HJ := Lib.hid hj64
      have Hd := Lib.hid hd
      generalize st.at_ i = j at *
      clear hix hdj hj64 hd hjl hp hp'
      go_wp2_with fail
      have hZ := ridx_any HI3.out.ref Hi.out
      rw [HIX.out] at hZ
      (with_reducible refine Calls.mono hZ ?_)
      clear hZ
      rintro e w4 ⟨rfl, hs⟩
      have HT4 := Lib.hid (HT.out.keep hs)
      have HS4 : Hid (Same noB w1 w4 ∧ ∀ b, b < w1.heap.size → T b) := ⟨HI3.out.since.trans' hs, HI3.out.tt⟩
      clear hs HT HI3 m0 m1 m2
      go_wp2_with fail
      obtain ⟨T1, hn, hx⟩ := HT4.out.left
      have hZ := drop_on hn HOK.out Hi.out
      rw [Hd.out] at hZ
      have HX := Lib.hid hx
      clear hx hn
      (with_reducible refine Calls.mono hZ ?_)
      clear hZ
      rintro e w5 ⟨rfl, hn, hs⟩
      have HT5 := Lib.hid (HX.out _ _ _ hn hs).1
      have HS5 : Hid (Same noB w1 w5 ∧ ∀ b, b < w1.heap.size → T b) := ⟨HS4.out.1.trans (HX.out _ _ _ hn hs).2 (fun b hb x => (x (HS4.out.2 b hb)).elim), HS4.out.2⟩
      clear hn hs HT4 HS4 HX
      go_wp2_with fail
      obtain ⟨T2, hn, hx⟩ := HT5.out.symm.left
      have hZ := drop_on hn HOK.out HJ.out
      rw [Hd.out, HDJ.out] at hZ
      have HX := Lib.hid hx
      clear hx hn
      (with_reducible refine Calls.mono hZ ?_)
      clear hZ
      rintro e w6 ⟨rfl, hn, hs⟩
      have HT6 := Lib.hid (HX.out _ _ _ hn hs).1
      have HS6 := Lib.hid (HS5.out.1.trans (S := noB) (HX.out _ _ _ hn hs).2 (fun b hb x => (x (HS5.out.2 b hb)).elim))
      clear hn hs HT5 HS5 HX
      go_wp2_with fail
      have hZ := pending_on HT6.out.symm.on (HOK.out.drop i).1
      (with_reducible refine Calls.mono hZ ?_)
      clear hZ
      rintro e w7 ⟨v7, rfl, ha⟩
      have HT7 := Lib.hid (HT6.out.keep ha.since)
      have HS7 := Lib.hid (HS6.out.trans' ha.since)
      have HA7 := Lib.hid (ha.rd (bad := noB) (fun _ e => e.elim))
      clear ha HT6 HS6
      go_wp2_with fail
      have hZ := pending_on HT7.out.on (HOK.out.drop i).1
      (with_reducible refine Calls.mono hZ ?_)
      clear hZ
      rintro e w8 ⟨v8, rfl, ha⟩
      have HS8 := Lib.hid (HS7.out.trans' ha.since)
      have HA7 := Lib.hid (HA7.out.same (bad' := noB) ha.since (fun _ _ x => x) (fun _ _ x => x))
      have HA8 := Lib.hid (ha.rd (bad := noB) (fun _ e => e.elim))
      clear ha HS7 HT7
      go_wp2_with fail
      have hZ := rsame_true HA7.out HA8.out
      (with_reducible refine Calls.mono hZ ?_)
      clear hZ
      rintro e w9 ⟨rfl, hs⟩
      have HS9 := Lib.hid (HS8.out.trans' hs)
      clear hs HS8
      go_wp2_with fail
      refine (awake_any _).mono ?_
      rintro e wa ⟨rfl, hs⟩
      have HS := Lib.hid (HS9.out.trans' hs)
      clear hs HS9
      go_wp2_with fail
      go_ret
      exact ⟨rfl, HS.out⟩
  · rw [Bool.not_eq_true] at hf
    rw [hf] at H0
    clear h hok hf
    go_enter Try.func8, Try.ntmps8
    go_wp2_with fail
    have hZ := H0.out
    (with_reducible refine Calls.mono hZ ?_)
    clear hZ
    rintro e w1 ⟨rfl, rfl⟩
    go_wp2_with fail
    refine (awake_any _).mono ?_
    rintro e w4 ⟨rfl, hs⟩
    have HS := Lib.hid hs
    clear hs
    go_wp2_with fail
    go_ret
    exact ⟨rfl, HS.out⟩
end Go.Proofs.Ytgmoeejhgjfpgaa
