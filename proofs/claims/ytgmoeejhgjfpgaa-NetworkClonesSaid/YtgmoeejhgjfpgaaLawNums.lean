/- NetworkNumbers: its walk. -/
import Derived.Test.YtgmoeejhgjfpgaaNumP
namespace Go.Proofs.Ytgmoeejhgjfpgaa
open Go Go.RowKit Go.Maps

theorem pk_cells4 {w : World} {b o j : Nat} {ps : List Pk} {p : Pk} {bad : Nat → Prop} (r : RdAt w bad b o (pcells ps)) (h : ps[j]? = some p) :
    w.cell? ⟨b, o + j * 4, none⟩ = some (.int .i64 p.num) ∧ w.cell? ⟨b, o + j * 4 + 1, none⟩ = some (.int .i64 p.frm) ∧ w.cell? ⟨b, o + j * 4 + 2, none⟩ = some (.int .i64 p.to) ∧ w.cell? ⟨b, o + j * 4 + 3, none⟩ = some (.string p.data) := by
  have c0 := r.cell (j * 4 + 0) (.int .i64 p.num) (by rw [pcells_at h 0 (by omega)]; rfl)
  have c1 := r.cell (j * 4 + 1) (.int .i64 p.frm) (by rw [pcells_at h 1 (by omega)]; rfl)
  have c2 := r.cell (j * 4 + 2) (.int .i64 p.to) (by rw [pcells_at h 2 (by omega)]; rfl)
  have c3 := r.cell (j * 4 + 3) (.string p.data) (by rw [pcells_at h 3 (by omega)]; rfl)
  simp only [← Nat.add_assoc, Nat.add_zero] at c0 c1 c2 c3
  exact ⟨c0, c1, c2, c3⟩
theorem op_cells5 {w : World} {b o j : Nat} {l : List Opn} {x : Opn} {bad : Nat → Prop} (r : RdAt w bad b o (ocells l)) (h : l[j]? = some x) :
    w.cell? ⟨b, o + j * 5, none⟩ = some (.int .i64 x.kind) ∧ w.cell? ⟨b, o + j * 5 + 1, none⟩ = some (.int .i64 x.a) ∧ w.cell? ⟨b, o + j * 5 + 2, none⟩ = some (.int .i64 x.b) ∧ w.cell? ⟨b, o + j * 5 + 3, none⟩ = some (.int .i64 x.i) ∧ w.cell? ⟨b, o + j * 5 + 4, none⟩ = some (.string x.data) := by
  have c0 := r.cell (j * 5 + 0) (.int .i64 x.kind) (by rw [ocells_at h 0 (by omega)]; rfl)
  have c1 := r.cell (j * 5 + 1) (.int .i64 x.a) (by rw [ocells_at h 1 (by omega)]; rfl)
  have c2 := r.cell (j * 5 + 2) (.int .i64 x.b) (by rw [ocells_at h 2 (by omega)]; rfl)
  have c3 := r.cell (j * 5 + 3) (.int .i64 x.i) (by rw [ocells_at h 3 (by omega)]; rfl)
  have c4 := r.cell (j * 5 + 4) (.string x.data) (by rw [ocells_at h 4 (by omega)]; rfl)
  simp only [← Nat.add_assoc, Nat.add_zero] at c0 c1 c2 c3 c4
  exact ⟨c0, c1, c2, c3, c4⟩

/-- The network since the call's start. -/
structure NetI (w W : World) (n : Nat) (st : NetSt) (k : Nat) : Prop where
  net : NetOn (fun b => b < w.heap.size) W n st k
  since : Same noB w W
theorem NetI.keep {w W W' : World} {n : Nat} {st : NetSt} {k : Nat} (h : NetI w W n st k) (hs : Same noB W W') : NetI w W' n st k := ⟨h.net.keep hs, h.since.trans' hs⟩
theorem NetI.next {w W W' : World} {n : Nat} {st st' : NetSt} {k k' : Nat} (h : NetI w W n st k) (hn : NetOn (fun b => b < w.heap.size) W' n st' k') (hs : Same (notB (fun b => b < w.heap.size)) W W') : NetI w W' n st' k' :=
  ⟨hn, h.since.trans hs (fun _ hb x => (x hb).elim)⟩

set_option maxHeartbeats 8000000 in
theorem numbers_any {w : World} {v : Value} {l : List Opn} (h : Rd w noB 5 v l.length (ocells l)) (hok : ∀ o ∈ l, o.ok) :
    Calls Try.prog 5 #[v] w fun e w' => e = .returned (.bool true) ∧ Same noB w w' := by
  have H0 := Lib.hid (few_any h 40 (fun o ho => (hok o ho).2.2.2.2))
  by_cases hf : few l 40 = true
  · have hlen := few_len hf
    have hl : l.length ≤ 40 := by omega
    have HU := Lib.hid (acts_upto hok)
    have HNu := Lib.hid (acts_nums l)
    have HLa := Lib.hid (acts_last l)
    have HR := Lib.hid (run_any h hok (by omega))
    obtain ⟨Al, cl, rfl, _, _, h⟩ := h.form
    have H := Lib.hid h
    rw [hf] at H0
    clear h hok hf hlen
    go_enter Try.func5, Try.ntmps5
    go_wp2_with fail
    have hZ := H0.out
    (with_reducible refine Calls.mono hZ ?_)
    clear hZ
    rintro e w1 ⟨rfl, rfl⟩
    go_wp2_with fail
    have hZ := HR.out
    (with_reducible refine Calls.mono hZ ?_)
    clear hZ
    rintro e w2 ⟨n, v', k, rfl, hn, hs, _⟩
    generalize startSt.acts l = st at *
    obtain ⟨A, c, A', c', rfl, _, _⟩ := id hn.ref
    have HI : Hid (NetI w1 w2 n st k) := ⟨hn.on, hs⟩
    clear hn hs
    go_wp2_with fail
    have HI1 : Hid (NetI w1 (w2.alloc (.cells #[.slice A st.ps.length c, .int .i64 st.last, .slice A' st.iso.length c'] 43)) n st k) := HI.out.keep ((Same.refl _ _).alloc _)
    clear HI
    have hZ := pending_on HI1.out.net (HU.out.ps_len (by omega))
    (with_reducible refine Calls.mono hZ ?_)
    clear hZ
    rintro e w3 ⟨v3, rfl, ha⟩
    obtain ⟨A3, c3, rfl, _, hc3, hr3⟩ := (ha.rd (bad := noB) (fun _ e => e.elim)).form
    have HI2 : Hid (NetI w1 w3 n st k ∧ Rd w3 noB 4 (.slice A3 st.ps.length c3) st.ps.length (pcells st.ps)) := ⟨HI1.out.keep ha.since, hr3⟩
    have hpl := HU.out.len
    clear HI1 ha hr3 hc3
    go_wp2_with fail
    go_loopw [6, 28] (fun last i wr => ∃ j : Nat, j ≤ st.ps.length ∧ i = .int .i64 j ∧ last = .int .i64 (lastNum (st.ps.take j)) ∧ Hid (NetI w1 wr n st k ∧ Rd wr noB 4 (.slice A3 st.ps.length c3) st.ps.length (pcells st.ps))) (fun _ i _ => st.ps.length - (intOf i).toNat)
    case atStart => exact ⟨0, Nat.zero_le _, rfl, rfl, HI2⟩
    case round =>
      obtain ⟨j, hj, rfl, rfl, HW⟩ := hrel
      clear HI2
      by_cases hlt : j < st.ps.length
      · obtain ⟨b, o, rfl, r⟩ := HW.out.2.at_ (by omega)
        obtain ⟨p, hp⟩ : ∃ p, st.ps[j]? = some p := ⟨_, List.getElem?_eq_getElem hlt⟩
        obtain ⟨c0, c1, c2, c3⟩ := pk_cells4 r hp
        have HS := Lib.hid (lastNum_step hp)
        have hlt2 := lastNum_lt HNu.out hp
        have hge := lastNum_ge HNu.out j
        clear r hp
        generalize lastNum (st.ps.take j) = z at *
        go_wp2_with fail
        go_roundw
        case rel => exact ⟨j + 1, by omega, by go_num, by rw [HS.out], ⟨HW.out.1.keep ((Same.refl _ _).alloc _), HW.out.2.same ((Same.refl noB _).alloc _) (fun _ _ x => x) (fun _ _ x => x)⟩⟩
        case measure => simp [intOf]; omega
      · obtain rfl : j = st.ps.length := by omega
        have HW1 := Lib.hid HW.out.1
        have hz1 := lastNum_ge HNu.out st.ps.length
        have hz2 := lastNum_le HNu.out st.ps.length
        have hz3 := HLa.out
        have hz4 := HU.out.lastj
        generalize lastNum (st.ps.take st.ps.length) = z at *
        clear HW
        go_wp2_with fail
        go_loopw [9, 41] (fun s i wr => ∃ j : Nat, j ≤ l.length ∧ i = .int .i64 j ∧ s = .int .i64 (sentN (l.take j) : Nat) ∧ Hid (NetI w1 wr n st k)) (fun _ i _ => l.length - (intOf i).toNat)
        case atStart => exact ⟨0, Nat.zero_le _, rfl, rfl, HW1⟩
        case round =>
          obtain ⟨j, hj, rfl, rfl, HV⟩ := hrel
          clear HW1
          by_cases hlt2 : j < l.length
          · obtain ⟨b, o, rfl, r⟩ := H.out.at_ (by omega)
            obtain ⟨x, hx⟩ : ∃ x, l[j]? = some x := ⟨_, List.getElem?_eq_getElem hlt2⟩
            obtain ⟨c0, c1, c2, c3, c4⟩ := op_cells5 r hx
            have g0 := HV.out.since.cell c0 (fun e => e)
            have g1 := HV.out.since.cell c1 (fun e => e)
            have g2 := HV.out.since.cell c2 (fun e => e)
            have g3 := HV.out.since.cell c3 (fun e => e)
            have g4 := HV.out.since.cell c4 (fun e => e)
            have hst := sentN_step hx
            have hsl := sentN_le (l.take j)
            rw [List.length_take] at hsl
            have hsl2 : sentN (l.take j) ≤ 40 := by omega
            clear r hx c0 c1 c2 c3 c4 hsl
            generalize sentN (l.take j) = s at *
            by_cases k0 : x.kind = 0
            · have e0 : (x.kind == 0) = true := by simpa using k0
              rw [e0] at hst
              simp only [Bool.true_or, if_true] at hst
              have HST := Lib.hid hst
              clear hst k0
              go_wp2_with fail
              go_roundw
              case rel => exact ⟨j + 1, by omega, by go_num, by rw [HST.out]; go_num, HV.out.keep ((Same.refl _ _).alloc _)⟩
              case measure => simp [intOf]; omega
            have e0 : (x.kind == 0) = false := by simpa using k0
            by_cases k3 : x.kind = 3
            · have e3 : (x.kind == 3) = true := by simpa using k3
              rw [e0, e3] at hst
              simp only [Bool.false_or, if_true] at hst
              have HST := Lib.hid hst
              clear hst k0 k3
              go_wp2_with fail
              go_roundw
              case rel => exact ⟨j + 1, by omega, by go_num, by rw [HST.out]; go_num, HV.out.keep ((Same.refl _ _).alloc _)⟩
              case measure => simp [intOf]; omega
            have e3 : (x.kind == 3) = false := by simpa using k3
            rw [e0, e3] at hst
            have hst' : sentN (l.take (j + 1)) = s := by simpa using hst
            have HST := Lib.hid hst'
            clear hst hst' k0 k3
            go_wp2_with fail
            go_roundw
            case rel => exact ⟨j + 1, by omega, by go_num, by rw [HST.out], HV.out.keep ((Same.refl _ _).alloc _)⟩
            case measure => simp [intOf]; omega
          · obtain rfl : j = l.length := by omega
            have htk : sentN (l.take l.length) = sentN l := by rw [List.take_length]
            rw [htk]
            clear htk
            have hsl := sentN_le l
            generalize sentN l = s at *
            have hso := HU.out.ok (by omega)
            have HOK := Lib.hid hso
            have HSJ := Lib.hid (sent_joined st)
            clear hso
            go_wp2_with fail
            have hZ := join_on HV.out.net (inI64_of (x := 1) (by decide) (by decide))
            (with_reducible refine Calls.mono hZ ?_)
            clear hZ
            rintro e w4 ⟨rfl, hn, hs⟩
            have HV4 := Lib.hid (HV.out.next hn hs)
            clear hn hs HV
            go_wp2_with fail
            have hZ := join_on HV4.out.net (inI64_of (x := 2) (by decide) (by decide))
            (with_reducible refine Calls.mono hZ ?_)
            clear hZ
            rintro e w5 ⟨rfl, hn, hs⟩
            have HV5 := Lib.hid (HV4.out.next hn hs)
            clear hn hs HV4
            go_wp2_with fail
            have hZ := send_on HV5.out.net ((HOK.out.join 1).join 2) (inI64_of (x := 1) (by decide) (by decide)) (inI64_of (x := 2) (by decide) (by decide)) ⟨#[]⟩
            rw [HSJ.out] at hZ
            (with_reducible refine Calls.mono hZ ?_)
            clear hZ
            rintro e w6 ⟨rfl, hn, hs⟩
            have HV6 := Lib.hid (HV5.out.next hn hs)
            clear hn hs HV5
            go_wp2_with fail
            refine (awake_any _).mono ?_
            rintro e w7 ⟨rfl, hs⟩
            have HS := Lib.hid (HV6.out.since.trans' hs)
            clear hs HV6
            go_wp2_with fail
            go_ret
            exact ⟨rfl, HS.out⟩
  · rw [Bool.not_eq_true] at hf
    rw [hf] at H0
    clear h hok hf
    go_enter Try.func5, Try.ntmps5
    go_wp2_with fail
    have hZ := H0.out
    (with_reducible refine Calls.mono hZ ?_)
    clear hZ
    rintro e w1 ⟨rfl, rfl⟩
    go_wp2_with fail
    refine (awake_any _).mono ?_
    rintro e w4 ⟨rfl, hs⟩
    have HS := Lib.hid hs
    clear hs
    go_wp2_with fail
    go_ret
    exact ⟨rfl, HS.out⟩
end Go.Proofs.Ytgmoeejhgjfpgaa
