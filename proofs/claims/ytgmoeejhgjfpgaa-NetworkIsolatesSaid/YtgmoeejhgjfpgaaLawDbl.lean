/- NetworkDoubles: its walk. -/
import Derived.Test.YtgmoeejhgjfpgaaLawNums
namespace Go.Proofs.Ytgmoeejhgjfpgaa
open Go Go.RowKit Go.Maps

theorem double_ps {st : NetSt} {i : Int} {p : Pk} (h : st.ps[st.at_ i]? = some p) : (st.double i).ps = st.ps ++ [⟨st.last + 1, p.frm, p.to, p.data⟩] := by
  unfold NetSt.double
  rw [h]

/-- A law's network beside the model's struct at M, which stays as it was. -/
structure LawI (w W : World) (T : Nat → Prop) (n : Nat) (st : NetSt) (k M : Nat) (st0 : NetSt) (A : Option Addr) (c : Nat) (A' : Option Addr) (c' : Nat) : Prop where
  net : NetOn T W n st k
  ref : RefAt W (notB T) (.agg #[.slice A st0.ps.length c, .int .i64 st0.last, .slice A' st0.iso.length c']) st0
  m : Blk W M 43 #[.slice A st0.ps.length c, .int .i64 st0.last, .slice A' st0.iso.length c']
  mt : T M
  tt : ∀ b, b < w.heap.size → T b
  since : Same noB w W
section
variable {w W W' : World} {T : Nat → Prop} {n : Nat} {st st' : NetSt} {k k' M : Nat} {st0 : NetSt} {A : Option Addr} {c : Nat} {A' : Option Addr} {c' : Nat}
theorem LawI.keep (h : LawI w W T n st k M st0 A c A' c') (hs : Same noB W W') : LawI w W' T n st k M st0 A c A' c' :=
  ⟨h.net.keep hs, h.ref.keep hs, h.m.same hs (fun x => x), h.mt, h.tt, h.since.trans' hs⟩
theorem LawI.next (h : LawI w W T n st k M st0 A c A' c') (hn : NetOn T W' n st' k') (hs : Same (notB T) W W') : LawI w W' T n st' k' M st0 A c A' c' :=
  ⟨hn, h.ref.same hs (fun _ _ x => x) (fun _ _ x => x), h.m.same hs (fun x => x h.mt), h.mt, h.tt, h.since.trans hs (fun b hb x => (x (h.tt b hb)).elim)⟩
theorem LawI.start {w2 : World} (h : NR (fun b => b < w.heap.size) noB w2 n st k (.agg #[.slice A st.ps.length c, .int .i64 st.last, .slice A' st.iso.length c'])) (hs : Same noB w w2) :
    ∃ T, LawI w (w2.alloc (.cells #[.slice A st.ps.length c, .int .i64 st.last, .slice A' st.iso.length c'] 43)) T n st k w2.heap.size st A c A' c' := by
  obtain ⟨h0, _, S, h1, h2, h3⟩ := h
  have hk : Same noB w2 (w2.alloc (.cells #[.slice A st.ps.length c, .int .i64 st.last, .slice A' st.iso.length c'] 43)) := (Same.refl _ _).alloc _
  have hz : (w2.alloc (.cells #[.slice A st.ps.length c, .int .i64 st.last, .slice A' st.iso.length c'] 43)).heap.size = w2.heap.size + 1 := by simp
  refine ⟨fun b => b < w2.heap.size + 1 ∧ ¬ S b, ⟨fun b hb => by rw [hz]; exact hb.1, S, h1.same hk (fun _ _ x => x), fun b hb hx => hx.2 hb⟩, h3.same hk (fun _ _ x => x.elim) (fun b hb hx => ?_), Blk.new _ _ _, ⟨by omega, fun hx => by have := h1.bd _ hx; omega⟩, fun b hb => ⟨by have := h0 b hb; omega, fun hx => h2 b hx hb⟩, hs.trans' hk⟩
  apply Classical.byContradiction
  intro hn
  exact hx ⟨by omega, fun hy => hn (.inl hy)⟩
end

set_option maxHeartbeats 8000000 in
theorem doubles_any {w : World} {v : Value} {l : List Opn} (h : Rd w noB 5 v l.length (ocells l)) (hok : ∀ o ∈ l, o.ok) {i : Int} (hi : inI64 i) :
    Calls Try.prog 6 #[v, .int .i64 i] w fun e w' => e = .returned (.bool true) ∧ Same noB w w' := by
  have H0 := Lib.hid (few_any h 30 (fun o ho => (hok o ho).2.2.2.2))
  by_cases hf : few l 30 = true
  · have hlen := few_len hf
    have hl : l.length ≤ 40 := by omega
    have HU := Lib.hid (acts_upto hok)
    have HR := Lib.hid (run_any h hok (by omega))
    have Hi := Lib.hid hi
    rw [hf] at H0
    clear h hok hf hlen hi
    go_enter Try.func6, Try.ntmps6
    go_wp2_with fail
    have hZ := H0.out
    (with_reducible refine Calls.mono hZ ?_)
    clear hZ
    rintro e w1 ⟨rfl, rfl⟩
    go_wp2_with fail
    have hZ := HR.out
    (with_reducible refine Calls.mono hZ ?_)
    clear hZ
    rintro e w2 ⟨n, v', k, rfl, hn, hs, _⟩
    have HOK := Lib.hid (HU.out.ok (by omega))
    have hpl : (startSt.acts l).ps.length ≤ 40 := by have := HU.out.len; omega
    generalize startSt.acts l = st at *
    obtain ⟨A, c, A', c', rfl, _, _⟩ := id hn.ref
    obtain ⟨T, hL⟩ := LawI.start hn hs
    have HI := Lib.hid hL
    clear hL hn hs H0 HR HU
    go_wp2_with fail
    refine calls_abs (fun W => Hid (LawI w1 W T n st k w2.heap.size st A c A' c')) HI ?_
    clear HI
    generalize w2.heap.size = M at *
    intro W HI
    have hZ := ridx_any HI.out.ref Hi.out
    (with_reducible refine Calls.mono hZ ?_)
    clear hZ
    rintro e w3 ⟨rfl, hs⟩
    have HI3 := Lib.hid (HI.out.keep hs)
    clear HI hs
    by_cases hp : 0 < st.ps.length
    · obtain ⟨p, hpk⟩ : ∃ p, st.ps[st.at_ i]? = some p := ⟨_, List.getElem?_eq_getElem (st.at_lt i hp)⟩
      have hix := st.idx_some i hp
      have hjl := st.at_lt i hp
      have hdp := double_ps hpk
      rw [hix]
      generalize hj : st.at_ i = j at *
      have hD := double_on HI3.out.net HOK.out Hi.out
      rw [decide_eq_true hp] at hD
      have HD := Lib.hid hD
      have HP := Lib.hid hpk
      have HDP := Lib.hid hdp
      have hLEN : (st.double i).ps.length = st.ps.length + 1 := by rw [hdp]; simp
      have HLEN := Lib.hid hLEN
      clear hix hdp hD hpk hj hLEN
      go_wp2_with fail
      have hZ := HD.out
      (with_reducible refine Calls.mono hZ ?_)
      clear hZ
      rintro e w4 ⟨rfl, hn, hs⟩
      have HI4 := Lib.hid (HI3.out.next hn hs)
      clear hn hs HI3 HD
      go_wp2_with fail
      have hZ := pending_on HI4.out.net (by have := HLEN.out; omega)
      rw [HLEN.out, HDP.out] at hZ
      (with_reducible refine Calls.mono hZ ?_)
      clear hZ
      rintro e w5 ⟨v5, rfl, ha⟩
      have HI5 := Lib.hid (HI4.out.keep ha.since)
      obtain ⟨A5, c5, rfl, hc51, hc52, hr5⟩ := (ha.rd (bad := noB) (fun _ e => e.elim)).form
      obtain ⟨b, o, rfl, r⟩ := hr5.at_ (by omega)
      obtain ⟨p0, p1, p2, p3⟩ := pk_cells4 r (show (st.ps ++ [(⟨st.last + 1, p.frm, p.to, p.data⟩ : Pk)])[j]? = some p by rw [List.getElem?_append_left hjl]; exact HP.out)
      obtain ⟨q0, q1, q2, q3⟩ := pk_cells4 r (show (st.ps ++ [(⟨st.last + 1, p.frm, p.to, p.data⟩ : Pk)])[st.ps.length]? = some ⟨st.last + 1, p.frm, p.to, p.data⟩ by simp)
      have hpre := hr5.pre (k := st.ps.length) (by omega) (by omega)
      have htk : (pcells (st.ps ++ [(⟨st.last + 1, p.frm, p.to, p.data⟩ : Pk)])).take (st.ps.length * 4) = pcells st.ps := by
        rw [pcells_snoc, List.take_append_of_le_length (by rw [pcells_len]; omega), List.take_of_length_le (by rw [pcells_len]; omega)]
      rw [htk] at hpre
      have HPRE := Lib.hid hpre
      have m0 := HI5.out.m.cell 0
      have hw1 : IntKind.i64.wrap ((st.ps.length : Int) + 1) = (st.ps.length : Int) + 1 := IntWalk.i64_in _ (by omega)
      have hc53 : c5 ≤ 9223372036854775807 := by unfold maxLen at hc52; omega
      have hb1 : (0 : Int) ≤ (st.ps.length : Int) := Int.natCast_nonneg _
      have hb2 : (st.ps.length : Int) ≤ (c5 : Int) := by omega
      have hb3 : st.ps.length ≤ c5 := by omega
      have HI5d := Lib.hid (HI5.out.keep ((Same.refl _ _).drew))
      clear htk hpre ha r hr5 HI4 hc52 HI5
      go_wp2_with fail
      go_region_held3 (fun w' => w'.cell? ⟨M, 0, none⟩ = some (.slice A st.ps.length c))
          (first | (with_reducible assumption) | go_keep)
          ((go_at_call 24; have hZ := rsame_true (HPRE.out.drew) (RefAt.rd1 HI5d.out.ref); (with_reducible refine Calls.mono hZ ?_); clear hZ; rintro e W6 ⟨rfl, hs⟩; have HI6 := Lib.hid (HI5d.out.keep hs); have m0 := HI6.out.m.cell 0; have HS6 := Lib.hid hs; clear hs))
      have g0 := HS6.out.cell p0 (fun e => e)
      have g1 := HS6.out.cell p1 (fun e => e)
      have g2 := HS6.out.cell p2 (fun e => e)
      have g3 := HS6.out.cell p3 (fun e => e)
      have k0 := HS6.out.cell q0 (fun e => e)
      have k1 := HS6.out.cell q1 (fun e => e)
      have k2 := HS6.out.cell q2 (fun e => e)
      have k3 := HS6.out.cell q3 (fun e => e)
      clear p0 p1 p2 p3 q0 q1 q2 q3 HS6
      go_wp2_with fail
      refine wp_abs (fun W7 => (W7.cell? ⟨W6.heap.size, 1, none⟩ = some (.int .i64 p.frm) ∧ W7.cell? ⟨W6.heap.size, 2, none⟩ = some (.int .i64 p.to) ∧ W7.cell? ⟨W6.heap.size, 3, none⟩ = some (.string p.data)) ∧ (W7.cell? ⟨b, o + j * 4 + 1, none⟩ = some (.int .i64 p.frm) ∧ W7.cell? ⟨b, o + j * 4 + 2, none⟩ = some (.int .i64 p.to) ∧ W7.cell? ⟨b, o + j * 4 + 3, none⟩ = some (.string p.data)) ∧ Hid (Same noB w1 W7)) ?_ ?_
      · have hq := Blk.new W6 34 #[.int .i64 (st.last + 1), .int .i64 p.frm, .int .i64 p.to, .string p.data]
        have hk : Same noB W6 (W6.alloc (.cells #[.int .i64 (st.last + 1), .int .i64 p.frm, .int .i64 p.to, .string p.data] 34)) := (Same.refl _ _).alloc _
        exact ⟨⟨hq.cell 1, hq.cell 2, hq.cell 3⟩, ⟨hk.cell g1 (fun e => e), hk.cell g2 (fun e => e), hk.cell g3 (fun e => e)⟩, HI6.out.since.trans' hk⟩
      clear g0 g1 g2 g3 k0 k1 k2 k3 m0 HI6
      generalize W6.heap.size = G at *
      rintro W7 ⟨⟨q1, q2, q3⟩, ⟨p1, p2, p3⟩, HS7⟩
      have HS8 : Hid (Same noB w1 W7.drew) := HS7.out.drew
      have hbj : (0 : Int) ≤ (j : Int) := Int.natCast_nonneg _
      have hbj2 : (j : Int) < (st.ps.length : Int) + 1 := by omega
      have hbj3 : j < st.ps.length + 1 := by omega
      clear HI5d HPRE HLEN HDP HP
      go_region_held3 (fun w' => w'.cell? ⟨G, 1, none⟩ = some (.int .i64 p.frm) ∧ w'.cell? ⟨G, 2, none⟩ = some (.int .i64 p.to) ∧ w'.cell? ⟨G, 3, none⟩ = some (.string p.data) ∧ w'.cell? ⟨b, o + j * 4 + 1, none⟩ = some (.int .i64 p.frm) ∧ w'.cell? ⟨b, o + j * 4 + 2, none⟩ = some (.int .i64 p.to) ∧ w'.cell? ⟨b, o + j * 4 + 3, none⟩ = some (.string p.data))
          (first | (refine ⟨?_, ?_, ?_, ?_, ?_, ?_⟩ <;> with_reducible assumption) | go_keep)
          ((go_at_call 11; have hZ := awake_any W7.drew; (with_reducible refine Calls.mono hZ ?_); clear hZ; rintro e W8 ⟨rfl, hs⟩; have HS9 := Lib.hid (HS8.out.trans' hs); have hs' := (Same.refl noB W7).drew.trans' hs; have z1 := hs'.cell q1 (fun e => e); have z2 := hs'.cell q2 (fun e => e); have z3 := hs'.cell q3 (fun e => e); have y1 := hs'.cell p1 (fun e => e); have y2 := hs'.cell p2 (fun e => e); have y3 := hs'.cell p3 (fun e => e); clear hs hs'))
      all_goals go_wp2_with fail
      all_goals
        go_ret
        exact ⟨rfl, HS9.out⟩
    · have hp0 : st.ps.length = 0 := by omega
      have hix := st.idx_none i hp0
      rw [hix]
      have hD := double_on HI3.out.net HOK.out Hi.out
      rw [decide_eq_false hp, st.double_nil i hp0] at hD
      have HD := Lib.hid hD
      have HP0 := Lib.hid hp0
      clear hix hD hp hp0
      go_wp2_with fail
      have hZ := HD.out
      (with_reducible refine Calls.mono hZ ?_)
      clear hZ
      rintro e w4 ⟨rfl, hn, hs⟩
      have HI4 := Lib.hid (HI3.out.next hn hs)
      clear hn hs HI3 HD
      go_wp2_with fail
      have hZ := pending_on HI4.out.net (by omega)
      rw [HP0.out] at hZ
      (with_reducible refine Calls.mono hZ ?_)
      clear hZ
      rintro e w5 ⟨v5, rfl, ha⟩
      have HI5 := Lib.hid (HI4.out.keep ha.since)
      obtain ⟨A5, c5, rfl, hc51, hc52, hr5⟩ := (ha.rd (bad := noB) (fun _ e => e.elim)).form
      clear ha hr5 HI4 hc51 hc52
      go_wp2_with fail
      refine (awake_any _).mono ?_
      rintro e w6 ⟨rfl, hs⟩
      have HS := Lib.hid (HI5.out.since.trans' hs)
      clear hs
      go_wp2_with fail
      go_ret
      exact ⟨rfl, HS.out⟩
  · rw [Bool.not_eq_true] at hf
    rw [hf] at H0
    clear h hok hf
    go_enter Try.func6, Try.ntmps6
    go_wp2_with fail
    have hZ := H0.out
    (with_reducible refine Calls.mono hZ ?_)
    clear hZ
    rintro e w1 ⟨rfl, rfl⟩
    go_wp2_with fail
    refine (awake_any _).mono ?_
    rintro e w4 ⟨rfl, hs⟩
    have HS := Lib.hid hs
    clear hs
    go_wp2_with fail
    go_ret
    exact ⟨rfl, HS.out⟩
end Go.Proofs.Ytgmoeejhgjfpgaa
