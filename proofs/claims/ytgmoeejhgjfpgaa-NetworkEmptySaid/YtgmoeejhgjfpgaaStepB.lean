/- A step: Send, Drop, Double. (printed by genStepB.py) -/
import Derived.Test.YtgmoeejhgjfpgaaStepA
namespace Go.Proofs.Ytgmoeejhgjfpgaa
open Go Go.RowKit Go.Maps

theorem Blk.far3 {w : World} {g R : Nat} {t : TypeId} {cs : Array Value} (h : Blk w g t cs) (hn : g ≠ R) (a b c : Value) : Blk (((w.setCell ⟨R, 0, none⟩ a).setCell ⟨R, 1, none⟩ b).setCell ⟨R, 2, none⟩ c) g t cs :=
  ((h.far (p := ⟨R, 0, none⟩) hn a).far (p := ⟨R, 1, none⟩) hn b).far (p := ⟨R, 2, none⟩) hn c
theorem NetSt.took_form (st : NetSt) (i : Int) : ∃ a b c d, st.took i = .agg #[.int .i64 a, .int .i64 b, .int .i64 c, .string d] := by
  unfold NetSt.took
  cases st.ps[st.at_ i]? with
  | none => exact ⟨0, 0, 0, .empty, rfl⟩
  | some p => exact ⟨p.num, p.frm, p.to, p.data, rfl⟩

set_option maxHeartbeats 4000000 in
theorem step_send {T L : Nat → Prop} {w : World} {n k : Nat} {st : NetSt} {v : Value} (h : NR T L w n st k v) (ho : st.ok) (o : Opn) (hk0 : o.kind = 0) (hx : inI64 o.a) (hy : inI64 o.b) :
    Calls Try.prog 27 #[.pointer (some ⟨n, 0, none⟩), v, o.val] w fun e w' => ∃ v', e = .returned (.tuple #[v', .bool true]) ∧ NR T L w' n (st.send o.a o.b o.data) k v' ∧ Same (notB T) w w' := by
  obtain ⟨hT, hLL, S, h1, h2, h3⟩ := h
  obtain ⟨A, c, A', c', rfl, _, _⟩ := id h3
  have hL := SLoc.start o hT hLL h1 h2 h3
  clear h1 h2 h3 hT hLL
  unfold Opn.val
  rw [hk0] at *
  obtain ⟨hl1, hl2⟩ := ho.2
  go_enter Try.func27, Try.ntmps27
  go_wp2_with fail
  refine calls_abs (fun W => SLoc w W T L S n st k (.agg #[.slice A st.ps.length c, .int .i64 st.last, .slice A' st.iso.length c']) st o w.heap.size) hL.1 ?_
  clear hL
  generalize w.heap.size = B at *
  intro W hL
  have HX := Lib.hid (rsend_any hL.ref hL.bz o.a o.b o.data ho.1 ⟨ho.2.1, ho.2.2.1⟩)
  have HL := Lib.hid hL
  have HO := Lib.hid ho
  clear hL ho
  refine HX.out.mono ?_
  rintro e W1 ⟨v', rfl, hR', hs1⟩
  obtain ⟨A2, c2, A3, c3, rfl, _, _⟩ := id hR'
  have HL1 := Lib.hid (HL.out.setref hs1 hR')
  clear HL HX hs1 hR'
  obtain ⟨⟨o0, o1, o2, o3, o4⟩, ⟨r0, r1, r2⟩, q0, q1, q2, hlo, hlr⟩ := HL1.out.cells
  go_wp2_with fail
  refine wp_abs (fun W => SLoc w W T L S n st k (.agg #[.slice A2 (st.send o.a o.b o.data).ps.length c2, .int .i64 (st.send o.a o.b o.data).last, .slice A3 (st.send o.a o.b o.data).iso.length c3]) (st.send o.a o.b o.data) o B ∧ Blk W W1.heap.size 43 #[.slice A2 (st.send o.a o.b o.data).ps.length c2, .int .i64 (st.send o.a o.b o.data).last, .slice A3 (st.send o.a o.b o.data).iso.length c3] ∧ Hid (B + 3 ≤ W1.heap.size)) ⟨HL1.out.keep ((Same.refl _ _).alloc _), Blk.new _ _ _, HL1.out.sz⟩ ?_
  clear HL1 o0 o1 o2 o3 o4 r0 r1 r2 q0 q1 q2 hlo hlr
  generalize W1.heap.size = C at *
  generalize hst : st.send o.a o.b o.data = st' at *
  rintro W2 ⟨hL, hC, HBC⟩
  obtain ⟨⟨o0, o1, o2, o3, o4⟩, ⟨r0, r1, r2⟩, q0, q1, q2, hlo, hlr⟩ := hL.cells
  have m0 := hC.cell 0
  have m1 := hC.cell 1
  have m2 := hC.cell 2
  have hltC := hC.lt
  have hD := hL.keep ((Same.refl noB W2).drew)
  have hX := send_any hD.net hx hy o.data HO.out.1 ⟨HO.out.2.1, HO.out.2.2.1⟩
  rw [hst] at hX
  have HX := Lib.hid hX
  clear hX
  have HF := Lib.hid (fun W3 (hn : NetStep S n W2.drew W3 st' k) => And.intro (hD.fin hn rfl) (And.intro (hD.far hn hD.op (by omega)) (And.intro (hD.far hn hD.res (by omega)) (hD.far hn hC.drew (Nat.le_trans (Nat.le_add_right _ _) HBC.out)))))
  have HCR : C ≠ B + 1 + 1 := by have := HBC.out; omega
  have HOR : B + 1 ≠ B + 1 + 1 := by omega
  clear hL hC hD
  go_region_held3 (fun w' => w'.cell? ⟨C, 0, none⟩ = some (.slice A2 st'.ps.length c2) ∧ w'.cell? ⟨C, 1, none⟩ = some (.int .i64 st'.last) ∧ w'.cell? ⟨C, 2, none⟩ = some (.slice A3 st'.iso.length c3) ∧ w'.cell? ⟨B + 1, 1, none⟩ = some (.int .i64 o.a) ∧ w'.cell? ⟨B + 1, 2, none⟩ = some (.int .i64 o.b) ∧ w'.cell? ⟨B + 1, 4, none⟩ = some (.string o.data))
    (first | (refine ⟨?_, ?_, ?_, ?_, ?_, ?_⟩ <;> with_reducible assumption) | go_keep)
    ((have hZ := HX.out; (with_reducible refine Calls.mono hZ ?_); clear hZ; rintro e W3 ⟨rfl, hn⟩; have HN := Lib.hid hn; obtain ⟨_, hO3, hR3, hC3⟩ := HF.out W3 hn; have x0 : W3.cell? ⟨C, 0, none⟩ = some (.slice A2 st'.ps.length c2) := hC3.cell 0; have xx0 : (((W3.setCell ⟨B + 1 + 1, 0, none⟩ (.slice A2 st'.ps.length c2)).setCell ⟨B + 1 + 1, 1, none⟩ (.int .i64 st'.last)).setCell ⟨B + 1 + 1, 2, none⟩ (.slice A3 st'.iso.length c3)).cell? ⟨C, 0, none⟩ = some (.slice A2 st'.ps.length c2) := (Blk.far3 hC3 HCR _ _ _).cell 0; have x1 : W3.cell? ⟨C, 1, none⟩ = some (.int .i64 st'.last) := hC3.cell 1; have xx1 : (((W3.setCell ⟨B + 1 + 1, 0, none⟩ (.slice A2 st'.ps.length c2)).setCell ⟨B + 1 + 1, 1, none⟩ (.int .i64 st'.last)).setCell ⟨B + 1 + 1, 2, none⟩ (.slice A3 st'.iso.length c3)).cell? ⟨C, 1, none⟩ = some (.int .i64 st'.last) := (Blk.far3 hC3 HCR _ _ _).cell 1; have x2 : W3.cell? ⟨C, 2, none⟩ = some (.slice A3 st'.iso.length c3) := hC3.cell 2; have xx2 : (((W3.setCell ⟨B + 1 + 1, 0, none⟩ (.slice A2 st'.ps.length c2)).setCell ⟨B + 1 + 1, 1, none⟩ (.int .i64 st'.last)).setCell ⟨B + 1 + 1, 2, none⟩ (.slice A3 st'.iso.length c3)).cell? ⟨C, 2, none⟩ = some (.slice A3 st'.iso.length c3) := (Blk.far3 hC3 HCR _ _ _).cell 2; have x5 : W3.cell? ⟨B + 1, 1, none⟩ = some (.int .i64 o.a) := hO3.cell 1; have xx5 : (((W3.setCell ⟨B + 1 + 1, 0, none⟩ (.slice A2 st'.ps.length c2)).setCell ⟨B + 1 + 1, 1, none⟩ (.int .i64 st'.last)).setCell ⟨B + 1 + 1, 2, none⟩ (.slice A3 st'.iso.length c3)).cell? ⟨B + 1, 1, none⟩ = some (.int .i64 o.a) := (Blk.far3 hO3 HOR _ _ _).cell 1; have x6 : W3.cell? ⟨B + 1, 2, none⟩ = some (.int .i64 o.b) := hO3.cell 2; have xx6 : (((W3.setCell ⟨B + 1 + 1, 0, none⟩ (.slice A2 st'.ps.length c2)).setCell ⟨B + 1 + 1, 1, none⟩ (.int .i64 st'.last)).setCell ⟨B + 1 + 1, 2, none⟩ (.slice A3 st'.iso.length c3)).cell? ⟨B + 1, 2, none⟩ = some (.int .i64 o.b) := (Blk.far3 hO3 HOR _ _ _).cell 2; have x8 : W3.cell? ⟨B + 1, 4, none⟩ = some (.string o.data) := hO3.cell 4; have xx8 : (((W3.setCell ⟨B + 1 + 1, 0, none⟩ (.slice A2 st'.ps.length c2)).setCell ⟨B + 1 + 1, 1, none⟩ (.int .i64 st'.last)).setCell ⟨B + 1 + 1, 2, none⟩ (.slice A3 st'.iso.length c3)).cell? ⟨B + 1, 4, none⟩ = some (.string o.data) := (Blk.far3 hO3 HOR _ _ _).cell 4; have z0 := hR3.cell 0; have z1 := hR3.cell 1; have z2 := hR3.cell 2; have y0 := hR3.frozen 0; have y1 := hR3.frozen 1; have y2 := hR3.frozen 2; clear hn hR3 hC3 hO3))
  all_goals go_wp2_with fail
  all_goals
    obtain ⟨⟨k1, k2, k3⟩, _⟩ := HF.out W3 HN.out
    exact bodyPost_ret (res_ref rfl k1 rfl rfl) rfl ⟨_, rfl, by rw [hst]; exact k2, k3⟩

set_option maxHeartbeats 4000000 in
theorem step_drop {T L : Nat → Prop} {w : World} {n k : Nat} {st : NetSt} {v : Value} (h : NR T L w n st k v) (ho : st.ok) (o : Opn) (hk0 : o.kind = 2) (hi : inI64 o.i) :
    Calls Try.prog 27 #[.pointer (some ⟨n, 0, none⟩), v, o.val] w fun e w' => ∃ v', e = .returned (.tuple #[v', .bool true]) ∧ NR T L w' n (st.drop o.i) k v' ∧ Same (notB T) w w' := by
  obtain ⟨hT, hLL, S, h1, h2, h3⟩ := h
  obtain ⟨A, c, A', c', rfl, _, _⟩ := id h3
  have hL := SLoc.start o hT hLL h1 h2 h3
  clear h1 h2 h3 hT hLL
  unfold Opn.val
  rw [hk0] at *
  obtain ⟨hl1, hl2⟩ := ho.2
  go_enter Try.func27, Try.ntmps27
  go_wp2_with fail
  refine calls_abs (fun W => SLoc w W T L S n st k (.agg #[.slice A st.ps.length c, .int .i64 st.last, .slice A' st.iso.length c']) st o w.heap.size) hL.1 ?_
  clear hL
  generalize w.heap.size = B at *
  intro W hL
  have HX := Lib.hid (rremove_any (i := o.i) hL.ref hL.bz hi ho.1)
  have HL := Lib.hid hL
  have HO := Lib.hid ho
  clear hL ho
  refine HX.out.mono ?_
  rintro e W1 ⟨v', rfl, hR', hs1⟩
  obtain ⟨A2, c2, A3, c3, rfl, _, _⟩ := id hR'
  have HL1 := Lib.hid (HL.out.setref hs1 hR')
  clear HL HX hs1 hR'
  obtain ⟨ta, tb, tc, td, htk⟩ := st.took_form o.i
  rw [htk]
  obtain ⟨⟨o0, o1, o2, o3, o4⟩, ⟨r0, r1, r2⟩, q0, q1, q2, hlo, hlr⟩ := HL1.out.cells
  go_wp2_with fail
  refine wp_abs (fun W => SLoc w W T L S n st k (.agg #[.slice A2 (st.drop o.i).ps.length c2, .int .i64 (st.drop o.i).last, .slice A3 (st.drop o.i).iso.length c3]) (st.drop o.i) o B ∧ Blk W W1.heap.size 43 #[.slice A2 (st.drop o.i).ps.length c2, .int .i64 (st.drop o.i).last, .slice A3 (st.drop o.i).iso.length c3] ∧ Hid (B + 3 ≤ W1.heap.size)) ⟨HL1.out.keep (((Same.refl _ _).alloc _).alloc _), (Blk.new _ _ _).alloc _, HL1.out.sz⟩ ?_
  clear HL1 o0 o1 o2 o3 o4 r0 r1 r2 q0 q1 q2 hlo hlr
  generalize W1.heap.size = C at *
  generalize hst : st.drop o.i = st' at *
  rintro W2 ⟨hL, hC, HBC⟩
  obtain ⟨⟨o0, o1, o2, o3, o4⟩, ⟨r0, r1, r2⟩, q0, q1, q2, hlo, hlr⟩ := hL.cells
  have m0 := hC.cell 0
  have m1 := hC.cell 1
  have m2 := hC.cell 2
  have hltC := hC.lt
  have hD := hL.keep ((Same.refl noB W2).drew)
  have hX := drop_any (i := o.i) hD.net hi HO.out.1
  rw [hst] at hX
  have HX := Lib.hid hX
  clear hX
  have HF := Lib.hid (fun W3 (hn : NetStep S n W2.drew W3 st' k) => And.intro (hD.fin hn rfl) (And.intro (hD.far hn hD.op (by omega)) (And.intro (hD.far hn hD.res (by omega)) (hD.far hn hC.drew (Nat.le_trans (Nat.le_add_right _ _) HBC.out)))))
  have HCR : C ≠ B + 1 + 1 := by have := HBC.out; omega
  have HOR : B + 1 ≠ B + 1 + 1 := by omega
  clear hL hC hD
  go_region_held3 (fun w' => w'.cell? ⟨C, 0, none⟩ = some (.slice A2 st'.ps.length c2) ∧ w'.cell? ⟨C, 1, none⟩ = some (.int .i64 st'.last) ∧ w'.cell? ⟨C, 2, none⟩ = some (.slice A3 st'.iso.length c3) ∧ w'.cell? ⟨B + 1, 3, none⟩ = some (.int .i64 o.i))
    (first | (refine ⟨?_, ?_, ?_, ?_⟩ <;> with_reducible assumption) | go_keep)
    ((have hZ := HX.out; (with_reducible refine Calls.mono hZ ?_); clear hZ; rintro e W3 ⟨rfl, hn⟩; have HN := Lib.hid hn; obtain ⟨_, hO3, hR3, hC3⟩ := HF.out W3 hn; have x0 : W3.cell? ⟨C, 0, none⟩ = some (.slice A2 st'.ps.length c2) := hC3.cell 0; have xx0 : (((W3.setCell ⟨B + 1 + 1, 0, none⟩ (.slice A2 st'.ps.length c2)).setCell ⟨B + 1 + 1, 1, none⟩ (.int .i64 st'.last)).setCell ⟨B + 1 + 1, 2, none⟩ (.slice A3 st'.iso.length c3)).cell? ⟨C, 0, none⟩ = some (.slice A2 st'.ps.length c2) := (Blk.far3 hC3 HCR _ _ _).cell 0; have x1 : W3.cell? ⟨C, 1, none⟩ = some (.int .i64 st'.last) := hC3.cell 1; have xx1 : (((W3.setCell ⟨B + 1 + 1, 0, none⟩ (.slice A2 st'.ps.length c2)).setCell ⟨B + 1 + 1, 1, none⟩ (.int .i64 st'.last)).setCell ⟨B + 1 + 1, 2, none⟩ (.slice A3 st'.iso.length c3)).cell? ⟨C, 1, none⟩ = some (.int .i64 st'.last) := (Blk.far3 hC3 HCR _ _ _).cell 1; have x2 : W3.cell? ⟨C, 2, none⟩ = some (.slice A3 st'.iso.length c3) := hC3.cell 2; have xx2 : (((W3.setCell ⟨B + 1 + 1, 0, none⟩ (.slice A2 st'.ps.length c2)).setCell ⟨B + 1 + 1, 1, none⟩ (.int .i64 st'.last)).setCell ⟨B + 1 + 1, 2, none⟩ (.slice A3 st'.iso.length c3)).cell? ⟨C, 2, none⟩ = some (.slice A3 st'.iso.length c3) := (Blk.far3 hC3 HCR _ _ _).cell 2; have x7 : W3.cell? ⟨B + 1, 3, none⟩ = some (.int .i64 o.i) := hO3.cell 3; have xx7 : (((W3.setCell ⟨B + 1 + 1, 0, none⟩ (.slice A2 st'.ps.length c2)).setCell ⟨B + 1 + 1, 1, none⟩ (.int .i64 st'.last)).setCell ⟨B + 1 + 1, 2, none⟩ (.slice A3 st'.iso.length c3)).cell? ⟨B + 1, 3, none⟩ = some (.int .i64 o.i) := (Blk.far3 hO3 HOR _ _ _).cell 3; have z0 := hR3.cell 0; have z1 := hR3.cell 1; have z2 := hR3.cell 2; have y0 := hR3.frozen 0; have y1 := hR3.frozen 1; have y2 := hR3.frozen 2; clear hn hR3 hC3 hO3))
  all_goals go_wp2_with fail
  all_goals
    obtain ⟨⟨k1, k2, k3⟩, _⟩ := HF.out W3 HN.out
    exact bodyPost_ret (res_ref rfl k1 rfl rfl) rfl ⟨_, rfl, by rw [hst]; exact k2, k3⟩

set_option maxHeartbeats 4000000 in
theorem step_double {T L : Nat → Prop} {w : World} {n k : Nat} {st : NetSt} {v : Value} (h : NR T L w n st k v) (ho : st.ok) (o : Opn) (hk0 : o.kind = 3) (hi : inI64 o.i) :
    Calls Try.prog 27 #[.pointer (some ⟨n, 0, none⟩), v, o.val] w fun e w' => ∃ v', e = .returned (.tuple #[v', .bool true]) ∧ NR T L w' n (st.double o.i) k v' ∧ Same (notB T) w w' := by
  obtain ⟨hT, hLL, S, h1, h2, h3⟩ := h
  obtain ⟨A, c, A', c', rfl, _, _⟩ := id h3
  have hL := SLoc.start o hT hLL h1 h2 h3
  clear h1 h2 h3 hT hLL
  unfold Opn.val
  rw [hk0] at *
  obtain ⟨hl1, hl2⟩ := ho.2
  go_enter Try.func27, Try.ntmps27
  go_wp2_with fail
  refine calls_abs (fun W => SLoc w W T L S n st k (.agg #[.slice A st.ps.length c, .int .i64 st.last, .slice A' st.iso.length c']) st o w.heap.size) hL.1 ?_
  clear hL
  generalize w.heap.size = B at *
  intro W hL
  have HX := Lib.hid (rdouble_any (i := o.i) hL.ref hL.bz hi ho.1 ⟨ho.2.1, ho.2.2.1⟩)
  have HL := Lib.hid hL
  have HO := Lib.hid ho
  clear hL ho
  refine HX.out.mono ?_
  rintro e W1 ⟨v', rfl, hR', hs1⟩
  obtain ⟨A2, c2, A3, c3, rfl, _, _⟩ := id hR'
  have HL1 := Lib.hid (HL.out.setref hs1 hR')
  clear HL HX hs1 hR'
  obtain ⟨⟨o0, o1, o2, o3, o4⟩, ⟨r0, r1, r2⟩, q0, q1, q2, hlo, hlr⟩ := HL1.out.cells
  go_wp2_with fail
  refine wp_abs (fun W => SLoc w W T L S n st k (.agg #[.slice A2 (st.double o.i).ps.length c2, .int .i64 (st.double o.i).last, .slice A3 (st.double o.i).iso.length c3]) (st.double o.i) o B ∧ Blk W W1.heap.size 43 #[.slice A2 (st.double o.i).ps.length c2, .int .i64 (st.double o.i).last, .slice A3 (st.double o.i).iso.length c3] ∧ Hid (B + 3 ≤ W1.heap.size)) ⟨HL1.out.keep ((Same.refl _ _).alloc _), Blk.new _ _ _, HL1.out.sz⟩ ?_
  clear HL1 o0 o1 o2 o3 o4 r0 r1 r2 q0 q1 q2 hlo hlr
  generalize W1.heap.size = C at *
  generalize hst : st.double o.i = st' at *
  rintro W2 ⟨hL, hC, HBC⟩
  obtain ⟨⟨o0, o1, o2, o3, o4⟩, ⟨r0, r1, r2⟩, q0, q1, q2, hlo, hlr⟩ := hL.cells
  have m0 := hC.cell 0
  have m1 := hC.cell 1
  have m2 := hC.cell 2
  have hltC := hC.lt
  have hD := hL.keep ((Same.refl noB W2).drew)
  have hX := double_any (i := o.i) hD.net hi HO.out.1 ⟨HO.out.2.1, HO.out.2.2.1⟩
  rw [hst] at hX
  have HX := Lib.hid hX
  clear hX
  have HF := Lib.hid (fun W3 (hn : NetStep S n W2.drew W3 st' k) => And.intro (hD.fin hn rfl) (And.intro (hD.far hn hD.op (by omega)) (And.intro (hD.far hn hD.res (by omega)) (hD.far hn hC.drew (Nat.le_trans (Nat.le_add_right _ _) HBC.out)))))
  have HCR : C ≠ B + 1 + 1 := by have := HBC.out; omega
  have HOR : B + 1 ≠ B + 1 + 1 := by omega
  clear hL hC hD
  go_region_held3 (fun w' => w'.cell? ⟨C, 0, none⟩ = some (.slice A2 st'.ps.length c2) ∧ w'.cell? ⟨C, 1, none⟩ = some (.int .i64 st'.last) ∧ w'.cell? ⟨C, 2, none⟩ = some (.slice A3 st'.iso.length c3) ∧ w'.cell? ⟨B + 1, 3, none⟩ = some (.int .i64 o.i))
    (first | (refine ⟨?_, ?_, ?_, ?_⟩ <;> with_reducible assumption) | go_keep)
    ((have hZ := HX.out; (with_reducible refine Calls.mono hZ ?_); clear hZ; rintro e W3 ⟨rfl, hn⟩; have HN := Lib.hid hn; obtain ⟨_, hO3, hR3, hC3⟩ := HF.out W3 hn; have x0 : W3.cell? ⟨C, 0, none⟩ = some (.slice A2 st'.ps.length c2) := hC3.cell 0; have xx0 : (((W3.setCell ⟨B + 1 + 1, 0, none⟩ (.slice A2 st'.ps.length c2)).setCell ⟨B + 1 + 1, 1, none⟩ (.int .i64 st'.last)).setCell ⟨B + 1 + 1, 2, none⟩ (.slice A3 st'.iso.length c3)).cell? ⟨C, 0, none⟩ = some (.slice A2 st'.ps.length c2) := (Blk.far3 hC3 HCR _ _ _).cell 0; have x1 : W3.cell? ⟨C, 1, none⟩ = some (.int .i64 st'.last) := hC3.cell 1; have xx1 : (((W3.setCell ⟨B + 1 + 1, 0, none⟩ (.slice A2 st'.ps.length c2)).setCell ⟨B + 1 + 1, 1, none⟩ (.int .i64 st'.last)).setCell ⟨B + 1 + 1, 2, none⟩ (.slice A3 st'.iso.length c3)).cell? ⟨C, 1, none⟩ = some (.int .i64 st'.last) := (Blk.far3 hC3 HCR _ _ _).cell 1; have x2 : W3.cell? ⟨C, 2, none⟩ = some (.slice A3 st'.iso.length c3) := hC3.cell 2; have xx2 : (((W3.setCell ⟨B + 1 + 1, 0, none⟩ (.slice A2 st'.ps.length c2)).setCell ⟨B + 1 + 1, 1, none⟩ (.int .i64 st'.last)).setCell ⟨B + 1 + 1, 2, none⟩ (.slice A3 st'.iso.length c3)).cell? ⟨C, 2, none⟩ = some (.slice A3 st'.iso.length c3) := (Blk.far3 hC3 HCR _ _ _).cell 2; have x7 : W3.cell? ⟨B + 1, 3, none⟩ = some (.int .i64 o.i) := hO3.cell 3; have xx7 : (((W3.setCell ⟨B + 1 + 1, 0, none⟩ (.slice A2 st'.ps.length c2)).setCell ⟨B + 1 + 1, 1, none⟩ (.int .i64 st'.last)).setCell ⟨B + 1 + 1, 2, none⟩ (.slice A3 st'.iso.length c3)).cell? ⟨B + 1, 3, none⟩ = some (.int .i64 o.i) := (Blk.far3 hO3 HOR _ _ _).cell 3; have z0 := hR3.cell 0; have z1 := hR3.cell 1; have z2 := hR3.cell 2; have y0 := hR3.frozen 0; have y1 := hR3.frozen 1; have y2 := hR3.frozen 2; clear hn hR3 hC3 hO3))
  all_goals go_wp2_with fail
  all_goals
    obtain ⟨⟨k1, k2, k3⟩, _⟩ := HF.out W3 HN.out
    exact bodyPost_ret (res_ref rfl k1 rfl rfl) rfl ⟨_, rfl, by rw [hst]; exact k2, k3⟩

end Go.Proofs.Ytgmoeejhgjfpgaa
