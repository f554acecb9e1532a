/- A step: Deliver. -/
import Derived.Test.YtgmoeejhgjfpgaaStepD
namespace Go.Proofs.Ytgmoeejhgjfpgaa
open Go Go.RowKit Go.Maps

theorem arrives_form (o : Option Pk) : ∃ a b c d q, gotten o = .tuple #[.agg #[.int .i64 a, .int .i64 b, .int .i64 c, .string d], .bool q] ∧ ∀ v' : Value, (match o with | some p => Value.tuple #[v', p.val, .bool true] | none => .tuple #[v', noPk, .bool false]) = .tuple #[v', .agg #[.int .i64 a, .int .i64 b, .int .i64 c, .string d], .bool q] := by
  cases o with
  | none => exact ⟨0, 0, 0, .empty, false, rfl, fun _ => rfl⟩
  | some p => exact ⟨p.num, p.frm, p.to, p.data, true, rfl, fun _ => rfl⟩

theorem NR.keep {T L : Nat → Prop} {w w' : World} {n k : Nat} {st : NetSt} {v : Value} (h : NR T L w n st k v) (hs : Same noB w w') : NR T L w' n st k v := by
  obtain ⟨h1, h1', S, h2, h3, h4⟩ := h
  exact ⟨fun b hb => Nat.lt_of_lt_of_le (h1 b hb) hs.size, fun b hb => Nat.lt_of_lt_of_le (h1' b hb) hs.size, S, h2.same hs (fun _ _ x => x), h3, h4.keep hs⟩

set_option maxHeartbeats 4000000 in
theorem step_deliver {T L : Nat → Prop} {w : World} {n k : Nat} {st : NetSt} {v : Value} (h : NR T L w n st k v) (ho : st.ok) (o : Opn) (hk0 : o.kind = 1) (hi : inI64 o.i) :
    Calls Try.prog 27 #[.pointer (some ⟨n, 0, none⟩), v, o.val] w fun e w' => ∃ v', e = .returned (.tuple #[v', .bool true]) ∧ NR T L w' n (st.drop o.i) k v' ∧ Same (notB T) w w' := by
  obtain ⟨hT, hLL, S, h1, h2, h3⟩ := h
  obtain ⟨A, c, A', c', rfl, _, _⟩ := id h3
  have hL := SLoc.start o hT hLL h1 h2 h3
  clear h1 h2 h3 hT hLL
  unfold Opn.val
  rw [hk0] at *
  obtain ⟨ga, gb, gc, gd, gq, hg, hm⟩ := arrives_form (st.arrives o.i)
  have HG := Lib.hid (And.intro hg hm)
  clear hg hm
  go_enter Try.func27, Try.ntmps27
  go_wp2_with fail
  refine calls_abs (fun W => SLoc w W T L S n st k (.agg #[.slice A st.ps.length c, .int .i64 st.last, .slice A' st.iso.length c']) st o w.heap.size) hL.1 ?_
  clear hL
  generalize w.heap.size = B at *
  intro W hL
  have HX := Lib.hid (rdeliver_any (i := o.i) hL.ref hL.bz hi ho.1)
  have HL := Lib.hid hL
  have HO := Lib.hid ho
  clear hL ho
  refine Calls.mono HX.out ?_
  rintro e W1 ⟨v', he, hR', hs1⟩
  have he' := he.trans (congrArg Ending.returned (HG.out.2 v'))
  subst he'
  clear he
  obtain ⟨A2, c2, A3, c3, rfl, _, _⟩ := id hR'
  have HL1 := Lib.hid (HL.out.setref hs1 hR')
  clear HL HX hs1 hR'
  obtain ⟨⟨o0, o1, o2, o3, o4⟩, ⟨r0, r1, r2⟩, q0, q1, q2, hlo, hlr⟩ := HL1.out.cells
  have hlo2 : B + 1 < W1.heap.size + 1 := by omega
  have hlo3 : ¬ B + 1 = W1.heap.size := by omega
  have hlo4 : ¬ B + 1 = W1.heap.size + 1 := by omega
  go_wp2_with fail
  refine calls_abs (fun W => SLoc w W T L S n st k (.agg #[.slice A2 (st.drop o.i).ps.length c2, .int .i64 (st.drop o.i).last, .slice A3 (st.drop o.i).iso.length c3]) (st.drop o.i) o B ∧ Blk W W1.heap.size 43 #[.slice A2 (st.drop o.i).ps.length c2, .int .i64 (st.drop o.i).last, .slice A3 (st.drop o.i).iso.length c3] ∧ Blk W (W1.heap.size + 1) 34 #[.int .i64 ga, .int .i64 gb, .int .i64 gc, .string gd] ∧ Hid (B + 3 ≤ W1.heap.size)) ⟨HL1.out.keep (((Same.refl _ _).alloc _).alloc _), (Blk.new _ _ _).alloc _, by
    have := Blk.new (W1.alloc (.cells #[.slice A2 (st.drop o.i).ps.length c2, .int .i64 (st.drop o.i).last, .slice A3 (st.drop o.i).iso.length c3] 43)) 34 #[.int .i64 ga, .int .i64 gb, .int .i64 gc, .string gd]
    simpa using this, HL1.out.sz⟩ ?_
  clear HL1 o0 o1 o2 o3 o4 r0 r1 r2 q0 q1 q2 hlo hlr hlo2 hlo3 hlo4
  generalize W1.heap.size = C at *
  generalize hst : st.drop o.i = st' at *
  rintro W2 ⟨hL, hC, hP, HBC⟩
  have hX := deliver_any (i := o.i) hL.net HO.out hi
  rw [hst, HG.out.1] at hX
  have HX := Lib.hid hX
  clear hX
  have HF := Lib.hid (fun W3 (hn : NetStep S n W2 W3 st' k) => And.intro (hL.fin hn rfl) (And.intro (hL.far hn hP (Nat.le_trans (Nat.le_trans (Nat.le_add_right _ _) HBC.out) (Nat.le_add_right _ _))) (And.intro (hL.far hn hL.res (by omega)) (hL.far hn hC (Nat.le_trans (Nat.le_add_right _ _) HBC.out)))))
  have HCR : C ≠ B + 1 + 1 := by have := HBC.out; omega
  have HPR : C + 1 ≠ B + 1 + 1 := by have := HBC.out; omega
  clear hL hC hP
  have hZ := HX.out
  (with_reducible refine Calls.mono hZ ?_)
  clear hZ
  rintro e W3 ⟨rfl, hn⟩
  have HN := Lib.hid hn
  obtain ⟨_, hP3, hR3, hC3⟩ := HF.out W3 hn
  obtain ⟨⟨p0, p1, p2, p3⟩, _⟩ := blk4 hP3
  have c30 := hC3.cell 0
  have c31 := hC3.cell 1
  have c32 := hC3.cell 2
  have z0 := hR3.cell 0
  have z1 := hR3.cell 1
  have z2 := hR3.cell 2
  have y0 := hR3.frozen 0
  have y1 := hR3.frozen 1
  have y2 := hR3.frozen 2
  have l1 := hP3.lt
  have l2 := hR3.lt
  have l3 := hC3.lt
  clear hn hP3 hR3 hC3
  go_wp2_with fail
  go_region
  all_goals go_wp2_with fail
  all_goals
    obtain ⟨⟨k1, k2, k3⟩, _⟩ := HF.out W3 HN.out
    exact bodyPost_ret (res_ref rfl (k1.alloc _).drew rfl rfl) rfl ⟨_, rfl, by rw [hst]; exact k2.keep (((Same.refl _ _).alloc _).drew), (k3.alloc _).drew⟩
end Go.Proofs.Ytgmoeejhgjfpgaa
