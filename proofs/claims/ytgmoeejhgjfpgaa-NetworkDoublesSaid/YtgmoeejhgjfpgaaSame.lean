/- same: a network and the model of one state are found equal. -/
import Derived.Test.YtgmoeejhgjfpgaaRunA
namespace Go.Proofs.Ytgmoeejhgjfpgaa
open Go Go.RowKit Go.Maps

/-- What same keeps at hand: network and model of one state, the model's struct boxed at M. -/
structure SmI (w W : World) (n : Nat) (st : NetSt) (k M : Nat) (A : Option Addr) (c : Nat) (A' : Option Addr) (c' : Nat) : Prop where
  net : NetOn noB W n st k
  ref : RefAt W noB (.agg #[.slice A st.ps.length c, .int .i64 st.last, .slice A' st.iso.length c']) st
  m : Blk W M 43 #[.slice A st.ps.length c, .int .i64 st.last, .slice A' st.iso.length c']
  since : Same noB w W
theorem SmI.keep {w W W' : World} {n : Nat} {st : NetSt} {k M : Nat} {A : Option Addr} {c : Nat} {A' : Option Addr} {c' : Nat} (h : SmI w W n st k M A c A' c') (hs : Same noB W W') : SmI w W' n st k M A c A' c' :=
  ⟨h.net.keep hs, h.ref.keep hs, h.m.same hs (fun x => x), h.since.trans' hs⟩
theorem NR.on {T L : Nat → Prop} {w : World} {n : Nat} {st : NetSt} {k : Nat} {v : Value} (h : NR T L w n st k v) : NetOn T w n st k := by
  obtain ⟨h1, h2, S, h3, h4, h5⟩ := h
  exact ⟨h1, S, h3, h4⟩
theorem NR.ref {T L : Nat → Prop} {w : World} {n : Nat} {st : NetSt} {k : Nat} {v : Value} (h : NR T L w n st k v) : RefAt w noB v st := by
  obtain ⟨h1, h2, S, h3, h4, h5⟩ := h
  exact h5.same (Same.refl noB w) (fun _ _ x => x.elim) (fun _ _ x => x.elim)
theorem RefAt.rd1 {w : World} {bad : Nat → Prop} {st : NetSt} {A : Option Addr} {c : Nat} {A' : Option Addr} {c' : Nat} (h : RefAt w bad (.agg #[.slice A st.ps.length c, .int .i64 st.last, .slice A' st.iso.length c']) st) : Rd w bad 4 (.slice A st.ps.length c) st.ps.length (pcells st.ps) := by
  obtain ⟨A2, c2, A3, c3, e, h1, h2⟩ := h
  simp only [Value.agg.injEq, Array.mk.injEq, List.cons.injEq, Value.slice.injEq, true_and, and_true] at e
  obtain ⟨⟨rfl, rfl⟩, _⟩ := e
  exact h1
/-- The same beside an operation that lies at g. -/
structure SmO (w W : World) (n : Nat) (st : NetSt) (k M : Nat) (A : Option Addr) (c : Nat) (A' : Option Addr) (c' : Nat) (g : Nat) (o : Opn) : Prop where
  i : SmI w W n st k M A c A' c'
  op : Blk W g 30 #[.int .i64 o.kind, .int .i64 o.a, .int .i64 o.b, .int .i64 o.i, .string o.data]
section
variable {w W W' : World} {n : Nat} {st : NetSt} {k M : Nat} {A : Option Addr} {c : Nat} {A' : Option Addr} {c' : Nat} {g : Nat} {o : Opn}
theorem SmO.keep (h : SmO w W n st k M A c A' c' g o) (hs : Same noB W W') : SmO w W' n st k M A c A' c' g o := ⟨h.i.keep hs, h.op.same hs (fun x => x)⟩
theorem SmO.cells (h : SmO w W n st k M A c A' c' g o) : W.cell? ⟨M, 0, none⟩ = some (.slice A st.ps.length c) ∧ W.cell? ⟨M, 1, none⟩ = some (.int .i64 st.last) ∧ W.cell? ⟨M, 2, none⟩ = some (.slice A' st.iso.length c') ∧ W.cell? ⟨g, 1, none⟩ = some (.int .i64 o.a) ∧ W.cell? ⟨g, 2, none⟩ = some (.int .i64 o.b) :=
  ⟨h.i.m.cell 0, h.i.m.cell 1, h.i.m.cell 2, h.op.cell 1, h.op.cell 2⟩
theorem sm_isol (h : Hid (SmO w W n st k M A c A' c' g o)) {x : Int} (hx : Hid (inI64 x)) {q : Bool} (hq : Hid (st.iso.contains x = q)) :
    Calls Try.prog 26 #[.pointer (some ⟨n, 0, none⟩), .int .i64 x] W fun e w' => e = .returned (.bool q) ∧ w' = W := by
  have := isolated_on h.out.i.net hx.out
  rw [hq.out] at this
  exact this
theorem sm_has (h : Hid (SmO w W n st k M A c A' c' g o)) (x : Int) {q : Bool} (hq : Hid (st.iso.contains x = q)) :
    Calls Try.prog 32 #[.agg #[.slice A st.ps.length c, .int .i64 st.last, .slice A' st.iso.length c'], .int .i64 x] W fun e w' => e = .returned (.bool q) ∧ Hid (SmO w w' n st k M A c A' c' g o) := by
  have := has_any h.out.i.ref x
  rw [hq.out] at this
  exact this.mono fun e w' hh => ⟨hh.1, h.out.keep hh.2⟩
end

set_option maxHeartbeats 8000000 in
theorem same_any {w : World} {T L bad : Nat → Prop} {n : Nat} {st : NetSt} {k : Nat} {v vl : Value} {l : List Opn} (h : NR T L w n st k v) (hl : Rd w bad 5 vl l.length (ocells l)) (hok : ∀ o ∈ l, o.ok) (hs : st.ps.length ≤ 1000000) :
    Calls Try.prog 21 #[.pointer (some ⟨n, 0, none⟩), v, vl] w fun e w' => e = .returned (.bool true) ∧ Same noB w w' := by
  obtain ⟨Al, cl, rfl, hnc, hcm, hr⟩ := hl.form
  have hN := h.on.weaken (T' := noB) (fun _ x => x.elim)
  have hR := h.ref
  obtain ⟨A, c, A', c', rfl, _, _⟩ := id hR
  have HL := Lib.hid hr
  have HO := Lib.hid hok
  have HZ := Lib.hid hs
  have HI : Hid (SmI w (w.alloc (.cells #[.slice A st.ps.length c, .int .i64 st.last, .slice A' st.iso.length c'] 43)) n st k w.heap.size A c A' c') := ⟨hN.keep ((Same.refl _ _).alloc _), hR.keep ((Same.refl _ _).alloc _), Blk.new _ _ _, (Same.refl _ _).alloc _⟩
  have hb : l.length ≤ 9223372036854775807 := by unfold maxLen at hcm; omega
  clear h hN hR hl hr hok hs hnc hcm
  go_enter Try.func21, Try.ntmps21
  go_wp2_with fail
  refine wp_abs (fun W => Hid (SmI w W n st k w.heap.size A c A' c')) HI ?_
  clear HI
  obtain ⟨M, hM⟩ : ∃ M, M = w.heap.size := ⟨_, rfl⟩
  rw [← hM]
  clear hM
  intro W HI
  go_loopw [11] (fun i wr => ∃ j : Nat, j ≤ l.length ∧ i = .int .i64 j ∧ Hid (SmI w wr n st k M A c A' c')) (fun i _ => l.length - (intOf i).toNat)
  case atStart => exact ⟨0, Nat.zero_le _, rfl, HI⟩
  case round =>
    obtain ⟨j, hj, rfl, HW⟩ := hrel
    clear HI
    by_cases hlt : j < l.length
    · obtain ⟨b, o, rfl, r⟩ := HL.out.at_ (by omega)
      obtain ⟨x, hx⟩ : ∃ x, l[j]? = some x := ⟨_, List.getElem?_eq_getElem hlt⟩
      have hs := HW.out.since
      have c0 := hs.cell (r.cell (j * 5 + 0) (.int .i64 x.kind) (by rw [ocells_at hx 0 (by omega)]; rfl)) (fun e => e)
      have c1 := hs.cell (r.cell (j * 5 + 1) (.int .i64 x.a) (by rw [ocells_at hx 1 (by omega)]; rfl)) (fun e => e)
      have c2 := hs.cell (r.cell (j * 5 + 2) (.int .i64 x.b) (by rw [ocells_at hx 2 (by omega)]; rfl)) (fun e => e)
      have c3 := hs.cell (r.cell (j * 5 + 3) (.int .i64 x.i) (by rw [ocells_at hx 3 (by omega)]; rfl)) (fun e => e)
      have c4 := hs.cell (r.cell (j * 5 + 4) (.string x.data) (by rw [ocells_at hx 4 (by omega)]; rfl)) (fun e => e)
      have hxo := HO.out _ (List.mem_of_getElem? hx)
      have HA : Hid (inI64 x.a) := hxo.2.1
      have HB : Hid (inI64 x.b) := hxo.2.2.1
      simp only [← Nat.add_assoc, Nat.add_zero] at c0 c1 c2 c3 c4
      clear r hx hs hxo
      go_wp2_with fail
      refine wp_abs (fun W3 => Hid (SmO w W3 n st k M A c A' c' wr.heap.size x)) ?_ ?_
      · exact ⟨HW.out.keep ((Same.refl _ _).alloc _), Blk.new _ _ _⟩
      clear HW c0 c1 c2 c3 c4
      generalize wr.heap.size = g at *
      intro W4 HG
      obtain ⟨m0, m1, m2, o1, o2⟩ := HG.out.cells
      have HG : Hid (SmO w W4.drew n st k M A c A' c' g x) := HG.out.keep ((Same.refl _ _).drew)
      obtain ⟨qa, hqa⟩ : ∃ q, st.iso.contains x.a = q := ⟨_, rfl⟩
      obtain ⟨qb, hqb⟩ : ∃ q, st.iso.contains x.b = q := ⟨_, rfl⟩
      have HQA := Lib.hid hqa
      have HQB := Lib.hid hqb
      clear hqa hqb
      cases qa <;> cases qb
      all_goals
        go_region_held3 (fun w' => w'.cell? ⟨M, 0, none⟩ = some (.slice A st.ps.length c) ∧ w'.cell? ⟨M, 1, none⟩ = some (.int .i64 st.last) ∧ w'.cell? ⟨M, 2, none⟩ = some (.slice A' st.iso.length c') ∧ w'.cell? ⟨g, 1, none⟩ = some (.int .i64 x.a) ∧ w'.cell? ⟨g, 2, none⟩ = some (.int .i64 x.b))
          (first | (refine ⟨?_, ?_, ?_, ?_, ?_⟩ <;> with_reducible assumption) | go_keep)
          (first
            | (go_at_call 26; have hZ := sm_isol HG HA HQA; (with_reducible refine Calls.mono hZ ?_); clear hZ; rintro e w3 ⟨rfl, rfl⟩)
            | (go_at_call 26; have hZ := sm_isol HG HB HQB; (with_reducible refine Calls.mono hZ ?_); clear hZ; rintro e w3 ⟨rfl, rfl⟩)
            | (go_at_call 32; have hZ := sm_has HG x.a HQA; (with_reducible refine Calls.mono hZ ?_); clear hZ; rintro e W3 ⟨rfl, HG⟩; obtain ⟨m0, m1, m2, o1, o2⟩ := HG.out.cells)
            | (go_at_call 32; have hZ := sm_has HG x.b HQB; (with_reducible refine Calls.mono hZ ?_); clear hZ; rintro e W3 ⟨rfl, HG⟩; obtain ⟨m0, m1, m2, o1, o2⟩ := HG.out.cells))
        all_goals go_wp2_with fail
        all_goals
          go_roundw
          case rel => exact ⟨j + 1, by omega, by go_num, HG.out.i⟩
          case measure => simp [intOf]; omega
    · obtain rfl : j = l.length := by omega
      have m0 := HW.out.m.cell 0
      have HW1 : Hid (SmI w wr.drew n st k M A c A' c') := HW.out.keep ((Same.refl _ _).drew)
      clear HW
      have HP := Lib.hid (fun W (h : Hid (SmI w W n st k M A c A' c')) => pending_on h.out.net HZ.out)
      go_wp2_with fail
      go_region_held3 (fun w' => w'.cell? ⟨M, 0, none⟩ = some (.slice A st.ps.length c))
          (first | (with_reducible assumption) | go_keep)
          (first
            | (go_at_call 13; have hZ := len_on HW1.out.net; (with_reducible refine Calls.mono hZ ?_); clear hZ; rintro e w3 ⟨rfl, rfl⟩)
            | (go_at_call 22; have hZ := HP.out _ HW1; (with_reducible refine Calls.mono hZ ?_); clear hZ; rintro e W3 ⟨v3, rfl, ha⟩; have HA3 := Lib.hid (AppAt.rd (bad := noB) ha (fun _ e => e.elim)); have HW1 := Lib.hid (HW1.out.keep ha.since); have m0 := HW1.out.m.cell 0; clear ha)
            | (go_at_call 24; have hZ := rsame_true HA3.out (RefAt.rd1 HW1.out.ref); (with_reducible refine Calls.mono hZ ?_); clear hZ; rintro e W3 ⟨rfl, hs⟩; have HW1 := Lib.hid (HW1.out.keep hs); have m0 := HW1.out.m.cell 0; clear hs))
      all_goals go_wp2_with fail
      all_goals
        go_ret
        exact ⟨rfl, HW1.out.since⟩
end Go.Proofs.Ytgmoeejhgjfpgaa
