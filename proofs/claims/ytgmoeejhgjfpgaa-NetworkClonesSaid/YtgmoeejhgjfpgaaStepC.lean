/- A step: Isolate, Join, none. (printed by genStepC.py) -/
import Derived.Test.YtgmoeejhgjfpgaaStepB
namespace Go.Proofs.Ytgmoeejhgjfpgaa
open Go Go.RowKit Go.Maps

/-- Behind the network's own step: the reference's is still to come. -/
structure SLoc2 (w0 W : World) (T L S : Nat → Prop) (n : Nat) (st : NetSt) (k : Nat) (v : Value) (st' : NetSt) (o : Opn) (B : Nat) : Prop where
  hB : B = w0.heap.size
  net : NetAt W S n st k
  ref : RefAt W (fun b => (S b ∨ L b) ∨ (B ≤ b ∧ b < B + 3)) v st'
  arg : ∃ a b c, v = .agg #[a, b, c] ∧ Blk W B 43 #[a, b, c]
  op : Blk W (B + 1) 30 #[.int .i64 o.kind, .int .i64 o.a, .int .i64 o.b, .int .i64 o.i, .string o.data]
  res : Blk W (B + 1 + 1) 43 #[.slice none 0 0, .int .i64 0, .slice none 0 0]
  since : Same (notB T) w0 W
  bd : ∀ b, S b → b < W.heap.size ∧ (b < B ∨ B + 3 ≤ b)
  sz : B + 3 ≤ W.heap.size
  tb : ∀ b, T b → b < B
  ts : ∀ b, S b → ¬ T b
  lb : ∀ b, L b → b < B
theorem SLoc.two {w0 W w3 : World} {T L S : Nat → Prop} {n k k' B : Nat} {st st' st1 : NetSt} {v : Value} {o : Opn} (h : SLoc w0 W T L S n st k v st' o B) {a b c : Value} (hv : v = .agg #[a, b, c]) (hb : Blk W B 43 #[a, b, c]) (hn : NetStep S n W w3 st1 k') : ∃ S', SLoc2 w0 w3 T L S' n st1 k' v st' o B := by
  have hbd := h.bd
  have h1 := hn.bd hb (fun x => by have := hbd _ x; omega)
  have h2 := hn.bd h.op (fun x => by have := hbd _ x; omega)
  have h3 := hn.bd h.res (fun x => by have := hbd _ x; omega)
  have hsz := h.sz
  obtain ⟨S', h4, h5, h6⟩ := hn
  have hs5 := h5.size
  refine ⟨S', h.hB, h4, h.ref.same h5 (fun b _ x => .inl (.inl x)) (fun b hb x => x.elim (fun x => x.elim (fun x => (h6 b x).elim (fun y => .inl (.inl y)) (fun y => by omega)) (fun x => .inl (.inr x))) .inr), ⟨a, b, c, hv, h1⟩, h2, h3, h.since.of_no.trans (h5.mono (S' := notB T) (fun b _ hb => h.ts b hb)) (fun _ _ x => x), fun b hb => ⟨h4.bd b hb, ?_⟩, by omega, h.tb, fun b hb ht => ?_, h.lb⟩
  · rcases h6 b hb with hx | hx
    · exact .inl (hbd b hx)
    · exact .inr (by omega)
  · rcases h6 b hb with hx | hx
    · exact h.ts b hx ht
    · have := h.tb b ht
      omega
namespace SLoc2
variable {w0 W W' : World} {T L S : Nat → Prop} {n k B : Nat} {st st' : NetSt} {v : Value} {o : Opn}
theorem bz (h : SLoc2 w0 W T L S n st k v st' o B) : ∀ b, ((S b ∨ L b) ∨ (B ≤ b ∧ b < B + 3)) → b < W.heap.size := by
  intro b hb
  have := h.sz
  rcases hb with (hb | hb) | hb
  · exact (h.bd b hb).1
  · have := h.lb b hb
    omega
  · omega
theorem cells (h : SLoc2 w0 W T L S n st k v st' o B) : (W.cell? ⟨B + 1, 0, none⟩ = some (.int .i64 o.kind) ∧ W.cell? ⟨B + 1, 1, none⟩ = some (.int .i64 o.a) ∧ W.cell? ⟨B + 1, 2, none⟩ = some (.int .i64 o.b) ∧ W.cell? ⟨B + 1, 3, none⟩ = some (.int .i64 o.i) ∧ W.cell? ⟨B + 1, 4, none⟩ = some (.string o.data)) ∧
    (W.cell? ⟨B + 1 + 1, 0, none⟩ = some (.slice none 0 0) ∧ W.cell? ⟨B + 1 + 1, 1, none⟩ = some (.int .i64 0) ∧ W.cell? ⟨B + 1 + 1, 2, none⟩ = some (.slice none 0 0)) ∧ W.frozen? ⟨B + 1 + 1, 0, none⟩ = false ∧ W.frozen? ⟨B + 1 + 1, 1, none⟩ = false ∧ W.frozen? ⟨B + 1 + 1, 2, none⟩ = false ∧ B + 1 < W.heap.size ∧ B + 1 + 1 < W.heap.size :=
  ⟨⟨h.op.cell 0, h.op.cell 1, h.op.cell 2, h.op.cell 3, h.op.cell 4⟩, ⟨h.res.cell 0, h.res.cell 1, h.res.cell 2⟩, h.res.frozen 0, h.res.frozen 1, h.res.frozen 2, h.op.lt, h.res.lt⟩
theorem rescells (h : SLoc2 w0 W T L S n st k v st' o B) (hs : Same noB W W') : (W'.cell? ⟨B + 1 + 1, 0, none⟩ = some (.slice none 0 0) ∧ W'.cell? ⟨B + 1 + 1, 1, none⟩ = some (.int .i64 0) ∧ W'.cell? ⟨B + 1 + 1, 2, none⟩ = some (.slice none 0 0)) ∧ W'.frozen? ⟨B + 1 + 1, 0, none⟩ = false ∧ W'.frozen? ⟨B + 1 + 1, 1, none⟩ = false ∧ W'.frozen? ⟨B + 1 + 1, 2, none⟩ = false ∧ B + 1 + 1 < W'.heap.size := by
  have h' := h.res.same hs (fun x => x)
  exact ⟨⟨h'.cell 0, h'.cell 1, h'.cell 2⟩, h'.frozen 0, h'.frozen 1, h'.frozen 2, h'.lt⟩
/-- Behind the reference's step and the store of the result. -/
theorem fin (h : SLoc2 w0 W T L S n st k v st' o B) (hs1 : Same noB W W') {A : Option Addr} {c : Nat} {A' : Option Addr} {c' : Nat} {st2 : NetSt} (he : st2 = st) (hr : RefAt W' (fun b => (S b ∨ L b) ∨ (B ≤ b ∧ b < B + 3)) (.agg #[.slice A st2.ps.length c, .int .i64 st2.last, .slice A' st2.iso.length c']) st2) {w4 : World}
    (hw : w4 = ((W'.setCell ⟨B + 1 + 1, 0, none⟩ (.slice A st2.ps.length c)).setCell ⟨B + 1 + 1, 1, none⟩ (.int .i64 st2.last)).setCell ⟨B + 1 + 1, 2, none⟩ (.slice A' st2.iso.length c')) :
    Blk w4 (B + 1 + 1) 43 #[.slice A st2.ps.length c, .int .i64 st2.last, .slice A' st2.iso.length c'] ∧ NR T L w4 n st2 k (.agg #[.slice A st2.ps.length c, .int .i64 st2.last, .slice A' st2.iso.length c']) ∧ Same (notB T) w0 w4 := by
  subst hw he
  have hs := set3 W' (B + 1 + 1) (.slice A st2.ps.length c) (.int .i64 st2.last) (.slice A' st2.iso.length c')
  have z1 := hs1.size
  have z2 := hs.size
  have hsz := h.sz
  refine ⟨blk_set3 (h.res.same hs1 (fun x => x)) _ _ _, ⟨fun b hb => by have := h.tb b hb; omega, fun b hb => by have := h.lb b hb; omega, S, (h.net.same hs1 (fun _ _ x => x)).same hs (fun b hb e => ?_), h.ts, hr.same hs (fun b _ e => .inr ?_) (fun b _ x => .inl x)⟩, (h.since.trans hs1 (fun _ _ x => x.elim)).trans hs (fun b hb e => ?_)⟩
  · rw [show b = B + 1 + 1 from e] at hb
    have := (h.bd _ hb).2
    omega
  · rw [show b = B + 1 + 1 from e]
    omega
  · rw [show b = B + 1 + 1 from e] at hb
    rw [← h.hB] at hb
    omega
end SLoc2

set_option maxHeartbeats 4000000 in
theorem step_isolate {T L : Nat → Prop} {w : World} {n k : Nat} {st : NetSt} {v : Value} (h : NR T L w n st k v) (o : Opn) (hk0 : o.kind = 4) (hx : inI64 o.a) (hl : st.iso.length ≤ 1000000) (hk : k ≤ 1000000) :
    Calls Try.prog 27 #[.pointer (some ⟨n, 0, none⟩), v, o.val] w fun e w' => ∃ v', e = .returned (.tuple #[v', .bool true]) ∧ NR T L w' n (st.isolate o.a) (k + 1) v' ∧ Same (notB T) w w' := by
  obtain ⟨hT, hLL, S, h1, h2, h3⟩ := h
  obtain ⟨A, c, A', c', rfl, _, _⟩ := id h3
  have hL := SLoc.start o hT hLL h1 h2 h3
  clear h1 h2 h3 hT hLL
  unfold Opn.val
  rw [hk0] at *
  go_enter Try.func27, Try.ntmps27
  go_wp2_with fail
  refine calls_abs (fun W => SLoc w W T L S n st k (.agg #[.slice A st.ps.length c, .int .i64 st.last, .slice A' st.iso.length c']) st o w.heap.size ∧ Blk W w.heap.size 43 #[.slice A st.ps.length c, .int .i64 st.last, .slice A' st.iso.length c']) hL ?_
  clear hL
  generalize w.heap.size = B at *
  rintro W ⟨hL, hA⟩
  have HX := Lib.hid (isolate_any hL.net hx hk)
  have HL := Lib.hid hL
  have HA := Lib.hid hA
  clear hL hA
  refine Calls.mono HX.out ?_
  rintro e W1 ⟨rfl, hn⟩
  obtain ⟨S1, hL2⟩ := HL.out.two rfl HA.out hn
  have HL2 := Lib.hid hL2
  clear hn HL HA HX hL2
  obtain ⟨⟨o0, o1, o2, o3, o4⟩, ⟨r0, r1, r2⟩, q0, q1, q2, hlo, hlr⟩ := HL2.out.cells
  obtain ⟨_, _, _, hva, hba⟩ := HL2.out.arg
  injection hva with hva
  injection hva with hva
  injection hva with e1 hva
  injection hva with e2 hva
  injection hva with e3 hva
  subst e1 e2 e3
  have a0 := hba.cell 0
  have a1 := hba.cell 1
  have a2 := hba.cell 2
  clear hba hva
  have HX := Lib.hid (risolate_any HL2.out.ref HL2.out.bz o.a hl)
  go_wp2_with fail
  refine Calls.mono HX.out ?_
  rintro e W2 ⟨v', rfl, hR', hs1⟩
  obtain ⟨A2, c2, A3, c3, rfl, _, _⟩ := id hR'
  have HF := Lib.hid (HL2.out.fin hs1 rfl hR' rfl)
  have hrc := HL2.out.rescells hs1
  clear HL2 HX hs1 hR' o0 o1 o2 o3 o4 r0 r1 r2 q0 q1 q2 hlo hlr a0 a1 a2
  obtain ⟨⟨r0, r1, r2⟩, q0, q1, q2, hlr⟩ := hrc
  go_wp2_with fail
  obtain ⟨k1, k2, k3⟩ := HF.out
  exact bodyPost_ret (res_ref rfl k1 rfl rfl) rfl ⟨_, rfl, k2, k3⟩

set_option maxHeartbeats 4000000 in
theorem step_join {T L : Nat → Prop} {w : World} {n k : Nat} {st : NetSt} {v : Value} (h : NR T L w n st k v) (o : Opn) (hk0 : o.kind = 5) (hx : inI64 o.a) (hl : st.iso.length ≤ 1000000) :
    Calls Try.prog 27 #[.pointer (some ⟨n, 0, none⟩), v, o.val] w fun e w' => ∃ v', e = .returned (.tuple #[v', .bool true]) ∧ NR T L w' n (st.join o.a) (k) v' ∧ Same (notB T) w w' := by
  obtain ⟨hT, hLL, S, h1, h2, h3⟩ := h
  obtain ⟨A, c, A', c', rfl, _, _⟩ := id h3
  have hL := SLoc.start o hT hLL h1 h2 h3
  clear h1 h2 h3 hT hLL
  unfold Opn.val
  rw [hk0] at *
  go_enter Try.func27, Try.ntmps27
  go_wp2_with fail
  refine calls_abs (fun W => SLoc w W T L S n st k (.agg #[.slice A st.ps.length c, .int .i64 st.last, .slice A' st.iso.length c']) st o w.heap.size ∧ Blk W w.heap.size 43 #[.slice A st.ps.length c, .int .i64 st.last, .slice A' st.iso.length c']) hL ?_
  clear hL
  generalize w.heap.size = B at *
  rintro W ⟨hL, hA⟩
  have HX := Lib.hid (join_any hL.net hx)
  have HL := Lib.hid hL
  have HA := Lib.hid hA
  clear hL hA
  refine Calls.mono HX.out ?_
  rintro e W1 ⟨rfl, hn⟩
  obtain ⟨S1, hL2⟩ := HL.out.two rfl HA.out hn
  have HL2 := Lib.hid hL2
  clear hn HL HA HX hL2
  obtain ⟨⟨o0, o1, o2, o3, o4⟩, ⟨r0, r1, r2⟩, q0, q1, q2, hlo, hlr⟩ := HL2.out.cells
  obtain ⟨_, _, _, hva, hba⟩ := HL2.out.arg
  injection hva with hva
  injection hva with hva
  injection hva with e1 hva
  injection hva with e2 hva
  injection hva with e3 hva
  subst e1 e2 e3
  have a0 := hba.cell 0
  have a1 := hba.cell 1
  have a2 := hba.cell 2
  clear hba hva
  have HX := Lib.hid (rjoin_any HL2.out.ref HL2.out.bz o.a hl)
  go_wp2_with fail
  refine Calls.mono HX.out ?_
  rintro e W2 ⟨v', rfl, hR', hs1⟩
  obtain ⟨A2, c2, A3, c3, rfl, _, _⟩ := id hR'
  have HF := Lib.hid (HL2.out.fin hs1 rfl hR' rfl)
  have hrc := HL2.out.rescells hs1
  clear HL2 HX hs1 hR' o0 o1 o2 o3 o4 r0 r1 r2 q0 q1 q2 hlo hlr a0 a1 a2
  obtain ⟨⟨r0, r1, r2⟩, q0, q1, q2, hlr⟩ := hrc
  go_wp2_with fail
  obtain ⟨k1, k2, k3⟩ := HF.out
  exact bodyPost_ret (res_ref rfl k1 rfl rfl) rfl ⟨_, rfl, k2, k3⟩

end Go.Proofs.Ytgmoeejhgjfpgaa
