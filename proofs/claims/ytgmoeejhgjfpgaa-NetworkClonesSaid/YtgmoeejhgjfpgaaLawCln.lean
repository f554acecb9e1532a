/- NetworkClones: its walk. -/
import Derived.Test.YtgmoeejhgjfpgaaLawEmp
namespace Go.Proofs.Ytgmoeejhgjfpgaa
open Go Go.RowKit Go.Maps

/-- Two networks and two models, whose structs lie at M and M2. -/
structure ClI (w W : World) (T L : Nat → Prop) (n : Nat) (st : NetSt) (k M : Nat) (A : Option Addr) (c : Nat) (A' : Option Addr) (c' : Nat) (m : Nat) (st2 : NetSt) (k2 M2 : Nat) (B : Option Addr) (d : Nat) (B' : Option Addr) (d' : Nat) : Prop where
  pair : Pair T L W n st k (.agg #[.slice A st.ps.length c, .int .i64 st.last, .slice A' st.iso.length c']) m st2 k2 (.agg #[.slice B st2.ps.length d, .int .i64 st2.last, .slice B' st2.iso.length d'])
  b1 : Blk W M 43 #[.slice A st.ps.length c, .int .i64 st.last, .slice A' st.iso.length c']
  b2 : Blk W M2 43 #[.slice B st2.ps.length d, .int .i64 st2.last, .slice B' st2.iso.length d']
  since : Same noB w W
  t1 : T M ∧ L M
  t2 : T M2 ∧ L M2
  tt : ∀ b, b < w.heap.size → T b
  lo : w.heap.size ≤ M ∧ w.heap.size ≤ M2
  ne : M ≠ M2
section
variable {w W W' : World} {T L : Nat → Prop} {n : Nat} {st st' : NetSt} {k k' M : Nat} {A : Option Addr} {c : Nat} {A' : Option Addr} {c' : Nat} {m : Nat} {st2 : NetSt} {k2 M2 : Nat} {B : Option Addr} {d : Nat} {B' : Option Addr} {d' : Nat}
theorem ClI.symm (h : ClI w W T L n st k M A c A' c' m st2 k2 M2 B d B' d') : ClI w W T L m st2 k2 M2 B d B' d' n st k M A c A' c' :=
  ⟨h.pair.symm, h.b2, h.b1, h.since, h.t2, h.t1, h.tt, h.lo.symm, h.ne.symm⟩
theorem ClI.keep (h : ClI w W T L n st k M A c A' c' m st2 k2 M2 B d B' d') (hs : Same noB W W') : ClI w W' T L n st k M A c A' c' m st2 k2 M2 B d B' d' :=
  ⟨h.pair.keep hs, h.b1.same hs (fun x => x), h.b2.same hs (fun x => x), h.since.trans' hs, h.t1, h.t2, h.tt, h.lo, h.ne⟩
/-- A step of the left one. -/
theorem ClI.left (h : ClI w W T L n st k M A c A' c' m st2 k2 M2 B d B' d') : ∃ T' L', NR T' L' W n st k (.agg #[.slice A st.ps.length c, .int .i64 st.last, .slice A' st.iso.length c']) ∧
    ∀ w' st' k' A3 c3 A4 c4, NR T' L' w' n st' k' (.agg #[.slice A3 st'.ps.length c3, .int .i64 st'.last, .slice A4 st'.iso.length c4]) → Same (notB T') W w' →
      Blk w' M 43 #[.slice A st.ps.length c, .int .i64 st.last, .slice A' st.iso.length c'] ∧
      ClI w (((w'.setCell ⟨M, 0, none⟩ (.slice A3 st'.ps.length c3)).setCell ⟨M, 1, none⟩ (.int .i64 st'.last)).setCell ⟨M, 2, none⟩ (.slice A4 st'.iso.length c4)) T L n st' k' M A3 c3 A4 c4 m st2 k2 M2 B d B' d' := by
  obtain ⟨T', L', h1, h2, h3⟩ := h.pair.left
  refine ⟨T', L', h1, fun w' st' k' A3 c3 A4 c4 hn hs => ?_⟩
  obtain ⟨h4, h5⟩ := h3 _ _ _ _ hn hs
  have hm := h.b1.same h5 (fun x => x h.t1.1)
  have hset := set3 w' M (.slice A3 st'.ps.length c3) (.int .i64 st'.last) (.slice A4 st'.iso.length c4)
  refine ⟨hm, h4.local_ hset (fun b e => by rw [show b = M from e]; exact h.t1.symm), blk_set3 hm _ _ _, (h.b2.same h5 (fun x => x h.t2.1)).same hset (fun e => h.ne (show M2 = M from e).symm), (h.since.trans h5 (fun b hb x => (x (h.tt b hb)).elim)).trans hset (fun b hb e => ?_), h.t1, h.t2, h.tt, h.lo, h.ne⟩
  have := h.lo.1
  rw [show b = M from e] at hb
  omega
theorem ClI.cells (h : ClI w W T L n st k M A c A' c' m st2 k2 M2 B d B' d') : W.cell? ⟨M, 0, none⟩ = some (.slice A st.ps.length c) ∧ W.cell? ⟨M, 1, none⟩ = some (.int .i64 st.last) ∧ W.cell? ⟨M, 2, none⟩ = some (.slice A' st.iso.length c') ∧ M < W.heap.size :=
  ⟨h.b1.cell 0, h.b1.cell 1, h.b1.cell 2, h.b1.lt⟩
theorem ClI.start {w2 w3 : World} (h : NR (fun b => b < w.heap.size) noB w2 n st k (.agg #[.slice A st.ps.length c, .int .i64 st.last, .slice A' st.iso.length c'])) (hs : Same noB w w2)
    (hc : NetNew (w2.alloc (.cells #[.slice A st.ps.length c, .int .i64 st.last, .slice A' st.iso.length c'] 43)) w3 m st k) :
    ∃ T L, ClI w (w3.alloc (.cells #[.slice A st.ps.length c, .int .i64 st.last, .slice A' st.iso.length c'] 43)) T L n st k w2.heap.size A c A' c' m st k w3.heap.size A c A' c' := by
  obtain ⟨h0, _, S, h1, h2, h3⟩ := h
  obtain ⟨S2, g1, g2, g3⟩ := hc
  have ha : Same noB w2 (w2.alloc (.cells #[.slice A st.ps.length c, .int .i64 st.last, .slice A' st.iso.length c'] 43)) := (Same.refl _ _).alloc _
  have hb : Same noB w3 (w3.alloc (.cells #[.slice A st.ps.length c, .int .i64 st.last, .slice A' st.iso.length c'] 43)) := (Same.refl _ _).alloc _
  have hz : (w2.alloc (.cells #[.slice A st.ps.length c, .int .i64 st.last, .slice A' st.iso.length c'] 43)).heap.size = w2.heap.size + 1 := by simp
  have hz3 : (w3.alloc (.cells #[.slice A st.ps.length c, .int .i64 st.last, .slice A' st.iso.length c'] 43)).heap.size = w3.heap.size + 1 := by simp
  have hz4 := g3.size
  have hz5 := hs.size
  rw [hz] at g2 hz4
  have hall := (ha.trans' g3).trans' hb
  have hr : RefAt (w3.alloc (.cells #[.slice A st.ps.length c, .int .i64 st.last, .slice A' st.iso.length c'] 43)) (fun b => (S b ∨ S2 b) ∨ (b = w2.heap.size ∨ b = w3.heap.size)) (.agg #[.slice A st.ps.length c, .int .i64 st.last, .slice A' st.iso.length c']) st :=
    h3.same hall (fun _ _ x => x.elim) (fun b hb x => x.elim (fun x => x.elim .inl (fun x => by have := g2 b x; omega)) (fun x => by omega))
  refine ⟨fun b => b < w.heap.size ∨ (b = w2.heap.size ∨ b = w3.heap.size), fun b => b = w2.heap.size ∨ b = w3.heap.size, ⟨fun b hb => by rw [hz3]; omega, fun b hb => by rw [hz3]; omega, S, S2, h1.same hall (fun _ _ x => x), g1.same hb (fun _ _ x => x), fun b hb x => ?_, fun b hb x => ?_, fun b hb x => ?_, hr, hr⟩, ((Blk.new _ _ _).same g3 (fun x => x)).same hb (fun x => x), Blk.new _ _ _, hs.trans' hall, ⟨.inr (.inl rfl), .inl rfl⟩, ⟨.inr (.inr rfl), .inr rfl⟩, fun b hb => .inl hb, ⟨hz5, by omega⟩, by omega⟩
  · have := h1.bd b hb
    rcases x with x | x
    · exact h2 b hb x
    · omega
  · have := g2 b hb
    have := g1.bd b hb
    omega
  · have := g2 b x
    have := h1.bd b hb
    omega
end
theorem NetSt.Upto.mono {st : NetSt} {i j : Nat} (h : st.Upto i) (hij : i ≤ j) : st.Upto j :=
  ⟨Nat.le_trans h.len hij, h.last0, by have := h.lastj; omega, Nat.le_trans h.iso hij, h.ends⟩
theorem acts_step {l : List Opn} {j : Nat} {x : Opn} (st : NetSt) (h : l[j]? = some x) : st.acts (l.take (j + 1)) = (st.acts (l.take j)).act x := by
  rw [List.take_add_one, h, NetSt.acts, List.foldl_append]
  rfl

set_option maxHeartbeats 16000000 in
theorem clones_any {w : World} {v v2 : Value} {l l2 : List Opn} (h : Rd w noB 5 v l.length (ocells l)) (hok : ∀ o ∈ l, o.ok) (h2 : Rd w noB 5 v2 l2.length (ocells l2)) (hok2 : ∀ o ∈ l2, o.ok) :
    Calls Try.prog 9 #[v, v2] w fun e w' => e = .returned (.bool true) ∧ Same noB w w' := by
  have H0 := Lib.hid (few_any h 30 (fun o ho => (hok o ho).2.2.2.2))
  have H02 := Lib.hid (few_any h2 30 (fun o ho => (hok2 o ho).2.2.2.2))
  by_cases hf : few l 30 = true
  · rw [hf] at H0
    by_cases hf2 : few l2 30 = true
    · have hlen := few_len hf
      have hl : l.length ≤ 40 := by omega
      have hlen2 := few_len hf2
      have hl2 : l2.length ≤ 40 := by omega
      have HU := Lib.hid (acts_upto hok)
      have HR := Lib.hid (run_any h hok (by omega))
      have HL := Lib.hid h
      have HO := Lib.hid hok
      have HO2 := Lib.hid hok2
      obtain ⟨Al, cl, rfl, _, _, h2⟩ := h2.form
      have HL2 := Lib.hid h2
      rw [hf2] at H02
      clear h hok hf hlen h2 hok2 hf2 hlen2
      go_enter Try.func9, Try.ntmps9
      go_wp2_with fail
      have hZ := H0.out
      (with_reducible refine Calls.mono hZ ?_)
      clear hZ
      rintro e w1 ⟨rfl, rfl⟩
      go_wp2_with fail
      have hZ := H02.out
      (with_reducible refine Calls.mono hZ ?_)
      clear hZ
      rintro e w1 ⟨rfl, rfl⟩
      go_wp2_with fail
      have hZ := HR.out
      (with_reducible refine Calls.mono hZ ?_)
      clear hZ
      rintro e w2 ⟨n, v', k, rfl, hn, hs, hk⟩
      generalize startSt.acts l = st at *
      obtain ⟨A, c, A', c', rfl, _, _⟩ := id hn.ref
      have HN := Lib.hid (And.intro hn (And.intro hs hk))
      clear hn hs hk H0 H02 HR
      go_wp2_with fail
      have hZ := netclone_any (HN.out.1.on.keep ((Same.refl _ _).alloc (.cells #[.slice A st.ps.length c, .int .i64 st.last, .slice A' st.iso.length c'] 43))) (HU.out.ps_len (by omega))
      (with_reducible refine Calls.mono hZ ?_)
      clear hZ
      rintro e w3 ⟨m, rfl, hc⟩
      have hbm := (Blk.new w2 43 #[.slice A st.ps.length c, .int .i64 st.last, .slice A' st.iso.length c']).same hc.since (fun x => x)
      have m0 := hbm.cell 0
      have m1 := hbm.cell 1
      have m2 := hbm.cell 2
      obtain ⟨T, L, hI⟩ := ClI.start HN.out.1 HN.out.2.1 hc
      have HI := Lib.hid hI
      have HK := Lib.hid HN.out.2.2
      clear hc hbm hI HN
      go_wp2_with fail
      refine wp_abs (fun W => Hid (ClI w1 W T L n st k w2.heap.size A c A' c' m st k w3.heap.size A c A' c')) HI ?_
      clear HI m0 m1 m2
      generalize w2.heap.size = M at *
      generalize w3.heap.size = M2 at *
      intro W HI
      go_loopw [7, 40] (fun ok i wr => ∃ (j : Nat) (st2 : NetSt) (k2 : Nat) (B : Option Addr) (d : Nat) (B' : Option Addr) (d' : Nat), j ≤ l2.length ∧ i = .int .i64 j ∧ ok = .bool true ∧ Hid (st2 = st.acts (l2.take j) ∧ st2.Upto (l.length + j) ∧ k2 ≤ l.length + j) ∧ Hid (ClI w1 wr T L n st k M A c A' c' m st2 k2 M2 B d B' d')) (fun _ i _ => l2.length - (intOf i).toNat)
      case atStart => exact ⟨0, _, k, _, _, _, _, Nat.zero_le _, rfl, rfl, ⟨rfl, HU.out, HK.out⟩, HI⟩
      case round =>
        obtain ⟨j, st2, k2, B, d, B', d', hj, rfl, rfl, HS, HC⟩ := hrel
        clear HI
        obtain ⟨m0, m1, m2, lm⟩ := HC.out.symm.cells
        by_cases hlt : j < l2.length
        · obtain ⟨b, o, rfl, r⟩ := HL2.out.at_ (by omega)
          obtain ⟨x, hx⟩ : ∃ x, l2[j]? = some x := ⟨_, List.getElem?_eq_getElem hlt⟩
          obtain ⟨c0, c1, c2, c3, c4⟩ := op_cells5 r hx
          have g0 := HC.out.since.cell c0 (fun e => e)
          have g1 := HC.out.since.cell c1 (fun e => e)
          have g2 := HC.out.since.cell c2 (fun e => e)
          have g3 := HC.out.since.cell c3 (fun e => e)
          have g4 := HC.out.since.cell c4 (fun e => e)
          have HX := Lib.hid hx
          obtain ⟨T', L', hn, hnx⟩ := (HC.out.keep ((Same.refl _ _).alloc (.cells #[.int .i64 x.kind, .int .i64 x.a, .int .i64 x.b, .int .i64 x.i, .string x.data] 30))).symm.left
          have hZ0 := step_any hn HS.out.2.1 HS.out.2.2 (by omega) x (HO2.out _ (List.mem_of_getElem? hx))
          unfold Opn.val at hZ0
          have HZ := Lib.hid hZ0
          have HNX := Lib.hid hnx
          clear r hx c0 c1 c2 c3 c4 hn hnx hZ0
          go_wp2_with fail
          have hZ := HZ.out
          (with_reducible refine Calls.mono hZ ?_)
          clear hZ HZ
          rintro e w5 ⟨v5, k5, rfl, hn5, hs5, hup, hk5⟩
          obtain ⟨_, _, S5, _, _, hrr⟩ := id hn5
          obtain ⟨A3, c3, A4, c4, rfl, _, _⟩ := id hrr
          obtain ⟨hb5, hcl⟩ := HNX.out _ _ _ _ _ _ _ hn5 hs5
          have z0 := hb5.cell 0
          have z1 := hb5.cell 1
          have z2 := hb5.cell 2
          have y0 := hb5.frozen 0
          have y1 := hb5.frozen 1
          have y2 := hb5.frozen 2
          have lm5 := hb5.lt
          have HCL := Lib.hid hcl
          have HUP := Lib.hid (And.intro hup hk5)
          clear hn5 hs5 hup hk5 hrr hb5 hcl HNX m0 m1 m2 lm g0 g1 g2 g3 g4
          go_wp2_with fail
          go_roundw
          case rel => exact ⟨j + 1, _, k5, A3, c3, A4, c4, by omega, by go_num, rfl, ⟨by rw [acts_step st HX.out, HS.out.1], HUP.out.1, HUP.out.2⟩, HCL.out.symm⟩
          case measure => simp [intOf]; omega
        · obtain rfl : j = l2.length := by omega
          have HS2 : Hid (st2 = st.acts l2) := by have := HS.out.1; rwa [List.take_length] at this
          have HU2 := Lib.hid HS.out.2.1
          obtain ⟨n0, n1, n2, ln⟩ := HC.out.cells
          clear HS
          go_wp2_with fail
          have hZ := same_any HC.out.pair.nr (HL.out.same (bad' := noB) HC.out.since (fun _ _ x => x) (fun _ _ x => x)) HO.out (HU.out.ps_len (by omega))
          (with_reducible refine Calls.mono hZ ?_)
          clear hZ
          rintro e w4 ⟨rfl, hs⟩
          have HC4 := Lib.hid (HC.out.keep hs)
          clear hs HC m0 m1 m2 lm n0 n1 n2 ln
          obtain ⟨n0, n1, n2, ln⟩ := HC4.out.symm.cells
          go_wp2_with fail
          have hZ := same_any HC4.out.symm.pair.nr (HL2.out.same (bad' := noB) HC4.out.since (fun _ _ x => x) (fun _ _ x => x)) HO2.out (HU2.out.ps_len (by omega))
          (with_reducible refine Calls.mono hZ ?_)
          clear hZ
          rintro e w5 ⟨rfl, hs⟩
          have HC5 := Lib.hid (HC4.out.keep hs)
          clear hs HC4 n0 n1 n2 ln
          go_wp2_with fail
          go_loopw [7, 68] (fun ok i wr => ∃ (j : Nat) (st1 : NetSt) (k1 : Nat) (A : Option Addr) (c : Nat) (A' : Option Addr) (c' : Nat), j ≤ l2.length ∧ i = .int .i64 j ∧ ok = .bool true ∧ Hid (st1 = st.acts (l2.take j) ∧ st1.Upto (l.length + j) ∧ k1 ≤ l.length + j) ∧ Hid (ClI w1 wr T L n st1 k1 M A c A' c' m st2 k2 M2 B d B' d')) (fun _ i _ => l2.length - (intOf i).toNat)
          case atStart => exact ⟨0, _, k, _, _, _, _, Nat.zero_le _, rfl, rfl, ⟨rfl, HU.out, HK.out⟩, HC5⟩
          case round =>
            obtain ⟨j, st1, k1, A, c, A', c', hj2, rfl, rfl, HS, HC⟩ := hrel
            clear HC5
            obtain ⟨m0, m1, m2, lm⟩ := HC.out.cells
            by_cases hlt2 : j < l2.length
            · obtain ⟨b, o, rfl, r⟩ := HL2.out.at_ (by omega)
              obtain ⟨x, hx⟩ : ∃ x, l2[j]? = some x := ⟨_, List.getElem?_eq_getElem hlt2⟩
              obtain ⟨c0, c1, c2, c3, c4⟩ := op_cells5 r hx
              have g0 := HC.out.since.cell c0 (fun e => e)
              have g1 := HC.out.since.cell c1 (fun e => e)
              have g2 := HC.out.since.cell c2 (fun e => e)
              have g3 := HC.out.since.cell c3 (fun e => e)
              have g4 := HC.out.since.cell c4 (fun e => e)
              have HX := Lib.hid hx
              obtain ⟨T', L', hn, hnx⟩ := (HC.out.keep ((Same.refl _ _).alloc (.cells #[.int .i64 x.kind, .int .i64 x.a, .int .i64 x.b, .int .i64 x.i, .string x.data] 30))).left
              have hZ0 := step_any hn HS.out.2.1 HS.out.2.2 (by omega) x (HO2.out _ (List.mem_of_getElem? hx))
              unfold Opn.val at hZ0
              have HZ := Lib.hid hZ0
              have HNX := Lib.hid hnx
              clear r hx c0 c1 c2 c3 c4 hn hnx hZ0
              go_wp2_with fail
              have hZ := HZ.out
              (with_reducible refine Calls.mono hZ ?_)
              clear hZ HZ
              rintro e w5 ⟨v5, k5, rfl, hn5, hs5, hup, hk5⟩
              obtain ⟨_, _, S5, _, _, hrr⟩ := id hn5
              obtain ⟨A3, c3, A4, c4, rfl, _, _⟩ := id hrr
              obtain ⟨hb5, hcl⟩ := HNX.out _ _ _ _ _ _ _ hn5 hs5
              have z0 := hb5.cell 0
              have z1 := hb5.cell 1
              have z2 := hb5.cell 2
              have y0 := hb5.frozen 0
              have y1 := hb5.frozen 1
              have y2 := hb5.frozen 2
              have lm5 := hb5.lt
              have HCL := Lib.hid hcl
              have HUP := Lib.hid (And.intro hup hk5)
              clear hn5 hs5 hup hk5 hrr hb5 hcl HNX m0 m1 m2 lm g0 g1 g2 g3 g4
              go_wp2_with fail
              go_roundw
              case rel => exact ⟨j + 1, _, k5, A3, c3, A4, c4, by omega, by go_num, rfl, ⟨by rw [acts_step st HX.out, HS.out.1], HUP.out.1, HUP.out.2⟩, HCL.out⟩
              case measure => simp [intOf]; omega
            · obtain rfl : j = l2.length := by omega
              have HS1 : Hid (st1 = st2) := by have := HS.out.1; rw [List.take_length] at this; exact this.trans HS2.out.symm
              clear HS m0 m1 m2 lm
              go_wp2_with fail
              have hZ := pending_on HC.out.pair.nr.on (by rw [HS1.out]; exact HU2.out.ps_len (by omega))
              rw [HS1.out] at hZ
              (with_reducible refine Calls.mono hZ ?_)
              clear hZ
              rintro e w6 ⟨v6, rfl, ha⟩
              have HC6 := Lib.hid (HC.out.keep ha.since)
              have HA6 := Lib.hid (ha.rd (bad := noB) (fun _ e => e.elim))
              clear ha HC
              go_wp2_with fail
              have hZ := pending_on HC6.out.symm.pair.nr.on (HU2.out.ps_len (by omega))
              (with_reducible refine Calls.mono hZ ?_)
              clear hZ
              rintro e w7 ⟨v7, rfl, ha⟩
              have HS7 := Lib.hid (HC6.out.since.trans' ha.since)
              have HA6 := Lib.hid (HA6.out.same (bad' := noB) ha.since (fun _ _ x => x) (fun _ _ x => x))
              have HA7 := Lib.hid (ha.rd (bad := noB) (fun _ e => e.elim))
              clear ha HC6
              go_wp2_with fail
              have hZ := rsame_true HA6.out HA7.out
              (with_reducible refine Calls.mono hZ ?_)
              clear hZ
              rintro e w8 ⟨rfl, hs⟩
              have HS8 := Lib.hid (HS7.out.trans' hs)
              clear hs HS7
              go_wp2_with fail
              refine (awake_any _).mono ?_
              rintro e w9 ⟨rfl, hs⟩
              have HS9 := Lib.hid (HS8.out.trans' hs)
              clear hs HS8
              go_wp2_with fail
              go_ret
              exact ⟨rfl, HS9.out⟩
    · rw [Bool.not_eq_true] at hf2
      rw [hf2] at H02
      clear h hok hf h2 hok2 hf2
      go_enter Try.func9, Try.ntmps9
      go_wp2_with fail
      have hZ := H0.out
      (with_reducible refine Calls.mono hZ ?_)
      clear hZ
      rintro e w1 ⟨rfl, rfl⟩
      go_wp2_with fail
      have hZ := H02.out
      (with_reducible refine Calls.mono hZ ?_)
      clear hZ
      rintro e w1 ⟨rfl, rfl⟩
      go_wp2_with fail
      refine (awake_any _).mono ?_
      rintro e w4 ⟨rfl, hs⟩
      have HS := Lib.hid hs
      clear hs
      go_wp2_with fail
      go_ret
      exact ⟨rfl, HS.out⟩
  · rw [Bool.not_eq_true] at hf
    rw [hf] at H0
    clear h hok hf h2 hok2 H02
    go_enter Try.func9, Try.ntmps9
    go_wp2_with fail
    have hZ := H0.out
    (with_reducible refine Calls.mono hZ ?_)
    clear hZ
    rintro e w1 ⟨rfl, rfl⟩
    go_wp2_with fail
    refine (awake_any _).mono ?_
    rintro e w4 ⟨rfl, hs⟩
    have HS := Lib.hid hs
    clear hs
    go_wp2_with fail
    go_ret
    exact ⟨rfl, HS.out⟩
end Go.Proofs.Ytgmoeejhgjfpgaa
