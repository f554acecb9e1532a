/- run: a new network and the reference's, l operations on both. -/
import Derived.Test.YtgmoeejhgjfpgaaStepF
namespace Go.Proofs.Ytgmoeejhgjfpgaa
open Go Go.RowKit Go.Maps

def startSt : NetSt := ⟨[], 0, []⟩
def NetSt.acts (st : NetSt) (l : List Opn) : NetSt := l.foldl NetSt.act st
theorem NetSt.Upto.acts {st : NetSt} {j : Nat} (h : st.Upto j) (l : List Opn) (hl : ∀ o ∈ l, o.ok) : (st.acts l).Upto (j + l.length) := by
  induction l generalizing st j with
  | nil => exact h
  | cons o l ih =>
    have := ih (h.act o (hl o (by simp))) (fun x hx => hl x (by simp [hx]))
    rw [List.length_cons, show j + (l.length + 1) = j + 1 + l.length from by omega]
    exact this
theorem start_upto (j : Nat) : startSt.Upto j := ⟨Nat.zero_le _, Int.le_refl _, Int.natCast_nonneg _, Nat.zero_le _, fun p hp => by cases hp⟩

/-- run's memory at the loop's head: the model's struct at M, the result's at R. -/
structure RunM (w wr : World) (n M R : Nat) (st : NetSt) (k : Nat) (A : Option Addr) (c : Nat) (A' : Option Addr) (c' : Nat) : Prop where
  nr : NR (fun b => b < w.heap.size ∨ b = M ∨ b = R) (fun b => b = M ∨ b = R) wr n st k (.agg #[.slice A st.ps.length c, .int .i64 st.last, .slice A' st.iso.length c'])
  m : Blk wr M 43 #[.slice A st.ps.length c, .int .i64 st.last, .slice A' st.iso.length c']
  r : Blk wr R 43 #[.slice none 0 0, .int .i64 0, .slice none 0 0]
  since : Same noB w wr
  lm : w.heap.size ≤ M
  lr : w.heap.size ≤ R
  ne : M ≠ R
/-- Behind the step and the store of its result. -/
theorem RunM.next {w wr W3 w4 : World} {n M R : Nat} {st st' : NetSt} {k k' : Nat} {A : Option Addr} {c : Nat} {A' : Option Addr} {c' : Nat} {A2 : Option Addr} {c2 : Nat} {A3 : Option Addr} {c3 : Nat} (h : RunM w wr n M R st k A c A' c')
    (hn : NR (fun b => b < w.heap.size ∨ b = M ∨ b = R) (fun b => b = M ∨ b = R) W3 n st' k' (.agg #[.slice A2 st'.ps.length c2, .int .i64 st'.last, .slice A3 st'.iso.length c3])) (hs : Same (notB (fun b => b < w.heap.size ∨ b = M ∨ b = R)) wr W3)
    (hw : w4 = ((W3.setCell ⟨M, 0, none⟩ (.slice A2 st'.ps.length c2)).setCell ⟨M, 1, none⟩ (.int .i64 st'.last)).setCell ⟨M, 2, none⟩ (.slice A3 st'.iso.length c3)) : RunM w w4 n M R st' k' A2 c2 A3 c3 := by
  subst hw
  have h3 := set3 W3 M (.slice A2 st'.ps.length c2) (.int .i64 st'.last) (.slice A3 st'.iso.length c3)
  have z := h3.size
  obtain ⟨t1, t2, S, h4, h5, h6⟩ := hn
  refine ⟨⟨fun b hb => by have := t1 b hb; omega, fun b hb => by have := t2 b hb; omega, S, h4.same h3 (fun b hb e => h5 b hb (.inr (.inl e))), h5, h6.same h3 (fun b _ e => .inr (.inl e)) (fun _ _ x => x)⟩, blk_set3 (h.m.same hs (fun x => x (.inr (.inl rfl)))) _ _ _, (h.r.same hs (fun x => x (.inr (.inr rfl)))).same h3 (fun e => h.ne (show R = M from e).symm), (h.since.trans hs (fun b hb x => (x (.inl hb)).elim)).trans h3 (fun b hb e => ?_), h.lm, h.lr, h.ne⟩
  have := h.lm
  rw [show b = M from e] at hb
  omega

/-- Behind the store of the results. -/
theorem RunM.fin {w wr w4 : World} {n M R : Nat} {st : NetSt} {k : Nat} {A : Option Addr} {c : Nat} {A' : Option Addr} {c' : Nat} (h : RunM w wr n M R st k A c A' c')
    (hw : w4 = ((wr.setCell ⟨R, 0, none⟩ (.slice A st.ps.length c)).setCell ⟨R, 1, none⟩ (.int .i64 st.last)).setCell ⟨R, 2, none⟩ (.slice A' st.iso.length c')) :
    Blk w4 R 43 #[.slice A st.ps.length c, .int .i64 st.last, .slice A' st.iso.length c'] ∧ NR (fun b => b < w.heap.size) noB w4 n st k (.agg #[.slice A st.ps.length c, .int .i64 st.last, .slice A' st.iso.length c']) ∧ Same noB w w4 := by
  subst hw
  have h3 := set3 wr R (.slice A st.ps.length c) (.int .i64 st.last) (.slice A' st.iso.length c')
  have z := h3.size
  obtain ⟨t1, t2, S, h4, h5, h6⟩ := h.nr
  refine ⟨blk_set3 h.r _ _ _, ⟨fun b hb => ?_, fun b hb => hb.elim, S, h4.same h3 (fun b hb e => h5 b hb (.inr (.inr e))), fun b hb hx => h5 b hb (.inl hx), h6.same h3 (fun b _ e => .inr (.inr e)) (fun b _ x => x.elim .inl (fun e => e.elim))⟩, h.since.trans h3 (fun b hb e => ?_)⟩
  · have := t1 b (.inl hb)
    omega
  · have := h.lr
    rw [show b = R from e] at hb
    omega
theorem res_run {fn : Func} {i j k : Nat} (hres : fn.results = #[.tmp i, .cell j 43, .tmp k]) {tmps : Array Value} {w : World} {g : Nat} {a b c u v : Value} (hb : Blk w g 43 #[a, b, c]) (h0 : tmps.getD i undef = u) (h4 : tmps.getD j undef = .pointer (some ⟨g, 0, none⟩)) (h5 : tmps.getD k undef = v) :
    (results fn tmps).run Try.prog w = .ok (.tuple #[u, .agg #[a, b, c], v]) w := by
  have c0 : w.cell? ⟨g, 0, none⟩ = some a := hb.cell 0
  have c1 : w.cell? ⟨g, 1, none⟩ = some b := hb.cell 1
  have c2 : w.cell? ⟨g, 2, none⟩ = some c := hb.cell 2
  simp only [Array.getD_eq_getD_getElem?] at h0 h4 h5
  simp [results, hres, go_sem, h0, h4, h5, c0, c1, c2]

set_option maxHeartbeats 8000000 in
theorem run_any {w : World} {v : Value} {l : List Opn} (h : Rd w noB 5 v l.length (ocells l)) (hok : ∀ o ∈ l, o.ok) (hl : l.length ≤ 1000) :
    Calls Try.prog 20 #[v] w fun e w' => ∃ n v' k, e = .returned (.tuple #[.pointer (some ⟨n, 0, none⟩), v', .bool true]) ∧ NR (fun b => b < w.heap.size) noB w' n (startSt.acts l) k v' ∧ Same noB w w' ∧ k ≤ l.length := by
  obtain ⟨Al, cl, rfl, hnc, hcm, hr⟩ := h.form
  have HR := Lib.hid hr
  have HO := Lib.hid hok
  clear h hr hok hcm hnc
  go_enter Try.func20, Try.ntmps20
  go_wp2_with fail
  refine Calls.mono (new_new _) ?_
  rintro e w1 ⟨n, rfl, hN⟩
  have HN := Lib.hid hN
  clear hN
  go_wp2_with fail
  refine wp_abs (fun W => ∃ M, M = w1.heap.size ∧ RunM w W n M w.heap.size startSt 0 none 0 none 0) ?_ ?_
  · obtain ⟨S, h1, h2, h3⟩ := HN.out
    have hsz := h3.size
    have hbd := h1.bd
    have hR := (Blk.new w 43 #[.slice none 0 0, .int .i64 0, .slice none 0 0]).same h3 (fun x => x)
    have e1 : (w.alloc (.cells #[.slice none 0 0, .int .i64 0, .slice none 0 0] 43)).heap.size = w.heap.size + 1 := by simp
    rw [e1] at hsz h2
    refine ⟨_, rfl, ⟨fun b hb => ?_, fun b hb => ?_, S, h1.same ((Same.refl noB _).alloc _) (fun _ _ x => x), fun b hb ht => ?_, RefAt.zero _ _⟩, Blk.new _ _ _, hR.alloc _, (((Same.refl noB _).alloc _).trans' h3).alloc _, by omega, Nat.le_refl _, by omega⟩
    · simp
      omega
    · simp
      omega
    · have := h2 b hb
      have := hbd b hb
      omega
  clear HN
  rintro W ⟨M, hM, hW⟩
  rw [← hM]
  have HW := Lib.hid hW
  clear hW hM
  go_loopw [7, 8] (fun ok i wr => ∃ (j : Nat) (st : NetSt) (k : Nat) (A : Option Addr) (c : Nat) (A' : Option Addr) (c' : Nat), j ≤ l.length ∧ i = .int .i64 j ∧ ok = .bool true ∧ Hid (st = startSt.acts (l.take j) ∧ st.Upto j ∧ k ≤ j) ∧ Hid (RunM w wr n M w.heap.size st k A c A' c')) (fun _ i _ => l.length - (intOf i).toNat)
  case atStart => exact ⟨0, _, 0, _, _, _, _, Nat.zero_le _, rfl, rfl, ⟨rfl, start_upto 0, Nat.le_refl _⟩, HW⟩
  case round =>
    obtain ⟨j, st, k, A, c, A', c', hj, rfl, rfl, HI, HM⟩ := hrel
    have m0 := HM.out.m.cell 0
    have m1 := HM.out.m.cell 1
    have m2 := HM.out.m.cell 2
    have lm := HM.out.m.lt
    by_cases hlt : j < l.length
    · obtain ⟨b, o, rfl, r⟩ := HR.out.at_ (by omega)
      obtain ⟨x, hx⟩ : ∃ x, l[j]? = some x := ⟨_, List.getElem?_eq_getElem hlt⟩
      have hs := HM.out.since
      have c0 := hs.cell (r.cell (j * 5 + 0) (.int .i64 x.kind) (by rw [ocells_at hx 0 (by omega)]; rfl)) (fun e => e)
      have c1 := hs.cell (r.cell (j * 5 + 1) (.int .i64 x.a) (by rw [ocells_at hx 1 (by omega)]; rfl)) (fun e => e)
      have c2 := hs.cell (r.cell (j * 5 + 2) (.int .i64 x.b) (by rw [ocells_at hx 2 (by omega)]; rfl)) (fun e => e)
      have c3 := hs.cell (r.cell (j * 5 + 3) (.int .i64 x.i) (by rw [ocells_at hx 3 (by omega)]; rfl)) (fun e => e)
      have c4 := hs.cell (r.cell (j * 5 + 4) (.string x.data) (by rw [ocells_at hx 4 (by omega)]; rfl)) (fun e => e)
      have hX := step_any (HM.out.nr.keep ((Same.refl noB wr).drew)) HI.out.2.1 HI.out.2.2 (by omega) x (HO.out _ (List.mem_of_getElem? hx))
      unfold Opn.val at hX
      have HX := Lib.hid hX
      have HXX := Lib.hid hx
      simp only [← Nat.add_assoc, Nat.add_zero] at c0 c1 c2 c3 c4
      clear r hx hs hX
      go_wp2_with fail
      go_region_with ((have hZ := HX.out; (with_reducible refine Calls.mono hZ ?_); clear hZ; rintro e W3 ⟨v', k', rfl, hn, hsm, hup, hk'⟩; obtain ⟨_, _, S3, _, _, hrr⟩ := id hn; obtain ⟨A2, c2', A3, c3', rfl, _, _⟩ := id hrr; have HN := Lib.hid (And.intro hn (And.intro hsm (And.intro hup hk'))); have hm3 := HM.out.m.drew.same hsm (fun x => x (.inr (.inl rfl))); have z0 := hm3.cell 0; have z1 := hm3.cell 1; have z2 := hm3.cell 2; have y0 := hm3.frozen 0; have y1 := hm3.frozen 1; have y2 := hm3.frozen 2; have lm3 := hm3.lt; clear hn hsm hup hk' hm3 hrr))
      all_goals go_wp2_with fail
      all_goals
        obtain ⟨hn, hsm, hup, hk'⟩ := HN.out
        exact ⟨⟨j + 1, _, k', _, _, _, _, by omega, by go_num, rfl, ⟨by rw [List.take_add_one, HXX.out, NetSt.acts, List.foldl_append, HI.out.1]; rfl, hup, hk'⟩, HM.out.next hn (((Same.refl noB wr).drew).of_no.trans' hsm) rfl⟩, by simp [intOf]; omega⟩
    · obtain rfl : j = l.length := by omega
      have r0 := HM.out.r.cell 0
      have r1 := HM.out.r.cell 1
      have r2 := HM.out.r.cell 2
      have q0 := HM.out.r.frozen 0
      have q1 := HM.out.r.frozen 1
      have q2 := HM.out.r.frozen 2
      have lr := HM.out.r.lt
      have HF := Lib.hid (HM.out.fin rfl)
      have HE : Hid (st = startSt.acts l) := by have := HI.out.1; rwa [List.take_length] at this
      have HK : Hid (k ≤ l.length) := HI.out.2.2
      clear HI HM
      go_wp2_with fail
      go_region
      all_goals go_wp2_with fail
      all_goals
        obtain ⟨k1, k2, k3⟩ := HF.out
        exact bodyPost_ret (res_run rfl k1.drew rfl rfl rfl) rfl ⟨n, _, k, rfl, by rw [← HE.out]; exact k2.keep ((Same.refl _ _).drew), k3.drew, HK.out⟩
end Go.Proofs.Ytgmoeejhgjfpgaa
