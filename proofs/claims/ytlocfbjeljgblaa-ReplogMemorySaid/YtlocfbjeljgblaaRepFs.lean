/- Layer 36: Entry's copy may be written; Few with the bound as it stands. (printed by genRepFr.py) -/
import Derived.Test.YtlocfbjeljgblaaRepFr
namespace Go.Proofs.Ytlocfbjeljgblaa
open Go Go.RowKit
set_option maxRecDepth 100000

set_option maxHeartbeats 8000000 in
theorem entry2_in {w : World} {M : Nat} {base i : Int} {x : EnV} (c0 : w.cell? ⟨M, 0, none⟩ = some (.int .i64 base)) (h : base < i)
    (HZ : Hid (∀ W : World, Same noB w W → Calls Try.prog 19 #[.pointer (some ⟨M, 0, none⟩), .int .i64 i, .int .i64 1] W fun r w' => ∃ v, r = .returned v ∧ ∃ es, CopyF W w' v es [x])) :
    Calls Try.prog 22 #[.pointer (some ⟨M, 0, none⟩), .int .i64 i] w fun r w' => ∃ e, r = .returned (.tuple #[e.val, .bool true]) ∧ EnIs w' (oldB w) e x ∧ (0 < e.c.f3.len → SlF w' e.c.f3) ∧ Same noB w w' := by
  have hd : decide (i ≤ base) = false := decide_eq_false (by omega)
  clear h
  go_enter Try.func22, Try.ntmps22
  go_upto_region 1 with (fail)
  refine wp_abs (fun W => Hid (Blk W w.heap.size 57 en0.cells.toArray) ∧ Hid (Same noB w W)) ⟨Blk.new _ _ _, (Same.refl _ _).alloc _⟩ ?_
  rintro W ⟨HB, HS⟩
  obtain ⟨N, hN⟩ : ∃ N, w.heap.size = N := ⟨_, rfl⟩
  rw [hN] at HB ⊢
  go_wp2_with fail
  (with_reducible refine Calls.mono (HZ.out _ HS.out) ?_)
  rintro r W2 ⟨v, rfl, es, hc0⟩
  have hc := hc0.1
  have hs2 := hc.since
  have hl := hc.is.len
  obtain ⟨e, rfl⟩ : ∃ e, es = [e] := by
    cases es with
    | nil => simp at hl
    | cons a l => cases l with
      | nil => exact ⟨a, rfl⟩
      | cons b l => simp at hl
  have hr := Rd.of_own (bad := noB) hc.own (fun _ _ x => x)
  obtain ⟨A, c, rfl, hc1, hc2, hr2⟩ := hr.form
  obtain ⟨b, o, rfl, r⟩ := hr2.at_ (by simp)
  obtain ⟨p0, p1, p2, p3, p4, p5, p6, p7, p8, p9, p10, p11, p12, p13, p14⟩ := en_at (k := 0) (e := e) r rfl
  simp only [Nat.zero_mul, Nat.add_zero, List.length_cons, List.length_nil, Nat.zero_add] at p0 p1 p2 p3 p4 p5 p6 p7 p8 p9 p10 p11 p12 p13 p14 hc1 ⊢
  have HNW := Lib.hid HB.out.lt
  have HE : Hid (EnIs W2 (oldB W) e x) := by
    have hi := hc.is
    cases hi with
    | cons hi _ => exact hi.same (Same.refl noB _) (fun _ _ x => x.elim) (fun b _ hb => .inl hb)
  have HFR := Lib.hid (hc0.2 e (List.mem_cons_self ..))
  clear r hr2 hr hl hc hc0
  have d0 := hs2.cell (HS.out.cell c0 (fun x => x)) (fun x => x)
  have HB1 := Lib.hid (HB.out.same hs2 (fun x => x))
  have HB2 := Lib.hid (en_stored HB1.out e)
  have HS2 := Lib.hid (HS.out.trans' hs2)
  have HSZ := Lib.hid HS.out.size
  clear hs2 c0 HB HS HZ
  go_wp2_with (refine wpList_store_row rfl 57 _ _ rfl N e.cells.toArray rfl rfl 57 _ HB1.out (by kernel_rfl) rfl (by kernel_rfl) ?_)
  (try simp only [Exit.inBlock, Exit.then])
  refine bodyPost_ret (res_et rfl HB2.out.1 rfl rfl) rfl ?_
  exact ⟨e, rfl, HE.out.same HB2.out.2 (fun b hb hx => by have h3 : b = N := hx; rw [h3]; exact HNW.out) (fun b _ hb => Nat.lt_of_lt_of_le hb HSZ.out), (fun hp => HFR.out.put HB2.out.2 (fun b o e1 e2 => by
    obtain ⟨b', o', e3, r3⟩ := HE.out.c.f3.2.at_ hp
    rw [e3] at e1
    injection e1 with e1
    injection e1 with e1 e4
    have h4 : b = N := e2
    have h5 := HNW.out
    exact r3.ok (by show b' < _; omega))), HS2.out.trans HB2.out.2 (fun b hb hx => by have h3 : b = N := hx; omega)⟩
theorem entry2_at {w : World} {M : Nat} {v : Value} {es : List En} {g : Lg} (h : LogIs w M v es g) (hf : g.Fit) (hsm : ∀ x ∈ g.es, x.c.Sm) {k : Nat} {x : EnV} (hx : g.es[k]? = some x) :
    Calls Try.prog 22 #[.pointer (some ⟨M, 0, none⟩), .int .i64 (g.base + 1 + k)] w fun r w' => ∃ e, r = .returned (.tuple #[e.val, .bool true]) ∧ EnIs w' (oldB w) e x ∧ (0 < e.c.f3.len → SlF w' e.c.f3) ∧ Same noB w w' := by
  have hk := (List.getElem?_eq_some_iff.1 hx).1
  have hlo := hf.lo
  have hhi := hf.hi
  refine entry2_in h.cells.1 (by omega) (Lib.hid fun W hs => (from2_any (h.keep hs) hf hsm (i := g.base + 1 + k) (most := 1) ⟨by omega, by omega⟩ ⟨by omega, by omega⟩).mono ?_)
  rintro r w' ⟨v, rfl, es, hc⟩
  rw [Lg.from_one_yes hx] at hc
  exact ⟨v, rfl, es, hc⟩
/-- Lists of at most ten. -/
structure CmV.S10 (v : CmV) : Prop where
  l1 : v.l1.length ≤ 10
  l2 : v.l2.length ≤ 10
  l3 : v.l3.length ≤ 10
  l4 : v.l4.length ≤ 10
  l5 : v.l5.length ≤ 10
def FewT (w : World) (vs : List EnV) (most : Int) (e : Ending) (w' : World) : Prop := ∃ q : Bool, e = .returned (.bool q) ∧ (q = true → (vs.length : Int) ≤ most ∧ ∀ x ∈ vs, x.c.S10) ∧ Same noB w w'
theorem fewT_mk {w w' : World} {vs : List EnV} {most : Int} {e : Ending} (q : Bool) (he : e = .returned (.bool q)) (hq : q = true → (vs.length : Int) ≤ most ∧ ∀ x ∈ vs, x.c.S10) (hs : Same noB w w') : FewT w vs most e w' := ⟨q, he, hq, hs⟩
set_option maxHeartbeats 8000000 in
theorem few26t_any {w : World} {bad : Nat → Prop} {v : Value} {es : List En} {vs : List EnV} (h : EnL w bad v es vs) (most : Int) :
    Calls Try.prog 26 #[v, .int .i64 most] w (FewT w vs most) := by
  obtain ⟨A, c, rfl, hc1, hc2, hr1⟩ := h.rd.form
  have H1 := Lib.hid h
  have HL := Lib.hid h.len
  unfold maxLen at hc2
  have hn : es.length ≤ 9223372036854775807 := by omega
  clear h hr1
  go_enter Try.func26, Try.ntmps26
  go_wp2_with fail
  go_loopw [5] (fun i wr => ∃ k : Nat, k ≤ es.length ∧ i = .int .i64 k ∧ Hid (Same noB w wr) ∧ Hid (∀ y ∈ vs.take k, y.c.S10)) (fun i _ => es.length - (intOf i).toNat)
  case atStart => exact ⟨0, Nat.zero_le _, rfl, Same.refl _ _, by show ∀ y ∈ _, _; simp⟩
  case round =>
    obtain ⟨k, hk, rfl, HS, HP⟩ := hrel
    by_cases hlt : k < es.length
    · obtain ⟨x, hx⟩ : ∃ e, es[k]? = some e := ⟨_, List.getElem?_eq_getElem hlt⟩
      have H2 := H1.out.keep HS.out
      obtain ⟨b, o, hA, r1⟩ := H2.rd.at_ (by omega)
      subst hA
      obtain ⟨y, hy, hi⟩ := H2.is.at_ hx
      have HY := Lib.hid hy
      have hc := hi.c
      obtain ⟨p0, p1, p2, p3, p4, p5, p6, p7, p8, p9, p10, p11, p12, p13, p14⟩ := en_at r1 hx
      obtain ⟨ai, at_, ⟨⟨sk, sc, sn, sb, sg, ss, sck, scm⟩, a1, a2, a3, a4, a5⟩⟩ := x
      have z1 := hc.f1.1
      have z2 := hc.f2.1
      have z3 := hc.f3.1
      have z4 := hc.f4.1
      have z5 := hc.f5.1
      simp only at p0 p1 p2 p3 p4 p5 p6 p7 p8 p9 p10 p11 p12 p13 p14 z1 z2 z3 z4 z5
      have HZ := Lib.hid (And.intro z1 (And.intro z2 (And.intro z3 (And.intro z4 z5))))
      have HSA : Hid (Same noB w (wr.alloc (.cells #[.int .i64 sk, .int .i64 sc, .int .i64 sn, .string sb, .int .i64 sg, .int .i64 ss, .int .i64 sck, .int .i64 scm, .slice a1.addr a1.len a1.cap, .slice a2.addr a2.len a2.cap, .slice a3.addr a3.len a3.cap, .slice a4.addr a4.len a4.cap, .slice a5.addr a5.len a5.cap] 55))) := HS.out.alloc _
      clear r1 hx hy hi hc H2 z1 z2 z3 z4 z5
      by_cases hall : sb.size ≤ 100 ∧ a1.len ≤ 10 ∧ a2.len ≤ 10 ∧ a3.len ≤ 10 ∧ a4.len ≤ 10 ∧ a5.len ≤ 10
      · obtain ⟨h0, h1, h2, h3, h4, h5⟩ := hall
        have HP2 : Hid (∀ y ∈ vs.take (k + 1), y.c.S10) := all_take HP.out HY.out (by
          obtain ⟨z1, z2, z3, z4, z5⟩ := HZ.out
          exact ⟨by omega, by omega, by omega, by omega, by omega⟩)
        go_wp2_with fail
        go_roundw
        case rel => exact ⟨k + 1, by omega, by go_num, HSA.out, HP2.out⟩
        case measure => simp [intOf]; omega
      · have HN := Lib.hid hall
        clear hall
        go_wp2_with fail
        all_goals first
          | (go_ret; exact fewT_mk false rfl (fun h => by cases h) HSA.out)
          | (exfalso; apply HN.out; refine ⟨?_, ?_, ?_, ?_, ?_, ?_⟩ <;> omega)
    · obtain rfl : k = es.length := by omega
      have HA : Hid (∀ y ∈ vs, y.c.S10) := by
        show ∀ y ∈ _, _
        have h1 := HP.out
        rwa [List.take_of_length_le (by rw [HL.out]; exact Nat.le_refl _)] at h1
      go_wp2_with fail
      go_ret
      exact fewT_mk _ rfl (fun h => ⟨by rw [← HL.out]; simpa using h, HA.out⟩) HS.out
end Go.Proofs.Ytlocfbjeljgblaa
