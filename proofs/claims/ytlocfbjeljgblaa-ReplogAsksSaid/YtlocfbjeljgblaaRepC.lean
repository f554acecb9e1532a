/- Layer 36: SameEntries of equal data. (printed by genRepC.py) -/
import Derived.Test.YtlocfbjeljgblaaRepB
namespace Go.Proofs.Ytlocfbjeljgblaa
open Go Go.RowKit
set_option maxRecDepth 100000

theorem en_at {w : World} {bad : Nat → Prop} {b o k : Nat} {l : List En} {e : En} (r : RdAt w bad b o (ecells l)) (h : l[k]? = some e) :
    w.cell? ⟨b, o + k * 15, none⟩ = some (.int .i64 e.i) ∧ w.cell? ⟨b, o + k * 15 + 1, none⟩ = some (.int .i64 e.t) ∧ w.cell? ⟨b, o + k * 15 + 2, none⟩ = some (.int .i64 e.c.s.k) ∧ w.cell? ⟨b, o + k * 15 + 3, none⟩ = some (.int .i64 e.c.s.c) ∧ w.cell? ⟨b, o + k * 15 + 4, none⟩ = some (.int .i64 e.c.s.n) ∧ w.cell? ⟨b, o + k * 15 + 5, none⟩ = some (.string e.c.s.b) ∧ w.cell? ⟨b, o + k * 15 + 6, none⟩ = some (.int .i64 e.c.s.g) ∧ w.cell? ⟨b, o + k * 15 + 7, none⟩ = some (.int .i64 e.c.s.s) ∧ w.cell? ⟨b, o + k * 15 + 8, none⟩ = some (.int .i64 e.c.s.ck) ∧ w.cell? ⟨b, o + k * 15 + 9, none⟩ = some (.int .i64 e.c.s.cm) ∧ w.cell? ⟨b, o + k * 15 + 10, none⟩ = some (.slice e.c.f1.addr e.c.f1.len e.c.f1.cap) ∧ w.cell? ⟨b, o + k * 15 + 11, none⟩ = some (.slice e.c.f2.addr e.c.f2.len e.c.f2.cap) ∧ w.cell? ⟨b, o + k * 15 + 12, none⟩ = some (.slice e.c.f3.addr e.c.f3.len e.c.f3.cap) ∧ w.cell? ⟨b, o + k * 15 + 13, none⟩ = some (.slice e.c.f4.addr e.c.f4.len e.c.f4.cap) ∧ w.cell? ⟨b, o + k * 15 + 14, none⟩ = some (.slice e.c.f5.addr e.c.f5.len e.c.f5.cap) := by
  have cc := fun (j : Nat) (hj : j < 15) (u : Value) (hu : e.cells[j]? = some u) => r.cell (k * 15 + j) u ((flat_at En.cells 15 (fun _ => rfl) h j hj).trans hu)
  refine ⟨cc 0 (by omega) _ rfl, ?_, ?_, ?_, ?_, ?_, ?_, ?_, ?_, ?_, ?_, ?_, ?_, ?_, ?_⟩

  · have := cc 1 (by omega) _ rfl; rwa [← Nat.add_assoc] at this
  · have := cc 2 (by omega) _ rfl; rwa [← Nat.add_assoc] at this
  · have := cc 3 (by omega) _ rfl; rwa [← Nat.add_assoc] at this
  · have := cc 4 (by omega) _ rfl; rwa [← Nat.add_assoc] at this
  · have := cc 5 (by omega) _ rfl; rwa [← Nat.add_assoc] at this
  · have := cc 6 (by omega) _ rfl; rwa [← Nat.add_assoc] at this
  · have := cc 7 (by omega) _ rfl; rwa [← Nat.add_assoc] at this
  · have := cc 8 (by omega) _ rfl; rwa [← Nat.add_assoc] at this
  · have := cc 9 (by omega) _ rfl; rwa [← Nat.add_assoc] at this
  · have := cc 10 (by omega) _ rfl; rwa [← Nat.add_assoc] at this
  · have := cc 11 (by omega) _ rfl; rwa [← Nat.add_assoc] at this
  · have := cc 12 (by omega) _ rfl; rwa [← Nat.add_assoc] at this
  · have := cc 13 (by omega) _ rfl; rwa [← Nat.add_assoc] at this
  · have := cc 14 (by omega) _ rfl; rwa [← Nat.add_assoc] at this

set_option maxHeartbeats 8000000 in
theorem sameents_true {w : World} {bad bad' : Nat → Prop} {v v' : Value} {es es' : List En} {vs : List EnV} (h : EnL w bad v es vs) (h' : EnL w bad' v' es' vs) :
    Calls Try.prog 20 #[v, v'] w fun e w' => e = .returned (.bool true) ∧ Same noB w w' := by
  have hl1 := h.len
  have hl2 := h'.len
  obtain ⟨A, c, rfl, hc1, hc2, hr1⟩ := h.rd.form
  obtain ⟨A', c', rfl, hd1, hd2, hr2⟩ := h'.rd.form
  have H1 := Lib.hid h
  have H2 := Lib.hid h'
  unfold maxLen at hc2 hd2
  rw [hl1] at hc1 H1 ⊢
  rw [hl2] at hd1 H2 ⊢
  have hn : vs.length ≤ 9223372036854775807 := by omega
  have HL := Lib.hid (And.intro hl1 hl2)
  clear h h' hr1 hr2 hl1 hl2
  go_enter Try.func20, Try.ntmps20
  go_wp2_with fail
  go_loopw [5] (fun i wr => ∃ k : Nat, k ≤ vs.length ∧ i = .int .i64 k ∧ Hid (Same noB w wr)) (fun i _ => vs.length - (intOf i).toNat)
  case atStart => exact ⟨0, Nat.zero_le _, rfl, Same.refl _ _⟩
  case round =>
    obtain ⟨k, hk, rfl, HS⟩ := hrel
    by_cases hlt : k < vs.length
    · obtain ⟨e1, he1⟩ : ∃ e, es[k]? = some e := ⟨_, List.getElem?_eq_getElem (by have := HL.out.1; omega)⟩
      obtain ⟨e2, he2⟩ : ∃ e, es'[k]? = some e := ⟨_, List.getElem?_eq_getElem (by have := HL.out.2; omega)⟩
      obtain ⟨x, hx, i1⟩ := H1.out.is.at_ he1
      obtain ⟨x', hx', i2⟩ := H2.out.is.at_ he2
      rw [hx] at hx'
      injection hx' with hx'
      subst hx'
      have j1 := (i1.keep (HS.out)).c
      have j2 := (i2.keep (HS.out)).c
      have hr1 := H1.out.rd.keep HS.out
      have hr2 := H2.out.rd.keep HS.out
      rw [HL.out.1] at hr1
      rw [HL.out.2] at hr2
      obtain ⟨b, o, hA, r1⟩ := hr1.at_ (by omega)
      obtain ⟨d, q, hA', r2⟩ := hr2.at_ (by omega)
      subst hA hA'
      obtain ⟨p0, p1, p2, p3, p4, p5, p6, p7, p8, p9, p10, p11, p12, p13, p14⟩ := en_at r1 he1
      obtain ⟨q0, q1, q2, q3, q4, q5, q6, q7, q8, q9, q10, q11, q12, q13, q14⟩ := en_at r2 he2
      obtain ⟨ai, at_, ⟨⟨sk, sc, sn, sb, sg, ss, sck, scm⟩, a1, a2, a3, a4, a5⟩⟩ := e1
      obtain ⟨bi, bt, ⟨s', b1, b2, b3, b4, b5⟩⟩ := e2
      obtain ⟨xi, xt, ⟨s'', l1, l2, l3, l4, l5⟩⟩ := x
      have z1 := i1.i
      have z2 := i1.t
      have z3 := i2.i
      have z4 := i2.t
      have z5 := j1.s
      have z6 := j2.s
      simp only at *
      subst z1 z2 z3 z4 z5 z6
      have J := Lib.hid (And.intro j1 j2)
      clear i1 i2 j1 j2 hr1 hr2 r1 r2 hx he1 he2
      have hi0 : (0 : Int) ≤ (k : Int) := by omega
      have hi1 : (k : Int) < (vs.length : Int) := by omega
      go_wp2_with fail
      go_region_held3 (fun w' => w'.cell? ⟨b, o + k * 15, none⟩ = some (.int .i64 bi) ∧ w'.cell? ⟨b, o + k * 15 + 1, none⟩ = some (.int .i64 bt) ∧ w'.cell? ⟨b, o + k * 15 + 2, none⟩ = some (.int .i64 sk) ∧ w'.cell? ⟨b, o + k * 15 + 3, none⟩ = some (.int .i64 sc) ∧ w'.cell? ⟨b, o + k * 15 + 4, none⟩ = some (.int .i64 sn) ∧ w'.cell? ⟨b, o + k * 15 + 5, none⟩ = some (.string sb) ∧ w'.cell? ⟨b, o + k * 15 + 6, none⟩ = some (.int .i64 sg) ∧ w'.cell? ⟨b, o + k * 15 + 7, none⟩ = some (.int .i64 ss) ∧ w'.cell? ⟨b, o + k * 15 + 8, none⟩ = some (.int .i64 sck) ∧ w'.cell? ⟨b, o + k * 15 + 9, none⟩ = some (.int .i64 scm) ∧ w'.cell? ⟨b, o + k * 15 + 10, none⟩ = some (.slice a1.addr a1.len a1.cap) ∧ w'.cell? ⟨b, o + k * 15 + 11, none⟩ = some (.slice a2.addr a2.len a2.cap) ∧ w'.cell? ⟨b, o + k * 15 + 12, none⟩ = some (.slice a3.addr a3.len a3.cap) ∧ w'.cell? ⟨b, o + k * 15 + 13, none⟩ = some (.slice a4.addr a4.len a4.cap) ∧ w'.cell? ⟨b, o + k * 15 + 14, none⟩ = some (.slice a5.addr a5.len a5.cap) ∧ w'.cell? ⟨d, q + k * 15, none⟩ = some (.int .i64 bi) ∧ w'.cell? ⟨d, q + k * 15 + 1, none⟩ = some (.int .i64 bt) ∧ w'.cell? ⟨d, q + k * 15 + 2, none⟩ = some (.int .i64 sk) ∧ w'.cell? ⟨d, q + k * 15 + 3, none⟩ = some (.int .i64 sc) ∧ w'.cell? ⟨d, q + k * 15 + 4, none⟩ = some (.int .i64 sn) ∧ w'.cell? ⟨d, q + k * 15 + 5, none⟩ = some (.string sb) ∧ w'.cell? ⟨d, q + k * 15 + 6, none⟩ = some (.int .i64 sg) ∧ w'.cell? ⟨d, q + k * 15 + 7, none⟩ = some (.int .i64 ss) ∧ w'.cell? ⟨d, q + k * 15 + 8, none⟩ = some (.int .i64 sck) ∧ w'.cell? ⟨d, q + k * 15 + 9, none⟩ = some (.int .i64 scm) ∧ w'.cell? ⟨d, q + k * 15 + 10, none⟩ = some (.slice b1.addr b1.len b1.cap) ∧ w'.cell? ⟨d, q + k * 15 + 11, none⟩ = some (.slice b2.addr b2.len b2.cap) ∧ w'.cell? ⟨d, q + k * 15 + 12, none⟩ = some (.slice b3.addr b3.len b3.cap) ∧ w'.cell? ⟨d, q + k * 15 + 13, none⟩ = some (.slice b4.addr b4.len b4.cap) ∧ w'.cell? ⟨d, q + k * 15 + 14, none⟩ = some (.slice b5.addr b5.len b5.cap))
        (first | (refine ⟨?_, ?_, ?_, ?_, ?_, ?_, ?_, ?_, ?_, ?_, ?_, ?_, ?_, ?_, ?_, ?_, ?_, ?_, ?_, ?_, ?_, ?_, ?_, ?_, ?_, ?_, ?_, ?_, ?_, ?_⟩ <;> with_reducible assumption) | go_keep)
        ((go_at_call 52; have hZ := samecmd_true (J.out.1.keep ((Same.refl noB _).drew)) (J.out.2.keep ((Same.refl noB _).drew)); unfold Cm.val at hZ; dsimp only at hZ; (with_reducible refine Calls.mono hZ ?_); clear hZ; rintro e W2 ⟨rfl, hs⟩; have HS := Lib.hid (HS.out.drew.trans' hs); have p0 := hs.cell p0 (fun x => x); have q0 := hs.cell q0 (fun x => x); have p1 := hs.cell p1 (fun x => x); have q1 := hs.cell q1 (fun x => x); have p2 := hs.cell p2 (fun x => x); have q2 := hs.cell q2 (fun x => x); have p3 := hs.cell p3 (fun x => x); have q3 := hs.cell q3 (fun x => x); have p4 := hs.cell p4 (fun x => x); have q4 := hs.cell q4 (fun x => x); have p5 := hs.cell p5 (fun x => x); have q5 := hs.cell q5 (fun x => x); have p6 := hs.cell p6 (fun x => x); have q6 := hs.cell q6 (fun x => x); have p7 := hs.cell p7 (fun x => x); have q7 := hs.cell q7 (fun x => x); have p8 := hs.cell p8 (fun x => x); have q8 := hs.cell q8 (fun x => x); have p9 := hs.cell p9 (fun x => x); have q9 := hs.cell q9 (fun x => x); have p10 := hs.cell p10 (fun x => x); have q10 := hs.cell q10 (fun x => x); have p11 := hs.cell p11 (fun x => x); have q11 := hs.cell q11 (fun x => x); have p12 := hs.cell p12 (fun x => x); have q12 := hs.cell q12 (fun x => x); have p13 := hs.cell p13 (fun x => x); have q13 := hs.cell q13 (fun x => x); have p14 := hs.cell p14 (fun x => x); have q14 := hs.cell q14 (fun x => x); clear hs))
      all_goals go_wp2_with fail
      all_goals
        go_roundw
        case rel => exact ⟨k + 1, by omega, by go_num, HS.out⟩
        case measure => simp [intOf]; omega
    · obtain rfl : k = vs.length := by omega
      go_wp2_with fail
      go_ret
      exact ⟨rfl, HS.out⟩
end Go.Proofs.Ytlocfbjeljgblaa
