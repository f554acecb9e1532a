/- Layer 36: From of the reference. (printed by genRepPb.py) -/
import Derived.Test.YtlocfbjeljgblaaRepSI
namespace Go.Proofs.Ytlocfbjeljgblaa
open Go Go.RowKit
set_option maxRecDepth 100000

def fromE (i : Int) (es : List En) : List En := es.filter (fun e => decide (i ≤ e.i))
def fromV (i : Int) (vs : List EnV) : List EnV := vs.filter (fun e => decide (i ≤ e.i))
theorem fromE_yes {i : Int} {es : List En} {k : Nat} {e : En} (h : es[k]? = some e) (hi : i ≤ e.i) : fromE i (es.take (k + 1)) = fromE i (es.take k) ++ [e] := by
  unfold fromE
  rw [take_snoc h, List.filter_append]
  simp [hi]
theorem fromE_no {i : Int} {es : List En} {k : Nat} {e : En} (h : es[k]? = some e) (hi : ¬ i ≤ e.i) : fromE i (es.take (k + 1)) = fromE i (es.take k) := by
  unfold fromE
  rw [take_snoc h, List.filter_append]
  simp [hi]
theorem fromE_all2 {w : World} {bad : Nat → Prop} {es : List En} {vs : List EnV} (h : All2 (EnIs w bad) es vs) (i : Int) : All2 (EnIs w bad) (fromE i es) (fromV i vs) := by
  induction h with
  | nil => exact .nil
  | cons h _ ih =>
    rename_i e v l m _
    unfold fromE fromV
    rw [List.filter_cons, List.filter_cons, h.i]
    split
    · exact .cons h ih
    · exact ih
/-- What the loop has when it stops. -/
theorem fromE_stop {i most : Int} {es : List En} {k : Nat} (hm : (fromE i (es.take k)).length = 0 ∨ ((fromE i (es.take k)).length : Int) ≤ most) (h : k = es.length ∨ most ≤ ((fromE i (es.take k)).length : Int)) : fromE i (es.take k) = (fromE i es).take most.toNat := by
  rcases h with rfl | h
  · rw [List.take_length] at hm ⊢
    rw [List.take_of_length_le]
    omega
  · have hsplit : fromE i es = fromE i (es.take k) ++ fromE i (es.drop k) := by unfold fromE; rw [← List.filter_append, List.take_append_drop]
    rw [hsplit, List.take_append_of_le_length (by omega), List.take_of_length_le (l := fromE i (es.take k)) (by omega)]
theorem fromV_drop {i : Int} : ∀ {l : List EnV} {b : Int}, (∀ (k : Nat) (x : EnV), l[k]? = some x → x.i = b + 1 + k) → fromV i l = l.drop (i - b - 1).toNat
  | [], _, _ => by unfold fromV; simp
  | x :: l, b, h => by
    have h0 := h 0 x rfl
    have ih := fromV_drop (i := i) (l := l) (b := b + 1) (fun k y hy => by have := h (k + 1) y (by simpa using hy); omega)
    unfold fromV at ih ⊢
    rw [List.filter_cons]
    by_cases hi : i ≤ x.i
    · have e1 : (i - b - 1).toNat = 0 := by omega
      have e2 : (i - (b + 1) - 1).toNat = 0 := by omega
      rw [if_pos (by simpa using hi), ih, e1, e2]
      rfl
    · have e1 : (i - b - 1).toNat = (i - (b + 1) - 1).toNat + 1 := by omega
      rw [if_neg (by simpa using hi), ih, e1]
      rfl
theorem Lg.Inv.fromL {g : Lg} (h : g.Inv) (i most : Int) : (fromV i g.es).take most.toNat = g.fromL i most := by
  unfold Lg.fromL Lg.atOf
  rw [fromV_drop (b := g.base) (fun k x hx => h.idx k x hx)]
set_option maxHeartbeats 8000000 in
theorem rfrom_core {w : World} {bad : Nat → Prop} {A : Option Addr} {c : Nat} {base term : Int} {es : List En} (hr : Rd w bad 15 (.slice A es.length c) es.length (ecells es)) (hlen : es.length ≤ 100000) (i most : Int) :
    Calls Try.prog 33 #[.agg #[.int .i64 base, .int .i64 term, .slice A es.length c], .int .i64 i, .int .i64 most] w fun r w' => ∃ A3 c3, r = .returned (.slice A3 ((fromE i es).take most.toNat).length c3) ∧ AppAt w w' (.slice A3 ((fromE i es).take most.toNat).length c3) ((fromE i es).take most.toNat).length 57 15 (ecells ((fromE i es).take most.toNat)) := by
  have HR := Lib.hid hr
  have hcaps := hr.caps
  clear hr
  go_enter Try.func33, Try.ntmps33
  go_upto_region 1 with (fail)
  refine wp_abs (fun W => Hid (W.cell? ⟨w.heap.size, 2, none⟩ = some (.slice A es.length c)) ∧ Hid (Same noB w W)) ⟨(Blk.new w 29 _).cell 2, (Same.refl _ _).alloc _⟩ ?_
  rintro W0 ⟨HE0, HS0⟩
  obtain ⟨N, hN⟩ : ∃ N, w.heap.size = N := ⟨_, rfl⟩
  rw [hN] at HE0 ⊢
  go_wp2_with fail
  go_loopg [7, 8] (es.length) (fun gk o q wr => ∃ (k : Nat) (A2 : Option Addr) (c2 m : Nat), k ≤ es.length ∧ m ≤ 100000 ∧ Hid (gk + k = es.length) ∧ q = .int .i64 k ∧ o = .slice A2 m c2 ∧ Hid (m = (fromE i (es.take k)).length ∧ (m = 0 ∨ (m : Int) ≤ most) ∧ m ≤ k) ∧ Hid (AppAt W0 wr (.slice A2 m c2) m 57 15 (ecells (fromE i (es.take k)))))
  case atStart => exact ⟨0, _, _, 0, Nat.zero_le _, Nat.zero_le _, rfl, rfl, rfl, ⟨rfl, .inl rfl, Nat.le_refl _⟩, AppAt.lit W0 57 15⟩
  case round =>
    obtain ⟨k, A2, c2, m, hk, hmb, HK, rfl, rfl, HM, HA⟩ := hrel
    have d2 := HA.out.since.cell HE0.out (fun x => x)
    by_cases hlt : k < es.length
    · have hi1 : (k : Int) < (es.length : Int) := by omega
      by_cases hmm : (m : Int) < most
      · have dm : decide ((m : Int) < most) = true := decide_eq_true hmm
        obtain ⟨e, he⟩ : ∃ e, es[k]? = some e := ⟨_, List.getElem?_eq_getElem hlt⟩
        obtain ⟨b, o, rfl, r⟩ := (HR.out.keep (HS0.out.trans' HA.out.since)).at_ (by omega)
        obtain ⟨p0, p1, p2, p3, p4, p5, p6, p7, p8, p9, p10, p11, p12, p13, p14⟩ := en_at r he
        have hi0 : (0 : Int) ≤ (k : Int) := by omega
        have HMM := Lib.hid hmm
        by_cases hge : i ≤ e.i
        · have dg : decide (i ≤ e.i) = true := decide_eq_true hge
          have HT := Lib.hid (fromE_yes he hge)
          clear r he hge hmm
          have HNB : Hid (m ≤ 100000) := hmb
          go_wp2_with (at_builtin; refine wpL_app slE rfl _ _ rfl rfl ((HA.out.keep ((Same.refl _ _).alloc _)).own) rfl (bad := noB) (Rd.of_blk (Blk.new wr 57 [Value.int .i64 e.i, .int .i64 e.t, .int .i64 e.c.s.k, .int .i64 e.c.s.c, .int .i64 e.c.s.n, .string e.c.s.b, .int .i64 e.c.s.g, .int .i64 e.c.s.s, .int .i64 e.c.s.ck, .int .i64 e.c.s.cm, .slice e.c.f1.addr e.c.f1.len e.c.f1.cap, .slice e.c.f2.addr e.c.f2.len e.c.f2.cap, .slice e.c.f3.addr e.c.f3.len e.c.f3.cap, .slice e.c.f4.addr e.c.f4.len e.c.f4.cap, .slice e.c.f5.addr e.c.f5.len e.c.f5.cap].toArray) (fun x => x) (by rfl) (by omega) (by simp [maxLen])) (en_one e) (by have := HNB.out; omega) (Nat.zero_le _) ?_; intro A6 c6' W6 hown6 hgrow6 hat6 _; have HA6 := Lib.hid (AppAt.next (HA.out.keep ((Same.refl _ _).alloc (.cells #[.int .i64 e.i, .int .i64 e.t, .int .i64 e.c.s.k, .int .i64 e.c.s.c, .int .i64 e.c.s.n, .string e.c.s.b, .int .i64 e.c.s.g, .int .i64 e.c.s.s, .int .i64 e.c.s.ck, .int .i64 e.c.s.cm, .slice e.c.f1.addr e.c.f1.len e.c.f1.cap, .slice e.c.f2.addr e.c.f2.len e.c.f2.cap, .slice e.c.f3.addr e.c.f3.len e.c.f3.cap, .slice e.c.f4.addr e.c.f4.len e.c.f4.cap, .slice e.c.f5.addr e.c.f5.len e.c.f5.cap] 57))) hgrow6 hat6 hown6); clear hown6 hgrow6 hat6)
          go_roundg (gk - 1)
          case measure => have h1 := HK.out; omega
          case rel =>
            refine ⟨k + 1, A6, c6', m + 1, by omega, by have := HM.out.2.2; omega, by show _ = _; have h1 := HK.out; omega, by go_num, rfl, ⟨by rw [HT.out, List.length_append, ← HM.out.1]; rfl, .inr (by have := HMM.out; omega), by have := HM.out.2.2; omega⟩, ?_⟩
            show AppAt _ _ _ _ _ _ _
            rw [HT.out, ecells_snoc]
            exact HA6.out
        · have dg : decide (i ≤ e.i) = false := decide_eq_false hge
          have HT := Lib.hid (fromE_no he hge)
          clear r he hge hmm
          go_wp2_with fail
          go_roundg (gk - 1)
          case measure => have h1 := HK.out; omega
          case rel =>
            refine ⟨k + 1, A2, c2, m, by omega, hmb, by show _ = _; have h1 := HK.out; omega, by go_num, rfl, ⟨by rw [HT.out]; exact HM.out.1, HM.out.2.1, by have := HM.out.2.2; omega⟩, ?_⟩
            show AppAt _ _ _ _ _ _ _
            rw [HT.out]
            exact HA.out
      · have dm : decide ((m : Int) < most) = false := decide_eq_false hmm
        have HF := Lib.hid (fromE_stop (i := i) (most := most) (es := es) (k := k) (by rw [← HM.out.1]; exact HM.out.2.1) (.inr (by rw [← HM.out.1]; omega)))
        clear hmm
        go_wp2_with fail
        go_ret
        refine ⟨A2, c2, by rw [← HF.out, ← HM.out.1] <;> rfl, ?_⟩
        rw [← HF.out, ← HM.out.1]
        exact HA.out.before HS0.out
    · obtain rfl : k = es.length := by omega
      have HF := Lib.hid (fromE_stop (i := i) (most := most) (es := es) (k := es.length) (by rw [← HM.out.1]; exact HM.out.2.1) (.inl rfl))
      go_wp2_with fail
      go_ret
      refine ⟨A2, c2, by rw [← HF.out, ← HM.out.1] <;> rfl, ?_⟩
      rw [← HF.out, ← HM.out.1]
      exact HA.out.before HS0.out
theorem rfrom_any {w : World} {bad : Nat → Prop} (hbad : ∀ b, bad b → b < w.heap.size) {v : Value} {es : List En} {g : Lg} (h : EnL w bad v es g.es) (hi : g.Inv) (hlen : g.es.length ≤ 100000) (i most : Int) :
    Calls Try.prog 33 #[.agg #[.int .i64 g.base, .int .i64 g.term, v], .int .i64 i, .int .i64 most] w fun r w' => ∃ v' es', r = .returned v' ∧ EnL w' bad v' es' (g.fromL i most) ∧ Same noB w w' := by
  have hl := h.len
  obtain ⟨A, c, rfl, _, _, hr⟩ := h.rd.form
  refine (rfrom_core hr (by omega) i most).mono ?_
  rintro r w' ⟨A3, c3, rfl, hA⟩
  refine ⟨_, (fromE i es).take most.toNat, rfl, ⟨hA.rd hbad, ?_⟩, hA.since⟩
  rw [← hi.fromL]
  exact (fromE_all2 (h.keep hA.since).is i).take _
end Go.Proofs.Ytlocfbjeljgblaa
