/- Layer 36: Few of entries. -/
import Derived.Test.YtlocfbjeljgblaaRepC
namespace Go.Proofs.Ytlocfbjeljgblaa
open Go Go.RowKit
set_option maxRecDepth 100000

/-- Short lists. -/
structure CmV.Sm (v : CmV) : Prop where
  l1 : v.l1.length ≤ 1000
  l2 : v.l2.length ≤ 1000
  l3 : v.l3.length ≤ 1000
  l4 : v.l4.length ≤ 1000
  l5 : v.l5.length ≤ 1000
def FewP (w : World) (vs : List EnV) (most : Int) (e : Ending) (w' : World) : Prop := ∃ q : Bool, e = .returned (.bool q) ∧ (q = true → (vs.length : Int) ≤ most ∧ ∀ x ∈ vs, x.c.Sm) ∧ Same noB w w'
theorem fewP_mk {w w' : World} {vs : List EnV} {most : Int} {e : Ending} (q : Bool) (he : e = .returned (.bool q)) (hq : q = true → (vs.length : Int) ≤ most ∧ ∀ x ∈ vs, x.c.Sm) (hs : Same noB w w') : FewP w vs most e w' := ⟨q, he, hq, hs⟩
theorem all_take {α : Type} {P : α → Prop} {l : List α} {k : Nat} {x : α} (h : ∀ y ∈ l.take k, P y) (hx : l[k]? = some x) (hp : P x) : ∀ y ∈ l.take (k + 1), P y := by
  rw [List.take_add_one, hx]
  intro y hy
  rcases List.mem_append.1 hy with h' | h'
  · exact h y h'
  · simp at h'
    subst h'
    exact hp
set_option maxHeartbeats 8000000 in
theorem few26_any {w : World} {bad : Nat → Prop} {v : Value} {es : List En} {vs : List EnV} (h : EnL w bad v es vs) (most : Int) :
    Calls Try.prog 26 #[v, .int .i64 most] w (FewP w vs most) := by
  obtain ⟨A, c, rfl, hc1, hc2, hr1⟩ := h.rd.form
  have H1 := Lib.hid h
  have HL := Lib.hid h.len
  unfold maxLen at hc2
  have hn : es.length ≤ 9223372036854775807 := by omega
  clear h hr1
  go_enter Try.func26, Try.ntmps26
  go_wp2_with fail
  go_loopw [5] (fun i wr => ∃ k : Nat, k ≤ es.length ∧ i = .int .i64 k ∧ Hid (Same noB w wr) ∧ Hid (∀ y ∈ vs.take k, y.c.Sm)) (fun i _ => es.length - (intOf i).toNat)
  case atStart => exact ⟨0, Nat.zero_le _, rfl, Same.refl _ _, by show ∀ y ∈ _, _; simp⟩
  case round =>
    obtain ⟨k, hk, rfl, HS, HP⟩ := hrel
    by_cases hlt : k < es.length
    · obtain ⟨x, hx⟩ : ∃ e, es[k]? = some e := ⟨_, List.getElem?_eq_getElem hlt⟩
      have H2 := H1.out.keep HS.out
      obtain ⟨b, o, hA, r1⟩ := H2.rd.at_ (by omega)
      subst hA
      obtain ⟨y, hy, hi⟩ := H2.is.at_ hx
      have HY := Lib.hid hy
      have hc := hi.c
      obtain ⟨p0, p1, p2, p3, p4, p5, p6, p7, p8, p9, p10, p11, p12, p13, p14⟩ := en_at r1 hx
      obtain ⟨ai, at_, ⟨⟨sk, sc, sn, sb, sg, ss, sck, scm⟩, a1, a2, a3, a4, a5⟩⟩ := x
      have z1 := hc.f1.1
      have z2 := hc.f2.1
      have z3 := hc.f3.1
      have z4 := hc.f4.1
      have z5 := hc.f5.1
      simp only at p0 p1 p2 p3 p4 p5 p6 p7 p8 p9 p10 p11 p12 p13 p14 z1 z2 z3 z4 z5
      have HZ := Lib.hid (And.intro z1 (And.intro z2 (And.intro z3 (And.intro z4 z5))))
      have HSA : Hid (Same noB w (wr.alloc (.cells #[.int .i64 sk, .int .i64 sc, .int .i64 sn, .string sb, .int .i64 sg, .int .i64 ss, .int .i64 sck, .int .i64 scm, .slice a1.addr a1.len a1.cap, .slice a2.addr a2.len a2.cap, .slice a3.addr a3.len a3.cap, .slice a4.addr a4.len a4.cap, .slice a5.addr a5.len a5.cap] 55))) := HS.out.alloc _
      clear r1 hx hy hi hc H2 z1 z2 z3 z4 z5
      by_cases hall : sb.size ≤ 100 ∧ a1.len ≤ 10 ∧ a2.len ≤ 10 ∧ a3.len ≤ 10 ∧ a4.len ≤ 10 ∧ a5.len ≤ 10
      · obtain ⟨h0, h1, h2, h3, h4, h5⟩ := hall
        have HP2 : Hid (∀ y ∈ vs.take (k + 1), y.c.Sm) := all_take HP.out HY.out (by
          obtain ⟨z1, z2, z3, z4, z5⟩ := HZ.out
          exact ⟨by omega, by omega, by omega, by omega, by omega⟩)
        go_wp2_with fail
        go_roundw
        case rel => exact ⟨k + 1, by omega, by go_num, HSA.out, HP2.out⟩
        case measure => simp [intOf]; omega
      · have HN := Lib.hid hall
        clear hall
        go_wp2_with fail
        all_goals first
          | (go_ret; exact fewP_mk false rfl (fun h => by cases h) HSA.out)
          | (exfalso; apply HN.out; refine ⟨?_, ?_, ?_, ?_, ?_, ?_⟩ <;> omega)
    · obtain rfl : k = es.length := by omega
      have HA : Hid (∀ y ∈ vs, y.c.Sm) := by
        show ∀ y ∈ _, _
        have h1 := HP.out
        rwa [List.take_of_length_le (by rw [HL.out]; exact Nat.le_refl _)] at h1
      go_wp2_with fail
      go_ret
      exact fewP_mk _ rfl (fun h => ⟨by rw [← HL.out]; simpa using h, HA.out⟩) HS.out
/-- A call of the law, as it lies in memory and with its entries. -/
structure OpR where
  k : Int
  a : Int
  b : Int
  fit : Bool
  l : Sl
structure OpV where
  k : Int
  a : Int
  b : Int
  fit : Bool
  es : List EnV
def OpR.cells (x : OpR) : List Value := [.int .i64 x.k, .int .i64 x.a, .int .i64 x.b, .bool x.fit, .slice x.l.addr x.l.len x.l.cap]
def OpR.val (x : OpR) : Value := .agg #[.int .i64 x.k, .int .i64 x.a, .int .i64 x.b, .bool x.fit, .slice x.l.addr x.l.len x.l.cap]
def ocells (l : List OpR) : List Value := l.flatMap OpR.cells
structure OpIs (w : World) (bad : Nat → Prop) (x : OpR) (v : OpV) : Prop where
  k : x.k = v.k
  a : x.a = v.a
  b : x.b = v.b
  f : x.fit = v.fit
  l : ∃ es, x.l.len = es.length ∧ EnL w bad (.slice x.l.addr x.l.len x.l.cap) es v.es
structure OpL (w : World) (bad : Nat → Prop) (v : Value) (os : List OpR) (vs : List OpV) : Prop where
  rd : Rd w bad 5 v os.length (ocells os)
  is : All2 (OpIs w bad) os vs
section
variable {w w' : World} {S bad bad' : Nat → Prop}
theorem OpIs.same {x : OpR} {v : OpV} (h : OpIs w bad x v) (hs : Same S w w') (hn : ∀ b, b < w.heap.size → S b → bad b) (hb : ∀ b, b < w.heap.size → bad' b → bad b) : OpIs w' bad' x v := ⟨h.k, h.a, h.b, h.f, by obtain ⟨es, h1, h2⟩ := h.l; exact ⟨es, h1, h2.same hs hn hb⟩⟩
theorem OpL.same {v : Value} {os : List OpR} {vs : List OpV} (h : OpL w bad v os vs) (hs : Same S w w') (hn : ∀ b, b < w.heap.size → S b → bad b) (hb : ∀ b, b < w.heap.size → bad' b → bad b) : OpL w' bad' v os vs := ⟨h.rd.same hs hn hb, h.is.imp fun _ _ h => h.same hs hn hb⟩
theorem OpIs.keep {x : OpR} {v : OpV} (h : OpIs w bad x v) (hs : Same noB w w') : OpIs w' bad x v := h.same hs (fun _ _ x => x.elim) (fun _ _ x => x)
theorem OpL.keep {v : Value} {os : List OpR} {vs : List OpV} (h : OpL w bad v os vs) (hs : Same noB w w') : OpL w' bad v os vs := h.same hs (fun _ _ x => x.elim) (fun _ _ x => x)
end
theorem op_at {w : World} {bad : Nat → Prop} {b o k : Nat} {l : List OpR} {x : OpR} (r : RdAt w bad b o (ocells l)) (h : l[k]? = some x) :
    w.cell? ⟨b, o + k * 5, none⟩ = some (.int .i64 x.k) ∧ w.cell? ⟨b, o + k * 5 + 1, none⟩ = some (.int .i64 x.a) ∧ w.cell? ⟨b, o + k * 5 + 2, none⟩ = some (.int .i64 x.b) ∧ w.cell? ⟨b, o + k * 5 + 3, none⟩ = some (.bool x.fit) ∧ w.cell? ⟨b, o + k * 5 + 4, none⟩ = some (.slice x.l.addr x.l.len x.l.cap) := by
  have cc := fun (j : Nat) (hj : j < 5) (u : Value) (hu : x.cells[j]? = some u) => r.cell (k * 5 + j) u ((flat_at OpR.cells 5 (fun _ => rfl) h j hj).trans hu)
  refine ⟨cc 0 (by omega) _ rfl, ?_, ?_, ?_, ?_⟩
  · have := cc 1 (by omega) _ rfl; rwa [← Nat.add_assoc] at this
  · have := cc 2 (by omega) _ rfl; rwa [← Nat.add_assoc] at this
  · have := cc 3 (by omega) _ rfl; rwa [← Nat.add_assoc] at this
  · have := cc 4 (by omega) _ rfl; rwa [← Nat.add_assoc] at this
/-- A call with small numbers and few entries. -/
structure OpV.Small (x : OpV) : Prop where
  n : x.es.length ≤ 8
  a : -1099511627776 ≤ x.a ∧ x.a ≤ 1099511627776
  b : -1099511627776 ≤ x.b ∧ x.b ≤ 1099511627776
  sm : ∀ e ∈ x.es, e.c.Sm
def FewsP (w : World) (vs : List OpV) (most : Int) (e : Ending) (w' : World) : Prop := ∃ q : Bool, e = .returned (.bool q) ∧ (q = true → (vs.length : Int) ≤ most ∧ ∀ x ∈ vs, x.Small) ∧ Same noB w w'
theorem fewsP_mk {w w' : World} {vs : List OpV} {most : Int} {e : Ending} (q : Bool) (he : e = .returned (.bool q)) (hq : q = true → (vs.length : Int) ≤ most ∧ ∀ x ∈ vs, x.Small) (hs : Same noB w w') : FewsP w vs most e w' := ⟨q, he, hq, hs⟩
set_option maxHeartbeats 8000000 in
theorem few10_any {w : World} {bad : Nat → Prop} {v : Value} {os : List OpR} {vs : List OpV} (h : OpL w bad v os vs) (most : Int) :
    Calls Try.prog 10 #[v, .int .i64 most] w (FewsP w vs most) := by
  have hl := h.is.len
  obtain ⟨A, c, rfl, hc1, hc2, hr1⟩ := h.rd.form
  have H1 := Lib.hid h
  unfold maxLen at hc2
  have hn : os.length ≤ 9223372036854775807 := by omega
  have HL := Lib.hid hl
  clear h hr1 hl
  go_enter Try.func10, Try.ntmps10
  go_wp2_with fail
  go_loopw [5] (fun i wr => ∃ k : Nat, k ≤ os.length ∧ i = .int .i64 k ∧ Hid (Same noB w wr) ∧ Hid (∀ y ∈ vs.take k, y.Small)) (fun i _ => os.length - (intOf i).toNat)
  case atStart => exact ⟨0, Nat.zero_le _, rfl, Same.refl _ _, by show ∀ y ∈ _, _; simp⟩
  case round =>
    obtain ⟨k, hk, rfl, HS, HP⟩ := hrel
    by_cases hlt : k < os.length
    · obtain ⟨x, hx⟩ : ∃ e, os[k]? = some e := ⟨_, List.getElem?_eq_getElem hlt⟩
      have H2 := H1.out.keep HS.out
      obtain ⟨b, o, hA, r1⟩ := H2.rd.at_ (by omega)
      subst hA
      obtain ⟨p0, p1, p2, p3, p4⟩ := op_at r1 hx
      obtain ⟨y, hy, hi⟩ := H2.is.at_ hx
      obtain ⟨es, hel, hes⟩ := hi.l
      have HY := Lib.hid hy
      have HI := Lib.hid hi
      obtain ⟨xk, xa, xb, xf, ⟨la, ln, lc⟩⟩ := x
      simp only at p0 p1 p2 p3 p4 hel hes
      subst hel
      have HE := Lib.hid hes
      clear r1 hx hy hi H2 hes
      go_wp2_with fail
      refine (few26_any HE.out 8).mono ?_
      rintro e W2 ⟨q, rfl, hq, hs⟩
      have HS2 := Lib.hid (HS.out.trans' hs)
      have HQ := Lib.hid hq
      have p1 := hs.cell p1 (fun x => x)
      have p2 := hs.cell p2 (fun x => x)
      clear hq hs
      cases q
      · go_wp2_with fail
        go_ret
        exact fewsP_mk false rfl (fun h => by cases h) HS2.out
      · by_cases h1 : xa ≤ 1099511627776
        · by_cases h2 : -1099511627776 ≤ xa
          · by_cases h3 : xb ≤ 1099511627776
            · by_cases h4 : -1099511627776 ≤ xb
              · have HP2 : Hid (∀ y ∈ vs.take (k + 1), y.Small) := all_take HP.out HY.out ⟨by have := (HQ.out rfl).1; omega, by rw [← HI.out.a]; exact ⟨h2, h1⟩, by rw [← HI.out.b]; exact ⟨h4, h3⟩, (HQ.out rfl).2⟩
                go_wp2_with fail
                go_roundw
                case rel => exact ⟨k + 1, by omega, by go_num, HS2.out, HP2.out⟩
                case measure => simp [intOf]; omega
              · go_wp2_with fail
                go_ret
                exact fewsP_mk false rfl (fun h => by cases h) HS2.out
            · go_wp2_with fail
              go_ret
              exact fewsP_mk false rfl (fun h => by cases h) HS2.out
          · go_wp2_with fail
            go_ret
            exact fewsP_mk false rfl (fun h => by cases h) HS2.out
        · go_wp2_with fail
          go_ret
          exact fewsP_mk false rfl (fun h => by cases h) HS2.out
    · obtain rfl : k = os.length := by omega
      have HA : Hid (∀ y ∈ vs, y.Small) := by
        show ∀ y ∈ _, _
        have h1 := HP.out
        rwa [List.take_of_length_le (by rw [HL.out]; exact Nat.le_refl _)] at h1
      go_wp2_with fail
      go_ret
      exact fewsP_mk _ rfl (fun h => ⟨by rw [← HL.out]; simpa using h, HA.out⟩) HS.out
end Go.Proofs.Ytlocfbjeljgblaa
