/- Layer 36: copied. (printed by genRepH.py) -/
import Derived.Test.YtlocfbjeljgblaaRepG
import Derived.Test.YtlocfbjeljgblaaRepD
import Derived.Test.YtlocfbjeljgblaaLate
namespace Go.Proofs.Ytlocfbjeljgblaa
open Go Go.RowKit
set_option maxRecDepth 100000

theorem flat_set {α : Type} (f : α → List Value) (n : Nat) (hf : ∀ a, (f a).length = n) {l : List α} {k : Nat} {x x' : α} (h : l[k]? = some x) {j : Nat} (hj : j < n) {u : Value} (hx : f x' = (f x).set j u) : (l.flatMap f).set (k * n + j) u = (l.set k x').flatMap f := by
  induction l generalizing k with
  | nil => simp at h
  | cons y l ih =>
    cases k with
    | zero =>
      simp at h
      subst h
      rw [List.set_cons_zero, List.flatMap_cons, List.flatMap_cons, hx, Nat.zero_mul, Nat.zero_add, List.set_append_left _ _ (by rw [hf]; exact hj)]
    | succ k =>
      simp at h
      rw [List.set_cons_succ, List.flatMap_cons, List.flatMap_cons, List.set_append_right _ _ (by rw [hf, Nat.succ_mul]; omega), hf, show (k + 1) * n + j - n = k * n + j from by rw [Nat.succ_mul]; omega, ih h]
def setF1 (e : En) (s : Sl) : En := ⟨e.i, e.t, ⟨e.c.s, s, e.c.f2, e.c.f3, e.c.f4, e.c.f5⟩⟩
def setF2 (e : En) (s : Sl) : En := ⟨e.i, e.t, ⟨e.c.s, e.c.f1, s, e.c.f3, e.c.f4, e.c.f5⟩⟩
def setF3 (e : En) (s : Sl) : En := ⟨e.i, e.t, ⟨e.c.s, e.c.f1, e.c.f2, s, e.c.f4, e.c.f5⟩⟩
def setF4 (e : En) (s : Sl) : En := ⟨e.i, e.t, ⟨e.c.s, e.c.f1, e.c.f2, e.c.f3, s, e.c.f5⟩⟩
def setF5 (e : En) (s : Sl) : En := ⟨e.i, e.t, ⟨e.c.s, e.c.f1, e.c.f2, e.c.f3, e.c.f4, s⟩⟩
theorem en_set1 {l : List En} {k : Nat} {e : En} (h : l[k]? = some e) (s : Sl) : (ecells l).set (k * 15 + 10) (.slice s.addr s.len s.cap) = ecells (l.set k (setF1 e s)) := flat_set En.cells 15 (fun _ => rfl) h (by omega) rfl
theorem en_set2 {l : List En} {k : Nat} {e : En} (h : l[k]? = some e) (s : Sl) : (ecells l).set (k * 15 + 11) (.slice s.addr s.len s.cap) = ecells (l.set k (setF2 e s)) := flat_set En.cells 15 (fun _ => rfl) h (by omega) rfl
theorem en_set3 {l : List En} {k : Nat} {e : En} (h : l[k]? = some e) (s : Sl) : (ecells l).set (k * 15 + 12) (.slice s.addr s.len s.cap) = ecells (l.set k (setF3 e s)) := flat_set En.cells 15 (fun _ => rfl) h (by omega) rfl
theorem en_set4 {l : List En} {k : Nat} {e : En} (h : l[k]? = some e) (s : Sl) : (ecells l).set (k * 15 + 13) (.slice s.addr s.len s.cap) = ecells (l.set k (setF4 e s)) := flat_set En.cells 15 (fun _ => rfl) h (by omega) rfl
theorem en_set5 {l : List En} {k : Nat} {e : En} (h : l[k]? = some e) (s : Sl) : (ecells l).set (k * 15 + 14) (.slice s.addr s.len s.cap) = ecells (l.set k (setF5 e s)) := flat_set En.cells 15 (fun _ => rfl) h (by omega) rfl
theorem set_at {α : Type} {l : List α} {k : Nat} {e e' : α} (h : l[k]? = some e) : (l.set k e')[k]? = some e' := by
  rw [List.getElem?_set_self (List.getElem?_eq_some_iff.1 h).1]

/-- Blocks in which a copy's lists do not lie. -/
def cpB (w : World) (g : Nat) : Nat → Prop := fun k => k < w.heap.size ∨ k = g
/-- A row of entries of the call's own, of which some are copied. -/
structure CpI (w W : World) (g n c : Nat) (cur : List En) : Prop where
  own : W.ownsRow 0 57 15 (.slice (some ⟨g, 0, none⟩) n c) n (ecells cur)
  new : w.heap.size ≤ g
  since : Same noB w W
theorem CpI.keep {w W W' : World} {g n c : Nat} {cur : List En} (h : CpI w W g n c cur) (hs : Same noB W W') : CpI w W' g n c cur := ⟨own_same h.own hs (fun _ _ x => x), h.new, h.since.trans' hs⟩
theorem CpI.lt {w W : World} {g n c : Nat} {cur : List En} (h : CpI w W g n c cur) : g < W.heap.size := (h.own.lt g rfl).2
theorem CpI.set_ {w W : World} {g n c : Nat} {cur cur' : List En} (h : CpI w W g n c cur) {j : Nat} {u : Value} (hc : (ecells cur).set j u = ecells cur') : CpI w (W.setCell ⟨g, j, none⟩ u) g n c cur' ∧ Same (oneB g) W (W.setCell ⟨g, j, none⟩ u) := by
  obtain ⟨h1, h2⟩ := h.own.stored j u
  rw [hc] at h1
  have hs : Same (oneB g) W (W.setCell ⟨g, j, none⟩ u) := (Same.refl _ _).set1 j u
  exact ⟨⟨h1, h.new, h.since.trans hs (fun b hb e => by have := h.new; rw [show b = g from e] at hb; omega)⟩, hs⟩
theorem CpI.at_ {w W : World} {g n c : Nat} {cur : List En} (h : CpI w W g n c cur) {k : Nat} {e : En} (he : cur[k]? = some e) (hn : cur.length = n) {j : Nat} (hj : j < 15) : W.cell? ⟨g, k * 15 + j, none⟩ = e.cells[j]? := by
  have hk := (List.getElem?_eq_some_iff.1 he).1
  rw [h.own.cellAt (k * 15 + j) (by have : (k + 1) * 15 ≤ n * 15 := Nat.mul_le_mul_right _ (by omega); omega)]
  exact flat_at En.cells 15 (fun _ => rfl) he j hj

def CpS2 (g k : Nat) (a1 a2 : Sl) (w' : World) : Prop := w'.cell? ⟨g, k * 15 + 10, none⟩ = some (.slice a1.addr a1.len a1.cap) ∧ w'.cell? ⟨g, k * 15 + 11, none⟩ = some (.slice a2.addr a2.len a2.cap)
def CpS3 (g k : Nat) (a3 a4 a5 : Sl) (w' : World) : Prop := w'.cell? ⟨g, k * 15 + 12, none⟩ = some (.slice a3.addr a3.len a3.cap) ∧ w'.cell? ⟨g, k * 15 + 13, none⟩ = some (.slice a4.addr a4.len a4.cap) ∧ w'.cell? ⟨g, k * 15 + 14, none⟩ = some (.slice a5.addr a5.len a5.cap)
theorem cp_two {w w0 W : World} {g n c k : Nat} {cur : List En} {e : En} {s1 s2 : Sl} {l1 l2 : List Int} (h : CpI w W g n c cur) (hx : cur[k]? = some e) (n1 : SlIs W (cpB w g) s1 l1) (n2 : SlIs W (cpB w g) s2 l2) (hs : Same noB w0 W) :
    CpI w ((W.setCell ⟨g, k * 15 + 2 + 6 + 2, none⟩ (.slice s1.addr s1.len s1.cap)).setCell ⟨g, k * 15 + 2 + 6 + 3, none⟩ (.slice s2.addr s2.len s2.cap)) g n c (cur.set k (setF2 (setF1 e s1) s2)) ∧
    SlIs ((W.setCell ⟨g, k * 15 + 2 + 6 + 2, none⟩ (.slice s1.addr s1.len s1.cap)).setCell ⟨g, k * 15 + 2 + 6 + 3, none⟩ (.slice s2.addr s2.len s2.cap)) (cpB w g) s1 l1 ∧
    SlIs ((W.setCell ⟨g, k * 15 + 2 + 6 + 2, none⟩ (.slice s1.addr s1.len s1.cap)).setCell ⟨g, k * 15 + 2 + 6 + 3, none⟩ (.slice s2.addr s2.len s2.cap)) (cpB w g) s2 l2 ∧
    Same (oneB g) w0 ((W.setCell ⟨g, k * 15 + 2 + 6 + 2, none⟩ (.slice s1.addr s1.len s1.cap)).setCell ⟨g, k * 15 + 2 + 6 + 3, none⟩ (.slice s2.addr s2.len s2.cap)) := by
  rw [show k * 15 + 2 + 6 + 2 = k * 15 + 10 from by omega, show k * 15 + 2 + 6 + 3 = k * 15 + 11 from by omega]
  obtain ⟨h1, q1⟩ := h.set_ (en_set1 hx s1)
  obtain ⟨h2, q2⟩ := h1.set_ (en_set2 (set_at hx) s2)
  rw [List.set_set] at h2
  have q := q1.trans' q2
  exact ⟨h2, n1.same q (fun _ _ e => .inr e) (fun _ _ x => x), n2.same q (fun _ _ e => .inr e) (fun _ _ x => x), hs.of_no.trans' q⟩
theorem cp_three {w w0 W : World} {g n c k : Nat} {cur : List En} {e : En} {s3 s4 s5 : Sl} {l3 l4 l5 : List Int} (h : CpI w W g n c cur) (hx : cur[k]? = some e) (n3 : SlIs W (cpB w g) s3 l3) (n4 : SlIs W (cpB w g) s4 l4) (n5 : SlIs W (cpB w g) s5 l5) (hs : Same noB w0 W) :
    CpI w (((W.setCell ⟨g, k * 15 + 2 + 10, none⟩ (.slice s3.addr s3.len s3.cap)).setCell ⟨g, k * 15 + 2 + 10 + 1, none⟩ (.slice s4.addr s4.len s4.cap)).setCell ⟨g, k * 15 + 2 + 10 + 2, none⟩ (.slice s5.addr s5.len s5.cap)) g n c (cur.set k (setF5 (setF4 (setF3 e s3) s4) s5)) ∧
    SlIs (((W.setCell ⟨g, k * 15 + 2 + 10, none⟩ (.slice s3.addr s3.len s3.cap)).setCell ⟨g, k * 15 + 2 + 10 + 1, none⟩ (.slice s4.addr s4.len s4.cap)).setCell ⟨g, k * 15 + 2 + 10 + 2, none⟩ (.slice s5.addr s5.len s5.cap)) (cpB w g) s3 l3 ∧
    SlIs (((W.setCell ⟨g, k * 15 + 2 + 10, none⟩ (.slice s3.addr s3.len s3.cap)).setCell ⟨g, k * 15 + 2 + 10 + 1, none⟩ (.slice s4.addr s4.len s4.cap)).setCell ⟨g, k * 15 + 2 + 10 + 2, none⟩ (.slice s5.addr s5.len s5.cap)) (cpB w g) s4 l4 ∧
    SlIs (((W.setCell ⟨g, k * 15 + 2 + 10, none⟩ (.slice s3.addr s3.len s3.cap)).setCell ⟨g, k * 15 + 2 + 10 + 1, none⟩ (.slice s4.addr s4.len s4.cap)).setCell ⟨g, k * 15 + 2 + 10 + 2, none⟩ (.slice s5.addr s5.len s5.cap)) (cpB w g) s5 l5 ∧
    Same (oneB g) w0 (((W.setCell ⟨g, k * 15 + 2 + 10, none⟩ (.slice s3.addr s3.len s3.cap)).setCell ⟨g, k * 15 + 2 + 10 + 1, none⟩ (.slice s4.addr s4.len s4.cap)).setCell ⟨g, k * 15 + 2 + 10 + 2, none⟩ (.slice s5.addr s5.len s5.cap)) := by
  rw [show k * 15 + 2 + 10 = k * 15 + 12 from by omega, show k * 15 + 12 + 1 = k * 15 + 13 from by omega, show k * 15 + 12 + 2 = k * 15 + 14 from by omega]
  obtain ⟨h1, q1⟩ := h.set_ (en_set3 hx s3)
  obtain ⟨h2, q2⟩ := h1.set_ (en_set4 (set_at hx) s4)
  obtain ⟨h3, q3⟩ := h2.set_ (en_set5 (set_at (set_at hx)) s5)
  rw [List.set_set, List.set_set] at h3
  have q := (q1.trans' q2).trans' q3
  exact ⟨h3, n3.same q (fun _ _ e => .inr e) (fun _ _ x => x), n4.same q (fun _ _ e => .inr e) (fun _ _ x => x), n5.same q (fun _ _ e => .inr e) (fun _ _ x => x), hs.of_no.trans' q⟩
theorem cpB_lt {w W W' : World} {g n c : Nat} {cur : List En} (h : CpI w W g n c cur) (hs : W.heap.size ≤ W'.heap.size) : ∀ b, cpB w g b → b < W'.heap.size := by
  intro b hb
  have h1 := h.lt
  have h2 := h.since.size
  rcases hb with hb | rfl <;> omega
/-- What copied gives. -/
structure CopyIs (w w' : World) (v : Value) (es : List En) (vs : List EnV) : Prop where
  own : w'.ownsRow 0 57 15 v es.length (ecells es)
  new : ∀ g, v.ownBlock = some g → w.heap.size ≤ g
  is : All2 (EnIs w' (fun k => k < w.heap.size ∨ some k = v.ownBlock)) es vs
  since : Same noB w w'
theorem all2_of {α β : Type} {R : α → β → Prop} : ∀ {l : List α} {m : List β}, l.length = m.length → (∀ (k : Nat) (a : α) (b : β), l[k]? = some a → m[k]? = some b → R a b) → All2 R l m
  | [], [], _, _ => .nil
  | [], _ :: _, h, _ => by simp at h
  | _ :: _, [], h, _ => by simp at h
  | a :: l, b :: m, h, f => .cons (f 0 a b rfl rfl) (all2_of (by simpa using h) (fun k x y hx hy => f (k + 1) x y (by simpa using hx) (by simpa using hy)))

set_option maxHeartbeats 16000000 in
theorem copied_any {w : World} {bad : Nat → Prop} {v : Value} {es : List En} {vs : List EnV} (h : EnL w bad v es vs) (hlen : vs.length ≤ 100000) (hsm : ∀ x ∈ vs, x.c.Sm) :
    Calls Try.prog 51 #[v] w fun e w' => ∃ v' es', e = .returned v' ∧ CopyIs w w' v' es' vs := by
  have hel := h.len
  have H := Lib.hid h
  have HSM := Lib.hid hsm
  have HEL := Lib.hid hel
  have hlen2 : es.length ≤ 100000 := by omega
  have hZ := clone53_any h.rd hlen2
  clear h hsm hel hlen
  go_enter Try.func51, Try.ntmps51
  go_wp2_with fail
  (with_reducible refine Calls.mono hZ ?_)
  clear hZ
  rintro e W1 ⟨A, c, rfl, ha⟩
  obtain ⟨n, hn⟩ : ∃ n, es.length = n := ⟨_, rfl⟩
  have HNL := Lib.hid hn
  cases A with
  | none =>
    have hn0 : n = 0 := by
      obtain ⟨A', c', e, h1, h2, h3, h4, h5⟩ := ha.rd (bad := noB) (fun _ e => e.elim)
      injection e with e1 e2 e3
      have := h4 e1.symm
      omega
    subst hn0
    obtain rfl : es = [] := List.eq_nil_of_length_eq_zero hn
    obtain rfl : vs = [] := List.eq_nil_of_length_eq_zero (by have := HEL.out; simpa using this.symm)
    have HC : Hid (CopyIs w W1 (.slice none 0 c) [] []) := ⟨ha.own, fun g hg => by simp [Value.ownBlock] at hg, .nil, ha.since⟩
    clear ha hn
    simp only [List.length_nil]
    go_wp2_with fail
    refine wp_loop_rounds 1 ?_
    rw [rounds_succ]
    go_wp2_with fail
    go_ret
    exact ⟨_, [], rfl, HC.out⟩
  | some a =>
    obtain ⟨g, rfl⟩ : ∃ g, a = ⟨g, 0, none⟩ := by
      rcases ha.own.2 with ⟨e, _⟩ | ⟨g, cap, cur, e, _⟩
      · cases e
      · injection e with e1 e2 e3
        injection e1 with e1
        exact ⟨g, e1⟩
    have hcap := (ha.rd (bad := noB) (fun _ e => e.elim)).caps
    have HI0 : Hid (CpI w W1 g n c es) := ⟨by have := ha.own; rw [hn] at this; exact this, ha.new g rfl, ha.since⟩
    rw [hn] at hlen2 hcap ⊢
    clear ha hn
    go_wp2_with fail
    go_loopg [10] (n) (fun gk i wr => ∃ (k : Nat) (cur : List En), k ≤ n ∧ Hid (gk + k = n) ∧ i = .int .i64 k ∧ Hid (CpI w wr g n c cur ∧ cur.length = n ∧ (∀ j, k ≤ j → cur[j]? = es[j]?) ∧ ∀ j e x, j < k → cur[j]? = some e → vs[j]? = some x → EnIs wr (cpB w g) e x))
    case atStart => exact ⟨0, es, Nat.zero_le _, rfl, rfl, HI0.out, HNL.out, fun _ _ => rfl, fun j _ _ hj => absurd hj (Nat.not_lt_zero _)⟩
    case round =>
      obtain ⟨k, cur, hk, HK, rfl, HR⟩ := hrel
      clear HI0
      by_cases hlt : k < n
      · obtain ⟨x, hx⟩ : ∃ e, es[k]? = some e := ⟨_, List.getElem?_eq_getElem (by have := HNL.out; omega)⟩
        have hcx : cur[k]? = some x := (HR.out.2.2.1 k (Nat.le_refl _)).trans hx
        obtain ⟨y, hy, hi⟩ := (H.out.keep HR.out.1.since).is.at_ hx
        have hsm := HSM.out y (List.mem_of_getElem? hy)
        have HI := Lib.hid HR.out.1
        have HCX := Lib.hid (And.intro hcx (And.intro hy HR.out.2.1))
        have HE := Lib.hid hi
        have HZ1 := Lib.hid (fun (W' : World) (hs : Same noB wr W') => clone63_any (w := W') (hi.c.f1.keep hs) (Nat.le_trans hsm.l1 (by omega)))
        have HZ2 := Lib.hid (fun (W' : World) (hs : Same noB wr W') => clone63_any (w := W') (hi.c.f2.keep hs) (Nat.le_trans hsm.l2 (by omega)))
        have p10 := HI.out.at_ hcx HR.out.2.1 (j := 10) (by omega)
        have p11 := HI.out.at_ hcx HR.out.2.1 (j := 11) (by omega)
        have HE7 : Hid (∀ W', Same noB w W' → EnIs W' bad x y) := by
          show ∀ W', _
          intro W' hs
          obtain ⟨y', hy', hi'⟩ := (H.out.keep hs).is.at_ hx
          rw [hy] at hy'
          injection hy' with hy'
          rw [hy']
          exact hi'
        have HSM5 := Lib.hid hsm
        obtain ⟨xi, xt, ⟨⟨sk, sc, sn, sb, sg, ss, sck, scm⟩, a1, a2, a3, a4, a5⟩⟩ := x
        simp only [En.cells, List.getElem?_cons_zero, List.getElem?_cons_succ] at p10 p11
        have hi0 : (0 : Int) ≤ (k : Int) := by omega
        have hi1 : (k : Int) < (n : Int) := by omega
        have HIq := HI
        clear hi hsm hx hcx hy
        go_wp2_with fail
        go_cut [24, 30] from 17 to 37 (fun _ _ wx => ∃ s1 s2, CpI w wx g n c (cur.set k (setF2 (setF1 ⟨xi, xt, ⟨⟨sk, sc, sn, sb, sg, ss, sck, scm⟩, a1, a2, a3, a4, a5⟩⟩ s1) s2)) ∧ SlIs wx (cpB w g) s1 y.c.l1 ∧ SlIs wx (cpB w g) s2 y.c.l2 ∧ Same (oneB g) wr wx)
        case first =>
          refine wp_region_T (S := CpS2 g k a1 a2) (late := fun j => [17, 21].contains j) (by kernel_rfl) ?_ (fun hHeld => ?_)
          · exact ⟨p10, p11⟩
          refine T_pure (i := 0) (v := ?va0) rfl (by kernel_rfl) (by kernel_rfl) (by kernel_rfl) (fun _ _ _ h => h) (Or.inl ⟨?_, ?_⟩) ?_
          rotate_left 1
          · rfl
          · (intro w hSw; clear hSw; go_simp; (try with_reducible rfl))
          go_simp
          refine T_pure (i := 1) (v := ?va1) rfl (by kernel_rfl) (by kernel_rfl) (by kernel_rfl) (fun _ _ _ h => h) (Or.inl ⟨?_, ?_⟩) ?_
          rotate_left 1
          · rfl
          · (intro w hSw; clear hSw; go_simp; (try with_reducible rfl))
          go_simp
          refine T_pure (i := 2) (v := ?va2) rfl (by kernel_rfl) (by kernel_rfl) (by kernel_rfl) (fun _ _ _ h => h) (Or.inl ⟨?_, ?_⟩) ?_
          rotate_left 1
          · rfl
          · (intro w hSw; clear hSw; go_simp; (try with_reducible rfl))
          go_simp
          refine T_pure (i := 3) (v := ?va3) rfl (by kernel_rfl) (by kernel_rfl) (by kernel_rfl) (fun _ _ _ h => h) (Or.inl ⟨?_, ?_⟩) ?_
          rotate_left 1
          · rfl
          · (intro w hSw; clear hSw; go_simp; (try with_reducible rfl))
          go_simp
          refine T_pure (i := 4) (v := ?va4) rfl (by kernel_rfl) (by kernel_rfl) (by kernel_rfl) (fun _ _ _ h => h) (Or.inl ⟨?_, ?_⟩) ?_
          rotate_left 1
          · rfl
          · (intro w hSw; clear hSw; go_simp; (try with_reducible rfl))
          go_simp
          refine T_pure (i := 5) (v := ?va5) rfl (by kernel_rfl) (by kernel_rfl) (by kernel_rfl) (fun _ _ _ h => h) (Or.inl ⟨?_, ?_⟩) ?_
          rotate_left 1
          · rfl
          · (intro w hSw; clear hSw; go_simp; (try with_reducible rfl))
          go_simp
          refine T_take (i := 6) (v := ?va6) rfl (by kernel_rfl) (by kernel_rfl) (by kernel_rfl) (by kernel_rfl) (fun _ _ _ h => h) (Or.inl ⟨?_, ?_⟩) (by assumption) ?_
          rotate_left 1
          · rfl
          · (intro w hSw; unfold CpS2 at hSw; go_simp; (try with_reducible rfl))
          go_simp
          refine T_pure (i := 8) (v := ?va8) rfl (by kernel_rfl) (by kernel_rfl) (by kernel_rfl) (fun _ _ _ h => h) (Or.inl ⟨?_, ?_⟩) ?_
          rotate_left 1
          · rfl
          · (intro w hSw; clear hSw; go_simp; (try with_reducible rfl))
          go_simp
          refine T_pure (i := 9) (v := ?va9) rfl (by kernel_rfl) (by kernel_rfl) (by kernel_rfl) (fun _ _ _ h => h) (Or.inl ⟨?_, ?_⟩) ?_
          rotate_left 1
          · rfl
          · (intro w hSw; clear hSw; go_simp; (try with_reducible rfl))
          go_simp
          refine T_pure (i := 10) (v := ?va10) rfl (by kernel_rfl) (by kernel_rfl) (by kernel_rfl) (fun _ _ _ h => h) (Or.inl ⟨?_, ?_⟩) ?_
          rotate_left 1
          · rfl
          · (intro w hSw; clear hSw; go_simp; (try with_reducible rfl))
          go_simp
          refine T_pure (i := 11) (v := ?va11) rfl (by kernel_rfl) (by kernel_rfl) (by kernel_rfl) (fun _ _ _ h => h) (Or.inl ⟨?_, ?_⟩) ?_
          rotate_left 1
          · rfl
          · (intro w hSw; clear hSw; go_simp; (try with_reducible rfl))
          go_simp
          refine T_take (i := 12) (v := ?va12) rfl (by kernel_rfl) (by kernel_rfl) (by kernel_rfl) (by kernel_rfl) (fun _ _ _ h => h) (Or.inl ⟨?_, ?_⟩) (by assumption) ?_
          rotate_left 1
          · rfl
          · (intro w hSw; unfold CpS2 at hSw; go_simp; (try with_reducible rfl))
          go_simp
          refine T_ready (rs := [7]) (by kernel_rfl) (by simp) ?_
          refine ReadyT.early rfl (fun K hK => ?_) ReadyT.nil
          go_simp
          (with_reducible refine Calls.mono (HZ1.out _ (by (repeat (first | exact Same.refl _ _ | assumption | refine Same.drew ?_ | refine Same.alloc ?_ _)))) ?_)
          rintro e W1 ⟨s1, rfl, hn⟩
          have hs1 := hn.app.since
          have hr1 : Same noB wr W1 := Same.trans' (by (repeat (first | exact Same.refl _ _ | assumption | refine Same.drew ?_ | refine Same.alloc ?_ _))) hs1
          have HN1 := Lib.hid (hn.is (bad := cpB w g) (cpB_lt HI.out (Nat.le_refl _)))
          have p10 := hs1.cell p10 (fun x => x)
          have p11 := hs1.cell p11 (fun x => x)

          clear hn
          clear hHeld
          go_wp2_with fail
          refine hK.out _ _ ?_ (fun hHeld => ?_)
          · exact ⟨p10, p11⟩
          clear hK K
          refine T_ready (rs := [13]) (by kernel_rfl) (by simp) ?_
          refine ReadyT.early rfl (fun K hK => ?_) ReadyT.nil
          go_simp
          (with_reducible refine Calls.mono (HZ2.out _ (by (repeat (first | exact Same.refl _ _ | assumption | refine Same.drew ?_ | refine Same.alloc ?_ _)))) ?_)
          rintro e W2 ⟨s2, rfl, hn⟩
          have hs2 := hn.app.since
          have hr2 : Same noB wr W2 := Same.trans' (by (repeat (first | exact Same.refl _ _ | assumption | refine Same.drew ?_ | refine Same.alloc ?_ _))) hs2
          have HN2 := Lib.hid (hn.is (bad := cpB w g) (cpB_lt HI.out hr1.size))
          have p10 := hs2.cell p10 (fun x => x)
          have p11 := hs2.cell p11 (fun x => x)
          have HN1 := Lib.hid (HN1.out.keep hs2)
          clear hn
          have HIW := Lib.hid (HI.out.keep hr2)
          have z10 := HIW.out.own.frozenAt (k * 15 + 10)
          have z11 := HIW.out.own.frozenAt (k * 15 + 11)
          have hgl := HIW.out.lt
          clear hHeld
          go_wp2_with fail
          refine hK.out _ _ ?_ (fun hHeld => ?_)
          · exact ⟨p10, p11⟩
          clear hK K
          refine T_pure (i := 14) (v := ?va14) rfl (by kernel_rfl) (by kernel_rfl) (by kernel_rfl) (fun _ _ _ h => h) (Or.inl ⟨?_, ?_⟩) ?_
          rotate_left 1
          · rfl
          · (intro w hSw; clear hSw; go_simp; (try with_reducible rfl))
          go_simp
          refine T_pure (i := 15) (v := ?va15) rfl (by kernel_rfl) (by kernel_rfl) (by kernel_rfl) (fun _ _ _ h => h) (Or.inl ⟨?_, ?_⟩) ?_
          rotate_left 1
          · rfl
          · (intro w hSw; clear hSw; go_simp; (try with_reducible rfl))
          go_simp
          refine T_pure (i := 16) (v := ?va16) rfl (by kernel_rfl) (by kernel_rfl) (by kernel_rfl) (fun _ _ _ h => h) (Or.inl ⟨?_, ?_⟩) ?_
          rotate_left 1
          · rfl
          · (intro w hSw; clear hSw; go_simp; (try with_reducible rfl))
          go_simp
          refine T_ready (rs := [17]) (by kernel_rfl) (by simp) ?_
          refine ReadyT.behind rfl rfl (fun K hK => ?_) ReadyT.nil
          go_simp
          skip
          refine hK.out _ _ ?_
          clear hK K
          refine T_pure (i := 18) (v := ?va18) rfl (by kernel_rfl) (by kernel_rfl) (by kernel_rfl) (fun _ _ _ h => h) (Or.inl ⟨?_, ?_⟩) ?_
          rotate_left 1
          · rfl
          · (intro w hSw; clear hSw; go_simp; (try with_reducible rfl))
          go_simp
          refine T_pure (i := 19) (v := ?va19) rfl (by kernel_rfl) (by kernel_rfl) (by kernel_rfl) (fun _ _ _ h => h) (Or.inl ⟨?_, ?_⟩) ?_
          rotate_left 1
          · rfl
          · (intro w hSw; clear hSw; go_simp; (try with_reducible rfl))
          go_simp
          refine T_pure (i := 20) (v := ?va20) rfl (by kernel_rfl) (by kernel_rfl) (by kernel_rfl) (fun _ _ _ h => h) (Or.inl ⟨?_, ?_⟩) ?_
          rotate_left 1
          · rfl
          · (intro w hSw; clear hSw; go_simp; (try with_reducible rfl))
          go_simp
          refine T_ready (rs := [21]) (by kernel_rfl) (by simp) ?_
          refine ReadyT.behind rfl rfl (fun K hK => ?_) ReadyT.nil
          go_simp
          skip
          refine hK.out _ _ ?_
          clear hK K
          refine T_done (by kernel_rfl) ?_ _
          all_goals go_wp2_with fail
          all_goals
            go_meet
            exact ⟨s1, s2, cp_two HIW.out HCX.out.1 HN1.out HN2.out hr2⟩
        case rest =>
          obtain ⟨s1, s2, h1, hn1, hn2, hsg⟩ := hcut
          have HI7 := Lib.hid h1
          have HS1 := Lib.hid hn1
          have HS2 := Lib.hid hn2
          have HG := Lib.hid hsg
          have hxk := set_at (e' := setF2 (setF1 ⟨xi, xt, ⟨⟨sk, sc, sn, sb, sg, ss, sck, scm⟩, a1, a2, a3, a4, a5⟩⟩ s1) s2) HCX.out.1
          have hlk : (cur.set k (setF2 (setF1 ⟨xi, xt, ⟨⟨sk, sc, sn, sb, sg, ss, sck, scm⟩, a1, a2, a3, a4, a5⟩⟩ s1) s2)).length = n := by rw [List.length_set]; exact HCX.out.2.2
          have HK7 := Lib.hid hxk
          have p12 := h1.at_ hxk hlk (j := 12) (by omega)
          have p13 := h1.at_ hxk hlk (j := 13) (by omega)
          have p14 := h1.at_ hxk hlk (j := 14) (by omega)
          have hi7 := HE7.out wc h1.since
          have HZ3 := Lib.hid (fun (W' : World) (hs : Same noB wc W') => clone63_any (w := W') (hi7.c.f3.keep hs) (Nat.le_trans HSM5.out.l3 (by omega)))
          have HZ4 := Lib.hid (fun (W' : World) (hs : Same noB wc W') => clone63_any (w := W') (hi7.c.f4.keep hs) (Nat.le_trans HSM5.out.l4 (by omega)))
          have HZ5 := Lib.hid (fun (W' : World) (hs : Same noB wc W') => clone63_any (w := W') (hi7.c.f5.keep hs) (Nat.le_trans HSM5.out.l5 (by omega)))
          simp only [setF1, setF2, En.cells, List.getElem?_cons_zero, List.getElem?_cons_succ] at p12 p13 p14
          have hei := hi7.i
          have het := hi7.t
          have hes := hi7.c.s
          have HES := Lib.hid (And.intro hei (And.intro het hes))
          clear h1 hn1 hn2 hsg hxk hlk hi7 hei het hes p10 p11
          go_wp2_with fail
          refine wp_region_T (S := CpS3 g k a3 a4 a5) (late := fun j => [24, 28, 32].contains j) (by kernel_rfl) ?_ (fun hHeld => ?_)
          · exact ⟨p12, p13, p14⟩
          refine T_pure (i := 0) (v := ?vb0) rfl (by kernel_rfl) (by kernel_rfl) (by kernel_rfl) (fun _ _ _ h => h) (Or.inl ⟨?_, ?_⟩) ?_
          rotate_left 1
          · rfl
          · (intro w hSw; clear hSw; go_simp; (try with_reducible rfl))
          go_simp
          refine T_pure (i := 1) (v := ?vb1) rfl (by kernel_rfl) (by kernel_rfl) (by kernel_rfl) (fun _ _ _ h => h) (Or.inl ⟨?_, ?_⟩) ?_
          rotate_left 1
          · rfl
          · (intro w hSw; clear hSw; go_simp; (try with_reducible rfl))
          go_simp
          refine T_pure (i := 2) (v := ?vb2) rfl (by kernel_rfl) (by kernel_rfl) (by kernel_rfl) (fun _ _ _ h => h) (Or.inl ⟨?_, ?_⟩) ?_
          rotate_left 1
          · rfl
          · (intro w hSw; clear hSw; go_simp; (try with_reducible rfl))
          go_simp
          refine T_pure (i := 3) (v := ?vb3) rfl (by kernel_rfl) (by kernel_rfl) (by kernel_rfl) (fun _ _ _ h => h) (Or.inl ⟨?_, ?_⟩) ?_
          rotate_left 1
          · rfl
          · (intro w hSw; clear hSw; go_simp; (try with_reducible rfl))
          go_simp
          refine T_pure (i := 4) (v := ?vb4) rfl (by kernel_rfl) (by kernel_rfl) (by kernel_rfl) (fun _ _ _ h => h) (Or.inl ⟨?_, ?_⟩) ?_
          rotate_left 1
          · rfl
          · (intro w hSw; clear hSw; go_simp; (try with_reducible rfl))
          go_simp
          refine T_pure (i := 5) (v := ?vb5) rfl (by kernel_rfl) (by kernel_rfl) (by kernel_rfl) (fun _ _ _ h => h) (Or.inl ⟨?_, ?_⟩) ?_
          rotate_left 1
          · rfl
          · (intro w hSw; clear hSw; go_simp; (try with_reducible rfl))
          go_simp
          refine T_pure (i := 6) (v := ?vb6) rfl (by kernel_rfl) (by kernel_rfl) (by kernel_rfl) (fun _ _ _ h => h) (Or.inl ⟨?_, ?_⟩) ?_
          rotate_left 1
          · rfl
          · (intro w hSw; clear hSw; go_simp; (try with_reducible rfl))
          go_simp
          refine T_take (i := 7) (v := ?vb7) rfl (by kernel_rfl) (by kernel_rfl) (by kernel_rfl) (by kernel_rfl) (fun _ _ _ h => h) (Or.inl ⟨?_, ?_⟩) (by assumption) ?_
          rotate_left 1
          · rfl
          · (intro w hSw; unfold CpS3 at hSw; go_simp; (try with_reducible rfl))
          go_simp
          refine T_pure (i := 9) (v := ?vb9) rfl (by kernel_rfl) (by kernel_rfl) (by kernel_rfl) (fun _ _ _ h => h) (Or.inl ⟨?_, ?_⟩) ?_
          rotate_left 1
          · rfl
          · (intro w hSw; clear hSw; go_simp; (try with_reducible rfl))
          go_simp
          refine T_pure (i := 10) (v := ?vb10) rfl (by kernel_rfl) (by kernel_rfl) (by kernel_rfl) (fun _ _ _ h => h) (Or.inl ⟨?_, ?_⟩) ?_
          rotate_left 1
          · rfl
          · (intro w hSw; clear hSw; go_simp; (try with_reducible rfl))
          go_simp
          refine T_pure (i := 11) (v := ?vb11) rfl (by kernel_rfl) (by kernel_rfl) (by kernel_rfl) (fun _ _ _ h => h) (Or.inl ⟨?_, ?_⟩) ?_
          rotate_left 1
          · rfl
          · (intro w hSw; clear hSw; go_simp; (try with_reducible rfl))
          go_simp
          refine T_pure (i := 12) (v := ?vb12) rfl (by kernel_rfl) (by kernel_rfl) (by kernel_rfl) (fun _ _ _ h => h) (Or.inl ⟨?_, ?_⟩) ?_
          rotate_left 1
          · rfl
          · (intro w hSw; clear hSw; go_simp; (try with_reducible rfl))
          go_simp
          refine T_take (i := 13) (v := ?vb13) rfl (by kernel_rfl) (by kernel_rfl) (by kernel_rfl) (by kernel_rfl) (fun _ _ _ h => h) (Or.inl ⟨?_, ?_⟩) (by assumption) ?_
          rotate_left 1
          · rfl
          · (intro w hSw; unfold CpS3 at hSw; go_simp; (try with_reducible rfl))
          go_simp
          refine T_pure (i := 15) (v := ?vb15) rfl (by kernel_rfl) (by kernel_rfl) (by kernel_rfl) (fun _ _ _ h => h) (Or.inl ⟨?_, ?_⟩) ?_
          rotate_left 1
          · rfl
          · (intro w hSw; clear hSw; go_simp; (try with_reducible rfl))
          go_simp
          refine T_pure (i := 16) (v := ?vb16) rfl (by kernel_rfl) (by kernel_rfl) (by kernel_rfl) (fun _ _ _ h => h) (Or.inl ⟨?_, ?_⟩) ?_
          rotate_left 1
          · rfl
          · (intro w hSw; clear hSw; go_simp; (try with_reducible rfl))
          go_simp
          refine T_pure (i := 17) (v := ?vb17) rfl (by kernel_rfl) (by kernel_rfl) (by kernel_rfl) (fun _ _ _ h => h) (Or.inl ⟨?_, ?_⟩) ?_
          rotate_left 1
          · rfl
          · (intro w hSw; clear hSw; go_simp; (try with_reducible rfl))
          go_simp
          refine T_pure (i := 18) (v := ?vb18) rfl (by kernel_rfl) (by kernel_rfl) (by kernel_rfl) (fun _ _ _ h => h) (Or.inl ⟨?_, ?_⟩) ?_
          rotate_left 1
          · rfl
          · (intro w hSw; clear hSw; go_simp; (try with_reducible rfl))
          go_simp
          refine T_take (i := 19) (v := ?vb19) rfl (by kernel_rfl) (by kernel_rfl) (by kernel_rfl) (by kernel_rfl) (fun _ _ _ h => h) (Or.inl ⟨?_, ?_⟩) (by assumption) ?_
          rotate_left 1
          · rfl
          · (intro w hSw; unfold CpS3 at hSw; go_simp; (try with_reducible rfl))
          go_simp
          refine T_ready (rs := [8]) (by kernel_rfl) (by simp) ?_
          refine ReadyT.early rfl (fun K hK => ?_) ReadyT.nil
          go_simp
          (with_reducible refine Calls.mono (HZ3.out _ (by (repeat (first | exact Same.refl _ _ | assumption | refine Same.drew ?_ | refine Same.alloc ?_ _)))) ?_)
          rintro e W3 ⟨s3, rfl, hn⟩
          have hs3 := hn.app.since
          have hr3 : Same noB wc W3 := Same.trans' (by (repeat (first | exact Same.refl _ _ | assumption | refine Same.drew ?_ | refine Same.alloc ?_ _))) hs3
          have HN3 := Lib.hid (hn.is (bad := cpB w g) (cpB_lt HI7.out (Nat.le_refl _)))
          have p12 := hs3.cell p12 (fun x => x)
          have p13 := hs3.cell p13 (fun x => x)
          have p14 := hs3.cell p14 (fun x => x)

          clear hn
          clear hHeld
          go_wp2_with fail
          refine hK.out _ _ ?_ (fun hHeld => ?_)
          · exact ⟨p12, p13, p14⟩
          clear hK K
          refine T_ready (rs := [14]) (by kernel_rfl) (by simp) ?_
          refine ReadyT.early rfl (fun K hK => ?_) ReadyT.nil
          go_simp
          (with_reducible refine Calls.mono (HZ4.out _ (by (repeat (first | exact Same.refl _ _ | assumption | refine Same.drew ?_ | refine Same.alloc ?_ _)))) ?_)
          rintro e W4 ⟨s4, rfl, hn⟩
          have hs4 := hn.app.since
          have hr4 : Same noB wc W4 := Same.trans' (by (repeat (first | exact Same.refl _ _ | assumption | refine Same.drew ?_ | refine Same.alloc ?_ _))) hs4
          have HN4 := Lib.hid (hn.is (bad := cpB w g) (cpB_lt HI7.out hr3.size))
          have p12 := hs4.cell p12 (fun x => x)
          have p13 := hs4.cell p13 (fun x => x)
          have p14 := hs4.cell p14 (fun x => x)
          have HN3 := Lib.hid (HN3.out.keep hs4)
          clear hn
          clear hHeld
          go_wp2_with fail
          refine hK.out _ _ ?_ (fun hHeld => ?_)
          · exact ⟨p12, p13, p14⟩
          clear hK K
          refine T_ready (rs := [20]) (by kernel_rfl) (by simp) ?_
          refine ReadyT.early rfl (fun K hK => ?_) ReadyT.nil
          go_simp
          (with_reducible refine Calls.mono (HZ5.out _ (by (repeat (first | exact Same.refl _ _ | assumption | refine Same.drew ?_ | refine Same.alloc ?_ _)))) ?_)
          rintro e W5 ⟨s5, rfl, hn⟩
          have hs5 := hn.app.since
          have hr5 : Same noB wc W5 := Same.trans' (by (repeat (first | exact Same.refl _ _ | assumption | refine Same.drew ?_ | refine Same.alloc ?_ _))) hs5
          have HN5 := Lib.hid (hn.is (bad := cpB w g) (cpB_lt HI7.out hr4.size))
          have p12 := hs5.cell p12 (fun x => x)
          have p13 := hs5.cell p13 (fun x => x)
          have p14 := hs5.cell p14 (fun x => x)
          have HN3 := Lib.hid (HN3.out.keep hs5)
          have HN4 := Lib.hid (HN4.out.keep hs5)
          clear hn
          have HIW := Lib.hid (HI7.out.keep hr5)
          have z12 := HIW.out.own.frozenAt (k * 15 + 12)
          have z13 := HIW.out.own.frozenAt (k * 15 + 13)
          have z14 := HIW.out.own.frozenAt (k * 15 + 14)
          have hgl := HIW.out.lt
          clear hHeld
          go_wp2_with fail
          refine hK.out _ _ ?_ (fun hHeld => ?_)
          · exact ⟨p12, p13, p14⟩
          clear hK K
          refine T_pure (i := 21) (v := ?vb21) rfl (by kernel_rfl) (by kernel_rfl) (by kernel_rfl) (fun _ _ _ h => h) (Or.inl ⟨?_, ?_⟩) ?_
          rotate_left 1
          · rfl
          · (intro w hSw; clear hSw; go_simp; (try with_reducible rfl))
          go_simp
          refine T_pure (i := 22) (v := ?vb22) rfl (by kernel_rfl) (by kernel_rfl) (by kernel_rfl) (fun _ _ _ h => h) (Or.inl ⟨?_, ?_⟩) ?_
          rotate_left 1
          · rfl
          · (intro w hSw; clear hSw; go_simp; (try with_reducible rfl))
          go_simp
          refine T_pure (i := 23) (v := ?vb23) rfl (by kernel_rfl) (by kernel_rfl) (by kernel_rfl) (fun _ _ _ h => h) (Or.inl ⟨?_, ?_⟩) ?_
          rotate_left 1
          · rfl
          · (intro w hSw; clear hSw; go_simp; (try with_reducible rfl))
          go_simp
          refine T_ready (rs := [24]) (by kernel_rfl) (by simp) ?_
          refine ReadyT.behind rfl rfl (fun K hK => ?_) ReadyT.nil
          go_simp
          skip
          refine hK.out _ _ ?_
          clear hK K
          refine T_pure (i := 25) (v := ?vb25) rfl (by kernel_rfl) (by kernel_rfl) (by kernel_rfl) (fun _ _ _ h => h) (Or.inl ⟨?_, ?_⟩) ?_
          rotate_left 1
          · rfl
          · (intro w hSw; clear hSw; go_simp; (try with_reducible rfl))
          go_simp
          refine T_pure (i := 26) (v := ?vb26) rfl (by kernel_rfl) (by kernel_rfl) (by kernel_rfl) (fun _ _ _ h => h) (Or.inl ⟨?_, ?_⟩) ?_
          rotate_left 1
          · rfl
          · (intro w hSw; clear hSw; go_simp; (try with_reducible rfl))
          go_simp
          refine T_pure (i := 27) (v := ?vb27) rfl (by kernel_rfl) (by kernel_rfl) (by kernel_rfl) (fun _ _ _ h => h) (Or.inl ⟨?_, ?_⟩) ?_
          rotate_left 1
          · rfl
          · (intro w hSw; clear hSw; go_simp; (try with_reducible rfl))
          go_simp
          refine T_ready (rs := [28]) (by kernel_rfl) (by simp) ?_
          refine ReadyT.behind rfl rfl (fun K hK => ?_) ReadyT.nil
          go_simp
          skip
          refine hK.out _ _ ?_
          clear hK K
          refine T_pure (i := 29) (v := ?vb29) rfl (by kernel_rfl) (by kernel_rfl) (by kernel_rfl) (fun _ _ _ h => h) (Or.inl ⟨?_, ?_⟩) ?_
          rotate_left 1
          · rfl
          · (intro w hSw; clear hSw; go_simp; (try with_reducible rfl))
          go_simp
          refine T_pure (i := 30) (v := ?vb30) rfl (by kernel_rfl) (by kernel_rfl) (by kernel_rfl) (fun _ _ _ h => h) (Or.inl ⟨?_, ?_⟩) ?_
          rotate_left 1
          · rfl
          · (intro w hSw; clear hSw; go_simp; (try with_reducible rfl))
          go_simp
          refine T_pure (i := 31) (v := ?vb31) rfl (by kernel_rfl) (by kernel_rfl) (by kernel_rfl) (fun _ _ _ h => h) (Or.inl ⟨?_, ?_⟩) ?_
          rotate_left 1
          · rfl
          · (intro w hSw; clear hSw; go_simp; (try with_reducible rfl))
          go_simp
          refine T_ready (rs := [32]) (by kernel_rfl) (by simp) ?_
          refine ReadyT.behind rfl rfl (fun K hK => ?_) ReadyT.nil
          go_simp
          skip
          refine hK.out _ _ ?_
          clear hK K
          refine T_done (by kernel_rfl) ?_ _
          have HT := Lib.hid (cp_three HIW.out HK7.out HN3.out HN4.out HN5.out hr5)
          rw [List.set_set] at HT
          go_wp2_with fail
          go_roundg (gk - 1)
          case measure => have h1 := HK.out; omega
          case rel =>
            obtain ⟨t1, t3, t4, t5, tg⟩ := HT.out
            refine ⟨k + 1, _, by omega, by show _ = _; have h1 := HK.out; omega, by go_num, t1, by rw [List.length_set]; exact HCX.out.2.2, fun j hj => ?_, fun j e z hj he hz => ?_⟩
            · rw [List.getElem?_set_ne (by omega)]
              exact HR.out.2.2.1 j (by omega)
            · by_cases hjk : j = k
              · subst hjk
                rw [set_at HCX.out.1] at he
                injection he with he
                subst he
                rw [HCX.out.2.1] at hz
                injection hz with hz
                subst hz
                exact ⟨HES.out.1, HES.out.2.1, ⟨HES.out.2.2, HS1.out.same tg (fun _ _ e => .inr e) (fun _ _ x => x), HS2.out.same tg (fun _ _ e => .inr e) (fun _ _ x => x), t3, t4, t5⟩⟩
              · rw [List.getElem?_set_ne (by omega)] at he
                exact (HR.out.2.2.2 j e z (by omega) he hz).same (HG.out.trans' tg) (fun _ _ e => .inr e) (fun _ _ x => x)
      · obtain rfl : k = n := by omega
        go_wp2_with fail
        go_ret
        refine ⟨_, cur, rfl, ⟨by rw [HR.out.2.1]; exact HR.out.1.own, fun g' hg' => by injection hg' with hg'; rw [← hg']; exact HR.out.1.new, all2_of (by rw [HR.out.2.1, ← HNL.out]; exact HEL.out) (fun j a b ha hb => ?_), HR.out.1.since⟩⟩
        exact (HR.out.2.2.2 j a b (by have := (List.getElem?_eq_some_iff.1 ha).1; have := HR.out.2.1; omega) ha hb).same (Same.refl noB _) (fun _ _ x => x.elim) (fun b _ hb => by rcases hb with hb | hb; exact .inl hb; exact .inr (by injection hb))
end Go.Proofs.Ytlocfbjeljgblaa
