/- Layer 36: Entry and Term of the reference. -/
import Derived.Test.YtlocfbjeljgblaaRepJ
import Derived.Test.YtlocfbjeljgblaaRepC
namespace Go.Proofs.Ytlocfbjeljgblaa
open Go Go.RowKit
set_option maxRecDepth 100000

def sl0 : Sl := ⟨none, 0, 0⟩
def en0 : En := ⟨0, 0, ⟨⟨0, 0, 0, ByteArray.empty, 0, 0, 0, 0⟩, sl0, sl0, sl0, sl0, sl0⟩⟩
def env0 : EnV := ⟨0, 0, ⟨⟨0, 0, 0, ByteArray.empty, 0, 0, 0, 0⟩, [], [], [], [], []⟩⟩
theorem en0_is (w : World) (bad : Nat → Prop) : EnIs w bad en0 env0 := by
  have h : SlIs w bad sl0 [] := ⟨rfl, Rd.nil_ w bad 1⟩
  exact ⟨rfl, rfl, ⟨rfl, h, h, h, h, h⟩⟩
theorem en0_sm : env0.c.Sm := ⟨by simp [env0], by simp [env0], by simp [env0], by simp [env0], by simp [env0]⟩
/-- A whole entry is stored. -/
theorem en_stored {w : World} {G : Nat} {cs : Array Value} (hb : Blk w G 57 cs) (e : En) : Blk (w.setRow G e.cells.toArray) G 57 e.cells.toArray ∧ Same (oneB G) w (w.setRow G e.cells.toArray) := by
  have h1 : Blk (w.setRow G e.cells.toArray) G 57 e.cells.toArray := setRow_heap w G cs _ 57 (0, 0) hb
  exact ⟨h1, rfl, rfl, rfl, by simp, fun b _ hn => setRow_other w G b _ (fun e => hn e)⟩
def Lg.entry (g : Lg) (i : Int) : EnV × Bool := match g.at_ i with | some x => (x, true) | none => (env0, false)
set_option maxHeartbeats 8000000 in
theorem rentry_no {w : World} {n c : Nat} {A : Option Addr} {base term i : Int} (hw : IntKind.i64.wrap (base + n) = base + n) (h : i ≤ base ∨ base + n < i) :
    Calls Try.prog 29 #[.agg #[.int .i64 base, .int .i64 term, .slice A n c], .int .i64 i] w fun r w' => r = .returned (.tuple #[en0.val, .bool false]) ∧ Same noB w w' := by
  by_cases h1 : i ≤ base
  · have hd1 : decide (i ≤ base) = true := decide_eq_true h1
    clear h h1
    go_enter Try.func29, Try.ntmps29
    go_upto_region 1 with (fail)
    refine wp_abs (fun W => W.cell? ⟨w.heap.size, 0, none⟩ = some (.int .i64 base) ∧ W.cell? ⟨w.heap.size, 2, none⟩ = some (.slice A n c) ∧ Hid (Blk W (w.heap.size + 1) 57 en0.cells.toArray) ∧ Hid (Same noB w W)) ⟨by go_simp, by go_simp, by have := Blk.new (w.alloc (.cells #[.int .i64 base, .int .i64 term, .slice A n c] 29)) 57 en0.cells.toArray; rw [World.size_alloc] at this; exact this, ((Same.refl _ _).alloc _).alloc _⟩ ?_
    rintro W ⟨d0, d2, HB, HS⟩
    obtain ⟨N, hN⟩ : ∃ N, w.heap.size = N := ⟨_, rfl⟩
    rw [hN] at d0 d2 HB ⊢
    have HB2 := Lib.hid (en_stored HB.out en0)
    go_wp2_with (refine wpList_store_row rfl 57 _ _ rfl (N + 1) en0.cells.toArray rfl rfl 57 _ HB.out (by kernel_rfl) rfl (by kernel_rfl) ?_)
    (try simp only [Exit.inBlock, Exit.then])
    refine bodyPost_ret (res_et rfl HB2.out.1 rfl rfl) rfl ?_
    exact ⟨rfl, HS.out.trans HB2.out.2 (fun b hb hx => by have h3 : b = N + 1 := hx; omega)⟩
  · have h2 : base + n < i := by omega
    have hd1 : decide (i ≤ base) = false := decide_eq_false (by omega)
    have hd2 : decide (base + n < i) = true := decide_eq_true h2
    clear h h1 h2
    go_enter Try.func29, Try.ntmps29
    go_upto_region 1 with (fail)
    refine wp_abs (fun W => W.cell? ⟨w.heap.size, 0, none⟩ = some (.int .i64 base) ∧ W.cell? ⟨w.heap.size, 2, none⟩ = some (.slice A n c) ∧ Hid (Blk W (w.heap.size + 1) 57 en0.cells.toArray) ∧ Hid (Same noB w W)) ⟨by go_simp, by go_simp, by have := Blk.new (w.alloc (.cells #[.int .i64 base, .int .i64 term, .slice A n c] 29)) 57 en0.cells.toArray; rw [World.size_alloc] at this; exact this, ((Same.refl _ _).alloc _).alloc _⟩ ?_
    rintro W ⟨d0, d2, HB, HS⟩
    obtain ⟨N, hN⟩ : ∃ N, w.heap.size = N := ⟨_, rfl⟩
    rw [hN] at d0 d2 HB ⊢
    have HB2 := Lib.hid (en_stored HB.out en0)
    go_wp2_with (refine wpList_store_row rfl 57 _ _ rfl (N + 1) en0.cells.toArray rfl rfl 57 _ HB.out (by kernel_rfl) rfl (by kernel_rfl) ?_)
    (try simp only [Exit.inBlock, Exit.then])
    refine bodyPost_ret (res_et rfl HB2.out.1 rfl rfl) rfl ?_
    exact ⟨rfl, HS.out.trans HB2.out.2 (fun b hb hx => by have h3 : b = N + 1 := hx; omega)⟩
set_option maxHeartbeats 8000000 in
theorem rentry_yes {w : World} {n c k b o : Nat} {base term i : Int} {e : En} (hw : IntKind.i64.wrap (base + n) = base + n) (hw2 : IntKind.i64.wrap (i - base) = (k : Int) + 1) (hw3 : IntKind.i64.wrap (k : Int) = (k : Int)) (hk : k < n) (hi : base < i) (hi2 : i ≤ base + n)
    (p0 : w.cell? ⟨b, o + k * 15, none⟩ = some (.int .i64 e.i))
    (p1 : w.cell? ⟨b, o + k * 15 + 1, none⟩ = some (.int .i64 e.t))
    (p2 : w.cell? ⟨b, o + k * 15 + 2, none⟩ = some (.int .i64 e.c.s.k))
    (p3 : w.cell? ⟨b, o + k * 15 + 3, none⟩ = some (.int .i64 e.c.s.c))
    (p4 : w.cell? ⟨b, o + k * 15 + 4, none⟩ = some (.int .i64 e.c.s.n))
    (p5 : w.cell? ⟨b, o + k * 15 + 5, none⟩ = some (.string e.c.s.b))
    (p6 : w.cell? ⟨b, o + k * 15 + 6, none⟩ = some (.int .i64 e.c.s.g))
    (p7 : w.cell? ⟨b, o + k * 15 + 7, none⟩ = some (.int .i64 e.c.s.s))
    (p8 : w.cell? ⟨b, o + k * 15 + 8, none⟩ = some (.int .i64 e.c.s.ck))
    (p9 : w.cell? ⟨b, o + k * 15 + 9, none⟩ = some (.int .i64 e.c.s.cm))
    (p10 : w.cell? ⟨b, o + k * 15 + 10, none⟩ = some (.slice e.c.f1.addr e.c.f1.len e.c.f1.cap))
    (p11 : w.cell? ⟨b, o + k * 15 + 11, none⟩ = some (.slice e.c.f2.addr e.c.f2.len e.c.f2.cap))
    (p12 : w.cell? ⟨b, o + k * 15 + 12, none⟩ = some (.slice e.c.f3.addr e.c.f3.len e.c.f3.cap))
    (p13 : w.cell? ⟨b, o + k * 15 + 13, none⟩ = some (.slice e.c.f4.addr e.c.f4.len e.c.f4.cap))
    (p14 : w.cell? ⟨b, o + k * 15 + 14, none⟩ = some (.slice e.c.f5.addr e.c.f5.len e.c.f5.cap)) :
    Calls Try.prog 29 #[.agg #[.int .i64 base, .int .i64 term, .slice (some ⟨b, o, none⟩) n c], .int .i64 i] w fun r w' => r = .returned (.tuple #[e.val, .bool true]) ∧ Same noB w w' := by
  have hd1 : decide (i ≤ base) = false := decide_eq_false (by omega)
  have hd2 : decide (base + n < i) = false := decide_eq_false (by omega)
  have HP := Lib.hid (And.intro p0 (And.intro p1 (And.intro p2 (And.intro p3 (And.intro p4 (And.intro p5 (And.intro p6 (And.intro p7 (And.intro p8 (And.intro p9 (And.intro p10 (And.intro p11 (And.intro p12 (And.intro p13 p14))))))))))))))
  clear p0 p1 p2 p3 p4 p5 p6 p7 p8 p9 p10 p11 p12 p13 p14 hi hi2
  have hk0 : (0 : Int) ≤ (k : Int) := by omega
  have hk1 : (k : Int) < (n : Int) := by omega
  clear hk
  go_enter Try.func29, Try.ntmps29
  go_upto_region 1 with (fail)
  refine wp_abs (fun W => W.cell? ⟨w.heap.size, 0, none⟩ = some (.int .i64 base) ∧ W.cell? ⟨w.heap.size, 2, none⟩ = some (.slice (some ⟨b, o, none⟩) n c) ∧ Hid (Blk W (w.heap.size + 1) 57 en0.cells.toArray) ∧ Hid (Same noB w W)) ⟨by go_simp, by go_simp, by have := Blk.new (w.alloc (.cells #[.int .i64 base, .int .i64 term, .slice (some ⟨b, o, none⟩) n c] 29)) 57 en0.cells.toArray; rw [World.size_alloc] at this; exact this, ((Same.refl _ _).alloc _).alloc _⟩ ?_
  rintro W ⟨d0, d2, HB, HS⟩
  obtain ⟨p0, p1, p2, p3, p4, p5, p6, p7, p8, p9, p10, p11, p12, p13, p14⟩ := HP.out
  replace p0 := HS.out.cell p0 (fun x => x)
  replace p1 := HS.out.cell p1 (fun x => x)
  replace p2 := HS.out.cell p2 (fun x => x)
  replace p3 := HS.out.cell p3 (fun x => x)
  replace p4 := HS.out.cell p4 (fun x => x)
  replace p5 := HS.out.cell p5 (fun x => x)
  replace p6 := HS.out.cell p6 (fun x => x)
  replace p7 := HS.out.cell p7 (fun x => x)
  replace p8 := HS.out.cell p8 (fun x => x)
  replace p9 := HS.out.cell p9 (fun x => x)
  replace p10 := HS.out.cell p10 (fun x => x)
  replace p11 := HS.out.cell p11 (fun x => x)
  replace p12 := HS.out.cell p12 (fun x => x)
  replace p13 := HS.out.cell p13 (fun x => x)
  replace p14 := HS.out.cell p14 (fun x => x)
  clear HP
  obtain ⟨N, hN⟩ : ∃ N, w.heap.size = N := ⟨_, rfl⟩
  rw [hN] at d0 d2 HB ⊢
  have HB2 := Lib.hid (en_stored HB.out e)
  go_wp2_with ((refine wpList_store_row rfl 57 _ _ rfl (N + 1) e.cells.toArray rfl rfl 57 _ HB.out (by kernel_rfl) rfl (by kernel_rfl) ?_))
  (try simp only [Exit.inBlock, Exit.then])

  refine bodyPost_ret (res_et rfl HB2.out.1 rfl rfl) rfl ?_
  exact ⟨rfl, HS.out.trans HB2.out.2 (fun b hb hx => by have h3 : b = N + 1 := hx; omega)⟩
theorem rentry_any {w : World} {bad : Nat → Prop} {v : Value} {es : List En} {g : Lg} (h : EnL w bad v es g.es) (hf : g.Fit) {i : Int} (hi : inI64 i) :
    Calls Try.prog 29 #[.agg #[.int .i64 g.base, .int .i64 g.term, v], .int .i64 i] w fun r w' => ∃ e, r = .returned (.tuple #[e.val, .bool (g.entry i).2]) ∧ EnIs w' bad e (g.entry i).1 ∧ Same noB w w' := by
  obtain ⟨A, c, rfl, hc1, hc2, hr⟩ := h.rd.form
  have hl := h.len
  have hfl := hf.len
  have hlo := hf.lo
  have hhi := hf.hi
  have hi1 := hi.2
  have hw : IntKind.i64.wrap (g.base + es.length) = g.base + es.length := IntWalk.i64_in _ (by omega)
  by_cases hin : g.base < i ∧ i ≤ g.base + g.es.length
  · obtain ⟨k, x, rfl, hx⟩ := Lg.at_form hin.1 hin.2
    have hk := (List.getElem?_eq_some_iff.1 hx).1
    obtain ⟨e, he, hie⟩ := h.is.at2 hx
    obtain ⟨b, o, rfl, r⟩ := h.rd.at_ (by omega)
    obtain ⟨p0, p1, p2, p3, p4, p5, p6, p7, p8, p9, p10, p11, p12, p13, p14⟩ := en_at r he
    refine (rentry_yes (term := g.term) hw (k := k) (by rw [IntWalk.i64_in _ (by omega)]; omega) (IntWalk.i64_in _ (by omega)) (by omega) (by omega) (by omega) p0 p1 p2 p3 p4 p5 p6 p7 p8 p9 p10 p11 p12 p13 p14).mono ?_
    rintro r w' ⟨rfl, hs⟩
    have : g.entry (g.base + 1 + k) = (x, true) := by unfold Lg.entry; rw [Lg.at_yes hx]
    rw [this]
    exact ⟨e, rfl, hie.keep hs, hs⟩
  · refine (rentry_no (term := g.term) hw (by omega)).mono ?_
    rintro r w' ⟨rfl, hs⟩
    have : g.entry i = (env0, false) := by unfold Lg.entry; rw [Lg.at_no hin]
    rw [this]
    exact ⟨en0, rfl, en0_is w' bad, hs⟩
theorem Lg.entry_term {g : Lg} {i : Int} (h : i ≠ g.base) : g.termAt i = ((g.entry i).1.t, (g.entry i).2) := by
  unfold Lg.termAt Lg.entry
  rw [if_neg h]
  cases g.at_ i <;> rfl
set_option maxHeartbeats 8000000 in
theorem rterm_any {w : World} {bad : Nat → Prop} {v : Value} {es : List En} {g : Lg} (h : EnL w bad v es g.es) (hf : g.Fit) {i : Int} (hi : inI64 i) :
    Calls Try.prog 28 #[.agg #[.int .i64 g.base, .int .i64 g.term, v], .int .i64 i] w fun r w' => r = .returned (.tuple #[.int .i64 (g.termAt i).1, .bool (g.termAt i).2]) ∧ Same noB w w' := by
  have HZ := Lib.hid (fun (W : World) (hs : Same noB w W) => rentry_any (h.keep hs) hf hi)
  obtain ⟨A, c, rfl, hc1, hc2, hr⟩ := h.rd.form
  clear hr
  by_cases h0 : i = g.base
  · have HT : Hid (g.termAt i = (g.term, true)) := by rw [h0]; exact g.termAt_base
    rw [HT.out]
    have hd : (i == g.base) = true := beq_iff_eq.2 h0
    clear h HZ h0 hf hi
    go_enter Try.func28, Try.ntmps28
    go_upto_region 1 with (fail)
    refine wp_abs (fun W => W.cell? ⟨w.heap.size, 0, none⟩ = some (.int .i64 g.base) ∧ W.cell? ⟨w.heap.size, 1, none⟩ = some (.int .i64 g.term) ∧ Hid (Same noB w W)) ⟨by go_simp, by go_simp, (Same.refl _ _).alloc _⟩ ?_
    rintro W ⟨d0, d1, HS⟩
    go_wp2_with fail
    go_ret2
    exact ⟨rfl, HS.out⟩
  · have HT := Lib.hid (Lg.entry_term (g := g) h0)
    have hd : (i == g.base) = false := beq_eq_false_iff_ne.2 h0
    rw [HT.out]
    clear h h0 hf hi HT
    generalize g.entry i = q at HZ ⊢
    go_enter Try.func28, Try.ntmps28
    go_upto_region 1 with (fail)
    refine wp_abs (fun W => W.cell? ⟨w.heap.size, 0, none⟩ = some (.int .i64 g.base) ∧ W.cell? ⟨w.heap.size, 1, none⟩ = some (.int .i64 g.term) ∧ W.cell? ⟨w.heap.size, 2, none⟩ = some (.slice A es.length c) ∧ Hid (Same noB w W)) ⟨by go_simp, by go_simp, by go_simp, (Same.refl _ _).alloc _⟩ ?_
    rintro W ⟨d0, d1, d2, HS⟩
    obtain ⟨N, hN⟩ : ∃ N, w.heap.size = N := ⟨_, rfl⟩
    rw [hN] at d0 d1 d2 ⊢
    go_wp2_with fail
    (with_reducible refine Calls.mono (HZ.out W HS.out) ?_)
    rintro r W2 ⟨e, rfl, he, hs2⟩
    have HE := Lib.hid he.t
    have HS2 := Lib.hid (HS.out.trans' hs2)
    clear he hs2 HZ HS d0 d1 d2
    have HB2 := Lib.hid (en_stored (Blk.new W2 57 en0.cells.toArray) e)
    go_upto_region 4 with (refine wpList_store_row rfl 57 _ _ rfl W2.heap.size e.cells.toArray rfl rfl 57 _ (Blk.new W2 57 en0.cells.toArray) (by kernel_rfl) rfl (by kernel_rfl) ?_)
    refine wp_abs (fun W3 => W3.cell? ⟨W2.heap.size, 1, none⟩ = some (.int .i64 q.1.t) ∧ Hid (Same noB w W3)) ⟨by rw [← HE.out]; exact HB2.out.1.cell 1, (HS2.out.alloc _).trans HB2.out.2 (fun b hb hx => by have h3 : b = W2.heap.size := hx; have := HS2.out.size; omega)⟩ ?_
    rintro W3 ⟨d1, HS3⟩
    go_wp2_with fail
    go_ret2
    exact ⟨rfl, HS3.out⟩
end Go.Proofs.Ytlocfbjeljgblaa
