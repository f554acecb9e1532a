/- Layer 36: Merge of the reference: its loop. (printed by genRepMB.py) -/
import Derived.Test.YtlocfbjeljgblaaRepMA
namespace Go.Proofs.Ytlocfbjeljgblaa
open Go Go.RowKit
set_option maxRecDepth 100000

theorem addr_add0 (a : Addr) : a.add 0 = a := by
  unfold Addr.add
  cases a with
  | mk b o s => cases s <;> simp
theorem slice_to0 {A : Option Addr} {n c m : Nat} (hm : m ≤ c) (wx : World) : (Instr.slice 27 (.slice A n c) none (some (.int .i64 m)) none).run Try.prog wx = .ok (.slice A m c) wx := by
  rw [run_slice_h (P := Try.prog) (h0 := by omega) (h2 := by omega) (ht := rfl)]
  cases A with
  | none => simp [sliced, go_sem]
  | some a => simp [sliced, go_sem, addr_add0]
theorem rd_take {w : World} {bad : Nat → Prop} {A : Option Addr} {n c m : Nat} {l : List En} (h : Rd w bad 15 (.slice A n c) n (ecells l)) (hn : l.length = n) (hm : m ≤ n) : Rd w bad 15 (.slice A m c) m (ecells (l.take m)) := by
  obtain ⟨A', c', e, h1, h2, h3, h4, h5⟩ := h
  injection e with e1 e2 e3
  subst e1 e3
  rw [← ecells_take l m (by omega)]
  refine ⟨A, c, rfl, by omega, h2, by rw [List.length_take, h3]; omega, h4, fun hp => ?_⟩
  obtain ⟨b, o, hA, r⟩ := h5 (by omega)
  refine ⟨b, o, hA, r.lt, r.ok, fun j u hu => r.cell j u ?_⟩
  rw [List.getElem?_take] at hu
  split at hu
  · exact hu
  · cases hu

set_option maxHeartbeats 8000000 in
theorem rmerge_none {w : World} {bad : Nat → Prop} {c ln lc : Nat} {A L : Option Addr} {base term i t last lt : Int} {es : List En} {vs : List EnV} {p : Int → Int × Bool} (h : EnL w bad (.slice A es.length c) es vs) (hlen : vs.length ≤ 1000) (hw : IntKind.i64.wrap (i + es.length) = i + es.length)
    (hnf : ∀ (j : Nat) (z : EnV), vs[j]? = some z → z.i ≤ base ∨ p z.i = (z.t, true))
    (H60 : Hid (∀ W : World, Same noB w W → Calls Try.prog 60 #[.int .i64 i, .int .i64 t, .slice A es.length c] W fun r w' => r = .returned (.bool true) ∧ Same noB W w')) (H39 : Hid (∀ W : World, Same noB w W → Calls Try.prog 39 #[.agg #[.int .i64 base, .int .i64 term, .slice L ln lc]] W fun r w' => r = .returned (.tuple #[.int .i64 last, .int .i64 lt]) ∧ Same noB W w')) (H61 : Hid (∀ W : World, Same noB w W → Calls Try.prog 61 #[.agg #[.int .i64 base, .int .i64 term, .slice L ln lc], .int .i64 i, .int .i64 t] W fun r w' => r = .returned (.bool true) ∧ Same noB W w')) (H62 : Hid (∀ W : World, Same noB w W → Calls Try.prog 62 #[.agg #[.int .i64 base, .int .i64 term, .slice L ln lc], .slice A es.length c] W fun r w' => r = .returned (.bool false) ∧ Same noB W w'))
    (H28 : Hid (∀ (W : World) (z : EnV), Same noB w W → z ∈ vs → Calls Try.prog 28 #[.agg #[.int .i64 base, .int .i64 term, .slice L ln lc], .int .i64 z.i] W fun r w' => r = .returned (.tuple #[.int .i64 (p z.i).1, .bool (p z.i).2]) ∧ Same noB W w')) :
    Calls Try.prog 42 #[.agg #[.int .i64 base, .int .i64 term, .slice L ln lc], .int .i64 i, .int .i64 t, .slice A es.length c] w fun r w' => r = .returned (.tuple #[.agg #[.int .i64 base, .int .i64 term, .slice L ln lc], .int .i64 (i + es.length), .slice none 0 0, .bool true]) ∧ Same noB w w' := by
  have HL := Lib.hid h.len
  have HLN := Lib.hid hlen
  have HB := Lib.hid h
  have HNF := Lib.hid hnf
  have HW := Lib.hid hw
  have hcaps := h.rd.caps
  clear h hlen hnf hw
  go_enter Try.func42, Try.ntmps42
  go_upto_region 1 with (fail)
  refine wp_abs (fun W => W.cell? ⟨w.heap.size, 0, none⟩ = some (.int .i64 base) ∧ W.cell? ⟨w.heap.size, 1, none⟩ = some (.int .i64 term) ∧ W.cell? ⟨w.heap.size, 2, none⟩ = some (.slice L ln lc) ∧ Hid (Blk W w.heap.size 29 #[.int .i64 base, .int .i64 term, .slice L ln lc] ∧ Blk W (w.heap.size + 1) 29 #[.int .i64 0, .int .i64 0, .slice none 0 0]) ∧ Hid (Same noB w W)) ⟨by go_simp, by go_simp, by go_simp, ⟨(Blk.new w 29 _).alloc _, by have := Blk.new (w.alloc (.cells #[.int .i64 base, .int .i64 term, .slice L ln lc] 29)) 29 #[.int .i64 0, .int .i64 0, .slice none 0 0]; rw [World.size_alloc] at this; exact this⟩, ((Same.refl _ _).alloc _).alloc _⟩ ?_
  rintro W0 ⟨d0, d1, d2, HN, HS⟩
  obtain ⟨N, hN⟩ : ∃ N, w.heap.size = N := ⟨_, rfl⟩
  rw [hN] at d0 d1 d2 HN ⊢
  go_wp2_with fail
  (with_reducible refine Calls.mono (H60.out W0 HS.out) ?_)
  rintro r W1 ⟨rfl, hs1⟩
  replace d0 := hs1.cell d0 (fun x => x)
  replace d1 := hs1.cell d1 (fun x => x)
  replace d2 := hs1.cell d2 (fun x => x)
  replace HN := Lib.hid (And.intro (HN.out.1.same hs1 (fun x => x)) (HN.out.2.same hs1 (fun x => x)))
  replace HS := Lib.hid (HS.out.trans' hs1)
  clear hs1 H60
  go_wp2_with fail
  (with_reducible refine Calls.mono (H39.out W1 HS.out) ?_)
  rintro r W2 ⟨rfl, hs1⟩
  replace d0 := hs1.cell d0 (fun x => x)
  replace d1 := hs1.cell d1 (fun x => x)
  replace d2 := hs1.cell d2 (fun x => x)
  replace HN := Lib.hid (And.intro (HN.out.1.same hs1 (fun x => x)) (HN.out.2.same hs1 (fun x => x)))
  replace HS := Lib.hid (HS.out.trans' hs1)
  clear hs1 H39
  go_wp2_with fail
  (with_reducible refine Calls.mono (H61.out W2 HS.out) ?_)
  rintro r W3 ⟨rfl, hs1⟩
  replace d0 := hs1.cell d0 (fun x => x)
  replace d1 := hs1.cell d1 (fun x => x)
  replace d2 := hs1.cell d2 (fun x => x)
  replace HN := Lib.hid (And.intro (HN.out.1.same hs1 (fun x => x)) (HN.out.2.same hs1 (fun x => x)))
  replace HS := Lib.hid (HS.out.trans' hs1)
  clear hs1 H61
  go_wp2_with fail
  (with_reducible refine Calls.mono (H62.out W3 HS.out) ?_)
  rintro r W4 ⟨rfl, hs1⟩
  replace d0 := hs1.cell d0 (fun x => x)
  replace d1 := hs1.cell d1 (fun x => x)
  replace d2 := hs1.cell d2 (fun x => x)
  replace HN := Lib.hid (And.intro (HN.out.1.same hs1 (fun x => x)) (HN.out.2.same hs1 (fun x => x)))
  replace HS := Lib.hid (HS.out.trans' hs1)
  clear hs1 H62
  go_wp2_with fail
  go_loopg [14] (es.length) (fun gk q wr => ∃ (k : Nat), k ≤ es.length ∧ Hid (gk + k = es.length) ∧ q = .int .i64 k ∧ Hid (Blk wr N 29 #[.int .i64 base, .int .i64 term, .slice L ln lc] ∧ Blk wr (N + 1) 29 #[.int .i64 0, .int .i64 0, .slice none 0 0]) ∧ Hid (Same noB w wr))
  case atStart => exact ⟨0, Nat.zero_le _, rfl, rfl, HN.out, HS.out⟩
  case round =>
    clear HN HS d0 d1 d2
    obtain ⟨k, hk, HK, rfl, HN, HS⟩ := hrel
    by_cases hlt : k < es.length
    · obtain ⟨e, he⟩ : ∃ e, es[k]? = some e := ⟨_, List.getElem?_eq_getElem hlt⟩
      obtain ⟨b, o, rfl, r⟩ := (HB.out.rd.keep HS.out).at_ (by omega)
      obtain ⟨x, hx, hix⟩ := HB.out.is.at_ he
      obtain ⟨p0, p1, p2, p3, p4, p5, p6, p7, p8, p9, p10, p11, p12, p13, p14⟩ := en_at r he
      have HX := Lib.hid (And.intro hix.i hix.t)
      have HY := Lib.hid hx
      have hbl := HLN.out
      have hbl2 := HL.out
      have hbl3 : es.length ≤ 100000 := by omega
      have hi0 : (0 : Int) ≤ (k : Int) := by omega
      have hi1 : (k : Int) < (es.length : Int) := by omega
      have HB5 := Lib.hid (row_stored (Blk.new wr 57 en0.cells.toArray) e.cells.toArray)
      clear r he hx hix hbl hbl2
      go_upto_region 10 with (refine wpList_store_row rfl 57 _ _ rfl wr.heap.size e.cells.toArray rfl rfl 57 _ (Blk.new wr 57 en0.cells.toArray) (by kernel_rfl) rfl (by kernel_rfl) ?_)
      have hnb : ∀ {g : Nat} {cs : Array Value}, Blk wr g 29 cs → Blk ((wr.alloc (.cells en0.cells.toArray 57)).setRow wr.heap.size e.cells.toArray) g 29 cs := fun {g cs} hb => (hb.alloc _).same HB5.out.2 (fun hx => by
        have h3 : g = wr.heap.size := hx
        have h4 := hb.lt
        omega)
      refine wp_abs (fun W => W.cell? ⟨wr.heap.size, 0, none⟩ = some (.int .i64 x.i) ∧ W.cell? ⟨wr.heap.size, 1, none⟩ = some (.int .i64 x.t) ∧ Hid (Blk W N 29 #[.int .i64 base, .int .i64 term, .slice L ln lc] ∧ Blk W (N + 1) 29 #[.int .i64 0, .int .i64 0, .slice none 0 0]) ∧ Hid (Same noB w W)) ⟨by rw [← HX.out.1]; exact HB5.out.1.cell 0, by rw [← HX.out.2]; exact HB5.out.1.cell 1, ⟨hnb HN.out.1, hnb HN.out.2⟩, (HS.out.alloc _).trans HB5.out.2 (fun b hb hx => by have h3 : b = wr.heap.size := hx; have := HS.out.size; omega)⟩ ?_
      clear p0 p1 p2 p3 p4 p5 p6 p7 p8 p9 p10 p11 p12 p13 p14 HB5 HS HN hnb
      rintro W ⟨q0, q1, HN, HS⟩
      obtain ⟨E, hE⟩ : ∃ E, wr.heap.size = E := ⟨_, rfl⟩
      rw [hE] at q0 q1 ⊢
      clear hE HX
      have d0 := HN.out.1.cell 0
      have d1 := HN.out.1.cell 1
      have d2 := HN.out.1.cell 2
      simp only [List.getElem?_toArray, List.getElem?_cons_zero, List.getElem?_cons_succ] at d0 d1 d2
      by_cases h3 : x.i ≤ base
      · have d3 : decide (x.i ≤ base) = true := decide_eq_true h3
        clear h3
        go_wp2_with fail
        go_roundg (gk - 1)
        case measure => have h1 := HK.out; omega
        case rel => exact ⟨k + 1, by omega, by show _ = _; have h1 := HK.out; omega, by go_num, HN.out, HS.out⟩
      · have d3 : decide (x.i ≤ base) = false := decide_eq_false h3
        have hp : p x.i = (x.t, true) := (HNF.out k x HY.out).resolve_left h3
        have HT := H28.out W x HS.out (List.mem_of_getElem? HY.out)
        rw [hp] at HT
        clear h3 hp
        go_wp2_with fail
        (with_reducible refine Calls.mono HT ?_)
        clear HT
        rintro r W5 ⟨rfl, hs1⟩
        replace d0 := hs1.cell d0 (fun x => x)
        replace d1 := hs1.cell d1 (fun x => x)
        replace d2 := hs1.cell d2 (fun x => x)
        replace q0 := hs1.cell q0 (fun x => x)
        replace q1 := hs1.cell q1 (fun x => x)
        replace HN := Lib.hid (And.intro (HN.out.1.same hs1 (fun x => x)) (HN.out.2.same hs1 (fun x => x)))
        replace HS := Lib.hid (HS.out.trans' hs1)
        clear hs1
        go_wp2_with fail
        go_roundg (gk - 1)
        case measure => have h1 := HK.out; omega
        case rel => exact ⟨k + 1, by omega, by show _ = _; have h1 := HK.out; omega, by go_num, HN.out, HS.out⟩
    · obtain rfl : k = es.length := by omega
      have d0 := HN.out.1.cell 0
      have d1 := HN.out.1.cell 1
      have d2 := HN.out.1.cell 2
      simp only [List.getElem?_toArray, List.getElem?_cons_zero, List.getElem?_cons_succ] at d0 d1 d2
      have HB7 := Lib.hid (row_stored HN.out.2 #[.int .i64 base, .int .i64 term, .slice L ln lc])
      have hw := HW.out
      go_wp2_with (refine wpList_store_row rfl 29 _ _ rfl (N + 1) #[.int .i64 base, .int .i64 term, .slice L ln lc] rfl rfl 29 _ HN.out.2 (by kernel_rfl) rfl (row29_one base term L ln lc) ?_)
      (try simp only [Exit.inBlock, Exit.then])
      refine bodyPost_ret (res_cttt rfl HB7.out.1 rfl rfl rfl rfl) rfl ?_
      exact ⟨rfl, HS.out.trans HB7.out.2 (fun b hb hx => by have h3 : b = N + 1 := hx; omega)⟩

set_option maxHeartbeats 8000000 in
theorem rmerge_yes {w : World} {bad : Nat → Prop} {c ln lc k0 m n2 c2 : Nat} {A A2 L : Option Addr} {base term i t last lt : Int} {es ls fs : List En} {vs : List EnV} {p : Int → Int × Bool} (h : EnL w bad (.slice A es.length c) es vs) (hlen : vs.length ≤ 1000) (hw : IntKind.i64.wrap (i + es.length) = i + es.length)
    (hk0 : k0 < es.length) (hnf : ∀ (j : Nat) (z : EnV), j < k0 → vs[j]? = some z → z.i ≤ base ∨ p z.i = (z.t, true))
    (hfr : ∀ z : EnV, vs[k0]? = some z → base < z.i ∧ ((p z.i).2 = false ∨ (p z.i).1 ≠ z.t) ∧ IntKind.i64.wrap (z.i - base) = (m : Int) + 1) (hm2 : IntKind.i64.wrap (m : Int) = (m : Int))
    (hsl1 : ∀ wx, (Instr.slice 27 (.slice A es.length c) (some (.int .i64 k0)) none none).run Try.prog wx = .ok (.slice A2 n2 c2) wx) (hsl2 : ∀ wx, (Instr.slice 27 (.slice L ln lc) none (some (.int .i64 m)) none).run Try.prog wx = .ok (.slice L m lc) wx)
    (hr1 : Rd w bad 15 (.slice A2 n2 c2) n2 (ecells fs)) (hr2 : Rd w bad 15 (.slice L m lc) m (ecells ls)) (hn2 : n2 ≤ 1000) (hmm : m ≤ 100000)
    (H60 : Hid (∀ W : World, Same noB w W → Calls Try.prog 60 #[.int .i64 i, .int .i64 t, .slice A es.length c] W fun r w' => r = .returned (.bool true) ∧ Same noB W w')) (H39 : Hid (∀ W : World, Same noB w W → Calls Try.prog 39 #[.agg #[.int .i64 base, .int .i64 term, .slice L ln lc]] W fun r w' => r = .returned (.tuple #[.int .i64 last, .int .i64 lt]) ∧ Same noB W w')) (H61 : Hid (∀ W : World, Same noB w W → Calls Try.prog 61 #[.agg #[.int .i64 base, .int .i64 term, .slice L ln lc], .int .i64 i, .int .i64 t] W fun r w' => r = .returned (.bool true) ∧ Same noB W w')) (H62 : Hid (∀ W : World, Same noB w W → Calls Try.prog 62 #[.agg #[.int .i64 base, .int .i64 term, .slice L ln lc], .slice A es.length c] W fun r w' => r = .returned (.bool false) ∧ Same noB W w'))
    (H28 : Hid (∀ (W : World) (z : EnV), Same noB w W → z ∈ vs → Calls Try.prog 28 #[.agg #[.int .i64 base, .int .i64 term, .slice L ln lc], .int .i64 z.i] W fun r w' => r = .returned (.tuple #[.int .i64 (p z.i).1, .bool (p z.i).2]) ∧ Same noB W w')) :
    Calls Try.prog 42 #[.agg #[.int .i64 base, .int .i64 term, .slice L ln lc], .int .i64 i, .int .i64 t, .slice A es.length c] w fun r w' => ∃ A3 c3 O oc, r = .returned (.tuple #[.agg #[.int .i64 base, .int .i64 term, .slice A3 (m + n2) c3], .int .i64 (i + es.length), .slice O n2 oc, .bool true]) ∧
      AppAt w w' (.slice A3 (m + n2) c3) (m + n2) 57 15 (ecells ls ++ ecells fs) ∧ AppAt w w' (.slice O n2 oc) n2 57 15 (ecells fs) := by
  have HL := Lib.hid h.len
  have HLN := Lib.hid hlen
  have HB := Lib.hid h
  have HNF := Lib.hid hnf
  have HFR := Lib.hid hfr
  have HW := Lib.hid hw
  have HR1 := Lib.hid hr1
  have HR2 := Lib.hid hr2
  have HM2 := Lib.hid hm2
  have hcaps := h.rd.caps
  clear h hlen hnf hw hfr hr1 hr2 hm2
  go_enter Try.func42, Try.ntmps42
  go_upto_region 1 with (fail)
  refine wp_abs (fun W => W.cell? ⟨w.heap.size, 0, none⟩ = some (.int .i64 base) ∧ W.cell? ⟨w.heap.size, 1, none⟩ = some (.int .i64 term) ∧ W.cell? ⟨w.heap.size, 2, none⟩ = some (.slice L ln lc) ∧ Hid (Blk W w.heap.size 29 #[.int .i64 base, .int .i64 term, .slice L ln lc] ∧ Blk W (w.heap.size + 1) 29 #[.int .i64 0, .int .i64 0, .slice none 0 0]) ∧ Hid (Same noB w W)) ⟨by go_simp, by go_simp, by go_simp, ⟨(Blk.new w 29 _).alloc _, by have := Blk.new (w.alloc (.cells #[.int .i64 base, .int .i64 term, .slice L ln lc] 29)) 29 #[.int .i64 0, .int .i64 0, .slice none 0 0]; rw [World.size_alloc] at this; exact this⟩, ((Same.refl _ _).alloc _).alloc _⟩ ?_
  rintro W0 ⟨d0, d1, d2, HN, HS⟩
  obtain ⟨N, hN⟩ : ∃ N, w.heap.size = N := ⟨_, rfl⟩
  rw [hN] at d0 d1 d2 HN ⊢
  go_wp2_with fail
  (with_reducible refine Calls.mono (H60.out W0 HS.out) ?_)
  rintro r W1 ⟨rfl, hs1⟩
  replace d0 := hs1.cell d0 (fun x => x)
  replace d1 := hs1.cell d1 (fun x => x)
  replace d2 := hs1.cell d2 (fun x => x)
  replace HN := Lib.hid (And.intro (HN.out.1.same hs1 (fun x => x)) (HN.out.2.same hs1 (fun x => x)))
  replace HS := Lib.hid (HS.out.trans' hs1)
  clear hs1 H60
  go_wp2_with fail
  (with_reducible refine Calls.mono (H39.out W1 HS.out) ?_)
  rintro r W2 ⟨rfl, hs1⟩
  replace d0 := hs1.cell d0 (fun x => x)
  replace d1 := hs1.cell d1 (fun x => x)
  replace d2 := hs1.cell d2 (fun x => x)
  replace HN := Lib.hid (And.intro (HN.out.1.same hs1 (fun x => x)) (HN.out.2.same hs1 (fun x => x)))
  replace HS := Lib.hid (HS.out.trans' hs1)
  clear hs1 H39
  go_wp2_with fail
  (with_reducible refine Calls.mono (H61.out W2 HS.out) ?_)
  rintro r W3 ⟨rfl, hs1⟩
  replace d0 := hs1.cell d0 (fun x => x)
  replace d1 := hs1.cell d1 (fun x => x)
  replace d2 := hs1.cell d2 (fun x => x)
  replace HN := Lib.hid (And.intro (HN.out.1.same hs1 (fun x => x)) (HN.out.2.same hs1 (fun x => x)))
  replace HS := Lib.hid (HS.out.trans' hs1)
  clear hs1 H61
  go_wp2_with fail
  (with_reducible refine Calls.mono (H62.out W3 HS.out) ?_)
  rintro r W4 ⟨rfl, hs1⟩
  replace d0 := hs1.cell d0 (fun x => x)
  replace d1 := hs1.cell d1 (fun x => x)
  replace d2 := hs1.cell d2 (fun x => x)
  replace HN := Lib.hid (And.intro (HN.out.1.same hs1 (fun x => x)) (HN.out.2.same hs1 (fun x => x)))
  replace HS := Lib.hid (HS.out.trans' hs1)
  clear hs1 H62
  go_wp2_with fail
  go_loopg [14] (k0) (fun gk q wr => ∃ (k : Nat), k ≤ k0 ∧ Hid (gk + k = k0) ∧ q = .int .i64 k ∧ Hid (Blk wr N 29 #[.int .i64 base, .int .i64 term, .slice L ln lc] ∧ Blk wr (N + 1) 29 #[.int .i64 0, .int .i64 0, .slice none 0 0]) ∧ Hid (Same noB w wr))
  case atStart => exact ⟨0, Nat.zero_le _, rfl, rfl, HN.out, HS.out⟩
  case round =>
    clear HN HS d0 d1 d2
    obtain ⟨k, hk, HK, rfl, HN, HS⟩ := hrel
    obtain ⟨e, he⟩ : ∃ e, es[k]? = some e := ⟨_, List.getElem?_eq_getElem (by omega)⟩
    obtain ⟨b, o, rfl, r⟩ := (HB.out.rd.keep HS.out).at_ (by omega)
    obtain ⟨x, hx, hix⟩ := HB.out.is.at_ he
    obtain ⟨p0, p1, p2, p3, p4, p5, p6, p7, p8, p9, p10, p11, p12, p13, p14⟩ := en_at r he
    have HX := Lib.hid (And.intro hix.i hix.t)
    have HY := Lib.hid hx
    have hbl := HLN.out
    have hbl2 := HL.out
    have hbl3 : es.length ≤ 100000 := by omega
    have hi0 : (0 : Int) ≤ (k : Int) := by omega
    have hi1 : (k : Int) < (es.length : Int) := by omega
    have HB5 := Lib.hid (row_stored (Blk.new wr 57 en0.cells.toArray) e.cells.toArray)
    clear r he hx hix hbl hbl2
    go_upto_region 10 with (refine wpList_store_row rfl 57 _ _ rfl wr.heap.size e.cells.toArray rfl rfl 57 _ (Blk.new wr 57 en0.cells.toArray) (by kernel_rfl) rfl (by kernel_rfl) ?_)
    have hnb : ∀ {g : Nat} {cs : Array Value}, Blk wr g 29 cs → Blk ((wr.alloc (.cells en0.cells.toArray 57)).setRow wr.heap.size e.cells.toArray) g 29 cs := fun {g cs} hb => (hb.alloc _).same HB5.out.2 (fun hx => by
      have h3 : g = wr.heap.size := hx
      have h4 := hb.lt
      omega)
    refine wp_abs (fun W => W.cell? ⟨wr.heap.size, 0, none⟩ = some (.int .i64 x.i) ∧ W.cell? ⟨wr.heap.size, 1, none⟩ = some (.int .i64 x.t) ∧ Hid (Blk W N 29 #[.int .i64 base, .int .i64 term, .slice L ln lc] ∧ Blk W (N + 1) 29 #[.int .i64 0, .int .i64 0, .slice none 0 0]) ∧ Hid (Same noB w W)) ⟨by rw [← HX.out.1]; exact HB5.out.1.cell 0, by rw [← HX.out.2]; exact HB5.out.1.cell 1, ⟨hnb HN.out.1, hnb HN.out.2⟩, (HS.out.alloc _).trans HB5.out.2 (fun b hb hx => by have h3 : b = wr.heap.size := hx; have := HS.out.size; omega)⟩ ?_
    clear p0 p1 p2 p3 p4 p5 p6 p7 p8 p9 p10 p11 p12 p13 p14 HB5 HS HN hnb
    rintro W ⟨q0, q1, HN, HS⟩
    obtain ⟨E, hE⟩ : ∃ E, wr.heap.size = E := ⟨_, rfl⟩
    rw [hE] at q0 q1 ⊢
    clear hE HX
    have d0 := HN.out.1.cell 0
    have d1 := HN.out.1.cell 1
    have d2 := HN.out.1.cell 2
    simp only [List.getElem?_toArray, List.getElem?_cons_zero, List.getElem?_cons_succ] at d0 d1 d2
    by_cases hlt : k < k0
    · by_cases h3 : x.i ≤ base
      · have d3 : decide (x.i ≤ base) = true := decide_eq_true h3
        clear h3
        go_wp2_with fail
        go_roundg (gk - 1)
        case measure => have h1 := HK.out; omega
        case rel => exact ⟨k + 1, by omega, by show _ = _; have h1 := HK.out; omega, by go_num, HN.out, HS.out⟩
      · have d3 : decide (x.i ≤ base) = false := decide_eq_false h3
        have hp : p x.i = (x.t, true) := (HNF.out k x hlt HY.out).resolve_left h3
        have HT := H28.out W x HS.out (List.mem_of_getElem? HY.out)
        rw [hp] at HT
        clear h3 hp
        go_wp2_with fail
        (with_reducible refine Calls.mono HT ?_)
        clear HT
        rintro r W5 ⟨rfl, hs1⟩
        replace d0 := hs1.cell d0 (fun x => x)
        replace d1 := hs1.cell d1 (fun x => x)
        replace d2 := hs1.cell d2 (fun x => x)
        replace q0 := hs1.cell q0 (fun x => x)
        replace q1 := hs1.cell q1 (fun x => x)
        replace HN := Lib.hid (And.intro (HN.out.1.same hs1 (fun x => x)) (HN.out.2.same hs1 (fun x => x)))
        replace HS := Lib.hid (HS.out.trans' hs1)
        clear hs1
        go_wp2_with fail
        go_roundg (gk - 1)
        case measure => have h1 := HK.out; omega
        case rel => exact ⟨k + 1, by omega, by show _ = _; have h1 := HK.out; omega, by go_num, HN.out, HS.out⟩
    · obtain rfl : k = k0 := by omega
      obtain ⟨h3, h4, h5⟩ := HFR.out x HY.out
      have d3 : decide (x.i ≤ base) = false := decide_eq_false (by omega)
      have HM1 := Lib.hid h5
      have HT := H28.out W x HS.out (List.mem_of_getElem? HY.out)
      clear h3 h5
      obtain ⟨⟨tt, qq⟩, hpp⟩ : ∃ y, p x.i = y := ⟨_, rfl⟩
      rw [hpp] at HT h4
      cases qq with
      | false =>
        clear h4
        go_wp2_with fail
        (with_reducible refine Calls.mono HT ?_)
        clear HT
        rintro r W5 ⟨rfl, hs1⟩
        replace d0 := hs1.cell d0 (fun x => x)
        replace d1 := hs1.cell d1 (fun x => x)
        replace d2 := hs1.cell d2 (fun x => x)
        replace q0 := hs1.cell q0 (fun x => x)
        replace q1 := hs1.cell q1 (fun x => x)
        replace HN := Lib.hid (And.intro (HN.out.1.same hs1 (fun x => x)) (HN.out.2.same hs1 (fun x => x)))
        replace HS := Lib.hid (HS.out.trans' hs1)
        clear hs1
        have hne : W5.heap.size ≠ N := by have := HN.out.1.lt; omega
        go_upto_region 14 with (at_builtin; refine wpL_app slE rfl _ _ rfl rfl (own_lit W5 57 15) rfl (HR1.out.keep (HS.out.alloc _)) (ecells_one _) (by omega) (Nat.zero_le _) ?_; intro F cf W6 hown6 hgrow6 hat6 _; rw [Nat.zero_add, List.nil_append] at hown6; have HF := Lib.hid ((AppAt.lit W5 57 15).next hgrow6 (by rw [Nat.zero_add] at hat6; exact hat6) hown6); rw [Nat.zero_add]; clear hown6 hgrow6 hat6)
        have HN2 := Lib.hid (HN.out.1.same HF.out.since (fun x => x))
        have HB2 := Lib.hid (HN.out.2.same HF.out.since (fun x => x))
        have HS3 := Lib.hid (HS.out.trans' HF.out.since)
        have e0 : (W6.alloc (.cells #[] 57)).cell? ⟨N, 0, none⟩ = some (.int .i64 base) := (HN2.out.alloc _).cell 0
        have e2 : (W6.alloc (.cells #[] 57)).cell? ⟨N, 2, none⟩ = some (.slice L ln lc) := (HN2.out.alloc _).cell 2
        have eE : (W6.alloc (.cells #[] 57)).cell? ⟨E, 0, none⟩ = some (.int .i64 x.i) := (HF.out.since.alloc _).cell q0 (fun x => x)
        have hneE : W6.heap.size ≠ E := by have h3 := World.block_lt_of_cell? W5 _ q0; have h4 := HF.out.since.size; simp only at h3; omega
        have hne6 : W6.heap.size ≠ N := by have := HN2.out.lt; omega
        have hm1 := HM1.out
        have hm2 := HM2.out
        clear q0 q1 d0 d1 d2 hne
        go_upto_region 15 with (first | (at_builtin; refine wpL_app slE rfl _ _ rfl rfl (own_lit W6 57 15) rfl (HR2.out.keep (HS3.out.alloc _)) (ecells_one _) (by omega) (Nat.zero_le _) ?_; intro A3 c3 W7 hown3 hgrow3 hat3 _; rw [Nat.zero_add, List.nil_append] at hown3; have HA3 := Lib.hid ((AppAt.lit W6 57 15).next hgrow3 (by rw [Nat.zero_add] at hat3; exact hat3) hown3); rw [Nat.zero_add]; clear hown3 hgrow3 hat3) | (at_builtin; refine wpL_app slE rfl _ _ rfl rfl HA3.out.own rfl ((HF.out.rd (bad := noB) (fun _ x => x.elim)).keep HA3.out.since) (ecells_one _) (by omega) (Nat.zero_le _) ?_; intro A5 c5 W8 hown5 hgrow5 hat5 _; have HA5 := Lib.hid (HA3.out.next hgrow5 hat5 hown5); have HN5 := Lib.hid (HN2.out.same HA5.out.since (fun x => x)); have f2 := HN5.out.frozen 2; have g0 : W8.cell? ⟨N, 0, none⟩ = some (.int .i64 base) := HN5.out.cell 0; have g1 : W8.cell? ⟨N, 1, none⟩ = some (.int .i64 term) := HN5.out.cell 1; have g2 : W8.cell? ⟨N, 2, none⟩ = some (.slice L ln lc) := HN5.out.cell 2; clear hown5 hgrow5 hat5))
        refine wp_abs (fun W9 => W9.cell? ⟨N, 0, none⟩ = some (.int .i64 base) ∧ W9.cell? ⟨N, 1, none⟩ = some (.int .i64 term) ∧ W9.cell? ⟨N, 2, none⟩ = some (.slice A5 (m + n2) c5) ∧ Hid (Blk W9 (N + 1) 29 #[.int .i64 0, .int .i64 0, .slice none 0 0]) ∧ Hid (AppAt w W9 (.slice A5 (m + n2) c5) (m + n2) 57 15 (ecells ls ++ ecells fs) ∧ AppAt w W9 (.slice F n2 cf) n2 57 15 (ecells fs) ∧ (∀ b, (Value.slice A5 (m + n2) c5).ownBlock = some b → N + 1 < b) ∧ ∀ b, (Value.slice F n2 cf).ownBlock = some b → N + 1 < b)) ?_ ?_
        · have hb := HN5.out.set_ 2 (.slice A5 (m + n2) c5)
          have hs := (Same.refl (oneB N) W8).set1 2 (.slice A5 (m + n2) c5)
          have hl := HN.out.2.lt
          have hl3 := HB2.out.lt
          have hz5 : ∀ b, (Value.slice A5 (m + n2) c5).ownBlock = some b → N + 1 < b := fun b hb => by have := HA5.out.new b hb; omega
          have hz2 : ∀ b, (Value.slice F n2 cf).ownBlock = some b → N + 1 < b := fun b hb => by have := HF.out.new b hb; omega
          have hall : Same noB w (W8.setCell ⟨N, 2, none⟩ (.slice A5 (m + n2) c5)) := (HS3.out.trans' HA5.out.since).trans hs (fun b hb hx => by have h3 : b = N := hx; omega)
          exact ⟨hb.cell 0, hb.cell 1, hb.cell 2, (HB2.out.same HA5.out.since (fun x => x)).same hs (fun e => by have h3 : N + 1 = N := e; omega), ⟨own_same HA5.out.own hs (fun b hb hx => by have h3 : b = N := hx; have := hz5 b hb; omega), fun b hb => Nat.le_trans HS3.out.size (HA5.out.new b hb), hall⟩, ⟨own_same (HF.out.keep HA5.out.since).own hs (fun b hb hx => by have h3 : b = N := hx; have := hz2 b hb; omega), fun b hb => Nat.le_trans HS.out.size (HF.out.new b hb), hall⟩, hz5, hz2⟩
        · rintro W9 ⟨d0, d1, d2, HB6, HA6⟩
          have HB7 := Lib.hid (row_stored HB6.out #[.int .i64 base, .int .i64 term, .slice A5 (m + n2) c5])
          have hw := HW.out
          clear HA3 HF HA5 HN2 HB2 HN5 f2 g0 g1 g2 e0 e2 eE HN HS HS3 hm1 hm2
          go_wp2_with (refine wpList_store_row rfl 29 _ _ rfl (N + 1) #[.int .i64 base, .int .i64 term, .slice A5 (m + n2) c5] rfl rfl 29 _ HB6.out (by kernel_rfl) rfl (row29_one base term A5 (m + n2) c5) ?_)
          (try simp only [Exit.inBlock, Exit.then])
          refine bodyPost_ret (res_cttt rfl HB7.out.1 rfl rfl rfl rfl) rfl ?_
          have hf : ∀ b, b < w.heap.size → oneB (N + 1) b → noB b := fun b hb hx => by have h3 : b = N + 1 := hx; omega
          exact ⟨A5, c5, F, cf, rfl, ⟨own_same HA6.out.1.own HB7.out.2 (fun b hb hx => by have h3 : b = N + 1 := hx; have := HA6.out.2.2.1 b hb; omega), HA6.out.1.new, HA6.out.1.since.trans HB7.out.2 hf⟩, ⟨own_same HA6.out.2.1.own HB7.out.2 (fun b hb hx => by have h3 : b = N + 1 := hx; have := HA6.out.2.2.2 b hb; omega), HA6.out.2.1.new, HA6.out.2.1.since.trans HB7.out.2 hf⟩⟩
      | true =>
        have d4 : (tt == x.t) = false := beq_eq_false_iff_ne.2 (h4.resolve_left (by simp))
        clear h4
        go_wp2_with fail
        (with_reducible refine Calls.mono HT ?_)
        clear HT
        rintro r W5 ⟨rfl, hs1⟩
        replace d0 := hs1.cell d0 (fun x => x)
        replace d1 := hs1.cell d1 (fun x => x)
        replace d2 := hs1.cell d2 (fun x => x)
        replace q0 := hs1.cell q0 (fun x => x)
        replace q1 := hs1.cell q1 (fun x => x)
        replace HN := Lib.hid (And.intro (HN.out.1.same hs1 (fun x => x)) (HN.out.2.same hs1 (fun x => x)))
        replace HS := Lib.hid (HS.out.trans' hs1)
        clear hs1
        have hne : W5.heap.size ≠ N := by have := HN.out.1.lt; omega
        go_upto_region 14 with (at_builtin; refine wpL_app slE rfl _ _ rfl rfl (own_lit W5 57 15) rfl (HR1.out.keep (HS.out.alloc _)) (ecells_one _) (by omega) (Nat.zero_le _) ?_; intro F cf W6 hown6 hgrow6 hat6 _; rw [Nat.zero_add, List.nil_append] at hown6; have HF := Lib.hid ((AppAt.lit W5 57 15).next hgrow6 (by rw [Nat.zero_add] at hat6; exact hat6) hown6); rw [Nat.zero_add]; clear hown6 hgrow6 hat6)
        have HN2 := Lib.hid (HN.out.1.same HF.out.since (fun x => x))
        have HB2 := Lib.hid (HN.out.2.same HF.out.since (fun x => x))
        have HS3 := Lib.hid (HS.out.trans' HF.out.since)
        have e0 : (W6.alloc (.cells #[] 57)).cell? ⟨N, 0, none⟩ = some (.int .i64 base) := (HN2.out.alloc _).cell 0
        have e2 : (W6.alloc (.cells #[] 57)).cell? ⟨N, 2, none⟩ = some (.slice L ln lc) := (HN2.out.alloc _).cell 2
        have eE : (W6.alloc (.cells #[] 57)).cell? ⟨E, 0, none⟩ = some (.int .i64 x.i) := (HF.out.since.alloc _).cell q0 (fun x => x)
        have hneE : W6.heap.size ≠ E := by have h3 := World.block_lt_of_cell? W5 _ q0; have h4 := HF.out.since.size; simp only at h3; omega
        have hne6 : W6.heap.size ≠ N := by have := HN2.out.lt; omega
        have hm1 := HM1.out
        have hm2 := HM2.out
        clear q0 q1 d0 d1 d2 hne
        go_upto_region 15 with (first | (at_builtin; refine wpL_app slE rfl _ _ rfl rfl (own_lit W6 57 15) rfl (HR2.out.keep (HS3.out.alloc _)) (ecells_one _) (by omega) (Nat.zero_le _) ?_; intro A3 c3 W7 hown3 hgrow3 hat3 _; rw [Nat.zero_add, List.nil_append] at hown3; have HA3 := Lib.hid ((AppAt.lit W6 57 15).next hgrow3 (by rw [Nat.zero_add] at hat3; exact hat3) hown3); rw [Nat.zero_add]; clear hown3 hgrow3 hat3) | (at_builtin; refine wpL_app slE rfl _ _ rfl rfl HA3.out.own rfl ((HF.out.rd (bad := noB) (fun _ x => x.elim)).keep HA3.out.since) (ecells_one _) (by omega) (Nat.zero_le _) ?_; intro A5 c5 W8 hown5 hgrow5 hat5 _; have HA5 := Lib.hid (HA3.out.next hgrow5 hat5 hown5); have HN5 := Lib.hid (HN2.out.same HA5.out.since (fun x => x)); have f2 := HN5.out.frozen 2; have g0 : W8.cell? ⟨N, 0, none⟩ = some (.int .i64 base) := HN5.out.cell 0; have g1 : W8.cell? ⟨N, 1, none⟩ = some (.int .i64 term) := HN5.out.cell 1; have g2 : W8.cell? ⟨N, 2, none⟩ = some (.slice L ln lc) := HN5.out.cell 2; clear hown5 hgrow5 hat5))
        refine wp_abs (fun W9 => W9.cell? ⟨N, 0, none⟩ = some (.int .i64 base) ∧ W9.cell? ⟨N, 1, none⟩ = some (.int .i64 term) ∧ W9.cell? ⟨N, 2, none⟩ = some (.slice A5 (m + n2) c5) ∧ Hid (Blk W9 (N + 1) 29 #[.int .i64 0, .int .i64 0, .slice none 0 0]) ∧ Hid (AppAt w W9 (.slice A5 (m + n2) c5) (m + n2) 57 15 (ecells ls ++ ecells fs) ∧ AppAt w W9 (.slice F n2 cf) n2 57 15 (ecells fs) ∧ (∀ b, (Value.slice A5 (m + n2) c5).ownBlock = some b → N + 1 < b) ∧ ∀ b, (Value.slice F n2 cf).ownBlock = some b → N + 1 < b)) ?_ ?_
        · have hb := HN5.out.set_ 2 (.slice A5 (m + n2) c5)
          have hs := (Same.refl (oneB N) W8).set1 2 (.slice A5 (m + n2) c5)
          have hl := HN.out.2.lt
          have hl3 := HB2.out.lt
          have hz5 : ∀ b, (Value.slice A5 (m + n2) c5).ownBlock = some b → N + 1 < b := fun b hb => by have := HA5.out.new b hb; omega
          have hz2 : ∀ b, (Value.slice F n2 cf).ownBlock = some b → N + 1 < b := fun b hb => by have := HF.out.new b hb; omega
          have hall : Same noB w (W8.setCell ⟨N, 2, none⟩ (.slice A5 (m + n2) c5)) := (HS3.out.trans' HA5.out.since).trans hs (fun b hb hx => by have h3 : b = N := hx; omega)
          exact ⟨hb.cell 0, hb.cell 1, hb.cell 2, (HB2.out.same HA5.out.since (fun x => x)).same hs (fun e => by have h3 : N + 1 = N := e; omega), ⟨own_same HA5.out.own hs (fun b hb hx => by have h3 : b = N := hx; have := hz5 b hb; omega), fun b hb => Nat.le_trans HS3.out.size (HA5.out.new b hb), hall⟩, ⟨own_same (HF.out.keep HA5.out.since).own hs (fun b hb hx => by have h3 : b = N := hx; have := hz2 b hb; omega), fun b hb => Nat.le_trans HS.out.size (HF.out.new b hb), hall⟩, hz5, hz2⟩
        · rintro W9 ⟨d0, d1, d2, HB6, HA6⟩
          have HB7 := Lib.hid (row_stored HB6.out #[.int .i64 base, .int .i64 term, .slice A5 (m + n2) c5])
          have hw := HW.out
          clear HA3 HF HA5 HN2 HB2 HN5 f2 g0 g1 g2 e0 e2 eE HN HS HS3 hm1 hm2
          go_wp2_with (refine wpList_store_row rfl 29 _ _ rfl (N + 1) #[.int .i64 base, .int .i64 term, .slice A5 (m + n2) c5] rfl rfl 29 _ HB6.out (by kernel_rfl) rfl (row29_one base term A5 (m + n2) c5) ?_)
          (try simp only [Exit.inBlock, Exit.then])
          refine bodyPost_ret (res_cttt rfl HB7.out.1 rfl rfl rfl rfl) rfl ?_
          have hf : ∀ b, b < w.heap.size → oneB (N + 1) b → noB b := fun b hb hx => by have h3 : b = N + 1 := hx; omega
          exact ⟨A5, c5, F, cf, rfl, ⟨own_same HA6.out.1.own HB7.out.2 (fun b hb hx => by have h3 : b = N + 1 := hx; have := HA6.out.2.2.1 b hb; omega), HA6.out.1.new, HA6.out.1.since.trans HB7.out.2 hf⟩, ⟨own_same HA6.out.2.1.own HB7.out.2 (fun b hb hx => by have h3 : b = N + 1 := hx; have := HA6.out.2.2.2 b hb; omega), HA6.out.2.1.new, HA6.out.2.1.since.trans HB7.out.2 hf⟩⟩

theorem Lg.fresh_no {g : Lg} {i t : Int} (h : g.fresh i t = false) : i ≤ g.base ∨ g.termAt i = (t, true) := by
  unfold Lg.fresh at h
  by_cases hb : g.base < i
  · rw [decide_eq_true hb, Bool.true_and, Bool.or_eq_false_iff] at h
    refine .inr (Prod.ext ?_ ?_)
    · simpa using h.2
    · simpa using h.1
  · exact .inl (by omega)
theorem Lg.fresh_yes {g : Lg} {i t : Int} (h : g.fresh i t = true) : g.base < i ∧ ((g.termAt i).2 = false ∨ (g.termAt i).1 ≠ t) := by
  unfold Lg.fresh at h
  rw [Bool.and_eq_true, Bool.or_eq_true] at h
  refine ⟨by simpa using h.1, h.2.imp (fun x => by simpa using x) (fun x => by simpa using x)⟩
set_option maxHeartbeats 4000000 in
theorem rmerge_any {w : World} {bad : Nat → Prop} (hbad : ∀ b, bad b → b < w.heap.size) {v cv : Value} {es : List En} {g : Lg} {cs : List En} {vs : List EnV} (h : EnL w bad v es g.es) (hf : g.Fit) (hc : EnL w bad cv cs vs) (hcl : vs.length ≤ 1000) {i t : Int} (hi1 : -4398046511104 ≤ i) (hi2 : i ≤ 4398046511104) :
    Calls Try.prog 42 #[.agg #[.int .i64 g.base, .int .i64 g.term, v], .int .i64 i, .int .i64 t, cv] w fun r w' => ∃ v' es' o os, r = .returned (.tuple #[.agg #[.int .i64 (g.merge i t vs).1.base, .int .i64 (g.merge i t vs).1.term, v'], .int .i64 (g.merge i t vs).2.1, o, .bool (g.merge i t vs).2.2.2]) ∧ EnL w' bad v' es' (g.merge i t vs).1.es ∧ EnL w' bad o os (g.merge i t vs).2.2.1 ∧ Same noB w w' := by
  have hcc := hc.len
  have h60 := fun (W : World) (hs : Same noB w W) => rfollow_any (t := t) (hc.keep hs) (by omega) hi2
  have h39 := fun (W : World) (hs : Same noB w W) => rlast_any (h.keep hs) hf.len
  have h61 := fun (W : World) (hs : Same noB w W) => rmatches_any (h.keep hs) hf (i := i) ⟨by omega, by omega⟩ t
  have hlw := h.len
  obtain ⟨L, lc, rfl, hd1, hd2, hlr⟩ := h.rd.form
  have h62 := fun (W : World) (hs : Same noB w W) => rcontra_any (base := g.base) (term := g.term) (lv := .slice L es.length lc) (hc.keep hs) (by omega) rfl
  obtain ⟨A, c, rfl, hc1, hc2, hr⟩ := hc.rd.form
  unfold Lg.merge
  cases hfo : followB i t vs with
  | false =>
    rw [if_pos rfl]
    rw [hfo] at h60
    refine (rmerge_no1 (Lib.hid h60)).mono ?_
    rintro r w' ⟨rfl, hs⟩
    exact ⟨_, es, _, [], rfl, h.keep hs, ⟨Rd.nil_ _ _ _, .nil⟩, hs⟩
  | true =>
    rw [if_neg (by decide)]
    rw [hfo] at h60
    have hw : IntKind.i64.wrap (i - 1) = i - 1 := IntWalk.i64_in _ (by omega)
    have hj1 : (if i - 1 < g.last.1 then i - 1 else g.last.1) = min g.last.1 (i - 1) := by split <;> omega
    have hj2 : (if g.base < min g.last.1 (i - 1) then min g.last.1 (i - 1) else g.base) = max g.base (min g.last.1 (i - 1)) := by split <;> omega
    cases hma : g.mat i t with
    | false =>
      rw [if_pos (by rfl)]
      rw [hma] at h61
      refine (rmerge_no2 hw hj1 hj2 (Lib.hid h60) (Lib.hid h39) (Lib.hid h61)).mono ?_
      rintro r w' ⟨rfl, hs⟩
      exact ⟨_, es, _, [], rfl, h.keep hs, ⟨Rd.nil_ _ _ _, .nil⟩, hs⟩
    | true =>
      rw [hma] at h61
      cases han : vs.any (fun x => contraB g.base g.term x.i x.t) with
      | true =>
        rw [if_pos (by rfl)]
        rw [han] at h62
        refine (rmerge_no3 hw hj1 hj2 (Lib.hid h60) (Lib.hid h39) (Lib.hid h61) (Lib.hid h62)).mono ?_
        rintro r w' ⟨rfl, hs⟩
        exact ⟨_, es, _, [], rfl, h.keep hs, ⟨Rd.nil_ _ _ _, .nil⟩, hs⟩
      | false =>
        rw [if_neg (by decide)]
        rw [han] at h62
        have hw2 : IntKind.i64.wrap (i + cs.length) = i + cs.length := IntWalk.i64_in _ (by omega)
        have hcv : (vs.length : Int) = cs.length := by omega
        have h28 : ∀ (W : World) (z : EnV), Same noB w W → z ∈ vs → Calls Try.prog 28 #[.agg #[.int .i64 g.base, .int .i64 g.term, .slice L es.length lc], .int .i64 z.i] W fun r w' => r = .returned (.tuple #[.int .i64 (g.termAt z.i).1, .bool (g.termAt z.i).2]) ∧ Same noB W w' := by
          intro W z hs hz
          obtain ⟨j, hj, hjx⟩ := List.getElem_of_mem hz
          have hxi := follow_at hfo (List.getElem?_eq_some_iff.2 ⟨hj, hjx⟩)
          exact rterm_any (h.keep hs) hf ⟨by omega, by omega⟩
        cases hfi : vs.findIdx? (fun x => g.fresh x.i x.t) with
        | none =>
          rw [List.findIdx?_eq_none_iff] at hfi
          refine (rmerge_none (p := g.termAt) hc hcl hw2 (fun j z hz => Lg.fresh_no (by simpa using hfi z (List.mem_of_getElem? hz))) (Lib.hid h60) (Lib.hid h39) (Lib.hid h61) (Lib.hid h62) (Lib.hid h28)).mono ?_
          rintro r w' ⟨rfl, hs⟩
          exact ⟨_, es, _, [], by rw [hcv], h.keep hs, ⟨Rd.nil_ _ _ _, .nil⟩, hs⟩
        | some k =>
          rw [List.findIdx?_eq_some_iff_getElem] at hfi
          obtain ⟨hk, hkf, hkn⟩ := hfi
          have hx : vs[k]? = some vs[k] := List.getElem?_eq_getElem hk
          generalize vs[k] = x at hx hkf
          have hnf : ∀ (j : Nat) (z : EnV), j < k → vs[j]? = some z → g.fresh z.i z.t = false := fun j z hj hz => by
            have := hkn j hj
            rw [(List.getElem?_eq_some_iff.1 hz).2] at this
            simpa using this
          have hpos := Lg.fresh_pos hfo hma hx hkf hnf
          have hxi := follow_at hfo hx
          have hfl := hf.len
          have hlo := hf.lo
          have hhi := hf.hi
          obtain ⟨m, hm⟩ : ∃ m : Nat, x.i - g.base = (m : Int) + 1 := ⟨(x.i - g.base - 1).toNat, by omega⟩
          have hmt : (i + 1 + k - g.base - 1).toNat = m := by omega
          have hmn : m ≤ es.length := by omega
          have hcut := enl_cut hc (a := k) (by omega)
          have hdl : (cs.drop k).length = cs.length - k := List.length_drop
          have hcr := hcut.rd
          rw [hdl] at hcr
          refine (rmerge_yes (p := g.termAt) (k0 := k) (m := m) (n2 := cs.length - k) (ls := es.take m) (fs := cs.drop k) hc hcl hw2 (by omega) (fun j z hj hz => Lg.fresh_no (hnf j z hj hz)) (fun z hz => by
            rw [hx] at hz
            injection hz with hz
            subst hz
            exact ⟨hpos.1, (Lg.fresh_yes hkf).2, by rw [IntWalk.i64_in _ (by omega)]; exact hm⟩) (IntWalk.i64_in _ (by omega)) (fun wx => slice_from (by omega) wx) (fun wx => slice_to0 (by omega) wx) hcr (rd_take hlr rfl hmn) (by omega) (by omega) (Lib.hid h60) (Lib.hid h39) (Lib.hid h61) (Lib.hid h62) (Lib.hid h28)).mono ?_
          rintro r w' ⟨A3, c3, O, oc, rfl, hA, hO⟩
          dsimp only
          rw [hmt]
          refine ⟨_, es.take m ++ cs.drop k, _, cs.drop k, by rw [hcv], ⟨?_, ?_⟩, ⟨?_, ?_⟩, hA.since⟩
          · rw [List.length_append, hdl, List.length_take, Nat.min_eq_left hmn, ecells_app]
            exact hA.rd hbad
          · exact ((h.keep hA.since).is.take m).app (hcut.keep hA.since).is
          · rw [hdl]
            exact hO.rd hbad
          · exact (hcut.keep hO.since).is
end Go.Proofs.Ytlocfbjeljgblaa
