/- FailuresNested: its walk. (printed by genLawNes.py) -/
import Derived.Test.YtpngmodgnkjhnaaSiteX
import Derived.Test.YtpngmodgnkjhnaaValG
import Derived.Test.YtpngmodgnkjhnaaFailP
import Derived.Deep.CutRange
namespace Go.Proofs.Ytpngmodgnkjhnaa
open Go Go.RowKit Go.Maps
set_option maxRecDepth 100000

theorem inI_0 : inI64 0 := inI64_of (by decide) (by decide)
theorem inI_1 : inI64 1 := inI64_of (by decide) (by decide)
theorem inI_2 : inI64 2 := inI64_of (by decide) (by decide)
theorem inI_3 : inI64 3 := inI64_of (by decide) (by decide)
/-- Nested's memory. -/
structure NeI (w W : World) (p : MPl) (m : Mdl) (M A B C : Nat) (n r f : Int) : Prop where
  mb : MB w W p m M
  a : Blk W A 31 #[.int .i64 1, .int .i64 n]
  b : Blk W B 31 #[.int .i64 2, .int .i64 r]
  c : Blk W C 31 #[.int .i64 3, .int .i64 f]
theorem NeI.keep {w W W' : World} {p : MPl} {m : Mdl} {M A B C : Nat} {n r f : Int} (h : NeI w W p m M A B C n r f) (hs : Same noB W W') : NeI w W' p m M A B C n r f := ⟨h.mb.keep hs, h.a.same hs (fun x => x), h.b.same hs (fun x => x), h.c.same hs (fun x => x)⟩
theorem NeI.all {w W : World} {p : MPl} {m : Mdl} {M A B C : Nat} {n r f : Int} (h : NeI w W p m M A B C n r f) : W.cell? ⟨A, 0, none⟩ = some (.int .i64 1) ∧ W.cell? ⟨A, 1, none⟩ = some (.int .i64 n) ∧ W.cell? ⟨B, 0, none⟩ = some (.int .i64 2) ∧ W.cell? ⟨B, 1, none⟩ = some (.int .i64 r) ∧ W.cell? ⟨C, 0, none⟩ = some (.int .i64 3) ∧ W.cell? ⟨C, 1, none⟩ = some (.int .i64 f) :=
  ⟨h.a.cell 0, h.a.cell 1, h.b.cell 0, h.b.cell 1, h.c.cell 0, h.c.cell 1⟩

set_option maxHeartbeats 16000000 in
theorem lawNested_any {w : World} {p : MPl} {m : Mdl} (h : MdlIn w p m) (hu : Ful w m) (z : Int) (hz : 0 ≤ z ∧ z ≤ 255) :
    Calls Try.prog 9 #[mdlVal p m, .int .u8 z] w fun e w' => e = .returned (.bool true) ∧ Same noB w w' := by
  have HM0 := Lib.hid (MB.start h)
  have HU := Lib.hid hu
  obtain ⟨q, hq⟩ : ∃ q, fewB m = q := ⟨_, rfl⟩
  have HQ := Lib.hid hq
  clear h hq hu
  unfold mdlVal
  unfold mdlCells at HM0
  go_enter Try.func9, Try.ntmps9
  go_wp2_with fail
  refine calls_abs (fun W => Hid (MB w W p m w.heap.size)) HM0 ?_
  clear HM0
  generalize w.heap.size = M at *
  intro W HM0
  refine (awake_any W).mono ?_
  rintro e W1 ⟨rfl, hs⟩
  have HM := Lib.hid (HM0.out.keep hs)
  clear hs HM0
  obtain ⟨c0, c1, c2, c3, c4, c5, c6, c7, c8, c9, c10⟩ := HM.out.all
  go_wp2_with fail
  have hZ := few2_any HM.out.inn
  unfold mdlVal at hZ
  rw [HQ.out] at hZ
  (with_reducible refine Calls.mono hZ ?_)
  clear hZ
  rintro e W2 ⟨rfl, hs⟩
  have HM := Lib.hid (HM.out.keep hs)
  clear hs
  obtain ⟨c0, c1, c2, c3, c4, c5, c6, c7, c8, c9, c10⟩ := HM.out.all
  cases q
  · go_wp2_with fail
    go_ret
    exact ⟨rfl, HM.out.since⟩
  · go_wp2_with fail
    have hZ := valid31_any HM.out.inn (fewB_small HQ.out) (HU.out.keep HM.out.since)
    unfold mdlVal at hZ
    (with_reducible refine Calls.mono hZ ?_)
    clear hZ
    rintro e W3 ⟨b2, rfl, hv, hs⟩
    have HM := Lib.hid (HM.out.keep hs)
    clear hs
    have HV := Lib.hid hv
    clear hv c0 c1 c2 c3 c4 c5 c6 c7 c8 c9 c10
    cases b2
    · go_wp2_with fail
      go_ret
      exact ⟨rfl, HM.out.since⟩
    · have hval : m.valid = true := HV.out rfl
      have HLM : Hid (p.mc.len = m.machines.length) := HM.out.inn.lm
      have hmp : 1 ≤ p.mc.len ∧ p.mc.len ≤ 16 := by
        have h1 := hval
        rw [valid_sizes, Bool.and_eq_true] at h1
        have h2 := (sizes_iff m).1 h1.1
        have := HLM.out
        omega
      have HLE : Hid (m.machines.length ≤ 1000000) := by show _ ≤ _; have := HLM.out; omega
      obtain ⟨j, hj⟩ : ∃ j : Nat, z % (p.mc.len : Int) = (j : Int) := ⟨(z % (p.mc.len : Int)).toNat, by have := Int.emod_nonneg z (b := (p.mc.len : Int)) (by omega); omega⟩
      have hjl : j < p.mc.len := by have := Int.emod_lt_of_pos z (b := (p.mc.len : Int)) (by omega); omega
      obtain ⟨x, hx⟩ : ∃ x, m.machines[j]? = some x := ⟨_, List.getElem?_eq_getElem (by have := HLM.out; omega)⟩
      obtain ⟨t, y, hxr, hy, hnf⟩ := nest_of hval hx
      have HNF := Lib.hid hnf
      obtain ⟨b, o, hma, _, r1, _, _⟩ := HM.out.inn.mach hx
      obtain ⟨b', o', hra, _, _, r2, _⟩ := HM.out.inn.rack hy
      have HX := Lib.hid (And.intro hx hy)
      have HXR := Lib.hid hxr
      have HMA := Lib.hid (And.intro hma hra)
      have htl : t < p.r.len := by have := (List.getElem?_eq_some_iff.1 hy).1; have := HM.out.inn.lr; omega
      have hcm := HM.out.inn.mc.caps
      have hcr := HM.out.inn.r.caps
      obtain ⟨c0, c1, c2, c3, c4, c5, c6, c7, c8, c9, c10⟩ := HM.out.all
      rw [hxr] at r1
      rw [hma] at c3
      rw [hra] at c2
      have hz0 : 0 ≤ z := hz.1
      have hz1 : z ≤ 255 := hz.2
      have HJ := hj
      clear hval hx hy hxr hnf hma hra hj hz
      have hj0 : (0 : Int) ≤ (j : Int) := by omega
      have hj1 : (j : Int) < (p.mc.len : Int) := by omega
      have hj2 : (1 : Int) + (j : Int) - 1 = (j : Int) := by omega
      have ht0 : (0 : Int) ≤ (t : Int) := by omega
      have ht1 : (t : Int) < (p.r.len : Int) := by omega
      obtain ⟨yn, ys, yf⟩ := y
      simp only at r2 HNF
      go_upto_region 7 with (fail)
      refine wp_abs (fun W => Hid (MB w W p m M ∧ Blk W W3.heap.size 31 #[.int .i64 1, .int .i64 (1 + (j : Int))])) ⟨HM.out.keep ((Same.refl _ _).alloc _), Blk.new _ _ _⟩ ?_
      clear HM c0 c1 c2 c3 c4 c5 c6 c7 c8 c9 c10 r1 r2
      generalize W3.heap.size = A at *
      intro W4 HA
      have HM := Lib.hid HA.out.1
      obtain ⟨b, o, hma, _, r1, _, _⟩ := HM.out.inn.mach HX.out.1
      obtain ⟨b', o', hra, _, _, r2, _⟩ := HM.out.inn.rack HX.out.2
      simp only at r2
      obtain ⟨c0, c1, c2, c3, c4, c5, c6, c7, c8, c9, c10⟩ := HM.out.all
      rw [HXR.out] at r1
      rw [hma] at c3
      rw [hra] at c2
      clear hma hra
      go_upto_region 8 with (fail)
      refine wp_abs (fun W => Hid (MB w W p m M ∧ Blk W A 31 #[.int .i64 1, .int .i64 (1 + (j : Int))] ∧ Blk W W4.heap.size 31 #[.int .i64 2, .int .i64 ((t : Int) + 1)])) ⟨HM.out.keep ((Same.refl _ _).alloc _), HA.out.2.alloc _, Blk.new _ _ _⟩ ?_
      clear HM c0 c1 c2 c3 c4 c5 c6 c7 c8 c9 c10 r1 r2 HA
      generalize W4.heap.size = B at *
      intro W5 HB
      have HM := Lib.hid HB.out.1
      obtain ⟨b, o, hma, _, r1, _, _⟩ := HM.out.inn.mach HX.out.1
      obtain ⟨b', o', hra, _, _, r2, _⟩ := HM.out.inn.rack HX.out.2
      simp only at r2
      obtain ⟨c0, c1, c2, c3, c4, c5, c6, c7, c8, c9, c10⟩ := HM.out.all
      rw [HXR.out] at r1
      rw [hma] at c3
      rw [hra] at c2
      clear hma hra
      have e0 := HB.out.2.2.cell 0
      have e1 := HB.out.2.2.cell 1
      simp only [List.getElem?_toArray, List.getElem?_cons_zero, List.getElem?_cons_succ] at e0 e1
      go_upto_region 9 with (fail)
      refine wp_abs (fun W => Hid (NeI w W p m M A B W5.heap.size (1 + (j : Int)) ((t : Int) + 1) yf)) ⟨HM.out.keep ((Same.refl _ _).alloc _), HB.out.2.1.alloc _, HB.out.2.2.alloc _, Blk.new _ _ _⟩ ?_
      clear HM c0 c1 c2 c3 c4 c5 c6 c7 c8 c9 c10 r1 r2 HB e0 e1
      generalize W5.heap.size = C at *
      intro W6 HN
      obtain ⟨c0, c1, c2, c3, c4, c5, c6, c7, c8, c9, c10⟩ := HN.out.mb.all; obtain ⟨a0, a1, b0, b1, d0, d1⟩ := HN.out.all
      go_wp2_with fail
      have hZ := covers_any HN.out.mb.inn ⟨2, (t : Int) + 1⟩ ⟨1, 1 + (j : Int)⟩ inI_2 inI_1 HLE.out
      rw [HNF.out.c1] at hZ
      unfold mdlVal Fl.val at hZ
      (with_reducible refine Calls.mono hZ ?_)
      clear hZ
      rintro e W9 ⟨rfl, hs⟩
      have HN := Lib.hid (HN.out.keep hs)
      clear hs
      obtain ⟨c0, c1, c2, c3, c4, c5, c6, c7, c8, c9, c10⟩ := HN.out.mb.all; obtain ⟨a0, a1, b0, b1, d0, d1⟩ := HN.out.all
      go_wp2_with fail
      have hZ := covers_any HN.out.mb.inn ⟨3, yf⟩ ⟨2, (t : Int) + 1⟩ inI_3 inI_2 HLE.out
      rw [HNF.out.c2] at hZ
      unfold mdlVal Fl.val at hZ
      (with_reducible refine Calls.mono hZ ?_)
      clear hZ
      rintro e W9 ⟨rfl, hs⟩
      have HN := Lib.hid (HN.out.keep hs)
      clear hs
      obtain ⟨c0, c1, c2, c3, c4, c5, c6, c7, c8, c9, c10⟩ := HN.out.mb.all; obtain ⟨a0, a1, b0, b1, d0, d1⟩ := HN.out.all
      go_wp2_with fail
      have hZ := covers_any HN.out.mb.inn ⟨3, yf⟩ ⟨1, 1 + (j : Int)⟩ inI_3 inI_1 HLE.out
      rw [HNF.out.c3] at hZ
      unfold mdlVal Fl.val at hZ
      (with_reducible refine Calls.mono hZ ?_)
      clear hZ
      rintro e W9 ⟨rfl, hs⟩
      have HN := Lib.hid (HN.out.keep hs)
      clear hs
      obtain ⟨c0, c1, c2, c3, c4, c5, c6, c7, c8, c9, c10⟩ := HN.out.mb.all; obtain ⟨a0, a1, b0, b1, d0, d1⟩ := HN.out.all
      go_wp2_with fail
      have hZ := covers_any HN.out.mb.inn ⟨0, 0⟩ ⟨1, 1 + (j : Int)⟩ inI_0 inI_1 HLE.out
      rw [HNF.out.c4] at hZ
      unfold mdlVal Fl.val at hZ
      (with_reducible refine Calls.mono hZ ?_)
      clear hZ
      rintro e W9 ⟨rfl, hs⟩
      have HN := Lib.hid (HN.out.keep hs)
      clear hs
      obtain ⟨c0, c1, c2, c3, c4, c5, c6, c7, c8, c9, c10⟩ := HN.out.mb.all; obtain ⟨a0, a1, b0, b1, d0, d1⟩ := HN.out.all
      go_wp2_with fail
      have hZ := covers_any HN.out.mb.inn ⟨1, 1 + (j : Int)⟩ ⟨0, 0⟩ inI_1 inI_0 HLE.out
      rw [HNF.out.c5] at hZ
      unfold mdlVal Fl.val at hZ
      (with_reducible refine Calls.mono hZ ?_)
      clear hZ
      rintro e W9 ⟨rfl, hs⟩
      have HN := Lib.hid (HN.out.keep hs)
      clear hs
      obtain ⟨c0, c1, c2, c3, c4, c5, c6, c7, c8, c9, c10⟩ := HN.out.mb.all; obtain ⟨a0, a1, b0, b1, d0, d1⟩ := HN.out.all
      go_wp2_with fail
      have hZ := hits_any HN.out.mb.inn ⟨1, 1 + (j : Int)⟩ inI_1 (1 + (j : Int))
      rw [HNF.out.h1] at hZ
      unfold mdlVal Fl.val at hZ
      (with_reducible refine Calls.mono hZ ?_)
      clear hZ
      rintro e W9 ⟨rfl, hs⟩
      have HN := Lib.hid (HN.out.keep hs)
      clear hs
      obtain ⟨c0, c1, c2, c3, c4, c5, c6, c7, c8, c9, c10⟩ := HN.out.mb.all; obtain ⟨a0, a1, b0, b1, d0, d1⟩ := HN.out.all
      go_wp2_with fail
      have hZ := hits_any HN.out.mb.inn ⟨3, yf⟩ inI_3 (1 + (j : Int))
      rw [HNF.out.h2] at hZ
      unfold mdlVal Fl.val at hZ
      (with_reducible refine Calls.mono hZ ?_)
      clear hZ
      rintro e W9 ⟨rfl, hs⟩
      have HN := Lib.hid (HN.out.keep hs)
      clear hs
      obtain ⟨c0, c1, c2, c3, c4, c5, c6, c7, c8, c9, c10⟩ := HN.out.mb.all; obtain ⟨a0, a1, b0, b1, d0, d1⟩ := HN.out.all
      go_wp2_with fail
      go_ret
      exact ⟨by first | rfl | simp, HN.out.mb.since⟩
end Go.Proofs.Ytpngmodgnkjhnaa
