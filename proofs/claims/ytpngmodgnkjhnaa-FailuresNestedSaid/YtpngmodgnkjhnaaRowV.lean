/- Layer 21: a model that comes in as an argument, opened whole. -/
import Derived.Test.YtpngmodgnkjhnaaRowF
import Derived.Test.YtpngmodgnkjhnaaValF
namespace Go.Proofs.Ytpngmodgnkjhnaa
open Go Go.RowKit Go.ChangeShapes Go.WideShapes Go.Deep
set_option maxRecDepth 100000

theorem icells_flat (l : List Int) : l.flatMap (fun s => [Value.int .i64 s]) = icells l := by
  induction l with
  | nil => rfl
  | cons x l ih => rw [List.flatMap_cons, ih]; rfl
section
variable {H : Type} {enc : TypeId × Value → H} {w : World} {base : Nat} {spare : Nat → Bool} {held : Bool} {fuel : Nat} {A : Option Addr} {len cap : Nat} {x : DataW H × List MemPlace}
theorem open_ils (h : DataW.trod enc Try.prog w base spare held fuel 46 [.slice A len cap] = some x) : ∃ l : List Int, l.length = len ∧ Rd w noB 1 (.slice A len cap) len (icells l) := by
  obtain ⟨l, h1, h2, _⟩ := rd_of (fun s : Int => [Value.int .i64 s]) 1 (by decide) (fun _ => rfl) (fun _ => True) (A := A) (len := len) (cap := cap) (w := w) ((ones_of Try.underlying46 (by kernel_rfl) h).imp id (fun ⟨a, e, h1, h2, h3⟩ => ⟨a, e, h1, h2, fun i hi => by
    obtain ⟨v, y, n, hc, ht⟩ := h3 i hi
    obtain ⟨k, rfl, _⟩ := int_form ht
    refine ⟨k, trivial, fun j u hu => ?_⟩
    match j, hu with
    | 0, hu => injection hu with hu; subst hu; exact hc⟩))
  exact ⟨l, h1, by rw [← icells_flat]; exact h2⟩
theorem open_its2 (h : DataW.trod enc Try.prog w base spare held fuel 26 [.slice A len cap] = some x) : ∃ l : List It, l.length = len ∧ Rd w noB 7 (.slice A len cap) len (itcells l) ∧ ∀ x ∈ l, OnOk w x.on :=
  rd_of It.cells 7 (by decide) (fun _ => rfl) (fun x => OnOk w x.on) (A := A) (len := len) (cap := cap) (w := w) ((rows_of Try.underlying26 Try.underlying64 (by kernel_rfl) (by kernel_rfl) h).imp id (fun ⟨a, e, h1, h2, h3⟩ => ⟨a, e, h1, h2, fun i hi => by
    obtain ⟨v0, y0, n0, c0, t0⟩ := h3 i hi 0 _ rfl
    obtain ⟨v1, y1, n1, c1, t1⟩ := h3 i hi 1 _ rfl
    obtain ⟨v2, y2, n2, c2, t2⟩ := h3 i hi 2 _ rfl
    obtain ⟨v3, y3, n3, c3, t3⟩ := h3 i hi 3 _ rfl
    obtain ⟨v4, y4, n4, c4, t4⟩ := h3 i hi 4 _ rfl
    obtain ⟨v5, y5, n5, c5, t5⟩ := h3 i hi 5 _ rfl
    obtain ⟨v6, y6, n6, c6, t6⟩ := h3 i hi 6 _ rfl
    obtain ⟨s, rfl⟩ := str_form t0
    obtain ⟨k1, rfl, _⟩ := int_form t1
    obtain ⟨k2, rfl, _⟩ := int_form t2
    obtain ⟨k3, rfl, _⟩ := int_form t3
    obtain ⟨k4, rfl, _⟩ := int_form t4
    obtain ⟨k5, rfl, _⟩ := int_form t5
    obtain ⟨A6, l6, c6', rfl⟩ := slice_form Try.underlying46 t6
    obtain ⟨ns, hns, hrs⟩ := open_ils t6
    refine ⟨⟨s, k1, k2, k3, k4, k5, ⟨A6, l6, c6'⟩⟩, ⟨ns, hns.symm, hrs⟩, fun j u hu => ?_⟩
    match j, hu with
    | 0, hu => injection hu with hu; subst hu; exact c0
    | 1, hu => injection hu with hu; subst hu; exact c1
    | 2, hu => injection hu with hu; subst hu; exact c2
    | 3, hu => injection hu with hu; subst hu; exact c3
    | 4, hu => injection hu with hu; subst hu; exact c4
    | 5, hu => injection hu with hu; subst hu; exact c5
    | 6, hu => injection hu with hu; subst hu; exact c6⟩))
theorem open_rus2 (h : DataW.trod enc Try.prog w base spare held fuel 27 [.slice A len cap] = some x) : ∃ l : List Ru, l.length = len ∧ Rd w noB 7 (.slice A len cap) len (rucells l) ∧ ∀ x ∈ l, OnOk w x.ms :=
  rd_of Ru.cells 7 (by decide) (fun _ => rfl) (fun x => OnOk w x.ms) (A := A) (len := len) (cap := cap) (w := w) ((rows_of Try.underlying27 Try.underlying66 (by kernel_rfl) (by kernel_rfl) h).imp id (fun ⟨a, e, h1, h2, h3⟩ => ⟨a, e, h1, h2, fun i hi => by
    obtain ⟨v0, y0, n0, c0, t0⟩ := h3 i hi 0 _ rfl
    obtain ⟨v1, y1, n1, c1, t1⟩ := h3 i hi 1 _ rfl
    obtain ⟨v2, y2, n2, c2, t2⟩ := h3 i hi 2 _ rfl
    obtain ⟨v3, y3, n3, c3, t3⟩ := h3 i hi 3 _ rfl
    obtain ⟨v4, y4, n4, c4, t4⟩ := h3 i hi 4 _ rfl
    obtain ⟨v5, y5, n5, c5, t5⟩ := h3 i hi 5 _ rfl
    obtain ⟨v6, y6, n6, c6, t6⟩ := h3 i hi 6 _ rfl
    obtain ⟨k0, rfl, _⟩ := int_form t0
    obtain ⟨k1, rfl, _⟩ := int_form t1
    obtain ⟨k2, rfl, _⟩ := int_form t2
    obtain ⟨k3, rfl, _⟩ := int_form t3
    obtain ⟨k4, rfl, _⟩ := int_form t4
    obtain ⟨b5, rfl⟩ := bool_form t5
    obtain ⟨A6, l6, c6', rfl⟩ := slice_form Try.underlying46 t6
    obtain ⟨ns, hns, hrs⟩ := open_ils t6
    refine ⟨⟨k0, k1, k2, k3, k4, b5, ⟨A6, l6, c6'⟩⟩, ⟨ns, hns.symm, hrs⟩, fun j u hu => ?_⟩
    match j, hu with
    | 0, hu => injection hu with hu; subst hu; exact c0
    | 1, hu => injection hu with hu; subst hu; exact c1
    | 2, hu => injection hu with hu; subst hu; exact c2
    | 3, hu => injection hu with hu; subst hu; exact c3
    | 4, hu => injection hu with hu; subst hu; exact c4
    | 5, hu => injection hu with hu; subst hu; exact c5
    | 6, hu => injection hu with hu; subst hu; exact c6⟩))
end
theorem open_model2 {H : Type} {enc : TypeId × Value → H} {w : World} {base : Nat} {spare : Nat → Bool} {held : Bool} {r : Reach} {b0 : Nat} {v : Value} {d : DataW H} {pl : List MemPlace} (hv : Value.okWide Try.prog w r b0 29 v) (h : DataW.Trod enc Try.prog w base spare held 29 v d pl) :
    ∃ p m, v = mdlVal p m ∧ MdlIn w p m ∧ Ful w m := by
  obtain ⟨cs, rfl, hsz⟩ := okWide_struct Try.underlying29 hv
  have hC : Try.prog.cellsOf 29 = 11 := by kernel_rfl
  rw [hC] at hsz
  obtain ⟨l⟩ := cs
  match l, hsz with
  | [v0, v1, v2, v3, v4, v5, v6, v7, v8, v9, v10], _ =>
    obtain ⟨fuel, hf⟩ := h
    have hf' : DataW.trod enc Try.prog w base spare held fuel 29 [v0, v1, v2, v3, v4, v5, v6, v7, v8, v9, v10] = some (d, pl) := hf
    obtain ⟨y0, n0, t0⟩ := agg_fields Try.underlying29 (by kernel_rfl) hf' 0 _ v0 rfl rfl
    obtain ⟨y1, n1, t1⟩ := agg_fields Try.underlying29 (by kernel_rfl) hf' 1 _ v1 rfl rfl
    obtain ⟨y2, n2, t2⟩ := agg_fields Try.underlying29 (by kernel_rfl) hf' 2 _ v2 rfl rfl
    obtain ⟨y3, n3, t3⟩ := agg_fields Try.underlying29 (by kernel_rfl) hf' 3 _ v3 rfl rfl
    obtain ⟨y4, n4, t4⟩ := agg_fields Try.underlying29 (by kernel_rfl) hf' 4 _ v4 rfl rfl
    obtain ⟨y5, n5, t5⟩ := agg_fields Try.underlying29 (by kernel_rfl) hf' 5 _ v5 rfl rfl
    obtain ⟨y6, n6, t6⟩ := agg_fields Try.underlying29 (by kernel_rfl) hf' 6 _ v6 rfl rfl
    obtain ⟨y7, n7, t7⟩ := agg_fields Try.underlying29 (by kernel_rfl) hf' 7 _ v7 rfl rfl
    obtain ⟨y8, n8, t8⟩ := agg_fields Try.underlying29 (by kernel_rfl) hf' 8 _ v8 rfl rfl
    obtain ⟨y9, n9, t9⟩ := agg_fields Try.underlying29 (by kernel_rfl) hf' 9 _ v9 rfl rfl
    obtain ⟨y10, n10, t10⟩ := agg_fields Try.underlying29 (by kernel_rfl) hf' 10 _ v10 rfl rfl
    obtain ⟨A0, l0, k0, rfl⟩ := slice_form Try.underlying22 t0
    obtain ⟨A1, l1, k1, rfl⟩ := slice_form Try.underlying22 t1
    obtain ⟨A2, l2, k2, rfl⟩ := slice_form Try.underlying23 t2
    obtain ⟨A3, l3, k3, rfl⟩ := slice_form Try.underlying24 t3
    obtain ⟨A4, l4, k4, rfl⟩ := slice_form Try.underlying25 t4
    obtain ⟨A5, l5, k5, rfl⟩ := slice_form Try.underlying26 t5
    obtain ⟨i6, rfl, _⟩ := int_form t6
    obtain ⟨i7, rfl, _⟩ := int_form t7
    obtain ⟨i8, rfl, _⟩ := int_form t8
    obtain ⟨i9, rfl, _⟩ := int_form t9
    obtain ⟨A10, l10, k10, rfl⟩ := slice_form Try.underlying27 t10
    obtain ⟨ls, hs1, hs2⟩ := open_strs t0
    obtain ⟨lf, hf1, hf2⟩ := open_strs t1
    obtain ⟨lr, hr1, hr2, hr3⟩ := open_rks t2
    obtain ⟨lm, hm1, hm2, hm3⟩ := open_mcs t3
    obtain ⟨ll, hl1, hl2, hl3⟩ := open_lks t4
    obtain ⟨li, hi1, hi2, hi3⟩ := open_its2 t5
    obtain ⟨lu, hu1, hu2, hu3⟩ := open_rus2 t10
    exact ⟨⟨⟨A0, l0, k0⟩, ⟨A1, l1, k1⟩, ⟨A2, l2, k2⟩, ⟨A3, l3, k3⟩, ⟨A4, l4, k4⟩, ⟨A5, l5, k5⟩, ⟨A10, l10, k10⟩⟩, ⟨ls, lf, lr, lm, ll, li, i6, i7, i8, i9, lu⟩, rfl, ⟨hs2, hf2, hr2, hm2, hl2, hi2, hu2, ⟨hr3, hm3, hl3⟩, hs1.symm, hf1.symm, hr1.symm, hm1.symm, hl1.symm, hi1.symm, hu1.symm⟩, ⟨hi3, hu3⟩⟩
end Go.Proofs.Ytpngmodgnkjhnaa
