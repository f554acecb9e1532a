/- Layer 21: a failure and a placement that come in as arguments, opened. -/
import Derived.Test.YtpngmodgnkjhnaaRowM
import Derived.Test.YtpngmodgnkjhnaaFailD
import Derived.Test.YtpngmodgnkjhnaaFailA
namespace Go.Proofs.Ytpngmodgnkjhnaa
open Go Go.RowKit Go.ChangeShapes Go.WideShapes Go.Deep
set_option maxRecDepth 100000

theorem open_fail {H : Type} {enc : TypeId × Value → H} {w : World} {base : Nat} {spare : Nat → Bool} {held : Bool} {r : Reach} {b0 : Nat} {v : Value} {d : DataW H} {pl : List MemPlace} (hv : Value.okWide Try.prog w r b0 31 v) (h : DataW.Trod enc Try.prog w base spare held 31 v d pl) :
    ∃ f : Fl, v = f.val ∧ inI64 f.by_ ∧ inI64 f.num := by
  obtain ⟨cs, rfl, hsz⟩ := okWide_struct Try.underlying31 hv
  have hC : Try.prog.cellsOf 31 = 2 := by kernel_rfl
  rw [hC] at hsz
  obtain ⟨l⟩ := cs
  match l, hsz with
  | [v0, v1], _ =>
    obtain ⟨fuel, hf⟩ := h
    have hf' : DataW.trod enc Try.prog w base spare held fuel 31 [v0, v1] = some (d, pl) := hf
    obtain ⟨y0, n0, t0⟩ := agg_fields Try.underlying31 (by kernel_rfl) hf' 0 _ v0 rfl rfl
    obtain ⟨y1, n1, t1⟩ := agg_fields Try.underlying31 (by kernel_rfl) hf' 1 _ v1 rfl rfl
    obtain ⟨a, rfl, wa⟩ := int_form t0
    obtain ⟨b, rfl, wb⟩ := int_form t1
    exact ⟨⟨a, b⟩, rfl, wa, wb⟩
theorem open_uns {H : Type} {enc : TypeId × Value → H} {w : World} {base : Nat} {spare : Nat → Bool} {held : Bool} {fuel : Nat} {A : Option Addr} {len cap : Nat} {x : DataW H × List MemPlace} (h : DataW.trod enc Try.prog w base spare held fuel 75 [.slice A len cap] = some x) :
    ∃ l : List Un, l.length = len ∧ Rd w noB 2 (.slice A len cap) len (uncells l) ∧ ∀ x ∈ l, inI64 x.mach ∧ inI64 x.state :=
  rd_of Un.cells 2 (by decide) (fun _ => rfl) (fun x => inI64 x.mach ∧ inI64 x.state) ((rows_of Try.underlying75 Try.underlying77 (by kernel_rfl) (by kernel_rfl) h).imp id (fun ⟨a, e, h1, h2, h3⟩ => ⟨a, e, h1, h2, fun i hi => by
    obtain ⟨v0, y0, n0, c0, t0⟩ := h3 i hi 0 _ rfl
    obtain ⟨v1, y1, n1, c1, t1⟩ := h3 i hi 1 _ rfl
    obtain ⟨k0, rfl, w0⟩ := int_form t0
    obtain ⟨k1, rfl, w1⟩ := int_form t1
    refine ⟨⟨k0, k1⟩, ⟨w0, w1⟩, fun j u hu => ?_⟩
    match j, hu with
    | 0, hu => injection hu with hu; subst hu; exact c0
    | 1, hu => injection hu with hu; subst hu; exact c1⟩))
theorem open_pl {H : Type} {enc : TypeId × Value → H} {w : World} {base : Nat} {spare : Nat → Bool} {held : Bool} {r : Reach} {b0 : Nat} {v : Value} {d : DataW H} {pl : List MemPlace} (hv : Value.okWide Try.prog w r b0 41 v) (h : DataW.Trod enc Try.prog w base spare held 41 v d pl) :
    ∃ s P, v = plVal s ∧ PlIn w s P := by
  obtain ⟨cs, rfl, hsz⟩ := okWide_struct Try.underlying41 hv
  have hC : Try.prog.cellsOf 41 = 1 := by kernel_rfl
  rw [hC] at hsz
  obtain ⟨l⟩ := cs
  match l, hsz with
  | [v0], _ =>
    obtain ⟨fuel, hf⟩ := h
    have hf' : DataW.trod enc Try.prog w base spare held fuel 41 [v0] = some (d, pl) := hf
    obtain ⟨y0, n0, t0⟩ := agg_fields Try.underlying41 (by kernel_rfl) hf' 0 _ v0 rfl rfl
    obtain ⟨A, len, cap, rfl⟩ := slice_form Try.underlying39 t0
    obtain ⟨l, hl, hr, hok⟩ := rd_of (fun x : Sl × List Un => [x.1.val]) 1 (by decide) (fun _ => rfl) (fun x => (Rd w noB 2 x.1.val x.1.len (uncells x.2) ∧ x.1.len = x.2.length) ∧ ∀ u ∈ x.2, inI64 u.mach ∧ inI64 u.state) (A := A) (len := len) (cap := cap) (w := w)
      ((ones_of Try.underlying39 (by kernel_rfl) t0).imp id (fun ⟨a, e, h1, h2, h3⟩ => ⟨a, e, h1, h2, fun i hi => by
        obtain ⟨v1, y1, n1, hc, t1⟩ := h3 i hi
        obtain ⟨A1, l1, c1, rfl⟩ := slice_form Try.underlying75 t1
        obtain ⟨us, hu1, hu2, hu3⟩ := open_uns t1
        refine ⟨(⟨A1, l1, c1⟩, us), ⟨⟨hu2, hu1.symm⟩, hu3⟩, fun j u hu => ?_⟩
        match j, hu with
        | 0, hu => injection hu with hu; subst hu; exact hc⟩))
    refine ⟨⟨A, len, cap⟩, l.map Prod.snd, rfl, by simpa using hl.symm, ⟨l.map Prod.fst, by simp, ?_, fun i sl us hi hu => ?_⟩, fun us hus u hu => ?_⟩
    · have e : l.flatMap (fun x : Sl × List Un => [x.1.val]) = (l.map Prod.fst).map Sl.val := by
        clear hl hr hok
        induction l with
        | nil => rfl
        | cons x l ih => rw [List.flatMap_cons, ih]; rfl
      rw [← e]
      exact hr
    · rw [List.getElem?_map] at hi hu
      obtain ⟨x, hx, rfl⟩ := Option.map_eq_some_iff.1 hi
      rw [hx] at hu
      injection hu with hu
      subst hu
      exact (hok x (List.mem_of_getElem? hx)).1
    · obtain ⟨x, hx, rfl⟩ := List.mem_map.1 hus
      exact (hok x hx).2 u hu
end Go.Proofs.Ytpngmodgnkjhnaa
