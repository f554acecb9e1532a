/- Layer 21: the example of chapter 15. -/
import Derived.Test.YtpngmodgnkjhnaaSiteK
import Derived.Test.YtpngmodgnkjhnaaFailD
import Derived.Deep.CutRange
namespace Go.Proofs.Ytpngmodgnkjhnaa
open Go Go.RowKit Go.Maps
set_option maxRecDepth 100000

def exI (on : Sl) : It := ⟨⟨#[100, 98]⟩, 0, 1, 4, 2, 1, on⟩
def exD (on : Sl) (fl : Int) : Mdl := ⟨exM.sites, exM.feeds, exM.racks, exM.machines, exM.links, [exI on], 1, 1, 0, fl, []⟩
theorem exD_ok (on : Sl) (fl : Int) : (exD on fl).Ok := ⟨ex_ok.racks, ex_ok.machines, ex_ok.links⟩
def withI (p : MPl) (i : Sl) : MPl := ⟨p.s, p.f, p.r, p.mc, p.l, i, p.ru⟩
theorem exD_in {w : World} {p : MPl} {on : Sl} {fl : Int} {g : Nat} (h : MdlIn w p exM) (hb : Blk w g 64 (exI on).cells.toArray) : MdlIn w (withI p ⟨some ⟨g, 0, none⟩, 1, 1⟩) (exD on fl) :=
  ⟨h.s, h.f, h.r, h.mc, h.l, Rd.of_blk (cs := itcells [exI on]) hb (fun x => x) rfl (Nat.le_refl _) (by simp [maxLen, withI]), h.ru, exD_ok _ _, h.ls, h.lf, h.lr, h.lm, h.ll, rfl, h.lru⟩
def On2 (w : World) (on : Sl) : Prop := ∃ g, on = ⟨some ⟨g, 0, none⟩, 1, 1⟩ ∧ Blk w g 3 #[.int .i64 2]

/-- The blocks of chapter 14's example, behind block B. -/
structure ExB (w : World) (B : Nat) : Prop where
  b1 : Blk w (B + 1) 9 (scells exM.sites).toArray
  b2 : Blk w (B + 1 + 1) 9 (scells exM.feeds).toArray
  b3 : Blk w (B + 1 + 1 + 1) 59 (rkcells exM.racks).toArray
  b4 : Blk w (B + 1 + 1 + 1 + 1) 57 (mccells exM.machines).toArray
  b5 : Blk w (B + 1 + 1 + 1 + 1 + 1) 101 (lkcells exM.links).toArray
theorem ExB.inn {w : World} {B : Nat} (h : ExB w B) : MdlIn w (exP B) exM := by
  refine ⟨?_, ?_, ?_, ?_, ?_, Rd.nil_ _ _ _, Rd.nil_ _ _ _, ex_ok, rfl, rfl, rfl, rfl, rfl, rfl, rfl⟩
  · exact Rd.of_blk h.b1 (fun x => x) rfl (Nat.le_refl _) (by simp [maxLen, exP])
  · exact Rd.of_blk h.b2 (fun x => x) rfl (Nat.le_refl _) (by simp [maxLen, exP])
  · exact Rd.of_blk h.b3 (fun x => x) rfl (Nat.le_refl _) (by simp [maxLen, exP])
  · exact Rd.of_blk h.b4 (fun x => x) rfl (Nat.le_refl _) (by simp [maxLen, exP])
  · exact Rd.of_blk h.b5 (fun x => x) rfl (Nat.le_refl _) (by simp [maxLen, exP])
theorem ExB.same {S : Nat → Prop} {w w' : World} {B : Nat} (h : ExB w B) (hs : Same S w w') (hn : ∀ b, S b → b ≤ B) : ExB w' B :=
  ⟨h.b1.same hs (fun x => by have := hn _ x; omega), h.b2.same hs (fun x => by have := hn _ x; omega), h.b3.same hs (fun x => by have := hn _ x; omega), h.b4.same hs (fun x => by have := hn _ x; omega), h.b5.same hs (fun x => by have := hn _ x; omega)⟩
theorem exB_new (w : World) : ExB (exW w) w.heap.size := by
  unfold exW
  have b1 := new_at (w := w.alloc (.cells (mdlCells (exP w.heap.size) exM) 29)) (n := w.heap.size + 1) (by simp) 9 (scells exM.sites).toArray
  have b2 := new_at (w := (w.alloc (.cells (mdlCells (exP w.heap.size) exM) 29)).alloc (.cells (scells exM.sites).toArray 9)) (n := w.heap.size + 1 + 1) (by simp) 9 (scells exM.feeds).toArray
  have b3 := new_at (w := ((w.alloc (.cells (mdlCells (exP w.heap.size) exM) 29)).alloc (.cells (scells exM.sites).toArray 9)).alloc (.cells (scells exM.feeds).toArray 9)) (n := w.heap.size + 1 + 1 + 1) (by simp) 59 (rkcells exM.racks).toArray
  have b4 := new_at (w := (((w.alloc (.cells (mdlCells (exP w.heap.size) exM) 29)).alloc (.cells (scells exM.sites).toArray 9)).alloc (.cells (scells exM.feeds).toArray 9)).alloc (.cells (rkcells exM.racks).toArray 59)) (n := w.heap.size + 1 + 1 + 1 + 1) (by simp) 57 (mccells exM.machines).toArray
  have b5 := new_at (w := ((((w.alloc (.cells (mdlCells (exP w.heap.size) exM) 29)).alloc (.cells (scells exM.sites).toArray 9)).alloc (.cells (scells exM.feeds).toArray 9)).alloc (.cells (rkcells exM.racks).toArray 59)).alloc (.cells (mccells exM.machines).toArray 57)) (n := w.heap.size + 1 + 1 + 1 + 1 + 1) (by simp) 101 (lkcells exM.links).toArray
  exact ⟨(((b1.alloc _).alloc _).alloc _).alloc _, ((b2.alloc _).alloc _).alloc _, (b3.alloc _).alloc _, b4.alloc _, b5⟩
theorem example_b (w : World) : Calls Try.prog 50 #[] w fun e w' => e = .returned (mdlVal (exP w.heap.size) exM) ∧ ExB w' w.heap.size ∧ Same noB w w' := by
  go_enter Try.func50, Try.ntmps50
  go_wp2_with fail
  obtain ⟨h1, h2, h3⟩ := exW_in w
  exact bodyPost_ret (res_mdl rfl h1 rfl) rfl ⟨rfl, exB_new w, h3⟩

/-- What is known at the end of the example. -/
structure ExF (w W : World) (M0 M1 B g1 g2 : Nat) : Prop where
  z : Blk W M0 29 #[.slice none 0 0, .slice none 0 0, .slice none 0 0, .slice none 0 0, .slice none 0 0, .slice none 0 0, .int .i64 0, .int .i64 0, .int .i64 0, .int .i64 0, .slice none 0 0]
  b : Blk W M1 29 (mdlCells (withI (exP B) ⟨some ⟨g2, 0, none⟩, 1, 1⟩) (exD ⟨some ⟨g1, 0, none⟩, 1, 1⟩ 0))
  ne1 : M0 ≠ g1
  ne2 : M0 ≠ g2
  le : M0 ≤ B
  lo : w.heap.size ≤ M0
  ex : ExB W B
  on : Blk W g1 3 #[.int .i64 2]
  it : Blk W g2 64 (exI ⟨some ⟨g1, 0, none⟩, 1, 1⟩).cells.toArray
  since : Same noB w W
theorem exF_of {w w1 : World} {M0 B : Nat} (hB : Blk w1 M0 29 #[.slice none 0 0, .slice none 0 0, .slice none 0 0, .slice none 0 0, .slice none 0 0, .slice none 0 0, .int .i64 0, .int .i64 0, .int .i64 0, .int .i64 0, .slice none 0 0]) (hI : ExB w1 B) (hle : M0 ≤ B) (hlo : w.heap.size ≤ M0) (hS : Same noB w w1) :
    ExF w (((w1.alloc (.cells (mdlCells (withI (exP B) ⟨some ⟨w1.heap.size + 1 + 1, 0, none⟩, 1, 1⟩) (exD ⟨some ⟨w1.heap.size + 1, 0, none⟩, 1, 1⟩ 0)) 29)).alloc (.cells #[.int .i64 2] 3)).alloc (.cells (exI ⟨some ⟨w1.heap.size + 1, 0, none⟩, 1, 1⟩).cells.toArray 64)) M0 w1.heap.size B (w1.heap.size + 1) (w1.heap.size + 1 + 1) := by
  have b1 := new_at (w := w1) rfl 29 (mdlCells (withI (exP B) ⟨some ⟨w1.heap.size + 1 + 1, 0, none⟩, 1, 1⟩) (exD ⟨some ⟨w1.heap.size + 1, 0, none⟩, 1, 1⟩ 0))
  have b2 := new_at (w := w1.alloc (.cells (mdlCells (withI (exP B) ⟨some ⟨w1.heap.size + 1 + 1, 0, none⟩, 1, 1⟩) (exD ⟨some ⟨w1.heap.size + 1, 0, none⟩, 1, 1⟩ 0)) 29)) (n := w1.heap.size + 1) (by simp) 3 #[.int .i64 2]
  have b3 := new_at (w := (w1.alloc (.cells (mdlCells (withI (exP B) ⟨some ⟨w1.heap.size + 1 + 1, 0, none⟩, 1, 1⟩) (exD ⟨some ⟨w1.heap.size + 1, 0, none⟩, 1, 1⟩ 0)) 29)).alloc (.cells #[.int .i64 2] 3)) (n := w1.heap.size + 1 + 1) (by simp) 64 (exI ⟨some ⟨w1.heap.size + 1, 0, none⟩, 1, 1⟩).cells.toArray
  have hs : Same noB w1 (((w1.alloc (.cells (mdlCells (withI (exP B) ⟨some ⟨w1.heap.size + 1 + 1, 0, none⟩, 1, 1⟩) (exD ⟨some ⟨w1.heap.size + 1, 0, none⟩, 1, 1⟩ 0)) 29)).alloc (.cells #[.int .i64 2] 3)).alloc (.cells (exI ⟨some ⟨w1.heap.size + 1, 0, none⟩, 1, 1⟩).cells.toArray 64)) := (((Same.refl _ _).alloc _).alloc _).alloc _
  have hl := hB.lt
  exact ⟨hB.same hs (fun x => x), (b1.alloc _).alloc _, by omega, by omega, hle, hlo, hI.same hs (fun _ x => x.elim), b2.alloc _, b3, hS.trans' hs⟩
def exP15 (B g2 : Nat) : MPl := withI (exP B) ⟨some ⟨g2, 0, none⟩, 1, 1⟩
/-- Behind the last store. -/
theorem ExF.fin {w W W' : World} {M0 M1 B g1 g2 : Nat} (h : ExF w W M0 M1 B g1 g2) (hs : Same (oneB M0) W W') (hz : Blk W' M0 29 (mdlCells (exP15 B g2) (exD ⟨some ⟨g1, 0, none⟩, 1, 1⟩ 0))) :
    Blk W' M0 29 (mdlCells (exP15 B g2) (exD ⟨some ⟨g1, 0, none⟩, 1, 1⟩ 0)) ∧ MdlIn W' (exP15 B g2) (exD ⟨some ⟨g1, 0, none⟩, 1, 1⟩ 0) ∧ On2 W' ⟨some ⟨g1, 0, none⟩, 1, 1⟩ ∧ Same noB w W' :=
  ⟨hz, exD_in (h.ex.same hs (fun b e => by have := h.le; rw [show b = M0 from e]; exact this)).inn (h.it.same hs (fun e => h.ne2 (show g2 = M0 from e).symm)), ⟨_, rfl, h.on.same hs (fun e => h.ne1 (show g1 = M0 from e).symm)⟩,
   h.since.trans hs (fun b hb e => by have := h.lo; rw [show b = M0 from e] at hb; omega)⟩
theorem set11 {W : World} {M : Nat} {t : TypeId} {a0 a1 a2 a3 a4 a5 a6 a7 a8 a9 a10 b0 b1 b2 b3 b4 b5 b6 b7 b8 b9 b10 : Value} (h : Blk W M t #[a0, a1, a2, a3, a4, a5, a6, a7, a8, a9, a10]) :
    Blk (((((((((((W.setCell ⟨M, 0, none⟩ b0).setCell ⟨M, 1, none⟩ b1).setCell ⟨M, 2, none⟩ b2).setCell ⟨M, 3, none⟩ b3).setCell ⟨M, 4, none⟩ b4).setCell ⟨M, 5, none⟩ b5).setCell ⟨M, 6, none⟩ b6).setCell ⟨M, 7, none⟩ b7).setCell ⟨M, 8, none⟩ b8).setCell ⟨M, 9, none⟩ b9).setCell ⟨M, 10, none⟩ b10) M t #[b0, b1, b2, b3, b4, b5, b6, b7, b8, b9, b10] ∧
    Same (oneB M) W (((((((((((W.setCell ⟨M, 0, none⟩ b0).setCell ⟨M, 1, none⟩ b1).setCell ⟨M, 2, none⟩ b2).setCell ⟨M, 3, none⟩ b3).setCell ⟨M, 4, none⟩ b4).setCell ⟨M, 5, none⟩ b5).setCell ⟨M, 6, none⟩ b6).setCell ⟨M, 7, none⟩ b7).setCell ⟨M, 8, none⟩ b8).setCell ⟨M, 9, none⟩ b9).setCell ⟨M, 10, none⟩ b10) := by
  have h1 := ((((((((((h.set_ 0 b0).set_ 1 b1).set_ 2 b2).set_ 3 b3).set_ 4 b4).set_ 5 b5).set_ 6 b6).set_ 7 b7).set_ 8 b8).set_ 9 b9).set_ 10 b10
  simp only [List.setIfInBounds_toArray, List.set_cons_zero, List.set_cons_succ] at h1
  exact ⟨h1, ((((((((((((Same.refl (oneB M) W).set1 0 b0).set1 1 b1).set1 2 b2).set1 3 b3).set1 4 b4).set1 5 b5).set1 6 b6).set1 7 b7).set1 8 b8).set1 9 b9).set1 10 b10)⟩

set_option maxHeartbeats 4000000 in
theorem example15_any (w : World) : Calls Try.prog 32 #[] w fun e w' => ∃ p on, e = .returned (mdlVal p (exD on 0)) ∧ MdlIn w' p (exD on 0) ∧ On2 w' on ∧ Same noB w w' := by
  go_enter Try.func32, Try.ntmps32
  go_wp2_with fail
  refine (example_b _).mono ?_
  rintro e w1 ⟨rfl, hin, hs⟩
  have HB : Hid (Blk w1 w.heap.size 29 #[.slice none 0 0, .slice none 0 0, .slice none 0 0, .slice none 0 0, .slice none 0 0, .slice none 0 0, .int .i64 0, .int .i64 0, .int .i64 0, .int .i64 0, .slice none 0 0]) := (Blk.new w 29 _).same hs (fun x => x)
  have HS : Hid (Same noB w w1) := ((Same.refl _ _).alloc _).trans' hs
  have hz : (w.alloc (.cells #[.slice none 0 0, .slice none 0 0, .slice none 0 0, .slice none 0 0, .slice none 0 0, .slice none 0 0, .int .i64 0, .int .i64 0, .int .i64 0, .int .i64 0, .slice none 0 0] 29)).heap.size = w.heap.size + 1 := by simp
  rw [hz] at hin ⊢
  clear hz
  have HI := Lib.hid hin
  have HLO : Hid (w.heap.size ≤ w.heap.size) := Nat.le_refl _
  clear hs hin
  generalize hM : w.heap.size = M0 at HB HI ⊢
  rw [hM] at HLO
  rw [show (M0 ≤ M0) = (w.heap.size ≤ M0) from by rw [hM]] at HLO
  clear hM
  have hlt := HB.out.lt
  unfold mdlVal
  go_upto_region 4 with (fail)
  have HF := Lib.hid (exF_of HB.out HI.out (Nat.le_succ M0) HLO.out HS.out)
  refine wp_abs (fun W => Hid (ExF w W M0 w1.heap.size (M0 + 1) (w1.heap.size + 1) (w1.heap.size + 1 + 1))) HF ?_
  clear HF HB HI HS HLO hlt
  generalize w1.heap.size + 1 + 1 = g2 at *
  generalize w1.heap.size + 1 = g1 at *
  generalize w1.heap.size = M1 at *
  intro W HF
  have d0 := HF.out.z.cell 0
  have e0 := HF.out.z.frozen 0
  have q0 := HF.out.b.cell 0
  have d1 := HF.out.z.cell 1
  have e1 := HF.out.z.frozen 1
  have q1 := HF.out.b.cell 1
  have d2 := HF.out.z.cell 2
  have e2 := HF.out.z.frozen 2
  have q2 := HF.out.b.cell 2
  have d3 := HF.out.z.cell 3
  have e3 := HF.out.z.frozen 3
  have q3 := HF.out.b.cell 3
  have d4 := HF.out.z.cell 4
  have e4 := HF.out.z.frozen 4
  have q4 := HF.out.b.cell 4
  have d5 := HF.out.z.cell 5
  have e5 := HF.out.z.frozen 5
  have q5 := HF.out.b.cell 5
  have d6 := HF.out.z.cell 6
  have e6 := HF.out.z.frozen 6
  have q6 := HF.out.b.cell 6
  have d7 := HF.out.z.cell 7
  have e7 := HF.out.z.frozen 7
  have q7 := HF.out.b.cell 7
  have d8 := HF.out.z.cell 8
  have e8 := HF.out.z.frozen 8
  have q8 := HF.out.b.cell 8
  have d9 := HF.out.z.cell 9
  have e9 := HF.out.z.frozen 9
  have q9 := HF.out.b.cell 9
  have d10 := HF.out.z.cell 10
  have e10 := HF.out.z.frozen 10
  have q10 := HF.out.b.cell 10
  simp only [mdlCells, List.getElem?_toArray, List.getElem?_cons_zero, List.getElem?_cons_succ] at d0 q0 d1 q1 d2 q2 d3 q3 d4 q4 d5 q5 d6 q6 d7 q7 d8 q8 d9 q9 d10 q10
  go_wp2_with fail
  clear d0 e0 q0 d1 e1 q1 d2 e2 q2 d3 e3 q3 d4 e4 q4 d5 e5 q5 d6 e6 q6 d7 e7 q7 d8 e8 q8 d9 e9 q9 d10 e10 q10
  obtain ⟨h1, h2⟩ := HF.out.fin (set11 HF.out.z).2 (set11 HF.out.z).1
  exact bodyPost_ret (res_mdl rfl h1 rfl) rfl ⟨_, _, rfl, h2⟩
end Go.Proofs.Ytpngmodgnkjhnaa
