/- Layer 14: the example of the chapter. -/
import Derived.Test.YtpngmodgnkjhnaaSiteE
namespace Go.Proofs.Ytpngmodgnkjhnaa
open Go Go.RowKit Go.Maps
set_option maxRecDepth 100000

def exM : Mdl where
  sites := [⟨#[97]⟩, ⟨#[98]⟩]
  feeds := [⟨#[102]⟩]
  racks := [⟨⟨#[114]⟩, 1, 1⟩]
  machines := [⟨⟨#[109, 49]⟩, 1, 10⟩, ⟨⟨#[109, 50]⟩, 1, 5⟩]
  links := [⟨1, 2, 3⟩]
  items := []
  dark := 0
  slots := 0
  reserve := 0
  failures := 0
  rules := []
theorem ex_ok : exM.Ok := by
  refine ⟨fun x hx => ?_, fun x hx => ?_, fun x hx => ?_⟩
  · simp [exM] at hx
    subst hx
    exact ⟨inI64_of (by decide) (by decide), inI64_of (by decide) (by decide)⟩
  · simp [exM] at hx
    rcases hx with rfl | rfl <;> exact ⟨inI64_of (by decide) (by decide), inI64_of (by decide) (by decide)⟩
  · simp [exM] at hx
    subst hx
    exact ⟨inI64_of (by decide) (by decide), inI64_of (by decide) (by decide), inI64_of (by decide) (by decide)⟩

/-- Where the example lies. -/
def exP (B : Nat) : MPl := ⟨⟨some ⟨B + 1, 0, none⟩, 2, 2⟩, ⟨some ⟨B + 1 + 1, 0, none⟩, 1, 1⟩, ⟨some ⟨B + 1 + 1 + 1, 0, none⟩, 1, 1⟩, ⟨some ⟨B + 1 + 1 + 1 + 1, 0, none⟩, 2, 2⟩, ⟨some ⟨B + 1 + 1 + 1 + 1 + 1, 0, none⟩, 1, 1⟩, ⟨none, 0, 0⟩, ⟨none, 0, 0⟩⟩
def exW (w : World) : World := (((((w.alloc (.cells (mdlCells (exP w.heap.size) exM) 29)).alloc (.cells (scells exM.sites).toArray 9)).alloc (.cells (scells exM.feeds).toArray 9)).alloc (.cells (rkcells exM.racks).toArray 59)).alloc (.cells (mccells exM.machines).toArray 57)).alloc (.cells (lkcells exM.links).toArray 101)
theorem new_at {w : World} {n : Nat} (h : w.heap.size = n) (t : TypeId) (cs : Array Value) : Blk (w.alloc (.cells cs t)) n t cs := by
  subst h
  exact Blk.new _ _ _
theorem exW_in (w : World) : Blk (exW w) w.heap.size 29 (mdlCells (exP w.heap.size) exM) ∧ MdlIn (exW w) (exP w.heap.size) exM ∧ Same noB w (exW w) := by
  unfold exW
  have b0 := new_at (w := w) rfl 29 (mdlCells (exP w.heap.size) exM)
  have b1 := new_at (w := w.alloc (.cells (mdlCells (exP w.heap.size) exM) 29)) (n := w.heap.size + 1) (by simp) 9 (scells exM.sites).toArray
  have b2 := new_at (w := (w.alloc (.cells (mdlCells (exP w.heap.size) exM) 29)).alloc (.cells (scells exM.sites).toArray 9)) (n := w.heap.size + 1 + 1) (by simp) 9 (scells exM.feeds).toArray
  have b3 := new_at (w := ((w.alloc (.cells (mdlCells (exP w.heap.size) exM) 29)).alloc (.cells (scells exM.sites).toArray 9)).alloc (.cells (scells exM.feeds).toArray 9)) (n := w.heap.size + 1 + 1 + 1) (by simp) 59 (rkcells exM.racks).toArray
  have b4 := new_at (w := (((w.alloc (.cells (mdlCells (exP w.heap.size) exM) 29)).alloc (.cells (scells exM.sites).toArray 9)).alloc (.cells (scells exM.feeds).toArray 9)).alloc (.cells (rkcells exM.racks).toArray 59)) (n := w.heap.size + 1 + 1 + 1 + 1) (by simp) 57 (mccells exM.machines).toArray
  have b5 := new_at (w := ((((w.alloc (.cells (mdlCells (exP w.heap.size) exM) 29)).alloc (.cells (scells exM.sites).toArray 9)).alloc (.cells (scells exM.feeds).toArray 9)).alloc (.cells (rkcells exM.racks).toArray 59)).alloc (.cells (mccells exM.machines).toArray 57)) (n := w.heap.size + 1 + 1 + 1 + 1 + 1) (by simp) 101 (lkcells exM.links).toArray
  refine ⟨((((b0.alloc _).alloc _).alloc _).alloc _).alloc _, ⟨?_, ?_, ?_, ?_, ?_, Rd.nil_ _ _ _, Rd.nil_ _ _ _, ex_ok, rfl, rfl, rfl, rfl, rfl, rfl, rfl⟩, (((((Same.refl _ _).alloc _).alloc _).alloc _).alloc _).alloc _ |>.alloc _⟩
  · exact Rd.of_blk ((((b1.alloc _).alloc _).alloc _).alloc _) (fun x => x) rfl (Nat.le_refl _) (by simp [maxLen, exP])
  · exact Rd.of_blk (((b2.alloc _).alloc _).alloc _) (fun x => x) rfl (Nat.le_refl _) (by simp [maxLen, exP])
  · exact Rd.of_blk ((b3.alloc _).alloc _) (fun x => x) rfl (Nat.le_refl _) (by simp [maxLen, exP])
  · exact Rd.of_blk (b4.alloc _) (fun x => x) rfl (Nat.le_refl _) (by simp [maxLen, exP])
  · exact Rd.of_blk b5 (fun x => x) rfl (Nat.le_refl _) (by simp [maxLen, exP])
theorem res_mdl {fn : Func} {i : Nat} (hres : fn.results = #[.cell i 29]) {tmps : Array Value} {w : World} {g : Nat} {p : MPl} {m : Mdl} (hb : Blk w g 29 (mdlCells p m)) (h4 : tmps.getD i undef = .pointer (some ⟨g, 0, none⟩)) :
    (results fn tmps).run Try.prog w = .ok (mdlVal p m) w := by
  have c0 : w.cell? ⟨g, 0, none⟩ = some (.slice p.s.addr p.s.len p.s.cap) := hb.cell 0
  have c1 : w.cell? ⟨g, 1, none⟩ = some (.slice p.f.addr p.f.len p.f.cap) := hb.cell 1
  have c2 : w.cell? ⟨g, 2, none⟩ = some (.slice p.r.addr p.r.len p.r.cap) := hb.cell 2
  have c3 : w.cell? ⟨g, 3, none⟩ = some (.slice p.mc.addr p.mc.len p.mc.cap) := hb.cell 3
  have c4 : w.cell? ⟨g, 4, none⟩ = some (.slice p.l.addr p.l.len p.l.cap) := hb.cell 4
  have c5 : w.cell? ⟨g, 5, none⟩ = some (.slice p.i.addr p.i.len p.i.cap) := hb.cell 5
  have c6 : w.cell? ⟨g, 6, none⟩ = some (.int .i64 m.dark) := hb.cell 6
  have c7 : w.cell? ⟨g, 7, none⟩ = some (.int .i64 m.slots) := hb.cell 7
  have c8 : w.cell? ⟨g, 8, none⟩ = some (.int .i64 m.reserve) := hb.cell 8
  have c9 : w.cell? ⟨g, 9, none⟩ = some (.int .i64 m.failures) := hb.cell 9
  have c10 : w.cell? ⟨g, 10, none⟩ = some (.slice p.ru.addr p.ru.len p.ru.cap) := hb.cell 10
  simp only [Array.getD_eq_getD_getElem?] at h4
  simp [results, hres, go_sem, h4, c0, c1, c2, c3, c4, c5, c6, c7, c8, c9, c10, mdlVal]
theorem example_any (w : World) : Calls Try.prog 50 #[] w fun e w' => ∃ p, e = .returned (mdlVal p exM) ∧ MdlIn w' p exM ∧ Same noB w w' := by
  go_enter Try.func50, Try.ntmps50
  go_wp2_with fail
  obtain ⟨h1, h2, h3⟩ := exW_in w
  exact bodyPost_ret (res_mdl rfl h1 rfl) rfl ⟨_, rfl, h2, h3⟩
end Go.Proofs.Ytpngmodgnkjhnaa
