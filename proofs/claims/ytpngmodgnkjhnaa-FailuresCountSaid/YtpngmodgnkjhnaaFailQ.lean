/- Layer 21: a model, a placement and two failures in their boxes. -/
import Derived.Test.YtpngmodgnkjhnaaFailP
import Derived.Deep.CutRange
namespace Go.Proofs.Ytpngmodgnkjhnaa
open Go Go.RowKit Go.Maps
set_option maxRecDepth 100000

structure LB (w0 W : World) (p : MPl) (m : Mdl) (s : Sl) (P : List (List Un)) (f g : Fl) (M Q F G : Nat) : Prop where
  mq : MQ w0 W p m s P M Q
  fb : Blk W F 31 #[.int .i64 f.by_, .int .i64 f.num]
  gb : Blk W G 31 #[.int .i64 g.by_, .int .i64 g.num]
theorem LB.keep {w0 W W' : World} {p : MPl} {m : Mdl} {s : Sl} {P : List (List Un)} {f g : Fl} {M Q F G : Nat} (h : LB w0 W p m s P f g M Q F G) (hs : Same noB W W') : LB w0 W' p m s P f g M Q F G := ⟨h.mq.keep hs, h.fb.same hs (fun x => x), h.gb.same hs (fun x => x)⟩
theorem LB.all {w0 W : World} {p : MPl} {m : Mdl} {s : Sl} {P : List (List Un)} {f g : Fl} {M Q F G : Nat} (h : LB w0 W p m s P f g M Q F G) : W.cell? ⟨F, 0, none⟩ = some (.int .i64 f.by_) ∧ W.cell? ⟨F, 1, none⟩ = some (.int .i64 f.num) ∧ W.cell? ⟨G, 0, none⟩ = some (.int .i64 g.by_) ∧ W.cell? ⟨G, 1, none⟩ = some (.int .i64 g.num) :=
  ⟨h.fb.cell 0, h.fb.cell 1, h.gb.cell 0, h.gb.cell 1⟩
theorem LB.start {w : World} {p : MPl} {m : Mdl} {s : Sl} {P : List (List Un)} (h : MdlIn w p m) (hp : PlIn w s P) (f g : Fl) :
    LB w ((((w.alloc (.cells (mdlCells p m) 29)).alloc (.cells #[.slice s.addr s.len s.cap] 41)).alloc (.cells #[.int .i64 f.by_, .int .i64 f.num] 31)).alloc (.cells #[.int .i64 g.by_, .int .i64 g.num] 31)) p m s P f g w.heap.size (w.heap.size + 1) (w.heap.size + 1 + 1) (w.heap.size + 1 + 1 + 1) := by
  have b1 := new_at (w := (w.alloc (.cells (mdlCells p m) 29)).alloc (.cells #[.slice s.addr s.len s.cap] 41)) (n := w.heap.size + 1 + 1) (by simp) 31 #[.int .i64 f.by_, .int .i64 f.num]
  have b2 := new_at (w := ((w.alloc (.cells (mdlCells p m) 29)).alloc (.cells #[.slice s.addr s.len s.cap] 41)).alloc (.cells #[.int .i64 f.by_, .int .i64 f.num] 31)) (n := w.heap.size + 1 + 1 + 1) (by simp) 31 #[.int .i64 g.by_, .int .i64 g.num]
  exact ⟨((MQ.start h hp).keep ((Same.refl _ _).alloc _)).keep ((Same.refl _ _).alloc _), b1.alloc _, b2⟩
end Go.Proofs.Ytpngmodgnkjhnaa
