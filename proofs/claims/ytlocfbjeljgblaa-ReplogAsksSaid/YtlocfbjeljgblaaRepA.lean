/- Layer 36: entries of a log, in plain words and as they lie in memory; lists and configurations that are equal. -/
import Derived.Test.YtlocfbjeljgblaaRows
import Derived.Test.YtlocfbjeljgblaaGen
import Derived.Deep.LoopGhost
import Derived.Deep.CutRange
namespace Go.Proofs.Ytlocfbjeljgblaa
open Go Go.RowKit
set_option maxRecDepth 100000

/-- A slice's own cells: where it lies. -/
structure Sl where
  addr : Option Addr
  len : Nat
  cap : Nat
/-- What a command holds besides its lists. -/
structure CmS where
  k : Int
  c : Int
  n : Int
  b : ByteArray
  g : Int
  s : Int
  ck : Int
  cm : Int
/-- A command as it lies in memory. -/
structure Cm where
  s : CmS
  f1 : Sl
  f2 : Sl
  f3 : Sl
  f4 : Sl
  f5 : Sl
/-- A command with its lists. -/
structure CmV where
  s : CmS
  l1 : List Int
  l2 : List Int
  l3 : List Int
  l4 : List Int
  l5 : List Int
structure En where
  i : Int
  t : Int
  c : Cm
structure EnV where
  i : Int
  t : Int
  c : CmV
def Sl.val (s : Sl) : Value := .slice s.addr s.len s.cap
def CmS.cells (s : CmS) : List Value := [.int .i64 s.k, .int .i64 s.c, .int .i64 s.n, .string s.b, .int .i64 s.g, .int .i64 s.s, .int .i64 s.ck, .int .i64 s.cm]
def Cm.cells (c : Cm) : List Value := [.int .i64 c.s.k, .int .i64 c.s.c, .int .i64 c.s.n, .string c.s.b, .int .i64 c.s.g, .int .i64 c.s.s, .int .i64 c.s.ck, .int .i64 c.s.cm, .slice c.f1.addr c.f1.len c.f1.cap, .slice c.f2.addr c.f2.len c.f2.cap, .slice c.f3.addr c.f3.len c.f3.cap, .slice c.f4.addr c.f4.len c.f4.cap, .slice c.f5.addr c.f5.len c.f5.cap]
def En.cells (e : En) : List Value := [.int .i64 e.i, .int .i64 e.t, .int .i64 e.c.s.k, .int .i64 e.c.s.c, .int .i64 e.c.s.n, .string e.c.s.b, .int .i64 e.c.s.g, .int .i64 e.c.s.s, .int .i64 e.c.s.ck, .int .i64 e.c.s.cm, .slice e.c.f1.addr e.c.f1.len e.c.f1.cap, .slice e.c.f2.addr e.c.f2.len e.c.f2.cap, .slice e.c.f3.addr e.c.f3.len e.c.f3.cap, .slice e.c.f4.addr e.c.f4.len e.c.f4.cap, .slice e.c.f5.addr e.c.f5.len e.c.f5.cap]
def Cm.val (c : Cm) : Value := .agg #[.int .i64 c.s.k, .int .i64 c.s.c, .int .i64 c.s.n, .string c.s.b, .int .i64 c.s.g, .int .i64 c.s.s, .int .i64 c.s.ck, .int .i64 c.s.cm, .slice c.f1.addr c.f1.len c.f1.cap, .slice c.f2.addr c.f2.len c.f2.cap, .slice c.f3.addr c.f3.len c.f3.cap, .slice c.f4.addr c.f4.len c.f4.cap, .slice c.f5.addr c.f5.len c.f5.cap]
def En.val (e : En) : Value := .agg #[.int .i64 e.i, .int .i64 e.t, .int .i64 e.c.s.k, .int .i64 e.c.s.c, .int .i64 e.c.s.n, .string e.c.s.b, .int .i64 e.c.s.g, .int .i64 e.c.s.s, .int .i64 e.c.s.ck, .int .i64 e.c.s.cm, .slice e.c.f1.addr e.c.f1.len e.c.f1.cap, .slice e.c.f2.addr e.c.f2.len e.c.f2.cap, .slice e.c.f3.addr e.c.f3.len e.c.f3.cap, .slice e.c.f4.addr e.c.f4.len e.c.f4.cap, .slice e.c.f5.addr e.c.f5.len e.c.f5.cap]
def ccells (l : List Cm) : List Value := l.flatMap Cm.cells
def ecells (l : List En) : List Value := l.flatMap En.cells

/-- A slice that reads as a list of ints. -/
def SlIs (w : World) (bad : Nat → Prop) (s : Sl) (l : List Int) : Prop := s.len = l.length ∧ Rd w bad 1 (.slice s.addr s.len s.cap) s.len (icells l)
/-- A command that reads as one with its lists. -/
structure CmIs (w : World) (bad : Nat → Prop) (c : Cm) (v : CmV) : Prop where
  s : c.s = v.s
  f1 : SlIs w bad c.f1 v.l1
  f2 : SlIs w bad c.f2 v.l2
  f3 : SlIs w bad c.f3 v.l3
  f4 : SlIs w bad c.f4 v.l4
  f5 : SlIs w bad c.f5 v.l5
structure EnIs (w : World) (bad : Nat → Prop) (e : En) (v : EnV) : Prop where
  i : e.i = v.i
  t : e.t = v.t
  c : CmIs w bad e.c v.c
/-- Pointwise. -/
inductive All2 {α β : Type} (R : α → β → Prop) : List α → List β → Prop
  | nil : All2 R [] []
  | cons {a : α} {b : β} {l : List α} {m : List β} : R a b → All2 R l m → All2 R (a :: l) (b :: m)
namespace All2
variable {α β : Type} {R R' : α → β → Prop} {l l' : List α} {m m' : List β}
theorem len (h : All2 R l m) : l.length = m.length := by
  induction h with
  | nil => rfl
  | cons _ _ ih => simp [ih]
theorem imp (h : All2 R l m) (f : ∀ a b, R a b → R' a b) : All2 R' l m := by
  induction h with
  | nil => exact .nil
  | cons h _ ih => exact .cons (f _ _ h) ih
theorem at_ (h : All2 R l m) {k : Nat} {a : α} (ha : l[k]? = some a) : ∃ b, m[k]? = some b ∧ R a b := by
  induction h generalizing k with
  | nil => simp at ha
  | cons h _ ih =>
    cases k with
    | zero => simp at ha; subst ha; exact ⟨_, rfl, h⟩
    | succ k => simp at ha; exact ih ha
theorem at2 (h : All2 R l m) {k : Nat} {b : β} (hb : m[k]? = some b) : ∃ a, l[k]? = some a ∧ R a b := by
  induction h generalizing k with
  | nil => simp at hb
  | cons h _ ih =>
    cases k with
    | zero => simp at hb; subst hb; exact ⟨_, rfl, h⟩
    | succ k => simp at hb; exact ih hb
theorem app (h : All2 R l m) (h' : All2 R l' m') : All2 R (l ++ l') (m ++ m') := by
  induction h with
  | nil => exact h'
  | cons h _ ih => exact .cons h ih
theorem one {a : α} {b : β} (h : R a b) : All2 R [a] [b] := .cons h .nil
theorem take (h : All2 R l m) (k : Nat) : All2 R (l.take k) (m.take k) := by
  induction h generalizing k with
  | nil => simp; exact .nil
  | cons h _ ih =>
    cases k with
    | zero => exact .nil
    | succ k => exact .cons h (ih k)
theorem drop (h : All2 R l m) (k : Nat) : All2 R (l.drop k) (m.drop k) := by
  induction h generalizing k with
  | nil => simp; exact .nil
  | cons h t ih =>
    cases k with
    | zero => exact .cons h t
    | succ k => exact ih k
end All2
/-- A slice that reads as a list of entries with their lists. -/
structure EnL (w : World) (bad : Nat → Prop) (v : Value) (es : List En) (vs : List EnV) : Prop where
  rd : Rd w bad 15 v es.length (ecells es)
  is : All2 (EnIs w bad) es vs
structure CmL (w : World) (bad : Nat → Prop) (v : Value) (cs : List Cm) (vs : List CmV) : Prop where
  rd : Rd w bad 13 v cs.length (ccells cs)
  is : All2 (CmIs w bad) cs vs
section
variable {w w' : World} {S bad bad' : Nat → Prop}
theorem SlIs.same {s : Sl} {l : List Int} (h : SlIs w bad s l) (hs : Same S w w') (hn : ∀ b, b < w.heap.size → S b → bad b) (hb : ∀ b, b < w.heap.size → bad' b → bad b) : SlIs w' bad' s l := ⟨h.1, h.2.same hs hn hb⟩
theorem CmIs.same {c : Cm} {v : CmV} (h : CmIs w bad c v) (hs : Same S w w') (hn : ∀ b, b < w.heap.size → S b → bad b) (hb : ∀ b, b < w.heap.size → bad' b → bad b) : CmIs w' bad' c v := ⟨h.s, h.f1.same hs hn hb, h.f2.same hs hn hb, h.f3.same hs hn hb, h.f4.same hs hn hb, h.f5.same hs hn hb⟩
theorem EnIs.same {e : En} {v : EnV} (h : EnIs w bad e v) (hs : Same S w w') (hn : ∀ b, b < w.heap.size → S b → bad b) (hb : ∀ b, b < w.heap.size → bad' b → bad b) : EnIs w' bad' e v := ⟨h.i, h.t, h.c.same hs hn hb⟩
theorem EnL.same {v : Value} {es : List En} {vs : List EnV} (h : EnL w bad v es vs) (hs : Same S w w') (hn : ∀ b, b < w.heap.size → S b → bad b) (hb : ∀ b, b < w.heap.size → bad' b → bad b) : EnL w' bad' v es vs := ⟨h.rd.same hs hn hb, h.is.imp fun _ _ h => h.same hs hn hb⟩
theorem CmL.same {v : Value} {cs : List Cm} {vs : List CmV} (h : CmL w bad v cs vs) (hs : Same S w w') (hn : ∀ b, b < w.heap.size → S b → bad b) (hb : ∀ b, b < w.heap.size → bad' b → bad b) : CmL w' bad' v cs vs := ⟨h.rd.same hs hn hb, h.is.imp fun _ _ h => h.same hs hn hb⟩
theorem SlIs.keep {s : Sl} {l : List Int} (h : SlIs w bad s l) (hs : Same noB w w') : SlIs w' bad s l := h.same hs (fun _ _ x => x.elim) (fun _ _ x => x)
theorem CmIs.keep {c : Cm} {v : CmV} (h : CmIs w bad c v) (hs : Same noB w w') : CmIs w' bad c v := h.same hs (fun _ _ x => x.elim) (fun _ _ x => x)
theorem EnIs.keep {e : En} {v : EnV} (h : EnIs w bad e v) (hs : Same noB w w') : EnIs w' bad e v := h.same hs (fun _ _ x => x.elim) (fun _ _ x => x)
theorem EnL.keep {v : Value} {es : List En} {vs : List EnV} (h : EnL w bad v es vs) (hs : Same noB w w') : EnL w' bad v es vs := h.same hs (fun _ _ x => x.elim) (fun _ _ x => x)
theorem CmL.keep {v : Value} {cs : List Cm} {vs : List CmV} (h : CmL w bad v cs vs) (hs : Same noB w w') : CmL w' bad v cs vs := h.same hs (fun _ _ x => x.elim) (fun _ _ x => x)
theorem EnL.len {v : Value} {es : List En} {vs : List EnV} (h : EnL w bad v es vs) : es.length = vs.length := h.is.len
end

theorem slI : SlT Try.prog 49 3 1 8 := SlT.mk_ (z := .int .i64 0) Try.underlying49 (by kernel_rfl) rfl (by decide) (by decide)
theorem ints_true {w : World} {bad bad' : Nat → Prop} {s s' : Sl} {l : List Int} (h1 : SlIs w bad s l) (h2 : SlIs w bad' s' l) :
    Calls Try.prog 56 #[.slice s.addr s.len s.cap, .slice s'.addr s'.len s'.cap] w fun e w' => e = .returned (.bool true) ∧ Same noB w w' := by
  obtain ⟨A, n, c⟩ := s
  obtain ⟨A', n', c'⟩ := s'
  obtain ⟨hn1, hr1⟩ := h1
  obtain ⟨hn2, hr2⟩ := h2
  simp only at *
  subst hn1 hn2
  have hn := hr1.caps
  have H1 := Lib.hid hr1
  have H2 := Lib.hid hr2
  clear hr1 hr2
  go_enter Try.func56, Try.ntmps56
  go_wp2_with fail
  go_loopw [5] (fun i wr => ∃ k : Nat, k ≤ l.length ∧ i = .int .i64 k ∧ Hid (Same noB w wr)) (fun i _ => l.length - (intOf i).toNat)
  case atStart => exact ⟨0, Nat.zero_le _, rfl, Same.refl _ _⟩
  case round =>
    obtain ⟨k, hk, rfl, HS⟩ := hrel
    by_cases hlt : k < l.length
    · obtain ⟨b, o, rfl, r1⟩ := H1.out.at_ (by omega)
      obtain ⟨b', o', rfl, r2⟩ := H2.out.at_ (by omega)
      obtain ⟨y, hy⟩ : ∃ y, l[k]? = some y := ⟨_, List.getElem?_eq_getElem hlt⟩
      have p0 := (HS.out).cell (r1.cell k _ (icells_at hy)) (fun x => x)
      have q0 := (HS.out).cell (r2.cell k _ (icells_at hy)) (fun x => x)
      clear r1 r2 hy
      go_wp2_with fail
      go_region
      all_goals go_wp2_with fail
      all_goals
        go_roundw
        case rel => exact ⟨k + 1, by omega, by go_num, HS.out.drew⟩
        case measure => simp [intOf]; omega
    · obtain rfl : k = l.length := by omega
      go_wp2_with fail
      go_ret
      exact ⟨rfl, HS.out⟩
end Go.Proofs.Ytlocfbjeljgblaa
