/- Layer 10: networks and flows, in plain words and in memory; Valid of the program. (printed by genFloA.py) -/
import Derived.Test.YtpalacfgpcpppaaRows
import Derived.Test.YtpalacfgpcpppaaGen
import Derived.Test.YtpalacfgpcpppaaLate
import Derived.Deep.LoopGhost
import Derived.Deep.CutRange
namespace Go.Proofs.Ytpalacfgpcpppaa
open Go Go.RowKit
set_option maxRecDepth 100000

structure Sl where
  addr : Option Addr
  len : Nat
  cap : Nat
/-- An arc. -/
structure ArcV where
  f : Int
  t : Int
  c : Int
  d : Int
/-- A network; sl: where its arcs lie. -/
structure NetV where
  nodes : Int
  source : Int
  sink : Int
  arcs : List ArcV
  hold : Int
  sl : Sl
def ArcV.cells (a : ArcV) : List Value := [.int .i64 a.f, .int .i64 a.t, .int .i64 a.c, .int .i64 a.d]
def ArcV.val (a : ArcV) : Value := .agg #[.int .i64 a.f, .int .i64 a.t, .int .i64 a.c, .int .i64 a.d]
def acells (l : List ArcV) : List Value := l.flatMap ArcV.cells
def NetV.val (n : NetV) : Value := .agg #[.int .i64 n.nodes, .int .i64 n.source, .int .i64 n.sink, .slice n.sl.addr n.sl.len n.sl.cap, .int .i64 n.hold]
def NetV.cells (n : NetV) : Array Value := #[.int .i64 n.nodes, .int .i64 n.source, .int .i64 n.sink, .slice n.sl.addr n.sl.len n.sl.cap, .int .i64 n.hold]
/-- The arcs of a network as they lie in memory. -/
structure NetIs (w : World) (n : NetV) : Prop where
  len : n.sl.len = n.arcs.length
  rd : Rd w noB 4 (.slice n.sl.addr n.sl.len n.sl.cap) n.sl.len (acells n.arcs)
theorem NetIs.keep {w w' : World} {n : NetV} (h : NetIs w n) (hs : Same noB w w') : NetIs w' n := ⟨h.len, h.rd.keep hs⟩
/-- Below the world that a call is entered in nothing changes: what it makes is new. -/
theorem NetIs.old {w w' : World} {n : NetV} (h : NetIs w n) (hs : Below w.heap.size w w') : NetIs w' n := h.keep (Same.of_below hs)
theorem arc_at {w : World} {bad : Nat → Prop} {b o k : Nat} {l : List ArcV} {x : ArcV} (r : RdAt w bad b o (acells l)) (h : l[k]? = some x) :
    w.cell? ⟨b, o + k * 4, none⟩ = some (.int .i64 x.f) ∧ w.cell? ⟨b, o + k * 4 + 1, none⟩ = some (.int .i64 x.t) ∧ w.cell? ⟨b, o + k * 4 + 2, none⟩ = some (.int .i64 x.c) ∧ w.cell? ⟨b, o + k * 4 + 3, none⟩ = some (.int .i64 x.d) := by
  have cc := fun (j : Nat) (hj : j < 4) (u : Value) (hu : x.cells[j]? = some u) => r.cell (k * 4 + j) u ((flat_at ArcV.cells 4 (fun _ => rfl) h j hj).trans hu)
  refine ⟨cc 0 (by omega) _ rfl, ?_, ?_, ?_⟩
  · have := cc 1 (by omega) _ rfl; rwa [← Nat.add_assoc] at this
  · have := cc 2 (by omega) _ rfl; rwa [← Nat.add_assoc] at this
  · have := cc 3 (by omega) _ rfl; rwa [← Nat.add_assoc] at this
theorem row_stored {w : World} {G : Nat} {t : TypeId} {cs : Array Value} (hb : Blk w G t cs) (ds : Array Value) : Blk (w.setRow G ds) G t ds ∧ Same (oneB G) w (w.setRow G ds) := by
  have h1 : Blk (w.setRow G ds) G t ds := setRow_heap w G cs _ t (0, 0) hb
  exact ⟨h1, ⟨rfl, rfl, rfl, by simp, fun b _ hn => setRow_other w G b _ (fun e => hn e)⟩⟩
def exB (nodes v : Int) : Bool := decide (0 ≤ v) && decide (v < nodes)
def amB (x : Int) : Bool := decide (0 ≤ x) && decide (x ≤ 1099511627776)
def arcBad (nodes : Int) (a : ArcV) : Bool := !exB nodes a.f || !exB nodes a.t || a.f == a.t || !amB a.c || decide (a.d < 0) || decide (16 < a.d)
def NetV.headB (n : NetV) : Bool := !decide (n.nodes < 2) && !decide (400 < n.nodes) && exB n.nodes n.source && exB n.nodes n.sink && !(n.source == n.sink) && !decide (4000 < (n.arcs.length : Int)) && amB n.hold
def NetV.validB (n : NetV) : Bool := n.headB && !n.arcs.any (arcBad n.nodes)
def fidx {α : Type} (p : α → Bool) (l : List α) : Int := match l.findIdx? p with | some i => (i : Int) | none => -1
theorem fidx_some {α : Type} {p : α → Bool} {l : List α} {k : Nat} {y : α} (h : l[k]? = some y) (hp : p y = true) (hn : ∀ (j : Nat) (z : α), j < k → l[j]? = some z → p z = false) : fidx p l = (k : Int) := by
  have hk : k < l.length := (List.getElem?_eq_some_iff.1 h).1
  have hy : l[k] = y := (List.getElem?_eq_some_iff.1 h).2
  have : l.findIdx? p = some k := by
    rw [List.findIdx?_eq_some_iff_getElem]
    exact ⟨hk, by rw [hy]; exact hp, fun j hj => by rw [hn j _ hj (List.getElem?_eq_getElem (by omega))]; simp⟩
  unfold fidx
  rw [this]
theorem fidx_none {α : Type} {p : α → Bool} {l : List α} (hn : ∀ (j : Nat) (z : α), l[j]? = some z → p z = false) : fidx p l = -1 := by
  have : l.findIdx? p = none := by
    rw [List.findIdx?_eq_none_iff]
    intro x hx
    obtain ⟨j, hj, rfl⟩ := List.getElem_of_mem hx
    exact hn j _ (List.getElem?_eq_getElem hj)
  unfold fidx
  rw [this]
theorem fidx_any {α : Type} (p : α → Bool) (l : List α) : decide (0 ≤ fidx p l) = l.any p := by
  unfold fidx
  cases h : l.findIdx? p with
  | none =>
    rw [List.findIdx?_eq_none_iff] at h
    have : l.any p = false := by
      rw [List.any_eq_false]
      exact fun x hx => by rw [h x hx]; simp
    rw [this]
    rfl
  | some i =>
    rw [List.findIdx?_eq_some_iff_getElem] at h
    obtain ⟨hi, h1, _⟩ := h
    have : l.any p = true := List.any_eq_true.2 ⟨l[i], List.getElem_mem hi, h1⟩
    rw [this]
    exact decide_eq_true (Int.natCast_nonneg _)
theorem fidx_lt {α : Type} (p : α → Bool) (l : List α) : -1 ≤ fidx p l ∧ fidx p l < (l.length : Int) ∨ l = [] ∧ fidx p l = -1 := by
  unfold fidx
  cases h : l.findIdx? p with
  | none =>
    cases l with
    | nil => exact .inr ⟨rfl, rfl⟩
    | cons x l => left; exact ⟨Int.le_refl _, by simp only [List.length_cons]; omega⟩
  | some i =>
    rw [List.findIdx?_eq_some_iff_getElem] at h
    obtain ⟨hi, _⟩ := h
    left
    constructor
    · simp only; omega
    · simp only; omega



theorem ex32 {w : World} {N : Nat} {nodes : Int} (c0 : w.cell? ⟨N, 0, none⟩ = some (.int .i64 nodes)) (v : Int) :
    Calls Try.prog 32 #[.int .i64 v, .pointer (some ⟨N, 0, none⟩)] w fun r w' => r = .returned (.bool (exB nodes v)) ∧ Same noB w w' := by
  unfold exB
  by_cases h1 : 0 ≤ v
  · have d1 : decide (0 ≤ v) = true := decide_eq_true h1
    rw [d1, Bool.true_and]
    clear h1
    go_enter Try.func32, Try.ntmps32
    go_wp2_with fail
    go_ret
    exact ⟨rfl, Same.refl _ _⟩
  · have d1 : decide (0 ≤ v) = false := decide_eq_false h1
    rw [d1, Bool.false_and]
    clear h1
    go_enter Try.func32, Try.ntmps32
    go_wp2_with fail
    go_ret
    exact ⟨rfl, Same.refl _ _⟩
theorem am33 (w : World) (v : Int) : Calls Try.prog 33 #[.int .i64 v] w fun r w' => r = .returned (.bool (amB v)) ∧ Same noB w w' := by
  unfold amB
  by_cases h1 : 0 ≤ v
  · have d1 : decide (0 ≤ v) = true := decide_eq_true h1
    rw [d1, Bool.true_and]
    clear h1
    go_enter Try.func33, Try.ntmps33
    go_wp2_with fail
    go_ret
    exact ⟨rfl, Same.refl _ _⟩
  · have d1 : decide (0 ≤ v) = false := decide_eq_false h1
    rw [d1, Bool.false_and]
    clear h1
    go_enter Try.func33, Try.ntmps33
    go_wp2_with fail
    go_ret
    exact ⟨rfl, Same.refl _ _⟩
/-- The closures of Valid: exists over the box N, amount. -/
structure VlC (w : World) (N P Q : Nat) (nodes : Int) : Prop where
  n : w.cell? ⟨N, 0, none⟩ = some (.int .i64 nodes)
  p : w.cell? ⟨P, 0, none⟩ = some (.func (.func 32) #[] #[.pointer (some ⟨N, 0, none⟩)])
  q : w.cell? ⟨Q, 0, none⟩ = some (.func (.func 33) #[] #[])
theorem VlC.keep {w w' : World} {N P Q : Nat} {nodes : Int} (h : VlC w N P Q nodes) (hs : Same noB w w') : VlC w' N P Q nodes := ⟨hs.cell h.n (fun x => x), hs.cell h.p (fun x => x), hs.cell h.q (fun x => x)⟩
set_option maxHeartbeats 8000000 in
theorem bad35 {w : World} {N P Q : Nat} {nodes : Int} (hc : VlC w N P Q nodes) (x : ArcV) :
    Calls Try.prog 35 #[x.val, .pointer (some ⟨P, 0, none⟩), .pointer (some ⟨Q, 0, none⟩)] w fun r w' => r = .returned (.bool (arcBad nodes x)) ∧ Same noB w w' := by
  unfold ArcV.val
  have HC0 := Lib.hid hc
  clear hc
  go_enter Try.func35, Try.ntmps35
  go_upto_region 1 with (fail)
  refine wp_abs (fun W => Hid (Blk W w.heap.size 43 #[.int .i64 x.f, .int .i64 x.t, .int .i64 x.c, .int .i64 x.d]) ∧ Hid (Same noB w W)) ⟨Blk.new w 43 _, (Same.refl _ _).alloc _⟩ ?_
  rintro W0 ⟨HE, HS⟩
  obtain ⟨E, hE⟩ : ∃ E, w.heap.size = E := ⟨_, rfl⟩
  rw [hE] at HE ⊢
  clear hE
  have HC := Lib.hid (HC0.out.keep HS.out)
  clear HC0
  have cp := HC.out.p
  have cq := HC.out.q
  have x0 : W0.cell? ⟨E, 0, none⟩ = some (.int .i64 x.f) := HE.out.cell 0
  have x1 : W0.cell? ⟨E, 1, none⟩ = some (.int .i64 x.t) := HE.out.cell 1
  have x2 : W0.cell? ⟨E, 2, none⟩ = some (.int .i64 x.c) := HE.out.cell 2
  have x3 : W0.cell? ⟨E, 3, none⟩ = some (.int .i64 x.d) := HE.out.cell 3
  have HZ := Lib.hid (ex32 HC.out.n x.f)
  go_wp2_with fail
  (with_reducible refine Calls.mono HZ.out ?_)
  clear HZ
  rintro r W1 ⟨rfl, hs1⟩
  replace HC := Lib.hid (HC.out.keep hs1)
  replace HS := Lib.hid (HS.out.trans' hs1)
  replace HE := Lib.hid (HE.out.same hs1 (fun x => x))
  clear hs1 x0 x1 x2 x3 cp cq
  have cp := HC.out.p
  have cq := HC.out.q
  have x0 : W1.cell? ⟨E, 0, none⟩ = some (.int .i64 x.f) := HE.out.cell 0
  have x1 : W1.cell? ⟨E, 1, none⟩ = some (.int .i64 x.t) := HE.out.cell 1
  have x2 : W1.cell? ⟨E, 2, none⟩ = some (.int .i64 x.c) := HE.out.cell 2
  have x3 : W1.cell? ⟨E, 3, none⟩ = some (.int .i64 x.d) := HE.out.cell 3
  cases hb0 : exB nodes x.f with
  | false =>
    have HF : Hid (arcBad nodes x = true) := by show _ = _; unfold arcBad; simp [hb0]
    clear hb0
    go_wp2_with fail
    go_ret
    exact ⟨by rw [HF.out] <;> rfl, HS.out⟩
  | true =>
  have HZ := Lib.hid (ex32 HC.out.n x.t)
  go_wp2_with fail
  (with_reducible refine Calls.mono HZ.out ?_)
  clear HZ
  rintro r W2 ⟨rfl, hs1⟩
  replace HC := Lib.hid (HC.out.keep hs1)
  replace HS := Lib.hid (HS.out.trans' hs1)
  replace HE := Lib.hid (HE.out.same hs1 (fun x => x))
  clear hs1 x0 x1 x2 x3 cp cq
  have cp := HC.out.p
  have cq := HC.out.q
  have x0 : W2.cell? ⟨E, 0, none⟩ = some (.int .i64 x.f) := HE.out.cell 0
  have x1 : W2.cell? ⟨E, 1, none⟩ = some (.int .i64 x.t) := HE.out.cell 1
  have x2 : W2.cell? ⟨E, 2, none⟩ = some (.int .i64 x.c) := HE.out.cell 2
  have x3 : W2.cell? ⟨E, 3, none⟩ = some (.int .i64 x.d) := HE.out.cell 3
  cases hb1 : exB nodes x.t with
  | false =>
    have HF : Hid (arcBad nodes x = true) := by show _ = _; unfold arcBad; simp [hb1]
    clear hb1
    go_wp2_with fail
    go_ret
    exact ⟨by rw [HF.out] <;> rfl, HS.out⟩
  | true =>
  by_cases h2 : x.f = x.t
  · have HF : Hid (arcBad nodes x = true) := by show _ = _; unfold arcBad; simp [h2]
    have d2 : (x.f == x.t) = true := beq_iff_eq.2 h2
    rw [h2] at x0
    clear h2
    clear d2
    go_wp2_with fail
    go_ret
    exact ⟨by rw [HF.out] <;> rfl, HS.out⟩
  have d2 : (x.f == x.t) = false := beq_eq_false_iff_ne.2 h2
  have HZ := Lib.hid (am33 W2 x.c)
  go_wp2_with fail
  (with_reducible refine Calls.mono HZ.out ?_)
  clear HZ
  rintro r W3 ⟨rfl, hs1⟩
  replace HC := Lib.hid (HC.out.keep hs1)
  replace HS := Lib.hid (HS.out.trans' hs1)
  replace HE := Lib.hid (HE.out.same hs1 (fun x => x))
  clear hs1 x0 x1 x2 x3 cp cq
  have cp := HC.out.p
  have cq := HC.out.q
  have x0 : W3.cell? ⟨E, 0, none⟩ = some (.int .i64 x.f) := HE.out.cell 0
  have x1 : W3.cell? ⟨E, 1, none⟩ = some (.int .i64 x.t) := HE.out.cell 1
  have x2 : W3.cell? ⟨E, 2, none⟩ = some (.int .i64 x.c) := HE.out.cell 2
  have x3 : W3.cell? ⟨E, 3, none⟩ = some (.int .i64 x.d) := HE.out.cell 3
  cases hb3 : amB x.c with
  | false =>
    have HF : Hid (arcBad nodes x = true) := by show _ = _; unfold arcBad; simp [hb3]
    clear hb3
    go_wp2_with fail
    go_ret
    exact ⟨by rw [HF.out] <;> rfl, HS.out⟩
  | true =>
  by_cases h4 : x.d < 0
  · have HF : Hid (arcBad nodes x = true) := by show _ = _; unfold arcBad; simp [h4]
    have d4 : decide (x.d < 0) = true := decide_eq_true h4
    clear h4
    go_wp2_with fail
    go_ret
    exact ⟨by rw [HF.out] <;> rfl, HS.out⟩
  have d4 : decide (x.d < 0) = false := decide_eq_false h4
  by_cases h5 : 16 < x.d
  · have HF : Hid (arcBad nodes x = true) := by show _ = _; unfold arcBad; simp [h5]
    have d5 : decide (16 < x.d) = true := decide_eq_true h5
    clear h5
    go_wp2_with fail
    go_ret
    exact ⟨by rw [HF.out] <;> rfl, HS.out⟩
  have d5 : decide (16 < x.d) = false := decide_eq_false h5
  have HF : Hid (arcBad nodes x = false) := by
    show _ = _
    unfold arcBad
    simp only [hb0, hb1, d2, hb3, d4, d5]
    rfl
  clear hb0 hb1 hb3 h2 h4 h5
  go_wp2_with fail
  go_ret
  exact ⟨by rw [HF.out] <;> rfl, HS.out⟩
end Go.Proofs.Ytpalacfgpcpppaa
