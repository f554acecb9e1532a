/- Layer 36: a log beside the reference's, between the calls. -/
import Derived.Test.YtlocfbjeljgblaaRepSA
import Derived.Test.YtlocfbjeljgblaaRepMB
namespace Go.Proofs.Ytlocfbjeljgblaa
open Go Go.RowKit
set_option maxRecDepth 100000

/-- Blocks that lists keep clear of: the log's own and those of B. -/
def bd (B : Nat → Prop) (M : Nat) (v : Value) : Nat → Prop := fun b => lgB M v b ∨ B b
/-- A log of the program and the reference's, equal; both clear of the blocks of B. -/
structure St (B : Nat → Prop) (w : World) (M : Nat) (v : Value) (es : List En) (lv : Value) (ls : List En) (g : Lg) : Prop where
  log : LogIs w M v es g
  far : All2 (EnIs w (bd B M v)) es g.es
  ref : EnL w (bd B M v) lv ls g.es
  old : ∀ b, B b → b < w.heap.size ∧ ¬ lgB M v b
theorem LogIs.blt {w : World} {M : Nat} {v : Value} {es : List En} {g : Lg} (h : LogIs w M v es g) : ∀ b, lgB M v b → b < w.heap.size := by
  intro b hb
  rcases hb with rfl | hb
  · exact h.box.lt
  · exact own_lt h.own hb.symm
theorem CopyIs.enl {w w' : World} {v : Value} {es : List En} {vs : List EnV} (h : CopyIs w w' v es vs) : EnL w' noB v es vs := ⟨Rd.of_own h.own (fun _ _ x => x), h.is.imp fun _ _ k => k.same (Same.refl noB _) (fun _ _ x => x.elim) (fun _ _ x => x.elim)⟩
namespace St
variable {B B' : Nat → Prop} {w w' : World} {M : Nat} {v lv : Value} {es ls : List En} {g : Lg}
theorem bad (h : St B w M v es lv ls g) : ∀ b, bd B M v b → b < w.heap.size := fun b hb => hb.elim (h.log.blt b) (fun x => (h.old b x).1)
theorem more (h : St B w M v es lv ls g) (hs : Same noB w w') (hB : ∀ b, B' b → B b ∨ (w.heap.size ≤ b ∧ b < w'.heap.size)) : St B' w' M v es lv ls g := by
  have hb : ∀ b, b < w.heap.size → bd B' M v b → bd B M v b := fun b hb hx => hx.elim .inl (fun hx => (hB b hx).elim .inr (fun hx => by omega))
  refine ⟨h.log.keep hs, h.far.imp fun _ _ k => k.same hs (fun _ _ x => x.elim) hb, h.ref.same hs (fun _ _ x => x.elim) hb, fun b hx => ?_⟩
  have hz := hs.size
  rcases hB b hx with hx | hx
  · exact ⟨by have := (h.old b hx).1; omega, (h.old b hx).2⟩
  · exact ⟨hx.2, fun e => by have := h.log.blt b e; omega⟩
theorem keep (h : St B w M v es lv ls g) (hs : Same noB w w') : St B w' M v es lv ls g := h.more hs (fun _ hb => .inl hb)
theorem put {S : Nat → Prop} (h : St B w M v es lv ls g) (hs : Same S w w') (hS : ∀ b, S b → B b) : St B w' M v es lv ls g := by
  have hn : ∀ b, b < w.heap.size → S b → bd B M v b := fun b _ hx => .inr (hS b hx)
  refine ⟨⟨h.log.box.same hs (fun x => (h.old M (hS M x)).2 (.inl rfl)), own_same h.log.own hs (fun b hb x => (h.old b (hS b x)).2 (.inr hb.symm)), h.far.imp fun _ _ k => k.same hs hn (fun _ _ x => .inl x)⟩, h.far.imp fun _ _ k => k.same hs hn (fun _ _ x => x), h.ref.same hs hn (fun _ _ x => x), fun b hb => ⟨by have := (h.old b hb).1; have := hs.size; omega, (h.old b hb).2⟩⟩
theorem less (h : St B w M v es lv ls g) (hB : ∀ b, B' b → B b) : St B' w M v es lv ls g :=
  h.more (Same.refl noB w) (fun b hb => .inl (hB b hb))
/-- Behind a call of the program that has changed the log. -/
theorem step {W w3 w4 : World} {g' : Lg} {lv' : Value} {ls' : List En} (h : St B W M v es lv ls g) (hl : LogToB W w3 M v es g g') (hs : Same noB w3 w4) (hr : EnL W (bd B M v) lv' ls' g'.es) : ∃ v' es', St B w4 M v' es' lv' ls' g' ∧ Same (lgB M v) W w4 ∧ ∀ b, v'.ownBlock = some b → v.ownBlock = some b ∨ W.heap.size ≤ b := by
  obtain ⟨v', es', h1, h2, h3, h4⟩ := hl
  have hb : ∀ b, b < W.heap.size → lgB M v' b → lgB M v b := by
    intro b hb hx
    rcases hx with hx | hx
    · exact .inl hx
    · rcases h3 b hx.symm with hx | hx
      · exact .inr hx.symm
      · omega
  refine ⟨v', es', St.keep (w := w3) ⟨h1, h4 B (fun b hb => (h.old b hb).1) h.far, hr.same h2 (fun b _ hb => .inl hb) (fun b hlt hx => hx.imp (hb b hlt) id), fun b hx => ⟨by have := (h.old b hx).1; have := h2.size; omega, fun e => (h.old b hx).2 (hb b (h.old b hx).1 e)⟩⟩ hs, h2.trans hs (fun _ _ x => x.elim), h3⟩
end St
/-- The same with a list of an op. -/
structure StO (B : Nat → Prop) (w : World) (M : Nat) (v : Value) (es : List En) (lv : Value) (ls : List En) (g : Lg) (xl : Value) (xes : List En) (ys : List EnV) : Prop where
  st : St B w M v es lv ls g
  op : EnL w (bd B M v) xl xes ys
namespace StO
variable {B B' : Nat → Prop} {w w' : World} {M : Nat} {v lv xl : Value} {es ls xes : List En} {g : Lg} {ys : List EnV}
theorem more (h : StO B w M v es lv ls g xl xes ys) (hs : Same noB w w') (hB : ∀ b, B' b → B b ∨ (w.heap.size ≤ b ∧ b < w'.heap.size)) : StO B' w' M v es lv ls g xl xes ys :=
  ⟨h.st.more hs hB, h.op.same hs (fun _ _ x => x.elim) (fun b hb hx => hx.elim .inl (fun hx => (hB b hx).elim .inr (fun hx => by omega)))⟩
theorem keep (h : StO B w M v es lv ls g xl xes ys) (hs : Same noB w w') : StO B w' M v es lv ls g xl xes ys := h.more hs (fun _ hb => .inl hb)
theorem put {S : Nat → Prop} (h : StO B w M v es lv ls g xl xes ys) (hs : Same S w w') (hS : ∀ b, S b → B b) : StO B w' M v es lv ls g xl xes ys :=
  ⟨h.st.put hs hS, h.op.same hs (fun b _ hx => .inr (hS b hx)) (fun _ _ x => x)⟩
end StO
/-- What a call of the law leaves. -/
def StepTo (B : Nat → Prop) (w : World) (M : Nat) (v : Value) (g' : Lg) (e : Ending) (w' : World) : Prop := ∃ v' es' A n c ls', e = .returned (.tuple #[.agg #[.int .i64 g'.base, .int .i64 g'.term, .slice A n c], .bool true]) ∧ St B w' M v' es' (.slice A n c) ls' g' ∧ Same (lgB M v) w w' ∧ ∀ b, v'.ownBlock = some b → v.ownBlock = some b ∨ w.heap.size ≤ b
theorem compact_anyB {w : World} {M : Nat} {v : Value} {es : List En} {g : Lg} (h : LogIs w M v es g) (hf : g.Fit) {i : Int} (hi : inI64 i) :
    Calls Try.prog 25 #[.pointer (some ⟨M, 0, none⟩), .int .i64 i] w fun r w' => r = .returned (.int .i64 (g.compact i).2) ∧ LogToB w w' M v es g (g.compact i).1 := by
  have hT := term_any h hf hi
  unfold Lg.compact
  cases hq : (g.termAt i).2 with
  | false =>
    rw [hq] at hT
    refine (compact_fail (Lib.hid hT)).mono ?_
    rintro r w' ⟨rfl, hs⟩
    exact ⟨rfl, LogToB.same h hs⟩
  | true =>
    rw [hq] at hT
    obtain ⟨h1, h2⟩ := Lg.termAt_in hq
    obtain ⟨A, c, rfl, hc1, hc2⟩ := h.form
    have hl := h.len
    have hfl := hf.len
    have hlo := hf.lo
    have hhi := hf.hi
    obtain ⟨a, ha⟩ : ∃ a : Nat, i - g.base = (a : Int) := ⟨(i - g.base).toNat, by omega⟩
    have han : a ≤ es.length := by omega
    have hen := enl_cut h.enl han
    have hlen : (es.drop a).length = es.length - a := List.length_drop
    refine (compact_core (Q := fun W v3 w' => AppAt W w' v3 (es.length - a) 57 15 (ecells (es.drop a))) h.box (by rw [IntWalk.i64_in _ (by omega), ha]) (slice_from han) (Lib.hid hT) (Lib.hid fun W hs => (clone53_any (w := W) (hen.keep hs).rd (by omega)).mono (by
      rintro r w' ⟨A3, c3, rfl, ha3⟩
      rw [hlen] at ha3
      exact ⟨A3, _, c3, by rw [hlen], ha3.since, ha3⟩))).mono ?_
    rintro r w' ⟨rfl, W, W2, v3, hs1, hs2, hq3, hs3, hb⟩
    have hML := h.box.lt
    have hsz := hs1.size
    have hsz2 := hs2.size
    have hall : Same (oneB M) w w' := (hs1.of_no.trans' hs2.of_no).trans' hs3
    have hv3 : ∀ b, v3.ownBlock = some b → w.heap.size ≤ b := fun b hb => Nat.le_trans hsz (hq3.new b hb)
    have hta : (i - g.base).toNat = a := by omega
    refine ⟨rfl, v3, es.drop a, ⟨?_, ?_, ?_⟩, hall.mono (fun b _ hb => .inl hb), fun b hb => .inr (hv3 b hb), fun B hB hA => ?_⟩
    · exact hb
    · rw [hlen]
      exact own_same hq3.own hs3 (fun b hb hx => by have h3 : b = M := hx; have := hv3 b hb; omega)
    · show All2 _ _ (g.es.drop (i - g.base).toNat)
      rw [hta]
      refine (h.is.drop a).imp fun x y hxy => hxy.same hall (fun b _ hb => .inl hb) (fun b hb hx => ?_)
      rcases hx with hx | hx
      · exact .inl hx
      · have := hv3 b hx.symm
        omega
    · show All2 _ _ (g.es.drop (i - g.base).toNat)
      rw [hta]
      refine (hA.drop a).imp fun x y hxy => hxy.same hall (fun b _ hb => .inl (.inl hb)) (fun b hb hx => ?_)
      rcases hx with (hx | hx) | hx
      · exact .inl (.inl hx)
      · have := hv3 b hx.symm
        omega
      · exact .inr hx
/-- The boxes of a call of the law. -/
structure StX (S : Nat → Prop) (w W : World) (N : Nat) (b t : Int) (lv : Value) (kk a bb : Int) (f : Bool) (xl : Value) : Prop where
  lg : Blk W N 29 #[.int .i64 b, .int .i64 t, lv]
  op : Blk W (N + 1) 35 #[.int .i64 kk, .int .i64 a, .int .i64 bb, .bool f, xl]
  rs : Blk W (N + 1 + 1) 29 #[.int .i64 0, .int .i64 0, .slice none 0 0]
  since : Same S w W
  at_ : w.heap.size = N
def StS (N : Nat) (b t : Int) (lv : Value) (kk a bb : Int) (f : Bool) (xl : Value) (W : World) : Prop := W.cell? ⟨N, 0, none⟩ = some (.int .i64 b) ∧ W.cell? ⟨N, 1, none⟩ = some (.int .i64 t) ∧ W.cell? ⟨N, 2, none⟩ = some lv ∧ W.cell? ⟨N + 1, 0, none⟩ = some (.int .i64 kk) ∧ W.cell? ⟨N + 1, 1, none⟩ = some (.int .i64 a) ∧ W.cell? ⟨N + 1, 2, none⟩ = some (.int .i64 bb) ∧ W.cell? ⟨N + 1, 3, none⟩ = some (.bool f) ∧ W.cell? ⟨N + 1, 4, none⟩ = some xl
def StV (N V : Nat) (b t : Int) (lv : Value) (kk a bb : Int) (f : Bool) (xl : Value) (W : World) : Prop := W.cell? ⟨V, 0, none⟩ = some (.int .i64 b) ∧ W.cell? ⟨V, 1, none⟩ = some (.int .i64 t) ∧ W.cell? ⟨V, 2, none⟩ = some lv ∧ W.cell? ⟨N + 1, 0, none⟩ = some (.int .i64 kk) ∧ W.cell? ⟨N + 1, 1, none⟩ = some (.int .i64 a) ∧ W.cell? ⟨N + 1, 2, none⟩ = some (.int .i64 bb) ∧ W.cell? ⟨N + 1, 3, none⟩ = some (.bool f) ∧ W.cell? ⟨N + 1, 4, none⟩ = some xl
namespace StX
variable {S S' : Nat → Prop} {w W W' : World} {N V : Nat} {b t kk a bb : Int} {lv xl : Value} {f : Bool}
theorem s (h : StX S w W N b t lv kk a bb f xl) : StS N b t lv kk a bb f xl W := ⟨h.lg.cell 0, h.lg.cell 1, h.lg.cell 2, h.op.cell 0, h.op.cell 1, h.op.cell 2, h.op.cell 3, h.op.cell 4⟩
theorem sv (h : StX S w W N b t lv kk a bb f xl) {b2 t2 : Int} {lv2 : Value} (hv : Blk W V 29 #[.int .i64 b2, .int .i64 t2, lv2]) : StV N V b2 t2 lv2 kk a bb f xl W := ⟨hv.cell 0, hv.cell 1, hv.cell 2, h.op.cell 0, h.op.cell 1, h.op.cell 2, h.op.cell 3, h.op.cell 4⟩
theorem same (h : StX S w W N b t lv kk a bb f xl) (hs : Same S' W W') (hN : ∀ x, S' x → x < N ∨ N + 1 + 1 < x) (hS : ∀ x, S' x → x < N → S x) : StX S w W' N b t lv kk a bb f xl :=
  ⟨h.lg.same hs (fun x => by have := hN _ x; omega), h.op.same hs (fun x => by have := hN _ x; omega), h.rs.same hs (fun x => by have := hN _ x; omega), h.since.trans hs (fun x hx y => hS x y (by have := h.at_; omega)), h.at_⟩
theorem keep (h : StX S w W N b t lv kk a bb f xl) (hs : Same noB W W') : StX S w W' N b t lv kk a bb f xl := h.same hs (fun _ x => x.elim) (fun _ x => x.elim)
theorem drew (h : StX S w W N b t lv kk a bb f xl) : StX S w W.drew N b t lv kk a bb f xl := h.keep (Same.refl _ _).drew
theorem one (h : StX S w W N b t lv kk a bb f xl) (hs : Same (oneB V) W W') (hV : N + 1 + 1 < V) : StX S w W' N b t lv kk a bb f xl := h.same hs (fun x e => by have h3 : x = V := e; omega) (fun x e _ => by have h3 : x = V := e; omega)
theorem mono (h : StX noB w W N b t lv kk a bb f xl) : StX S w W N b t lv kk a bb f xl := ⟨h.lg, h.op, h.rs, h.since.of_no, h.at_⟩
/-- Behind a call that has changed the log. -/
theorem logs {M : Nat} {v : Value} (h : StX noB w W N b t lv kk a bb f xl) (hs : Same (lgB M v) W W') (hN : ∀ x, lgB M v x → x < N) : StX (lgB M v) w W' N b t lv kk a bb f xl := h.mono.same hs (fun x y => .inl (hN x y)) (fun _ y _ => y)
end StX
/-- The blocks that a call of the law has taken: its boxes, and one more. -/
def b2 (B : Nat → Prop) (N V : Nat) : Nat → Prop := fun b => B b ∨ (N ≤ b ∧ b ≤ N + 1 + 1) ∨ b = V
theorem St.lgN {B : Nat → Prop} {w : World} {M N : Nat} {v lv : Value} {es ls : List En} {g : Lg} (h : St B w M v es lv ls g) (hN : w.heap.size = N) : ∀ x, lgB M v x → x < N := fun x hx => hN ▸ h.log.blt x hx
end Go.Proofs.Ytlocfbjeljgblaa
