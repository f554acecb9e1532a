/- Words for memory over any program: what a call may change, a slice that reads as a list of cells, append from such a slice. -/
import Derived.WalkKit
import Derived.WalkLawsBesides
import Derived.WalkSpells
import Derived.Deep.RegionHeld3
import Derived.Deep.AppendLies
import Derived.Deep.RegionLaw
import Derived.Lib.Hide
import Derived.Deep.Draws
import Derived.Deep.QuietTactic
import Derived.BigQuiet
namespace Go.Proofs.Ytpalacfgpcpppaa
open Go Go.RowKit
set_option maxRecDepth 100000

/-- Only blocks of S, and new ones, may differ. -/
structure Same (S : Nat → Prop) (w w' : World) : Prop where
  os : w'.os = w.os
  tape : w'.tape = w.tape
  output : w'.output = w.output
  size : w.heap.size ≤ w'.heap.size
  block : ∀ k, k < w.heap.size → ¬ S k → w'.heap[k]? = w.heap[k]?

def noB : Nat → Prop := fun _ => False
def oneB (b : Nat) : Nat → Prop := fun k => k = b
def rowB (r : Option Nat) : Nat → Prop := fun k => some k = r

namespace Same
variable {S S' : Nat → Prop} {w w' w'' : World}
theorem refl (S : Nat → Prop) (w : World) : Same S w w := ⟨rfl, rfl, rfl, Nat.le_refl _, fun _ _ _ => rfl⟩
theorem trans (h : Same S w w') (k : Same S' w' w'') (hs : ∀ b, b < w.heap.size → S' b → S b) : Same S w w'' :=
  ⟨k.os.trans h.os, k.tape.trans h.tape, k.output.trans h.output, Nat.le_trans h.size k.size,
   fun b hb hn => (k.block b (Nat.lt_of_lt_of_le hb h.size) (fun hs' => hn (hs b hb hs'))).trans (h.block b hb hn)⟩
theorem trans' (h : Same S w w') (k : Same S w' w'') : Same S w w'' := h.trans k (fun _ _ h => h)
theorem mono (h : Same S w w') (hs : ∀ b, b < w.heap.size → S b → S' b) : Same S' w w' :=
  ⟨h.os, h.tape, h.output, h.size, fun b hb hn => h.block b hb (fun x => hn (hs b hb x))⟩
theorem of_no (h : Same noB w w') : Same S w w' := h.mono (fun _ _ h => h.elim)
theorem drew (h : Same S w w') : Same S w w'.drew := ⟨h.os, h.tape, h.output, h.size, h.block⟩
theorem drewN (h : Same S w w') (n : Nat) : Same S w (w'.drewN n) := ⟨h.os, h.tape, h.output, h.size, h.block⟩
theorem alloc (h : Same S w w') (o : Obj) : Same S w (w'.alloc o) :=
  ⟨h.os, h.tape, h.output, Nat.le_trans h.size (by simp), fun b hb hn => (Below.heap_alloc w' o b (Nat.lt_of_lt_of_le hb h.size)).trans (h.block b hb hn)⟩
theorem setCell (h : Same S w w') {a : Addr} (ha : a.block < w.heap.size → S a.block) (u : Value) : Same S w (w'.setCell a u) :=
  ⟨h.os, h.tape, h.output, by simpa [World.setCell] using h.size, fun b hb hn =>
    (Below.heap_setCell w' a u b (fun e => hn (e ▸ ha (e ▸ hb)))).trans (h.block b hb hn)⟩
theorem set1 {b : Nat} (h : Same (oneB b) w w') (i : Nat) (u : Value) : Same (oneB b) w (w'.setCell ⟨b, i, none⟩ u) := h.setCell (a := ⟨b, i, none⟩) (fun _ => rfl) u
theorem grown (h : Same S w w') {r : Option Nat} (hg : w'.grownBy w'' r) (hr : ∀ k, r = some k → k < w.heap.size → S k) : Same S w w'' :=
  ⟨hg.os.trans h.os, hg.tape.trans h.tape, hg.output.trans h.output, Nat.le_trans h.size hg.size,
   fun b hb hn => (hg.block b (Nat.lt_of_lt_of_le hb h.size) (fun e => hn (hr b e.symm hb))).trans (h.block b hb hn)⟩
theorem of_grown {r : Option Nat} (hg : w.grownBy w' r) : Same (rowB r) w w' := ⟨hg.os, hg.tape, hg.output, hg.size, fun b hb hn => hg.block b hb hn⟩
theorem to_grown {r : Option Nat} (h : Same S w w') (hs : ∀ b, b < w.heap.size → S b → some b = r) : w.grownBy w' r :=
  ⟨h.os, h.tape, h.output, h.size, fun b hb hn => h.block b hb (fun x => hn (hs b hb x))⟩
theorem cell (h : Same S w w') {a : Addr} {u : Value} (hc : w.cell? a = some u) (hn : ¬ S a.block) : w'.cell? a = some u :=
  (World.cell?_of_block (h.block a.block (World.block_lt_of_cell? w a hc) hn)).trans hc
theorem frozen (h : Same S w w') {a : Addr} (hl : a.block < w.heap.size) (hn : ¬ S a.block) : w'.frozen? a = w.frozen? a :=
  World.frozen?_of_block (h.block a.block hl hn)
theorem heap (h : Same S w w') {b : Nat} {o : Obj} (hb : w.heap[b]? = some o) (hn : ¬ S b) : w'.heap[b]? = some o :=
  (h.block b (Array.getElem?_eq_some_iff.1 hb).1 hn).trans hb
theorem below {B : Nat} (h : Same S w w') (hs : ∀ b, S b → B ≤ b) (hB : B ≤ w.heap.size) : Below B w w' :=
  ⟨h.os, h.tape, h.output, h.size, fun b hb => h.block b (Nat.lt_of_lt_of_le hb hB) (fun x => absurd (hs b x) (by omega))⟩
theorem of_below (h : Below w.heap.size w w') : Same noB w w' := ⟨h.os, h.tape, h.output, h.size, fun b hb _ => h.block b hb⟩
end Same

/-- Give the world a name: only what F says of it is kept. -/
theorem wp_abs {P : Program} {c : Code} {Q : Exit → Act → World → Prop} {a : Act} {w : World} (F : World → Prop) (hF : F w) (h : ∀ w, F w → c.wp P Q a w) : c.wp P Q a w := h w hF

theorem lt_of_heap {w : World} {b : Nat} {o : Obj} (h : w.heap[b]? = some o) : b < w.heap.size := (Array.getElem?_eq_some_iff.1 h).1

/-- Block g is just these cells, none frozen. -/
def Blk (w : World) (g : Nat) (t : TypeId) (cs : Array Value) : Prop := w.heap[g]? = some (.cells cs t (0, 0))
namespace Blk
variable {w w' : World} {g : Nat} {t : TypeId} {cs : Array Value}
theorem lt (h : Blk w g t cs) : g < w.heap.size := lt_of_heap h
theorem cell (h : Blk w g t cs) (i : Nat) : w.cell? ⟨g, i, none⟩ = cs[i]? := cell_of_row w g i cs t (0, 0) h
theorem frozen (h : Blk w g t cs) (i : Nat) : w.frozen? ⟨g, i, none⟩ = false := frozen_of_row w g i cs t h
theorem new (w : World) (t : TypeId) (cs : Array Value) : Blk (w.alloc (.cells cs t)) w.heap.size t cs := heap_alloc_new w _
theorem alloc (h : Blk w g t cs) (o : Obj) : Blk (w.alloc o) g t cs := (Below.heap_alloc w o g h.lt).trans h
theorem drew (h : Blk w g t cs) : Blk w.drew g t cs := h
theorem drewN (h : Blk w g t cs) (n : Nat) : Blk (w.drewN n) g t cs := h
theorem set_ (h : Blk w g t cs) (i : Nat) (u : Value) : Blk (w.setCell ⟨g, i, none⟩ u) g t (cs.setIfInBounds i u) := by
  unfold Blk at h ⊢
  simp [World.setCell, Array.getElem?_modify, h]
theorem far (h : Blk w g t cs) {p : Addr} (hp : g ≠ p.block) (u : Value) : Blk (w.setCell p u) g t cs := (Below.heap_setCell w p u g hp).trans h
theorem same {S : Nat → Prop} (h : Blk w g t cs) (hs : Same S w w') (hn : ¬ S g) : Blk w' g t cs := hs.heap h hn
theorem ne_ {g' : Nat} {t' : TypeId} {cs' : Array Value} (h : Blk w g t cs) (h' : Blk w g' t' cs') (ht : t ≠ t') : g ≠ g' := by
  rintro rfl
  unfold Blk at h h'
  rw [h] at h'
  injection h' with h'
  injection h' with h1 h2
  exact ht h2
end Blk

/-- A slice value of n elements (size cells each) that reads as the cells xs; it lies in no block of bad. -/
structure RdAt (w : World) (bad : Nat → Prop) (b o : Nat) (xs : List Value) : Prop where
  lt : b < w.heap.size
  ok : ¬ bad b
  cell : ∀ j u, xs[j]? = some u → w.cell? ⟨b, o + j, none⟩ = some u
def Rd (w : World) (bad : Nat → Prop) (size : Nat) (v : Value) (n : Nat) (xs : List Value) : Prop :=
  ∃ A c, v = .slice A n c ∧ n ≤ c ∧ c ≤ maxLen ∧ xs.length = n * size ∧ (A = none → c = 0) ∧ (0 < n → ∃ b o, A = some ⟨b, o, none⟩ ∧ RdAt w bad b o xs)

namespace Rd
variable {w w' : World} {bad bad' : Nat → Prop} {size n : Nat} {v : Value} {xs : List Value}
theorem nil_ (w : World) (bad : Nat → Prop) (size : Nat) : Rd w bad size (.slice none 0 0) 0 [] :=
  ⟨none, 0, rfl, Nat.le_refl _, by simp [maxLen], by simp, fun _ => rfl, fun h => absurd h (by omega)⟩
theorem len (h : Rd w bad size v n xs) : xs.length = n * size := by obtain ⟨_, _, _, _, _, h, _⟩ := h; exact h
theorem same {S : Nat → Prop} (h : Rd w bad size v n xs) (hs : Same S w w') (hn : ∀ b, b < w.heap.size → S b → bad b) (hb : ∀ b, b < w.heap.size → bad' b → bad b) : Rd w' bad' size v n xs := by
  obtain ⟨A, c, e, h1, h2, h3, h4, h5⟩ := h
  refine ⟨A, c, e, h1, h2, h3, h4, fun hp => ?_⟩
  obtain ⟨b, o, e, r⟩ := h5 hp
  exact ⟨b, o, e, Nat.lt_of_lt_of_le r.lt hs.size, fun x => r.ok (hb b r.lt x), fun j u hu => hs.cell (r.cell j u hu) (fun x => r.ok (hn b r.lt x))⟩
theorem mono (h : Rd w bad size v n xs) (hb : ∀ b, b < w.heap.size → bad' b → bad b) : Rd w bad' size v n xs := h.same (Same.refl noB w) (fun _ _ h => h.elim) hb
theorem of_own {base : Nat} {e : TypeId} (h : w.ownsRow base e size v n xs) (hb : ∀ g, v.ownBlock = some g → ¬ bad g) : Rd w bad size v n xs := by
  obtain ⟨hl, h | ⟨g, cap, cur, rfl, hbg, hg, hnc, hcm, hcs, ht⟩⟩ := h
  · obtain ⟨rfl, rfl⟩ := h
    have : xs = [] := List.eq_nil_of_length_eq_zero (by simpa using hl)
    subst this
    exact nil_ _ _ _
  · refine ⟨some ⟨g, 0, none⟩, cap, rfl, hnc, hcm, hl, (fun h => by cases h), fun _ => ⟨g, 0, rfl, lt_of_heap hg, hb g rfl, fun j u hu => ?_⟩⟩
    rw [cell_of_row w g (0 + j) cur e (0, 0) hg]
    rw [← ht, List.getElem?_take] at hu
    split at hu
    · simpa using hu
    · cases hu
/-- A block that was just laid: a slice literal. -/
theorem of_blk {t : TypeId} {cs : List Value} {b m c : Nat} (hb : Blk w b t cs.toArray) (hn : ¬ bad b) (hl : cs.length = m * size) (hmc : m ≤ c) (hc : c ≤ maxLen) : Rd w bad size (.slice (some ⟨b, 0, none⟩) m c) m cs :=
  ⟨some ⟨b, 0, none⟩, c, rfl, hmc, hc, hl, (fun h => by cases h), fun _ => ⟨b, 0, rfl, hb.lt, hn, fun j u hu => by rw [hb.cell]; simpa using hu⟩⟩
theorem drew (h : Rd w bad size v n xs) : Rd w.drew bad size v n xs := h.same ((Same.refl noB w).drew) (fun _ _ x => x.elim) (fun _ _ x => x)
theorem drewN (h : Rd w bad size v n xs) (k : Nat) : Rd (w.drewN k) bad size v n xs := h.same ((Same.refl noB w).drewN k) (fun _ _ x => x.elim) (fun _ _ x => x)
theorem at_ {A : Option Addr} {c : Nat} (h : Rd w bad size (.slice A n c) n xs) (hp : 0 < n) : ∃ b o, A = some ⟨b, o, none⟩ ∧ RdAt w bad b o xs := by
  obtain ⟨A', c', e, _, _, _, _, h5⟩ := h
  injection e with e1 e2 e3
  subst e1
  exact h5 hp
theorem form (h : Rd w bad size v n xs) : ∃ A c, v = .slice A n c ∧ n ≤ c ∧ c ≤ maxLen ∧ Rd w bad size (.slice A n c) n xs := by
  obtain ⟨A, c, e, h1, h2, r⟩ := h
  exact ⟨A, c, e, h1, h2, A, c, rfl, h1, h2, r⟩
end Rd

/-- What a slice type's element is. -/
structure SlT (P : Program) (T E : TypeId) (size bytes : Nat) : Prop where
  u : P.underlying T = some (.slice E)
  i : ∃ i z, P.info? E = some i ∧ i.zero = some z ∧ i.size = size ∧ i.bytes = bytes ∧ z.cells.size = size
  pos : 0 < size
  bpos : 0 < bytes
theorem SlT.mk_ {P : Program} {T E : TypeId} {z : Value} {size bytes : Nat} (h : P.underlying T = some (.slice E)) (hi : (P.info? E).map (fun i => (i.zero, i.size, i.bytes)) = some (some z, size, bytes)) (hz : z.cells.size = size) (hp : 0 < size) (hb : 0 < bytes) : SlT P T E size bytes := by
  obtain ⟨i, h1, h2, h3, h4⟩ := info_parts hi
  exact ⟨h, ⟨i, z, h1, h2, h3, h4, hz⟩, hp, hb⟩

section
variable {P : Program} {T E : TypeId} {size bytes : Nat}
theorem own_form {w : World} {base : Nat} {e : TypeId} {size n : Nat} {v : Value} {xs : List Value} (h : w.ownsRow base e size v n xs) : ∃ A c, v = .slice A n c := by
  rcases h.2 with ⟨rfl, rfl⟩ | ⟨g, cap, cur, rfl, _⟩
  · exact ⟨_, _, rfl⟩
  · exact ⟨_, _, rfl⟩

/-- append(own, src...), src whatever slice that reads. -/
theorem run_app (ST : SlT P T E size bytes) {w : World} {base : Nat} {v : Value} {n : Nat} {xs : List Value} (hown : w.ownsRow base E size v n xs)
    {bad : Nat → Prop} {src : Value} {m : Nat} {news : List Value} (hsrc : Rd w bad size src m news) (h1 : ∀ u ∈ news, u.oneCell' = true) (hby : (n + m) * bytes ≤ 140737488355328) (hbase : base ≤ w.heap.size) (ty : TypeId) :
    ∃ A' c' w', (Builtin.append_ #[T, T] ty #[v, src]).run P w = .ok (.slice A' (n + m) c') w' ∧ w'.ownsRow base E size (.slice A' (n + m) c') (n + m) (xs ++ news) ∧ w.grownBy w' v.ownBlock ∧
      ((Value.slice A' (n + m) c').ownBlock = v.ownBlock ∨ (Value.slice A' (n + m) c').ownBlock = some w.heap.size) ∧ (Value.slice A' (n + m) c' = .slice none 0 0 ↔ v = .slice none 0 0 ∧ m = 0) := by
  obtain ⟨i, z, hi, hz, hs, hb, hzs⟩ := ST.i
  have h63 : n + m ≤ maxLen := by
    have h := Nat.le_trans (Nat.le_mul_of_pos_right (n + m) ST.bpos) hby
    simp only [maxLen]; omega
  obtain ⟨A, c, rfl, hmc, hcm, hl, hn, hp⟩ := hsrc
  cases A with
  | none =>
    have hc := hn rfl
    subst hc
    have hm : m = 0 := by omega
    subst hm
    have : news = [] := List.eq_nil_of_length_eq_zero (by simpa using hl)
    subst this
    have hr := run_append_owned_none (P := P) w base T ty E i size ST.u hi v n xs hown
    obtain ⟨A', c', rfl⟩ := own_form hown
    exact ⟨A', c', w, hr, by simpa using hown, World.grownBy.refl w _, .inl rfl, by simp⟩
  | some a =>
    have hnews : ∀ j u, news[j]? = some u → w.cell? (a.add j) = some u := by
      intro j u hu
      have hjl : j < news.length := (List.getElem?_eq_some_iff.1 hu).1
      have hm0 : 0 < m := by
        rcases Nat.eq_zero_or_pos m with h0 | h0
        · subst h0; omega
        · exact h0
      obtain ⟨b, o, e, r⟩ := hp hm0
      injection e with e
      subst e
      have hadd : (⟨b, o, none⟩ : Addr).add j = ⟨b, o + j, none⟩ := by unfold Addr.add; split <;> simp_all
      rw [hadd]
      exact r.cell j u hu
    obtain ⟨v', w', hr, h2, h3, h4, h5⟩ := run_append_own_at (P := P) w base T ty E i z size bytes ST.u hi hz hs hb hzs ST.pos v n xs hown a m c news hl hnews h1 h63 hby hbase
    obtain ⟨A', c', rfl⟩ := own_form h2
    exact ⟨A', c', w', hr, h2, h3, h5, h4⟩

theorem wp_app (ST : SlT P T E size bytes) {o : Oper} {a : Act} {K : Act → World → Prop} {Q : Exit → Act → World → Prop} (s x : Operand) (ho : o.op = .call { callee := .builtin .append, args := #[s, x], argTypes := #[T, T] })
    {w : World} {base : Nat} {v : Value} {n : Nat} {xs : List Value} (hs : a.eval s = v) (hown : w.ownsRow base E size v n xs)
    {bad : Nat → Prop} {src : Value} {m : Nat} {news : List Value} (hx : a.eval x = src) (hsrc : Rd w bad size src m news) (h1 : ∀ u ∈ news, u.oneCell' = true) (hby : (n + m) * bytes ≤ 140737488355328) (hbase : base ≤ w.heap.size)
    (h : ∀ A' c' w', w'.ownsRow base E size (.slice A' (n + m) c') (n + m) (xs ++ news) → w.grownBy w' v.ownBlock → ((Value.slice A' (n + m) c').ownBlock = v.ownBlock ∨ (Value.slice A' (n + m) c').ownBlock = some w.heap.size) →
      (Value.slice A' (n + m) c' = .slice none 0 0 ↔ v = .slice none 0 0 ∧ m = 0) → K (a.put o.dst (.slice A' (n + m) c')) w') : o.wp P a w K Q := by
  obtain ⟨A', c', w', hr, h2, h3, h4, h5⟩ := run_app ST hown hsrc h1 hby hbase o.type
  unfold Oper.wp execOp
  simp only [ho, resolve, invoke, builtin, Sem.run_bind, Sem.run_pure, Result.andThen_ok, List.map_toArray, List.map_cons, List.map_nil, hs, hx, hr]
  exact h A' c' w' h2 h3 h4 h5

theorem wpL_app (ST : SlT P T E size bytes) {ops : Array Oper} {rest : List Oper} {o : Oper} {a : Act} {Q : Exit → Act → World → Prop} (hgd : o.guard = none) (s x : Operand) (ho : o.op = .call { callee := .builtin .append, args := #[s, x], argTypes := #[T, T] })
    {w : World} {base : Nat} {v : Value} {n : Nat} {xs : List Value} (hs : a.eval s = v) (hown : w.ownsRow base E size v n xs)
    {bad : Nat → Prop} {src : Value} {m : Nat} {news : List Value} (hx : a.eval x = src) (hsrc : Rd w bad size src m news) (h1 : ∀ u ∈ news, u.oneCell' = true) (hby : (n + m) * bytes ≤ 140737488355328) (hbase : base ≤ w.heap.size)
    (h : ∀ A' c' w', w'.ownsRow base E size (.slice A' (n + m) c') (n + m) (xs ++ news) → w.grownBy w' v.ownBlock → ((Value.slice A' (n + m) c').ownBlock = v.ownBlock ∨ (Value.slice A' (n + m) c').ownBlock = some w.heap.size) →
      (Value.slice A' (n + m) c' = .slice none 0 0 ↔ v = .slice none 0 0 ∧ m = 0) → wpList P ops Q rest (a.put o.dst (.slice A' (n + m) c')) w') : wpList P ops Q (o :: rest) a w :=
  wpList_plain hgd fun _ hK => wp_app ST s x ho hs hown hx hsrc h1 hby hbase fun A' c' w' h2 h3 h4 h5 => hK _ _ (h A' c' w' h2 h3 h4 h5)

theorem step_app (ST : SlT P T E size bytes) {ops : Array Oper} {o : Oper} {a : Act} {K : Act → World → Prop} {Q : Exit → Act → World → Prop} {X : Prop} (hgd : o.guard = none) (s x : Operand) (ho : o.op = .call { callee := .builtin .append, args := #[s, x], argTypes := #[T, T] })
    {w : World} {base : Nat} {v : Value} {n : Nat} {xs : List Value} (hs : a.eval s = v) (hown : w.ownsRow base E size v n xs)
    {bad : Nat → Prop} {src : Value} {m : Nat} {news : List Value} (hx : a.eval x = src) (hsrc : Rd w bad size src m news) (h1 : ∀ u ∈ news, u.oneCell' = true) (hby : (n + m) * bytes ≤ 140737488355328) (hbase : base ≤ w.heap.size)
    (h : ∀ A' c' w', w'.ownsRow base E size (.slice A' (n + m) c') (n + m) (xs ++ news) → w.grownBy w' v.ownBlock → ((Value.slice A' (n + m) c').ownBlock = v.ownBlock ∨ (Value.slice A' (n + m) c').ownBlock = some w.heap.size) →
      (Value.slice A' (n + m) c' = .slice none 0 0 ↔ v = .slice none 0 0 ∧ m = 0) → K (a.put o.dst (.slice A' (n + m) c')) w') :
    if Region.wanted o (yielded ops a.tmps) = true then Oper.wp P o a w K Q else X := by
  have hw : Region.wanted o (yielded ops a.tmps) = true := by simp [Region.wanted, hgd]
  rw [if_pos hw]
  exact wp_app ST s x ho hs hown hx hsrc h1 hby hbase h
end

theorem own_prefix {w : World} {base : Nat} {e : TypeId} {size n g cap i : Nat} {xs : List Value} (h : w.ownsRow base e size (.slice (some ⟨g, 0, none⟩) n cap) n xs) (hi : i ≤ n) : w.ownsRow base e size (.slice (some ⟨g, 0, none⟩) i cap) i (xs.take (i * size)) := by
  have hm : i * size ≤ n * size := Nat.mul_le_mul_right _ hi
  refine ⟨by rw [List.length_take, h.1]; omega, ?_⟩
  rcases h.2 with ⟨h', _⟩ | ⟨g', cap', cur, h', hb, hg, hnc, hcm, hcs, ht⟩
  · cases h'
  · simp only [Value.slice.injEq, Option.some.injEq, Addr.mk.injEq, and_true, true_and] at h'
    obtain ⟨rfl, rfl⟩ := h'
    exact .inr ⟨g, cap, cur, rfl, hb, hg, by omega, hcm, hcs, by rw [← ht, List.take_take]; congr 1; omega⟩

theorem own_cut {w : World} {bad : Nat → Prop} {base : Nat} {e : TypeId} {size n g cap k : Nat} {xs : List Value} (h : w.ownsRow base e size (.slice (some ⟨g, 0, none⟩) n cap) n xs) (hk : k ≤ n) (hg : ¬ bad g) :
    Rd w bad size (.slice (if cap = k then some ⟨g, 0, none⟩ else some ⟨g, k * size, none⟩) (n - k) (cap - k)) (n - k) (xs.drop (k * size)) := by
  obtain ⟨A, c, e1, hnc, hcm, hl, _, hp⟩ := Rd.of_own (bad := bad) h (fun g' hg' => by injection hg' with hg'; rw [← hg']; exact hg)
  injection e1 with e1 e2 e3
  subst e1 e3
  refine ⟨_, _, rfl, by omega, by omega, by rw [List.length_drop, hl, Nat.sub_mul], fun h' => ?_, fun hpos => ?_⟩
  · split at h' <;> cases h'
  · obtain ⟨b, o, e4, r⟩ := hp (by omega)
    injection e4 with e4
    injection e4 with e4 e5
    subst e4 e5
    rw [if_neg (by omega)]
    refine ⟨g, k * size, rfl, r.lt, r.ok, fun j u hu => ?_⟩
    have := r.cell (k * size + j) u (by rw [← hu, List.getElem?_drop])
    rwa [Nat.zero_add] at this

section
variable {P : Program} {T E : TypeId} {size bytes : Nat}
/-- append within the capacity: the row stays where it is. -/
theorem run_app_fits (ST : SlT P T E size bytes) {w : World} {base : Nat} {g n cap : Nat} {xs : List Value} (hown : w.ownsRow base E size (.slice (some ⟨g, 0, none⟩) n cap) n xs)
    {bad : Nat → Prop} {src : Value} {m : Nat} {news : List Value} (hsrc : Rd w bad size src m news) (h1 : ∀ u ∈ news, u.oneCell' = true) (hfit : n + m ≤ cap) (ty : TypeId) :
    ∃ w', (Builtin.append_ #[T, T] ty #[.slice (some ⟨g, 0, none⟩) n cap, src]).run P w = .ok (.slice (some ⟨g, 0, none⟩) (n + m) cap) w' ∧ w'.ownsRow base E size (.slice (some ⟨g, 0, none⟩) (n + m) cap) (n + m) (xs ++ news) ∧ w.grownBy w' (some g) := by
  obtain ⟨i, z, hi, hz, hs, hb, hzs⟩ := ST.i
  obtain ⟨A, c, rfl, hmc, hcm, hl, hn, hp⟩ := hsrc
  cases A with
  | none =>
    have hc := hn rfl
    subst hc
    have hm : m = 0 := by omega
    subst hm
    have : news = [] := List.eq_nil_of_length_eq_zero (by simpa using hl)
    subst this
    exact ⟨w, run_append_owned_none (P := P) w base T ty E i size ST.u hi _ n xs hown, by simpa using hown, World.grownBy.refl w _⟩
  | some a =>
    have hnews : ∀ j u, news[j]? = some u → w.cell? (a.add j) = some u := by
      intro j u hu
      have hjl : j < news.length := (List.getElem?_eq_some_iff.1 hu).1
      have hm0 : 0 < m := by
        rcases Nat.eq_zero_or_pos m with h0 | h0
        · subst h0; omega
        · exact h0
      obtain ⟨b, o, e, r⟩ := hp hm0
      injection e with e
      subst e
      have hadd : (⟨b, o, none⟩ : Addr).add j = ⟨b, o + j, none⟩ := by unfold Addr.add; split <;> simp_all
      rw [hadd]
      exact r.cell j u hu
    obtain ⟨w', hr, h2, h3⟩ := run_append_fits (P := P) w base T ty E i size ST.u hi hs g n cap xs hown a m c news hl hnews h1 hfit
    exact ⟨w', hr, h2, h3⟩

theorem step_app_fits (ST : SlT P T E size bytes) {ops : Array Oper} {o : Oper} {a : Act} {K : Act → World → Prop} {Q : Exit → Act → World → Prop} {X : Prop} (hgd : o.guard = none) (s x : Operand) (ho : o.op = .call { callee := .builtin .append, args := #[s, x], argTypes := #[T, T] })
    {w : World} {base : Nat} {g n cap : Nat} {xs : List Value} (hs : a.eval s = .slice (some ⟨g, 0, none⟩) n cap) (hown : w.ownsRow base E size (.slice (some ⟨g, 0, none⟩) n cap) n xs)
    {bad : Nat → Prop} {src : Value} {m : Nat} {news : List Value} (hx : a.eval x = src) (hsrc : Rd w bad size src m news) (h1 : ∀ u ∈ news, u.oneCell' = true) (hfit : n + m ≤ cap)
    (h : ∀ w', w'.ownsRow base E size (.slice (some ⟨g, 0, none⟩) (n + m) cap) (n + m) (xs ++ news) → w.grownBy w' (some g) → K (a.put o.dst (.slice (some ⟨g, 0, none⟩) (n + m) cap)) w') :
    if Region.wanted o (yielded ops a.tmps) = true then Oper.wp P o a w K Q else X := by
  have hw : Region.wanted o (yielded ops a.tmps) = true := by simp [Region.wanted, hgd]
  rw [if_pos hw]
  obtain ⟨w', hr, h2, h3⟩ := run_app_fits ST hown hsrc h1 hfit o.type
  unfold Oper.wp execOp
  simp only [ho, resolve, invoke, builtin, Sem.run_bind, Sem.run_pure, Result.andThen_ok, List.map_toArray, List.map_cons, List.map_nil, hs, hx, hr]
  exact h w' h2 h3

/-- clear of elements behind those that are owned. -/
theorem run_clear_behind (ST : SlT P T E size bytes) {z : Value} (hv : ∀ w, (zeroValue E).run P w = .ok z w) (hzs : z.cells.size = size) (hz1 : ∀ u ∈ z.cells.toList, u.oneCell' = true) {w : World} {base : Nat} {g n cap : Nat} {xs : List Value}
    (hown : w.ownsRow base E size (.slice (some ⟨g, 0, none⟩) n cap) n xs) (o m c : Nat) (ho : n * size ≤ o) (hm : o + m * size ≤ cap * size) (ty : TypeId) :
    ∃ w', (Builtin.clear_ #[T] ty #[.slice (some ⟨g, o, none⟩) m c]).run P w = .ok (.tuple #[]) w' ∧ w'.ownsRow base E size (.slice (some ⟨g, 0, none⟩) n cap) n xs ∧ w.grownBy w' (some g) := by
  cases m with
  | zero => exact ⟨w, by simp [Builtin.clear_, run_underlying ST.u], hown, World.grownBy.refl w _⟩
  | succ m =>
    rcases hown.2 with ⟨h', _⟩ | ⟨g', cap', cur, h', hb, hg, hnc, hcm, hcs, ht⟩
    · cases h'
    · simp only [Value.slice.injEq, Option.some.injEq, Addr.mk.injEq, and_true, true_and] at h'
      obtain ⟨rfl, rfl⟩ := h'
      obtain ⟨Z, hZ, hlen, hZ1⟩ : ∃ Z, Z = (Builtin.zeroCells z.cells (m + 1)).toList ∧ Z.length = (m + 1) * size ∧ ∀ v ∈ Z, v.oneCell' = true := by
        refine ⟨_, rfl, by rw [Array.length_toList, size_zeroCells, hzs], fun v hv' => ?_⟩
        obtain ⟨i, hi, rfl⟩ := List.getElem_of_mem hv'
        have h0 : 0 < z.cells.size := by rw [hzs]; exact ST.pos
        have hi' : i % z.cells.size < z.cells.size := Nat.mod_lt _ h0
        simp only [Builtin.zeroCells, Array.getElem_toList, Array.getElem_map, Array.getElem_range]
        rw [getElem!_pos z.cells _ hi']
        exact hz1 _ (by simp)
      have hst := run_storeCells_at P g o E Z 0 cur w hg (by rw [hlen, hcs]; simpa using hm) hZ1
      rw [Nat.add_zero] at hst
      have hzc : (Builtin.clear_ #[T] ty #[.slice (some ⟨g, o, none⟩) (m + 1) c]).run P w = .ok (.tuple #[]) (w.setRow g (List.take o cur.toList ++ Z ++ List.drop (o + Z.length) cur.toList).toArray) := by
        simp [Builtin.clear_, run_underlying ST.u, hv, ← hZ, hst]
      refine ⟨_, hzc, ⟨hown.1, .inr ⟨g, cap, (List.take o cur.toList ++ Z ++ List.drop (o + Z.length) cur.toList).toArray, rfl, hb, setRow_heap w g cur _ E _ hg, hnc, hcm, ?_, ?_⟩⟩, ⟨rfl, rfl, rfl, by simp, fun k _ hk => setRow_other w g k _ (fun e => hk (by rw [e]))⟩⟩
      · simp only [List.size_toArray, List.length_append, List.length_take, List.length_drop, Array.length_toList, hlen]
        omega
      · have hl2 : (cur.toList.take o).length = o := by
          have : (m + 1) * size = (m + 1) * size := rfl
          rw [List.length_take, Array.length_toList, hcs]; omega
        rw [List.append_assoc, List.take_append_of_le_length (by omega), List.take_take, ← ht]
        congr 1
        omega
end

theorem own_alloc {w : World} {base : Nat} {e : TypeId} {size n : Nat} {v : Value} {xs : List Value} (h : w.ownsRow base e size v n xs) (o : Obj) : (w.alloc o).ownsRow base e size v n xs := h.alloc o
theorem own_lt {w : World} {base : Nat} {e : TypeId} {size n : Nat} {v : Value} {xs : List Value} (h : w.ownsRow base e size v n xs) {g : Nat} (hg : v.ownBlock = some g) : g < w.heap.size := (h.lt g hg).2
theorem own_same {w w' : World} {base : Nat} {e : TypeId} {size n : Nat} {v : Value} {xs : List Value} {S : Nat → Prop} (h : w.ownsRow base e size v n xs) (hs : Same S w w') (hn : ∀ g, v.ownBlock = some g → ¬ S g) : w'.ownsRow base e size v n xs := by
  refine ⟨h.1, ?_⟩
  rcases h.2 with h0 | ⟨g, cap, cur, rfl, hb, hg, r⟩
  · exact .inl h0
  · exact .inr ⟨g, cap, cur, rfl, hb, hs.heap hg (hn g rfl), r⟩
theorem own_blk {w : World} {base : Nat} {e : TypeId} {size n : Nat} {v : Value} {xs : List Value} (h : w.ownsRow base e size v n xs) {g : Nat} (hg : v.ownBlock = some g) : ∃ cs, Blk w g e cs := by
  rcases h.2 with ⟨rfl, _⟩ | ⟨g', cap, cur, rfl, _, hgg, _⟩
  · simp [Value.ownBlock] at hg
  · simp [Value.ownBlock] at hg
    subst hg
    exact ⟨cur, hgg⟩
end Go.Proofs.Ytpalacfgpcpppaa
