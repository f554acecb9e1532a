/- Layer 10: ints as keys, a queue of ints, a map of own rows. (printed by genFloF.py) -/
import Derived.Test.YtpalacfgpcpppaaFloE
import Derived.Test.YtpalacfgpcpppaaMaps
import Derived.Deep.Onto
namespace Go.Proofs.Ytpalacfgpcpppaa
open Go Go.RowKit Go.Maps
set_option maxRecDepth 100000

theorem law3 : Keyed Try.prog 3 := int_keyed Try.underlying3
/-- An int as a key. -/
def eI : KeyEnc Try.prog 3 Int where
  enc := fun x => .int .i64 x
  ok := inI64
  law := law3
  key := fun _ h => ⟨_, keyOf_int_mk Try.underlying3 h.wf⟩
  inj := fun _ _ h => by injection h
theorem sl50 : SlT Try.prog 50 3 1 8 := SlT.mk_ (z := .int .i64 0) Try.underlying50 (by kernel_rfl) rfl (by decide) (by decide)
theorem zero50 (w : World) : (zeroValue 50).run Try.prog w = .ok (.slice none 0 0) w := by kernel_rfl
/-- A queue: it lies at o of block g. -/
structure Qu (W : World) (g o c : Nat) (l : List Int) : Prop where
  cap : l.length ≤ c
  max : c ≤ maxLen
  blk : ∃ cur, Blk W g 3 cur ∧ o + c ≤ cur.size ∧ ∀ (j : Nat) (x : Int), l[j]? = some x → cur[o + j]? = some (.int .i64 x)
def quVal (g o c : Nat) (l : List Int) : Value := .slice (some ⟨g, o, none⟩) l.length c
section
variable {W W' : World} {g o c : Nat} {l : List Int}
theorem Qu.at_ (h : Qu W g o c l) {j : Nat} {x : Int} (hx : l[j]? = some x) : W.cell? ⟨g, o + j, none⟩ = some (.int .i64 x) := by
  obtain ⟨cur, hb, _, hc⟩ := h.blk
  rw [hb.cell]
  exact hc j x hx
theorem Qu.lt (h : Qu W g o c l) : g < W.heap.size := by
  obtain ⟨cur, hb, _⟩ := h.blk
  exact hb.lt
theorem Qu.same {S : Nat → Prop} (h : Qu W g o c l) (hs : Same S W W') (hn : ¬ S g) : Qu W' g o c l := by
  obtain ⟨cur, hb, r⟩ := h.blk
  exact ⟨h.cap, h.max, cur, hb.same hs hn, r⟩
theorem Qu.ne_blk (h : Qu W g o c l) {b : Nat} {t : TypeId} {cs : Array Value} (hb : Blk W b t cs) (ht : t ≠ 3) : g ≠ b := by
  obtain ⟨cur, hc, _⟩ := h.blk
  exact hc.ne_ hb (Ne.symm ht)
theorem Qu.one (W : World) (x : Int) : Qu (W.alloc (.cells #[.int .i64 x] 3)) W.heap.size 0 1 [x] :=
  ⟨Nat.le_refl _, by simp [maxLen], _, Blk.new _ _ _, by simp, fun j y hy => by
    cases j with
    | zero => injection hy with e; subst e; rfl
    | succ j => simp at hy⟩
/-- queue[1:]. -/
theorem Qu.tail {x : Int} (h : Qu W g o c (x :: l)) : Qu W g (if c = 1 then o else o + 1) (c - 1) l := by
  have hc := h.cap
  have hm := h.max
  rw [List.length_cons] at hc
  obtain ⟨cur, hb, hs, hj⟩ := h.blk
  refine ⟨by omega, by omega, cur, hb, by split <;> omega, fun j y hy => ?_⟩
  have hl := (List.getElem?_eq_some_iff.1 hy).1
  rw [if_neg (by omega)]
  have := hj (j + 1) y hy
  rwa [show o + 1 + j = o + (j + 1) from by omega]
/-- append(queue, x): in place, or in a new block. -/
theorem run_qapp (h : Qu W g o c l) {ad : Addr} {c' : Nat} {x : Int} (hx : W.cell? (ad.add 0) = some (.int .i64 x)) (hl : l.length ≤ 1000000) (ty : TypeId) :
    ∃ g' o' cap' W', (Builtin.append_ #[50, 50] ty #[.slice (some ⟨g, o, none⟩) l.length c, .slice (some ad) 1 c']).run Try.prog W = .ok (.slice (some ⟨g', o', none⟩) (l.length + 1) cap') W' ∧ Qu W' g' o' cap' (l ++ [x]) ∧
      W.grownBy W' (some g) ∧ (g' = g ∨ W.heap.size ≤ g') := by
  obtain ⟨i0, hi, hz0, hz1, hz2⟩ := info_parts (show (Try.prog.info? 3).map (fun i => (i.zero, i.size, i.bytes)) = some (some (.int .i64 0), 1, 8) from by kernel_rfl)
  obtain ⟨cur, hb, hs, hj⟩ := h.blk
  have hnews : ∀ (j : Nat) (u : Value), [Value.int .i64 x][j]? = some u → W.cell? (ad.add j) = some u := fun j u hu => by
    cases j with
    | zero => injection hu with e; subst e; exact hx
    | succ j => simp at hu
  by_cases hr : l.length + 1 ≤ c
  · have hlt : o + l.length < cur.size := by omega
    have hrun := run_append_room_cells (P := Try.prog) W 50 ty 3 i0 Try.underlying50 hi g o l.length c ad 1 c' [.int .i64 x] (by rw [hz1]; rfl) hnews (int_one x) hr
      (fun j hj' => by
        have : j = 0 := by simpa using hj'
        subst this
        rw [hz1, Nat.mul_one, Nat.add_zero, hb.cell, Array.getElem?_eq_getElem hlt]; rfl)
      (fun j _ => hb.frozen _)
    rw [hz1, Nat.mul_one] at hrun
    have hst : W.setCells g (o + l.length) [.int .i64 x] = W.setCell ⟨g, o + l.length, none⟩ (.int .i64 x) := rfl
    rw [hst] at hrun
    refine ⟨g, o, c, _, hrun, ⟨by rw [List.length_append]; exact hr, h.max, _, hb.set_ _ _, by simpa using hs, fun j y hy => ?_⟩, ?_, .inl rfl⟩
    · rw [Array.getElem?_setIfInBounds]
      by_cases e : j < l.length
      · rw [if_neg (by omega)]
        rw [List.getElem?_append_left e] at hy
        exact hj j y hy
      · rw [List.getElem?_append_right (by omega)] at hy
        have e0 : j - l.length = 0 := by
          have := (List.getElem?_eq_some_iff.1 hy).1
          simp at this
          omega
        rw [e0] at hy
        simp at hy
        subst hy
        rw [if_pos (by omega), if_pos (by omega)]
    · exact ((Same.refl (oneB g) W).set1 _ _).to_grown (fun b _ e => by rw [show b = g from e])
  · obtain ⟨v', W', hrun, hown, hg⟩ := run_append_arg_grows (P := Try.prog) W 50 ty 3 i0 (.int .i64 0) 1 8 Try.underlying50 hi hz0 hz1 hz2 rfl (by decide) ⟨g, o, none⟩ l.length c (icells l) (icells_len l)
      (fun j u hu => by
        rw [Addr.add_lit, hb.cell]
        unfold icells at hu
        rw [List.getElem?_map] at hu
        cases hl2 : l[j]? with
        | none => rw [hl2] at hu; cases hu
        | some y => rw [hl2] at hu; injection hu with e; subst e; exact hj j y hl2)
      ad 1 c' [.int .i64 x] rfl hnews (by omega) (by simp only [maxLen]; omega) (by omega)
    obtain ⟨hln, h2⟩ := hown
    rcases h2 with ⟨_, e2⟩ | ⟨g', cap', cur', rfl, hbg, hg', hnc, hcm, hcs, ht⟩
    · omega
    · have hlt' : W'.heap.size = W.heap.size + (W'.heap.size - W.heap.size) := by have := hg.size; omega
      refine ⟨g', 0, cap', W', hrun, ⟨by rw [List.length_append]; exact hnc, hcm, cur', hg', by rw [hcs]; omega, fun j y hy => ?_⟩, ?_, ?_⟩
      · have h3 : (icells l ++ [.int .i64 x])[j]? = some (.int .i64 y) := by rw [← icells_snoc]; exact icells_at hy
        rw [← ht, List.getElem?_take] at h3
        split at h3
        · rw [Nat.zero_add]; simpa using h3
        · cases h3
      · exact ⟨hg.os, hg.tape, hg.output, hg.size, fun k hk _ => hg.block k hk (by simp)⟩
      · exact .inr hbg
theorem wpL_qapp {ops : Array Oper} {rest : List Oper} {op : Oper} {a : Act} {Q : Exit → Act → World → Prop} (hgd : op.guard = none) (s x : Operand) (ho : op.op = .call { callee := .builtin .append, args := #[s, x], argTypes := #[50, 50] })
    {n : Nat} (hs : a.eval s = .slice (some ⟨g, o, none⟩) n c) (hn : n = l.length) (h : Qu W g o c l) {ad : Addr} {c' : Nat} {y : Int} (hx : a.eval x = .slice (some ad) 1 c') (hy : W.cell? (ad.add 0) = some (.int .i64 y)) (hl : l.length ≤ 1000000)
    (hK : ∀ g' o' cap' W', Qu W' g' o' cap' (l ++ [y]) → W.grownBy W' (some g) → (g' = g ∨ W.heap.size ≤ g') → wpList Try.prog ops Q rest (a.put op.dst (.slice (some ⟨g', o', none⟩) (n + 1) cap')) W') : wpList Try.prog ops Q (op :: rest) a W :=
  wpList_plain hgd fun K hK' => by
    subst hn
    obtain ⟨g', o', cap', W', hrun, h2, h3, h4⟩ := run_qapp h hy hl op.type
    unfold Oper.wp
    simp only [execOp, ho, resolve, invoke, builtin, Sem.run_bind, Sem.run_pure, Result.andThen_ok, List.map_toArray, List.map_cons, List.map_nil, hs, hx]
    rw [hrun]
    exact hK' _ _ (hK g' o' cap' W' h2 h3 h4)
end


/-- The row of a node. -/
def rowOf (f : Int → Option Value) (v : Int) : Value := (f v).getD (.slice none 0 0)
/-- A map of rows of ints that w does not know: at each key its own. -/
structure Adj (w W : World) (B nm : Nat) (f : Int → Option Value) (adj : Int → List Int) : Prop where
  map : MapF eI W B nm f
  row : ∀ v, W.ownsRow 0 3 1 (rowOf f v) (adj v).length (icells (adj v))
  apart : ∀ v v' g, (rowOf f v).ownBlock = some g → (rowOf f v').ownBlock = some g → v = v'
  new : ∀ v g, (rowOf f v).ownBlock = some g → w.heap.size ≤ g
  lb : w.heap.size ≤ B
section
variable {w W W' : World} {B nm : Nat} {f : Int → Option Value} {adj : Int → List Int}
theorem Adj.made (w : World) {W : World} (h : w.heap.size ≤ W.heap.size) : Adj w (W.alloc (.map #[] 0)) W.heap.size 0 (fun _ => none) (fun _ => []) :=
  ⟨MapF.made eI W, fun _ => World.ownsRow_nil _ _ _ _, fun v v' g hg => by simp [rowOf, Value.ownBlock] at hg, fun v g hg => by simp [rowOf, Value.ownBlock] at hg, h⟩
theorem Adj.keep (h : Adj w W B nm f adj) (hs : Same noB W W') : Adj w W' B nm f adj :=
  ⟨h.map.same hs (fun x => x), fun v => own_same (h.row v) hs (fun _ _ x => x), h.apart, h.new, h.lb⟩
theorem Adj.lookup (h : Adj w W B nm f adj) {v : Int} (hv : inI64 v) : (Instr.lookup 58 (.map (some B)) (.int .i64 v) false).run Try.prog W = .ok (rowOf f v) W :=
  h.map.lookup Try.underlying58 (zero50 W) (k := v) hv false
theorem Adj.isrow (h : Adj w W B nm f adj) (v : Int) : ∃ A c, rowOf f v = .slice A (adj v).length c := own_form (h.row v)
/-- After the append: the map is where it was. -/
theorem Adj.mid (h : Adj w W B nm f adj) {v : Int} (hg : W.grownBy W' (rowOf f v).ownBlock) : MapF eI W' B nm f := by
  refine h.map.same (Same.of_grown hg) (fun e => ?_)
  obtain ⟨cs, hc⟩ := own_blk (h.row v) (show (rowOf f v).ownBlock = some B from e.symm)
  exact h.map.ne_blk hc rfl
/-- A row has been appended to and stored. -/
theorem Adj.push {W2 W3 : World} (h : Adj w W B nm f adj) {v i : Int} {v' : Value} (hown : W2.ownsRow 0 3 1 v' ((adj v).length + 1) (icells (adj v) ++ [.int .i64 i])) (hg : W.grownBy W2 (rowOf f v).ownBlock)
    (hat : v'.ownBlock = (rowOf f v).ownBlock ∨ v'.ownBlock = some W.heap.size) (hsz : w.heap.size ≤ W.heap.size) (hM : MapF eI W3 B (nm + 1) (upd f v v')) (hg3 : W2.grownBy W3 (some B)) :
    Adj w W3 B (nm + 1) (upd f v v') (fun y => if y = v then adj v ++ [i] else adj y) := by
  have hr : ∀ y, rowOf (upd f v v') y = if y = v then v' else rowOf f y := fun y => by unfold rowOf upd; split <;> rfl
  have hmid := h.mid hg
  have hs3 : Same (oneB B) W2 W3 := (Same.of_grown hg3).mono (fun b _ e => by injection e)
  have hnew : ∀ g, v'.ownBlock = some g → (rowOf f v).ownBlock = some g ∨ W.heap.size ≤ g := fun g hg' => by
    rcases hat with ha | ha
    · exact .inl (ha.symm.trans hg')
    · rw [ha] at hg'
      injection hg' with hg'
      exact .inr (by omega)
  refine ⟨hM, fun y => ?_, fun y y' g h1 h2 => ?_, fun y g h1 => ?_, h.lb⟩
  · rw [hr]
    by_cases e : y = v
    · subst e
      rw [if_pos rfl]
      show W3.ownsRow 0 3 1 v' (if y = y then adj y ++ [i] else adj y).length (icells (if y = y then adj y ++ [i] else adj y))
      rw [if_pos rfl, icells_snoc, List.length_append]
      refine own_same hown hs3 (fun g hg' e => ?_)
      obtain ⟨cs, hc⟩ := own_blk hown hg'
      exact hmid.ne_blk hc (show g = B from e).symm
    · rw [if_neg e]
      show W3.ownsRow 0 3 1 _ (if y = v then adj v ++ [i] else adj y).length (icells (if y = v then adj v ++ [i] else adj y))
      rw [if_neg e]
      have h2 := own_same (h.row y) (Same.of_grown hg) (fun g hg' e' => e (h.apart y v g hg' (show _ = some g from e'.symm)))
      refine own_same h2 hs3 (fun g hg' e => ?_)
      obtain ⟨cs, hc⟩ := own_blk h2 hg'
      exact hmid.ne_blk hc (show g = B from e).symm
  · rw [hr] at h1 h2
    by_cases e : y = v
    · subst e
      by_cases e' : y' = y
      · exact e'.symm
      · rw [if_pos rfl] at h1
        rw [if_neg e'] at h2
        rcases hnew g h1 with h3 | h3
        · exact h.apart _ _ g h3 h2
        · have := own_lt (h.row y') h2
          omega
    · rw [if_neg e] at h1
      by_cases e' : y' = v
      · subst e'
        rw [if_pos rfl] at h2
        rcases hnew g h2 with h3 | h3
        · exact h.apart _ _ g h1 h3
        · have := own_lt (h.row y) h1
          omega
      · rw [if_neg e'] at h2
        exact h.apart _ _ g h1 h2
  · rw [hr] at h1
    by_cases e : y = v
    · rw [if_pos e] at h1
      rcases hnew g h1 with h3 | h3
      · exact h.new _ _ h3
      · omega
    · rw [if_neg e] at h1
      exact h.new _ _ h1
/-- What such a call changes w does not know. -/
theorem Adj.since {W2 W3 : World} (h : Adj w W B nm f adj) {v : Int} (hs : Same noB w W) (hg : W.grownBy W2 (rowOf f v).ownBlock) (hg3 : W2.grownBy W3 (some B)) : Same noB w W3 := by
  refine (hs.grown hg (fun k hk hlt => ?_)).grown hg3 (fun k hk hlt => ?_)
  · have := h.new v k hk; omega
  · injection hk with hk
    have := h.lb
    omega
end
/-- The indexes of the arcs at a node, of the first k arcs. -/
def adjK (arcs : List ArcV) (k : Nat) (v : Int) : List Int := ((List.range k).filter (fun i => match arcs[i]? with | some a => a.f == v || a.t == v | none => false)).map Int.ofNat
def adjL (arcs : List ArcV) (v : Int) : List Int := adjK arcs arcs.length v
theorem adjK_len (arcs : List ArcV) (k : Nat) (v : Int) : (adjK arcs k v).length ≤ k := by
  unfold adjK
  rw [List.length_map]
  exact Nat.le_trans (List.length_filter_le _ _) (by simp)
theorem adjK_next {arcs : List ArcV} {k : Nat} {a : ArcV} (h : arcs[k]? = some a) (v : Int) : adjK arcs (k + 1) v = adjK arcs k v ++ if a.f = v ∨ a.t = v then [(k : Int)] else [] := by
  unfold adjK
  rw [List.range_succ, List.filter_append, List.map_append]
  congr 1
  simp only [List.filter_cons, List.filter_nil, h]
  by_cases h1 : a.f = v
  · simp [h1]
  · by_cases h2 : a.t = v
    · simp [h2]
    · simp [h1, h2]
theorem adjK_two {arcs : List ArcV} {k : Nat} {a : ArcV} (h : arcs[k]? = some a) (hne : a.f ≠ a.t) :
    (fun y => if y = a.t then (fun y => if y = a.f then adjK arcs k a.f ++ [(k : Int)] else adjK arcs k y) a.t ++ [(k : Int)] else (fun y => if y = a.f then adjK arcs k a.f ++ [(k : Int)] else adjK arcs k y) y) = adjK arcs (k + 1) := by
  funext y
  rw [adjK_next h]
  show (if y = a.t then (if a.t = a.f then adjK arcs k a.f ++ [(k : Int)] else adjK arcs k a.t) ++ [(k : Int)] else if y = a.f then adjK arcs k a.f ++ [(k : Int)] else adjK arcs k y) = _
  rw [if_neg (Ne.symm hne)]
  by_cases h1 : y = a.t
  · subst h1
    simp
  · rw [if_neg h1]
    by_cases h2 : y = a.f
    · subst h2
      simp
    · simp [h2, Ne.symm h1, Ne.symm h2]
theorem adjL_mem {arcs : List ArcV} {v i : Int} : i ∈ adjL arcs v ↔ ∃ (k : Nat) (a : ArcV), i = (k : Int) ∧ arcs[k]? = some a ∧ (a.f = v ∨ a.t = v) := by
  unfold adjL adjK
  rw [List.mem_map]
  constructor
  · rintro ⟨k, hk, rfl⟩
    obtain ⟨h1, h2⟩ := List.mem_filter.1 hk
    have h3 : k < arcs.length := List.mem_range.1 h1
    rw [List.getElem?_eq_getElem h3] at h2
    exact ⟨k, arcs[k], rfl, List.getElem?_eq_getElem h3, by simpa using h2⟩
  · rintro ⟨k, a, rfl, ha, h⟩
    refine ⟨k, List.mem_filter.2 ⟨List.mem_range.2 (List.getElem?_eq_some_iff.1 ha).1, ?_⟩, rfl⟩
    rw [ha]
    simpa using h
end Go.Proofs.Ytpalacfgpcpppaa
