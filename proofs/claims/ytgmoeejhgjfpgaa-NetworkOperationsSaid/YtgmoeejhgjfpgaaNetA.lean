/- The network of the program in memory, and its small methods: Isolated, index, Len, New, and slices.ContainsFunc over two endpoints. -/
import Derived.Test.YtgmoeejhgjfpgaaRows
import Derived.Test.YtgmoeejhgjfpgaaMem
import Derived.Maps.OwnSet
namespace Go.Proofs.Ytgmoeejhgjfpgaa
open Go Go.RowKit Go.Maps

/-- A packet. -/
structure Pk where
  num : Int
  frm : Int
  to : Int
  data : ByteArray
def Pk.cells (p : Pk) : List Value := [.int .i64 p.num, .int .i64 p.frm, .int .i64 p.to, .string p.data]
def Pk.val (p : Pk) : Value := .agg #[.int .i64 p.num, .int .i64 p.frm, .int .i64 p.to, .string p.data]
def pcells (ps : List Pk) : List Value := ps.flatMap Pk.cells
/-- The state of a network: its packets, the last number, the isolated endpoints (a list in which an endpoint may stand more than once). -/
structure NetSt where
  ps : List Pk
  last : Int
  iso : List Int

def inI64 (x : Int) : Prop := -9223372036854775808 ≤ x ∧ x ≤ 9223372036854775807
theorem inI64.wf {x : Int} (h : inI64 x) : (Lit.int .i64 x).wf = true := WalkArith.wf_i64 h
theorem inI64.of {x : Int} (h : (Lit.int .i64 x).wf = true) : inI64 x := by
  simpa [inI64, Lit.wf, IntKind.min, IntKind.max, IntKind.signed, IntKind.bits] using h

/-- Block b is a map whose keys that hold true are those of l; it has at most k entries. -/
def MapB (w : World) (b k : Nat) (l : List Int) : Prop :=
  ∃ D : DataW Unit, w.ownsMap Try.prog 3 (plainElem Try.prog 4) b k D ∧ ∀ x, inI64 x → D.atKey (.int .i64 x) (.lit (.bool false)) = .lit (.bool (l.contains x))

theorem law3 : Keyed Try.prog 3 := int_keyed Try.underlying3
theorem zero4 (w : World) : (zeroValue 4).run Try.prog w = .ok (.bool false) w := by kernel_rfl

theorem plainElem_bool_inv {v : Value} {z : DataW Unit × List MemPlace} (h : plainElem Try.prog 4 v = some z) : ∃ x, v = .bool x ∧ z = (.lit (.bool x), []) := by
  unfold plainElem at h
  rw [Try.underlying4] at h
  cases v <;> simp at h
  exact ⟨_, rfl, h.symm⟩

theorem MapB.lookup {w : World} {b k : Nat} {l : List Int} (h : MapB w b k l) {x : Int} (hx : inI64 x) : (Instr.lookup 28 (.map (some b)) (.int .i64 x) false).run Try.prog w = .ok (.bool (l.contains x)) w := by
  obtain ⟨D, ho, hD⟩ := h
  obtain ⟨v, ps, hr, hv⟩ := ho.lookup law3 Try.underlying28 (zero4 w) (plainElem_bool Try.underlying4 false) (keyOf_int_mk Try.underlying3 hx.wf)
  obtain ⟨y, rfl, hy⟩ := plainElem_bool_inv hv
  simp only [Prod.mk.injEq] at hy
  rw [hD x hx] at hy
  injection hy.1 with h1
  injection h1 with h1
  rw [hr, h1]

theorem MapB.store {w : World} {b k : Nat} {l : List Int} (h : MapB w b k l) (hk : k < maxLen) {x : Int} (hx : inI64 x) :
    ∃ w', (Instr.mapUpdate 28 (.map (some b)) (.int .i64 x) (.bool true)).run Try.prog w = .ok () w' ∧ MapB w' b (k + 1) (l ++ [x]) ∧ w.grownBy w' (some b) := by
  obtain ⟨D, ho, hD⟩ := h
  obtain ⟨w', hr, h1, h2⟩ := ho.update law3 Try.underlying28 hk (keyOf_int_mk Try.underlying3 hx.wf) (plainElem_bool Try.underlying4 true)
  refine ⟨w', hr, ⟨_, h1, fun y hy => ?_⟩, h2⟩
  by_cases e : y = x
  · subst e
    rw [atKey_put_same ho.isMap (by simp [WideAt.IsKeyLit])]
    simp
  · rw [atKey_put_other (by simpa using e), hD y hy]
    simp [e]

theorem MapB.drop {w : World} {b k : Nat} {l : List Int} (h : MapB w b k l) {x : Int} (hx : inI64 x) (ty : TypeId) :
    ∃ w', (Builtin.delete_ #[28, 3] ty #[.map (some b), .int .i64 x]).run Try.prog w = .ok (.tuple #[]) w' ∧ MapB w' b k (l.filter (fun y => !(y == x))) ∧ w.grownBy w' (some b) := by
  obtain ⟨D, ho, hD⟩ := h
  obtain ⟨w', hr, h1, h2⟩ := ho.drop law3 Try.underlying28 (keyOf_int_mk Try.underlying3 hx.wf) ty
  refine ⟨w', hr, ⟨_, h1, fun y hy => ?_⟩, h2.grown⟩
  by_cases e : y = x
  · subst e
    rw [atKey_del_same]
    simp
  · rw [atKey_del_other (by simpa using e), hD y hy]
    congr 2
    rw [Bool.eq_iff_iff]
    simp [e]

theorem MapB.made (w : World) : MapB (w.alloc (.map #[] 0)) w.heap.size 0 [] :=
  ⟨.map [], World.ownsMap_made _ _ _ _, fun x _ => by simp [DataW.atKey]⟩

theorem MapB.lt {w : World} {b k : Nat} {l : List Int} (h : MapB w b k l) : b < w.heap.size := by obtain ⟨D, ho, _⟩ := h; exact ho.lt
theorem MapB.same {S : Nat → Prop} {w w' : World} {b k : Nat} {l : List Int} (h : MapB w b k l) (hs : Same S w w') (hn : ¬ S b) : MapB w' b k l := by
  obtain ⟨D, ho, hD⟩ := h
  obtain ⟨es, c, hb, r⟩ := ho
  exact ⟨D, ⟨es, c, hs.heap hb hn, r⟩, hD⟩
theorem MapB.ne_blk {w : World} {b k g : Nat} {t : TypeId} {cs : Array Value} {l : List Int} (h : MapB w b k l) (hg : Blk w g t cs) : b ≠ g := by
  rintro rfl
  obtain ⟨D, ⟨es, c, hb, _⟩, _⟩ := h
  unfold Blk at hg
  rw [hg] at hb
  cases hb

/-- The network n lies in w, in blocks of S. -/
structure NetParts (w : World) (S : Nat → Prop) (n : Nat) (st : NetSt) (v : Value) (bm k : Nat) : Prop where
  blk : Blk w n 54 #[v, .map (some bm), .int .i64 st.last]
  own : w.ownsRow 0 34 4 v st.ps.length (pcells st.ps)
  map : MapB w bm k st.iso
  sn : S n
  sm : S bm
  sv : ∀ g, v.ownBlock = some g → S g
  bd : ∀ b, S b → b < w.heap.size
def NetAt (w : World) (S : Nat → Prop) (n : Nat) (st : NetSt) (k : Nat) : Prop := ∃ v bm, NetParts w S n st v bm k

theorem NetParts.same {w w' : World} {S S' : Nat → Prop} {n : Nat} {st : NetSt} {v : Value} {bm k : Nat} (h : NetParts w S n st v bm k) (hs : Same S' w w') (hd : ∀ b, S b → ¬ S' b) : NetParts w' S n st v bm k :=
  ⟨h.blk.same hs (hd _ h.sn), own_same h.own hs (fun g hg => hd _ (h.sv g hg)), h.map.same hs (hd _ h.sm), h.sn, h.sm, h.sv, fun b hb => Nat.lt_of_lt_of_le (h.bd b hb) hs.size⟩
theorem NetAt.same {w w' : World} {S S' : Nat → Prop} {n : Nat} {st : NetSt} {k : Nat} (h : NetAt w S n st k) (hs : Same S' w w') (hd : ∀ b, S b → ¬ S' b) : NetAt w' S n st k := by
  obtain ⟨v, bm, h⟩ := h
  exact ⟨v, bm, h.same hs hd⟩
/-- The network's struct is never the row of its packets, nor the map. -/
theorem NetParts.n_ne_own {w : World} {S : Nat → Prop} {n : Nat} {st : NetSt} {v : Value} {bm k : Nat} (h : NetParts w S n st v bm k) {g : Nat} (hg : v.ownBlock = some g) : n ≠ g := by
  obtain ⟨cs, hc⟩ := own_blk h.own hg
  exact h.blk.ne_ hc (by decide)
theorem NetParts.bm_ne_own {w : World} {S : Nat → Prop} {n : Nat} {st : NetSt} {v : Value} {bm k : Nat} (h : NetParts w S n st v bm k) {g : Nat} (hg : v.ownBlock = some g) : bm ≠ g := by
  obtain ⟨cs, hc⟩ := own_blk h.own hg
  exact h.map.ne_blk hc
theorem NetParts.bm_ne_n {w : World} {S : Nat → Prop} {n : Nat} {st : NetSt} {v : Value} {bm k : Nat} (h : NetParts w S n st v bm k) : bm ≠ n := h.map.ne_blk h.blk

/-- Isolated. -/
theorem isolated_any {w : World} {S : Nat → Prop} {n : Nat} {st : NetSt} {v : Value} {bm k : Nat} (h : NetParts w S n st v bm k) {x : Int} (hx : inI64 x) :
    Calls Try.prog 26 #[.pointer (some ⟨n, 0, none⟩), .int .i64 x] w fun e w' => e = .returned (.bool (st.iso.contains x)) ∧ w' = w := by
  have hl := h.map.lookup hx
  have h1 : w.cell? ⟨n, 1, none⟩ = some (.map (some bm)) := h.blk.cell 1
  generalize st.iso.contains x = q at hl ⊢
  clear h hx
  go_enter Try.func26, Try.ntmps26
  go_wp2
  go_ret
  exact ⟨rfl, rfl⟩

theorem idxf_two {w : World} {S : Nat → Prop} {n : Nat} {st : NetSt} {v : Value} {bm k : Nat} (h : NetParts w S n st v bm k) {x y : Int} (hx : inI64 x) (hy : inI64 y) {b : Nat} (hb : Blk w b 3 #[.int .i64 x, .int .i64 y]) :
    Calls Try.prog 41 #[.slice (some ⟨b, 0, none⟩) 2 2, .func (.func 26) #[.pointer (some ⟨n, 0, none⟩)] #[]] w fun e w' =>
      e = .returned (.int .i64 (if st.iso.contains x then 0 else if st.iso.contains y then 1 else -1)) ∧ w' = w := by
  have c0 : w.cell? ⟨b, 0, none⟩ = some (.int .i64 x) := hb.cell 0
  have c1 : w.cell? ⟨b, 1, none⟩ = some (.int .i64 y) := hb.cell 1
  have H0 := Lib.hid (isolated_any h hx)
  have H1 := Lib.hid (isolated_any h hy)
  generalize st.iso.contains x = qx at H0 ⊢
  generalize st.iso.contains y = qy at H1 ⊢
  clear h hx hy hb
  cases qx <;> cases qy
  all_goals
    go_enter Try.func41, Try.ntmps41
    go_wp2_with fail
    refine wp_loop_rounds 3 ?_
    rw [rounds_succ]
    go_wp2_with fail
    refine H0.out.mono ?_
    rintro e w' ⟨rfl, rfl⟩
    go_wp2_with fail
    try (rw [rounds_succ]; go_wp2_with fail; refine H1.out.mono ?_; rintro e w' ⟨rfl, rfl⟩; go_wp2_with fail)
    try (rw [rounds_succ]; go_wp2_with fail)
    go_ret
    exact ⟨rfl, rfl⟩

theorem contains_two {w : World} {S : Nat → Prop} {n : Nat} {st : NetSt} {v : Value} {bm k : Nat} (h : NetParts w S n st v bm k) {x y : Int} (hx : inI64 x) (hy : inI64 y) {b : Nat} (hb : Blk w b 3 #[.int .i64 x, .int .i64 y]) :
    Calls Try.prog 28 #[.slice (some ⟨b, 0, none⟩) 2 2, .func (.func 26) #[.pointer (some ⟨n, 0, none⟩)] #[]] w fun e w' =>
      e = .returned (.bool (st.iso.contains x || st.iso.contains y)) ∧ w' = w := by
  have H0 := Lib.hid (idxf_two h hx hy hb)
  generalize st.iso.contains x = qx at H0 ⊢
  generalize st.iso.contains y = qy at H0 ⊢
  clear h hx hy hb
  cases qx <;> cases qy
  all_goals
    go_enter Try.func28, Try.ntmps28
    go_wp2_with fail
    refine H0.out.mono ?_
    rintro e w' ⟨rfl, rfl⟩
    go_wp2_with fail
    go_ret
    exact ⟨rfl, rfl⟩

theorem idx_math (i : Int) (len : Nat) (hp : 0 < len) (hs : len ≤ 1000000) : (wrap64 (i.tmod len + len)).tmod len = i % len := by
  have h1 : -(len : Int) < i.tmod len := by
    have := Int.lt_tmod_of_pos i (show (0 : Int) < len by omega)
    omega
  have h2 : i.tmod len < len := Int.tmod_lt_of_pos i (by omega)
  rw [IntWalk.wrap64_in _ ⟨by omega, by omega⟩, Int.tmod_eq_emod_of_nonneg (by omega), Int.add_emod_right]
  rw [Int.tmod_eq_emod]
  split
  · simp
  · rw [Int.sub_emod]
    simp

theorem index_some {w : World} {S : Nat → Prop} {n : Nat} {st : NetSt} {v : Value} {bm k : Nat} (h : NetParts w S n st v bm k) {i : Int} (hi : inI64 i) (hp : 0 < st.ps.length) (hs : st.ps.length ≤ 1000000) :
    Calls Try.prog 31 #[.pointer (some ⟨n, 0, none⟩), .int .i64 i] w fun e w' => e = .returned (.tuple #[.int .i64 (i % st.ps.length), .bool true]) ∧ w' = w := by
  obtain ⟨A, c, rfl, _, _, _⟩ := (Rd.of_own (bad := noB) h.own (fun _ _ x => x)).form
  have h0 : w.cell? ⟨n, 0, none⟩ = some (.slice A st.ps.length c) := h.blk.cell 0
  generalize st.ps.length = len at hp hs h0 ⊢
  clear h
  obtain ⟨hi1, hi2⟩ := hi
  have e0 : ((len : Int) == 0) = false := by simp; omega
  go_enter Try.func31, Try.ntmps31
  go_wp2_with fail
  go_ret2
  refine ⟨?_, rfl⟩
  show Ending.returned (.tuple #[.int .i64 ((wrap64 (i.tmod len + len)).tmod len), .bool true]) = _
  rw [idx_math i len hp hs]

theorem index_none {w : World} {S : Nat → Prop} {n : Nat} {st : NetSt} {v : Value} {bm k : Nat} (h : NetParts w S n st v bm k) {i : Int} (hp : st.ps.length = 0) :
    Calls Try.prog 31 #[.pointer (some ⟨n, 0, none⟩), .int .i64 i] w fun e w' => e = .returned (.tuple #[.int .i64 0, .bool false]) ∧ w' = w := by
  obtain ⟨A, c, rfl, _, _, _⟩ := (Rd.of_own (bad := noB) h.own (fun _ _ x => x)).form
  have h0 : w.cell? ⟨n, 0, none⟩ = some (.slice A st.ps.length c) := h.blk.cell 0
  rw [hp] at h0
  clear h hp
  go_enter Try.func31, Try.ntmps31
  go_wp2_with fail
  go_ret2
  exact ⟨rfl, rfl⟩

theorem len_any {w : World} {S : Nat → Prop} {n : Nat} {st : NetSt} {v : Value} {bm k : Nat} (h : NetParts w S n st v bm k) :
    Calls Try.prog 13 #[.pointer (some ⟨n, 0, none⟩)] w fun e w' => e = .returned (.int .i64 st.ps.length) ∧ w' = w := by
  obtain ⟨A, c, rfl, _, _, _⟩ := (Rd.of_own (bad := noB) h.own (fun _ _ x => x)).form
  have h0 : w.cell? ⟨n, 0, none⟩ = some (.slice A st.ps.length c) := h.blk.cell 0
  clear h
  go_enter Try.func13, Try.ntmps13
  go_wp2_with fail
  go_ret
  exact ⟨rfl, rfl⟩

theorem new_any (w : World) :
    Calls Try.prog 12 #[] w fun e w' => ∃ n, e = .returned (.pointer (some ⟨n, 0, none⟩)) ∧ NetAt w' (fun b => w.heap.size ≤ b ∧ b < w'.heap.size) n ⟨[], 0, []⟩ 0 ∧ Same noB w w' := by
  have hmm := @run_makeMap Try.prog
  go_enter Try.func12, Try.ntmps12
  go_wp2_with fail
  go_ret
  refine ⟨w.heap.size + 1, rfl, ⟨.slice none 0 0, w.heap.size, ?_, World.ownsRow_nil _ _ _ _, ?_, ?_, ?_, ?_, fun b hb => hb.2⟩, ((Same.refl _ _).alloc _).alloc _⟩
  · have h := Blk.new (w.alloc (.map #[] 0)) 54 #[.slice none 0 0, .map (some w.heap.size), .int .i64 0]
    simpa using h
  · exact (MapB.made w).same ((Same.refl noB _).alloc _) (fun x => x)
  · simp
  · simp; omega
  · intro g hg
    simp [Value.ownBlock] at hg
end Go.Proofs.Ytgmoeejhgjfpgaa
