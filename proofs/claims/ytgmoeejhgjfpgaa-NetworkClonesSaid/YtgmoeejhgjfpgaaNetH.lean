/- The network's methods beside blocks that are kept (T). -/
import Derived.Test.YtgmoeejhgjfpgaaNetG
import Derived.Test.YtgmoeejhgjfpgaaMaps
import Derived.DeepKeys4
namespace Go.Proofs.Ytgmoeejhgjfpgaa
open Go Go.RowKit Go.Maps

def notB (T : Nat → Prop) : Nat → Prop := fun b => ¬ T b
/-- A network whose blocks are none of T. -/
def NetOn (T : Nat → Prop) (w : World) (n : Nat) (st : NetSt) (k : Nat) : Prop := (∀ b, T b → b < w.heap.size) ∧ ∃ S, NetAt w S n st k ∧ ∀ b, S b → ¬ T b

theorem NetOn.step {T S : Nat → Prop} {w w' : World} {n k' : Nat} {st' : NetSt} (hT : ∀ b, T b → b < w.heap.size) (hS : ∀ b, S b → ¬ T b) (h : NetStep S n w w' st' k') : NetOn T w' n st' k' ∧ Same (notB T) w w' := by
  obtain ⟨S', h1, h2, h3⟩ := h
  refine ⟨⟨fun b hb => Nat.lt_of_lt_of_le (hT b hb) h2.size, S', h1, fun b hb ht => ?_⟩, h2.mono (fun b _ hb => hS b hb)⟩
  rcases h3 b hb with hx | hx
  · exact hS b hx ht
  · have := hT b ht
    omega
theorem NetOn.weaken {T T' : Nat → Prop} {w : World} {n k : Nat} {st : NetSt} (h : NetOn T w n st k) (hT : ∀ b, T' b → T b) : NetOn T' w n st k := by
  obtain ⟨h1, S, h2, h3⟩ := h
  exact ⟨fun b hb => h1 b (hT b hb), S, h2, fun b hb ht => h3 b hb (hT b ht)⟩
theorem NetOn.next {T S : Nat → Prop} {w w' : World} {n k : Nat} {st : NetSt} (h : NetOn T w n st k) (hs : Same S w w') (hS : ∀ b, b < w.heap.size → S b → T b) : NetOn T w' n st k := by
  obtain ⟨h1, S', h2, h3⟩ := h
  exact ⟨fun b hb => Nat.lt_of_lt_of_le (h1 b hb) hs.size, S', h2.same hs (fun b hb hb' => h3 b hb (hS b (h2.bd b hb) hb')), h3⟩
theorem NetOn.keep {T : Nat → Prop} {w w' : World} {n k : Nat} {st : NetSt} (h : NetOn T w n st k) (hs : Same noB w w') : NetOn T w' n st k := h.next hs (fun _ _ x => x.elim)
theorem NetOn.protect {T : Nat → Prop} {w : World} {n k : Nat} {st : NetSt} (h : NetOn T w n st k) (o : Obj) : NetOn (fun b => T b ∨ b = w.heap.size) (w.alloc o) n st k := by
  obtain ⟨h1, S, h2, h3⟩ := h
  refine ⟨fun b hb => ?_, S, h2.same ((Same.refl noB _).alloc _) (fun _ _ x => x), fun b hb ht => ?_⟩
  · simp
    rcases hb with hb | hb
    · have := h1 b hb
      omega
    · omega
  · rcases ht with ht | ht
    · exact h3 b hb ht
    · have := h2.bd b hb
      omega
theorem NetNew.on {w0 w : World} {n k : Nat} {st : NetSt} (h : NetNew w0 w n st k) : NetOn (fun b => b < w0.heap.size) w n st k := by
  obtain ⟨S, h1, h2, h3⟩ := h
  exact ⟨fun b hb => Nat.lt_of_lt_of_le hb h3.size, S, h1, fun b hb ht => by have := h2 b hb; omega⟩
theorem NetOn.bd {T : Nat → Prop} {w : World} {n k : Nat} {st : NetSt} (h : NetOn T w n st k) : ∀ b, T b → b < w.heap.size := h.1

section
variable {T : Nat → Prop} {w : World} {n k : Nat} {st : NetSt}
theorem len_on (h : NetOn T w n st k) : Calls Try.prog 13 #[.pointer (some ⟨n, 0, none⟩)] w fun e w' => e = .returned (.int .i64 st.ps.length) ∧ w' = w := by
  obtain ⟨_, S, ⟨v, bm, h⟩, _⟩ := h
  exact len_any h
theorem isolated_on (h : NetOn T w n st k) {x : Int} (hx : inI64 x) : Calls Try.prog 26 #[.pointer (some ⟨n, 0, none⟩), .int .i64 x] w fun e w' => e = .returned (.bool (st.iso.contains x)) ∧ w' = w := by
  obtain ⟨_, S, ⟨v, bm, h⟩, _⟩ := h
  exact isolated_any h hx
theorem send_on (h : NetOn T w n st k) (ho : st.ok) {x y : Int} (hx : inI64 x) (hy : inI64 y) (d : ByteArray) :
    Calls Try.prog 14 #[.pointer (some ⟨n, 0, none⟩), .int .i64 x, .int .i64 y, .string d] w fun e w' => e = .returned (.int .i64 (st.sent x y)) ∧ NetOn T w' n (st.send x y d) k ∧ Same (notB T) w w' := by
  obtain ⟨h0, S, h1, h2⟩ := h
  exact (send_any h1 hx hy d ho.1 ⟨ho.2.1, ho.2.2.1⟩).mono fun _ _ hh => ⟨hh.1, NetOn.step h0 h2 hh.2⟩
theorem isolate_on (h : NetOn T w n st k) {x : Int} (hx : inI64 x) (hk : k ≤ 1000000) : Calls Try.prog 18 #[.pointer (some ⟨n, 0, none⟩), .int .i64 x] w fun e w' => e = .returned (.tuple #[]) ∧ NetOn T w' n (st.isolate x) (k + 1) ∧ Same (notB T) w w' := by
  obtain ⟨h0, S, h1, h2⟩ := h
  exact (isolate_any h1 hx hk).mono fun _ _ hh => ⟨hh.1, NetOn.step h0 h2 hh.2⟩
theorem join_on (h : NetOn T w n st k) {x : Int} (hx : inI64 x) : Calls Try.prog 19 #[.pointer (some ⟨n, 0, none⟩), .int .i64 x] w fun e w' => e = .returned (.tuple #[]) ∧ NetOn T w' n (st.join x) k ∧ Same (notB T) w w' := by
  obtain ⟨h0, S, h1, h2⟩ := h
  exact (join_any h1 hx).mono fun _ _ hh => ⟨hh.1, NetOn.step h0 h2 hh.2⟩
theorem drop_on (h : NetOn T w n st k) (ho : st.ok) {i : Int} (hi : inI64 i) : Calls Try.prog 16 #[.pointer (some ⟨n, 0, none⟩), .int .i64 i] w fun e w' => e = .returned (.bool (decide (0 < st.ps.length))) ∧ NetOn T w' n (st.drop i) k ∧ Same (notB T) w w' := by
  obtain ⟨h0, S, h1, h2⟩ := h
  exact (drop_any h1 hi ho.1).mono fun _ _ hh => ⟨hh.1, NetOn.step h0 h2 hh.2⟩
theorem double_on (h : NetOn T w n st k) (ho : st.ok) {i : Int} (hi : inI64 i) : Calls Try.prog 17 #[.pointer (some ⟨n, 0, none⟩), .int .i64 i] w fun e w' => e = .returned (.bool (decide (0 < st.ps.length))) ∧ NetOn T w' n (st.double i) k ∧ Same (notB T) w w' := by
  obtain ⟨h0, S, h1, h2⟩ := h
  exact (double_any h1 hi ho.1 ⟨ho.2.1, ho.2.2.1⟩).mono fun _ _ hh => ⟨hh.1, NetOn.step h0 h2 hh.2⟩
theorem deliver_on (h : NetOn T w n st k) (ho : st.ok) {i : Int} (hi : inI64 i) : Calls Try.prog 15 #[.pointer (some ⟨n, 0, none⟩), .int .i64 i] w fun e w' => e = .returned (gotten (st.arrives i)) ∧ NetOn T w' n (st.drop i) k ∧ Same (notB T) w w' := by
  obtain ⟨h0, S, h1, h2⟩ := h
  exact (deliver_any h1 ho hi).mono fun _ _ hh => ⟨hh.1, NetOn.step h0 h2 hh.2⟩
end

/-! ### Keys -/
/-- An endpoint, a number: a key of map[int]. -/
def eI : KeyEnc Try.prog 3 Int where
  enc := fun x => .int .i64 x
  ok := inI64
  law := law3
  key := fun _ h => ⟨_, keyOf_int_mk Try.underlying3 h.wf⟩
  inj := fun _ _ h => by injection h
theorem cells34 : Try.prog.cellsOf 34 = 4 := by kernel_rfl
theorem cells3 : Try.prog.cellsOf 3 = 1 := by kernel_rfl
theorem cells9 : Try.prog.cellsOf 9 = 1 := by kernel_rfl
theorem laidOut : laidOutB Try.prog = true := by kernel_rfl
theorem law34 : Keyed Try.prog 34 := Keyed.of_law (deep_law_laid laidOut (m := 2) (by omega) (of_decide_eq_true (by kernel_rfl)) (by kernel_rfl) (by kernel_rfl))
def Pk.ok (p : Pk) : Prop := inI64 p.num ∧ inI64 p.frm ∧ inI64 p.to ∧ p.data.size ≤ maxLen
theorem keyLits3 (d : Nat) {x : Int} (h : inI64 x) : Try.prog.keyLits (d + 1) 3 [.int .i64 x] = some [.int .i64 x] := by
  have hw := h.wf
  simp [Program.keyLits, Try.underlying3, hw]
theorem keyLits9 (d : Nat) {s : ByteArray} (h : s.size ≤ maxLen) : Try.prog.keyLits (d + 1) 9 [.string s] = some [.string s.data.toList] := by
  simp only [Program.keyLits, Try.underlying9]
  exact if_pos h
theorem keyLits_struct {P : Program} {t : TypeId} {fs : Array Field} (hu : P.underlying t = some (.struct fs)) (d : Nat) (cs : List Value) : P.keyLits (d + 1) t cs =
    if cs.length = P.cellsOf t ∧ fs.all (·.name != "_") = true then (fs.toList.mapM fun f => P.keyLits d f.type ((cs.drop f.offset).take (P.cellsOf f.type))).map List.flatten else none := by
  simp only [Program.keyLits, hu]
theorem keyLits34 (d : Nat) {p : Pk} (h : p.ok) : Try.prog.keyLits (d + 1 + 1) 34 p.val.cells.toList = some [.int .i64 p.num, .int .i64 p.frm, .int .i64 p.to, .string p.data.data.toList] := by
  obtain ⟨h1, h2, h3, h4⟩ := h
  rw [keyLits_struct Try.underlying34]
  simp only [Pk.val, Value.cells]
  refine (if_pos ⟨by rw [cells34]; rfl, by decide +kernel⟩).trans ?_
  simp only [cells3, cells9, List.mapM_cons, List.mapM_nil, List.drop_zero, List.drop_succ_cons, List.take_succ_cons, List.take_zero, keyLits3 _ h1, keyLits3 _ h2, keyLits3 _ h3, keyLits9 _ h4]
  rfl
theorem Pk.key (p : Pk) (h : p.ok) : ∃ l, keyOf Try.prog 34 p.val = some l := by
  have hk : Try.prog.keyType 34 = true := by kernel_rfl
  have hf : p.val.formed Try.prog 34 = true := by simp [Pk.val, Value.formed, Try.underlying34, cells34]
  have hz : Try.prog.types.size = 86 + 1 := by kernel_rfl
  have hl := keyLits34 86 h
  rw [← hz] at hl
  unfold keyOf
  rw [Try.underlying34]
  dsimp only
  rw [hk, hf, hl]
  exact ⟨_, rfl⟩
/-- A packet: a key of map[api.Packet]. -/
def eP : KeyEnc Try.prog 34 Pk where
  enc := Pk.val
  ok := Pk.ok
  law := law34
  key := Pk.key
  inj := fun p q h => by
    obtain ⟨a, b, c, d⟩ := p
    obtain ⟨a', b', c', d'⟩ := q
    simp [Pk.val] at h
    obtain ⟨rfl, rfl, rfl, rfl⟩ := h
    rfl
end Go.Proofs.Ytgmoeejhgjfpgaa
