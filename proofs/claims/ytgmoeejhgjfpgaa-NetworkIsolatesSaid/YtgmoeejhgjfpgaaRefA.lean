/- The reference's networks in memory; Has, Index, Send. -/
import Derived.Test.YtgmoeejhgjfpgaaNetH
namespace Go.Proofs.Ytgmoeejhgjfpgaa
open Go Go.RowKit

theorem slI : SlT Try.prog 41 3 1 8 := SlT.mk_ (z := .int .i64 0) Try.underlying41 (by kernel_rfl) rfl (by decide) (by decide)

def icells (l : List Int) : List Value := l.map (Value.int .i64)
theorem icells_len (l : List Int) : (icells l).length = l.length * 1 := by simp [icells]
theorem icells_at {l : List Int} {i : Nat} {x : Int} (h : l[i]? = some x) : (icells l)[i]? = some (.int .i64 x) := by simp [icells, h]
theorem icells_one (l : List Int) : ∀ u ∈ icells l, u.oneCell' = true := by
  intro u hu
  obtain ⟨x, _, rfl⟩ := List.mem_map.1 hu
  rfl

/-- The value v is the reference's network st; its rows lie in no block of bad. -/
def RefAt (w : World) (bad : Nat → Prop) (v : Value) (st : NetSt) : Prop :=
  ∃ A c A' c', v = .agg #[.slice A st.ps.length c, .int .i64 st.last, .slice A' st.iso.length c'] ∧ Rd w bad 4 (.slice A st.ps.length c) st.ps.length (pcells st.ps) ∧ Rd w bad 1 (.slice A' st.iso.length c') st.iso.length (icells st.iso)
theorem RefAt.same {w w' : World} {bad bad' S : Nat → Prop} {v : Value} {st : NetSt} (h : RefAt w bad v st) (hs : Same S w w') (hn : ∀ b, b < w.heap.size → S b → bad b) (hb : ∀ b, b < w.heap.size → bad' b → bad b) : RefAt w' bad' v st := by
  obtain ⟨A, c, A', c', rfl, h1, h2⟩ := h
  exact ⟨A, c, A', c', rfl, h1.same hs hn hb, h2.same hs hn hb⟩
theorem RefAt.keep {w w' : World} {bad : Nat → Prop} {v : Value} {st : NetSt} (h : RefAt w bad v st) (hs : Same noB w w') : RefAt w' bad v st := h.same hs (fun _ _ x => x.elim) (fun _ _ x => x)
theorem RefAt.mk' {w : World} {bad : Nat → Prop} {pv iv : Value} {st : NetSt} {n m : Nat} (h1 : Rd w bad 4 pv n (pcells st.ps)) (h2 : Rd w bad 1 iv m (icells st.iso)) : RefAt w bad (.agg #[pv, .int .i64 st.last, iv]) st := by
  have e1 := h1.len
  have e2 := h2.len
  rw [pcells_len] at e1
  rw [icells_len] at e2
  have e1' : n = st.ps.length := by omega
  have e2' : m = st.iso.length := by omega
  subst e1' e2'
  obtain ⟨A, c, rfl, _, _, r1⟩ := h1.form
  obtain ⟨A', c', rfl, _, _, r2⟩ := h2.form
  exact ⟨A, c, A', c', rfl, r1, r2⟩
theorem RefAt.zero (w : World) (bad : Nat → Prop) : RefAt w bad (.agg #[.slice none 0 0, .int .i64 0, .slice none 0 0]) ⟨[], 0, []⟩ := RefAt.mk' (st := ⟨[], 0, []⟩) (Rd.nil_ _ _ _) (Rd.nil_ _ _ _)

theorem Rd.bound {w : World} {bad : Nat → Prop} {size n : Nat} {A : Option Addr} {c : Nat} {xs : List Value} (h : Rd w bad size (.slice A n c) n xs) : n ≤ 9223372036854775807 := by
  obtain ⟨A', c', e, h1, h2, _⟩ := h
  simp only [maxLen] at h2
  omega

theorem has_any {w : World} {bad : Nat → Prop} {v : Value} {st : NetSt} (h : RefAt w bad v st) (x : Int) :
    Calls Try.prog 32 #[v, .int .i64 x] w fun e w' => e = .returned (.bool (st.iso.contains x)) ∧ Same noB w w' := by
  obtain ⟨q, hq⟩ : ∃ q, q = st.iso.contains x := ⟨_, rfl⟩
  rw [← hq]
  have HQ := Lib.hid hq
  clear hq
  obtain ⟨A, c, A', c', rfl, _, h2⟩ := h
  obtain ⟨ps, last, iso⟩ := st
  have hb := h2.bound
  simp only at *
  generalize ps.length = n at *
  go_enter Try.func32, Try.ntmps32
  go_wp2_with fail
  refine wp_abs (fun W => Blk W w.heap.size 43 #[.slice A n c, .int .i64 last, .slice A' iso.length c'] ∧ Rd W bad 1 (.slice A' iso.length c') iso.length (icells iso) ∧ Same noB w W) ?_ ?_
  · exact ⟨Blk.new _ _ _, h2.same ((Same.refl noB _).alloc _) (fun _ _ x => x.elim) (fun _ _ x => x), (Same.refl _ _).alloc _⟩
  rintro W ⟨hB, h2, hS⟩
  have c2 : W.cell? ⟨w.heap.size, 2, none⟩ = some (.slice A' iso.length c') := hB.cell 2
  have HR := Lib.hid h2
  have HS := Lib.hid hS
  clear h2 hB hS
  go_loop [5] (fun i => ∃ k : Nat, k ≤ iso.length ∧ i = .int .i64 k ∧ Hid ((iso.take k).contains x = false)) (fun i => iso.length - (intOf i).toNat)
  case atStart => exact ⟨0, Nat.zero_le _, rfl, by simp [Hid]⟩
  case round =>
    obtain ⟨k, hk, rfl, HP⟩ := hrel
    by_cases hlt : k < iso.length
    · obtain ⟨b, o, rfl, r⟩ := HR.out.at_ (by omega)
      obtain ⟨y, hy⟩ : ∃ y, iso[k]? = some y := ⟨_, List.getElem?_eq_getElem hlt⟩
      have c4 := r.cell k _ (icells_at hy)
      have HY := Lib.hid hy
      clear r hy
      by_cases hxy : y = x
      · subst hxy
        go_wp2_with fail
        go_ret
        have hq := HQ.out.trans (List.contains_iff_mem.2 (List.mem_of_getElem? HY.out))
        subst hq
        exact ⟨rfl, HS.out⟩
      · have e0 : (y == x) = false := by simpa using hxy
        go_wp2_with fail
        go_round
        case rel =>
          refine ⟨k + 1, by omega, by go_num, ?_⟩
          have hp : (iso.take k).contains x = false := HP.out
          show (iso.take (k + 1)).contains x = false
          rw [List.take_add_one, HY.out]
          simp only [Option.toList, List.contains_append, hp, Bool.false_or]
          simpa using fun h => hxy h.symm
        case measure => simp [intOf]; omega
    · obtain rfl : k = iso.length := by omega
      go_wp2_with fail
      go_ret
      have hp := HP.out
      rw [List.take_length] at hp
      have hq := HQ.out.trans hp
      subst hq
      exact ⟨rfl, HS.out⟩

/-- The reference's index. -/
def NetSt.idx (st : NetSt) (i : Int) : Int := if st.ps.length = 0 then -1 else i % st.ps.length
theorem ridx_any {w : World} {bad : Nat → Prop} {v : Value} {st : NetSt} (h : RefAt w bad v st) {i : Int} (hi : inI64 i) :
    Calls Try.prog 23 #[v, .int .i64 i] w fun e w' => e = .returned (.int .i64 (st.idx i)) ∧ Same noB w w' := by
  obtain ⟨A, c, A', c', rfl, h1, _⟩ := h
  have hb := h1.bound
  clear h1
  unfold NetSt.idx
  generalize st.ps.length = n at *
  generalize st.iso.length = m at *
  obtain ⟨hi1, hi2⟩ := hi
  by_cases hn : n = 0
  · subst hn
    go_enter Try.func23, Try.ntmps23
    go_wp2_with fail
    go_ret
    exact ⟨rfl, (Same.refl _ _).alloc _⟩
  · rw [if_neg hn]
    have e0 : ((n : Int) == 0) = false := by simpa using hn
    have ht1 : -(n : Int) < i.tmod n := by
      have := Int.lt_tmod_of_pos i (show (0 : Int) < n by omega)
      omega
    have ht2 : i.tmod n < n := Int.tmod_lt_of_pos i (by omega)
    have ht3 : i % n = if i.tmod n < 0 then i.tmod n + n else i.tmod n := by
      rw [Int.tmod_eq_emod] at ht1 ht2 ⊢
      have h3 := Int.emod_nonneg i (b := (n : Int)) (by omega)
      have h4 := Int.emod_lt_of_pos i (show (0 : Int) < n by omega)
      split <;> split <;> simp_all <;> omega
    have HT := Lib.hid ht3
    clear ht3
    by_cases hneg : i.tmod n < 0
    · go_enter Try.func23, Try.ntmps23
      go_wp2_with fail
      go_ret
      rw [HT.out, if_pos hneg]
      exact ⟨rfl, (Same.refl _ _).alloc _⟩
    · go_enter Try.func23, Try.ntmps23
      go_wp2_with fail
      go_ret
      rw [HT.out, if_neg (by omega)]
      exact ⟨rfl, (Same.refl _ _).alloc _⟩
end Go.Proofs.Ytgmoeejhgjfpgaa
