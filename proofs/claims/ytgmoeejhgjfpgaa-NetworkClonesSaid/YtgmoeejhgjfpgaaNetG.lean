/- The network's methods over memory that is new since a world w0; awake. -/
import Derived.Test.YtgmoeejhgjfpgaaNetF
namespace Go.Proofs.Ytgmoeejhgjfpgaa
open Go Go.RowKit Go.Maps

/-- A network that lies in blocks that are new since w0; all else is as it was in w0. -/
def NetNew (w0 w : World) (n : Nat) (st : NetSt) (k : Nat) : Prop := ∃ S, NetAt w S n st k ∧ (∀ b, S b → w0.heap.size ≤ b) ∧ Same noB w0 w

def NetSt.ok (st : NetSt) : Prop := st.ps.length ≤ 1000000 ∧ 0 ≤ st.last ∧ st.last ≤ 1000000 ∧ ∀ p ∈ st.ps, inI64 p.frm ∧ inI64 p.to
def NetSt.arrives (st : NetSt) (i : Int) : Option Pk := match st.ps[st.at_ i]? with | some p => if st.cut p.frm p.to then none else some p | none => none
def gotten (o : Option Pk) : Value := match o with | some p => .tuple #[p.val, .bool true] | none => .tuple #[noPk, .bool false]

theorem NetNew.step {w0 w w' : World} {S : Nat → Prop} {n k' : Nat} {st' : NetSt} (hS : ∀ b, S b → w0.heap.size ≤ b) (h0 : Same noB w0 w) (h : NetStep S n w w' st' k') : NetNew w0 w' n st' k' := by
  obtain ⟨S', h1, h2, h3⟩ := h
  have := h0.size
  refine ⟨S', h1, fun b hb => ?_, h0.trans h2 (fun b hlt hb => absurd (hS b hb) (by omega))⟩
  rcases h3 b hb with hx | hx
  · exact hS b hx
  · omega
theorem NetNew.next {w0 w w' : World} {n k : Nat} {st : NetSt} (h : NetNew w0 w n st k) (hs : Same noB w w') : NetNew w0 w' n st k := by
  obtain ⟨S, h1, h2, h3⟩ := h
  exact ⟨S, h1.same hs (fun _ _ x => x), h2, h3.trans' hs⟩
theorem NetNew.since {w0 w : World} {n k : Nat} {st : NetSt} (h : NetNew w0 w n st k) : Same noB w0 w := by obtain ⟨S, _, _, h⟩ := h; exact h

section
variable {w0 w : World} {n k : Nat} {st : NetSt}
theorem new_new (w : World) : Calls Try.prog 12 #[] w fun e w' => ∃ n, e = .returned (.pointer (some ⟨n, 0, none⟩)) ∧ NetNew w w' n ⟨[], 0, []⟩ 0 := by
  refine (new_any w).mono ?_
  rintro e w' ⟨n, rfl, h1, h2⟩
  exact ⟨n, rfl, _, h1, fun b hb => hb.1, h2⟩
theorem len_new (h : NetNew w0 w n st k) : Calls Try.prog 13 #[.pointer (some ⟨n, 0, none⟩)] w fun e w' => e = .returned (.int .i64 st.ps.length) ∧ w' = w := by
  obtain ⟨S, ⟨v, bm, h⟩, _⟩ := h
  exact len_any h
theorem isolated_new (h : NetNew w0 w n st k) {x : Int} (hx : inI64 x) : Calls Try.prog 26 #[.pointer (some ⟨n, 0, none⟩), .int .i64 x] w fun e w' => e = .returned (.bool (st.iso.contains x)) ∧ w' = w := by
  obtain ⟨S, ⟨v, bm, h⟩, _⟩ := h
  exact isolated_any h hx
theorem send_new (h : NetNew w0 w n st k) (ho : st.ok) {x y : Int} (hx : inI64 x) (hy : inI64 y) (d : ByteArray) :
    Calls Try.prog 14 #[.pointer (some ⟨n, 0, none⟩), .int .i64 x, .int .i64 y, .string d] w fun e w' => e = .returned (.int .i64 (st.sent x y)) ∧ NetNew w0 w' n (st.send x y d) k := by
  obtain ⟨S, h1, h2, h3⟩ := h
  exact (send_any h1 hx hy d ho.1 ⟨ho.2.1, ho.2.2.1⟩).mono fun _ _ hh => ⟨hh.1, NetNew.step h2 h3 hh.2⟩
theorem isolate_new (h : NetNew w0 w n st k) {x : Int} (hx : inI64 x) (hk : k ≤ 1000000) : Calls Try.prog 18 #[.pointer (some ⟨n, 0, none⟩), .int .i64 x] w fun e w' => e = .returned (.tuple #[]) ∧ NetNew w0 w' n (st.isolate x) (k + 1) := by
  obtain ⟨S, h1, h2, h3⟩ := h
  exact (isolate_any h1 hx hk).mono fun _ _ hh => ⟨hh.1, NetNew.step h2 h3 hh.2⟩
theorem join_new (h : NetNew w0 w n st k) {x : Int} (hx : inI64 x) : Calls Try.prog 19 #[.pointer (some ⟨n, 0, none⟩), .int .i64 x] w fun e w' => e = .returned (.tuple #[]) ∧ NetNew w0 w' n (st.join x) k := by
  obtain ⟨S, h1, h2, h3⟩ := h
  exact (join_any h1 hx).mono fun _ _ hh => ⟨hh.1, NetNew.step h2 h3 hh.2⟩
theorem drop_new (h : NetNew w0 w n st k) (ho : st.ok) {i : Int} (hi : inI64 i) : Calls Try.prog 16 #[.pointer (some ⟨n, 0, none⟩), .int .i64 i] w fun e w' => e = .returned (.bool (decide (0 < st.ps.length))) ∧ NetNew w0 w' n (st.drop i) k := by
  obtain ⟨S, h1, h2, h3⟩ := h
  exact (drop_any h1 hi ho.1).mono fun _ _ hh => ⟨hh.1, NetNew.step h2 h3 hh.2⟩
theorem double_new (h : NetNew w0 w n st k) (ho : st.ok) {i : Int} (hi : inI64 i) : Calls Try.prog 17 #[.pointer (some ⟨n, 0, none⟩), .int .i64 i] w fun e w' => e = .returned (.bool (decide (0 < st.ps.length))) ∧ NetNew w0 w' n (st.double i) k := by
  obtain ⟨S, h1, h2, h3⟩ := h
  exact (double_any h1 hi ho.1 ⟨ho.2.1, ho.2.2.1⟩).mono fun _ _ hh => ⟨hh.1, NetNew.step h2 h3 hh.2⟩
theorem deliver_any {S : Nat → Prop} (h1 : NetAt w S n st k) (ho : st.ok) {i : Int} (hi : inI64 i) : Calls Try.prog 15 #[.pointer (some ⟨n, 0, none⟩), .int .i64 i] w fun e w' => e = .returned (gotten (st.arrives i)) ∧ NetStep S n w w' (st.drop i) k := by
  by_cases hp : 0 < st.ps.length
  · obtain ⟨p, hpk⟩ : ∃ p, st.ps[st.at_ i]? = some p := ⟨_, List.getElem?_eq_getElem (st.at_lt i hp)⟩
    obtain ⟨hf, ht⟩ := ho.2.2.2 p (List.mem_of_getElem? hpk)
    refine (deliver_some h1 hi hp ho.1 hpk hf ht).mono fun _ _ hh => ⟨?_, hh.2⟩
    rw [hh.1]
    unfold NetSt.arrives gotten
    rw [hpk]
    by_cases hc : st.cut p.frm p.to = true
    · simp [hc]
    · simp [hc]
  · refine (deliver_none h1 (by omega)).mono fun _ _ hh => ⟨?_, ?_⟩
    · rw [hh.1]
      unfold NetSt.arrives gotten
      rw [List.getElem?_eq_none (by omega)]
    · rw [st.drop_nil i (by omega)]
      exact hh.2
theorem deliver_new (h : NetNew w0 w n st k) (ho : st.ok) {i : Int} (hi : inI64 i) : Calls Try.prog 15 #[.pointer (some ⟨n, 0, none⟩), .int .i64 i] w fun e w' => e = .returned (gotten (st.arrives i)) ∧ NetNew w0 w' n (st.drop i) k := by
  obtain ⟨S, h1, h2, h3⟩ := h
  exact (deliver_any h1 ho hi).mono fun _ _ hh => ⟨hh.1, NetNew.step h2 h3 hh.2⟩
end

theorem inI64_of {x : Int} (h : -1000000 ≤ x) (h' : x ≤ 1000000) : inI64 x := ⟨by omega, by omega⟩
def bA : ByteArray := ⟨#[97]⟩
def bB : ByteArray := ⟨#[98]⟩
def st1 : NetSt := ⟨[⟨1, 1, 2, bA⟩], 1, []⟩
def st2 : NetSt := ⟨[⟨1, 1, 2, bA⟩, ⟨2, 2, 1, bB⟩], 2, []⟩
def st3 : NetSt := ⟨[⟨1, 1, 2, bA⟩, ⟨2, 2, 1, bB⟩, ⟨3, 2, 1, bB⟩], 3, []⟩
def st4 : NetSt := ⟨[⟨1, 1, 2, bA⟩, ⟨2, 2, 1, bB⟩, ⟨3, 2, 1, bB⟩], 3, [1]⟩
def st5 : NetSt := ⟨[⟨2, 2, 1, bB⟩, ⟨3, 2, 1, bB⟩], 3, [1]⟩
def st6 : NetSt := ⟨[⟨2, 2, 1, bB⟩, ⟨3, 2, 1, bB⟩], 3, []⟩
theorem ok_small {l : List Pk} {last : Int} {iso : List Int} (h1 : l.length ≤ 1000000) (h2 : 0 ≤ last) (h3 : last ≤ 1000000) (h : ∀ p ∈ l, (-1000000 ≤ p.frm ∧ p.frm ≤ 1000000) ∧ (-1000000 ≤ p.to ∧ p.to ≤ 1000000)) : NetSt.ok ⟨l, last, iso⟩ :=
  ⟨h1, h2, h3, fun p hp => ⟨inI64_of (h p hp).1.1 (h p hp).1.2, inI64_of (h p hp).2.1 (h p hp).2.2⟩⟩

set_option maxHeartbeats 400000 in
theorem awake_any (w : World) : Calls Try.prog 11 #[] w fun e w' => e = .returned (.bool true) ∧ Same noB w w' := by
  go_enter Try.func11, Try.ntmps11
  go_wp2_with fail
  refine (new_new w).mono ?_
  rintro e w1 ⟨n, rfl, h⟩
  have H1 := Lib.hid h
  clear h
  go_wp2_with fail
  refine (send_new H1.out (ok_small (by decide) (by decide) (by decide) (by decide)) (inI64_of (by decide) (by decide)) (inI64_of (by decide) (by decide)) bA).mono ?_
  rintro e w2 ⟨rfl, h⟩
  have H2 : Hid (NetNew w w2 n st1 0) := h
  clear h H1
  go_wp2_with fail
  refine (send_new H2.out (ok_small (by decide) (by decide) (by decide) (by decide)) (inI64_of (by decide) (by decide)) (inI64_of (by decide) (by decide)) bB).mono ?_
  rintro e w3 ⟨rfl, h⟩
  have H3 : Hid (NetNew w w3 n st2 0) := h
  clear h H2
  go_wp2_with fail
  refine (double_new H3.out (ok_small (by decide) (by decide) (by decide) (by decide)) (inI64_of (by decide) (by decide))).mono ?_
  rintro e w4 ⟨rfl, h⟩
  have H4 : Hid (NetNew w w4 n st3 0) := h
  clear h H3
  go_wp2_with fail
  refine (isolate_new H4.out (inI64_of (by decide) (by decide)) (by decide)).mono ?_
  rintro e w5 ⟨rfl, h⟩
  have H5 : Hid (NetNew w w5 n st4 1) := h
  clear h H4
  go_wp2_with fail
  refine (deliver_new H5.out (ok_small (by decide) (by decide) (by decide) (by decide)) (inI64_of (by decide) (by decide))).mono ?_
  rintro e w6 ⟨rfl, h⟩
  have H6 : Hid (NetNew w w6 n st5 1) := h
  clear h H5
  have e6 : gotten (st4.arrives 0) = .tuple #[.agg #[.int .i64 0, .int .i64 0, .int .i64 0, .string .empty], .bool false] := rfl
  rw [e6]
  clear e6
  go_wp2_with fail
  refine (len_new (H6.out.next ((Same.refl _ _).alloc _))).mono ?_
  rintro e w7 ⟨rfl, rfl⟩
  go_wp2_with fail
  refine (join_new (H6.out.next ((Same.refl _ _).alloc _)) (inI64_of (by decide) (by decide))).mono ?_
  rintro e w8 ⟨rfl, h⟩
  have H8 : Hid (NetNew w w8 n st6 1) := h
  clear h H6
  go_wp2_with fail
  refine (deliver_new H8.out (ok_small (by decide) (by decide) (by decide) (by decide)) (inI64_of (by decide) (by decide))).mono ?_
  rintro e w9 ⟨rfl, h⟩
  have e9 : gotten (st6.arrives 0) = .tuple #[.agg #[.int .i64 2, .int .i64 2, .int .i64 1, .string bB], .bool true] := rfl
  rw [e9]
  have H9 := Lib.hid h
  clear h H8 e9
  go_wp2_with fail
  · go_ret
    exact ⟨rfl, H9.out.since.alloc _⟩
  · have hb : ¬ bB.toList = [98] := by assumption
    exact absurd (show bB.toList = [98] by decide +kernel) hb
end Go.Proofs.Ytgmoeejhgjfpgaa
