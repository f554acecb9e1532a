/- The network's methods Send, Isolate, Join, Double. -/
import Derived.Test.YtgmoeejhgjfpgaaNetB
namespace Go.Proofs.Ytgmoeejhgjfpgaa
open Go Go.RowKit Go.Maps

theorem NetParts.of_same {w w' : World} {S : Nat → Prop} {n : Nat} {st : NetSt} {v : Value} {bm k : Nat} (h : NetParts w S n st v bm k) (hs : Same noB w w') : NetParts w' S n st v bm k :=
  h.same hs (fun _ _ x => x)
theorem NetStep.refl_ {w w' : World} {S : Nat → Prop} {n : Nat} {st : NetSt} {k : Nat} (h : NetAt w S n st k) (hs : Same noB w w') : NetStep S n w w' st k :=
  ⟨S, h.same hs (fun _ _ x => x), hs.of_no, fun _ h => .inl h⟩
theorem NetStep.after {w w' w'' : World} {S : Nat → Prop} {n : Nat} {st : NetSt} {k : Nat} (hs : Same noB w w') (h : NetStep S n w' w'' st k) : NetStep S n w w'' st k := by
  obtain ⟨S', h1, h2, h3⟩ := h
  have := hs.size
  exact ⟨S', h1, hs.of_no.trans' h2, fun b hb => (h3 b hb).imp id (fun h => by omega)⟩
theorem NetStep.then_ {w w' w'' : World} {S : Nat → Prop} {n : Nat} {st : NetSt} {k : Nat} (h : NetStep S n w w' st k) (hs : Same noB w' w'') : NetStep S n w w'' st k := by
  obtain ⟨S', h1, h2, h3⟩ := h
  exact ⟨S', h1.same hs (fun _ _ x => x), h2.trans hs (fun _ _ x => x.elim), h3⟩

/-- A step between the laying of local blocks and further stores into them. -/
theorem NetStep.local_ {w W w1 w2 : World} {S L : Nat → Prop} {n : Nat} {st : NetSt} {k : Nat} (hb : ∀ b, S b → b < w.heap.size) (hs : Same noB w W) (h : NetStep S n W w1 st k) (h2 : Same L w1 w2) (hL : ∀ b, L b → w.heap.size ≤ b ∧ b < W.heap.size) : NetStep S n w w2 st k := by
  obtain ⟨S', h1, h3, h4⟩ := h
  have hsz := hs.size
  refine ⟨S', h1.same h2 (fun b hb' hl => ?_), (hs.of_no.trans' h3).trans h2 (fun b hlt hl => absurd (hL b hl).1 (by omega)), fun b hb' => (h4 b hb').imp id (fun h => by omega)⟩
  have hl' := hL b hl
  rcases h4 b hb' with hx | hx
  · have := hb b hx
    omega
  · omega

theorem NetAt.bd {w : World} {S : Nat → Prop} {n : Nat} {st : NetSt} {k : Nat} (h : NetAt w S n st k) : ∀ b, S b → b < w.heap.size := by
  obtain ⟨v, bm, h⟩ := h
  exact h.bd
theorem NetStep.bd {w w' : World} {S : Nat → Prop} {n : Nat} {st : NetSt} {k : Nat} (h : NetStep S n w w' st k) {g : Nat} {t : TypeId} {cs : Array Value} (hb : Blk w g t cs) (hn : ¬ S g) : Blk w' g t cs := by
  obtain ⟨S', _, h2, _⟩ := h
  exact hb.same h2 hn
theorem NetStep.size {w w' : World} {S : Nat → Prop} {n : Nat} {st : NetSt} {k : Nat} (h : NetStep S n w w' st k) : w.heap.size ≤ w'.heap.size := by
  obtain ⟨S', _, h2, _⟩ := h
  exact h2.size

/-- Is a packet between these endpoints lost? -/
def NetSt.cut (st : NetSt) (a b : Int) : Bool := st.iso.contains a || st.iso.contains b
def NetSt.send (st : NetSt) (a b : Int) (d : ByteArray) : NetSt := if st.cut a b then st else ⟨st.ps ++ [⟨st.last + 1, a, b, d⟩], st.last + 1, st.iso⟩
def NetSt.sent (st : NetSt) (a b : Int) : Int := if st.cut a b then 0 else st.last + 1

theorem send_any {w : World} {S : Nat → Prop} {n : Nat} {st : NetSt} {k : Nat} (h : NetAt w S n st k) {x y : Int} (hx : inI64 x) (hy : inI64 y) (d : ByteArray) (hs : st.ps.length ≤ 1000000) (hl : 0 ≤ st.last ∧ st.last ≤ 1000000) :
    Calls Try.prog 14 #[.pointer (some ⟨n, 0, none⟩), .int .i64 x, .int .i64 y, .string d] w fun e w' => e = .returned (.int .i64 (st.sent x y)) ∧ NetStep S n w w' (st.send x y d) k := by
  have hS : Same noB w (w.alloc (.cells #[.int .i64 x, .int .i64 y] 3)) := (Same.refl _ _).alloc _
  obtain ⟨v, bm, hp⟩ := h
  have H0 := Lib.hid (contains_two (hp.of_same hS) hx hy (Blk.new w 3 #[.int .i64 x, .int .i64 y]))
  have H1 := Lib.hid (add_any ((show NetAt w S n st k from ⟨v, bm, hp⟩).same hS (fun _ _ x => x)) ⟨0, x, y, d⟩ hs hl)
  have HN := Lib.hid (show NetAt w S n st k from ⟨v, bm, hp⟩)
  have HS := Lib.hid hS
  unfold NetSt.sent NetSt.send NetSt.cut
  clear hp hS hs hl hx hy
  by_cases hc : (st.iso.contains x || st.iso.contains y) = true
  · rw [if_pos hc, if_pos hc]
    rw [hc] at H0
    clear hc
    go_enter Try.func14, Try.ntmps14
    go_wp2_with fail
    refine H0.out.mono ?_
    rintro e w' ⟨rfl, rfl⟩
    go_wp2_with fail
    go_ret
    exact ⟨rfl, NetStep.refl_ HN.out HS.out⟩
  · rw [if_neg hc, if_neg hc]
    rw [Bool.not_eq_true] at hc
    rw [hc] at H0
    clear hc
    go_enter Try.func14, Try.ntmps14
    go_wp2_with fail
    refine H0.out.mono ?_
    rintro e w' ⟨rfl, rfl⟩
    go_wp2_with fail
    refine H1.out.mono ?_
    rintro e w' ⟨rfl, hst⟩
    have Hst := Lib.hid hst
    clear hst
    go_wp2_with fail
    go_ret
    exact ⟨rfl, NetStep.after HS.out Hst.out⟩

def NetSt.isolate (st : NetSt) (x : Int) : NetSt := ⟨st.ps, st.last, st.iso ++ [x]⟩
def NetSt.join (st : NetSt) (x : Int) : NetSt := ⟨st.ps, st.last, st.iso.filter (fun y => !(y == x))⟩

theorem map_close {w w' : World} {S : Nat → Prop} {n : Nat} {st : NetSt} {v : Value} {bm k k' : Nat} {l : List Int} (h : NetParts w S n st v bm k) (hm : MapB w' bm k' l) (hg : w.grownBy w' (some bm)) : NetStep S n w w' ⟨st.ps, st.last, l⟩ k' := by
  have hs : Same (oneB bm) w w' := (Same.of_grown hg).mono (fun b _ e => by injection e)
  refine ⟨S, ⟨v, bm, h.blk.same hs (fun e => h.bm_ne_n e.symm), own_same h.own hs (fun g hg e => h.bm_ne_own hg e.symm), hm, h.sn, h.sm, h.sv, fun b hb => Nat.lt_of_lt_of_le (h.bd b hb) hs.size⟩, hs.mono (fun b _ e => by rw [show b = bm from e]; exact h.sm), fun b hb => .inl hb⟩

theorem isolate_any {w : World} {S : Nat → Prop} {n : Nat} {st : NetSt} {k : Nat} (h : NetAt w S n st k) {x : Int} (hx : inI64 x) (hk : k ≤ 1000000) :
    Calls Try.prog 18 #[.pointer (some ⟨n, 0, none⟩), .int .i64 x] w fun e w' => e = .returned (.tuple #[]) ∧ NetStep S n w w' (st.isolate x) (k + 1) := by
  obtain ⟨v, bm, hp⟩ := h
  obtain ⟨w2, hr, hm, hg⟩ := hp.map.store (by simp [maxLen]; omega) hx
  have H := Lib.hid (map_close hp hm hg)
  have n1 : w.cell? ⟨n, 1, none⟩ = some (.map (some bm)) := hp.blk.cell 1
  clear hp hm hg hx
  go_enter Try.func18, Try.ntmps18
  go_wp2_with fail
  go_end0
  exact ⟨rfl, H.out⟩

theorem join_any {w : World} {S : Nat → Prop} {n : Nat} {st : NetSt} {k : Nat} (h : NetAt w S n st k) {x : Int} (hx : inI64 x) :
    Calls Try.prog 19 #[.pointer (some ⟨n, 0, none⟩), .int .i64 x] w fun e w' => e = .returned (.tuple #[]) ∧ NetStep S n w w' (st.join x) k := by
  obtain ⟨v, bm, hp⟩ := h
  obtain ⟨w2, hr, hm, hg⟩ := hp.map.drop hx 0
  have H := Lib.hid (map_close hp hm hg)
  have n1 : w.cell? ⟨n, 1, none⟩ = some (.map (some bm)) := hp.blk.cell 1
  clear hp hm hg hx
  go_enter Try.func19, Try.ntmps19
  go_wp2_with fail
  go_end0
  exact ⟨rfl, H.out⟩
end Go.Proofs.Ytgmoeejhgjfpgaa
