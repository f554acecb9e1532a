/- Two networks beside each other, with and without the reference's values. -/
import Derived.Test.YtgmoeejhgjfpgaaSame
import Derived.Test.YtgmoeejhgjfpgaaClone
namespace Go.Proofs.Ytgmoeejhgjfpgaa
open Go Go.RowKit Go.Maps

def Two (T : Nat → Prop) (w : World) (n : Nat) (st : NetSt) (k : Nat) (c : Nat) (st2 : NetSt) (k2 : Nat) : Prop :=
  (∀ b, T b → b < w.heap.size) ∧ ∃ S S2, NetAt w S n st k ∧ NetAt w S2 c st2 k2 ∧ (∀ b, S b → ¬ T b) ∧ (∀ b, S2 b → ¬ T b) ∧ ∀ b, S b → ¬ S2 b
section
variable {T : Nat → Prop} {w w' : World} {n : Nat} {st : NetSt} {k c : Nat} {st2 : NetSt} {k2 : Nat}
theorem Two.symm (h : Two T w n st k c st2 k2) : Two T w c st2 k2 n st k := by
  obtain ⟨h0, S, S2, h1, h2, h3, h4, h5⟩ := h
  exact ⟨h0, S2, S, h2, h1, h4, h3, fun b hb hx => h5 b hx hb⟩
theorem Two.keep (h : Two T w n st k c st2 k2) (hs : Same noB w w') : Two T w' n st k c st2 k2 := by
  obtain ⟨h0, S, S2, h1, h2, h3, h4, h5⟩ := h
  exact ⟨fun b hb => Nat.lt_of_lt_of_le (h0 b hb) hs.size, S, S2, h1.same hs (fun _ _ x => x), h2.same hs (fun _ _ x => x), h3, h4, h5⟩
theorem Two.left (h : Two T w n st k c st2 k2) : ∃ T', NetOn T' w n st k ∧ ∀ w' st' k', NetOn T' w' n st' k' → Same (notB T') w w' → Two T w' n st' k' c st2 k2 ∧ Same (notB T) w w' := by
  obtain ⟨h0, S, S2, h1, h2, h3, h4, h5⟩ := h
  refine ⟨fun b => T b ∨ S2 b, ⟨fun b hb => hb.elim (h0 b) (h2.bd b), S, h1, fun b hb hx => hx.elim (h3 b hb) (h5 b hb)⟩, fun w' st' k' hn hs => ?_⟩
  obtain ⟨hb, S', h1', h3'⟩ := hn
  exact ⟨⟨fun b hx => hb b (.inl hx), S', S2, h1', h2.same hs (fun b hx hy => hy (.inr hx)), fun b hx hy => h3' b hx (.inl hy), h4, fun b hx hy => h3' b hx (.inr hy)⟩, hs.mono (fun b _ hx => fun ht => hx (.inl ht))⟩
theorem Two.on (h : Two T w n st k c st2 k2) : NetOn T w n st k := by
  obtain ⟨h0, S, S2, h1, h2, h3, h4, h5⟩ := h
  exact ⟨h0, S, h1, h3⟩
theorem Two.start (h : NetOn T w n st k) (hs : Same noB w w') (hc : NetNew w w' c st2 k2) : Two T w' n st k c st2 k2 := by
  obtain ⟨h0, S, h1, h3⟩ := h
  obtain ⟨S2, h2, h4, h5⟩ := hc
  exact ⟨fun b hb => Nat.lt_of_lt_of_le (h0 b hb) hs.size, S, S2, h1.same hs (fun _ _ x => x), h2, h3, fun b hb hx => by have := h4 b hb; have := h0 b hx; omega, fun b hb hx => by have := h4 b hx; have := h1.bd b hb; omega⟩
end

/-- Two networks, and two values of the reference of the same states. -/
def Pair (T L : Nat → Prop) (w : World) (n : Nat) (st : NetSt) (k : Nat) (v : Value) (c : Nat) (st2 : NetSt) (k2 : Nat) (v2 : Value) : Prop :=
  (∀ b, T b → b < w.heap.size) ∧ (∀ b, L b → b < w.heap.size) ∧ ∃ S S2, NetAt w S n st k ∧ NetAt w S2 c st2 k2 ∧ (∀ b, S b → ¬ T b) ∧ (∀ b, S2 b → ¬ T b) ∧ (∀ b, S b → ¬ S2 b) ∧
    RefAt w (fun b => (S b ∨ S2 b) ∨ L b) v st ∧ RefAt w (fun b => (S b ∨ S2 b) ∨ L b) v2 st2
section
variable {T L : Nat → Prop} {w w' : World} {n : Nat} {st : NetSt} {k c : Nat} {st2 : NetSt} {k2 : Nat} {v v2 : Value}
theorem Pair.symm (h : Pair T L w n st k v c st2 k2 v2) : Pair T L w c st2 k2 v2 n st k v := by
  obtain ⟨h0, hl, S, S2, h1, h2, h3, h4, h5, h6, h7⟩ := h
  have hb : ∀ b, b < w.heap.size → ((S2 b ∨ S b) ∨ L b) → ((S b ∨ S2 b) ∨ L b) := fun b _ hx => hx.imp Or.symm id
  exact ⟨h0, hl, S2, S, h2, h1, h4, h3, fun b hb hx => h5 b hx hb, h7.same (Same.refl noB w) (fun _ _ x => x.elim) hb, h6.same (Same.refl noB w) (fun _ _ x => x.elim) hb⟩
theorem Pair.keep (h : Pair T L w n st k v c st2 k2 v2) (hs : Same noB w w') : Pair T L w' n st k v c st2 k2 v2 := by
  obtain ⟨h0, hl, S, S2, h1, h2, h3, h4, h5, h6, h7⟩ := h
  exact ⟨fun b hb => Nat.lt_of_lt_of_le (h0 b hb) hs.size, fun b hb => Nat.lt_of_lt_of_le (hl b hb) hs.size, S, S2, h1.same hs (fun _ _ x => x), h2.same hs (fun _ _ x => x), h3, h4, h5, h6.keep hs, h7.keep hs⟩
/-- A store into a block of the caller's own. -/
theorem Pair.local_ (h : Pair T L w n st k v c st2 k2 v2) {X : Nat → Prop} (hs : Same X w w') (hX : ∀ b, X b → L b ∧ T b) : Pair T L w' n st k v c st2 k2 v2 := by
  obtain ⟨h0, hl, S, S2, h1, h2, h3, h4, h5, h6, h7⟩ := h
  exact ⟨fun b hb => Nat.lt_of_lt_of_le (h0 b hb) hs.size, fun b hb => Nat.lt_of_lt_of_le (hl b hb) hs.size, S, S2, h1.same hs (fun b hb hx => h3 b hb (hX b hx).2), h2.same hs (fun b hb hx => h4 b hb (hX b hx).2), h3, h4, h5, h6.same hs (fun b _ hx => .inr (hX b hx).1) (fun _ _ x => x), h7.same hs (fun b _ hx => .inr (hX b hx).1) (fun _ _ x => x)⟩
/-- A step of the left one. -/
theorem Pair.left (h : Pair T L w n st k v c st2 k2 v2) : ∃ T' L', NR T' L' w n st k v ∧ (∀ b, T b → T' b) ∧ ∀ w' st' k' v', NR T' L' w' n st' k' v' → Same (notB T') w w' → Pair T L w' n st' k' v' c st2 k2 v2 ∧ Same (notB T) w w' := by
  obtain ⟨h0, hl, S, S2, h1, h2, h3, h4, h5, h6, h7⟩ := h
  refine ⟨fun b => b < w.heap.size ∧ ¬ S b, fun b => S2 b ∨ L b, ⟨fun b hb => hb.1, fun b hb => hb.elim (h2.bd b) (hl b), S, h1, fun b hb hx => hx.2 hb, h6.same (Same.refl noB w) (fun _ _ x => x.elim) (fun b _ x => x.elim (fun x => .inl (.inl x)) (fun x => x.elim (fun x => .inl (.inr x)) .inr))⟩, fun b hb => ⟨h0 b hb, fun hx => h3 b hx hb⟩, fun w' st' k' v' hn hs => ?_⟩
  obtain ⟨t1, t2, S', n1, n2, n3⟩ := hn
  have hz := hs.size
  have hold : ∀ b, b < w.heap.size → S' b → S b := fun b hb hx => by
    apply Classical.byContradiction
    intro hn
    exact n2 b hx ⟨hb, hn⟩
  refine ⟨⟨fun b hb => Nat.lt_of_lt_of_le (h0 b hb) hz, fun b hb => Nat.lt_of_lt_of_le (hl b hb) hz, S', S2, n1, h2.same hs (fun b hb hx => hx ⟨h2.bd b hb, fun hy => h5 b hy hb⟩), fun b hb hx => n2 b hb ⟨h0 b hx, fun hy => h3 b hy hx⟩, h4, fun b hb hx => h5 b (hold b (h2.bd b hx) hb) hx, n3.same (Same.refl noB w') (fun _ _ x => x.elim) (fun b _ x => x.elim (fun x => x.elim .inl (fun x => .inr (.inl x))) (fun x => .inr (.inr x))), h7.same hs (fun b hb hx => .inl (.inl ?_)) (fun b hb x => x.elim (fun x => x.elim (fun x => .inl (.inl (hold b hb x))) (fun x => .inl (.inr x))) .inr)⟩, hs.mono (fun b hb hx => fun ht => hx ⟨hb, fun hy => h3 b hy ht⟩)⟩
  apply Classical.byContradiction
  intro hn
  exact hx ⟨hb, hn⟩
theorem Pair.nr (h : Pair T L w n st k v c st2 k2 v2) : NR T L w n st k v := by
  obtain ⟨h0, hl, S, S2, h1, h2, h3, h4, h5, h6, h7⟩ := h
  exact ⟨h0, hl, S, h1, h3, h6.same (Same.refl noB w) (fun _ _ x => x.elim) (fun b _ x => x.elim (fun x => .inl (.inl x)) .inr)⟩
end
end Go.Proofs.Ytgmoeejhgjfpgaa
