/- Layer 10: a list of arcs that is being made, held in a network's box. -/
import Derived.Test.YtpalacfgpcpppaaExpP
namespace Go.Proofs.Ytpalacfgpcpppaa
open Go Go.RowKit
set_option maxRecDepth 100000

theorem sl22x : SlT Try.prog 22 43 4 32 := SlT.mk_ (z := .agg #[.int .i64 0, .int .i64 0, .int .i64 0, .int .i64 0]) Try.underlying22 (by kernel_rfl) rfl (by decide) (by decide)
theorem arc_one (x : ArcV) : ∀ u ∈ x.cells, u.oneCell' = true := by
  intro u hu
  unfold ArcV.cells at hu
  simp at hu
  rcases hu with h | h | h | h <;> (subst h; rfl)
theorem acells_snoc (l : List ArcV) (x : ArcV) : acells (l ++ [x]) = acells l ++ x.cells := by simp [acells]
/-- The input's box N, the result's R, the box O of the network that is made; hd: its nodes, source and sink. -/
structure ExS (w W : World) (n : NetV) (N R O : Nat) (hd : Int × Int × Int) (l : List ArcV) : Prop where
  nb : Blk W N 24 #[.int .i64 n.nodes, .int .i64 n.source, .int .i64 n.sink, .slice n.sl.addr n.sl.len n.sl.cap, .int .i64 n.hold]
  rb : Blk W R 24 #[.int .i64 0, .int .i64 0, .int .i64 0, .slice none 0 0, .int .i64 0]
  row : ∃ A c, Blk W O 24 #[.int .i64 hd.1, .int .i64 hd.2.1, .int .i64 hd.2.2, .slice A l.length c, .int .i64 0] ∧ AppAt w W (.slice A l.length c) l.length 43 4 (acells l)
  ne : N ≠ O ∧ R ≠ O ∧ w.heap.size ≤ O
variable {w W W' W2 : World} {n : NetV} {N R O : Nat} {hd : Int × Int × Int} {l : List ArcV}
theorem ExS.since (h : ExS w W n N R O hd l) : Same noB w W := by
  obtain ⟨A, c, _, h2⟩ := h.row
  exact h2.since
theorem ExS.keep (h : ExS w W n N R O hd l) (hs : Same noB W W') : ExS w W' n N R O hd l := by
  obtain ⟨A, c, h1, h2⟩ := h.row
  exact ⟨h.nb.same hs (fun x => x), h.rb.same hs (fun x => x), ⟨A, c, h1.same hs (fun x => x), h2.keep hs⟩, h.ne⟩
theorem ExS.start (h1 : Blk W N 24 #[.int .i64 n.nodes, .int .i64 n.source, .int .i64 n.sink, .slice n.sl.addr n.sl.len n.sl.cap, .int .i64 n.hold]) (h2 : Blk W R 24 #[.int .i64 0, .int .i64 0, .int .i64 0, .slice none 0 0, .int .i64 0])
    (h3 : Blk W O 24 #[.int .i64 hd.1, .int .i64 hd.2.1, .int .i64 hd.2.2, .slice none 0 0, .int .i64 0]) (hs : Same noB w W) (hne : N ≠ O ∧ R ≠ O ∧ w.heap.size ≤ O) : ExS w W n N R O hd [] :=
  ⟨h1, h2, ⟨none, 0, h3, World.ownsRow_nil _ _ _ _, fun g hg => by simp [Value.ownBlock] at hg, hs⟩, hne⟩
/-- After the append: the box still holds the old slice. -/
theorem ExS.mid (h : ExS w W n N R O hd l) {A A2 : Option Addr} {c c2 : Nat} {x : ArcV} {lit : Obj} (hb : Blk W O 24 #[.int .i64 hd.1, .int .i64 hd.2.1, .int .i64 hd.2.2, .slice A l.length c, .int .i64 0]) (hap : AppAt w W (.slice A l.length c) l.length 43 4 (acells l))
    (hown : W2.ownsRow 0 43 4 (.slice A2 (l.length + 1) c2) (l.length + 1) (acells l ++ x.cells)) (hg : (W.alloc lit).grownBy W2 (Value.slice A l.length c).ownBlock) (hat : (Value.slice A2 (l.length + 1) c2).ownBlock = (Value.slice A l.length c).ownBlock ∨ (Value.slice A2 (l.length + 1) c2).ownBlock = some (W.alloc lit).heap.size) :
    Blk W2 N 24 #[.int .i64 n.nodes, .int .i64 n.source, .int .i64 n.sink, .slice n.sl.addr n.sl.len n.sl.cap, .int .i64 n.hold] ∧ Blk W2 R 24 #[.int .i64 0, .int .i64 0, .int .i64 0, .slice none 0 0, .int .i64 0] ∧
      Blk W2 O 24 #[.int .i64 hd.1, .int .i64 hd.2.1, .int .i64 hd.2.2, .slice A l.length c, .int .i64 0] ∧ AppAt w W2 (.slice A2 (l.length + 1) c2) (l.length + 1) 43 4 (acells l ++ x.cells) := by
  have hk := hap.keep ((Same.refl noB W).alloc lit)
  have hn := hk.next hg hat hown
  have h24 : ∀ g cs, Blk W g 24 cs → Blk W2 g 24 cs := fun g cs hgb => by
    have h1 := hgb.alloc lit
    have hs := Same.of_grown hg
    refine h1.same hs (fun e => ?_)
    obtain ⟨ds, hd⟩ := own_blk hk.own (g := g) e.symm
    exact h1.ne_ hd (by decide) rfl
  exact ⟨h24 _ _ h.nb, h24 _ _ h.rb, h24 _ _ hb, hn⟩
/-- After the store. -/
theorem ExS.push (h : ExS w W n N R O hd l) {A A2 : Option Addr} {c c2 : Nat} {x : ArcV} {lit : Obj} (hb : Blk W O 24 #[.int .i64 hd.1, .int .i64 hd.2.1, .int .i64 hd.2.2, .slice A l.length c, .int .i64 0]) (hap : AppAt w W (.slice A l.length c) l.length 43 4 (acells l))
    (hown : W2.ownsRow 0 43 4 (.slice A2 (l.length + 1) c2) (l.length + 1) (acells l ++ x.cells)) (hg : (W.alloc lit).grownBy W2 (Value.slice A l.length c).ownBlock) (hat : (Value.slice A2 (l.length + 1) c2).ownBlock = (Value.slice A l.length c).ownBlock ∨ (Value.slice A2 (l.length + 1) c2).ownBlock = some (W.alloc lit).heap.size) :
    ExS w (W2.setCell ⟨O, 3, none⟩ (.slice A2 (l.length + 1) c2)) n N R O hd (l ++ [x]) := by
  obtain ⟨h1, h2, h3, h4⟩ := h.mid hb hap hown hg hat
  have hs : Same (oneB O) W2 (W2.setCell ⟨O, 3, none⟩ (.slice A2 (l.length + 1) c2)) := (Same.refl _ _).set1 3 _
  refine ⟨h1.same hs (fun e => h.ne.1 e), h2.same hs (fun e => h.ne.2.1 e), ⟨A2, c2, ?_, ?_⟩, h.ne⟩
  · have := h3.set_ 3 (.slice A2 (l.length + 1) c2)
    simpa using this
  · rw [acells_snoc, List.length_append, List.length_singleton]
    refine ⟨own_same h4.own hs (fun g hg' e => ?_), h4.new, h4.since.trans hs (fun b hb' e => ?_)⟩
    · obtain ⟨ds, hd⟩ := own_blk h4.own hg'
      have e' : g = O := e
      subst e'
      exact hd.ne_ h3 (by decide) rfl
    · have e' : b = O := e
      have := h.ne.2.2
      omega
end Go.Proofs.Ytpalacfgpcpppaa
