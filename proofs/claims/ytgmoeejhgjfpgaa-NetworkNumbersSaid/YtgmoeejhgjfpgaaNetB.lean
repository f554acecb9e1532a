/- The network's writing methods: add, Send, take, Deliver, Drop, Double, Isolate, Join. -/
import Derived.Test.YtgmoeejhgjfpgaaNetA
namespace Go.Proofs.Ytgmoeejhgjfpgaa
open Go Go.RowKit Go.Maps

theorem slP : SlT Try.prog 40 34 4 40 := SlT.mk_ (z := .agg #[.int .i64 0, .int .i64 0, .int .i64 0, .string .empty]) Try.underlying40 (by kernel_rfl) rfl (by decide) (by decide)

/-- A step of a network. -/
def NetStep (S : Nat → Prop) (n : Nat) (w w' : World) (st : NetSt) (k : Nat) : Prop :=
  ∃ S', NetAt w' S' n st k ∧ Same S w w' ∧ ∀ b, S' b → S b ∨ w.heap.size ≤ b

theorem pk_one (p : Pk) : ∀ u ∈ p.cells, u.oneCell' = true := by
  intro u hu
  simp [Pk.cells] at hu
  rcases hu with rfl | rfl | rfl | rfl <;> rfl

/-- Behind the store of the new row into the network's struct, and further stores into new blocks. -/
theorem net_close' {w W w1 w2 : World} {S L : Nat → Prop} {n bm k : Nat} {ps ps' : List Pk} {last : Int} {iso : List Int} {v v' : Value} (h : NetParts W S n ⟨ps, last, iso⟩ v bm k) (hSW : Same S w W) (hG : Same (rowB v.ownBlock) W w1)
    (hown : w1.ownsRow 0 34 4 v' ps'.length (pcells ps')) (hat : v'.ownBlock = v.ownBlock ∨ ∃ g, v'.ownBlock = some g ∧ W.heap.size ≤ g)
    (h2 : Same L (w1.setCell ⟨n, 0, none⟩ v') w2) (hL : ∀ b, L b → b ≠ n ∧ b ≠ bm ∧ some b ≠ v'.ownBlock ∧ w.heap.size ≤ b) : NetStep S n w w2 ⟨ps', last, iso⟩ k := by
  have hn : ¬ rowB v.ownBlock n := fun e => h.n_ne_own e.symm rfl
  have hm : ¬ rowB v.ownBlock bm := fun e => h.bm_ne_own e.symm rfl
  have hb := (h.blk.same hG hn).set_ 0 v'
  have h1 : Same (oneB n) w1 (w1.setCell ⟨n, 0, none⟩ v') := (Same.refl (oneB n) w1).setCell (a := ⟨n, 0, none⟩) (fun _ => rfl) _
  have hsz := hSW.size
  have hng : ∀ g, v'.ownBlock = some g → ¬ oneB n g := fun g hg e => by
    have e' : g = n := e
    subst e'
    rcases hat with ha | ⟨g', ha, hge⟩
    · exact h.n_ne_own (ha.symm.trans hg) rfl
    · rw [hg] at ha
      injection ha with ha
      have := h.blk.lt
      omega
  have hsz1 := hG.size
  have hsz2 : w1.heap.size ≤ w2.heap.size := by have := h2.size; simpa using this
  refine ⟨fun b => S b ∨ (w.heap.size ≤ b ∧ b < w2.heap.size), ⟨v', bm, hb.same h2 (fun e => (hL _ e).1 rfl), own_same (own_same hown h1 hng) h2 (fun g hg e => (hL _ e).2.2.1 hg.symm), ((h.map.same hG hm).same h1 (fun e => h.bm_ne_n e)).same h2 (fun e => (hL _ e).2.1 rfl), .inl h.sn, .inl h.sm, fun g hg => ?_, fun b hb => ?_⟩, ?_, fun b hb => hb.imp id (fun x => x.1)⟩
  · rcases hat with ha | ⟨g', ha, hge⟩
    · exact .inl (h.sv g (ha.symm.trans hg))
    · rw [hg] at ha
      injection ha with ha
      have := own_lt hown hg
      right
      omega
  · rcases hb with hb | hb
    · have := h.bd b hb
      omega
    · exact hb.2
  · exact (((hSW.trans hG (fun b _ hb => h.sv b hb.symm))).setCell (a := ⟨n, 0, none⟩) (fun _ => h.sn) _).trans h2 (fun b hlt hb => absurd (hL b hb).2.2.2 (by omega))
/-- Behind the store of the new row into the network's struct. -/
theorem net_close {w W w1 : World} {S : Nat → Prop} {n bm k : Nat} {ps ps' : List Pk} {last : Int} {iso : List Int} {v v' : Value} (h : NetParts W S n ⟨ps, last, iso⟩ v bm k) (hSW : Same S w W) (hG : Same (rowB v.ownBlock) W w1)
    (hown : w1.ownsRow 0 34 4 v' ps'.length (pcells ps')) (hat : v'.ownBlock = v.ownBlock ∨ ∃ g, v'.ownBlock = some g ∧ W.heap.size ≤ g) : NetStep S n w (w1.setCell ⟨n, 0, none⟩ v') ⟨ps', last, iso⟩ k :=
  net_close' (L := noB) h hSW hG hown hat (Same.refl _ _) (fun _ e => e.elim)

theorem pcells_snoc (ps : List Pk) (p : Pk) : pcells (ps ++ [p]) = pcells ps ++ p.cells := by simp [pcells]

theorem add_any {w : World} {S : Nat → Prop} {n : Nat} {st : NetSt} {k : Nat} (h : NetAt w S n st k) (p : Pk) (hs : st.ps.length ≤ 1000000) (hl : 0 ≤ st.last ∧ st.last ≤ 1000000) :
    Calls Try.prog 29 #[.pointer (some ⟨n, 0, none⟩), p.val] w fun e w' => e = .returned (.int .i64 (st.last + 1)) ∧ NetStep S n w w' ⟨st.ps ++ [⟨st.last + 1, p.frm, p.to, p.data⟩], st.last + 1, st.iso⟩ k := by
  obtain ⟨v, bm, h⟩ := h
  obtain ⟨A, c, rfl, _, _, _⟩ := (Rd.of_own (bad := noB) h.own (fun _ _ x => x)).form
  obtain ⟨ps, last, iso⟩ := st
  obtain ⟨hl1, hl2⟩ := hl
  have n0 : w.cell? ⟨n, 0, none⟩ = some (.slice A ps.length c) := h.blk.cell 0
  have n1 : w.cell? ⟨n, 1, none⟩ = some (.map (some bm)) := h.blk.cell 1
  have n2 : w.cell? ⟨n, 2, none⟩ = some (.int .i64 last) := h.blk.cell 2
  have f0 := h.blk.frozen 0
  have f2 := h.blk.frozen 2
  have hlt := h.blk.lt
  have H := Lib.hid h
  clear h
  simp only [Pk.val] at *
  go_enter Try.func29, Try.ntmps29
  go_wp2_with fail
  refine wp_abs (fun W => NetParts W S n ⟨ps, last + 1, iso⟩ (.slice A ps.length c) bm k ∧ Blk W w.heap.size 34 #[.int .i64 (last + 1), .int .i64 p.frm, .int .i64 p.to, .string p.data] ∧ Same S w W ∧ w.heap.size < W.heap.size ∧ (Value.slice A ps.length c).ownBlock ≠ some w.heap.size) ?_ ?_
  · have h := H.out
    have hS : Same (oneB n) w (w.setCell ⟨n, 2, none⟩ (.int .i64 (last + 1))) := (Same.refl (oneB n) w).setCell (a := ⟨n, 2, none⟩) (fun _ => rfl) _
    have hb := h.blk.set_ 2 (.int .i64 (last + 1))
    refine ⟨⟨hb.alloc _, own_alloc (own_same h.own hS (fun g hg e => h.n_ne_own hg (e.symm))) _, (h.map.same hS (fun e => h.bm_ne_n e)).same ((Same.refl noB _).alloc _) (fun x => x), h.sn, h.sm, h.sv, fun b hb => by have := h.bd b hb; simp; omega⟩, ?_, ?_, by simp, fun e => Nat.lt_irrefl _ (own_lt h.own e)⟩
    · have := Blk.new (w.setCell ⟨n, 2, none⟩ (.int .i64 (last + 1))) 34 #[.int .i64 (last + 1), .int .i64 p.frm, .int .i64 p.to, .string p.data]
      simpa using this
    · exact ((Same.refl S w).setCell (a := ⟨n, 2, none⟩) (fun _ => h.sn) _).alloc _
  clear H n0 n1 n2 f0 f2
  rintro W ⟨h, hB, hSW, hlt2, hBne⟩
  generalize w.heap.size = B at *
  have n0 : W.cell? ⟨n, 0, none⟩ = some (.slice A ps.length c) := h.blk.cell 0
  have n1 : W.cell? ⟨n, 1, none⟩ = some (.map (some bm)) := h.blk.cell 1
  have n2 : W.cell? ⟨n, 2, none⟩ = some (.int .i64 (last + 1)) := h.blk.cell 2
  have b0 : W.cell? ⟨B, 0, none⟩ = some (.int .i64 (last + 1)) := hB.cell 0
  have b1 : W.cell? ⟨B, 1, none⟩ = some (.int .i64 p.frm) := hB.cell 1
  have b2 : W.cell? ⟨B, 2, none⟩ = some (.int .i64 p.to) := hB.cell 2
  have b3 : W.cell? ⟨B, 3, none⟩ = some (.string p.data) := hB.cell 3
  have f0 := h.blk.frozen 0
  have H := Lib.hid h
  have HB := Lib.hid hB
  have hltW := h.blk.lt
  clear h hB
  have hn0 : ¬ rowB (Value.slice A ps.length c).ownBlock n := (fun e => H.out.n_ne_own e.symm rfl)
  have Hn0 := Lib.hid hn0
  clear hn0
  go_region_law ((refine step_app slP (by rfl) _ _ (by rfl) (by rfl) ((H.out.own.alloc _).drew) (bad := noB) (by rfl) (Rd.of_blk ((Blk.new W 34 (Pk.cells ⟨last + 1, p.frm, p.to, p.data⟩).toArray).drew) (fun x => x) (by rfl) (by omega) (by simp [maxLen])) (pk_one ⟨last + 1, p.frm, p.to, p.data⟩) (by show (ps.length + 1) * 40 ≤ _; omega) (by simp) ?_; intro A' c' w1 hown1 hgrow hat _; have hG : Same (rowB (Value.slice A ps.length c).ownBlock) W w1 := (((Same.refl _ W).alloc _).drew).grown hgrow (fun _ e _ => e.symm); have f0' : w1.frozen? ⟨n, 0, none⟩ = false := (H.out.blk.same hG Hn0.out).frozen 0; have n0' := hG.cell n0 Hn0.out; have n2' := hG.cell n2 Hn0.out))
  all_goals
    go_wp2_with fail
    go_ret
    refine ⟨rfl, net_close H.out hSW hG ?_ ?_⟩
    · rw [pcells_snoc, List.length_append]
      exact hown1
    · rcases hat with ha | ha
      · exact .inl ha
      · exact .inr ⟨_, ha, by simp⟩
end Go.Proofs.Ytgmoeejhgjfpgaa
