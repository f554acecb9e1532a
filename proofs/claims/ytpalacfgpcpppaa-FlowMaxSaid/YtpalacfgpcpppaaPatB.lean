/- Layer 10: the memory of Paths; slices.Clone of amounts. -/
import Derived.Test.YtpalacfgpcpppaaPatA
import Derived.Test.YtpalacfgpcpppaaFloX
import Derived.Test.YtpalacfgpcpppaaFloT
namespace Go.Proofs.Ytpalacfgpcpppaa
open Go Go.RowKit Go.Maps
set_option maxRecDepth 100000

theorem sl26 : SlT Try.prog 26 2 1 8 := SlT.mk_ (z := .int .i64 0) Try.underlying26 (by kernel_rfl) rfl (by decide) (by decide)
theorem sl45 : SlT Try.prog 45 50 1 24 := SlT.mk_ (z := .slice none 0 0) Try.underlying45 (by kernel_rfl) rfl (by decide) (by decide)
set_option maxHeartbeats 4000000 in
theorem clone40_any {w : World} {s : Sl} {l : List Int} (h : IsI w noB s l) (hlen : l.length ≤ 1000000) :
    Calls Try.prog 40 #[.slice s.addr s.len s.cap] w fun e w' => ∃ A c, e = .returned (.slice A l.length c) ∧ AppAt w w' (.slice A l.length c) l.length 2 1 (icells l) := by
  obtain ⟨A, n, c⟩ := s
  obtain ⟨hn, hr⟩ := h
  simp only at hn hr
  subst hn
  cases A with
  | none =>
    have hc : c = 0 ∧ l.length = 0 := by
      obtain ⟨A', c', e, h1, h2, h3, h4, h5⟩ := hr
      injection e with e1 e2 e3
      subst e1 e3
      have := h4 rfl
      omega
    obtain ⟨rfl, hl⟩ := hc
    obtain rfl : l = [] := List.eq_nil_of_length_eq_zero hl
    have he : ∀ w, (binOp .eql 26 (.slice none 0 0) (.slice none 0 0)).run Try.prog w = .ok (.bool true) w := fun _ => rfl
    clear hr hl
    go_enter Try.func40, Try.ntmps40
    go_wp2_with fail
    go_ret
    exact ⟨none, 0, rfl, AppAt.nil_ _ _ _⟩
  | some a =>
    have he : ∀ w, (binOp .eql 26 (.slice (some a) l.length c) (.slice none 0 0)).run Try.prog w = .ok (.bool false) w := fun _ => rfl
    have HR := Lib.hid (hr.keep ((Same.refl noB w).alloc (.cells #[] 2)))
    clear hr
    go_enter Try.func40, Try.ntmps40
    go_wp2_with (at_builtin; refine wpL_app sl26 rfl _ _ rfl rfl (own_lit w 2 1) rfl HR.out (icells_one l) (by omega) (Nat.zero_le _) ?_; intro A4 c4 W4 hown4 hgrow4 hat4 _; have HA := Lib.hid ((AppAt.lit w 2 1).next hgrow4 hat4 hown4); clear hown4 hgrow4 hat4)
    go_ret
    have h1 := HA.out
    simp only [Nat.zero_add, List.nil_append] at h1
    exact ⟨A4, c4, rfl, h1⟩
theorem row_set {w : World} {e : TypeId} {g n c i : Nat} {xs : List Value} (h : w.ownsRow 0 e 1 (.slice (some ⟨g, 0, none⟩) n c) n xs) (u : Value) :
    (w.setCell ⟨g, i, none⟩ u).ownsRow 0 e 1 (.slice (some ⟨g, 0, none⟩) n c) n (xs.set i u) := by
  obtain ⟨hl, hr⟩ := h
  refine ⟨by rw [List.length_set]; exact hl, ?_⟩
  rcases hr with ⟨e, _⟩ | ⟨g', cap, cur, e, hb, hg, hnc, hcm, hcs, ht⟩
  · cases e
  · simp only [Value.slice.injEq, Option.some.injEq, Addr.mk.injEq, and_true, true_and] at e
    obtain ⟨rfl, rfl⟩ := e
    have hB : Blk w g _ cur := hg
    refine .inr ⟨g, c, cur.setIfInBounds i u, rfl, hb, hB.set_ i u, hnc, hcm, by simpa using hcs, ?_⟩
    rw [← ht, Array.toList_setIfInBounds, List.take_set]
theorem row_at {w : World} {e : TypeId} {g n c i : Nat} {xs : List Value} {u : Value} (h : w.ownsRow 0 e 1 (.slice (some ⟨g, 0, none⟩) n c) n xs) (hi : xs[i]? = some u) : w.cell? ⟨g, i, none⟩ = some u ∧ w.frozen? ⟨g, i, none⟩ = false ∧ g < w.heap.size := by
  obtain ⟨hl, hr⟩ := h
  rcases hr with ⟨e, _⟩ | ⟨g', cap, cur, e, hb, hg, hnc, hcm, hcs, ht⟩
  · cases e
  · simp only [Value.slice.injEq, Option.some.injEq, Addr.mk.injEq, and_true, true_and] at e
    obtain ⟨rfl, rfl⟩ := e
    have hB : Blk w g _ cur := hg
    refine ⟨?_, hB.frozen i, hB.lt⟩
    rw [hB.cell]
    rw [← ht, List.getElem?_take] at hi
    split at hi
    · simpa using hi
    · cases hi
theorem row_addr {w : World} {e : TypeId} {A : Option Addr} {n c : Nat} {xs : List Value} (h : w.ownsRow 0 e 1 (.slice A n c) n xs) (hn : 0 < n) : ∃ g, A = some ⟨g, 0, none⟩ := by
  rcases h.2 with ⟨_, e⟩ | ⟨g, cap, cur, e, _⟩
  · omega
  · injection e with e; exact ⟨g, e⟩
/-- The part of Paths's memory that its stores do not change. -/
structure PtB (w W : World) (n : NetV) (N B nm : Nat) (f : Int → Option Value) (P : List (List Int)) (vs : List Value) : Prop where
  since : Same noB w W
  nb : Blk W N 24 #[.int .i64 n.nodes, .int .i64 n.source, .int .i64 n.sink, .slice n.sl.addr n.sl.len n.sl.cap, .int .i64 n.hold]
  adj : Adj w W B nm f (outK n.arcs n.arcs.length)
  vsl : vs.length = P.length
  rows : ∀ (i : Nat) (v : Value) (p : List Int), vs[i]? = some v → P[i]? = some p → W.ownsRow 0 3 1 v p.length (icells p)
section
variable {w W W' : World} {n : NetV} {N B nm : Nat} {f : Int → Option Value} {P : List (List Int)} {vs : List Value}
theorem PtB.wr (h : PtB w W n N B nm f P vs) {S : Nat → Prop} (hs : Same S W W') (hS : ∀ b, b < W.heap.size → S b → w.heap.size ≤ b ∧ ∃ t cs, Blk W b t cs ∧ t ≠ 3 ∧ t ≠ 24) : PtB w W' n N B nm f P vs := by
  have h3 : ∀ (v : Value) (k : Nat) (xs : List Value), W.ownsRow 0 3 1 v k xs → W'.ownsRow 0 3 1 v k xs := fun v k xs ho => own_same ho hs (fun g hg e => by
    obtain ⟨cs, hc⟩ := own_blk ho hg
    obtain ⟨_, t, cs', hb, ht, _⟩ := hS g hc.lt e
    exact hb.ne_ hc ht rfl)
  refine ⟨h.since.trans hs (fun b hb e => ?_), h.nb.same hs (fun e => ?_), ⟨h.adj.map.same hs (fun e => ?_), fun v => h3 _ _ _ (h.adj.row v), h.adj.apart, h.adj.new, h.adj.lb⟩, h.vsl, fun i v p a b => h3 _ _ _ (h.rows i v p a b)⟩
  · have := (hS b (Nat.lt_of_lt_of_le hb h.since.size) e).1
    omega
  · obtain ⟨_, t, cs', hb, _, ht⟩ := hS N h.nb.lt e
    exact hb.ne_ h.nb ht rfl
  · obtain ⟨_, t, cs', hb, _, _⟩ := hS B h.adj.map.lt e
    exact h.adj.map.ne_blk hb rfl
theorem PtB.keep (h : PtB w W n N B nm f P vs) (hs : Same noB W W') : PtB w W' n N B nm f P vs := h.wr hs (fun _ _ e => e.elim)
theorem PtB.add (h : PtB w W n N B nm f P vs) {v : Value} {p : List Int} (hv : W.ownsRow 0 3 1 v p.length (icells p)) : PtB w W n N B nm f (P ++ [p]) (vs ++ [v]) := by
  refine ⟨h.since, h.nb, h.adj, by rw [List.length_append, List.length_append, h.vsl]; rfl, fun i u q hu hq => ?_⟩
  by_cases e : i < vs.length
  · rw [List.getElem?_append_left e] at hu
    rw [List.getElem?_append_left (by rw [← h.vsl]; exact e)] at hq
    exact h.rows i u q hu hq
  · have h1 := (List.getElem?_eq_some_iff.1 hu).1
    rw [List.length_append, List.length_singleton] at h1
    have hi : i = vs.length := by omega
    subst hi
    rw [List.getElem?_append_right (Nat.le_refl _), Nat.sub_self] at hu
    rw [h.vsl, List.getElem?_append_right (Nat.le_refl _), Nat.sub_self] at hq
    simp at hu hq
    subst hu hq
    exact hv
end
/-- Paths's memory: the network, the map of the arcs out of each node, the amounts, the paths and their sizes. -/
structure PtM (w W : World) (n : NetV) (N B nm : Nat) (f : Int → Option Value) (GA : Value) (am : List Int) (PR : Value) (P : List (List Int)) (vs : List Value) (ZR : Value) (Z : List Int) : Prop where
  b : PtB w W n N B nm f P vs
  ga : AppAt w W GA am.length 2 1 (icells am)
  pr : AppAt w W PR vs.length 50 1 vs
  zr : AppAt w W ZR Z.length 2 1 (icells Z)
  gz : ∀ g, GA.ownBlock = some g → ZR.ownBlock = some g → False
section
variable {w W W' : World} {n : NetV} {N B nm : Nat} {f : Int → Option Value} {GA : Value} {am : List Int} {PR : Value} {P : List (List Int)} {vs : List Value} {ZR : Value} {Z : List Int}
theorem PtM.keep (h : PtM w W n N B nm f GA am PR P vs ZR Z) (hs : Same noB W W') : PtM w W' n N B nm f GA am PR P vs ZR Z :=
  ⟨h.b.keep hs, h.ga.keep hs, h.pr.keep hs, h.zr.keep hs, h.gz⟩
/-- A row of another type is written. -/
theorem AppAt.other {v : Value} {k : Nat} {e e' : TypeId} {xs : List Value} (h : AppAt w W v k e 1 xs) {S : Nat → Prop} (hs : Same S W W') (hS : ∀ b, b < W.heap.size → S b → w.heap.size ≤ b ∧ ∃ cs, Blk W b e' cs) (he : e ≠ e') : AppAt w W' v k e 1 xs := by
  refine ⟨own_same h.own hs (fun g hg x => ?_), h.new, h.since.trans hs (fun b hb x => ?_)⟩
  · obtain ⟨cs, hc⟩ := own_blk h.own hg
    obtain ⟨_, cs', hb⟩ := hS g hc.lt x
    exact hb.ne_ hc (Ne.symm he) rfl
  · have := (hS b (Nat.lt_of_lt_of_le hb h.since.size) x).1
    omega
/-- An amount has been written. -/
theorem PtM.amount {g m c : Nat} (h : PtM w W n N B nm f (.slice (some ⟨g, 0, none⟩) m c) am PR P vs ZR Z) (hm : am.length = m) (j : Nat) (y : Int) : PtM w (W.setCell ⟨g, j, none⟩ (.int .i64 y)) n N B nm f (.slice (some ⟨g, 0, none⟩) m c) (am.set j y) PR P vs ZR Z := by
  have hown := h.ga.own
  obtain ⟨cs, hc⟩ := own_blk hown (g := g) rfl
  have hnew := h.ga.new g rfl
  have hs : Same (oneB g) W (W.setCell ⟨g, j, none⟩ (.int .i64 y)) := (Same.refl _ W).set1 j _
  refine ⟨h.b.wr hs (fun b _ e => ?_), ⟨?_, h.ga.new, h.ga.since.trans hs (fun b hb e => ?_)⟩, h.pr.other hs (fun b _ e => ?_) (e' := 2) (by decide), ⟨own_same h.zr.own hs (fun g' hg' e => ?_), h.zr.new, h.zr.since.trans hs (fun b hb e => ?_)⟩, h.gz⟩
  · have h3 : b = g := e
    subst h3
    exact ⟨hnew, 2, cs, hc, by decide, by decide⟩
  · rw [List.length_set]
    have e : icells (am.set j y) = (icells am).set j (.int .i64 y) := by unfold icells; rw [List.map_set]
    rw [e]
    subst hm
    exact row_set hown _
  · have h3 : b = g := e
    omega
  · have h3 : b = g := e
    subst h3
    exact ⟨hnew, cs, hc⟩
  · have h3 : g' = g := e
    subst h3
    exact h.gz g' rfl hg'
  · have h3 : b = g := e
    omega
/-- A path has been appended. -/
theorem PtM.addP (h : PtM w W n N B nm f GA am PR P vs ZR Z) {v : Value} {p : List Int} (hv : W.ownsRow 0 3 1 v p.length (icells p)) {lit : Obj} {PR' : Value} (hown : W'.ownsRow 0 50 1 PR' (vs.length + 1) (vs ++ [v])) (hg : (W.alloc lit).grownBy W' PR.ownBlock) (hat : PR'.ownBlock = PR.ownBlock ∨ PR'.ownBlock = some (W.alloc lit).heap.size) :
    PtM w W' n N B nm f GA am PR' (P ++ [p]) (vs ++ [v]) ZR Z := by
  have hk := h.keep ((Same.refl noB W).alloc lit)
  have hs := Same.of_grown hg
  have hS : ∀ b, some b = PR.ownBlock → w.heap.size ≤ b ∧ ∃ cs, Blk (W.alloc lit) b 50 cs := fun b e => ⟨h.pr.new b e.symm, own_blk hk.pr.own e.symm⟩
  refine ⟨(hk.b.wr hs (fun b _ e => ?_)).add ?_, hk.ga.other hs (fun b _ e => hS b e) (by decide), ?_, hk.zr.other hs (fun b _ e => hS b e) (by decide), h.gz⟩
  · obtain ⟨h1, cs, h2⟩ := hS b e
    exact ⟨h1, 50, cs, h2, by decide, by decide⟩
  · refine own_same (own_same hv ((Same.refl noB W).alloc lit) (fun _ _ x => x)) hs (fun g hg' e => ?_)
    obtain ⟨cs, hc⟩ := own_blk hv hg'
    obtain ⟨_, cs', hb⟩ := hS g e
    exact (hc.alloc lit).ne_ hb (by decide) rfl
  · have := hk.pr.next hg hat hown
    rw [List.length_append, List.length_singleton]
    exact this
/-- A size has been appended. -/
theorem PtM.addZ (h : PtM w W n N B nm f GA am PR P vs ZR Z) {z : Int} {lit : Obj} {ZR' : Value} (hown : W'.ownsRow 0 2 1 ZR' (Z.length + 1) (icells Z ++ [.int .i64 z])) (hg : (W.alloc lit).grownBy W' ZR.ownBlock) (hat : ZR'.ownBlock = ZR.ownBlock ∨ ZR'.ownBlock = some (W.alloc lit).heap.size) :
    PtM w W' n N B nm f GA am PR P vs ZR' (Z ++ [z]) := by
  have hk := h.keep ((Same.refl noB W).alloc lit)
  have hs := Same.of_grown hg
  have hS : ∀ b, some b = ZR.ownBlock → w.heap.size ≤ b ∧ ∃ cs, Blk (W.alloc lit) b 2 cs := fun b e => ⟨h.zr.new b e.symm, own_blk hk.zr.own e.symm⟩
  refine ⟨hk.b.wr hs (fun b _ e => ?_), ⟨own_same hk.ga.own hs (fun g hg' e => h.gz g hg' (show some g = ZR.ownBlock from e).symm), h.ga.new, hk.ga.since.trans hs (fun b hb e => ?_)⟩, hk.pr.other hs (fun b _ e => hS b e) (by decide), ?_, fun g hg' hz' => ?_⟩
  · obtain ⟨h1, cs, h2⟩ := hS b e
    exact ⟨h1, 2, cs, h2, by decide, by decide⟩
  · have := (hS b e).1
    omega
  · have := hk.zr.next hg hat hown
    rw [List.length_append, List.length_singleton, icells_snoc]
    exact this
  · rcases hat with ha | ha
    · exact h.gz g hg' (ha.symm.trans hz')
    · rw [ha] at hz'
      injection hz' with hz'
      have := own_lt h.ga.own hg'
      have h2 : (W.alloc lit).heap.size = W.heap.size + 1 := World.size_alloc _ _
      omega
end
end Go.Proofs.Ytpalacfgpcpppaa
