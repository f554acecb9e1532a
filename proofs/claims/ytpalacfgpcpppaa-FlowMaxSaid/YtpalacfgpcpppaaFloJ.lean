/- Layer 10: the search's memory; residual for a caller; a function that leaves with marks. -/
import Derived.Test.YtpalacfgpcpppaaFloI
import Derived.Sort.LoopGhostIn
namespace Go.Proofs.Ytpalacfgpcpppaa
open Go Go.RowKit Go.Maps Go.Shelf
set_option maxRecDepth 100000

theorem zero63 (w : World) : (zeroValue 63).run Try.prog w = .ok (.agg #[.int .i64 0, .bool false, .int .i64 0, .int .i64 0]) w := by kernel_rfl
def markD (D : Nat) : Deferred := { target := .collected D, args := #[] }
/-- A function that leaves with marks alone. -/
theorem leaves_marks {F : Fence} {n : Nat} {P : Program} {fn : Func} {tmps : Array Value} {R : Ending → World → Prop} : ∀ (ds : List Nat) (w : World), ds.Nodup → (∀ D ∈ ds, w.heap[D]? = some (.deferred (some []))) →
    (∀ w' : World, (∀ k, k ∉ ds → w'.heap[k]? = w.heap[k]?) → w'.heap.size = w.heap.size → w'.os = w.os → w'.tape = w.tape → w'.output = w.output → LeavesIn F n P fn tmps R [] .returning w') → LeavesInM F n P fn tmps R (ds.map markD) .returning w
  | [], w, _, _, h => h w (fun _ _ => rfl) rfl rfl rfl rfl
  | D :: ds, w, hn, hd, h => by
    have hD := hd D (List.mem_cons_self ..)
    have hn' := List.nodup_cons.1 hn
    refine ⟨by simp, .inl ⟨D, _, rfl, run_takeDeferred hD, leaves_marks ds _ hn'.2 (fun E hE => ?_) (fun w' h1 h2 h3 h4 h5 => h w' (fun k hk => ?_) (by rw [h2]; simp [World.putObj]) h3 h4 h5)⟩⟩
    · rw [World.putObj_heap_other (k := E) (r := D) (by rintro rfl; exact hn'.1 hE)]
      exact hd E (List.mem_cons_of_mem _ hE)
    · rw [List.mem_cons, not_or] at hk
      rw [h1 k hk.2, World.putObj_heap_other hk.1]
theorem callsIn_abs {F : Fence} {n : Nat} {P : Program} {f : FuncId} {args : Array Value} {w : World} {R : Ending → World → Prop} (F' : World → Prop) (hF : F' w) (h : ∀ w, F' w → CallsIn F n P f args w R) : CallsIn F n P f args w R := h w hF
theorem Same.keeps {W W' : World} (hs : Same noB W W') : KeepsOthers W W' := ⟨hs.size, fun _ _ hk _ => hs.heap hk (fun x => x)⟩
theorem blk_own {W W' : World} {row : Option Nat} {g : Nat} {t : TypeId} {cs : Array Value} (hb : Blk W g t cs) (hg : W.grownBy W' row) (hr : ∀ r, row = some r → ∃ o : Obj, W.heap[r]? = some o ∧ o.isCells = false) : Blk W' g t cs :=
  (hg.block g hb.lt (fun e => by
    obtain ⟨o, ho, hc⟩ := hr g e.symm
    rw [show W.heap[g]? = _ from hb] at ho
    cases ho
    cases hc)).trans hb
theorem Qu.own {W W' : World} {row : Option Nat} {g o c : Nat} {l : List Int} (h : Qu W g o c l) (hg : W.grownBy W' row) (hr : ∀ r, row = some r → ∃ o : Obj, W.heap[r]? = some o ∧ o.isCells = false) : Qu W' g o c l := by
  obtain ⟨cur, hb, r⟩ := h.blk
  exact ⟨h.cap, h.max, cur, blk_own hb hg hr, r⟩
theorem wpListIn_qapp {F : Fence} {n : Nat} {W : World} {g o c : Nat} {l : List Int} {ops : Array Oper} {rest : List Oper} {op : Oper} {a : Act} {Q : Exit → Act → World → Prop} (hgd : op.guard = none) (s x : Operand) (ho : op.op = .call { callee := .builtin .append, args := #[s, x], argTypes := #[50, 50] })
    {m : Nat} (hs : a.eval s = .slice (some ⟨g, o, none⟩) m c) (hn : m = l.length) (h : Qu W g o c l) {ad : Addr} {c' : Nat} {y : Int} (hx : a.eval x = .slice (some ad) 1 c') (hy : W.cell? (ad.add 0) = some (.int .i64 y)) (hl : l.length ≤ 1000000)
    (hK : ∀ g' o' cap' W', Qu W' g' o' cap' (l ++ [y]) → W.grownBy W' (some g) → (g' = g ∨ W.heap.size ≤ g') → wpListIn F n Try.prog ops Q rest (a.put op.dst (.slice (some ⟨g', o', none⟩) (m + 1) cap')) W') : wpListIn F n Try.prog ops Q (op :: rest) a W := by
  refine wpListIn_plain hgd fun K hK' => ?_
  subst hn
  obtain ⟨g', o', cap', W', hrun, h2, h3, h4⟩ := run_qapp h hy hl op.type
  unfold Oper.wpIn
  refine ⟨?_, ?_⟩
  · simp [Oper.about, ho, resolve, Target.leads, Sem.run_pure]
  · rw [Oper.semAt_plain F _ _ (by rw [ho]; intro c hc'; cases hc')]
    simp [execOp, ho, resolve, invoke, builtin, hs, hx, Result.andThen]
    rw [hrun]
    exact hK' _ _ (hK g' o' cap' W' h2 h3 h4)

/-- A step whose end is a node. -/
def Sw (nodes : Int) : Type := { s : StV // 0 ≤ s.dst ∧ s.dst < nodes }
theorem resid_stops (fu : Nat) (hfu : 2 ≤ fu) (V : Nat) {w w0 : World} {n : NetV} {av : Value} {sa : Sl} {am : List Int} {v : Int} (hok : n.Ok) (hv : 0 ≤ v ∧ v < n.nodes) (hsm : Small am) (hlen : am.length = n.arcs.length) (hin : RI w w0 n av sa am v V) :
    SeqStopsK Fence.wide fu Try.prog 48 #[.pointer (some ⟨V + 1, 0, none⟩), .pointer (some ⟨V + 3, 0, none⟩), .pointer (some ⟨V, 0, none⟩), .pointer (some ⟨V + 2, 0, none⟩)] (fun x : Sw n.nodes => #[x.1.val]) (KpR w.heap.size V) (fun ys => ys.map (fun x => x.1) = stepsL n.arcs am v) (fun _ => True) (stepsL n.arcs am v).length w0 := fun l J Jx W hW hJ hJx hY h0 => by
  have hZ := resid_in fu hfu l V hok hv hsm hlen (fun pre W => ∃ l', l'.map (fun (x : Sw n.nodes) => x.1) = pre ∧ J l' W) (fun pre W => ∃ l', l'.map (fun (x : Sw n.nodes) => x.1) = pre ∧ Jx l' W) (w := w) (av := av) (sa := sa)
    (fun s W W' row hs hg hr => by
      obtain ⟨l', h1, h2⟩ := hs
      exact ⟨l', h1, hJ _ _ _ row h2 hg hr⟩)
    (fun pre x W hj hp => by
      obtain ⟨l', h1, h2⟩ := hj
      have hx : x ∈ stepsL n.arcs am v := by obtain ⟨t, ht⟩ := hp; rw [← ht]; simp
      have hl : l'.length < (stepsL n.arcs am v).length := by
        have h3 := hp.length_le
        rw [List.length_append, List.length_singleton, ← h1, List.length_map] at h3
        omega
      refine (hY l' ⟨x, step_dst hok.arcs hx⟩ W h2 hl).mono (fun e W' hq => ?_)
      rcases hq with ⟨a1, a2, a3⟩ | ⟨a1, a2⟩
      · exact .inl ⟨a1, ⟨_, by rw [List.map_append, h1]; rfl, a2⟩, a3⟩
      · exact .inr ⟨a1, ⟨_, by rw [List.map_append, h1]; rfl, a2⟩⟩)
    W (hin.keep (Same.of_below hW)) ⟨[], rfl, h0⟩
  refine hZ.mono ?_
  rintro e W' ⟨h1, h2⟩
  refine ⟨h1, ?_⟩
  rcases h2 with ⟨ys, rfl, l', h3, h4⟩ | ⟨pre, _, l', h3, h4⟩
  · exact .inl ⟨l', h3, h4⟩
  · exact .inr ⟨l', trivial, h4⟩

/-- The map of the steps. -/
def pv (par : Int → Option StV) : Int → Option Value := fun y => (par y).map StV.val
theorem pv_new (par : Int → Option StV) (d : Int) (x : StV) : pv (fun y => if y = d then some x else par y) = upd (pv par) d x.val := by
  funext y
  unfold pv upd
  by_cases e : y = d
  · simp [e]
  · simp [e]
theorem pv_start (src : Int) : pv (bfStart src).par = upd (fun _ => none) src (StV.val ⟨0, false, src, 0⟩) := pv_new (fun _ => none) src _
/-- The search's memory: the network's box, the map's, the queue's, the map, the queue. -/
structure SrM (w W : World) (n : NetV) (N M B Q : Nat) (s : BF) (h : Nat) (g o c nm : Nat) : Prop where
  since : Same noB w W
  nb : Blk W N 24 #[.int .i64 n.nodes, .int .i64 n.source, .int .i64 n.sink, .slice n.sl.addr n.sl.len n.sl.cap, .int .i64 n.hold]
  mb : Blk W M 60 #[.map (some B)]
  map : MapF eI W B nm (pv s.par)
  qb : Blk W Q 50 #[.slice (some ⟨g, o, none⟩) (s.q.drop h).length c]
  qu : Qu W g o c (s.q.drop h)
  lo : w.heap.size ≤ N ∧ w.heap.size ≤ M ∧ w.heap.size ≤ B ∧ w.heap.size ≤ Q ∧ w.heap.size ≤ g
section
variable {w W W' : World} {n : NetV} {N M B Q : Nat} {s : BF} {h g o c nm : Nat}
theorem SrM.keep (H : SrM w W n N M B Q s h g o c nm) (hs : Same noB W W') : SrM w W' n N M B Q s h g o c nm :=
  ⟨H.since.trans' hs, H.nb.same hs (fun x => x), H.mb.same hs (fun x => x), H.map.same hs (fun x => x), H.qb.same hs (fun x => x), H.qu.same hs (fun x => x), H.lo⟩
theorem SrM.own {B0 : Nat} (H : SrM w W n N M B Q s h g o c nm) {row : Option Nat} (hg : W.grownBy W' row) (hB : B < B0) (hB0 : w.heap.size ≤ B0) (hr : ∀ r, row = some r → B0 ≤ r ∧ ∃ o : Obj, W.heap[r]? = some o ∧ o.isCells = false) : SrM w W' n N M B Q s h g o c nm := by
  have hr2 : ∀ r, row = some r → ∃ o : Obj, W.heap[r]? = some o ∧ o.isCells = false := fun r e => (hr r e).2
  have hs := Same.of_grown hg
  exact ⟨H.since.trans hs (fun b hb e => by have := (hr b e.symm).1; omega), blk_own H.nb hg hr2, blk_own H.mb hg hr2, H.map.same hs (fun e => by have := (hr B e.symm).1; omega), blk_own H.qb hg hr2, H.qu.own hg hr2, H.lo⟩
/-- queue = queue[1:]. -/
theorem SrM.pop (H : SrM w W n N M B Q s h g o c nm) {v : Int} (hv : s.q[h]? = some v) : SrM w (W.setCell ⟨Q, 0, none⟩ (.slice (some ⟨g, if c = 1 then o else o + 1, none⟩) ((s.q.drop h).length - 1) (c - 1))) n N M B Q s (h + 1) g (if c = 1 then o else o + 1) (c - 1) nm := by
  have hd : s.q.drop h = v :: s.q.drop (h + 1) := by
    have hl := (List.getElem?_eq_some_iff.1 hv)
    rw [List.drop_eq_getElem_cons hl.1, hl.2]
  have hs : Same (oneB Q) W (W.setCell ⟨Q, 0, none⟩ (.slice (some ⟨g, if c = 1 then o else o + 1, none⟩) ((s.q.drop h).length - 1) (c - 1))) := (Same.refl _ W).set1 0 _
  have hq := H.qu
  rw [hd] at hq
  have hlo := H.lo
  have hgq := H.qu.ne_blk H.qb (by decide)
  refine ⟨H.since.trans hs (fun b hb e => by have h3 : b = Q := e; omega), H.nb.same hs (fun e => H.nb.ne_ H.qb (by decide) e), H.mb.same hs (fun e => H.mb.ne_ H.qb (by decide) e), H.map.same hs (fun e => H.map.ne_blk H.qb e), ?_, hq.tail.same hs (fun e => hgq e), H.lo⟩
  have := H.qb.set_ 0 (.slice (some ⟨g, if c = 1 then o else o + 1, none⟩) ((s.q.drop h).length - 1) (c - 1))
  have hl : (s.q.drop (h + 1)).length = (s.q.drop h).length - 1 := by rw [hd]; simp
  rw [hl]
  exact this
/-- The blocks that a new node changes. -/
def newB (B g Q : Nat) : Nat → Prop := fun k => k = B ∨ k = g ∨ k = Q
/-- A new node: the map, the queue, its box. -/
theorem SrM.new {W1 W2 : World} (H : SrM w W n N M B Q s h g o c nm) {x : StV} (hp : s.par x.dst = none) (hh : h ≤ s.q.length) {lit : Obj} {nm' g' o' c' : Nat} (hM : MapF eI W1 B nm' (upd (pv s.par) x.dst x.val)) (hg1 : W.grownBy W1 (some B))
    (hq : Qu W2 g' o' c' (s.q.drop h ++ [x.dst])) (hg2 : (W1.alloc lit).grownBy W2 (some g)) (hat : g' = g ∨ (W1.alloc lit).heap.size ≤ g') :
    SrM w (W2.setCell ⟨Q, 0, none⟩ (.slice (some ⟨g', o', none⟩) ((s.q.drop h).length + 1) c')) n N M B Q (visit s x) h g' o' c' nm' ∧ Same (newB B g Q) W (W2.setCell ⟨Q, 0, none⟩ (.slice (some ⟨g', o', none⟩) ((s.q.drop h).length + 1) c')) := by
  have hlo := H.lo
  have s1 : Same (newB B g Q) W W1 := (Same.of_grown hg1).mono (fun b _ e => .inl (by injection e))
  have s2 : Same (newB B g Q) (W1.alloc lit) W2 := (Same.of_grown hg2).mono (fun b _ e => .inr (.inl (by injection e)))
  have s3 : Same (newB B g Q) W2 (W2.setCell ⟨Q, 0, none⟩ (.slice (some ⟨g', o', none⟩) ((s.q.drop h).length + 1) c')) := (Same.refl _ W2).setCell (fun _ => .inr (.inr rfl)) _
  have hall := ((s1.alloc lit).trans' s2).trans' s3
  have hsz := H.since.size
  have hs1 := s1.size
  have hgQ := H.qu.ne_blk H.qb (by decide)
  obtain ⟨cur, hgb, _⟩ := H.qu.blk
  have hgB := H.map.ne_blk hgb
  have hBQ := H.map.ne_blk H.qb
  have nn : ∀ k t cs, Blk W k t cs → t ≠ 3 → t ≠ 50 → ¬ newB B g Q k := fun k t cs hk h3 h50 e => by
    rcases e with e | e | e
    · exact H.map.ne_blk hk e.symm
    · exact hk.ne_ hgb h3 e
    · exact hk.ne_ H.qb h50 e
  have hd : (visit s x).q.drop h = s.q.drop h ++ [x.dst] := by
    rw [visit_new hp]
    exact List.drop_append_of_le_length hh
  have hqb2 : Blk W2 Q 50 #[.slice (some ⟨g, o, none⟩) (s.q.drop h).length c] := by
    have h1 : Blk W1 Q 50 _ := H.qb.same (Same.of_grown hg1) (fun e => hBQ (by injection e with e; exact e.symm))
    exact (h1.alloc lit).same (Same.of_grown hg2) (fun e => hgQ (by injection e with e; exact e.symm))
  have hq' : ¬ g' = Q := by
    rcases hat with e | e
    · rw [e]; exact hgQ
    · have h1 := H.qb.lt
      simp at e
      omega
  refine ⟨⟨H.since.trans hall (fun b hb e => by rcases e with e | e | e <;> omega), H.nb.same hall (nn _ _ _ H.nb (by decide) (by decide)), H.mb.same hall (nn _ _ _ H.mb (by decide) (by decide)), ?_, ?_, ?_, ⟨hlo.1, hlo.2.1, hlo.2.2.1, hlo.2.2.2.1, ?_⟩⟩, hall⟩
  · rw [visit_new hp]
    show MapF eI _ B nm' (pv (fun y => if y = x.dst then some x else s.par y))
    rw [pv_new]
    have h2 : MapF eI W2 B nm' _ := (hM.same (S := noB) ((Same.refl _ _).alloc lit) (fun x => x)).same (Same.of_grown hg2) (fun e => hgB (by injection e))
    exact h2.same (S := oneB Q) ((Same.refl _ W2).set1 0 _) (fun e => hBQ e)
  · rw [hd, List.length_append]
    exact hqb2.set_ 0 _
  · rw [hd]
    exact hq.same (S := oneB Q) ((Same.refl _ W2).set1 0 _) (fun e => hq' e)
  · rcases hat with e | e
    · omega
    · simp at e
      omega
end
theorem KpR.of_new {n₀ V B g Q : Nat} {W W' : World} (hs : Same (newB B g Q) W W') (hn : n₀ ≤ W.heap.size) (h1 : n₀ ≤ B ∧ B < V) (h2 : n₀ ≤ g ∧ (g < V ∨ V + 4 ≤ g)) (h3 : n₀ ≤ Q ∧ Q < V) : KpR n₀ V W W' :=
  ⟨hs.below (fun b e => by rcases e with e | e | e <;> omega) hn, fun k o h4 h5 h6 _ => hs.heap h6 (fun e => by rcases e with e | e | e <;> omega)⟩
theorem KeepsFrom.of_new {B0 B g Q : Nat} {W W' : World} (hs : Same (newB B g Q) W W') (hB : B < B0) {t1 t2 : TypeId} {c1 c2 : Array Value} (hg : Blk W g t1 c1) (hQ : Blk W Q t2 c2) : KeepsFrom B0 W W' :=
  ⟨hs.size, fun k o hk h0 ho => hs.heap h0 (fun e => by
    rcases e with e | e | e
    · omega
    · subst e
      rw [show W.heap[k]? = _ from hg] at h0
      injection h0 with h0
      subst h0
      cases ho
    · subst e
      rw [show W.heap[k]? = _ from hQ] at h0
      injection h0 with h0
      subst h0
      cases ho)⟩
theorem KpR.put {n₀ V : Nat} {w : World} (hn : n₀ ≤ w.heap.size) (W : World) (l : Nat) (o o' : Obj) (hl : w.heap.size ≤ l) (h : W.heap[l]? = some o) (ho : o.isCells = false) (hw : o.isWalk = false) : KpR n₀ V W (W.putObj l o') :=
  ⟨belowK_b hn W l o o' hl h ho hw, fun k o2 _ _ hk hc => by
    have hne : k ≠ l := by
      rintro rfl
      rw [h] at hk
      injection hk with hk
      subst hk
      rw [hc] at ho
      cases ho
    exact (World.putObj_heap_other hne).trans hk⟩
end Go.Proofs.Ytpalacfgpcpppaa
