/- Layer 10: search of the program. (printed by genFloK.py) -/
import Derived.Test.YtpalacfgpcpppaaFloJ
namespace Go.Proofs.Ytpalacfgpcpppaa
open Go Go.RowKit Go.Maps Go.Shelf
set_option maxRecDepth 100000

/-- The search between two steps of a node. -/
def SrL (w W : World) (n : NetV) (N M B Q : Nat) (s : BF) (h V : Nat) (ds : List Nat) : Prop :=
  ∃ g o c nm : Nat, SrM w W n N M B Q s h g o c nm ∧ (g < V ∨ V + 4 ≤ g) ∧ h ≤ s.q.length ∧ (∀ D ∈ ds, W.heap[D]? = some (.deferred (some [])))
theorem SrL.of_eq {w W : World} {n : NetV} {N M B Q : Nat} {s s' : BF} {h V : Nat} {ds : List Nat} (e : s = s') (H : SrL w W n N M B Q s' h V ds) : SrL w W n N M B Q s h V ds := e ▸ H
attribute [local go_sem] Oper.semAt_some
set_option maxHeartbeats 16000000 in
theorem search_in {w : World} {n : NetV} {av : Value} {sa : Sl} {am : List Int} (h : NetIs w n) (hok : n.Ok) (ha : AdjR w av n.arcs) (hm : IsI w noB sa am) (hsm : Small am) (hlen : am.length = n.arcs.length) :
    CallsIn Fence.wide 9 Try.prog 28 #[n.val, av, .slice sa.addr sa.len sa.cap] w fun e w' => ∃ B nm, e = .returned (.map (some B)) ∧ MapF eI w' B nm (pv (search n am)) ∧ w.heap.size ≤ B ∧ Same noB w w' := by
  have HB := Lib.hid h
  have HOK := Lib.hid hok
  have HAR := Lib.hid ha
  have HAM := Lib.hid hm
  have HSM := Lib.hid hsm
  have HLE := Lib.hid hlen
  have hsrc : inI64 n.source := inI64_node hok hok.source
  have hM := MapF.made eI (w.alloc (.cells #[.int .i64 n.nodes, .int .i64 n.source, .int .i64 n.sink, .slice n.sl.addr n.sl.len n.sl.cap, .int .i64 n.hold] 24))
  obtain ⟨W1, r1, hM1, g1⟩ := hM.store Try.underlying60 (k := n.source) hsrc (StV.val ⟨0, false, n.source, 0⟩)
  rw [World.size_alloc] at r1 hM1 g1
  have r2 : (Instr.mapUpdate 60 (.map (some (w.heap.size + 1))) (.int .i64 n.source) (.agg #[.int .i64 0, .bool false, .int .i64 n.source, .int .i64 0])).run Try.prog ((w.alloc (.cells #[.int .i64 n.nodes, .int .i64 n.source, .int .i64 n.sink, .slice n.sl.addr n.sl.len n.sl.cap, .int .i64 n.hold] 24)).alloc (.map #[] 0)) = .ok () W1 := r1
  have hs1 : Same noB w W1 := (((Same.refl noB w).alloc _).alloc _).grown g1 (fun k hk hlt => by injection hk with hk; omega)
  have hnb : Blk W1 w.heap.size 24 #[.int .i64 n.nodes, .int .i64 n.source, .int .i64 n.sink, .slice n.sl.addr n.sl.len n.sl.cap, .int .i64 n.hold] := ((Blk.new w 24 #[.int .i64 n.nodes, .int .i64 n.source, .int .i64 n.sink, .slice n.sl.addr n.sl.len n.sl.cap, .int .i64 n.hold]).alloc (.map #[] 0)).same (Same.of_grown g1) (fun e => by injection e with e; omega)
  have n0 : W1.cell? ⟨w.heap.size, 1, none⟩ = some (.int .i64 n.source) := hnb.cell 1
  have n1 : W1.cell? ⟨w.heap.size, 0, none⟩ = some (.int .i64 n.nodes) := hnb.cell 0
  have HM1 : Hid (MapF eI W1 (w.heap.size + 1) 1 (pv (bfStart n.source).par)) := by show MapF _ _ _ _ _; rw [pv_start]; exact hM1
  have HS1 := Lib.hid hs1
  have HNB := Lib.hid hnb
  have hmm := @run_makeMap Try.prog
  obtain ⟨Ba, nma, fa, rfl, _⟩ := ha
  clear h hok hm hsm hlen hsrc hM r1 hM1 g1 hs1 hnb
  unfold NetV.val
  refine callsIn_of_wp_marks Try.func28 rfl trivial ?_ rfl
  simp only [Try.ntmps28, List.size_toArray, List.length_cons, List.length_nil, Nat.reduceAdd, Nat.reduceSub, Array.replicate_succ, Array.replicate_zero, List.push_toArray, List.append_toArray, List.nil_append, List.cons_append]
  gi_upto_region 2 with (fail)
  refine wpIn_abs (fun W => Hid (Blk W w.heap.size 24 #[.int .i64 n.nodes, .int .i64 n.source, .int .i64 n.sink, .slice n.sl.addr n.sl.len n.sl.cap, .int .i64 n.hold]) ∧ Hid (Blk W W1.heap.size 60 #[.map (some (w.heap.size + 1))]) ∧ Hid (MapF eI W (w.heap.size + 1) 1 (pv (bfStart n.source).par)) ∧ Hid (Same noB w W) ∧ Hid (w.heap.size ≤ W1.heap.size)) ⟨HNB.out.alloc _, Blk.new W1 60 _, HM1.out.same ((Same.refl noB W1).alloc _) (fun x => x), HS1.out.alloc _, HS1.out.size⟩ ?_
  clear HNB HM1 HS1 r2 hmm n0 n1
  rintro W2 ⟨HN, HMB, HM, HS, HLO⟩
  obtain ⟨M, hMM⟩ : ∃ M, W1.heap.size = M := ⟨_, rfl⟩
  rw [hMM] at HMB HLO ⊢
  clear hMM
  have n0 : W2.cell? ⟨w.heap.size, 1, none⟩ = some (.int .i64 n.source) := HN.out.cell 1
  gi_upto_region 3 with (fail)
  refine wpIn_abs (fun W => Hid (SrM w W n w.heap.size M (w.heap.size + 1) (W2.heap.size + 1) (bfStart n.source) 0 W2.heap.size 0 1 1)) ?_ ?_
  · have hs : Same noB W2 ((W2.alloc (.cells #[.int .i64 n.source] 3)).alloc (.cells #[.slice (some ⟨W2.heap.size, 0, none⟩) 1 1] 50)) := ((Same.refl _ _).alloc _).alloc _
    have hq := Blk.new (W2.alloc (.cells #[.int .i64 n.source] 3)) 50 #[.slice (some ⟨W2.heap.size, 0, none⟩) 1 1]
    rw [World.size_alloc] at hq
    have hsz := HS.out.size
    exact ⟨HS.out.trans' hs, HN.out.same hs (fun x => x), HMB.out.same hs (fun x => x), HM.out.same hs (fun x => x), hq, (Qu.one W2 n.source).same (S := noB) ((Same.refl _ _).alloc _) (fun x => x), ⟨Nat.le_refl _, HLO.out, by omega, by omega, by omega⟩⟩
  clear HN HMB HM HS HLO n0
  obtain ⟨N, hN⟩ : ∃ N, w.heap.size = N := ⟨_, rfl⟩
  obtain ⟨B, hB⟩ : ∃ B, w.heap.size + 1 = B := ⟨_, rfl⟩
  obtain ⟨Q, hQ⟩ : ∃ Q, W2.heap.size + 1 = Q := ⟨_, rfl⟩
  obtain ⟨G0, hG0⟩ : ∃ G0, W2.heap.size = G0 := ⟨_, rfl⟩
  rw [hQ, hB, hG0]
  have HNE := Lib.hid hN
  rw [hN] at hB ⊢
  clear hN hB hQ hG0
  rintro W3 HS3
  obtain ⟨nN, hnN⟩ : ∃ nN : Nat, n.nodes.toNat = nN := ⟨_, rfl⟩
  have HNN := Lib.hid hnN
  clear hnN
  refine wpIn_loop_ghost_k (fun k a wr => ∃ (u9 u10 u11 u12 u23 u24 u25 u26 u27 u28 u29 u30 u31 u32 u33 u34 u35 u36 u37 u38 u39 u40 u41 u42 u43 u44 u45 u46 u47 u48 u49 u50 u51 u52 u53 u54 u55 : Value) (dd : List Deferred), (∃ (h g o c nm : Nat) (ds : List Nat), Hid (k + h = nN) ∧ dd = ds.map markD ∧ Hid (SrM w wr n N M B Q (bfs n.arcs am n.source h) h g o c nm) ∧ Hid (ds.Nodup ∧ ∀ D ∈ ds, wr.heap[D]? = some (.deferred (some [])) ∧ w.heap.size ≤ D) ∧ Hid (∀ k, k < h → ∃ v, (bfs n.arcs am n.source k).q[k]? = some v)) ∧ a = { tmps := #[.agg #[.int .i64 n.nodes, .int .i64 n.source, .int .i64 n.sink, .slice n.sl.addr n.sl.len n.sl.cap, .int .i64 n.hold], .map (some Ba), .slice sa.addr sa.len sa.cap, .pointer (some ⟨N, 0, none⟩), undef, undef, .map none, .pointer (some ⟨M, 0, none⟩), .pointer (some ⟨Q, 0, none⟩), u9, u10, u11, u12, .map (some B), .pointer (some ⟨N, 1, none⟩), .int .i64 n.source, .pointer (some ⟨N, 1, none⟩), .int .i64 n.source, .agg #[.int .i64 0, .bool false, .int .i64 n.source, .int .i64 0], .map (some B), .pointer (some ⟨N, 1, none⟩), .int .i64 n.source, .slice (some ⟨G0, 0, none⟩) 1 1, u23, u24, u25, u26, u27, u28, u29, u30, u31, u32, u33, u34, u35, u36, u37, u38, u39, u40, u41, u42, u43, u44, u45, u46, u47, u48, u49, u50, u51, u52, u53, u54, u55], defers := dd }) nN ?_ ?_
  · exact ⟨_, _, _, _, _, _, _, _, _, _, _, _, _, _, _, _, _, _, _, _, _, _, _, _, _, _, _, _, _, _, _, _, _, _, _, _, _, _, ⟨0, G0, 0, 1, 1, [], rfl, rfl, HS3, ⟨List.nodup_nil, fun D hD => by cases hD⟩, fun k hk => by omega⟩, rfl⟩
  intro gk _ wr hinv
  obtain ⟨u9, u10, u11, u12, u23, u24, u25, u26, u27, u28, u29, u30, u31, u32, u33, u34, u35, u36, u37, u38, u39, u40, u41, u42, u43, u44, u45, u46, u47, u48, u49, u50, u51, u52, u53, u54, u55, dd, ⟨h, g, o, c, nm, ds, HK, rfl, HS, HD, HP⟩, ha⟩ := hinv
  subst ha
  (try dsimp only)
  intro _ _ _ _
  clear HS3
  obtain ⟨dd, hdd⟩ : ∃ dd, ds.map markD = dd := ⟨_, rfl⟩
  rw [hdd]
  have HDD := Lib.hid hdd
  clear hdd
  obtain ⟨m, hm⟩ : ∃ m, ((bfs n.arcs am n.source h).q.drop h).length = m := ⟨_, rfl⟩
  have HMH := Lib.hid hm
  have q0 : wr.cell? ⟨Q, 0, none⟩ = some (.slice (some ⟨g, o, none⟩) m c) := by rw [← hm]; exact HS.out.qb.cell 0
  have hmc : m ≤ c ∧ c ≤ 9223372036854775807 := by rw [← hm]; have h1 := HS.out.qu.cap; have h2 := HS.out.qu.max; simp only [maxLen] at h2; exact ⟨h1, h2⟩
  clear hm
  by_cases hn : 0 < m
  · obtain ⟨v, hv⟩ : ∃ v, (bfs n.arcs am n.source h).q[h]? = some v := ⟨_, List.getElem?_eq_getElem (by have h1 := HMH.out; rw [List.length_drop] at h1; omega)⟩
    have HV := Lib.hid hv
    have v0 : wr.cell? ⟨g, o, none⟩ = some (.int .i64 v) := HS.out.qu.at_ (j := 0) (by rw [List.getElem?_drop]; exact hv)
    have HPOP := Lib.hid (HS.out.pop hv)
    have z0 := HS.out.qb.frozen 0
    clear hv
    gi_upto_region 6 with (fail)
    have hif : (if c = 1 then some (⟨g, o, none⟩ : Addr) else some ⟨g, o + 1, none⟩) = some ⟨g, if c = 1 then o else o + 1, none⟩ := by split <;> rfl
    rw [hif]
    clear hif
    obtain ⟨o', ho'⟩ : ∃ o', (if c = 1 then o else o + 1) = o' := ⟨_, rfl⟩
    rw [ho'] at HPOP ⊢
    clear ho'
    refine wpIn_abs (fun W => Hid (SrM w W n N M B Q (bfs n.arcs am n.source h) (h + 1) g o' (c - 1) nm) ∧ Hid (∀ D ∈ ds, W.heap[D]? = some (.deferred (some [])))) ⟨by have h1 := HPOP.out; rw [HMH.out] at h1; exact h1, fun D hD => ?_⟩ ?_
    · have h1 := (HD.out.2 D hD).1
      refine ((Same.refl (oneB Q) wr).set1 0 _).heap h1 (fun e => ?_)
      have h2 : D = Q := e
      subst h2
      rw [show wr.heap[D]? = _ from HS.out.qb] at h1
      cases h1
    have HDD2 : Hid (ds.Nodup ∧ ∀ D ∈ ds, w.heap.size ≤ D) := ⟨HD.out.1, fun D hD => (HD.out.2 D hD).2⟩
    clear HPOP HS HD q0 v0 z0 hmc
    rintro W4 ⟨HS, HD⟩
    have hvr : 0 ≤ v ∧ v < n.nodes := by
      have H1 := bfs_inv (nodes := n.nodes) HOK.out.source HOK.out.arcs h HP.out
      exact H1.rng v (List.mem_of_getElem? HV.out)
    have hZ := residual_any (w := W4) (v := v) (HB.out.keep HS.out.since) (HAR.out.keep HS.out.since) (HAM.out.keep HS.out.since)
    unfold NetV.val residual_val at hZ
    have n0 : W4.cell? ⟨N, 0, none⟩ = some (.int .i64 n.nodes) := HS.out.nb.cell 0
    have n1 : W4.cell? ⟨N, 1, none⟩ = some (.int .i64 n.source) := HS.out.nb.cell 1
    have n2 : W4.cell? ⟨N, 2, none⟩ = some (.int .i64 n.sink) := HS.out.nb.cell 2
    have n3 : W4.cell? ⟨N, 3, none⟩ = some (.slice n.sl.addr n.sl.len n.sl.cap) := HS.out.nb.cell 3
    have n4 : W4.cell? ⟨N, 4, none⟩ = some (.int .i64 n.hold) := HS.out.nb.cell 4
    have HVR := Lib.hid hvr
    have HZ := Lib.hid hZ
    clear hvr hZ
    gi_wp2
    refine ⟨trivial, ?_⟩
    refine (callsIn_wide.2 HZ.out).mono ?_
    clear HZ
    rintro e W5 ⟨rfl, hri, hs⟩
    have HRI : Hid (RI w W5 n (.map (some Ba)) sa am v W4.heap.size) := ⟨HB.out, HAR.out, HAM.out, (HS.out.since.trans' hs).below (fun _ x => x.elim) (Nat.le_refl _), hri.bn, hri.ba, hri.bm, hri.bv⟩
    have HS5 := Lib.hid (HS.out.keep hs)
    have HD5 : Hid (∀ D ∈ ds, W5.heap[D]? = some (.deferred (some [])) ∧ D < W4.heap.size) := fun D hD => ⟨hs.heap (HD.out D hD) (fun x => x), lt_of_heap (HD.out D hD)⟩
    have HLT : Hid (B < W4.heap.size ∧ Q < W4.heap.size ∧ g < W4.heap.size ∧ W4.heap.size ≤ W5.heap.size ∧ w.heap.size ≤ W4.heap.size) := ⟨HS.out.map.lt, HS.out.qb.lt, HS.out.qu.lt, hs.size, HS.out.since.size⟩
    clear hri hs n0 n1 n2 n3 n4 HD HS
    obtain ⟨V, hV⟩ : ∃ V, W4.heap.size = V := ⟨_, rfl⟩
    rw [hV] at HRI HD5 HLT ⊢
    clear hV
    have hst := resid_stops 8 (by omega) V HOK.out HVR.out HSM.out HLE.out HRI.out
    obtain ⟨V1, hV1⟩ : ∃ V1, V + 1 = V1 := ⟨_, rfl⟩
    obtain ⟨V2, hV2⟩ : ∃ V2, V + 2 = V2 := ⟨_, rfl⟩
    obtain ⟨V3, hV3⟩ : ∃ V3, V + 3 = V3 := ⟨_, rfl⟩
    rw [hV1, hV2, hV3] at hst ⊢
    have HVV := Lib.hid (And.intro hV1 (And.intro hV2 hV3))
    clear hV1 hV2 hV3
    have hsz : w.heap.size ≤ W5.heap.size := by have := HLT.out; omega
    gi_wp2
    refine wpIn_rangeFunc_ownH (n := 9) rfl (by omega) (gf := 48) (lb := #[.pointer (some ⟨V1, 0, none⟩), .pointer (some ⟨V3, 0, none⟩), .pointer (some ⟨V, 0, none⟩), .pointer (some ⟨V2, 0, none⟩)]) rfl trivial (enters_of Try.func48 (by kernel_rfl) rfl)
      hst KpR.t (KpR.put hsz) (Below.refl _ _) (fun _ => rfl)
      (fun pre W => SrL w W n N M B Q ((pre.map (fun (x : Sw n.nodes) => x.1)).foldl visit (bfs n.arcs am n.source h)) (h + 1) V ds)
      (fun _ _ _ => False)
      (fun pre X Y row hs hg hr => by
        obtain ⟨g, o, c, nm, h1, h2, h3, h4⟩ := hs
        refine ⟨g, o, c, nm, h1.own hg (B0 := W5.heap.size) (by have := HLT.out; omega) hsz hr, h2, h3, fun D hD => ?_⟩
        refine (hg.block D (lt_of_heap (h4 D hD)) (fun e => ?_)).trans (h4 D hD)
        have h5 := (hr D e.symm).1
        have h6 := (HD5.out D hD).2
        have := HLT.out
        omega)
      (fun _ _ _ _ _ hs _ _ => hs)
      ⟨g, o', c - 1, nm, HS5.out, .inl HLT.out.2.2.1, by have := (List.getElem?_eq_some_iff.1 HV.out).1; exact this, fun D hD => (HD5.out D hD).1⟩
      (fun x a' W => ∃ Bx, Blk W Bx 63 x.1.cells ∧ a' = { tmps := #[.agg #[.int .i64 n.nodes, .int .i64 n.source, .int .i64 n.sink, .slice n.sl.addr n.sl.len n.sl.cap, .int .i64 n.hold], .map (some Ba), .slice sa.addr sa.len sa.cap, .pointer (some ⟨N, 0, none⟩), undef, undef, .map none, .pointer (some ⟨M, 0, none⟩), .pointer (some ⟨Q, 0, none⟩), .int .i64 v, .pointer (some ⟨Bx, 0, none⟩), u11, u12, .map (some B), .pointer (some ⟨N, 1, none⟩), .int .i64 n.source, .pointer (some ⟨N, 1, none⟩), .int .i64 n.source, .agg #[.int .i64 0, .bool false, .int .i64 n.source, .int .i64 0], .map (some B), .pointer (some ⟨N, 1, none⟩), .int .i64 n.source, .slice (some ⟨G0, 0, none⟩) 1 1, .slice (some ⟨g, o, none⟩) m c, .int .i64 (m : Int), .bool true, .slice (some ⟨g, o, none⟩) m c, .pointer (some ⟨g, o, none⟩), .int .i64 v, .slice (some ⟨g, o, none⟩) m c, .slice (some ⟨g, o', none⟩) (m - 1) (c - 1), .agg #[.int .i64 n.nodes, .int .i64 n.source, .int .i64 n.sink, .slice n.sl.addr n.sl.len n.sl.cap, .int .i64 n.hold], .map (some Ba), .slice sa.addr sa.len sa.cap, .int .i64 v, .func (.func 48) #[] #[.pointer (some ⟨V1, 0, none⟩), .pointer (some ⟨V3, 0, none⟩), .pointer (some ⟨V, 0, none⟩), .pointer (some ⟨V2, 0, none⟩)], x.1.val, u37, u38, u39, u40, u41, u42, u43, u44, u45, u46, u47, u48, u49, u50, u51, u52, u53, u54, u55], defers := [] })
      (fun x a' _ X Y row hs hg hr => by
        obtain ⟨Bx, h1, h2⟩ := hs
        exact ⟨Bx, blk_own h1 hg (fun r e => (hr r e).2), h2⟩)
      ?assign ?body ?done ?stop
    case assign =>
      rintro l pre x W K ⟨g2, o2, c2, nm2, h1, h2, h3, h4⟩ hK
      obtain ⟨⟨xa, xb, xd, xr⟩, hxd⟩ := x
      unfold StV.val at *
      gi_wp2
      exact hK _ _ ((KeepsOthers.alloc _ _).from _) (KpR.same ((Same.refl noB W).alloc _) h1.since.size) ⟨g2, o2, c2, nm2, h1.keep ((Same.refl noB W).alloc _), h2, h3, fun D hD => ((Same.refl noB W).alloc _).heap (h4 D hD) (fun x => x)⟩ ⟨W.heap.size, Blk.new W 63 _, rfl⟩
    case body =>
      rintro l pre x a' W hl ⟨lr, hlr⟩ ⟨g2, o2, c2, nm2, h1, h2, h3, h4⟩ ⟨Bx, hx, rfl⟩ hlt
      have HVW : Hid (V + 4 ≤ W.heap.size ∧ W5.heap.size ≤ W.heap.size) := by
        have a1 := lt_of_heap hlr
        have a2 := HRI.out.bv.lt
        exact ⟨by omega, by omega⟩
      clear hl hlr
      obtain ⟨⟨xa, xb, xd, xr⟩, hxd⟩ := x
      unfold StV.cells at hx
      unfold StV.val
      dsimp only at hx hxd ⊢
      have hin : inI64 xd := inI64_node HOK.out hxd
      obtain ⟨S, hS⟩ : ∃ S, (pre.map (fun (x : Sw n.nodes) => x.1)).foldl visit (bfs n.arcs am n.source h) = S := ⟨_, rfl⟩
      rw [hS] at h1 h3
      have HQL : Hid ((S.q.drop (h + 1)).length ≤ 1000000) := by
        have a1 := fold_len (pre.map (fun (x : Sw n.nodes) => x.1)) (bfs n.arcs am n.source h)
        rw [hS, List.length_map] at a1
        have a2 := (bfs_inv (nodes := n.nodes) HOK.out.source HOK.out.arcs h HP.out).len (by have := HOK.out.nodes; omega)
        have a3 := HOK.out.nodes
        have a4 := stepsL_len n.arcs am v
        have a5 := HOK.out.len
        show (S.q.drop (h + 1)).length ≤ _
        rw [List.length_drop]
        omega
      have HFO : Hid (∀ (z : Sw n.nodes), ((pre ++ [z]).map (fun (x : Sw n.nodes) => x.1)).foldl visit (bfs n.arcs am n.source h) = visit S z.1) := fun z => by rw [List.map_append, List.foldl_append, hS]; rfl
      have HS2 := Lib.hid h1
      have HIN := Lib.hid hin
      have HR2 : Hid ((g2 < V ∨ V + 4 ≤ g2) ∧ h + 1 ≤ S.q.length ∧ ∀ D ∈ ds, W.heap[D]? = some (.deferred (some []))) := ⟨h2, h3, h4⟩
      have HX := Lib.hid hx
      have m0 : W.cell? ⟨M, 0, none⟩ = some (.map (some B)) := h1.mb.cell 0
      have y0 : W.cell? ⟨Bx, 0, none⟩ = some (.int .i64 xa) := hx.cell 0
      have y1 : W.cell? ⟨Bx, 1, none⟩ = some (.bool xb) := hx.cell 1
      have y2 : W.cell? ⟨Bx, 2, none⟩ = some (.int .i64 xd) := hx.cell 2
      have y3 : W.cell? ⟨Bx, 3, none⟩ = some (.int .i64 xr) := hx.cell 3
      have hk := h1.map.lookup Try.underlying60 (zero63 W) (k := xd) hin true
      clear h1 h2 h3 h4 hin hx hlt
      cases hp : S.par xd with
      | some y =>
        obtain ⟨ya, yb, yd, yr⟩ := y
        have hl1 : (Instr.lookup 60 (.map (some B)) (.int .i64 xd) true).run Try.prog W = .ok (.tuple #[.agg #[.int .i64 ya, .bool yb, .int .i64 yd, .int .i64 yr], .bool true]) W := by
          unfold pv at hk
          rw [hp] at hk
          exact hk
        have HVI : Hid (∀ hx', visit S (⟨⟨xa, xb, xd, xr⟩, hx'⟩ : Sw n.nodes).1 = S) := fun _ => visit_old (by rw [hp]; simp)
        clear hk hp
        gi_wp2
        refine ⟨((Same.refl noB W).alloc _).keeps.from _, KpR.same ((Same.refl noB W).alloc _) HS2.out.since.size, ?_⟩
        refine SrL.of_eq ((HFO.out (⟨⟨xa, xb, xd, xr⟩, hxd⟩ : Sw n.nodes)).trans (HVI.out hxd)) ?_
        exact ⟨g2, o2, c2, nm2, HS2.out.keep ((Same.refl noB W).alloc _), HR2.out.1, HR2.out.2.1, fun D hD => ((Same.refl noB W).alloc _).heap (HR2.out.2.2 D hD) (fun x => x)⟩
      | none =>
        have hl1 : (Instr.lookup 60 (.map (some B)) (.int .i64 xd) true).run Try.prog W = .ok (.tuple #[.agg #[.int .i64 0, .bool false, .int .i64 0, .int .i64 0], .bool false]) W := by
          unfold pv at hk
          rw [hp] at hk
          exact hk
        have HPN := Lib.hid hp
        clear hk hp
        gi_upto_region 10 with (fail)
        refine wpIn_abs (fun W2 => Hid (Same noB W W2)) ((Same.refl noB W).alloc _) ?_
        rintro W2 hA0
        have hA := hA0.out
        have HA : Same noB W W2 := hA
        have hH2 := HS2.out.keep HA
        obtain ⟨W3, r3, hM3, g3⟩ := hH2.map.store Try.underlying60 (k := xd) HIN.out (StV.val ⟨xa, xb, xd, xr⟩)
        have r4 : (Instr.mapUpdate 60 (.map (some B)) (.int .i64 xd) (.agg #[.int .i64 xa, .bool xb, .int .i64 xd, .int .i64 xr])).run Try.prog W2 = .ok () W3 := r3
        replace m0 : W2.cell? ⟨M, 0, none⟩ = some (.map (some B)) := HA.cell m0 (fun x => x)
        have hb2 := HX.out.same HA (fun x => x)
        have hb3 : Blk W3 Bx 63 #[.int .i64 xa, .bool xb, .int .i64 xd, .int .i64 xr] := hb2.same (Same.of_grown g3) (fun e => hH2.map.ne_blk hb2 (by injection e with e; exact e.symm))
        replace y0 : W2.cell? ⟨Bx, 0, none⟩ = some (.int .i64 xa) := hb2.cell 0
        replace y1 : W2.cell? ⟨Bx, 1, none⟩ = some (.bool xb) := hb2.cell 1
        replace y2 : W2.cell? ⟨Bx, 2, none⟩ = some (.int .i64 xd) := hb2.cell 2
        replace y3 : W2.cell? ⟨Bx, 3, none⟩ = some (.int .i64 xr) := hb2.cell 3
        have w2 : W3.cell? ⟨Bx, 2, none⟩ = some (.int .i64 xd) := hb3.cell 2
        obtain ⟨m2, hm2⟩ : ∃ m2, (S.q.drop (h + 1)).length = m2 := ⟨_, rfl⟩
        have hqb3 : Blk W3 Q 50 #[.slice (some ⟨g2, o2, none⟩) m2 c2] := by
          rw [← hm2]
          exact hH2.qb.same (Same.of_grown g3) (fun e => hH2.map.ne_blk hH2.qb (by injection e with e; exact e.symm))
        have HQB3 := Lib.hid hqb3
        have q3 : W3.cell? ⟨Q, 0, none⟩ = some (.slice (some ⟨g2, o2, none⟩) m2 c2) := hqb3.cell 0
        have hqu3 : Qu (W3.alloc (.cells #[.int .i64 xd] 3)) g2 o2 c2 (S.q.drop (h + 1)) := by
          refine (hH2.qu.same (Same.of_grown g3) (fun e => ?_)).same ((Same.refl noB W3).alloc _) (fun x => x)
          obtain ⟨cur, hc, _⟩ := hH2.qu.blk
          exact hH2.map.ne_blk hc (by injection e with e; exact e.symm)
        have HQ3 := Lib.hid hqu3
        have HM3 := Lib.hid hM3
        have HG3 := Lib.hid g3
        have HH2 := Lib.hid hH2
        have HM2 := Lib.hid hm2
        have HA2 := Lib.hid HA
        clear hA hA0 r3 hM3 g3 hb2 hb3 hH2 hm2 hqb3 hqu3 HA
        gi_wp2_with (gi_at_builtin; refine wpListIn_qapp rfl _ _ rfl rfl HM2.out.symm HQ3.out rfl (y := xd) (by rw [Addr.add_lit]; exact (Blk.new W3 3 #[.int .i64 xd]).cell 0) HQL.out ?_; intro g' o3 c' W6 hq6 hg6 hat6; have HN6 := Lib.hid (And.intro hq6 (And.intro hg6 hat6)); have hqb6 : Blk W6 Q 50 #[.slice (some ⟨g2, o2, none⟩) m2 c2] := (HQB3.out.alloc _).same (Same.of_grown hg6) (fun e => HQ3.out.ne_blk (HQB3.out.alloc _) (by decide) (by injection e with e; exact e.symm)); have q6 : W6.cell? ⟨Q, 0, none⟩ = some (.slice (some ⟨g2, o2, none⟩) m2 c2) := hqb6.cell 0; have z6 := hqb6.frozen 0; clear hq6 hg6 hat6 hqb6)
        have hn6 := HN6.out
        obtain ⟨hn1, hn2⟩ := HH2.out.new (x := ⟨xa, xb, xd, xr⟩) HPN.out HR2.out.2.1 HM3.out HG3.out hn6.1 hn6.2.1 hn6.2.2
        rw [HM2.out] at hn1 hn2
        have hall : Same (newB B g2 Q) W (W6.setCell ⟨Q, 0, none⟩ (.slice (some ⟨g', o3, none⟩) (m2 + 1) c')) := (HA2.out.of_no).trans' hn2
        have hlo := HS2.out.lo
        have hlt := HLT.out
        have hvw := HVW.out
        obtain ⟨cur, hcur, _⟩ := HS2.out.qu.blk
        refine ⟨KeepsFrom.of_new hall (by omega) hcur HS2.out.qb, KpR.of_new hall HS2.out.since.size ⟨by omega, hlt.1⟩ ⟨by omega, HR2.out.1⟩ ⟨by omega, hlt.2.1⟩, ?_⟩
        refine SrL.of_eq (HFO.out (⟨⟨xa, xb, xd, xr⟩, hxd⟩ : Sw n.nodes)) ?_
        refine ⟨g', o3, c', nm2 + 1, hn1, ?_, Nat.le_trans HR2.out.2.1 (visit_pre S _).length_le, fun D hD => hall.heap (HR2.out.2.2 D hD) (fun e => ?_)⟩
        · rcases hn6.2.2 with e | e
          · rw [e]; exact HR2.out.1
          · right
            have a1 := HA2.out.size
            have a2 := HG3.out.size
            simp at e
            omega
        · have h9 := HR2.out.2.2 D hD
          rcases e with e | e | e
          · subst e
            obtain ⟨es, cl, hb, _⟩ := HS2.out.map
            rw [hb] at h9
            cases h9
          · subst e
            rw [show W.heap[D]? = _ from hcur] at h9
            cases h9
          · subst e
            rw [show W.heap[D]? = _ from HS2.out.qb] at h9
            cases h9
    case done =>
      rintro D ys W hD hys ⟨g2, o2, c2, nm2, h1, h2, h3, h4⟩ hK
      rw [hys] at h1 h3
      have hbf : (stepsL n.arcs am v).foldl visit (bfs n.arcs am n.source h) = bfs n.arcs am n.source (h + 1) := (bfs_next HV.out).symm
      rw [hbf] at h1 h3
      have HF1 := Lib.hid h1
      have HKn : Hid (gk - 1 < gk ∧ gk - 1 + (h + 1) = nN) := by
        have a1 := (bfs_inv (nodes := n.nodes) HOK.out.source HOK.out.arcs h HP.out).len (by have := HOK.out.nodes; omega)
        have a2 := (List.getElem?_eq_some_iff.1 HV.out).1
        have a3 := HK.out
        have a4 := HNN.out
        exact ⟨by omega, by omega⟩
      have HDn : Hid ((D :: ds).Nodup ∧ ∀ E ∈ D :: ds, W.heap[E]? = some (.deferred (some [])) ∧ w.heap.size ≤ E) := by
        refine ⟨List.nodup_cons.2 ⟨fun hm => ?_, HDD2.out.1⟩, fun E hE => ?_⟩
        · have a1 := (HD5.out D hm).2
          have a2 := HLT.out
          omega
        · rcases List.mem_cons.1 hE with rfl | hE
          · exact ⟨hK, by omega⟩
          · exact ⟨h4 E hE, HDD2.out.2 E hE⟩
      have HPn : Hid (∀ k, k < h + 1 → ∃ v, (bfs n.arcs am n.source k).q[k]? = some v) := fun k hk => by
        by_cases e : k = h
        · subst e; exact ⟨v, HV.out⟩
        · exact HP.out k (by omega)
      clear h1 h2 h3 h4 hK hbf
      gi_wp2
      gi_roundg (gk - 1)
      case measure => exact HKn.out.1
      case rel => exact ⟨h + 1, g2, o2, c2, nm2, D :: ds, HKn.out.2, by rw [← HDD.out]; rfl, HF1.out, HDn.out, HPn.out⟩
    case stop =>
      rintro D c pre W _ _ h _
      exact h.elim
  · obtain rfl : m = 0 := by omega
    have m0 : wr.cell? ⟨M, 0, none⟩ = some (.map (some B)) := HS.out.mb.cell 0
    have HSE : Hid (search n am = (bfs n.arcs am n.source h).par) := search_eq HOK.out HP.out (by
      rw [List.getElem?_eq_none_iff]
      have h1 := HMH.out
      rw [List.length_drop] at h1
      omega)
    gi_wp2
    rw [← HDD.out]
    refine leaves_marks ds wr HD.out.1 (fun D hD => (HD.out.2 D hD).1) (fun w' k1 k2 k3 k4 k5 => ?_)
    have hBn : B ∉ ds := fun hm => by
      have h9 := (HD.out.2 B hm).1
      obtain ⟨es, cl, hb, _⟩ := HS.out.map
      rw [hb] at h9
      cases h9
    refine ⟨_, results_tmp rfl _ _ _, B, nm, rfl, ?_, HS.out.lo.2.2.1, ?_⟩
    · rw [HSE.out]
      obtain ⟨es, cl, hb, hr⟩ := HS.out.map
      exact ⟨es, cl, (k1 B hBn).trans hb, hr⟩
    · have hs := HS.out.since
      refine ⟨k3.trans hs.os, k4.trans hs.tape, k5.trans hs.output, by rw [k2]; exact hs.size, fun k hk _ => ?_⟩
      rw [k1 k (fun hm => by have := (HD.out.2 k hm).2; omega)]
      exact hs.block k hk (fun x => x)
theorem search_any {w : World} {n : NetV} {av : Value} {sa : Sl} {am : List Int} (h : NetIs w n) (hok : n.Ok) (ha : AdjR w av n.arcs) (hm : IsI w noB sa am) (hsm : Small am) (hlen : am.length = n.arcs.length) :
    Calls Try.prog 28 #[n.val, av, .slice sa.addr sa.len sa.cap] w fun e w' => ∃ B nm, e = .returned (.map (some B)) ∧ MapF eI w' B nm (pv (search n am)) ∧ w.heap.size ≤ B ∧ Same noB w w' := callsIn_wide.1 (search_in h hok ha hm hsm hlen)
end Go.Proofs.Ytpalacfgpcpppaa
