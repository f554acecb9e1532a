/- Layer 10: the steps from a node that have room: residual of the program, an iterator. (printed by genFloH.py) -/
import Derived.RangeFuncNested
import Derived.RangeFuncBound
import Derived.RangeFuncCalls
import Derived.RangeFuncLeaves
import Derived.Shelf.Abstract
import Derived.Shelf.RegionOpen
import Derived.WalkKit
import Derived.OwnWalkIn
import Derived.TacticsInMore
import Derived.LoopNIn
import Derived.LoopIn
import Derived.Sort.CutIn
import Derived.RegionIn
import Derived.BigRegionIn
import Derived.Test.YtpalacfgpcpppaaFloG
namespace Go.Proofs.Ytpalacfgpcpppaa
open Go Go.RowKit Go.Maps Go.Shelf
set_option maxRecDepth 100000

/-- A step over an arc. -/
structure StV where
  arc : Int
  back : Bool
  dst : Int
  room : Int
def StV.val (s : StV) : Value := .agg #[.int .i64 s.arc, .bool s.back, .int .i64 s.dst, .int .i64 s.room]
def StV.cells (s : StV) : Array Value := #[.int .i64 s.arc, .bool s.back, .int .i64 s.dst, .int .i64 s.room]
def mkStep (a : ArcV) (i x v : Int) : StV := if a.t = v then ⟨i, true, a.f, x⟩ else ⟨i, false, a.t, a.c - x⟩
/-- The step over arc i from v, if it has room. -/
def stAt (arcs : List ArcV) (am : List Int) (v i : Int) : Option StV := match arcs[i.toNat]?, am[i.toNat]? with
  | some a, some x => if 0 < (mkStep a i x v).room then some (mkStep a i x v) else none
  | _, _ => none
def stepsK (arcs : List ArcV) (am : List Int) (v : Int) (k : Nat) : List StV := ((adjL arcs v).take k).filterMap (stAt arcs am v)
def stepsL (arcs : List ArcV) (am : List Int) (v : Int) : List StV := (adjL arcs v).filterMap (stAt arcs am v)
theorem stepsK_zero (arcs : List ArcV) (am : List Int) (v : Int) : stepsK arcs am v 0 = [] := rfl
theorem stepsK_all (arcs : List ArcV) (am : List Int) (v : Int) : stepsK arcs am v (adjL arcs v).length = stepsL arcs am v := by unfold stepsK stepsL; rw [List.take_length]
theorem stepsK_next {arcs : List ArcV} {am : List Int} {v i : Int} {k j : Nat} {a : ArcV} {x : Int} (hi : (adjL arcs v)[k]? = some i) (hj : i = (j : Int)) (ha : arcs[j]? = some a) (hx : am[j]? = some x) :
    stepsK arcs am v (k + 1) = stepsK arcs am v k ++ if 0 < (mkStep a i x v).room then [mkStep a i x v] else [] := by
  unfold stepsK
  rw [take_snoc hi, List.filterMap_append]
  congr 1
  subst hj
  simp only [List.filterMap_cons, List.filterMap_nil, stAt, Int.toNat_natCast, ha, hx]
  split <;> split <;> simp_all
theorem stepsL_len (arcs : List ArcV) (am : List Int) (v : Int) : (stepsL arcs am v).length ≤ arcs.length := by
  unfold stepsL
  exact Nat.le_trans (List.length_filterMap_le _ _) (adjK_len _ _ _)
theorem stepsK_pre (arcs : List ArcV) (am : List Int) (v : Int) (k : Nat) : stepsK arcs am v k <+: stepsL arcs am v := by
  unfold stepsK stepsL
  exact (List.take_prefix k _).filterMap _
/-- The arcs at each node, to read. -/
def AdjR (w : World) (v : Value) (arcs : List ArcV) : Prop := ∃ B nm f, v = .map (some B) ∧ MapF eI w B nm f ∧ ∀ x, ∃ A c, rowOf f x = .slice A (adjL arcs x).length c ∧ Rd w noB 1 (rowOf f x) (adjL arcs x).length (icells (adjL arcs x))
theorem AdjR.keep {w w' : World} {v : Value} {arcs : List ArcV} (h : AdjR w v arcs) (hs : Same noB w w') : AdjR w' v arcs := by
  obtain ⟨B, nm, f, h1, h2, h3⟩ := h
  refine ⟨B, nm, f, h1, h2.same hs (fun x => x), fun x => ?_⟩
  obtain ⟨A, c, h4, h5⟩ := h3 x
  exact ⟨A, c, h4, h5.keep hs⟩
theorem AdjM.r {w W : World} {v : Value} {arcs : List ArcV} (h : AdjM w W v arcs) : AdjR W v arcs := by
  obtain ⟨B, nm, f, h1, h2⟩ := h
  refine ⟨B, nm, f, h1, h2.map, fun x => ?_⟩
  obtain ⟨A, c, h3⟩ := h2.isrow x
  exact ⟨A, c, h3, Rd.of_own (h2.row x) (fun _ _ x => x)⟩
/-- What a round that goes on keeps: all that lay below n₀, and the four boxes at V. -/
def KpR (n₀ V : Nat) (W W' : World) : Prop := Below n₀ W W' ∧ ∀ (k : Nat) (o : Obj), V ≤ k → k < V + 4 → W.heap[k]? = some o → o.isCells = true → W'.heap[k]? = some o
theorem KpR.t {n₀ V : Nat} {A B C : World} (h : KpR n₀ V A B) (k : KpR n₀ V B C) : KpR n₀ V A C := ⟨h.1.trans k.1, fun j o h1 h2 h3 h4 => k.2 j o h1 h2 (h.2 j o h1 h2 h3 h4) h4⟩
theorem KpR.same {n₀ V : Nat} {W W' : World} (h : Same noB W W') (hn : n₀ ≤ W.heap.size) : KpR n₀ V W W' := ⟨h.below (fun _ x => x.elim) hn, fun _ _ _ _ h3 _ => h.heap h3 (fun x => x)⟩
/-- residual's boxes at V: the network, the map, the amounts, the node. -/
structure RI (w W : World) (n : NetV) (av : Value) (sa : Sl) (am : List Int) (v : Int) (V : Nat) : Prop where
  net : NetIs w n
  adj : AdjR w av n.arcs
  am : IsI w noB sa am
  since : Below w.heap.size w W
  bn : Blk W V 24 #[.int .i64 n.nodes, .int .i64 n.source, .int .i64 n.sink, .slice n.sl.addr n.sl.len n.sl.cap, .int .i64 n.hold]
  ba : Blk W (V + 1) 58 #[av]
  bm : Blk W (V + 2) 26 #[.slice sa.addr sa.len sa.cap]
  bv : Blk W (V + 3) 3 #[.int .i64 v]
theorem RI.kp {w W W' : World} {n : NetV} {av : Value} {sa : Sl} {am : List Int} {v : Int} {V : Nat} (h : RI w W n av sa am v V) (hk : KpR w.heap.size V W W') : RI w W' n av sa am v V :=
  ⟨h.net, h.adj, h.am, h.since.trans hk.1, hk.2 _ _ (by omega) (by omega) h.bn rfl, hk.2 _ _ (by omega) (by omega) h.ba rfl, hk.2 _ _ (by omega) (by omega) h.bm rfl, hk.2 _ _ (by omega) (by omega) h.bv rfl⟩
theorem RI.keep {w W W' : World} {n : NetV} {av : Value} {sa : Sl} {am : List Int} {v : Int} {V : Nat} (h : RI w W n av sa am v V) (hs : Same noB W W') : RI w W' n av sa am v V := h.kp (KpR.same hs h.since.size)
theorem RI.all {w W : World} {n : NetV} {av : Value} {sa : Sl} {am : List Int} {v : Int} {V : Nat} (h : RI w W n av sa am v V) :
    W.cell? ⟨V, 3, none⟩ = some (.slice n.sl.addr n.sl.len n.sl.cap) ∧ W.cell? ⟨V + 1, 0, none⟩ = some av ∧ W.cell? ⟨V + 2, 0, none⟩ = some (.slice sa.addr sa.len sa.cap) ∧ W.cell? ⟨V + 3, 0, none⟩ = some (.int .i64 v) :=
  ⟨h.bn.cell 3, h.ba.cell 0, h.bm.cell 0, h.bv.cell 0⟩
def residual_val (V : Nat) : Value := .func (.func 48) #[] #[.pointer (some ⟨V + 1, 0, none⟩), .pointer (some ⟨V + 3, 0, none⟩), .pointer (some ⟨V, 0, none⟩), .pointer (some ⟨V + 2, 0, none⟩)]
theorem residual_any {w : World} {n : NetV} {av : Value} {sa : Sl} {am : List Int} {v : Int} (h : NetIs w n) (ha : AdjR w av n.arcs) (hm : IsI w noB sa am) :
    Calls Try.prog 42 #[n.val, av, .slice sa.addr sa.len sa.cap, .int .i64 v] w fun e w' => e = .returned (residual_val w.heap.size) ∧ RI w w' n av sa am v w.heap.size ∧ Same noB w w' := by
  have HF : Hid (RI w ((((w.alloc (.cells #[.int .i64 n.nodes, .int .i64 n.source, .int .i64 n.sink, .slice n.sl.addr n.sl.len n.sl.cap, .int .i64 n.hold] 24)).alloc (.cells #[av] 58)).alloc (.cells #[.slice sa.addr sa.len sa.cap] 26)).alloc (.cells #[.int .i64 v] 3)) n av sa am v w.heap.size ∧ Same noB w ((((w.alloc (.cells #[.int .i64 n.nodes, .int .i64 n.source, .int .i64 n.sink, .slice n.sl.addr n.sl.len n.sl.cap, .int .i64 n.hold] 24)).alloc (.cells #[av] 58)).alloc (.cells #[.slice sa.addr sa.len sa.cap] 26)).alloc (.cells #[.int .i64 v] 3))) := by
    have hs : Same noB w ((((w.alloc (.cells #[.int .i64 n.nodes, .int .i64 n.source, .int .i64 n.sink, .slice n.sl.addr n.sl.len n.sl.cap, .int .i64 n.hold] 24)).alloc (.cells #[av] 58)).alloc (.cells #[.slice sa.addr sa.len sa.cap] 26)).alloc (.cells #[.int .i64 v] 3)) := ((((Same.refl _ _).alloc _).alloc _).alloc _).alloc _
    have h1 := Blk.new (w.alloc (.cells #[.int .i64 n.nodes, .int .i64 n.source, .int .i64 n.sink, .slice n.sl.addr n.sl.len n.sl.cap, .int .i64 n.hold] 24)) 58 #[av]
    have h2 := Blk.new ((w.alloc (.cells #[.int .i64 n.nodes, .int .i64 n.source, .int .i64 n.sink, .slice n.sl.addr n.sl.len n.sl.cap, .int .i64 n.hold] 24)).alloc (.cells #[av] 58)) 26 #[.slice sa.addr sa.len sa.cap]
    have h3 := Blk.new (((w.alloc (.cells #[.int .i64 n.nodes, .int .i64 n.source, .int .i64 n.sink, .slice n.sl.addr n.sl.len n.sl.cap, .int .i64 n.hold] 24)).alloc (.cells #[av] 58)).alloc (.cells #[.slice sa.addr sa.len sa.cap] 26)) 3 #[.int .i64 v]
    simp only [World.size_alloc] at h1 h2 h3
    exact ⟨⟨h, ha, hm, hs.below (fun _ x => x.elim) (Nat.le_refl _), (((Blk.new w 24 _).alloc _).alloc _).alloc _, (h1.alloc _).alloc _, h2.alloc _, h3⟩, hs⟩
  clear h hm
  obtain ⟨B, nm, f, rfl, _⟩ := ha
  unfold NetV.val
  go_enter Try.func42, Try.ntmps42
  go_wp2_with fail
  go_ret
  exact ⟨by unfold residual_val; rfl, HF.out⟩


theorem wpIn_abs {F : Fence} {n : Nat} {P : Program} {c : Code} {Q : Exit → Act → World → Prop} {a : Act} {w : World} (G : World → Prop) (hG : G w) (h : ∀ w, G w → c.wpIn F n P Q a w) : c.wpIn F n P Q a w := h w hG
attribute [local go_sem] Oper.semAt_some
set_option maxHeartbeats 16000000 in
theorem resid_in (fu : Nat) (hfu : 2 ≤ fu) (l V : Nat) {w : World} {n : NetV} {av : Value} {sa : Sl} {am : List Int} {v : Int} (hok : n.Ok) (hv : 0 ≤ v ∧ v < n.nodes) (hsm : Small am) (hlen : am.length = n.arcs.length) (J Jx : List StV → World → Prop) {B0 : Nat}
    (hJ : AbidesFrom B0 J)
    (hY : ∀ pre x W, J pre W → pre ++ [x] <+: stepsL n.arcs am v → YieldAt Fence.wide (fu - 1) Try.prog l #[x.val] W fun e W' =>
      (e = .returned (.bool true) ∧ J (pre ++ [x]) W' ∧ KpR w.heap.size V W W') ∨ (e = .returned (.bool false) ∧ Jx (pre ++ [x]) W'))
    (W : World) (hin : RI w W n av sa am v V) (h0 : J [] W) :
    CallsIn Fence.wide fu Try.prog 48 #[.func (.yield l) #[] #[], .pointer (some ⟨V + 1, 0, none⟩), .pointer (some ⟨V + 3, 0, none⟩), .pointer (some ⟨V, 0, none⟩), .pointer (some ⟨V + 2, 0, none⟩)] W fun e W' => (∃ r, e = .returned r) ∧
      ((∃ ys, ys = stepsL n.arcs am v ∧ J ys W') ∨ (∃ pre, pre <+: stepsL n.arcs am v ∧ Jx pre W')) := by
  have h1 : 1 ≤ fu := by omega
  have HJ := Lib.hid hJ
  have HY := Lib.hid hY
  have HIN := Lib.hid hin
  have HOK := Lib.hid hok
  have HSM := Lib.hid hsm
  have HLE := Lib.hid hlen
  obtain ⟨B, nm, f, rfl, hM, hrows⟩ := hin.adj
  obtain ⟨R, cR, hR, hRd⟩ := hrows v
  have HM := Lib.hid hM
  have HRO := Lib.hid hR
  have HRD := Lib.hid hRd
  have HIV : Hid (inI64 v) := inI64_node hok hv
  have hlk : (Instr.lookup 58 (.map (some B)) (.int .i64 v) false).run Try.prog W = .ok (.slice R (adjL n.arcs v).length cR) W := by
    have hM2 : MapF eI W B nm f := hM.same (S := noB) (Same.of_below hin.since) (fun x => x)
    have := hM2.lookup Try.underlying58 (zero50 W) (k := v) HIV.out false
    rw [← hR]
    exact this
  have HL : Hid (NetIs w n) := hin.net
  have HAM : Hid (IsI w noB sa am) := hin.am
  have HLN : Hid (n.sl.len = n.arcs.length) := hin.net.len
  have HAL : Hid (sa.len = am.length) := hin.am.1
  have hnc := hin.net.rd.caps
  have hac := hin.am.2.caps
  have hrc := (hR ▸ hRd : Rd w noB 1 (.slice R (adjL n.arcs v).length cR) (adjL n.arcs v).length (icells (adjL n.arcs v))).caps
  have HRR : Hid (Rd w noB 1 (.slice R (adjL n.arcs v).length cR) (adjL n.arcs v).length (icells (adjL n.arcs v))) := by show Rd _ _ _ _ _ _; rw [← hR]; exact hRd
  have c1 : W.cell? ⟨V + 1, 0, none⟩ = some (.map (some B)) := hin.all.2.1
  have c3 : W.cell? ⟨V + 3, 0, none⟩ = some (.int .i64 v) := hin.all.2.2.2
  have hlb : (adjL n.arcs v).length ≤ 4000 := Nat.le_trans (adjK_len _ _ _) hok.len
  have HST : Hid (J [] W ∧ RI w W n (.map (some B)) sa am v V) := ⟨h0, hin⟩
  obtain ⟨m, hm⟩ : ∃ m, (adjL n.arcs v).length = m := ⟨_, rfl⟩
  have HMM := Lib.hid hm
  rw [hm] at hlk hrc HRR hlb
  have HALL : Hid (∀ wr, RI w wr n (.map (some B)) sa am v V → wr.cell? ⟨V, 3, none⟩ = some (.slice n.sl.addr n.sl.len n.sl.cap) ∧ wr.cell? ⟨V + 1, 0, none⟩ = some (.map (some B)) ∧ wr.cell? ⟨V + 2, 0, none⟩ = some (.slice sa.addr sa.len sa.cap) ∧ wr.cell? ⟨V + 3, 0, none⟩ = some (.int .i64 v)) := fun wr h => h.all
  obtain ⟨V1, hV1⟩ : ∃ V1, V + 1 = V1 := ⟨_, rfl⟩
  obtain ⟨V2, hV2⟩ : ∃ V2, V + 2 = V2 := ⟨_, rfl⟩
  obtain ⟨V3, hV3⟩ : ∃ V3, V + 3 = V3 := ⟨_, rfl⟩
  rw [hV1, hV2, hV3] at HALL ⊢
  rw [hV1] at c1
  rw [hV3] at c3
  clear hV1 hV2 hV3
  clear hJ hY hin hok hsm hlen hM hrows hR hRd h0 HM HRO HRD hm
  refine callsIn_of_wp Try.func48 rfl trivial ?_ rfl
  simp only [Try.ntmps48, List.size_toArray, List.length_cons, List.length_nil, Nat.reduceAdd, Nat.reduceSub, Array.replicate_succ, Array.replicate_zero, List.push_toArray, List.append_toArray, List.nil_append, List.cons_append]
  gi_wp2
  gi_loopw [14] (fun i wr => ∃ k : Nat, k ≤ m ∧ i = .int .i64 k ∧ Hid (J (stepsK n.arcs am v k) wr ∧ RI w wr n (.map (some B)) sa am v V)) (fun i _ => m - (intOf i).toNat)
  case atStart => exact ⟨0, Nat.zero_le _, rfl, HST.out⟩
  case round =>
    obtain ⟨k, hk, rfl, HK⟩ := hrel
    clear HST c1 c3 hlk
    by_cases hlt : k < m
    · obtain ⟨i, hi⟩ : ∃ i, (adjL n.arcs v)[k]? = some i := ⟨_, List.getElem?_eq_getElem (by have := HMM.out; omega)⟩
      obtain ⟨j, x, rfl, hx, hfv⟩ := adjL_mem.1 (List.mem_of_getElem? hi)
      have hxo := HOK.out.arcs x (List.mem_of_getElem? hx)
      have hjm := (List.getElem?_eq_some_iff.1 hx).1
      obtain ⟨y, hy⟩ : ∃ e, am[j]? = some e := ⟨_, List.getElem?_eq_getElem (by have := HLE.out; omega)⟩
      have hyb := HSM.out y (List.mem_of_getElem? hy)
      have HNX := Lib.hid (stepsK_next hi rfl hx hy)
      have HPR := Lib.hid (stepsK_pre n.arcs am v (k + 1))
      have hsw : Same noB w wr := Same.of_below HK.out.2.since
      obtain ⟨b2, o2, rfl, r2⟩ := (HRR.out.keep hsw).at_ (by omega)
      have q0 := r2.cell k _ (icells_at hi)
      obtain ⟨b, o, hb, r⟩ := (HL.out.rd.keep hsw).at_ (by have := HLN.out; omega)
      obtain ⟨p0, p1, p2, p3⟩ := arc_at r hx
      obtain ⟨b1, o1, hb1, r1⟩ := (HAM.out.2.keep hsw).at_ (by have := HAL.out; have := HLE.out; omega)
      have a0 := r1.cell j _ (icells_at hy)
      obtain ⟨c0, c1, c2, c3⟩ := HALL.out wr HK.out.2
      rw [hb] at c0
      rw [hb1] at c2
      have hj0 : (0 : Int) ≤ (j : Int) := by omega
      have hj1 : (j : Int) < (n.sl.len : Int) := by have := HLN.out; omega
      have hj2 : (j : Int) < (sa.len : Int) := by have := HAL.out; have := HLE.out; omega
      have hk0 : (0 : Int) ≤ (k : Int) := by omega
      have hk1 : (k : Int) < (m : Int) := by omega
      have hws : IntKind.i64.wrap (x.c - y) = x.c - y := IntWalk.i64_in _ (by have := hxo.c; omega)
      have HXO := Lib.hid hxo
      clear hi hx hfv hxo hjm hy hsw r2 hb r hb1 r1
      gi_upto_region 4 with (fail)
      refine wpIn_abs (fun W => Hid (Blk W wr.heap.size 43 #[.int .i64 x.f, .int .i64 x.t, .int .i64 x.c, .int .i64 x.d]) ∧ Hid (Same noB wr W)) ⟨Blk.new wr 43 _, (Same.refl _ _).alloc _⟩ ?_
      rintro W2 ⟨HE, HS⟩
      obtain ⟨E, hE⟩ : ∃ E, wr.heap.size = E := ⟨_, rfl⟩
      rw [hE] at HE ⊢
      clear hE
      replace c0 := HS.out.cell c0 (fun x => x)
      replace c2 := HS.out.cell c2 (fun x => x)
      replace c3 := HS.out.cell c3 (fun x => x)
      replace a0 := HS.out.cell a0 (fun x => x)
      have e0 : W2.cell? ⟨E, 0, none⟩ = some (.int .i64 x.f) := HE.out.cell 0
      have e1 : W2.cell? ⟨E, 1, none⟩ = some (.int .i64 x.t) := HE.out.cell 1
      have e2 : W2.cell? ⟨E, 2, none⟩ = some (.int .i64 x.c) := HE.out.cell 2
      clear p0 p1 p2 p3 q0 c1
      have l0 : E < W2.heap.size := HE.out.lt
      have l2 : V2 < W2.heap.size := World.block_lt_of_cell? W2 _ c2
      have l3 : V3 < W2.heap.size := World.block_lt_of_cell? W2 _ c3
      have l4 : b1 < W2.heap.size := World.block_lt_of_cell? W2 _ a0
      gi_region
      gi_upto_region 5 with (fail)
      refine wpIn_abs (fun W => Hid (Blk W W2.heap.size 63 #[.int .i64 (j : Int), .bool false, .int .i64 x.t, .int .i64 (x.c - y)]) ∧ Hid (Same noB W2 W)) ⟨(Blk.new W2 63 _).drew, ((Same.refl _ _).alloc _).drew⟩ ?_
      rintro W3 ⟨HG, HS3⟩
      have HGL : Hid (wr.heap.size ≤ W2.heap.size) := HS.out.size
      obtain ⟨G, hG⟩ : ∃ G, W2.heap.size = G := ⟨_, rfl⟩
      rw [hG] at HG HGL ⊢
      clear hG l0 l2 l3 l4
      replace c2 := HS3.out.cell c2 (fun x => x)
      replace c3 := HS3.out.cell c3 (fun x => x)
      replace a0 := HS3.out.cell a0 (fun x => x)
      replace e0 := HS3.out.cell e0 (fun x => x)
      replace e1 := HS3.out.cell e1 (fun x => x)
      replace HE := Lib.hid (HE.out.same HS3.out (fun x => x))
      replace HS := Lib.hid (HS.out.trans' HS3.out)
      clear HS3 e2 c0
      by_cases ht : x.t = v
      · have dt : (x.t == v) = true := beq_iff_eq.2 ht
        have HMK : Hid (mkStep x (j : Int) y v = ⟨(j : Int), true, x.f, y⟩) := by show _ = _; unfold mkStep; rw [if_pos ht]
        clear ht
        have g0 : W3.cell? ⟨G, 0, none⟩ = some (.int .i64 (j : Int)) := HG.out.cell 0
        have g1 : W3.cell? ⟨G, 1, none⟩ = some (.bool false) := HG.out.cell 1
        have g2 : W3.cell? ⟨G, 2, none⟩ = some (.int .i64 x.t) := HG.out.cell 2
        have g3 : W3.cell? ⟨G, 3, none⟩ = some (.int .i64 (x.c - y)) := HG.out.cell 3
        have z0 := HG.out.frozen 0
        have z1 := HG.out.frozen 1
        have z2 := HG.out.frozen 2
        have z3 := HG.out.frozen 3
        have hgl := HG.out.lt
        gi_upto_region 6 with (fail)
        gi_region
        gi_upto_region 7 with (fail)
        refine wpIn_abs (fun W => Hid (Blk W G 63 #[.int .i64 (j : Int), .bool true, .int .i64 x.f, .int .i64 y]) ∧ Hid (Same noB wr W)) ⟨((((HG.out.set_ 0 _).set_ 1 _).set_ 2 _).set_ 3 _).drew, (HS.out.trans (((((Same.refl (oneB G) W3).set1 0 _).set1 1 _).set1 2 _).set1 3 _) (fun b hb hx => by have h3 : b = G := hx; have := HGL.out; omega)).drew⟩ ?_
        clear z0 z1 z2 z3 hgl g0 g1 g2 g3
        clear HS HG c2 c3 a0 e0 e1 HE
        rintro W4 ⟨HG, HS⟩
        have g0 : W4.cell? ⟨G, 0, none⟩ = some (.int .i64 (j : Int)) := HG.out.cell 0
        have g1 : W4.cell? ⟨G, 1, none⟩ = some (.bool true) := HG.out.cell 1
        have g2 : W4.cell? ⟨G, 2, none⟩ = some (.int .i64 x.f) := HG.out.cell 2
        have g3 : W4.cell? ⟨G, 3, none⟩ = some (.int .i64 (y)) := HG.out.cell 3
        have HK4 : Hid (J (stepsK n.arcs am v k) W4 ∧ RI w W4 n (.map (some B)) sa am v V) := ⟨HJ.out _ _ _ none HK.out.1 (HS.out.to_grown (fun _ _ x => x.elim)) (fun r e => by cases e), HK.out.2.keep HS.out⟩
        clear HS HG HK
        by_cases hrm : 0 < y
        · have HN1 : Hid (stepsK n.arcs am v (k + 1) = stepsK n.arcs am v k ++ [⟨(j : Int), true, x.f, y⟩]) := by show _ = _; rw [HNX.out, HMK.out, if_pos hrm]
          have hpre := HPR.out
          rw [HN1.out] at hpre
          obtain ⟨fn, tmps, assign, body, hy, hR⟩ := HY.out (stepsK n.arcs am v k) ⟨(j : Int), true, x.f, y⟩ W4 HK4.out.1 hpre
          have HPE := Lib.hid hpre
          have hy' : (Instr.yield l #[.agg #[.int .i64 (j : Int), .bool true, .int .i64 x.f, .int .i64 (y)]]).run Try.prog W4 = .ok (.round l fn tmps assign body) W4 := hy
          have HR2 := Lib.hid hR
          clear hy hR hpre
          gi_wp2
          refine HR2.out.mono ?_
          rintro e W7 (⟨rfl, hJ7, hk7⟩ | ⟨rfl, hJx7⟩)
          · have HT2 : Hid (J (stepsK n.arcs am v (k + 1)) W7 ∧ RI w W7 n (.map (some B)) sa am v V) := ⟨by rw [HN1.out]; exact hJ7, HK4.out.2.kp hk7⟩
            clear hJ7 hk7 g0 g1 g2 g3
            gi_wp2
            go_roundw
            case rel => exact ⟨k + 1, by omega, by go_num, HT2.out⟩
            case measure => simp [intOf]; omega
          · gi_wp2
            refine bodyPost_ret (results_none rfl _ _ _) rfl ?_
            exact ⟨⟨_, rfl⟩, .inr ⟨_, HPE.out, hJx7⟩⟩
        · have HN1 : Hid (stepsK n.arcs am v (k + 1) = stepsK n.arcs am v k) := by show _ = _; rw [HNX.out, HMK.out, if_neg hrm, List.append_nil]
          have drm : decide (0 < y) = false := decide_eq_false hrm
          have HT2 : Hid (J (stepsK n.arcs am v (k + 1)) W4 ∧ RI w W4 n (.map (some B)) sa am v V) := by rw [HN1.out]; exact HK4.out
          gi_wp2
          repeat (refine ⟨fun _ h => (by cases h), ?_⟩; gi_wp2)
          go_roundw
          case rel => exact ⟨k + 1, by omega, by go_num, HT2.out⟩
          case measure => simp [intOf]; omega
      · have dt : (x.t == v) = false := beq_eq_false_iff_ne.2 ht
        have HMK : Hid (mkStep x (j : Int) y v = ⟨(j : Int), false, x.t, x.c - y⟩) := by show _ = _; unfold mkStep; rw [if_neg ht]
        clear ht
        gi_upto_region 7 with (fail)
        refine wpIn_abs (fun W => Hid (Blk W G 63 #[.int .i64 (j : Int), .bool false, .int .i64 x.t, .int .i64 (x.c - y)]) ∧ Hid (Same noB wr W)) ⟨HG.out, HS.out⟩ ?_
        clear HS HG c2 c3 a0 e0 e1 HE
        rintro W4 ⟨HG, HS⟩
        have g0 : W4.cell? ⟨G, 0, none⟩ = some (.int .i64 (j : Int)) := HG.out.cell 0
        have g1 : W4.cell? ⟨G, 1, none⟩ = some (.bool false) := HG.out.cell 1
        have g2 : W4.cell? ⟨G, 2, none⟩ = some (.int .i64 x.t) := HG.out.cell 2
        have g3 : W4.cell? ⟨G, 3, none⟩ = some (.int .i64 (x.c - y)) := HG.out.cell 3
        have HK4 : Hid (J (stepsK n.arcs am v k) W4 ∧ RI w W4 n (.map (some B)) sa am v V) := ⟨HJ.out _ _ _ none HK.out.1 (HS.out.to_grown (fun _ _ x => x.elim)) (fun r e => by cases e), HK.out.2.keep HS.out⟩
        clear HS HG HK
        by_cases hrm : 0 < x.c - y
        · have HN1 : Hid (stepsK n.arcs am v (k + 1) = stepsK n.arcs am v k ++ [⟨(j : Int), false, x.t, x.c - y⟩]) := by show _ = _; rw [HNX.out, HMK.out, if_pos hrm]
          have hpre := HPR.out
          rw [HN1.out] at hpre
          obtain ⟨fn, tmps, assign, body, hy, hR⟩ := HY.out (stepsK n.arcs am v k) ⟨(j : Int), false, x.t, x.c - y⟩ W4 HK4.out.1 hpre
          have HPE := Lib.hid hpre
          have hy' : (Instr.yield l #[.agg #[.int .i64 (j : Int), .bool false, .int .i64 x.t, .int .i64 (x.c - y)]]).run Try.prog W4 = .ok (.round l fn tmps assign body) W4 := hy
          have HR2 := Lib.hid hR
          clear hy hR hpre
          gi_wp2
          refine HR2.out.mono ?_
          rintro e W7 (⟨rfl, hJ7, hk7⟩ | ⟨rfl, hJx7⟩)
          · have HT2 : Hid (J (stepsK n.arcs am v (k + 1)) W7 ∧ RI w W7 n (.map (some B)) sa am v V) := ⟨by rw [HN1.out]; exact hJ7, HK4.out.2.kp hk7⟩
            clear hJ7 hk7 g0 g1 g2 g3
            gi_wp2
            go_roundw
            case rel => exact ⟨k + 1, by omega, by go_num, HT2.out⟩
            case measure => simp [intOf]; omega
          · gi_wp2
            refine bodyPost_ret (results_none rfl _ _ _) rfl ?_
            exact ⟨⟨_, rfl⟩, .inr ⟨_, HPE.out, hJx7⟩⟩
        · have HN1 : Hid (stepsK n.arcs am v (k + 1) = stepsK n.arcs am v k) := by show _ = _; rw [HNX.out, HMK.out, if_neg hrm, List.append_nil]
          have drm : decide (0 < x.c - y) = false := decide_eq_false hrm
          have HT2 : Hid (J (stepsK n.arcs am v (k + 1)) W4 ∧ RI w W4 n (.map (some B)) sa am v V) := by rw [HN1.out]; exact HK4.out
          gi_wp2
          repeat (refine ⟨fun _ h => (by cases h), ?_⟩; gi_wp2)
          go_roundw
          case rel => exact ⟨k + 1, by omega, by go_num, HT2.out⟩
          case measure => simp [intOf]; omega
    · obtain rfl : k = m := by omega
      gi_wp2
      go_end0
      exact ⟨⟨_, rfl⟩, .inl ⟨_, by rw [← stepsK_all, HMM.out], HK.out.1⟩⟩
end Go.Proofs.Ytpalacfgpcpppaa
