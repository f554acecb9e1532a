/- Layer 10: Max of the program. -/
import Derived.Test.YtpalacfgpcpppaaFloP
import Derived.Test.YtpalacfgpcpppaaFloB
import Derived.Test.YtpalacfgpcpppaaFloK
import Derived.Test.YtpalacfgpcpppaaFloL
import Derived.Laws.MakeOwn
namespace Go.Proofs.Ytpalacfgpcpppaa
open Go Go.RowKit Go.Maps
set_option maxRecDepth 100000

theorem madeI (m : Nat) : madeCells (Value.int .i64 0).cells m = (icells (List.replicate m 0)).toArray := by
  apply Array.toList_inj.1
  show (madeCells #[.int .i64 0] m).toList = _
  rw [toList_madeCells_one]
  simp [icells]
theorem madeB (m : Nat) : madeCells (Value.bool false).cells m = (bcells (List.replicate m false)).toArray := by
  apply Array.toList_inj.1
  show (madeCells #[.bool false] m).toList = _
  rw [toList_madeCells_one]
  simp [bcells]
theorem make26 (m : Nat) (hm : m ≤ 1000000) (w : World) : (Instr.makeSlice 26 (.int .i64 (m : Int)) (.int .i64 (m : Int))).run Try.prog w = .ok (.slice (some ⟨w.heap.size, 0, none⟩) m m) (w.alloc (.cells (icells (List.replicate m 0)).toArray 2)) := by
  obtain ⟨i0, hi, hz0, hz1, hz2⟩ := info_parts (show (Try.prog.info? 2).map (fun i => (i.zero, i.size, i.bytes)) = some (some (.int .i64 0), 1, 8) from by kernel_rfl)
  have h := run_make (P := Try.prog) w 26 2 i0 (.int .i64 0) Try.underlying26 hi hz0 .i64 .i64 (m : Int) (m : Int) (by omega) (by omega) (by rw [hz2]; omega) (by omega)
  rw [hz1, Int.toNat_natCast, Nat.mul_one, madeI] at h
  exact h
theorem make27 (m : Nat) (hm : m ≤ 1000000) (w : World) : (Instr.makeSlice 27 (.int .i64 (m : Int)) (.int .i64 (m : Int))).run Try.prog w = .ok (.slice (some ⟨w.heap.size, 0, none⟩) m m) (w.alloc (.cells (bcells (List.replicate m false)).toArray 4)) := by
  obtain ⟨i0, hi, hz0, hz1, hz2⟩ := info_parts (show (Try.prog.info? 4).map (fun i => (i.zero, i.size, i.bytes)) = some (some (.bool false), 1, 1) from by kernel_rfl)
  have h := run_make (P := Try.prog) w 27 4 i0 (.bool false) Try.underlying27 hi hz0 .i64 .i64 (m : Int) (m : Int) (by omega) (by omega) (by rw [hz2]; omega) (by omega)
  rw [hz1, Int.toNat_natCast, Nat.mul_one, madeB] at h
  exact h
theorem three (W : World) (t1 t2 t3 : TypeId) (c1 c2 c3 : Array Value) : Blk (((W.alloc (.cells c1 t1)).alloc (.cells c2 t2)).alloc (.cells c3 t3)).drew W.heap.size t1 c1 ∧ Blk (((W.alloc (.cells c1 t1)).alloc (.cells c2 t2)).alloc (.cells c3 t3)).drew (W.heap.size + 1) t2 c2 ∧
    Blk (((W.alloc (.cells c1 t1)).alloc (.cells c2 t2)).alloc (.cells c3 t3)).drew (W.heap.size + 1 + 1) t3 c3 ∧ Same noB W (((W.alloc (.cells c1 t1)).alloc (.cells c2 t2)).alloc (.cells c3 t3)).drew := by
  have h2 := Blk.new (W.alloc (.cells c1 t1)) t2 c2
  have h3 := Blk.new ((W.alloc (.cells c1 t1)).alloc (.cells c2 t2)) t3 c3
  simp only [World.size_alloc] at h2 h3
  exact ⟨((Blk.new W t1 c1).alloc _).alloc _, h2.alloc _, h3, ((((Same.refl noB W).alloc _).alloc _).alloc _).drew⟩
theorem field63 (sa sd sr : Int) (sb : Bool) (w : World) : (Instr.field 63 (.agg #[.int .i64 sa, .bool sb, .int .i64 sd, .int .i64 sr]) 3).run Try.prog w = .ok (.int .i64 sr) w := by
  first
  | (kernel_rfl; done)
  | simp [Instr.field, run_underlying Try.underlying63]
theorem bcells_set (l : List Bool) (j : Nat) (x : Bool) : (bcells l).toArray.setIfInBounds j (.bool x) = (bcells (l.set j x)).toArray := by
  rw [List.setIfInBounds_toArray]
  unfold bcells
  rw [List.map_set]
theorem res_ct {fn : Func} {i j : Nat} (hres : fn.results = #[.cell i 29, .tmp j]) {tmps : Array Value} {w : World} {g : Nat} {a b c v : Value} (hb : Blk w g 29 #[a, b, c]) (h4 : tmps.getD i undef = .pointer (some ⟨g, 0, none⟩)) (h5 : tmps.getD j undef = v) :
    (results fn tmps).run Try.prog w = .ok (.tuple #[.agg #[a, b, c], v]) w := by
  have c0 : w.cell? ⟨g, 0, none⟩ = some a := hb.cell 0
  have c1 : w.cell? ⟨g, 1, none⟩ = some b := hb.cell 1
  have c2 : w.cell? ⟨g, 2, none⟩ = some c := hb.cell 2
  simp only [Array.getD_eq_getD_getElem?] at h4 h5
  simp [results, hres, go_sem, h4, h5, c0, c1, c2]
theorem AdjM.same {w Wa W : World} {v : Value} {arcs : List ArcV} (h : AdjM w Wa v arcs) {S : Nat → Prop} (hs : Same S Wa W) (hS : ∀ b, b < Wa.heap.size → S b → b < w.heap.size) : AdjM w W v arcs := by
  obtain ⟨B, nm, f, h1, h2⟩ := h
  refine ⟨B, nm, f, h1, h2.map.same hs (fun e => ?_), fun x => own_same (h2.row x) hs (fun g hg e => ?_), h2.apart, h2.new, h2.lb⟩
  · have h3 := hS B h2.map.lt e
    have h4 := h2.lb
    omega
  · have h3 := hS g (own_lt (h2.row x) hg) e
    have h4 := h2.new x g hg
    omega
def loB (lo : Nat) : Nat → Prop := fun b => b < lo
/-- Max between two rounds: the network's box, the result's, the flow's, the rows of amounts and side. -/
structure MxL (w Wa W : World) (n : NetV) (N F Y Ga Gs k lo : Nat) (val : Int) (am : List Int) : Prop where
  since : Same noB w W
  late : Same (loB lo) Wa W
  nb : Blk W N 24 #[.int .i64 n.nodes, .int .i64 n.source, .int .i64 n.sink, .slice n.sl.addr n.sl.len n.sl.cap, .int .i64 n.hold]
  fb : Blk W F 29 #[.int .i64 val, .slice (some ⟨Ga, 0, none⟩) am.length am.length, .slice (some ⟨Gs, 0, none⟩) k k]
  ga : Blk W Ga 2 (icells am).toArray
  gs : Blk W Gs 4 (bcells (List.replicate k false)).toArray
  yb : Blk W Y 29 #[.int .i64 0, .slice none 0 0, .slice none 0 0]
  fy : F ≠ Y
  lo : F < lo ∧ Ga < lo ∧ Gs < lo ∧ Y < lo ∧ N < lo ∧ lo ≤ Wa.heap.size ∧ w.heap.size ≤ F ∧ w.heap.size ≤ Ga ∧ w.heap.size ≤ Gs ∧ w.heap.size ≤ Y
section
variable {w Wa W W' : World} {n : NetV} {N F Y Ga Gs k lo : Nat} {val : Int} {am : List Int}
theorem MxL.keep (h : MxL w Wa W n N F Y Ga Gs k lo val am) (hs : Same noB W W') : MxL w Wa W' n N F Y Ga Gs k lo val am :=
  ⟨h.since.trans' hs, h.late.trans' hs.of_no, h.nb.same hs (fun x => x), h.fb.same hs (fun x => x), h.ga.same hs (fun x => x), h.gs.same hs (fun x => x), h.yb.same hs (fun x => x), h.fy, h.lo⟩
/-- A new box has been written. -/
theorem MxL.box (h : MxL w Wa W n N F Y Ga Gs k lo val am) {R : Nat} (hs : Same (oneB R) W W') (hR : Wa.heap.size ≤ R) : MxL w Wa W' n N F Y Ga Gs k lo val am := by
  have hl := h.lo
  have hne : ∀ g, g < lo → ¬ oneB R g := fun g hg e => by have h3 : g = R := e; omega
  exact ⟨h.since.trans hs (fun b hb e => by have h3 : b = R := e; omega), h.late.trans hs (fun b hb e => by have h3 : b = R := e; omega), h.nb.same hs (hne _ hl.2.2.2.2.1), h.fb.same hs (hne _ hl.1), h.ga.same hs (hne _ hl.2.1), h.gs.same hs (hne _ hl.2.2.1), h.yb.same hs (hne _ hl.2.2.2.1), h.fy, h.lo⟩
/-- The amounts have been written. -/
theorem MxL.amounts (h : MxL w Wa W n N F Y Ga Gs k lo val am) {am' : List Int} (hl : am'.length = am.length) (hs : Same (oneB Ga) W W') (hb : Blk W' Ga 2 (icells am').toArray) : MxL w Wa W' n N F Y Ga Gs k lo val am' := by
  have hlo := h.lo
  exact ⟨h.since.trans hs (fun b hb e => by have h3 : b = Ga := e; omega), h.late.trans hs (fun b hb e => by have h3 : b = Ga := e; show b < lo; omega), h.nb.same hs (fun e => h.nb.ne_ h.ga (by decide) e), by rw [hl]; exact h.fb.same hs (fun e => h.fb.ne_ h.ga (by decide) e), hb, h.gs.same hs (fun e => h.gs.ne_ h.ga (by decide) e), h.yb.same hs (fun e => h.yb.ne_ h.ga (by decide) e), h.fy, h.lo⟩
/-- The value has been written. -/
theorem MxL.value (h : MxL w Wa W n N F Y Ga Gs k lo val am) (v' : Int) : MxL w Wa (W.setCell ⟨F, 0, none⟩ (.int .i64 v')) n N F Y Ga Gs k lo v' am := by
  have hlo := h.lo
  have hs : Same (oneB F) W (W.setCell ⟨F, 0, none⟩ (.int .i64 v')) := (Same.refl _ W).set1 0 _
  exact ⟨h.since.trans hs (fun b hb e => by have h3 : b = F := e; omega), h.late.trans hs (fun b hb e => by have h3 : b = F := e; show b < lo; omega), h.nb.same hs (fun e => h.nb.ne_ h.fb (by decide) e), h.fb.set_ 0 _, h.ga.same hs (fun e => h.ga.ne_ h.fb (by decide) e), h.gs.same hs (fun e => h.gs.ne_ h.fb (by decide) e), h.yb.same hs (fun e => h.fy (show Y = F from e).symm), h.fy, h.lo⟩
end
set_option maxHeartbeats 16000000 in
theorem max_ok {w : World} {n : NetV} (h : NetIs w n) (hv : n.validB = true) :
    Calls Try.prog 10 #[n.val] w fun e w' => ∃ f : FlowV, e = .returned (.tuple #[f.val, .int .i64 0]) ∧ FlowIs w' f ∧ MaxIs n f.am f.value ∧ f.side = sideL n f.am ∧ Same noB w w' := by
  have HB := Lib.hid h
  have hok := NetV.validB_ok hv
  have HOK := Lib.hid hok
  have HV := Lib.hid hv
  have HNL : Hid (n.sl.len = n.arcs.length) := h.len
  have hml : n.sl.len ≤ 4000 := by rw [h.len]; exact hok.len
  obtain ⟨k, hk⟩ : ∃ k : Nat, n.nodes = (k : Int) := ⟨n.nodes.toNat, by have := hok.nodes; omega⟩
  have hkb : k ≤ 400 := by have := hok.nodes; omega
  have HKN := Lib.hid hk
  have hZ := valid_any (HB.out.keep (w' := (w.alloc (.cells #[.int .i64 n.nodes, .int .i64 n.source, .int .i64 n.sink, .slice n.sl.addr n.sl.len n.sl.cap, .int .i64 n.hold] 24)).alloc (.cells #[.int .i64 0, .slice none 0 0, .slice none 0 0] 29)) (((Same.refl noB w).alloc _).alloc _))
  rw [HV.out] at hZ
  unfold NetV.val at hZ ⊢
  have HZ := Lib.hid hZ
  clear h hok hv hZ hk
  go_enter Try.func10, Try.ntmps10
  go_wp2_with fail
  (with_reducible refine Calls.mono HZ.out ?_)
  clear HZ
  rintro r W0 ⟨rfl, hs⟩
  have HS : Hid (Same noB w W0) := (((Same.refl noB w).alloc _).alloc _).trans' hs
  have HNB : Hid (Blk W0 w.heap.size 24 #[.int .i64 n.nodes, .int .i64 n.source, .int .i64 n.sink, .slice n.sl.addr n.sl.len n.sl.cap, .int .i64 n.hold]) := ((Blk.new w 24 _).alloc _).same hs (fun x => x)
  have HY : Hid (Blk W0 (w.heap.size + 1) 29 #[.int .i64 0, .slice none 0 0, .slice none 0 0]) := by
    have h1 := Blk.new (w.alloc (.cells #[.int .i64 n.nodes, .int .i64 n.source, .int .i64 n.sink, .slice n.sl.addr n.sl.len n.sl.cap, .int .i64 n.hold] 24)) 29 #[.int .i64 0, .slice none 0 0, .slice none 0 0]
    rw [World.size_alloc] at h1
    exact h1.same hs (fun x => x)
  clear hs
  obtain ⟨N, hN⟩ : ∃ N, w.heap.size = N := ⟨_, rfl⟩
  obtain ⟨Y, hY⟩ : ∃ Y, N + 1 = Y := ⟨_, rfl⟩
  rw [hN] at HNB HY
  rw [hY] at HY
  rw [hN, hY]
  have HNY := Lib.hid (And.intro hN hY)
  clear hN hY
  go_upto_region 3 with (fail)
  have n0 : W0.cell? ⟨N, 0, none⟩ = some (.int .i64 (k : Int)) := by rw [← HKN.out]; exact HNB.out.cell 0
  have n3 : W0.cell? ⟨N, 3, none⟩ = some (.slice n.sl.addr n.sl.len n.sl.cap) := HNB.out.cell 3
  have l0 := HNB.out.lt
  go_cut [4] from 16 to 23 (fun f wx => ∃ F Ga Gs, f = .pointer (some ⟨F, 0, none⟩) ∧ Blk wx F 29 #[.int .i64 0, .slice (some ⟨Ga, 0, none⟩) n.sl.len n.sl.len, .slice (some ⟨Gs, 0, none⟩) k k] ∧ Blk wx Ga 2 (icells (List.replicate n.sl.len 0)).toArray ∧ Blk wx Gs 4 (bcells (List.replicate k false)).toArray ∧ Same noB W0 wx ∧ W0.heap.size ≤ Ga ∧ W0.heap.size ≤ Gs ∧ W0.heap.size ≤ F)
  case first =>
    have m1 := fun w => make26 n.sl.len (by omega) w
    have m2 := fun w => make27 k (by omega) w
    go_region
    all_goals
      go_wp2_with fail
      go_meet
      have hT := three W0
      first
        | exact ⟨_, _, _, rfl, (hT _ _ _ _ _ _).2.2.1, (hT _ _ _ _ _ _).1, (hT _ _ _ _ _ _).2.1, (hT _ _ _ _ _ _).2.2.2, by omega, by omega, by omega⟩
        | exact ⟨_, _, _, rfl, (hT _ _ _ _ _ _).2.2.1, (hT _ _ _ _ _ _).2.1, (hT _ _ _ _ _ _).1, (hT _ _ _ _ _ _).2.2.2, by omega, by omega, by omega⟩
        | exact ⟨_, _, _, rfl, (hT _ _ _ _ _ _).2.1, (hT _ _ _ _ _ _).1, (hT _ _ _ _ _ _).2.2.1, (hT _ _ _ _ _ _).2.2.2, by omega, by omega, by omega⟩
        | exact ⟨_, _, _, rfl, (hT _ _ _ _ _ _).2.1, (hT _ _ _ _ _ _).2.2.1, (hT _ _ _ _ _ _).1, (hT _ _ _ _ _ _).2.2.2, by omega, by omega, by omega⟩
        | exact ⟨_, _, _, rfl, (hT _ _ _ _ _ _).1, (hT _ _ _ _ _ _).2.1, (hT _ _ _ _ _ _).2.2.1, (hT _ _ _ _ _ _).2.2.2, by omega, by omega, by omega⟩
        | exact ⟨_, _, _, rfl, (hT _ _ _ _ _ _).1, (hT _ _ _ _ _ _).2.2.1, (hT _ _ _ _ _ _).2.1, (hT _ _ _ _ _ _).2.2.2, by omega, by omega, by omega⟩
  case rest =>
    obtain ⟨F, Ga, Gs, rfl, hF, hGa, hGs, hs1, g1, g2, g3⟩ := hcut
    have hms : Same noB w wc := HS.out.trans' hs1
    have hz := around_any (HB.out.keep hms) HV.out
    unfold NetV.val at hz
    have HZ := Lib.hid hz
    have hnb1 := HNB.out.same hs1 (fun x => x)
    have n0 : wc.cell? ⟨N, 0, none⟩ = some (.int .i64 n.nodes) := hnb1.cell 0
    have n1 : wc.cell? ⟨N, 1, none⟩ = some (.int .i64 n.source) := hnb1.cell 1
    have n2 : wc.cell? ⟨N, 2, none⟩ = some (.int .i64 n.sink) := hnb1.cell 2
    have n3 : wc.cell? ⟨N, 3, none⟩ = some (.slice n.sl.addr n.sl.len n.sl.cap) := hnb1.cell 3
    have n4 : wc.cell? ⟨N, 4, none⟩ = some (.int .i64 n.hold) := hnb1.cell 4
    have HFB := Lib.hid (And.intro hF (And.intro hGa hGs))
    have HGG := Lib.hid (And.intro g1 (And.intro g2 g3))
    have HYB := Lib.hid (HY.out.same hs1 (fun x => x))
    have HN1 := Lib.hid hnb1
    have HMS := Lib.hid hms
    have HYL : Hid (Y < W0.heap.size ∧ N < W0.heap.size ∧ w.heap.size ≤ W0.heap.size) := ⟨HY.out.lt, HNB.out.lt, HS.out.size⟩
    clear hF hGa hGs hs1 g1 g2 g3 hz hnb1 hms HNB HY HS
    go_wp2_with fail
    (with_reducible refine Calls.mono HZ.out ?_)
    clear HZ n0 n1 n2 n3 n4
    rintro r Wa ⟨av, rfl, hadj, hsa⟩
    obtain ⟨Ba, nma, fa, rfl, ha9⟩ := hadj
    have HADJ : Hid (AdjM wc Wa (.map (some Ba)) n.arcs) := ⟨Ba, nma, fa, rfl, ha9⟩
    obtain ⟨m, hm⟩ : ∃ m, n.sl.len = m := ⟨_, rfl⟩
    rw [hm] at HFB
    have hlo : Hid (wc.heap.size ≤ Wa.heap.size) := hsa.size
    have HML : Hid (MxL w Wa Wa n N F Y Ga Gs k wc.heap.size 0 (List.replicate n.arcs.length 0)) := by
      have e1 : n.arcs.length = m := by rw [← hm]; exact HNL.out.symm
      have b1 := HFB.out.1.same hsa (fun x => x)
      have b2 := HFB.out.2.1.same hsa (fun x => x)
      have b3 := HFB.out.2.2.same hsa (fun x => x)
      have hg := HGG.out
      have hyl := HYL.out
      have hny := HNY.out
      refine ⟨HMS.out.trans' hsa, Same.refl _ _, HN1.out.same hsa (fun x => x), by rw [List.length_replicate, e1]; exact b1, by rw [e1]; exact b2, b3, HYB.out.same hsa (fun x => x), fun e => by omega, ⟨HFB.out.1.lt, HFB.out.2.1.lt, HFB.out.2.2.lt, HYB.out.lt, HN1.out.lt, hsa.size, by omega, by omega, by omega, by omega⟩⟩
    clear ha9 hsa HFB HYB HN1 hm HGG HYL hlo
    obtain ⟨lo, hlo⟩ : ∃ lo, wc.heap.size = lo := ⟨_, rfl⟩
    rw [hlo] at HML
    have HLO := Lib.hid hlo
    clear hlo
    go_upto_region 5 with (fail)
    go_loopg [6] (4398046511104000) (fun gk _ wr => ∃ (val : Int) (am : List Int), Hid (MxL w Wa wr n N F Y Ga Gs k lo val am) ∧ Hid (IsFl n am val) ∧ Hid ((gk : Int) + val = 4398046511104000) ∧ Hid (∀ am' v', MaxRun n am val am' v' → MaxRun n (List.replicate n.arcs.length 0) 0 am' v'))
    case atStart => exact ⟨0, _, HML.out, IsFl.zero HOK.out, rfl, fun _ _ h => h⟩
    case round =>
      clear HML
      obtain ⟨val, am, HML, HFL, HGK, HRN⟩ := hrel
      have hsame : Same noB w wr := HML.out.since
      have hla : am.length ≤ 4000 := by rw [HFL.out.cap.1]; exact HOK.out.len
      have HAR : Hid (AdjR wr (.map (some Ba)) n.arcs) := (HADJ.out.same HML.out.late (fun b _ e => by have := HLO.out; have e2 : b < lo := e; omega)).r
      have HIA : Hid (IsI wr noB ⟨some ⟨Ga, 0, none⟩, am.length, am.length⟩ am) := ⟨rfl, Rd.of_blk HML.out.ga (fun x => x) (icells_len am) (Nat.le_refl _) (by simp only [maxLen]; omega)⟩
      have hz := search_any (HB.out.keep hsame) HOK.out HAR.out HIA.out (HFL.out.cap.small HOK.out) HFL.out.cap.1
      unfold NetV.val at hz
      dsimp only at hz
      have HZ := Lib.hid hz
      have n0 : wr.cell? ⟨N, 0, none⟩ = some (.int .i64 n.nodes) := HML.out.nb.cell 0
      have n1 : wr.cell? ⟨N, 1, none⟩ = some (.int .i64 n.source) := HML.out.nb.cell 1
      have n2 : wr.cell? ⟨N, 2, none⟩ = some (.int .i64 n.sink) := HML.out.nb.cell 2
      have n3 : wr.cell? ⟨N, 3, none⟩ = some (.slice n.sl.addr n.sl.len n.sl.cap) := HML.out.nb.cell 3
      have n4 : wr.cell? ⟨N, 4, none⟩ = some (.int .i64 n.hold) := HML.out.nb.cell 4
      have f1 : wr.cell? ⟨F, 1, none⟩ = some (.slice (some ⟨Ga, 0, none⟩) am.length am.length) := HML.out.fb.cell 1
      clear hz hsame
      go_wp2_with fail
      (with_reducible refine Calls.mono HZ.out ?_)
      clear HZ n0 n1 n2 n3 n4 f1
      rintro r W2 ⟨B, nm, rfl, hmap, _, hs2⟩
      have HMP := Lib.hid hmap
      have HWA : Hid (Wa.heap.size ≤ W2.heap.size) := Nat.le_trans HML.out.late.size hs2.size
      replace HML := Lib.hid (HML.out.keep hs2)
      clear hmap hs2 HAR HIA
      go_upto_region 6 with (fail)
      refine wp_abs (fun W => Hid (MxL w Wa W n N F Y Ga Gs k lo val am) ∧ Hid (MapF eI W B nm (pv (search n am))) ∧ Hid (Blk W W2.heap.size 60 #[.map (some B)])) ⟨HML.out.keep ((Same.refl noB W2).alloc _), HMP.out.same ((Same.refl noB W2).alloc _) (fun x => x), Blk.new W2 60 _⟩ ?_
      clear HML HMP
      rintro W3 ⟨HML, HMP, HMB⟩
      obtain ⟨M, hM⟩ : ∃ M, W2.heap.size = M := ⟨_, rfl⟩
      rw [hM] at HMB HWA ⊢
      clear hM
      have m0 : W3.cell? ⟨M, 0, none⟩ = some (.map (some B)) := HMB.out.cell 0
      have n2 : W3.cell? ⟨N, 2, none⟩ = some (.int .i64 n.sink) := HML.out.nb.cell 2
      have hlk := HMP.out.lookup Try.underlying60 (zero63 W3) (k := n.sink) (inI64_node HOK.out HOK.out.sink) true
      cases hp : search n am n.sink with
      | none =>
        have hl1 : (Instr.lookup 60 (.map (some B)) (.int .i64 n.sink) true).run Try.prog W3 = .ok (.tuple #[.agg #[.int .i64 0, .bool false, .int .i64 0, .int .i64 0], .bool false]) W3 := by
          unfold pv at hlk
          rw [hp] at hlk
          exact hlk
        have HPN := Lib.hid hp
        clear hlk hp
        go_upto_region 8 with (fail)
        refine wp_abs (fun W => Hid (Same noB W3 W)) ((Same.refl noB W3).alloc _) ?_
        rintro W4 HS4
        replace HML := Lib.hid (HML.out.keep HS4.out)
        replace HMP := Lib.hid (HMP.out.same HS4.out (fun x => x))
        replace HMB := Lib.hid (HMB.out.same HS4.out (fun x => x))
        replace m0 : W4.cell? ⟨M, 0, none⟩ = some (.map (some B)) := HMB.out.cell 0
        clear HS4 n2 hl1
        go_wp2_with (at_range; refine wpL_range rfl _ 60 63 rfl Try.underlying60 rfl HMP.out ?_; intro W5 cnt hit0 hc0 hs0 hz0)
        go_frame
        have HIT := Lib.hid hit0
        have HTL : Hid (w.heap.size ≤ W4.heap.size) := HML.out.since.size
        replace HML := Lib.hid (HML.out.keep hs0)
        clear hit0 hc0 hs0 hz0 m0
        obtain ⟨T, hT⟩ : ∃ T, W4.heap.size = T := ⟨_, rfl⟩
        rw [hT] at HIT HTL ⊢
        clear hT
        go_loopg [9] (cnt) (fun gc _ wi => ∃ (done : Int → Bool) (L : List Bool), Hid (MapIt eI wi B T (pv (search n am)) done gc) ∧ Hid (Blk wi Gs 4 (bcells L).toArray) ∧ Hid (L.length = k ∧ (∀ i : Nat, i < k → L[i]? = some (done (i : Int))) ∧ ∀ x, done x = true → search n am x ≠ none) ∧ Hid (Blk wi F 29 #[.int .i64 val, .slice (some ⟨Ga, 0, none⟩) am.length am.length, .slice (some ⟨Gs, 0, none⟩) k k]) ∧ Hid (Blk wi Y 29 #[.int .i64 0, .slice none 0 0, .slice none 0 0]) ∧ Hid (Blk wi Ga 2 (icells am).toArray) ∧ Hid (Same noB w wi) ∧ Hid (B ≠ Gs ∧ T ≠ Gs ∧ w.heap.size ≤ T ∧ w.heap.size ≤ Gs))
        case atStart => exact ⟨_, _, HIT.out, HML.out.gs, ⟨by simp, fun i hi => by simp [hi], fun x hx => by cases hx⟩, HML.out.fb, HML.out.yb, HML.out.ga, HML.out.since, ⟨(HIT.out.ne_blk HML.out.gs).1, (HIT.out.ne_blk HML.out.gs).2, HTL.out, by have := HML.out.lo; omega⟩⟩
        case round =>
          clear HIT HML HMP HMB
          obtain ⟨done, L, HI, HG, HL, HF, HY, HGA, HS, HNE⟩ := hrel
          go_wp2_with (at_next; refine wpL_next rfl _ rfl rfl HI.out ?_ ?_)
          · intro _ hall
            have HFI : Hid (L = sideL n am) := by
              show L = _
              refine List.ext_getElem? (fun i => ?_)
              obtain ⟨h1, h2, h3⟩ := HL.out
              by_cases hi : i < k
              · rw [h2 i hi]
                unfold sideL
                rw [List.getElem?_map, List.getElem?_range (by have := HKN.out; omega)]
                show some (done (i : Int)) = some _
                congr 1
                show done (i : Int) = (search n am (i : Int)).isSome
                cases hs : search n am (i : Int) with
                | none =>
                  cases hd : done (i : Int) with
                  | false => rfl
                  | true => exact absurd hs (h3 _ hd)
                | some x =>
                  rw [hall (i : Int) x.val (by unfold pv; rw [hs]; rfl)]
                  rfl
              · rw [List.getElem?_eq_none (by omega), List.getElem?_eq_none (by rw [sideL_len]; have := HKN.out; omega)]
            have f0 : wr.cell? ⟨F, 0, none⟩ = some (.int .i64 val) := HF.out.cell 0
            have f1 : wr.cell? ⟨F, 1, none⟩ = some (.slice (some ⟨Ga, 0, none⟩) am.length am.length) := HF.out.cell 1
            have f2 : wr.cell? ⟨F, 2, none⟩ = some (.slice (some ⟨Gs, 0, none⟩) k k) := HF.out.cell 2
            have HST := Lib.hid (row_stored HY.out #[.int .i64 val, .slice (some ⟨Ga, 0, none⟩) am.length am.length, .slice (some ⟨Gs, 0, none⟩) k k])
            clear hall
            go_wp2_with (refine wpList_store_row rfl 29 _ _ rfl Y #[.int .i64 val, .slice (some ⟨Ga, 0, none⟩) am.length am.length, .slice (some ⟨Gs, 0, none⟩) k k] rfl rfl 29 _ HY.out (by kernel_rfl) rfl (by kernel_rfl) ?_)
            (try simp only [Exit.inBlock, Exit.then])
            refine bodyPost_ret (res_ct rfl HST.out.1 rfl rfl) rfl ?_
            have hne := HNE.out
            have hkn := HKN.out
            have hsY : ∀ g, Blk wr g 2 (icells am).toArray → g ≠ Y := fun g hg e => hg.ne_ HY.out (by decide) e
            have hGa2 : Blk (wr.setRow Y #[.int .i64 val, .slice (some ⟨Ga, 0, none⟩) am.length am.length, .slice (some ⟨Gs, 0, none⟩) k k]) Ga 2 (icells am).toArray := HGA.out.same HST.out.2 (fun e => hsY Ga HGA.out e)
            have hGs2 : Blk (wr.setRow Y #[.int .i64 val, .slice (some ⟨Ga, 0, none⟩) am.length am.length, .slice (some ⟨Gs, 0, none⟩) k k]) Gs 4 (bcells L).toArray := HG.out.same HST.out.2 (fun e => HG.out.ne_ HY.out (by decide) e)
            refine ⟨⟨val, am, L, ⟨some ⟨Ga, 0, none⟩, am.length, am.length⟩, ⟨some ⟨Gs, 0, none⟩, k, k⟩⟩, rfl, ⟨⟨rfl, Rd.of_blk hGa2 (fun x => x) (icells_len am) (Nat.le_refl _) (by simp only [maxLen]; omega)⟩, ⟨HL.out.1.symm, Rd.of_blk hGs2 (fun x => x) (by unfold bcells; rw [List.length_map, HL.out.1]; simp) (Nat.le_refl _) (by simp only [maxLen]; omega)⟩⟩, ⟨HRN.out _ _ (.done HPN.out), HFL.out, HPN.out⟩, HFI.out, HS.out.trans HST.out.2 (fun b hb e => by have h3 : b = Y := e; have := HNY.out; omega)⟩
          · intro x v w1 cnt1 hf hd hin hlt hit1 hg1 hen
            obtain ⟨s, hs, rfl⟩ : ∃ s, search n am x = some s ∧ v = s.val := by
              unfold pv at hf
              cases hs : search n am x with
              | none => rw [hs] at hf; cases hf
              | some s => rw [hs] at hf; injection hf with hf; exact ⟨s, rfl, hf.symm⟩
            have hxr := search_rng HOK.out am (v := x) (by rw [hs]; simp)
            obtain ⟨i, rfl⟩ : ∃ i : Nat, x = (i : Int) := ⟨x.toNat, by omega⟩
            have hik : i < k := by have := HKN.out; omega
            obtain ⟨sa, sb, sd, sr⟩ := s
            have he : eI.enc (i : Int) = .int .i64 (i : Int) := rfl
            rw [he] at hen ⊢
            unfold StV.val at hen ⊢
            dsimp only at hen ⊢
            have hsT : Same (oneB T) wr w1 := (Same.of_grown hg1).mono (fun b _ e => by injection e)
            have hT : ∀ g t cs, Blk wr g t cs → Blk w1 g t cs := fun g t cs hg => hg.same hsT (fun e => (HI.out.ne_blk hg).2 (show g = T from e).symm)
            have HF1 := Lib.hid (hT _ _ _ HF.out)
            have HG1 := Lib.hid (hT _ _ _ HG.out)
            have HY1 := Lib.hid (hT _ _ _ HY.out)
            have HA1 := Lib.hid (hT _ _ _ HGA.out)
            have HS1 : Hid (Same noB w w1) := HS.out.trans hsT (fun b hb e => by have h3 : b = T := e; have := HNE.out; omega)
            have f2 : w1.cell? ⟨F, 2, none⟩ = some (.slice (some ⟨Gs, 0, none⟩) k k) := HF1.out.cell 2
            have g0 : w1.cell? ⟨Gs, i, none⟩ = some (.bool (done (i : Int))) := by rw [HG1.out.cell]; simpa using bcells_at (HL.out.2.1 i hik)
            have z0 := HG1.out.frozen i
            have hi0 : (0 : Int) ≤ (i : Int) := by omega
            have hi1 : (i : Int) < (k : Int) := by omega
            have HIT1 := Lib.hid hit1
            have HSE : Hid (search n am (i : Int) ≠ none) := by show _ ≠ _; rw [hs]; simp
            clear hs hxr hf hd hin hit1 hg1 he hsT hT HF HG HY HGA HS
            go_wp2_with fail
            go_roundg cnt1
            case measure => exact hlt
            case rel =>
              have hne := HNE.out
              have hdd : (fun x : Int => decide (x = (i : Int)) || done x) = (fun x => if x = (i : Int) then true else done x) := by
                funext x
                by_cases e : x = (i : Int)
                · simp [e]
                · simp [e]
              have hset : Same (oneB Gs) w1 (w1.setCell ⟨Gs, i, none⟩ (.bool true)) := (Same.refl _ w1).set1 i _
              refine ⟨fun y => if y = (i : Int) then true else done y, L.set i true, by have h9 := HIT1.out.same hset (fun e => hne.1 e) (fun e => hne.2.1 e); rw [hdd] at h9; exact h9, ?_, ⟨by rw [List.length_set]; exact HL.out.1, fun j hj => ?_, fun y hy => ?_⟩, HF1.out.same hset (fun e => HF1.out.ne_ HG1.out (by decide) e), HY1.out.same hset (fun e => HY1.out.ne_ HG1.out (by decide) e), HA1.out.same hset (fun e => HA1.out.ne_ HG1.out (by decide) e), HS1.out.trans hset (fun b hb e => by have h3 : b = Gs := e; omega), hne⟩
              · have h1 := HG1.out.set_ i (.bool true)
                rw [bcells_set] at h1
                exact h1
              · show (L.set i true)[j]? = some (if (j : Int) = (i : Int) then true else done (j : Int))
                by_cases e : i = j
                · subst e
                  rw [if_pos rfl, List.getElem?_set_self (by rw [HL.out.1]; exact hj)]
                · rw [if_neg (by omega), List.getElem?_set_ne e]
                  exact HL.out.2.1 j hj
              · have hy' : (if y = (i : Int) then true else done y) = true := hy
                by_cases e : y = (i : Int)
                · rw [e]; exact HSE.out
                · rw [if_neg e] at hy'
                  exact HL.out.2.2 y hy'
      | some s =>
        obtain ⟨sa, sb, sd, sr⟩ := s
        have hl1 : (Instr.lookup 60 (.map (some B)) (.int .i64 n.sink) true).run Try.prog W3 = .ok (.tuple #[.agg #[.int .i64 sa, .bool sb, .int .i64 sd, .int .i64 sr], .bool true]) W3 := by
          unfold pv at hlk
          rw [hp] at hlk
          exact hlk
        have hpath : ∃ (t : List StV), PathTo n (search n am) n.sink (StV.mk sa sb sd sr :: t) ∧ (∀ s ∈ StV.mk sa sb sd sr :: t, ∃ u, s ∈ stepsL n.arcs am u) ∧ (StV.mk sa sb sd sr :: t).Pairwise (fun s t => s.arc ≠ t.arc) := by
          obtain ⟨l, h1, _, h3, h4⟩ := search_path HOK.out am (v := n.sink) (by rw [hp]; simp)
          cases l with
          | nil => exact absurd h1 (Ne.symm HOK.out.ne)
          | cons x t =>
            have e : x = StV.mk sa sb sd sr := by have := h1.2.1.symm.trans hp; injection this
            subst e
            exact ⟨t, h1, h3, h4⟩
        obtain ⟨t, hpt, hst, hpw⟩ := hpath
        have hpos : ∀ s ∈ StV.mk sa sb sd sr :: t, 0 < s.room := fun s hs => by obtain ⟨u, hu⟩ := hst s hs; obtain ⟨_, _, _, _, _, _, _, h⟩ := stepsL_mem hu; exact h
        obtain ⟨rr, hrr⟩ : ∃ rr, minR sr (StV.mk sa sb sd sr :: t) = rr := ⟨_, rfl⟩
        have hrp : 0 < rr := by rw [← hrr]; exact minR_pos _ _ (hpos _ (List.mem_cons_self ..)) hpos
        have hrl : ∀ s ∈ StV.mk sa sb sd sr :: t, rr ≤ s.room := fun s hs => by rw [← hrr]; exact (minR_le _ _).2 s hs
        have hfl2 := aug_flow HOK.out HFL.out hpt (Int.le_of_lt hrp) (fun s hs => ⟨hst s hs, hrl s hs⟩) hpw
        have hbd := hfl2.bound HOK.out
        have hbd0 := HFL.out.bound HOK.out
        have hrb : rr ≤ 1099511627776 := by
          obtain ⟨u, hu⟩ := hst _ (List.mem_cons_self ..)
          obtain ⟨j, a, x, ha, hx, _, he, _⟩ := stepsL_mem hu
          have h1 := HFL.out.cap.2 j a x ha hx
          have h2 := (HOK.out.arcs a (List.mem_of_getElem? ha)).c
          have h3 := hrl _ (List.mem_cons_self ..)
          rw [he] at h3
          unfold mkStep at h3
          split at h3 <;> simp at h3 <;> omega
        have hwr : IntKind.i64.wrap (val + rr) = val + rr := IntWalk.i64_in _ (by omega)
        have HPW := Lib.hid (And.intro hpt (And.intro hst (And.intro hpw hrl)))
        have HFL2 := Lib.hid hfl2
        have HRR := Lib.hid hrr
        have HBD : Hid (val + rr ≤ 4398046511104000) := hbd.2
        have hpz := Lib.hid hp
        clear hlk hp hpt hst hpw hrl hfl2 hbd hpos hrr
        go_upto_region 13 with (fail)
        refine wp_abs (fun W => Hid (Same noB W3 W)) ((Same.refl noB W3).alloc _) ?_
        rintro W4 HS4
        replace HML := Lib.hid (HML.out.keep HS4.out)
        replace HMP := Lib.hid (HMP.out.same HS4.out (fun x => x))
        replace HMB := Lib.hid (HMB.out.same HS4.out (fun x => x))
        clear HS4 n2 m0 hl1
        have m0 : W4.cell? ⟨M, 0, none⟩ = some (.map (some B)) := HMB.out.cell 0
        have n2 : W4.cell? ⟨N, 2, none⟩ = some (.int .i64 n.sink) := HML.out.nb.cell 2
        have hl2 : (Instr.lookup 60 (.map (some B)) (.int .i64 n.sink) false).run Try.prog W4 = .ok (.agg #[.int .i64 sa, .bool sb, .int .i64 sd, .int .i64 sr]) W4 := by
          have h1 := HMP.out.lookup Try.underlying60 (zero63 W4) (k := n.sink) (inI64_node HOK.out HOK.out.sink) false
          unfold pv at h1
          rw [hpz.out] at h1
          exact h1
        have hfd := field63 sa sd sr sb
        go_upto_region 15 with (fail)
        refine wp_abs (fun W => Hid (MxL w Wa W n N F Y Ga Gs k lo val am) ∧ Hid (MxM w W n N M F W4.heap.size Ga B nm (search n am) val sr (.slice (some ⟨Gs, 0, none⟩) k k) am) ∧ Hid (Wa.heap.size ≤ W4.heap.size)) ?_ ?_
        · have hb := Blk.new W4 2 #[.int .i64 sr]
          have hs : Same noB W4 (W4.alloc (.cells #[.int .i64 sr] 2)) := (Same.refl _ _).alloc _
          have hm := HML.out.keep hs
          have hgl := HML.out.ga.lt
          refine ⟨hm, ⟨hm.since, hm.nb, HMB.out.same hs (fun x => x), HMP.out.same hs (fun x => x), hm.fb, hm.ga, hb, by omega, ⟨HML.out.since.size, by have := hm.lo; omega⟩⟩, HML.out.late.size⟩
        clear HML HMP HMB m0 n2 hl2 hfd
        rintro W5 ⟨HML, HMX, HRL⟩
        obtain ⟨R, hR⟩ : ∃ R, W4.heap.size = R := ⟨_, rfl⟩
        rw [hR] at HMX HRL ⊢
        clear hR
        have hZ := follow_min HB.out HOK.out HMX.out HPW.out.1
        rw [HRR.out] at hZ
        have HZ := Lib.hid hZ
        clear hZ
        go_wp2_with fail
        (with_reducible refine Calls.mono HZ.out ?_)
        clear HZ
        rintro e W6 ⟨⟨rv, rfl⟩, hmx6, hs6⟩
        have HMX6 := Lib.hid hmx6
        replace HML := Lib.hid (HML.out.box hs6 HRL.out)
        clear hmx6 hs6 HMX
        have hZ := follow_aug HB.out HOK.out HMX6.out HPW.out.1 HFL.out.cap ⟨Int.le_of_lt hrp, hrb⟩ (fun s hs => ⟨HPW.out.2.1 s hs, HPW.out.2.2.2 s hs⟩) HPW.out.2.2.1
        have HZ := Lib.hid hZ
        clear hZ
        go_wp2_with fail
        (with_reducible refine Calls.mono HZ.out ?_)
        clear HZ
        rintro e W7 ⟨⟨rv2, rfl⟩, hmx7, hs7⟩
        have HML7 : Hid (MxL w Wa W7 n N F Y Ga Gs k lo val (augL am rr (StV.mk sa sb sd sr :: t))) := HML.out.amounts (augL_len _ _ _) hs7 hmx7.ga
        have f0 : W7.cell? ⟨F, 0, none⟩ = some (.int .i64 val) := HML7.out.fb.cell 0
        have r0 : W7.cell? ⟨R, 0, none⟩ = some (.int .i64 rr) := hmx7.rb.cell 0
        have z0 := HML7.out.fb.frozen 0
        have HML8 := Lib.hid (HML7.out.value (val + rr))
        clear hmx7 hs7 HML HMX6 HML7
        go_wp2_with fail
        go_roundg (gk - rr.toNat)
        case measure => have h1 := HGK.out; have h2 := HBD.out; omega
        case rel => exact ⟨val + rr, _, HML8.out, HFL2.out, by show _ = _; have h1 := HGK.out; have h2 := HBD.out; omega, fun am' v' h => HRN.out am' v' (.step HPW.out.1 (by show MaxRun n (augL am (minR sr _) _) (val + minR sr _) am' v'; rw [HRR.out]; exact h))⟩
def noFlow : Value := .agg #[.int .i64 0, .slice none 0 0, .slice none 0 0]
theorem max_no {w : World} {n : NetV} (h : NetIs w n) (hv : n.validB = false) :
    Calls Try.prog 10 #[n.val] w fun e w' => e = .returned (.tuple #[noFlow, .int .i64 1]) ∧ Same noB w w' := by
  have HB := Lib.hid h
  have HV := Lib.hid hv
  have hZ := valid_any (HB.out.keep (w' := (w.alloc (.cells #[.int .i64 n.nodes, .int .i64 n.source, .int .i64 n.sink, .slice n.sl.addr n.sl.len n.sl.cap, .int .i64 n.hold] 24)).alloc (.cells #[.int .i64 0, .slice none 0 0, .slice none 0 0] 29)) (((Same.refl noB w).alloc _).alloc _))
  rw [HV.out] at hZ
  unfold NetV.val noFlow at *
  have HZ := Lib.hid hZ
  clear h hv hZ
  go_enter Try.func10, Try.ntmps10
  go_wp2_with fail
  (with_reducible refine Calls.mono HZ.out ?_)
  clear HZ
  rintro r W0 ⟨rfl, hs⟩
  have HS : Hid (Same noB w W0) := (((Same.refl noB w).alloc _).alloc _).trans' hs
  have HY : Hid (Blk W0 (w.heap.size + 1) 29 #[.int .i64 0, .slice none 0 0, .slice none 0 0]) := by
    have h1 := Blk.new (w.alloc (.cells #[.int .i64 n.nodes, .int .i64 n.source, .int .i64 n.sink, .slice n.sl.addr n.sl.len n.sl.cap, .int .i64 n.hold] 24)) 29 #[.int .i64 0, .slice none 0 0, .slice none 0 0]
    rw [World.size_alloc] at h1
    exact h1.same hs (fun x => x)
  clear hs
  obtain ⟨Y, hY⟩ : ∃ Y, w.heap.size + 1 = Y := ⟨_, rfl⟩
  rw [hY] at HY ⊢
  have HNY := Lib.hid hY
  clear hY
  have HST := Lib.hid (row_stored HY.out #[.int .i64 0, .slice none 0 0, .slice none 0 0])
  go_wp2_with (refine wpList_store_row rfl 29 _ _ rfl Y #[.int .i64 0, .slice none 0 0, .slice none 0 0] rfl rfl 29 _ HY.out (by kernel_rfl) rfl (by kernel_rfl) ?_)
  (try simp only [Exit.inBlock, Exit.then])
  refine bodyPost_ret (res_ct rfl HST.out.1 rfl rfl) rfl ?_
  exact ⟨rfl, HS.out.trans HST.out.2 (fun b hb e => by have h3 : b = Y := e; have := HNY.out; omega)⟩
end Go.Proofs.Ytpalacfgpcpppaa
