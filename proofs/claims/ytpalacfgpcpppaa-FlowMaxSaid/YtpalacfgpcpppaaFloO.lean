/- Layer 10: the closures of Max. -/
import Derived.Test.YtpalacfgpcpppaaFloN
import Derived.Test.YtpalacfgpcpppaaFloJ
import Derived.BigRegion
namespace Go.Proofs.Ytpalacfgpcpppaa
open Go Go.RowKit Go.Maps
set_option maxRecDepth 100000

/-- Max's memory: the boxes of the network, of the map, of the flow, of the room; the map; the amounts' row. -/
structure MxM (w W : World) (n : NetV) (N M F R Ga B nm : Nat) (par : Int → Option StV) (val r : Int) (sv : Value) (am : List Int) : Prop where
  since : Same noB w W
  nb : Blk W N 24 #[.int .i64 n.nodes, .int .i64 n.source, .int .i64 n.sink, .slice n.sl.addr n.sl.len n.sl.cap, .int .i64 n.hold]
  mb : Blk W M 60 #[.map (some B)]
  map : MapF eI W B nm (pv par)
  fb : Blk W F 29 #[.int .i64 val, .slice (some ⟨Ga, 0, none⟩) am.length am.length, sv]
  ga : Blk W Ga 2 (icells am).toArray
  rb : Blk W R 2 #[.int .i64 r]
  ne : R ≠ Ga
  lo : w.heap.size ≤ R ∧ w.heap.size ≤ Ga
section
variable {w W W' : World} {n : NetV} {N M F R Ga B nm : Nat} {par : Int → Option StV} {val r : Int} {sv : Value} {am : List Int}
theorem MxM.keep (h : MxM w W n N M F R Ga B nm par val r sv am) (hs : Same noB W W') : MxM w W' n N M F R Ga B nm par val r sv am :=
  ⟨h.since.trans' hs, h.nb.same hs (fun x => x), h.mb.same hs (fun x => x), h.map.same hs (fun x => x), h.fb.same hs (fun x => x), h.ga.same hs (fun x => x), h.rb.same hs (fun x => x), h.ne, h.lo⟩
theorem MxM.room (h : MxM w W n N M F R Ga B nm par val r sv am) {r' : Int} (hs : Same (oneB R) W W') (hb : Blk W' R 2 #[.int .i64 r']) : MxM w W' n N M F R Ga B nm par val r' sv am :=
  ⟨h.since.trans hs (fun b hb e => by have h3 : b = R := e; have := h.lo; omega), h.nb.same hs (fun e => h.nb.ne_ h.rb (by decide) e), h.mb.same hs (fun e => h.mb.ne_ h.rb (by decide) e), h.map.same hs (fun e => h.map.ne_blk h.rb e), h.fb.same hs (fun e => h.fb.ne_ h.rb (by decide) e), h.ga.same hs (fun e => h.ne (show Ga = R from e).symm), hb, h.ne, h.lo⟩
theorem MxM.amounts (h : MxM w W n N M F R Ga B nm par val r sv am) {am' : List Int} (hl : am'.length = am.length) (hs : Same (oneB Ga) W W') (hb : Blk W' Ga 2 (icells am').toArray) : MxM w W' n N M F R Ga B nm par val r sv am' :=
  ⟨h.since.trans hs (fun b hb e => by have h3 : b = Ga := e; have := h.lo; omega), h.nb.same hs (fun e => h.nb.ne_ h.ga (by decide) e), h.mb.same hs (fun e => h.mb.ne_ h.ga (by decide) e), h.map.same hs (fun e => h.map.ne_blk h.ga e), by rw [hl]; exact h.fb.same hs (fun e => h.fb.ne_ h.ga (by decide) e), hb, h.rb.same hs (fun e => h.ne e), h.ne, h.lo⟩
end
theorem icells_set (l : List Int) (j : Nat) (x : Int) : (icells l).toArray.setIfInBounds j (.int .i64 x) = (icells (l.set j x)).toArray := by
  rw [List.setIfInBounds_toArray]
  unfold icells
  rw [List.map_set]
theorem min30 {w : World} {R : Nat} {r : Int} (s : StV) (h : Blk w R 2 #[.int .i64 r]) :
    Calls Try.prog 30 #[s.val, .pointer (some ⟨R, 0, none⟩)] w fun e w' => (∃ v, e = .returned v) ∧ Blk w' R 2 #[.int .i64 (min r s.room)] ∧ Same (oneB R) w w' := by
  obtain ⟨sa, sb, sd, sr⟩ := s
  unfold StV.val
  have c0 : w.cell? ⟨R, 0, none⟩ = some (.int .i64 r) := h.cell 0
  have z0 := h.frozen 0
  have hl := h.lt
  have HB := Lib.hid h
  clear h
  go_enter Try.func30, Try.ntmps30
  go_wp2_with fail
  · have HM : Hid (min r sr = sr) := Int.min_eq_right (Int.le_of_lt (show sr < r by assumption))
    go_end0
    refine ⟨⟨_, rfl⟩, ?_, ((Same.refl (oneB R) w).set1 0 _).alloc _⟩
    rw [HM.out]
    exact (HB.out.set_ 0 _).alloc _
  · have HM : Hid (min r sr = r) := Int.min_eq_left (show r ≤ sr by assumption)
    go_end0
    refine ⟨⟨_, rfl⟩, ?_, ((Same.refl (oneB R) w).set1 0 _).alloc _⟩
    rw [HM.out]
    exact (HB.out.set_ 0 _).alloc _
set_option maxHeartbeats 4000000 in
theorem aug31 {w : World} {F R Ga : Nat} {r val x : Int} {sv : Value} {am : List Int} {j : Nat} {sb : Bool} {sd sr : Int} (hF : Blk w F 29 #[.int .i64 val, .slice (some ⟨Ga, 0, none⟩) am.length am.length, sv]) (hG : Blk w Ga 2 (icells am).toArray) (hR : Blk w R 2 #[.int .i64 r])
    (hx : am[j]? = some x) (hxb : 0 ≤ x ∧ x ≤ 1099511627776) (hrb : 0 ≤ r ∧ r ≤ 1099511627776) :
    Calls Try.prog 31 #[(StV.mk (j : Int) sb sd sr).val, .pointer (some ⟨F, 0, none⟩), .pointer (some ⟨R, 0, none⟩)] w fun e w' => (∃ v, e = .returned v) ∧ Blk w' Ga 2 (icells (augS am r ⟨(j : Int), sb, sd, sr⟩)).toArray ∧ Same (oneB Ga) w w' := by
  unfold StV.val
  have HF := Lib.hid hF
  have HG := Lib.hid hG
  have HR := Lib.hid hR
  have hjm := (List.getElem?_eq_some_iff.1 hx).1
  have HX := Lib.hid hx
  obtain ⟨m, hm⟩ : ∃ m, am.length = m := ⟨_, rfl⟩
  rw [hm] at HF hjm
  have hj0 : (0 : Int) ≤ (j : Int) := by omega
  have hj1 : (j : Int) < (m : Int) := by omega
  clear hF hG hR hx hm
  dsimp only
  go_enter Try.func31, Try.ntmps31
  go_upto_region 1 with (fail)
  refine wp_abs (fun W => Hid (Blk W w.heap.size 63 #[.int .i64 (j : Int), .bool sb, .int .i64 sd, .int .i64 sr]) ∧ Hid (Same noB w W)) ⟨Blk.new w 63 _, (Same.refl _ _).alloc _⟩ ?_
  rintro W ⟨HE, HS⟩
  obtain ⟨E, hE⟩ : ∃ E, w.heap.size = E := ⟨_, rfl⟩
  rw [hE] at HE ⊢
  clear hE
  replace HG := Lib.hid (HG.out.same HS.out (fun x => x))
  have e0 : W.cell? ⟨E, 0, none⟩ = some (.int .i64 (j : Int)) := HE.out.cell 0
  have e1 : W.cell? ⟨E, 1, none⟩ = some (.bool sb) := HE.out.cell 1
  have f1 : W.cell? ⟨F, 1, none⟩ = some (.slice (some ⟨Ga, 0, none⟩) m m) := HS.out.cell (HF.out.cell 1) (fun x => x)
  have r0 : W.cell? ⟨R, 0, none⟩ = some (.int .i64 r) := HS.out.cell (HR.out.cell 0) (fun x => x)
  have g0 : W.cell? ⟨Ga, j, none⟩ = some (.int .i64 x) := by rw [HG.out.cell]; simpa using icells_at HX.out
  have z0 := HG.out.frozen j
  have l1 := HE.out.lt
  have l2 := HG.out.lt
  have l3 : F < W.heap.size := World.block_lt_of_cell? W _ f1
  have l4 : R < W.heap.size := World.block_lt_of_cell? W _ r0
  cases sb with
  | true =>
    have hw : IntKind.i64.wrap (x - r) = x - r := IntWalk.i64_in _ (by omega)
    have HA : Hid (augS am r ⟨(j : Int), true, sd, sr⟩ = am.set j (x - r)) := by
      show augS _ _ _ = _
      unfold augS
      simp [HX.out]
      rfl
    go_wp2_with fail
    go_region
    go_wp2_with fail
    go_end0
    refine ⟨⟨_, rfl⟩, ?_, ?_⟩
    · rw [HA.out, ← icells_set]
      exact (HG.out.set_ j _).drew
    · exact (HS.out.of_no.trans' ((Same.refl (oneB Ga) W).set1 j _)).drew
  | false =>
    have hw : IntKind.i64.wrap (x + r) = x + r := IntWalk.i64_in _ (by omega)
    have HA : Hid (augS am r ⟨(j : Int), false, sd, sr⟩ = am.set j (x + r)) := by
      show augS _ _ _ = _
      unfold augS
      simp [HX.out]
      skip
    go_wp2_with fail
    go_region
    go_wp2_with fail
    go_end0
    refine ⟨⟨_, rfl⟩, ?_, ?_⟩
    · rw [HA.out, ← icells_set]
      exact (HG.out.set_ j _).drew
    · exact (HS.out.of_no.trans' ((Same.refl (oneB Ga) W).set1 j _)).drew
end Go.Proofs.Ytpalacfgpcpppaa
