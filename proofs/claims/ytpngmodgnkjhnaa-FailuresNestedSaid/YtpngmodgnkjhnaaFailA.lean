/- Layer 21: the declared failures; the program's iterator over them. -/
import Derived.RangeFuncNested
import Derived.RangeFuncBound
import Derived.RangeFuncCalls
import Derived.RangeFuncLeaves
import Derived.Shelf.Abstract
import Derived.Shelf.RegionOpen
import Derived.WalkKit
import Derived.OwnWalkIn
import Derived.TacticsInMore
import Derived.LoopNIn
import Derived.LoopIn
import Derived.Test.YtpngmodgnkjhnaaSiteC
namespace Go.Proofs.Ytpngmodgnkjhnaa
open Go Go.RowKit Go.Maps Go.Shelf
set_option maxRecDepth 100000

/-- A failure. -/
structure Fl where
  by_ : Int
  num : Int
deriving DecidableEq
def Fl.val (f : Fl) : Value := .agg #[.int .i64 f.by_, .int .i64 f.num]
/-- Bit k of the declared classes. -/
def bitB (n : Int) (k : Nat) : Bool := bits BinOp.and IntKind.i64 (n / 2 ^ k) 1 == 1
def kindL (m : Mdl) (k : Nat) : List Fl := if bitB m.failures k then (List.range (m.domains ((k : Int) + 1))).map (fun (i : Nat) => ⟨(k : Int) + 1, (i : Int) + 1⟩) else []
def partL (m : Mdl) (k t : Nat) : List Fl := if bitB m.failures k then (List.range t).map (fun (i : Nat) => ⟨(k : Int) + 1, (i : Int) + 1⟩) else []
theorem partL_zero (m : Mdl) (k : Nat) : partL m k 0 = [] := by unfold partL; simp
theorem partL_all (m : Mdl) (k : Nat) : partL m k (m.domains ((k : Int) + 1)) = kindL m k := rfl
theorem partL_yes {m : Mdl} {k : Nat} (h : bitB m.failures k = true) (t : Nat) : partL m k (t + 1) = partL m k t ++ [⟨(k : Int) + 1, (t : Int) + 1⟩] := by
  unfold partL
  rw [if_pos h, if_pos h, List.range_succ, List.map_append]
  rfl
theorem partL_no {m : Mdl} {k : Nat} (h : bitB m.failures k = false) (t : Nat) : partL m k t = [] := by
  unfold partL
  rw [h]
  rfl
def uptoL (m : Mdl) (k : Nat) : List Fl := ⟨0, 0⟩ :: (List.range k).flatMap (kindL m)
def declL (m : Mdl) : List Fl := uptoL m 3
theorem uptoL_step (m : Mdl) (k : Nat) : uptoL m (k + 1) = uptoL m k ++ kindL m k := by
  unfold uptoL
  rw [List.range_succ, List.flatMap_append]
  simp

theorem uptoL_pre (m : Mdl) {k k' : Nat} (h : k ≤ k') : uptoL m k <+: uptoL m k' := by
  induction k' with
  | zero =>
    obtain rfl : k = 0 := by omega
    exact List.prefix_rfl
  | succ k' ih =>
    by_cases e : k = k' + 1
    · subst e; exact List.prefix_rfl
    · rw [uptoL_step]
      exact (ih (by omega)).trans (List.prefix_append _ _)
theorem partL_pre (m : Mdl) (k : Nat) {t : Nat} (h : t ≤ m.domains ((k : Int) + 1)) : partL m k t <+: kindL m k := by
  rw [← partL_all]
  unfold partL
  split
  · refine List.IsPrefix.map _ ?_
    have h1 : (List.range (m.domains ((k : Int) + 1))).take t = List.range t := by rw [List.take_range, Nat.min_eq_left h]
    rw [← h1]
    exact List.take_prefix _ _
  · exact List.prefix_rfl
theorem pre_decl (m : Mdl) {k t : Nat} (hk : k < 3) (ht : t ≤ m.domains ((k : Int) + 1)) : uptoL m k ++ partL m k t <+: declL m := by
  have h1 : uptoL m k ++ partL m k t <+: uptoL m (k + 1) := by
    rw [uptoL_step]
    exact (List.prefix_append_right_inj _).2 (partL_pre m k ht)
  exact h1.trans (uptoL_pre m (by omega))

/-- The literal over which the iterator ranges. -/
def lit3 : Obj := .cells #[.int .i64 1, .int .i64 2, .int .i64 3] 3 (0, 0)
/-- The model's box, as an object. -/
def mbO (p : MPl) (m : Mdl) : Obj := .cells (mdlCells p m) 29 (0, 0)
/-- What a round that goes on keeps: all that lay below n₀, each such literal and each box of the model. -/
def KpL (n₀ : Nat) (o1 : Obj) (W W' : World) : Prop := Below n₀ W W' ∧ (∀ k : Nat, W.heap[k]? = some lit3 → W'.heap[k]? = some lit3) ∧ ∀ k : Nat, W.heap[k]? = some o1 → W'.heap[k]? = some o1
theorem KpL.same {n₀ : Nat} {o1 : Obj} {W W' : World} (h : Same noB W W') (hn : n₀ ≤ W.heap.size) : KpL n₀ o1 W W' := ⟨h.below (fun _ x => x.elim) hn, fun _ hk => h.heap hk (fun x => x), fun _ hk => h.heap hk (fun x => x)⟩
theorem KpL.t {n₀ : Nat} {o1 : Obj} {A B C : World} (h : KpL n₀ o1 A B) (k : KpL n₀ o1 B C) : KpL n₀ o1 A C := ⟨h.1.trans k.1, fun j hj => k.2.1 j (h.2.1 j hj), fun j hj => k.2.2 j (h.2.2 j hj)⟩
theorem lit_at {W : World} {g : Nat} (h : W.heap[g]? = some lit3) {i : Nat} (hi : i < 3) : W.cell? ⟨g, i, none⟩ = some (.int .i64 ((i : Int) + 1)) := by
  have hb : Blk W g 3 #[.int .i64 1, .int .i64 2, .int .i64 3] := h
  rw [hb.cell]
  match i, hi with
  | 0, _ => rfl
  | 1, _ => rfl
  | 2, _ => rfl

theorem mb_below {w wr : World} {p : MPl} {m : Mdl} {M : Nat} (hin : MdlIn w p m) (hB : wr.heap[M]? = some (mbO p m)) (hb : Below w.heap.size w wr) : MB w wr p m M :=
  ⟨hin.keep (Same.of_below hb), hB, Same.of_below hb⟩

attribute [local go_sem] Oper.semAt_some
set_option maxHeartbeats 4000000 in
theorem declared1_in (n : Nat) (hn : 2 ≤ n) (l M : Nat) {p : MPl} {m : Mdl} (hd : ∀ b, m.domains b ≤ 1000000) (J Jx : List Fl → World → Prop) {w : World} {B0 : Nat}
    (hJ : AbidesFrom B0 J)
    (hY : ∀ pre x W, J pre W → pre ++ [x] <+: declL m → YieldAt Fence.wide (n - 1) Try.prog l #[x.val] W fun e W' =>
      (e = .returned (.bool true) ∧ J (pre ++ [x]) W' ∧ KpL w.heap.size (mbO p m) W W') ∨ (e = .returned (.bool false) ∧ Jx (pre ++ [x]) W'))
    (W : World) (hin : MdlIn w p m) (hB : W.heap[M]? = some (mbO p m)) (hW : Below w.heap.size w W) (h0 : J [] W) :
    CallsIn Fence.wide n Try.prog 52 #[.func (.yield l) #[] #[], .pointer (some ⟨M, 0, none⟩)] W fun e W' => (∃ v, e = .returned v) ∧
      ((∃ ys, ys = declL m ∧ J ys W') ∨ (∃ pre, pre <+: declL m ∧ Jx pre W')) := by
  have h1 : 1 ≤ n := by omega
  have HJ := Lib.hid hJ
  have HY := Lib.hid hY
  have HIN := Lib.hid hin
  have HB := Lib.hid hB
  have HD := Lib.hid hd
  refine callsIn_of_wp Try.func52 rfl trivial ?_ rfl
  simp only [Try.ntmps52, List.size_toArray, List.length_cons, List.length_nil, Nat.reduceAdd, Nat.reduceSub, Array.replicate_succ, Array.replicate_zero, List.push_toArray, List.append_toArray, List.nil_append, List.cons_append]
  obtain ⟨fn, tmps, assign, body, hy, hR⟩ := hY [] ⟨0, 0⟩ W h0 (uptoL_pre m (k := 0) (k' := 3) (by omega))
  have hy' : (Instr.yield l #[.agg #[.int .i64 0, .int .i64 0]]).run Try.prog W = .ok (.round l fn tmps assign body) W := hy
  have HR := Lib.hid hR
  clear hy hR hJ hY hin hB hd
  gi_wp2
  refine HR.out.mono ?_
  rintro e W3 (⟨rfl, hJ3, hk3⟩ | ⟨rfl, hJx3⟩)
  · have HW3 := Lib.hid (hW.trans hk3.1)
    have HJ3 := Lib.hid (show J (uptoL m 0) W3 from hJ3)
    have HB3 := Lib.hid (hk3.2.2 _ HB.out)
    clear hJ3 hk3 hy' HR hW
    gi_wp2
    have HL : Hid (J (uptoL m 0) (W3.alloc (.cells #[.int .i64 1, .int .i64 2, .int .i64 3] 3)) ∧ Below w.heap.size w (W3.alloc (.cells #[.int .i64 1, .int .i64 2, .int .i64 3] 3)) ∧ (W3.alloc (.cells #[.int .i64 1, .int .i64 2, .int .i64 3] 3)).heap[W3.heap.size]? = some lit3 ∧ (W3.alloc (.cells #[.int .i64 1, .int .i64 2, .int .i64 3] 3)).heap[M]? = some (mbO p m)) :=
      ⟨HJ.out _ _ _ none HJ3.out (World.grownBy_alloc W3 _ none) (fun r e => by cases e), HW3.out.trans (((Below.refl _ W3).alloc (Nat.le_refl _) _).mono HW3.out.size), World.alloc_heap_new W3 _, ((Same.refl noB W3).alloc _).heap HB3.out (fun x => x)⟩
    clear HW3 HJ3 HB3 HB
    generalize W3.heap.size = g at *
    gi_loopw [12] (fun i wr => ∃ k : Nat, k ≤ 3 ∧ i = .int .i64 k ∧ Hid (J (uptoL m k) wr ∧ Below w.heap.size w wr ∧ wr.heap[g]? = some lit3 ∧ wr.heap[M]? = some (mbO p m))) (fun i _ => 3 - (intOf i).toNat)
    case atStart => exact ⟨0, by omega, rfl, HL.out⟩
    case round =>
      obtain ⟨k, hk, rfl, HK⟩ := hrel
      clear HL
      by_cases hlt : k < 3
      · have q0 := lit_at HK.out.2.2.1 hlt
        have HM : Hid (MB w wr p m M) := mb_below HIN.out HK.out.2.2.2 HK.out.2.1
        obtain ⟨c0, c1, c2, c3, c4, c5, c6, c7, c8, c9, c10⟩ := HM.out.all
        gi_wp2
        refine ⟨trivial, ?_⟩
        have hZ := domains_any HM.out.inn (by_ := (k : Int) + 1) (inI64_of (by omega) (by omega))
        unfold mdlVal at hZ
        refine (callsIn_wide.2 hZ).mono ?_
        clear hZ
        rintro e W5 ⟨rfl, hs⟩
        have HM5 := Lib.hid (HM.out.keep hs)
        have hD : m.domains ((k : Int) + 1) ≤ 1000000 := HD.out _
        have HK5 : Hid (J (uptoL m k) W5 ∧ Below w.heap.size w W5 ∧ W5.heap[g]? = some lit3 ∧ W5.heap[M]? = some (mbO p m)) :=
          ⟨HJ.out _ _ _ none HK.out.1 (hs.to_grown (fun _ _ x => x.elim)) (fun r e => by cases e), HK.out.2.1.trans (hs.below (fun _ x => x.elim) HK.out.2.1.size), hs.heap HK.out.2.2.1 (fun x => x), hs.heap HK.out.2.2.2 (fun x => x)⟩
        clear hs HK c0 c1 c2 c3 c4 c5 c6 c7 c8 c9 c10 q0 HM
        gi_wp2
        gi_loopw [20] (fun i wr => ∃ t : Nat, t ≤ m.domains ((k : Int) + 1) ∧ i = .int .i64 t ∧ Hid (J (uptoL m k ++ partL m k t) wr ∧ Below w.heap.size w wr ∧ wr.heap[g]? = some lit3 ∧ wr.heap[M]? = some (mbO p m))) (fun i _ => m.domains ((k : Int) + 1) - (intOf i).toNat)
        case atStart => exact ⟨0, Nat.zero_le _, rfl, by rw [partL_zero, List.append_nil]; exact HK5.out⟩
        case round =>
          obtain ⟨t, ht, rfl, HT⟩ := hrel
          clear HK5
          by_cases hlt2 : t < m.domains ((k : Int) + 1)
          · have HM : Hid (MB w wr p m M) := mb_below HIN.out HT.out.2.2.2 HT.out.2.1
            obtain ⟨c0, c1, c2, c3, c4, c5, c6, c7, c8, c9, c10⟩ := HM.out.all
            have hj0 : 0 ≤ (k : Int) := by omega
            cases hb : bitB m.failures k
            · have hb1 : (bits BinOp.and IntKind.i64 (m.failures / 2 ^ k) 1 == 1) = false := hb
              have HT2 : Hid (J (uptoL m k ++ partL m k (t + 1)) wr ∧ Below w.heap.size w wr ∧ wr.heap[g]? = some lit3 ∧ wr.heap[M]? = some (mbO p m)) := ⟨by rw [partL_no hb, ← partL_no hb t]; exact HT.out.1, HT.out.2⟩
              clear hb
              gi_wp2
              repeat (refine ⟨fun _ h => (by cases h), ?_⟩; gi_wp2)
              go_roundw
              case rel => exact ⟨t + 1, by omega, by go_num, HT2.out⟩
              case measure => simp [intOf]; omega
            · have hb1 : (bits BinOp.and IntKind.i64 (m.failures / 2 ^ k) 1 == 1) = true := hb
              have HPY := Lib.hid (partL_yes hb t)
              have hpre := pre_decl m (t := t + 1) hlt (by omega)
              rw [partL_yes hb t, ← List.append_assoc] at hpre
              have HPR := Lib.hid hpre
              obtain ⟨fn, tmps, assign, body, hy, hR⟩ := HY.out (uptoL m k ++ partL m k t) ⟨(k : Int) + 1, (t : Int) + 1⟩ wr HT.out.1 hpre
              have hy' : (Instr.yield l #[.agg #[.int .i64 ((k : Int) + 1), .int .i64 ((t : Int) + 1)]]).run Try.prog wr = .ok (.round l fn tmps assign body) wr := hy
              have HR2 := Lib.hid hR
              clear hy hR hb hpre
              gi_wp2
              refine HR2.out.mono ?_
              rintro e W7 (⟨rfl, hJ7, hk7⟩ | ⟨rfl, hJx7⟩)
              · have HT2 : Hid (J (uptoL m k ++ partL m k (t + 1)) W7 ∧ Below w.heap.size w W7 ∧ W7.heap[g]? = some lit3 ∧ W7.heap[M]? = some (mbO p m)) := ⟨by rw [HPY.out, ← List.append_assoc]; exact hJ7, HT.out.2.1.trans hk7.1, hk7.2.1 g HT.out.2.2.1, hk7.2.2 M HT.out.2.2.2⟩
                clear hJ7 hk7
                gi_wp2
                go_roundw
                case rel => exact ⟨t + 1, by omega, by go_num, HT2.out⟩
                case measure => simp [intOf]; omega
              · gi_wp2
                refine bodyPost_ret (results_none rfl _ _ _) rfl ?_
                exact ⟨⟨_, rfl⟩, .inr ⟨_, HPR.out, hJx7⟩⟩
          · obtain rfl : t = m.domains ((k : Int) + 1) := by omega
            have HT2 : Hid (J (uptoL m (k + 1)) wr ∧ Below w.heap.size w wr ∧ wr.heap[g]? = some lit3 ∧ wr.heap[M]? = some (mbO p m)) := ⟨by rw [uptoL_step, ← partL_all]; exact HT.out.1, HT.out.2⟩
            gi_wp2
            go_roundw
            case rel => exact ⟨k + 1, by omega, by go_num, HT2.out⟩
            case measure => simp [intOf]; omega
      · obtain rfl : k = 3 := by omega
        gi_wp2
        go_end0
        exact ⟨⟨_, rfl⟩, .inl ⟨_, rfl, HK.out.1⟩⟩
  · gi_wp2
    refine bodyPost_ret (results_none rfl _ _ _) rfl ?_
    exact ⟨⟨_, rfl⟩, .inr ⟨[⟨0, 0⟩], ⟨_, rfl⟩, hJx3⟩⟩
end Go.Proofs.Ytpngmodgnkjhnaa
