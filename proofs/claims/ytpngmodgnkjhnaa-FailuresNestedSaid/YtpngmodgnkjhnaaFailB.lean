/- Layer 21: All of the program: the declared failures collected. -/
import Derived.Test.YtpngmodgnkjhnaaFailA
import Derived.Maps.AppendAt
import Derived.Deep.Onto
namespace Go.Proofs.Ytpngmodgnkjhnaa
open Go Go.RowKit Go.Maps Go.Shelf
set_option maxRecDepth 100000

def Fl.cells (f : Fl) : List Value := [.int .i64 f.by_, .int .i64 f.num]
def flcells (l : List Fl) : List Value := l.flatMap Fl.cells
theorem flcells_snoc (l : List Fl) (x : Fl) : flcells (l ++ [x]) = flcells l ++ x.cells := by unfold flcells; simp
theorem lit_keep {W W' : World} {row : Option Nat} (hg : W.grownBy W' row) (hne : ∀ k, row = some k → W.heap[k]? ≠ some lit3) (k : Nat) (hk : W.heap[k]? = some lit3) : W'.heap[k]? = some lit3 :=
  (hg.block k (Array.getElem?_eq_some_iff.1 hk).1 (fun e => hne k e.symm hk)).trans hk
theorem obj_keep {o1 : Obj} {W W' : World} {row : Option Nat} (hg : W.grownBy W' row) (hne : ∀ k, row = some k → W.heap[k]? ≠ some o1) (k : Nat) (hk : W.heap[k]? = some o1) : W'.heap[k]? = some o1 :=
  (hg.block k (Array.getElem?_eq_some_iff.1 hk).1 (fun e => hne k e.symm hk)).trans hk
theorem KpL.b {n₀ : Nat} {p : MPl} {m : Mdl} {w : World} (hn : n₀ ≤ w.heap.size) (W : World) (l : Nat) (o o' : Obj) (hl : w.heap.size ≤ l) (h : W.heap[l]? = some o) (ho : o.isCells = false) (hw : o.isWalk = false) : KpL n₀ (mbO p m) W (W.putObj l o') :=
  ⟨belowK_b hn W l o o' hl h ho hw, fun k hk => lit_keep (grownBy_putObj' W l o') (fun j e => by
    cases e
    rw [h]
    intro e2
    cases e2
    cases ho) k hk, fun k hk => obj_keep (grownBy_putObj' W l o') (fun j e => by
    cases e
    rw [h]
    intro e2
    cases e2
    cases ho) k hk⟩
theorem lit_own {W : World} {base : Nat} {e : TypeId} {size : Nat} {v : Value} {k : Nat} {xs : List Value} (h : W.ownsRow base e size v k xs) (he : e ≠ 3) : ∀ j, v.ownBlock = some j → W.heap[j]? ≠ some lit3 := by
  intro j hj hl
  rcases h.2 with ⟨rfl, _⟩ | ⟨g, cap, cur, rfl, _, hgb, _⟩
  · simp [Value.ownBlock] at hj
  · obtain rfl : g = j := by simpa [Value.ownBlock] using hj
    rw [hgb] at hl
    injection hl with hl
    injection hl with h1 h2 h3
    exact he h2
theorem mb_own {p : MPl} {m : Mdl} {W : World} {base : Nat} {e : TypeId} {size : Nat} {v : Value} {k : Nat} {xs : List Value} (h : W.ownsRow base e size v k xs) (he : e ≠ 29) : ∀ j, v.ownBlock = some j → W.heap[j]? ≠ some (mbO p m) := by
  intro j hj hl
  rcases h.2 with ⟨rfl, _⟩ | ⟨g, cap, cur, rfl, _, hgb, _⟩
  · simp [Value.ownBlock] at hj
  · obtain rfl : g = j := by simpa [Value.ownBlock] using hj
    rw [hgb] at hl
    injection hl with hl
    injection hl with h1 h2 h3
    exact he h2
theorem mb_box {p : MPl} {m : Mdl} {W : World} {B : Nat} {t : TypeId} {v : Value} (h : Boxed W B t v) (ht : t ≠ 29) : W.heap[B]? ≠ some (mbO p m) := by
  intro hl
  rw [show W.heap[B]? = _ from h] at hl
  injection hl with hl
  injection hl with h1 h2 h3
  exact ht h2
theorem lit_box {W : World} {B : Nat} {t : TypeId} {v : Value} (h : Boxed W B t v) (ht : t ≠ 3) : W.heap[B]? ≠ some lit3 := by
  intro hl
  rw [show W.heap[B]? = _ from h] at hl
  injection hl with hl
  injection hl with h1 h2 h3
  exact ht h2
theorem cells_new (w : World) (xs : List Value) (t : TypeId) : ∀ (j : Nat) (u : Value), xs[j]? = some u → (w.alloc (.cells xs.toArray t)).cell? ((⟨w.heap.size, 0, none⟩ : Addr).add j) = some u := by
  intro j u hu
  rw [Addr.add_lit, (Blk.new w t xs.toArray).cell]
  simpa using hu

theorem declared_any {w : World} {p : MPl} {m : Mdl} : Calls Try.prog 35 #[mdlVal p m] w fun e w' => e = .returned (.func (.func 52) #[] #[.pointer (some ⟨w.heap.size, 0, none⟩)]) ∧ w' = w.alloc (.cells (mdlCells p m) 29) := by
  unfold mdlVal mdlCells
  go_enter Try.func35, Try.ntmps35
  go_wp2_with fail
  go_ret
  exact ⟨rfl, rfl⟩
theorem decl_stops (n : Nat) (hn : 2 ≤ n) (M : Nat) {p : MPl} {m : Mdl} (hd : ∀ b, m.domains b ≤ 1000000) {w : World} {w0 : World} (hin : MdlIn w p m) (hb : Below w.heap.size w w0) (hB : Blk w0 M 29 (mdlCells p m)) :
    SeqStopsK Fence.wide n Try.prog 52 #[.pointer (some ⟨M, 0, none⟩)] (fun x : Fl => #[x.val]) (KpL w.heap.size (mbO p m)) (fun ys => ys = declL m) (fun pre => pre <+: declL m) (declL m).length w0 := fun l J Jx W hW hJ _ hY h0 =>
  declared1_in n hn l M hd J Jx hJ (fun pre x W hj hp => hY pre x W hj (by have h1 := hp.length_le; rw [List.length_append, List.length_singleton] at h1; omega)) W hin (hB.same (Same.of_below hW) (fun x => x)) (hb.trans (hW.mono hb.size)) h0
theorem info31 : (Try.prog.info? 31).map (fun i => (i.zero, i.size, i.bytes)) = some (some (.agg #[.int .i64 0, .int .i64 0]), 2, 16) := by kernel_rfl

attribute [local go_sem] Oper.semAt_some
set_option maxHeartbeats 4000000 in
theorem appseq_in {p : MPl} {m : Mdl} (hd : ∀ b, m.domains b ≤ 1000000) (hlen : (declL m).length ≤ 4000000) (M : Nat) {w : World} (hin : MdlIn w p m) (hB : Blk w M 29 (mdlCells p m)) :
    CallsIn Fence.wide 9 Try.prog 51 #[.slice none 0 0, .func (.func 52) #[] #[.pointer (some ⟨M, 0, none⟩)]] w fun e w' => ∃ v, e = .returned v ∧ w'.ownsRow w.heap.size 31 2 v (declL m).length (flcells (declL m)) ∧ Below w.heap.size w w' := by
  obtain ⟨i0, hi, hz0, hz1, hz2⟩ := info_parts info31
  refine callsIn_of_wp_marks Try.func51 rfl trivial ?_ rfl
  simp only [Try.ntmps51, List.size_toArray, List.length_cons, List.length_nil, Nat.reduceAdd, Nat.reduceSub, Array.replicate_succ, Array.replicate_zero, List.push_toArray, List.append_toArray, List.nil_append, List.cons_append]
  have bO := Boxed.new w 35 (.slice none 0 0)
  have hB0 : Below w.heap.size w (w.alloc (.cells #[.slice none 0 0] 35)) := (Below.refl _ w).alloc (Nat.le_refl _) _
  have hst := decl_stops 8 (by omega) M hd hin (Below.refl _ _) hB
  gi_wp2
  refine wpIn_rangeFunc_ownH (n := 9) rfl (by omega) (gf := 52) (lb := #[.pointer (some ⟨M, 0, none⟩)]) rfl trivial (enters_of Try.func52 (by kernel_rfl) rfl)
    hst KpL.t (KpL.b (by simp)) hB0 (fun _ => rfl)
    (fun pre W => (∃ v, Boxed W w.heap.size 35 v ∧ W.ownsRow w.heap.size 31 2 v pre.length (flcells pre) ∧ True) ∧ Below w.heap.size w W)
    (fun _ _ _ => False)
    (OwnFrom.and (Own.from (holdsRow_own w.heap.size w.heap.size 35 31 2 (fun pre => pre.length) (fun pre => flcells pre) (fun _ _ => True)) _) (ownFrom_below (Nat.le_refl _) (by simp)))
    (fun _ _ _ _ _ hs _ _ => hs)
    ⟨⟨_, bO, World.ownsRow_nil _ _ _ _, trivial⟩, hB0⟩
    (fun x a' W => ∃ Bx, Blk W Bx 31 #[.int .i64 x.by_, .int .i64 x.num] ∧ a' = { tmps := #[.slice none 0 0, .func (.func 52) #[] #[.pointer (some ⟨M, 0, none⟩)], .pointer (some ⟨w.heap.size, 0, none⟩), undef, .slice none 0 0, .pointer (some ⟨Bx, 0, none⟩), .func (.func 52) #[] #[.pointer (some ⟨M, 0, none⟩)], x.val, undef, undef, undef, undef, undef], defers := [] })
    (fun x a' _ X Y row hs hg hr => by
      obtain ⟨Bx, h1, h2⟩ := hs
      exact ⟨Bx, (hg.block Bx h1.lt (fun e => by obtain ⟨_, o, ho, hc⟩ := hr Bx e.symm; rw [show X.heap[Bx]? = _ from h1] at ho; cases ho; cases hc)).trans h1, h2⟩)
    ?assign ?body ?done ?stop
  case assign =>
    rintro l pre x W K ⟨⟨v, hv, hrow, _⟩, hB1⟩ hK
    obtain ⟨xb, xn⟩ := x
    unfold Fl.val at *
    gi_wp2
    exact hK _ _ ((KeepsOthers.alloc _ _).from _) (KpL.same ((Same.refl noB W).alloc _) hB1.size) ⟨⟨v, hv.alloc _, hrow.alloc _, trivial⟩, hB1.alloc hB1.size _⟩ ⟨W.heap.size, Blk.new W 31 _, rfl⟩
  case body =>
    rintro l pre x a' W hl _ ⟨⟨v, hv, hrow, _⟩, hB1⟩ ⟨Bx, hx, rfl⟩ hlt
    obtain ⟨xb, xn⟩ := x
    unfold Fl.val at *
    have hc := hv.cell
    have q0 : W.cell? ⟨Bx, 0, none⟩ = some (.int .i64 xb) := hx.cell 0
    have q1 : W.cell? ⟨Bx, 1, none⟩ = some (.int .i64 xn) := hx.cell 1
    have hplen : pre.length ≤ 4000000 := by omega
    have hlo := lit_own hrow (by decide)
    have hlb := lit_box hv (by decide)
    gi_wp2_with (gi_at_builtin; refine wpListIn_append_own _ rfl _ _ 35 rfl w.heap.size 31 i0 _ 2 16 Try.underlying35 hi hz0 hz1 hz2 rfl (by decide) _ _ _ rfl (hrow.alloc _) ⟨W.heap.size, 0, none⟩ 1 1 [.int .i64 xb, .int .i64 xn] rfl rfl (cells_new W [.int .i64 xb, .int .i64 xn] 31) (by simp [Value.oneCell']) (by simp only [maxLen]; omega) (by omega) (by have := hB1.size; simp; omega) ?_; intro v' w1 hown' hgrow _; obtain ⟨g', cap', rfl⟩ := ownsRow_succ hown'; obtain ⟨hv1, hv2, hr2, hk2, hb2⟩ := hv.appended (by decide) hrow hB1.size (Nat.le_refl _) hown' hgrow; have hc1 := hv1.cell; have hf1 := hv1.frozen)
    refine ⟨hk2.from _, ⟨hb2, fun k hk => ?_, fun k hk => ?_⟩, ⟨_, hv2, ?_⟩, hB1.trans hb2⟩
    · have h1 := ((Same.refl noB W).alloc (.cells #[.int .i64 xb, .int .i64 xn] 31)).heap hk (fun x => x)
      have h2 := lit_keep hgrow (lit_own (hrow.alloc _) (by decide)) k h1
      exact lit_keep (grownBy_setCell' w1 w.heap.size _) (fun j e => by cases e; exact lit_box hv1 (by decide)) k h2
    · have h1 := ((Same.refl noB W).alloc (.cells #[.int .i64 xb, .int .i64 xn] 31)).heap hk (fun x => x)
      have h2 := obj_keep hgrow (mb_own (hrow.alloc _) (by decide)) k h1
      exact obj_keep (grownBy_setCell' w1 w.heap.size _) (fun j e => by cases e; exact mb_box hv1 (by decide)) k h2
    · rw [flcells_snoc, List.length_append]
      exact hr2
  case done =>
    rintro D ys W hD rfl ⟨⟨v, hv, hrow, _⟩, hB1⟩ hK
    have hc := hv.cell
    gi_wp2
    refine ⟨by simp, .inl ⟨_, _, rfl, run_takeDeferred hK, ?_⟩⟩
    exact ⟨_, results_tmp rfl _ _ _, v, rfl, ownsRow_putObj hrow _ hK rfl, hB1.trans (belowK_b (w := w) (Nat.le_refl _) W D _ _ (by simp at hD; omega) hK rfl rfl)⟩
  case stop =>
    rintro D c pre W _ _ h _
    exact h.elim
/-- slices.Collect(declared(m)), All. -/
theorem collect_any {p : MPl} {m : Mdl} (hd : ∀ b, m.domains b ≤ 1000000) (hlen : (declL m).length ≤ 4000000) (M : Nat) {w : World} (hin : MdlIn w p m) (hB : Blk w M 29 (mdlCells p m)) :
    Calls Try.prog 34 #[.func (.func 52) #[] #[.pointer (some ⟨M, 0, none⟩)]] w fun e w' => ∃ v, e = .returned v ∧ AppAt w w' v (declL m).length 31 2 (flcells (declL m)) := by
  have HZ := Lib.hid (callsIn_wide.1 (appseq_in hd hlen M hin hB))
  clear hin hB hd hlen
  go_enter Try.func34, Try.ntmps34
  go_wp2_with fail
  refine HZ.out.mono ?_
  rintro e w' ⟨v, rfl, hown, hb⟩
  have HF : Hid (AppAt w w' v (declL m).length 31 2 (flcells (declL m))) := ⟨World.ownsRow.mono hown (Nat.zero_le _), fun g hg => (hown.lt g hg).1, Same.of_below hb⟩
  clear hown hb HZ
  go_wp2_with fail
  go_ret
  exact ⟨_, rfl, HF.out⟩
theorem all_any {w : World} {p : MPl} {m : Mdl} (h : MdlIn w p m) (hd : ∀ b, m.domains b ≤ 1000000) (hlen : (declL m).length ≤ 4000000) :
    Calls Try.prog 13 #[mdlVal p m] w fun e w' => ∃ v, e = .returned v ∧ AppAt w w' v (declL m).length 31 2 (flcells (declL m)) := by
  have HMB := Lib.hid (MB.start h)
  have HD := Lib.hid hd
  have HL := Lib.hid hlen
  clear h hd hlen
  unfold mdlVal
  unfold mdlCells at HMB
  go_enter Try.func13, Try.ntmps13
  go_wp2_with fail
  refine calls_abs (fun W => Hid (MB w W p m w.heap.size)) HMB ?_
  clear HMB
  generalize w.heap.size = M at *
  intro W HM
  have hZ := declared_any (w := W) (p := p) (m := m)
  unfold mdlVal at hZ
  (with_reducible refine Calls.mono hZ ?_)
  clear hZ
  rintro e W1 ⟨rfl, hw⟩
  subst hw
  have HC := Lib.hid (collect_any HD.out HL.out W.heap.size ((HM.out.inn).keep ((Same.refl _ _).alloc (.cells (mdlCells p m) 29))) (Blk.new W 29 (mdlCells p m)))
  go_wp2_with fail
  refine HC.out.mono ?_
  rintro e W2 ⟨v, rfl, ha⟩
  have HF : Hid (AppAt w W2 v (declL m).length 31 2 (flcells (declL m))) := ha.before (HM.out.since.alloc _)
  clear ha HC
  go_wp2_with fail
  go_ret
  exact ⟨_, rfl, HF.out⟩
end Go.Proofs.Ytpngmodgnkjhnaa
