/- ReplogCalls: its walk. (printed by genLawCal.py) -/
import Derived.Test.YtlocfbjeljgblaaRepSI
namespace Go.Proofs.Ytlocfbjeljgblaa
open Go Go.RowKit
set_option maxRecDepth 100000

def bj (B : Nat → Prop) (X V : Nat) : Nat → Prop := fun b => B b ∨ b = X ∨ b = V
/-- A law's box around a log. -/
structure RunJ (B : Nat → Prop) (w W : World) (X V M : Nat) (v : Value) (es : List En) (lv : Value) (ls : List En) (g : Lg) (b t : Int) (xv : Value) : Prop where
  st : St (bj B X V) W M v es lv ls g
  xb : Blk W X 29 #[.int .i64 b, .int .i64 t, xv]
  since : Same noB w W
  m0 : ∀ b, lgB M v b → w.heap.size ≤ b
  rx : w.heap.size ≤ X ∧ X ≤ V
namespace RunJ
variable {B : Nat → Prop} {w W W' : World} {X V M : Nat} {v lv xv : Value} {es ls : List En} {g : Lg} {b t : Int}
theorem keep (h : RunJ B w W X V M v es lv ls g b t xv) (hs : Same noB W W') : RunJ B w W' X V M v es lv ls g b t xv :=
  ⟨h.st.keep hs, h.xb.same hs (fun x => x), h.since.trans' hs, h.m0, h.rx⟩
theorem sx (h : RunJ B w W X V M v es lv ls g b t xv) : RnX X b t xv W := ⟨h.xb.cell 0, h.xb.cell 1, h.xb.cell 2⟩
theorem s (h : RunJ B w W X V M v es lv ls g b t xv) {bb o k : Nat} {os : List OpR} {x : OpR} (hr : RdAt w B bb o (ocells os)) (hx : os[k]? = some x) : RnS X bb o k b t xv x W := by
  obtain ⟨p0, p1, p2, p3, p4⟩ := op_at hr hx
  exact ⟨h.xb.cell 0, h.xb.cell 1, h.xb.cell 2, h.since.cell p0 (fun x => x), h.since.cell p1 (fun x => x), h.since.cell p2 (fun x => x), h.since.cell p3 (fun x => x), h.since.cell p4 (fun x => x)⟩
theorem op (h : RunJ B w W X V M v es lv ls g b t xv) {x : OpR} {y : OpV} (hx : OpIs w B x y) : OpIs W (bd (bj B X V) M v) x y :=
  hx.same h.since (fun _ _ x => x.elim) (fun c hc hx => by
    have hrx := h.rx
    rcases hx with hx | hx | hx
    · have := h.m0 c hx; omega
    · exact hx
    · omega)
theorem alloc (h : RunJ B w W X V M v es lv ls g b t xv) (o : Obj) : RunJ B w (W.alloc o) X W.heap.size M v es lv ls g b t xv := by
  have hs := (Same.refl noB W).alloc o
  have hxl := h.xb.lt
  refine ⟨h.st.more hs (fun c hc => ?_), h.xb.alloc o, h.since.alloc o, h.m0, ⟨h.rx.1, by omega⟩⟩
  rcases hc with hc | hc | hc
  · exact .inl (.inl hc)
  · exact .inl (.inr (.inl hc))
  · exact .inr ⟨by omega, by rw [World.size_alloc]; omega⟩
theorem put (h : RunJ B w W X V M v es lv ls g b t xv) (hs : Same (oneB V) W W') (hV : X < V) : RunJ B w W' X V M v es lv ls g b t xv := by
  have hrx := h.rx
  exact ⟨h.st.put hs (fun c e => .inr (.inr e)), h.xb.same hs (fun e => by have h3 : X = V := e; omega), h.since.trans hs (fun c hc e => by have h3 : c = V := e; omega), h.m0, hrx⟩
theorem setX (h : RunJ B w W X V M v es lv ls g b t xv) {b' t' : Int} {xv' : Value} (hb : Blk W' X 29 #[.int .i64 b', .int .i64 t', xv']) (hs : Same (oneB X) W W') : RunJ B w W' X X M v es lv ls g b' t' xv' := by
  have hrx := h.rx
  refine ⟨(h.st.put hs (fun c e => .inr (.inl e))).less (fun c hc => ?_), hb, h.since.trans hs (fun c hc e => by have h3 : c = X := e; omega), h.m0, ⟨hrx.1, Nat.le_refl _⟩⟩
  rcases hc with hc | hc | hc
  · exact .inl hc
  · exact .inr (.inl hc)
  · exact .inr (.inl hc)
theorem step (h : RunJ B w W X V M v es lv ls g b t xv) {g2 : Lg} {e : Ending} (hst : StepTo (bj B X V) W M v g2 e W') : ∃ v' es' A n c ls', e = .returned (.tuple #[.agg #[.int .i64 g2.base, .int .i64 g2.term, .slice A n c], .bool true]) ∧ RunJ B w W' X V M v' es' (.slice A n c) ls' g2 b t xv ∧ ∀ cs, Blk W V 29 cs → Blk W' V 29 cs := by
  obtain ⟨v', es', A, n, c, ls', rfl, h1, h2, h3⟩ := hst
  have hz := h.since.size
  refine ⟨v', es', A, n, c, ls', rfl, ⟨h1, h.xb.same h2 (h.st.old X (.inr (.inl rfl))).2, h.since.trans h2 (fun c hc e => by have := h.m0 c e; omega), fun c hc => ?_, h.rx⟩, fun cs hb => hb.same h2 (h.st.old V (.inr (.inr rfl))).2⟩
  rcases hc with hc | hc
  · exact h.m0 c (.inl hc)
  · rcases h3 c hc.symm with hc | hc
    · exact h.m0 c (.inr hc.symm)
    · omega
/-- Around a log that was just made. -/
theorem start {W1 : World} {g0 : Lg} (hB : ∀ b, B b → b < w.heap.size) (hs : Same noB w W1) (hwM : w.heap.size ≤ M) (hl : LogIs W1 M (.slice none 0 0) [] g0) (hg : g0.es = []) {W2 : World} (hs2 : Same (oneB W1.heap.size) W1 W2) (hX : Blk W2 W1.heap.size 29 #[.int .i64 g0.base, .int .i64 g0.term, .slice none 0 0]) : RunJ B w W2 W1.heap.size W1.heap.size M (.slice none 0 0) [] (.slice none 0 0) [] g0 g0.base g0.term (.slice none 0 0) := by
  have hm := hl.box.lt
  have hz := hs2.size
  have hxl := hX.lt
  have hsz := hs.size
  have hl2 : LogIs W2 M (.slice none 0 0) [] g0 := ⟨hl.box.same hs2 (fun e => by have h3 : M = W1.heap.size := e; omega), own_same hl.own hs2 (fun b hb => by simp [Value.ownBlock] at hb), by rw [hg]; exact .nil⟩
  refine ⟨⟨hl2, by rw [hg]; exact .nil, ⟨Rd.nil_ _ _ _, by rw [hg]; exact .nil⟩, fun c hc => ?_⟩, hX, hs.trans hs2 (fun c hc e => by have h3 : c = W1.heap.size := e; omega), fun c hc => ?_, ⟨hsz, Nat.le_refl _⟩⟩
  · have hc3 : c < W2.heap.size ∧ c ≠ M := by
      rcases hc with hc | hc | hc
      · have := hB c hc; omega
      · omega
      · omega
    refine ⟨hc3.1, fun e => ?_⟩
    rcases e with e | e
    · exact hc3.2 e
    · simp [Value.ownBlock] at e
  · rcases hc with hc | hc
    · omega
    · simp [Value.ownBlock] at hc
end RunJ
/-- What Calls asks of a log and the reference's, each time. -/
theorem bd_all {g : Lg} {k : Nat} (h : g.Bd k) (hk : k ≤ 100) : g.Fit ∧ (∀ x ∈ g.es, x.c.Sm) ∧ g.es.length ≤ 1000 := ⟨h.fit hk, h.inv.sm, by have := h.len; omega⟩
set_option maxHeartbeats 16000000 in
theorem lawCalls_any {w : World} {ov : Value} {os : List OpR} {ys : List OpV} (ho : OpL w noB ov os ys) (i t : Int) :
    Calls Try.prog 3 #[.int .i64 i, .int .i64 t, ov] w fun r w' => r = .returned (.bool true) ∧ Same noB w w' := by
  have hol := ho.is.len
  obtain ⟨OA, oc, rfl, hc1, hc2, hor⟩ := ho.rd.form
  have HO := Lib.hid ho
  have HOL := Lib.hid hol
  clear ho hor hol
  obtain ⟨B, hBe⟩ : ∃ B, noB = B := ⟨_, rfl⟩
  have HBB : Hid (∀ b, B b → b < w.heap.size) := by rw [← hBe]; exact fun b hb => hb.elim
  have HOB : Hid (OpL w B (.slice OA os.length oc) os ys) := by rw [← hBe]; exact HO.out
  clear hBe
  go_enter Try.func3, Try.ntmps3
  go_wp2_with fail
  (with_reducible refine Calls.mono (awake_any w) ?_)
  rintro r W00 ⟨rfl, hs1⟩
  have HS := Lib.hid hs1
  clear hs1
  go_wp2_with fail
  (with_reducible refine Calls.mono (few10_any (HO.out.keep HS.out) 16) ?_)
  rintro r W0 ⟨q, rfl, hq, hs1⟩
  replace HS := Lib.hid (HS.out.trans' hs1)
  clear hs1 HO
  cases q with
  | false =>
    clear hq
    go_wp2_with fail
    go_ret
    exact ⟨rfl, HS.out⟩
  | true =>
  obtain ⟨hn, hs⟩ := hq rfl
  clear hq
  by_cases hi : 1099511627776 < i
  · have di : decide (1099511627776 < i) = true := decide_eq_true hi
    clear hi hn hs
    go_wp2_with fail
    go_ret
    exact ⟨rfl, HS.out⟩
  by_cases ht : 1099511627776 < t
  · have di : decide (1099511627776 < i) = false := decide_eq_false hi
    have dt : decide (1099511627776 < t) = true := decide_eq_true ht
    clear ht hi hn hs
    go_wp2_with fail
    go_ret
    exact ⟨rfl, HS.out⟩
  have di : decide (1099511627776 < i) = false := decide_eq_false hi
  have dt : decide (1099511627776 < t) = false := decide_eq_false ht
  have hbl : os.length ≤ 16 := by have := HOL.out; omega
  have HSM := Lib.hid hs
  have HBD := Lib.hid (fun (k : Nat) (hk : k ≤ ys.length) => Lg.runK_bd (Lg.Bd.new_ (i := i) (t := t) (by omega) 0) hs hk)
  clear hs hn hi ht
  obtain ⟨g0, hg0⟩ : ∃ g0, Lg.new i t = g0 := ⟨_, rfl⟩
  have HG0 := Lib.hid hg0
  rw [hg0] at HBD
  clear hg0
  go_wp2_with fail
  (with_reducible refine Calls.mono (new_any W0 i t) ?_)
  rintro r W1 ⟨M, rfl, hM, hl, hs1⟩
  have HM : Hid (w.heap.size ≤ M) := Nat.le_trans HS.out.size hM
  rw [HG0.out] at hl
  have HL := Lib.hid hl
  replace HS := Lib.hid (HS.out.trans' hs1)
  clear hM hl hs1
  go_wp2_with fail
  (with_reducible refine Calls.mono (rnew_any W1 i t) ?_)
  rintro r W2 ⟨rfl, hs1⟩
  rw [HG0.out]
  replace HS := Lib.hid (HS.out.trans' hs1)
  replace HL := Lib.hid (HL.out.keep hs1)
  clear hs1
  have hge : g0.es = [] := by rw [← HG0.out]; rfl
  have HRX := Lib.hid (row_stored (Blk.new W2 29 #[.int .i64 0, .int .i64 0, .slice none 0 0]) #[.int .i64 g0.base, .int .i64 g0.term, .slice none 0 0])
  have hst := RunJ.start HBB.out HS.out HM.out HL.out hge (((Same.refl (oneB W2.heap.size) W2).alloc (.cells #[.int .i64 0, .int .i64 0, .slice none 0 0] 29)).trans' HRX.out.2) HRX.out.1
  go_upto_region 6 with (refine wpList_store_row rfl 29 _ _ rfl W2.heap.size #[.int .i64 g0.base, .int .i64 g0.term, .slice none 0 0] rfl rfl 29 _ (Blk.new W2 29 #[.int .i64 0, .int .i64 0, .slice none 0 0]) (by kernel_rfl) rfl (row29_one g0.base g0.term none 0 0) ?_)
  refine wp_abs (fun W => RnX W2.heap.size g0.base g0.term (.slice none 0 0) W ∧ Hid (RunJ B w W W2.heap.size W2.heap.size M (.slice none 0 0) [] (.slice none 0 0) [] g0 g0.base g0.term (.slice none 0 0))) ⟨hst.sx, hst⟩ ?_
  clear HRX hst HL HS HM HBB hge HG0 di dt
  rintro W3 ⟨⟨d0, d1, d2⟩, HI⟩
  obtain ⟨X, hX⟩ : ∃ X, W2.heap.size = X := ⟨_, rfl⟩
  rw [hX] at HI d0 d1 d2 ⊢
  clear hX
  have hbd0 := bd_all (g := g0) (k := 0) (HBD.out 0 (Nat.zero_le _)) (by omega)
  have HF2 := Lib.hid hbd0.1
  have HSM2 := Lib.hid hbd0.2.1
  have HLEN2 := Lib.hid hbd0.2.2
  clear hbd0
  go_wp2_with fail
  (with_reducible refine Calls.mono (same_any HI.out.st.log HI.out.st.ref HF2.out HSM2.out HLEN2.out) ?_)
  rintro r W4 ⟨rfl, hs1⟩
  replace HI := Lib.hid (HI.out.keep hs1)
  clear hs1 HF2 HSM2 HLEN2 d0 d1 d2
  go_wp2_with fail
  go_loopg [41] (os.length) (fun gk q wr => ∃ (k : Nat) (L : Option Addr) (ln lc : Nat) (v : Value) (es ls : List En), k ≤ os.length ∧ Hid (gk + k = os.length) ∧ q = .int .i64 k ∧ Hid (RunJ B w wr X X M v es (.slice L ln lc) ls (g0.runK ys k) (g0.runK ys k).base (g0.runK ys k).term (.slice L ln lc)))
  case atStart => exact ⟨0, _, _, _, _, [], [], Nat.zero_le _, rfl, rfl, HI.out⟩
  case round =>
    clear HI
    obtain ⟨k, L, ln, lc, v, es, ls, hk, HK, rfl, HI⟩ := hrel
    by_cases hlt : k < os.length
    · obtain ⟨x, hx⟩ : ∃ x, os[k]? = some x := ⟨_, List.getElem?_eq_getElem hlt⟩
      obtain ⟨b, o, rfl, hr⟩ := HOB.out.rd.at_ (by omega)
      obtain ⟨y, hy, hxy⟩ := HOB.out.is.at_ hx
      have HR := Lib.hid hr
      have HXK := Lib.hid hx
      have HY := Lib.hid (And.intro hxy (HSM.out y (List.mem_of_getElem? hy)))
      have hgn := Lg.runK_next (g0 := g0) hy
      have hbd := HBD.out k (by have := HOL.out; omega)
      have hbd2 := bd_all (HBD.out (k + 1) (by have := HOL.out; omega)) (by omega)
      obtain ⟨g, hg⟩ : ∃ g, g0.runK ys k = g := ⟨_, rfl⟩
      rw [hg] at HI hgn hbd
      obtain ⟨g2, hg2⟩ : ∃ g2, g.step y = g2 := ⟨_, rfl⟩
      rw [hg2] at hgn
      rw [hgn] at hbd2
      have HG2 := Lib.hid hg2
      clear HBD
      have HBD := Lib.hid hbd
      have HF2 := Lib.hid hbd2.1
      have HSM2 := Lib.hid hbd2.2.1
      have HLEN2 := Lib.hid hbd2.2.2
      have HK90 : Hid (k ≤ 90) := by show _ ≤ _; omega
      have hi0 : (0 : Int) ≤ (k : Int) := by omega
      have hi1 : (k : Int) < (os.length : Int) := by omega
      clear hr hx hy hxy hg hg2 hbd hbd2
      have HGK := Lib.hid hgn
      clear hgn
      go_upto_region 11 with (fail)
      replace HI := Lib.hid (HI.out.keep (Same.refl noB wr).drew)
      refine wp_region_T (S := RnS X b o k g.base g.term (.slice L ln lc) x) (late := fun j => [].contains j) (by kernel_rfl) ?_ (fun hHeld => ?_)
      · exact HI.out.s HR.out HXK.out
      obtain ⟨Wa, hWd⟩ : ∃ Wx, wr.drew = Wx := ⟨_, rfl⟩
      rw [hWd] at hHeld HI ⊢
      clear hWd
      refine T_pure (i := 0) (v := ?va1) rfl (by kernel_rfl) (by kernel_rfl) (by kernel_rfl) (fun _ _ _ h => h) (Or.inl ⟨?_, ?_⟩) ?_
      rotate_left 1
      · rfl
      · (intro w hSw; clear hSw; go_simp; (try with_reducible rfl))
      go_simp
      refine T_take (i := 1) (v := ?va2) rfl (by kernel_rfl) (by kernel_rfl) (by kernel_rfl) (by kernel_rfl) (fun _ _ _ h => h) (Or.inl ⟨?_, ?_⟩) (by assumption) ?_
      rotate_left 1
      · rfl
      · (intro w hSw; unfold RnS at hSw; go_simp; (try with_reducible rfl))
      go_simp
      refine T_pure (i := 2) (v := ?va3) rfl (by kernel_rfl) (by kernel_rfl) (by kernel_rfl) (fun _ _ _ h => h) (Or.inl ⟨?_, ?_⟩) ?_
      rotate_left 1
      · rfl
      · (intro w hSw; clear hSw; go_simp; (try with_reducible rfl))
      go_simp
      refine T_pure (i := 3) (v := ?va4) rfl (by kernel_rfl) (by kernel_rfl) (by kernel_rfl) (fun _ _ _ h => h) (Or.inl ⟨?_, ?_⟩) ?_
      rotate_left 1
      · rfl
      · (intro w hSw; clear hSw; go_simp; (try with_reducible rfl))
      go_simp
      refine T_pure (i := 4) (v := ?va5) rfl (by kernel_rfl) (by kernel_rfl) (by kernel_rfl) (fun _ _ _ h => h) (Or.inl ⟨?_, ?_⟩) ?_
      rotate_left 1
      · rfl
      · (intro w hSw; clear hSw; go_simp; (try with_reducible rfl))
      go_simp
      refine T_take (i := 5) (v := ?va6) rfl (by kernel_rfl) (by kernel_rfl) (by kernel_rfl) (by kernel_rfl) (fun _ _ _ h => h) (Or.inl ⟨?_, ?_⟩) (by assumption) ?_
      rotate_left 1
      · rfl
      · (intro w hSw; unfold RnS at hSw; go_simp; (try with_reducible rfl))
      go_simp
      refine T_ready (rs := [6, 10]) (by kernel_rfl) (by simp) ?_
      refine ReadyT.early rfl (fun K hK => ?_) (ReadyT.early rfl (fun K hK => ?_) ReadyT.nil)
      · go_simp
        have hZ := step_any HI.out.st (HI.out.op HY.out.1) HBD.out HK90.out HY.out.2
        unfold OpR.val at hZ
        rw [HG2.out] at hZ
        (with_reducible refine Calls.mono hZ ?_)
        clear hZ
        rintro r Wn6 hst
        obtain ⟨v2, es2, A3, n3, c3, ls3, rfl, hi2, hvv⟩ := HI.out.step hst
        clear HI hst
        have HI := Lib.hid hi2
        clear hi2 hvv
        clear hHeld
        go_wp2_with fail
        refine hK.out _ _ ?_ (fun hHeld => ?_)
        · exact HI.out.s HR.out HXK.out
        clear hK K
        refine T_pure (i := 7) (v := ?va7) rfl (by kernel_rfl) (by kernel_rfl) (by kernel_rfl) (fun _ _ _ h => h) (Or.inl ⟨?_, ?_⟩) ?_
        rotate_left 1
        · rfl
        · (intro w hSw; clear hSw; go_simp; (try with_reducible rfl))
        go_simp
        refine T_pure (i := 8) (v := ?va8) rfl (by kernel_rfl) (by kernel_rfl) (by kernel_rfl) (fun _ _ _ h => h) (Or.inl ⟨?_, ?_⟩) ?_
        rotate_left 1
        · rfl
        · (intro w hSw; clear hSw; go_simp; (try with_reducible rfl))
        go_simp
        refine T_pure (i := 9) (v := ?va9) rfl (by kernel_rfl) (by kernel_rfl) (by kernel_rfl) (fun _ _ _ h => h) (Or.inl ⟨?_, ?_⟩) ?_
        rotate_left 1
        · rfl
        · (intro w hSw; clear hSw; go_simp; (try with_reducible rfl))
        go_simp
        refine T_ready (rs := [10]) (by kernel_rfl) (by simp) ?_
        refine ReadyT.early rfl (fun K hK => ?_) ReadyT.nil
        go_simp
        clear hHeld
        have HV := Lib.hid (Blk.new (Wn6) 29 #[.int .i64 0, .int .i64 0, .slice none 0 0])
        have HVN : Hid (X < (Wn6).heap.size) := HI.out.xb.lt
        replace HI := Lib.hid (HI.out.alloc (.cells #[.int .i64 0, .int .i64 0, .slice none 0 0] 29))
        obtain ⟨Wn7, hWe⟩ : ∃ Wx, (Wn6).alloc (.cells #[.int .i64 0, .int .i64 0, .slice none 0 0] 29) = Wx := ⟨_, rfl⟩
        obtain ⟨V7, hVe⟩ : ∃ Vx, (Wn6).heap.size = Vx := ⟨_, rfl⟩
        rw [hWe, hVe]
        rw [hWe, hVe] at HV HI
        rw [hVe] at HVN
        clear hWe hVe
        refine hK.out _ _ ?_ (fun hHeld => ?_)
        · exact HI.out.s HR.out HXK.out
        clear hK K
        refine T_ready (rs := [11]) (by kernel_rfl) (by simp) ?_
        refine ReadyT.early rfl (fun K hK => ?_) ReadyT.nil
        have z0 := HV.out.frozen 0
        have z1 := HV.out.frozen 1
        have z2 := HV.out.frozen 2
        have y0 : (Wn7).cell? ⟨V7, 0, none⟩ = some (.int .i64 0) := HV.out.cell 0
        have y1 : (Wn7).cell? ⟨V7, 1, none⟩ = some (.int .i64 0) := HV.out.cell 1
        have y2 : (Wn7).cell? ⟨V7, 2, none⟩ = some (.slice none 0 0) := HV.out.cell 2
        have HB7 := Lib.hid (((HV.out.set_ 0 (.int .i64 g2.base)).set_ 1 (.int .i64 g2.term)).set_ 2 (.slice A3 n3 c3))
        have HS7 := Lib.hid ((((Same.refl (oneB V7) (Wn7)).set1 0 (.int .i64 g2.base)).set1 1 (.int .i64 g2.term)).set1 2 (.slice A3 n3 c3))
        replace HI := Lib.hid (HI.out.put HS7.out HVN.out)
        go_simp
        refine hK.out _ _ ?_ (fun hHeld => ?_)
        · exact HI.out.s HR.out HXK.out
        clear hK K
        clear z0 z1 z2 y0 y1 y2 HS7 HV
        refine T_pure (i := 12) (v := ?va10) rfl (by kernel_rfl) (by kernel_rfl) (by kernel_rfl) (fun _ _ _ h => h) (Or.inl ⟨?_, ?_⟩) ?_
        rotate_left 1
        · rfl
        · (intro w hSw; clear hSw; go_simp; (try with_reducible rfl))
        go_simp
        refine T_done (by kernel_rfl) ?_ _
        go_upto_region 12 with (fail)
        refine wp_abs (fun W => W.cell? ⟨V7, 0, none⟩ = some (.int .i64 g2.base) ∧ W.cell? ⟨V7, 1, none⟩ = some (.int .i64 g2.term) ∧ W.cell? ⟨V7, 2, none⟩ = some (.slice A3 n3 c3) ∧ Hid (RunJ B w W X V7 M v2 es2 (.slice A3 n3 c3) ls3 g2 g.base g.term (.slice L ln lc))) ⟨HB7.out.cell 0, HB7.out.cell 1, HB7.out.cell 2, HI.out⟩ ?_
        clear HI HB7 hHeld
        rintro W8 ⟨y0, y1, y2, HI⟩
        have HB8 := Lib.hid (row_stored HI.out.xb #[.int .i64 g2.base, .int .i64 g2.term, .slice A3 n3 c3])
        have HI8 := Lib.hid (HI.out.setX HB8.out.1 HB8.out.2)
        go_upto_region 13 with (refine wpList_store_row rfl 29 _ _ rfl X #[.int .i64 g2.base, .int .i64 g2.term, .slice A3 n3 c3] rfl rfl 29 _ HI.out.xb (by kernel_rfl) rfl (row29_one g2.base g2.term A3 n3 c3) ?_)
        refine wp_abs (fun W => RnX X g2.base g2.term (.slice A3 n3 c3) W ∧ Hid (RunJ B w W X X M v2 es2 (.slice A3 n3 c3) ls3 g2 g2.base g2.term (.slice A3 n3 c3))) ⟨HI8.out.sx, HI8.out⟩ ?_
        clear HI HB8 HI8 y0 y1 y2
        rintro W9 ⟨⟨y0, y1, y2⟩, HI⟩
        go_wp2_with fail
        (with_reducible refine Calls.mono (same_any HI.out.st.log HI.out.st.ref HF2.out HSM2.out HLEN2.out) ?_)
        rintro r W10 ⟨rfl, hs1⟩
        replace HI := Lib.hid (HI.out.keep hs1)
        clear hs1
        go_wp2_with fail
        go_roundg (gk - 1)
        case measure => have h1 := HK.out; omega
        case rel => exact ⟨k + 1, A3, n3, c3, v2, es2, ls3, by omega, by show _ = _; have h1 := HK.out; omega, by go_num, by show RunJ _ _ _ _ _ _ _ _ _ _ _ _ _ _; rw [HGK.out]; exact HI.out⟩
      · go_simp
        clear hHeld
        have HV := Lib.hid (Blk.new (Wa) 29 #[.int .i64 0, .int .i64 0, .slice none 0 0])
        have HVN : Hid (X < (Wa).heap.size) := HI.out.xb.lt
        replace HI := Lib.hid (HI.out.alloc (.cells #[.int .i64 0, .int .i64 0, .slice none 0 0] 29))
        obtain ⟨Wn8, hWe⟩ : ∃ Wx, (Wa).alloc (.cells #[.int .i64 0, .int .i64 0, .slice none 0 0] 29) = Wx := ⟨_, rfl⟩
        obtain ⟨V8, hVe⟩ : ∃ Vx, (Wa).heap.size = Vx := ⟨_, rfl⟩
        rw [hWe, hVe]
        rw [hWe, hVe] at HV HI
        rw [hVe] at HVN
        clear hWe hVe
        refine hK.out _ _ ?_ (fun hHeld => ?_)
        · exact HI.out.s HR.out HXK.out
        clear hK K
        refine T_ready (rs := [6]) (by kernel_rfl) (by simp) ?_
        refine ReadyT.early rfl (fun K hK => ?_) ReadyT.nil
        go_simp
        have hZ := step_any HI.out.st (HI.out.op HY.out.1) HBD.out HK90.out HY.out.2
        unfold OpR.val at hZ
        rw [HG2.out] at hZ
        (with_reducible refine Calls.mono hZ ?_)
        clear hZ
        rintro r Wn9 hst
        obtain ⟨v2, es2, A3, n3, c3, ls3, rfl, hi2, hvv⟩ := HI.out.step hst
        replace HV := Lib.hid (hvv _ HV.out)
        clear HI hst
        have HI := Lib.hid hi2
        clear hi2 hvv
        clear hHeld
        go_wp2_with fail
        refine hK.out _ _ ?_ (fun hHeld => ?_)
        · exact HI.out.s HR.out HXK.out
        clear hK K
        refine T_pure (i := 7) (v := ?va11) rfl (by kernel_rfl) (by kernel_rfl) (by kernel_rfl) (fun _ _ _ h => h) (Or.inl ⟨?_, ?_⟩) ?_
        rotate_left 1
        · rfl
        · (intro w hSw; clear hSw; go_simp; (try with_reducible rfl))
        go_simp
        refine T_pure (i := 8) (v := ?va12) rfl (by kernel_rfl) (by kernel_rfl) (by kernel_rfl) (fun _ _ _ h => h) (Or.inl ⟨?_, ?_⟩) ?_
        rotate_left 1
        · rfl
        · (intro w hSw; clear hSw; go_simp; (try with_reducible rfl))
        go_simp
        refine T_pure (i := 9) (v := ?va13) rfl (by kernel_rfl) (by kernel_rfl) (by kernel_rfl) (fun _ _ _ h => h) (Or.inl ⟨?_, ?_⟩) ?_
        rotate_left 1
        · rfl
        · (intro w hSw; clear hSw; go_simp; (try with_reducible rfl))
        go_simp
        refine T_ready (rs := [11]) (by kernel_rfl) (by simp) ?_
        refine ReadyT.early rfl (fun K hK => ?_) ReadyT.nil
        have z0 := HV.out.frozen 0
        have z1 := HV.out.frozen 1
        have z2 := HV.out.frozen 2
        have y0 : (Wn9).cell? ⟨V8, 0, none⟩ = some (.int .i64 0) := HV.out.cell 0
        have y1 : (Wn9).cell? ⟨V8, 1, none⟩ = some (.int .i64 0) := HV.out.cell 1
        have y2 : (Wn9).cell? ⟨V8, 2, none⟩ = some (.slice none 0 0) := HV.out.cell 2
        have HB7 := Lib.hid (((HV.out.set_ 0 (.int .i64 g2.base)).set_ 1 (.int .i64 g2.term)).set_ 2 (.slice A3 n3 c3))
        have HS7 := Lib.hid ((((Same.refl (oneB V8) (Wn9)).set1 0 (.int .i64 g2.base)).set1 1 (.int .i64 g2.term)).set1 2 (.slice A3 n3 c3))
        replace HI := Lib.hid (HI.out.put HS7.out HVN.out)
        go_simp
        refine hK.out _ _ ?_ (fun hHeld => ?_)
        · exact HI.out.s HR.out HXK.out
        clear hK K
        clear z0 z1 z2 y0 y1 y2 HS7 HV
        refine T_pure (i := 12) (v := ?va14) rfl (by kernel_rfl) (by kernel_rfl) (by kernel_rfl) (fun _ _ _ h => h) (Or.inl ⟨?_, ?_⟩) ?_
        rotate_left 1
        · rfl
        · (intro w hSw; clear hSw; go_simp; (try with_reducible rfl))
        go_simp
        refine T_done (by kernel_rfl) ?_ _
        go_upto_region 12 with (fail)
        refine wp_abs (fun W => W.cell? ⟨V8, 0, none⟩ = some (.int .i64 g2.base) ∧ W.cell? ⟨V8, 1, none⟩ = some (.int .i64 g2.term) ∧ W.cell? ⟨V8, 2, none⟩ = some (.slice A3 n3 c3) ∧ Hid (RunJ B w W X V8 M v2 es2 (.slice A3 n3 c3) ls3 g2 g.base g.term (.slice L ln lc))) ⟨HB7.out.cell 0, HB7.out.cell 1, HB7.out.cell 2, HI.out⟩ ?_
        clear HI HB7 hHeld
        rintro W8 ⟨y0, y1, y2, HI⟩
        have HB8 := Lib.hid (row_stored HI.out.xb #[.int .i64 g2.base, .int .i64 g2.term, .slice A3 n3 c3])
        have HI8 := Lib.hid (HI.out.setX HB8.out.1 HB8.out.2)
        go_upto_region 13 with (refine wpList_store_row rfl 29 _ _ rfl X #[.int .i64 g2.base, .int .i64 g2.term, .slice A3 n3 c3] rfl rfl 29 _ HI.out.xb (by kernel_rfl) rfl (row29_one g2.base g2.term A3 n3 c3) ?_)
        refine wp_abs (fun W => RnX X g2.base g2.term (.slice A3 n3 c3) W ∧ Hid (RunJ B w W X X M v2 es2 (.slice A3 n3 c3) ls3 g2 g2.base g2.term (.slice A3 n3 c3))) ⟨HI8.out.sx, HI8.out⟩ ?_
        clear HI HB8 HI8 y0 y1 y2
        rintro W9 ⟨⟨y0, y1, y2⟩, HI⟩
        go_wp2_with fail
        (with_reducible refine Calls.mono (same_any HI.out.st.log HI.out.st.ref HF2.out HSM2.out HLEN2.out) ?_)
        rintro r W10 ⟨rfl, hs1⟩
        replace HI := Lib.hid (HI.out.keep hs1)
        clear hs1
        go_wp2_with fail
        go_roundg (gk - 1)
        case measure => have h1 := HK.out; omega
        case rel => exact ⟨k + 1, A3, n3, c3, v2, es2, ls3, by omega, by show _ = _; have h1 := HK.out; omega, by go_num, by show RunJ _ _ _ _ _ _ _ _ _ _ _ _ _ _; rw [HGK.out]; exact HI.out⟩
    · obtain rfl : k = os.length := by omega
      go_wp2_with fail
      go_ret
      exact ⟨rfl, HI.out.since⟩
end Go.Proofs.Ytlocfbjeljgblaa
