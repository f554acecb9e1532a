/- Layer 36: the law's run. (printed by genRepSG.py) -/
import Derived.Test.YtlocfbjeljgblaaRepSF
import Derived.Test.YtlocfbjeljgblaaRepY
namespace Go.Proofs.Ytlocfbjeljgblaa
open Go Go.RowKit
set_option maxRecDepth 100000

/-- The log after the first k calls. -/
def Lg.runK (g0 : Lg) (ys : List OpV) (k : Nat) : Lg := (ys.take k).foldl Lg.step g0
theorem Lg.runK_next {g0 : Lg} {ys : List OpV} {k : Nat} {y : OpV} (h : ys[k]? = some y) : g0.runK ys (k + 1) = (g0.runK ys k).step y := by
  unfold Lg.runK
  rw [take_snoc h, List.foldl_append]
  rfl
theorem Lg.runK_bd {g0 : Lg} (h0 : g0.Bd 0) {ys : List OpV} (hs : ∀ y ∈ ys, y.Small) {k : Nat} (hk : k ≤ ys.length) : (g0.runK ys k).Bd k := by
  induction k with
  | zero => exact h0
  | succ k ih =>
    have hy : ys[k]? = some ys[k] := List.getElem?_eq_getElem hk
    rw [Lg.runK_next hy]
    exact (ih (by omega)).step (hs _ (List.getElem_mem hk))
theorem Lg.runK_all (g0 : Lg) (ys : List OpV) : g0.runK ys ys.length = ys.foldl Lg.step g0 := by unfold Lg.runK; rw [List.take_length]
def b3 (B : Nat → Prop) (R X V : Nat) : Nat → Prop := fun b => B b ∨ b = R ∨ b = X ∨ b = V
/-- A law's boxes around a log. -/
structure RunI (B : Nat → Prop) (w W : World) (R X V M : Nat) (v : Value) (es : List En) (lv : Value) (ls : List En) (g : Lg) (b t : Int) (xv : Value) : Prop where
  st : St (b3 B R X V) W M v es lv ls g
  rb : Blk W R 29 #[.int .i64 0, .int .i64 0, .slice none 0 0]
  xb : Blk W X 29 #[.int .i64 b, .int .i64 t, xv]
  since : Same noB w W
  m0 : ∀ b, lgB M v b → w.heap.size ≤ b
  rx : w.heap.size ≤ R ∧ R < X ∧ X ≤ V
def RnS (X b o k : Nat) (base term : Int) (lv : Value) (x : OpR) (W : World) : Prop := W.cell? ⟨X, 0, none⟩ = some (.int .i64 base) ∧ W.cell? ⟨X, 1, none⟩ = some (.int .i64 term) ∧ W.cell? ⟨X, 2, none⟩ = some lv ∧ W.cell? ⟨b, o + k * 5, none⟩ = some (.int .i64 x.k) ∧ W.cell? ⟨b, o + k * 5 + 1, none⟩ = some (.int .i64 x.a) ∧ W.cell? ⟨b, o + k * 5 + 2, none⟩ = some (.int .i64 x.b) ∧ W.cell? ⟨b, o + k * 5 + 3, none⟩ = some (.bool x.fit) ∧ W.cell? ⟨b, o + k * 5 + 4, none⟩ = some (.slice x.l.addr x.l.len x.l.cap)
def RnX (X : Nat) (base term : Int) (lv : Value) (W : World) : Prop := W.cell? ⟨X, 0, none⟩ = some (.int .i64 base) ∧ W.cell? ⟨X, 1, none⟩ = some (.int .i64 term) ∧ W.cell? ⟨X, 2, none⟩ = some lv
namespace RunI
variable {B : Nat → Prop} {w W W' : World} {R X V M : Nat} {v lv xv : Value} {es ls : List En} {g : Lg} {b t : Int}
theorem keep (h : RunI B w W R X V M v es lv ls g b t xv) (hs : Same noB W W') : RunI B w W' R X V M v es lv ls g b t xv :=
  ⟨h.st.keep hs, h.rb.same hs (fun x => x), h.xb.same hs (fun x => x), h.since.trans' hs, h.m0, h.rx⟩
theorem sx (h : RunI B w W R X V M v es lv ls g b t xv) : RnX X b t xv W := ⟨h.xb.cell 0, h.xb.cell 1, h.xb.cell 2⟩
theorem s (h : RunI B w W R X V M v es lv ls g b t xv) {bb o k : Nat} {os : List OpR} {x : OpR} (hr : RdAt w B bb o (ocells os)) (hx : os[k]? = some x) : RnS X bb o k b t xv x W := by
  obtain ⟨p0, p1, p2, p3, p4⟩ := op_at hr hx
  exact ⟨h.xb.cell 0, h.xb.cell 1, h.xb.cell 2, h.since.cell p0 (fun x => x), h.since.cell p1 (fun x => x), h.since.cell p2 (fun x => x), h.since.cell p3 (fun x => x), h.since.cell p4 (fun x => x)⟩
theorem op (h : RunI B w W R X V M v es lv ls g b t xv) {x : OpR} {y : OpV} (hx : OpIs w B x y) : OpIs W (bd (b3 B R X V) M v) x y :=
  hx.same h.since (fun _ _ x => x.elim) (fun c hc hx => by
    have hrx := h.rx
    rcases hx with hx | hx | hx
    · have := h.m0 c hx; omega
    · exact hx
    · omega)
theorem alloc (h : RunI B w W R X V M v es lv ls g b t xv) (o : Obj) : RunI B w (W.alloc o) R X W.heap.size M v es lv ls g b t xv := by
  have hs := (Same.refl noB W).alloc o
  have hxl := h.xb.lt
  refine ⟨h.st.more hs (fun c hc => ?_), h.rb.alloc o, h.xb.alloc o, h.since.alloc o, h.m0, ⟨h.rx.1, h.rx.2.1, by omega⟩⟩
  rcases hc with hc | hc | hc | hc
  · exact .inl (.inl hc)
  · exact .inl (.inr (.inl hc))
  · exact .inl (.inr (.inr (.inl hc)))
  · exact .inr ⟨by omega, by rw [World.size_alloc]; omega⟩
theorem put (h : RunI B w W R X V M v es lv ls g b t xv) (hs : Same (oneB V) W W') (hV : X < V) : RunI B w W' R X V M v es lv ls g b t xv := by
  have hrx := h.rx
  exact ⟨h.st.put hs (fun c e => .inr (.inr (.inr e))), h.rb.same hs (fun e => by have h3 : R = V := e; omega), h.xb.same hs (fun e => by have h3 : X = V := e; omega), h.since.trans hs (fun c hc e => by have h3 : c = V := e; omega), h.m0, hrx⟩
theorem setX (h : RunI B w W R X V M v es lv ls g b t xv) {b' t' : Int} {xv' : Value} (hb : Blk W' X 29 #[.int .i64 b', .int .i64 t', xv']) (hs : Same (oneB X) W W') : RunI B w W' R X X M v es lv ls g b' t' xv' := by
  have hrx := h.rx
  refine ⟨(h.st.put hs (fun c e => .inr (.inr (.inl e)))).less (fun c hc => ?_), h.rb.same hs (fun e => by have h3 : R = X := e; omega), hb, h.since.trans hs (fun c hc e => by have h3 : c = X := e; omega), h.m0, ⟨hrx.1, hrx.2.1, Nat.le_refl _⟩⟩
  rcases hc with hc | hc | hc | hc
  · exact .inl hc
  · exact .inr (.inl hc)
  · exact .inr (.inr (.inl hc))
  · exact .inr (.inr (.inl hc))
theorem step (h : RunI B w W R X V M v es lv ls g b t xv) {g2 : Lg} {e : Ending} (hst : StepTo (b3 B R X V) W M v g2 e W') : ∃ v' es' A n c ls', e = .returned (.tuple #[.agg #[.int .i64 g2.base, .int .i64 g2.term, .slice A n c], .bool true]) ∧ RunI B w W' R X V M v' es' (.slice A n c) ls' g2 b t xv ∧ ∀ cs, Blk W V 29 cs → Blk W' V 29 cs := by
  obtain ⟨v', es', A, n, c, ls', rfl, h1, h2, h3⟩ := hst
  have hz := h.since.size
  refine ⟨v', es', A, n, c, ls', rfl, ⟨h1, h.rb.same h2 (h.st.old R (.inr (.inl rfl))).2, h.xb.same h2 (h.st.old X (.inr (.inr (.inl rfl)))).2, h.since.trans h2 (fun c hc e => by have := h.m0 c e; omega), fun c hc => ?_, h.rx⟩, fun cs hb => hb.same h2 (h.st.old V (.inr (.inr (.inr rfl)))).2⟩
  rcases hc with hc | hc
  · exact h.m0 c (.inl hc)
  · rcases h3 c hc.symm with hc | hc
    · exact h.m0 c (.inr hc.symm)
    · omega
theorem sxR (h : RunI B w W R X V M v es lv ls g b t xv) (hs : Same (oneB R) W W') : RnX X b t xv W' := by
  have hrx := h.rx
  have hb := h.xb.same hs (fun e => by have h3 : X = R := e; omega)
  exact ⟨hb.cell 0, hb.cell 1, hb.cell 2⟩
theorem fin (h : RunI B w W R X V M v es lv ls g b t xv) (hs : Same (oneB R) W W') : St B W' M v es lv ls g ∧ Same noB w W' ∧ ∀ b, lgB M v b → w.heap.size ≤ b :=
  ⟨(h.st.put hs (fun c e => .inr (.inl e))).less (fun c hc => .inl hc), h.since.trans hs (fun c hc e => by have h3 : c = R := e; have := h.rx; omega), h.m0⟩
/-- Around a log that was just made. -/
theorem start {W1 : World} {g0 : Lg} (hB : ∀ b, B b → b < w.heap.size) (hR : Blk W1 R 29 #[.int .i64 0, .int .i64 0, .slice none 0 0]) (hs : Same noB w W1) (hw : w.heap.size ≤ R) (hRM : R < M) (hl : LogIs W1 M (.slice none 0 0) [] g0) (hg : g0.es = []) {W2 : World} (hs2 : Same (oneB W1.heap.size) W1 W2) (hX : Blk W2 W1.heap.size 29 #[.int .i64 g0.base, .int .i64 g0.term, .slice none 0 0]) : RunI B w W2 R W1.heap.size W1.heap.size M (.slice none 0 0) [] (.slice none 0 0) [] g0 g0.base g0.term (.slice none 0 0) := by
  have hm := hl.box.lt
  have hz := hs2.size
  have hxl := hX.lt
  have hrl := hR.lt
  have hsz := hs.size
  have hl2 : LogIs W2 M (.slice none 0 0) [] g0 := ⟨hl.box.same hs2 (fun e => by have h3 : M = W1.heap.size := e; omega), own_same hl.own hs2 (fun b hb => by simp [Value.ownBlock] at hb), by rw [hg]; exact .nil⟩
  refine ⟨⟨hl2, by rw [hg]; exact .nil, ⟨Rd.nil_ _ _ _, by rw [hg]; exact .nil⟩, fun c hc => ?_⟩, hR.same hs2 (fun e => by have h3 : R = W1.heap.size := e; omega), hX, hs.trans hs2 (fun c hc e => by have h3 : c = W1.heap.size := e; omega), fun c hc => ?_, ⟨hw, hrl, Nat.le_refl _⟩⟩
  · have hc3 : c < W2.heap.size ∧ c ≠ M := by
      rcases hc with hc | hc | hc | hc
      · have := hB c hc; omega
      · omega
      · omega
      · omega
    refine ⟨hc3.1, fun e => ?_⟩
    rcases e with e | e
    · exact hc3.2 e
    · simp [Value.ownBlock] at e
  · rcases hc with hc | hc
    · omega
    · simp [Value.ownBlock] at hc
end RunI
set_option maxHeartbeats 16000000 in
theorem run_any {w : World} {B : Nat → Prop} {ov : Value} {os : List OpR} {ys : List OpV} (ho : OpL w B ov os ys) (hB : ∀ b, B b → b < w.heap.size) (hn : ys.length ≤ 90) (hs : ∀ y ∈ ys, y.Small) :
    Calls Try.prog 15 #[ov] w fun r w' => ∃ M v es A n c ls, r = .returned (.tuple #[.pointer (some ⟨M, 0, none⟩), .agg #[.int .i64 ((Lg.new 0 0).runK ys os.length).base, .int .i64 ((Lg.new 0 0).runK ys os.length).term, .slice A n c], .bool true]) ∧ St B w' M v es (.slice A n c) ls ((Lg.new 0 0).runK ys os.length) ∧ Same noB w w' ∧ ∀ b, lgB M v b → w.heap.size ≤ b := by
  have hol := ho.is.len
  obtain ⟨OA, oc, rfl, hc1, hc2, hor⟩ := ho.rd.form
  have hbl : os.length ≤ 90 := by omega
  have HO := Lib.hid ho
  have HSM := Lib.hid hs
  have HBB := Lib.hid hB
  have HOL := Lib.hid hol
  have HBD := Lib.hid (fun (k : Nat) (hk : k ≤ ys.length) => Lg.runK_bd (Lg.Bd.new_ (i := 0) (t := 0) (by omega) 0) hs hk)
  clear ho hs hn hB hor hol
  obtain ⟨g0, hg0⟩ : ∃ g0, Lg.new 0 0 = g0 := ⟨_, rfl⟩
  have HG0 := Lib.hid hg0
  rw [hg0] at HBD ⊢
  clear hg0
  go_enter Try.func15, Try.ntmps15
  go_upto_region 1 with (fail)
  refine wp_abs (fun W => Hid (Blk W w.heap.size 29 #[.int .i64 0, .int .i64 0, .slice none 0 0]) ∧ Hid (Same noB w W)) ⟨Blk.new w 29 _, (Same.refl _ _).alloc _⟩ ?_
  rintro W0 ⟨HR0, HS⟩
  have HWR : Hid (w.heap.size ≤ w.heap.size) := Nat.le_refl _
  obtain ⟨R, hR⟩ : ∃ R, w.heap.size = R := ⟨_, rfl⟩
  replace HWR : Hid (w.heap.size ≤ R) := by rw [hR] at HWR ⊢; exact HWR
  rw [hR] at HR0 ⊢
  clear hR
  go_wp2_with fail
  (with_reducible refine Calls.mono (new_any W0 0 0) ?_)
  rintro r W1 ⟨M, rfl, hM, hl, hs1⟩
  have HM : Hid (R < M) := by have h3 := HR0.out.lt; show _ < _; omega
  rw [HG0.out] at hl
  have HL := Lib.hid hl
  replace HR0 := Lib.hid (HR0.out.same hs1 (fun x => x))
  replace HS := Lib.hid (HS.out.trans' hs1)
  clear hM hl hs1
  go_wp2_with fail
  (with_reducible refine Calls.mono (rnew_any W1 0 0) ?_)
  rintro r W2 ⟨rfl, hs1⟩
  rw [HG0.out]
  replace HR0 := Lib.hid (HR0.out.same hs1 (fun x => x))
  replace HS := Lib.hid (HS.out.trans' hs1)
  replace HL := Lib.hid (HL.out.keep hs1)
  clear hs1
  have hge : g0.es = [] := by rw [← HG0.out]; rfl
  have HRX := Lib.hid (row_stored (Blk.new W2 29 #[.int .i64 0, .int .i64 0, .slice none 0 0]) #[.int .i64 g0.base, .int .i64 g0.term, .slice none 0 0])
  have hst := RunI.start HBB.out HR0.out HS.out HWR.out HM.out HL.out hge (((Same.refl (oneB W2.heap.size) W2).alloc (.cells #[.int .i64 0, .int .i64 0, .slice none 0 0] 29)).trans' HRX.out.2) HRX.out.1
  go_upto_region 2 with (refine wpList_store_row rfl 29 _ _ rfl W2.heap.size #[.int .i64 g0.base, .int .i64 g0.term, .slice none 0 0] rfl rfl 29 _ (Blk.new W2 29 #[.int .i64 0, .int .i64 0, .slice none 0 0]) (by kernel_rfl) rfl (row29_one g0.base g0.term none 0 0) ?_)
  refine wp_abs (fun W => Hid (RunI B w W R W2.heap.size W2.heap.size M (.slice none 0 0) [] (.slice none 0 0) [] g0 g0.base g0.term (.slice none 0 0))) hst ?_
  clear HRX hst HL HS HR0 HWR HM HBB hge HG0
  rintro W3 HI
  obtain ⟨X, hX⟩ : ∃ X, W2.heap.size = X := ⟨_, rfl⟩
  rw [hX] at HI ⊢
  clear hX
  go_wp2_with fail
  go_loopg [18] (os.length) (fun gk q wr => ∃ (k : Nat) (L : Option Addr) (ln lc : Nat) (v : Value) (es ls : List En), k ≤ os.length ∧ Hid (gk + k = os.length) ∧ q = .int .i64 k ∧ Hid (RunI B w wr R X X M v es (.slice L ln lc) ls (g0.runK ys k) (g0.runK ys k).base (g0.runK ys k).term (.slice L ln lc)))
  case atStart => exact ⟨0, _, _, _, _, [], [], Nat.zero_le _, rfl, rfl, HI.out⟩
  case round =>
    clear HI
    obtain ⟨k, L, ln, lc, v, es, ls, hk, HK, rfl, HI⟩ := hrel
    by_cases hlt : k < os.length
    · obtain ⟨x, hx⟩ : ∃ x, os[k]? = some x := ⟨_, List.getElem?_eq_getElem hlt⟩
      obtain ⟨b, o, rfl, hr⟩ := HO.out.rd.at_ (by omega)
      obtain ⟨y, hy, hxy⟩ := HO.out.is.at_ hx
      have HR := Lib.hid hr
      have HXK := Lib.hid hx
      have HY := Lib.hid (And.intro hxy (HSM.out y (List.mem_of_getElem? hy)))
      have hgn := Lg.runK_next (g0 := g0) hy
      have hbd := HBD.out k (by have := HOL.out; omega)
      obtain ⟨g, hg⟩ : ∃ g, g0.runK ys k = g := ⟨_, rfl⟩
      rw [hg] at HI hgn hbd
      obtain ⟨g2, hg2⟩ : ∃ g2, g.step y = g2 := ⟨_, rfl⟩
      rw [hg2] at hgn
      have HG2 := Lib.hid hg2
      clear HBD
      have HBD := Lib.hid hbd
      have HK90 : Hid (k ≤ 90) := by show _ ≤ _; omega
      have hi0 : (0 : Int) ≤ (k : Int) := by omega
      have hi1 : (k : Int) < (os.length : Int) := by omega
      have HGK : Hid (RunI B w W3 R X X M v es (.slice L ln lc) ls g g.base g.term (.slice L ln lc) → True) := fun _ => trivial
      clear hr hx hy hxy hg hg2 hbd HGK
      have HGK := Lib.hid hgn
      clear hgn
      go_upto_region 7 with (fail)
      replace HI := Lib.hid (HI.out.keep (Same.refl noB wr).drew)
      refine wp_region_T (S := RnS X b o k g.base g.term (.slice L ln lc) x) (late := fun j => [].contains j) (by kernel_rfl) ?_ (fun hHeld => ?_)
      · exact HI.out.s HR.out HXK.out
      obtain ⟨Wa, hWd⟩ : ∃ Wx, wr.drew = Wx := ⟨_, rfl⟩
      rw [hWd] at hHeld HI ⊢
      clear hWd
      refine T_pure (i := 0) (v := ?va1) rfl (by kernel_rfl) (by kernel_rfl) (by kernel_rfl) (fun _ _ _ h => h) (Or.inl ⟨?_, ?_⟩) ?_
      rotate_left 1
      · rfl
      · (intro w hSw; clear hSw; go_simp; (try with_reducible rfl))
      go_simp
      refine T_take (i := 1) (v := ?va2) rfl (by kernel_rfl) (by kernel_rfl) (by kernel_rfl) (by kernel_rfl) (fun _ _ _ h => h) (Or.inl ⟨?_, ?_⟩) (by assumption) ?_
      rotate_left 1
      · rfl
      · (intro w hSw; unfold RnS at hSw; go_simp; (try with_reducible rfl))
      go_simp
      refine T_pure (i := 2) (v := ?va3) rfl (by kernel_rfl) (by kernel_rfl) (by kernel_rfl) (fun _ _ _ h => h) (Or.inl ⟨?_, ?_⟩) ?_
      rotate_left 1
      · rfl
      · (intro w hSw; clear hSw; go_simp; (try with_reducible rfl))
      go_simp
      refine T_pure (i := 3) (v := ?va4) rfl (by kernel_rfl) (by kernel_rfl) (by kernel_rfl) (fun _ _ _ h => h) (Or.inl ⟨?_, ?_⟩) ?_
      rotate_left 1
      · rfl
      · (intro w hSw; clear hSw; go_simp; (try with_reducible rfl))
      go_simp
      refine T_pure (i := 4) (v := ?va5) rfl (by kernel_rfl) (by kernel_rfl) (by kernel_rfl) (fun _ _ _ h => h) (Or.inl ⟨?_, ?_⟩) ?_
      rotate_left 1
      · rfl
      · (intro w hSw; clear hSw; go_simp; (try with_reducible rfl))
      go_simp
      refine T_take (i := 5) (v := ?va6) rfl (by kernel_rfl) (by kernel_rfl) (by kernel_rfl) (by kernel_rfl) (fun _ _ _ h => h) (Or.inl ⟨?_, ?_⟩) (by assumption) ?_
      rotate_left 1
      · rfl
      · (intro w hSw; unfold RnS at hSw; go_simp; (try with_reducible rfl))
      go_simp
      refine T_ready (rs := [6, 10]) (by kernel_rfl) (by simp) ?_
      refine ReadyT.early rfl (fun K hK => ?_) (ReadyT.early rfl (fun K hK => ?_) ReadyT.nil)
      · go_simp
        have hZ := step_any HI.out.st (HI.out.op HY.out.1) HBD.out HK90.out HY.out.2
        unfold OpR.val at hZ
        rw [HG2.out] at hZ
        (with_reducible refine Calls.mono hZ ?_)
        clear hZ
        rintro r Wn1 hst
        obtain ⟨v2, es2, A3, n3, c3, ls3, rfl, hi2, hvv⟩ := HI.out.step hst
        clear HI hst
        have HI := Lib.hid hi2
        clear hi2 hvv
        clear hHeld
        go_wp2_with fail
        refine hK.out _ _ ?_ (fun hHeld => ?_)
        · exact HI.out.s HR.out HXK.out
        clear hK K
        refine T_pure (i := 7) (v := ?va7) rfl (by kernel_rfl) (by kernel_rfl) (by kernel_rfl) (fun _ _ _ h => h) (Or.inl ⟨?_, ?_⟩) ?_
        rotate_left 1
        · rfl
        · (intro w hSw; clear hSw; go_simp; (try with_reducible rfl))
        go_simp
        refine T_pure (i := 8) (v := ?va8) rfl (by kernel_rfl) (by kernel_rfl) (by kernel_rfl) (fun _ _ _ h => h) (Or.inl ⟨?_, ?_⟩) ?_
        rotate_left 1
        · rfl
        · (intro w hSw; clear hSw; go_simp; (try with_reducible rfl))
        go_simp
        refine T_pure (i := 9) (v := ?va9) rfl (by kernel_rfl) (by kernel_rfl) (by kernel_rfl) (fun _ _ _ h => h) (Or.inl ⟨?_, ?_⟩) ?_
        rotate_left 1
        · rfl
        · (intro w hSw; clear hSw; go_simp; (try with_reducible rfl))
        go_simp
        refine T_ready (rs := [10]) (by kernel_rfl) (by simp) ?_
        refine ReadyT.early rfl (fun K hK => ?_) ReadyT.nil
        go_simp
        clear hHeld
        have HV := Lib.hid (Blk.new (Wn1) 29 #[.int .i64 0, .int .i64 0, .slice none 0 0])
        have HVN : Hid (X < (Wn1).heap.size) := HI.out.xb.lt
        replace HI := Lib.hid (HI.out.alloc (.cells #[.int .i64 0, .int .i64 0, .slice none 0 0] 29))
        obtain ⟨Wn2, hWe⟩ : ∃ Wx, (Wn1).alloc (.cells #[.int .i64 0, .int .i64 0, .slice none 0 0] 29) = Wx := ⟨_, rfl⟩
        obtain ⟨V2, hVe⟩ : ∃ Vx, (Wn1).heap.size = Vx := ⟨_, rfl⟩
        rw [hWe, hVe]
        rw [hWe, hVe] at HV HI
        rw [hVe] at HVN
        clear hWe hVe
        refine hK.out _ _ ?_ (fun hHeld => ?_)
        · exact HI.out.s HR.out HXK.out
        clear hK K
        refine T_ready (rs := [11]) (by kernel_rfl) (by simp) ?_
        refine ReadyT.early rfl (fun K hK => ?_) ReadyT.nil
        have z0 := HV.out.frozen 0
        have z1 := HV.out.frozen 1
        have z2 := HV.out.frozen 2
        have y0 : (Wn2).cell? ⟨V2, 0, none⟩ = some (.int .i64 0) := HV.out.cell 0
        have y1 : (Wn2).cell? ⟨V2, 1, none⟩ = some (.int .i64 0) := HV.out.cell 1
        have y2 : (Wn2).cell? ⟨V2, 2, none⟩ = some (.slice none 0 0) := HV.out.cell 2
        have HB7 := Lib.hid (((HV.out.set_ 0 (.int .i64 g2.base)).set_ 1 (.int .i64 g2.term)).set_ 2 (.slice A3 n3 c3))
        have HS7 := Lib.hid ((((Same.refl (oneB V2) (Wn2)).set1 0 (.int .i64 g2.base)).set1 1 (.int .i64 g2.term)).set1 2 (.slice A3 n3 c3))
        replace HI := Lib.hid (HI.out.put HS7.out HVN.out)
        go_simp
        refine hK.out _ _ ?_ (fun hHeld => ?_)
        · exact HI.out.s HR.out HXK.out
        clear hK K
        clear z0 z1 z2 y0 y1 y2 HS7 HV
        refine T_pure (i := 12) (v := ?va10) rfl (by kernel_rfl) (by kernel_rfl) (by kernel_rfl) (fun _ _ _ h => h) (Or.inl ⟨?_, ?_⟩) ?_
        rotate_left 1
        · rfl
        · (intro w hSw; clear hSw; go_simp; (try with_reducible rfl))
        go_simp
        refine T_done (by kernel_rfl) ?_ _
        go_upto_region 8 with (fail)
        refine wp_abs (fun W => W.cell? ⟨V2, 0, none⟩ = some (.int .i64 g2.base) ∧ W.cell? ⟨V2, 1, none⟩ = some (.int .i64 g2.term) ∧ W.cell? ⟨V2, 2, none⟩ = some (.slice A3 n3 c3) ∧ Hid (RunI B w W R X V2 M v2 es2 (.slice A3 n3 c3) ls3 g2 g.base g.term (.slice L ln lc))) ⟨HB7.out.cell 0, HB7.out.cell 1, HB7.out.cell 2, HI.out⟩ ?_
        clear HI HB7 hHeld
        rintro W8 ⟨y0, y1, y2, HI⟩
        have HB8 := Lib.hid (row_stored HI.out.xb #[.int .i64 g2.base, .int .i64 g2.term, .slice A3 n3 c3])
        have HI8 := Lib.hid (HI.out.setX HB8.out.1 HB8.out.2)
        go_wp2_with (refine wpList_store_row rfl 29 _ _ rfl X #[.int .i64 g2.base, .int .i64 g2.term, .slice A3 n3 c3] rfl rfl 29 _ HI.out.xb (by kernel_rfl) rfl (row29_one g2.base g2.term A3 n3 c3) ?_)
        go_roundg (gk - 1)
        case measure => have h1 := HK.out; omega
        case rel => exact ⟨k + 1, A3, n3, c3, v2, es2, ls3, by omega, by show _ = _; have h1 := HK.out; omega, by go_num, by show RunI _ _ _ _ _ _ _ _ _ _ _ _ _ _ _; rw [HGK.out]; exact HI8.out⟩
      · go_simp
        clear hHeld
        have HV := Lib.hid (Blk.new (Wa) 29 #[.int .i64 0, .int .i64 0, .slice none 0 0])
        have HVN : Hid (X < (Wa).heap.size) := HI.out.xb.lt
        replace HI := Lib.hid (HI.out.alloc (.cells #[.int .i64 0, .int .i64 0, .slice none 0 0] 29))
        obtain ⟨Wn3, hWe⟩ : ∃ Wx, (Wa).alloc (.cells #[.int .i64 0, .int .i64 0, .slice none 0 0] 29) = Wx := ⟨_, rfl⟩
        obtain ⟨V3, hVe⟩ : ∃ Vx, (Wa).heap.size = Vx := ⟨_, rfl⟩
        rw [hWe, hVe]
        rw [hWe, hVe] at HV HI
        rw [hVe] at HVN
        clear hWe hVe
        refine hK.out _ _ ?_ (fun hHeld => ?_)
        · exact HI.out.s HR.out HXK.out
        clear hK K
        refine T_ready (rs := [6]) (by kernel_rfl) (by simp) ?_
        refine ReadyT.early rfl (fun K hK => ?_) ReadyT.nil
        go_simp
        have hZ := step_any HI.out.st (HI.out.op HY.out.1) HBD.out HK90.out HY.out.2
        unfold OpR.val at hZ
        rw [HG2.out] at hZ
        (with_reducible refine Calls.mono hZ ?_)
        clear hZ
        rintro r Wn4 hst
        obtain ⟨v2, es2, A3, n3, c3, ls3, rfl, hi2, hvv⟩ := HI.out.step hst
        replace HV := Lib.hid (hvv _ HV.out)
        clear HI hst
        have HI := Lib.hid hi2
        clear hi2 hvv
        clear hHeld
        go_wp2_with fail
        refine hK.out _ _ ?_ (fun hHeld => ?_)
        · exact HI.out.s HR.out HXK.out
        clear hK K
        refine T_pure (i := 7) (v := ?va11) rfl (by kernel_rfl) (by kernel_rfl) (by kernel_rfl) (fun _ _ _ h => h) (Or.inl ⟨?_, ?_⟩) ?_
        rotate_left 1
        · rfl
        · (intro w hSw; clear hSw; go_simp; (try with_reducible rfl))
        go_simp
        refine T_pure (i := 8) (v := ?va12) rfl (by kernel_rfl) (by kernel_rfl) (by kernel_rfl) (fun _ _ _ h => h) (Or.inl ⟨?_, ?_⟩) ?_
        rotate_left 1
        · rfl
        · (intro w hSw; clear hSw; go_simp; (try with_reducible rfl))
        go_simp
        refine T_pure (i := 9) (v := ?va13) rfl (by kernel_rfl) (by kernel_rfl) (by kernel_rfl) (fun _ _ _ h => h) (Or.inl ⟨?_, ?_⟩) ?_
        rotate_left 1
        · rfl
        · (intro w hSw; clear hSw; go_simp; (try with_reducible rfl))
        go_simp
        refine T_ready (rs := [11]) (by kernel_rfl) (by simp) ?_
        refine ReadyT.early rfl (fun K hK => ?_) ReadyT.nil
        have z0 := HV.out.frozen 0
        have z1 := HV.out.frozen 1
        have z2 := HV.out.frozen 2
        have y0 : (Wn4).cell? ⟨V3, 0, none⟩ = some (.int .i64 0) := HV.out.cell 0
        have y1 : (Wn4).cell? ⟨V3, 1, none⟩ = some (.int .i64 0) := HV.out.cell 1
        have y2 : (Wn4).cell? ⟨V3, 2, none⟩ = some (.slice none 0 0) := HV.out.cell 2
        have HB7 := Lib.hid (((HV.out.set_ 0 (.int .i64 g2.base)).set_ 1 (.int .i64 g2.term)).set_ 2 (.slice A3 n3 c3))
        have HS7 := Lib.hid ((((Same.refl (oneB V3) (Wn4)).set1 0 (.int .i64 g2.base)).set1 1 (.int .i64 g2.term)).set1 2 (.slice A3 n3 c3))
        replace HI := Lib.hid (HI.out.put HS7.out HVN.out)
        go_simp
        refine hK.out _ _ ?_ (fun hHeld => ?_)
        · exact HI.out.s HR.out HXK.out
        clear hK K
        clear z0 z1 z2 y0 y1 y2 HS7 HV
        refine T_pure (i := 12) (v := ?va14) rfl (by kernel_rfl) (by kernel_rfl) (by kernel_rfl) (fun _ _ _ h => h) (Or.inl ⟨?_, ?_⟩) ?_
        rotate_left 1
        · rfl
        · (intro w hSw; clear hSw; go_simp; (try with_reducible rfl))
        go_simp
        refine T_done (by kernel_rfl) ?_ _
        go_upto_region 8 with (fail)
        refine wp_abs (fun W => W.cell? ⟨V3, 0, none⟩ = some (.int .i64 g2.base) ∧ W.cell? ⟨V3, 1, none⟩ = some (.int .i64 g2.term) ∧ W.cell? ⟨V3, 2, none⟩ = some (.slice A3 n3 c3) ∧ Hid (RunI B w W R X V3 M v2 es2 (.slice A3 n3 c3) ls3 g2 g.base g.term (.slice L ln lc))) ⟨HB7.out.cell 0, HB7.out.cell 1, HB7.out.cell 2, HI.out⟩ ?_
        clear HI HB7 hHeld
        rintro W8 ⟨y0, y1, y2, HI⟩
        have HB8 := Lib.hid (row_stored HI.out.xb #[.int .i64 g2.base, .int .i64 g2.term, .slice A3 n3 c3])
        have HI8 := Lib.hid (HI.out.setX HB8.out.1 HB8.out.2)
        go_wp2_with (refine wpList_store_row rfl 29 _ _ rfl X #[.int .i64 g2.base, .int .i64 g2.term, .slice A3 n3 c3] rfl rfl 29 _ HI.out.xb (by kernel_rfl) rfl (row29_one g2.base g2.term A3 n3 c3) ?_)
        go_roundg (gk - 1)
        case measure => have h1 := HK.out; omega
        case rel => exact ⟨k + 1, A3, n3, c3, v2, es2, ls3, by omega, by show _ = _; have h1 := HK.out; omega, by go_num, by show RunI _ _ _ _ _ _ _ _ _ _ _ _ _ _ _; rw [HGK.out]; exact HI8.out⟩
    · obtain rfl : k = os.length := by omega
      have hbd := HBD.out os.length (by have := HOL.out; omega)
      have HF := Lib.hid (hbd.fit (by omega))
      have HSMM := Lib.hid hbd.inv.sm
      have HLEN : Hid ((g0.runK ys os.length).es.length ≤ 1000) := by have := hbd.len; show _ ≤ _; omega
      clear hbd HBD
      obtain ⟨g, hg⟩ : ∃ g, g0.runK ys os.length = g := ⟨_, rfl⟩
      rw [hg] at HI HF HSMM HLEN
      have HRUN := Lib.hid hg
      clear hg
      go_upto_region 12 with (fail)
      replace HI := Lib.hid (HI.out.keep (Same.refl noB wr).drew)
      refine wp_region_T (S := RnX X g.base g.term (.slice L ln lc)) (late := fun j => [].contains j) (by kernel_rfl) ?_ (fun hHeld => ?_)
      · exact HI.out.sx
      obtain ⟨Wb, hWd⟩ : ∃ Wx, wr.drew = Wx := ⟨_, rfl⟩
      rw [hWd] at hHeld HI ⊢
      clear hWd
      refine T_pure (i := 0) (v := ?vb1) rfl (by kernel_rfl) (by kernel_rfl) (by kernel_rfl) (fun _ _ _ h => h) (Or.inl ⟨?_, ?_⟩) ?_
      rotate_left 1
      · rfl
      · (intro w hSw; clear hSw; go_simp; (try with_reducible rfl))
      go_simp
      refine T_take (i := 1) (v := ?vb2) rfl (by kernel_rfl) (by kernel_rfl) (by kernel_rfl) (by kernel_rfl) (fun _ _ _ h => h) (Or.inl ⟨?_, ?_⟩) (by assumption) ?_
      rotate_left 1
      · rfl
      · (intro w hSw; unfold RnX at hSw; go_simp; (try with_reducible rfl))
      go_simp
      refine T_pure (i := 2) (v := ?vb3) rfl (by kernel_rfl) (by kernel_rfl) (by kernel_rfl) (fun _ _ _ h => h) (Or.inl ⟨?_, ?_⟩) ?_
      rotate_left 1
      · rfl
      · (intro w hSw; clear hSw; go_simp; (try with_reducible rfl))
      go_simp
      refine T_take (i := 3) (v := ?vb4) rfl (by kernel_rfl) (by kernel_rfl) (by kernel_rfl) (by kernel_rfl) (fun _ _ _ h => h) (Or.inl ⟨?_, ?_⟩) (by assumption) ?_
      rotate_left 1
      · rfl
      · (intro w hSw; unfold RnX at hSw; go_simp; (try with_reducible rfl))
      go_simp
      refine T_ready (rs := [4]) (by kernel_rfl) (by simp) ?_
      refine ReadyT.early rfl (fun K hK => ?_) ReadyT.nil
      go_simp
      (with_reducible refine Calls.mono (same_any HI.out.st.log HI.out.st.ref HF.out HSMM.out HLEN.out) ?_)
      rintro r Wn5 ⟨rfl, hs1⟩
      replace HI := Lib.hid (HI.out.keep hs1)
      clear hs1
      clear hHeld
      go_wp2_with fail
      refine hK.out _ _ ?_ (fun hHeld => ?_)
      · exact HI.out.sx
      clear hK K
      refine T_pure (i := 5) (v := ?vb5) rfl (by kernel_rfl) (by kernel_rfl) (by kernel_rfl) (fun _ _ _ h => h) (Or.inl ⟨?_, ?_⟩) ?_
      rotate_left 1
      · rfl
      · (intro w hSw; clear hSw; go_simp; (try with_reducible rfl))
      go_simp
      refine T_ready (rs := [6]) (by kernel_rfl) (by simp) ?_
      refine ReadyT.early rfl (fun K hK => ?_) ReadyT.nil
      have z0 := HI.out.rb.frozen 0
      have z1 := HI.out.rb.frozen 1
      have z2 := HI.out.rb.frozen 2
      have y0 : (Wn5).cell? ⟨R, 0, none⟩ = some (.int .i64 0) := HI.out.rb.cell 0
      have y1 : (Wn5).cell? ⟨R, 1, none⟩ = some (.int .i64 0) := HI.out.rb.cell 1
      have y2 : (Wn5).cell? ⟨R, 2, none⟩ = some (.slice none 0 0) := HI.out.rb.cell 2
      have HB7 := Lib.hid (((HI.out.rb.set_ 0 (.int .i64 g.base)).set_ 1 (.int .i64 g.term)).set_ 2 (.slice L ln lc))
      have HS7 := Lib.hid ((((Same.refl (oneB R) (Wn5)).set1 0 (.int .i64 g.base)).set1 1 (.int .i64 g.term)).set1 2 (.slice L ln lc))
      have HX7 := Lib.hid (HI.out.sxR HS7.out)
      have HI7 := Lib.hid (HI.out.fin HS7.out)
      go_simp
      refine hK.out _ _ ?_ (fun hHeld => ?_)
      · exact HX7.out
      clear hK K
      clear z0 z1 z2 y0 y1 y2 HS7 HX7
      refine T_pure (i := 7) (v := ?vb6) rfl (by kernel_rfl) (by kernel_rfl) (by kernel_rfl) (fun _ _ _ h => h) (Or.inl ⟨?_, ?_⟩) ?_
      rotate_left 1
      · rfl
      · (intro w hSw; clear hSw; go_simp; (try with_reducible rfl))
      go_simp
      refine T_done (by kernel_rfl) ?_ _
      go_wp2_with fail
      (try simp only [Exit.inBlock, Exit.then])
      refine bodyPost_ret (res_tct rfl HB7.out rfl rfl rfl) rfl ?_
      exact ⟨M, v, es, L, ln, lc, ls, by rw [HRUN.out] <;> rfl, by rw [HRUN.out]; exact HI7.out.1, HI7.out.2.1, HI7.out.2.2⟩
end Go.Proofs.Ytlocfbjeljgblaa
