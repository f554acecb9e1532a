/- Layer 36: Config of the program and of the reference. (printed by genRepPc.py) -/
import Derived.Test.YtlocfbjeljgblaaRepSI
namespace Go.Proofs.Ytlocfbjeljgblaa
open Go Go.RowKit
set_option maxRecDepth 100000

/-- The last with p. -/
def lastP (p : EnV → Bool) (l : List EnV) : Option EnV := l.foldl (fun acc x => if p x then some x else acc) none
theorem lastP_skip {p : EnV → Bool} {l : List EnV} (acc : Option EnV) (h : ∀ z ∈ l, p z = false) : l.foldl (fun acc x => if p x then some x else acc) acc = acc := by
  induction l generalizing acc with
  | nil => rfl
  | cons x l ih =>
    rw [List.foldl_cons, h x (List.mem_cons_self ..)]
    exact ih acc (fun z hz => h z (List.mem_cons_of_mem _ hz))
theorem lastP_none {p : EnV → Bool} {l : List EnV} (h : ∀ (k : Nat) (z : EnV), l[k]? = some z → p z = false) : lastP p l = none :=
  lastP_skip none (fun z hz => by
    obtain ⟨j, hj, rfl⟩ := List.getElem_of_mem hz
    exact h j _ (List.getElem?_eq_getElem hj))
theorem lastP_at {p : EnV → Bool} {l : List EnV} {k : Nat} {x : EnV} (hx : l[k]? = some x) (hp : p x = true) (h : ∀ (q : Nat) (z : EnV), k < q → l[q]? = some z → p z = false) : lastP p l = some x := by
  have hk := (List.getElem?_eq_some_iff.1 hx).1
  have hl : l = l.take k ++ x :: l.drop (k + 1) := by
    rw [← (List.getElem?_eq_some_iff.1 hx).2, ← List.drop_eq_getElem_cons hk, List.take_append_drop]
  unfold lastP
  rw [hl, List.foldl_append, List.foldl_cons, hp, if_pos rfl]
  refine lastP_skip _ (fun z hz => ?_)
  obtain ⟨j, hj, rfl⟩ := List.getElem_of_mem hz
  refine h (k + 1 + j) _ (by omega) ?_
  rw [← List.getElem?_drop]
  exact List.getElem?_eq_getElem hj
theorem lastP_yes {p : EnV → Bool} {l : List EnV} {k : Nat} {x : EnV} (hx : l[k]? = some x) (hp : p x = true) : lastP p (l.take (k + 1)) = some x := by
  unfold lastP
  rw [take_snoc hx, List.foldl_append]
  simp [hp]
theorem lastP_no {p : EnV → Bool} {l : List EnV} {k : Nat} {x : EnV} (hx : l[k]? = some x) (hp : p x = false) : lastP p (l.take (k + 1)) = lastP p (l.take k) := by
  unfold lastP
  rw [take_snoc hx, List.foldl_append]
  simp [hp]
def confP (upto : Int) (x : EnV) : Bool := decide (x.i ≤ upto) && x.c.s.k == 3
def Lg.conf (g : Lg) (upto : Int) : Option EnV := lastP (confP upto) g.es
def cf3 (o : Option EnV) : List Int := match o with | some x => x.c.l3 | none => []
def cf4 (o : Option EnV) : List Int := match o with | some x => x.c.l4 | none => []
def cf5 (o : Option EnV) : List Int := match o with | some x => x.c.l5 | none => []
theorem res_ft {fn : Func} {i j : Nat} (hres : fn.results = #[.cell i 53, .tmp j]) {tmps : Array Value} {w : World} {g : Nat} {a b c v : Value} (hb : Blk w g 53 #[a, b, c]) (h4 : tmps.getD i undef = .pointer (some ⟨g, 0, none⟩)) (h5 : tmps.getD j undef = v) :
    (results fn tmps).run Try.prog w = .ok (.tuple #[.agg #[a, b, c], v]) w := by
  have c0 : w.cell? ⟨g, 0, none⟩ = some a := hb.cell 0
  have c1 : w.cell? ⟨g, 1, none⟩ = some b := hb.cell 1
  have c2 : w.cell? ⟨g, 2, none⟩ = some c := hb.cell 2
  clear hb
  simp only [Array.getD_eq_getD_getElem?] at h4 h5
  simp [results, hres, go_sem, h4, h5, c0, c1, c2]
theorem row53_one (a b c : Sl) : (#[.slice a.addr a.len a.cap, .slice b.addr b.len b.cap, .slice c.addr c.len c.cap] : Array Value).all (·.oneCell') = true := by kernel_rfl
set_option maxHeartbeats 4000000 in
theorem conf55 (w : World) (c : Cm) : Calls Try.prog 55 #[c.val] w fun r w' => r = .returned (.bool (c.s.k == 3)) ∧ Same noB w w' := by
  obtain ⟨⟨sk, sc, sn, sb, sg, ss, sck, scm⟩, a1, a2, a3, a4, a5⟩ := c
  unfold Cm.val
  dsimp only
  have HS := Lib.hid ((Same.refl noB w).alloc (.cells #[.int .i64 sk, .int .i64 sc, .int .i64 sn, .string sb, .int .i64 sg, .int .i64 ss, .int .i64 sck, .int .i64 scm, .slice a1.addr a1.len a1.cap, .slice a2.addr a2.len a2.cap, .slice a3.addr a3.len a3.cap, .slice a4.addr a4.len a4.cap, .slice a5.addr a5.len a5.cap] 55))
  go_enter Try.func55, Try.ntmps55
  go_wp2_with fail
  go_ret
  exact ⟨rfl, HS.out⟩
/-- What last returns. -/
def LastIs (p : EnV → Bool) (l : List EnV) (j : Int) : Prop := (j = -1 ∧ lastP p l = none) ∨ ∃ (k : Nat) (x : EnV), j = (k : Int) ∧ l[k]? = some x ∧ lastP p l = some x
set_option maxHeartbeats 8000000 in
theorem last54 {w : World} {M : Nat} {v : Value} {es : List En} {g : Lg} (h : LogIs w M v es g) (hlen : g.es.length ≤ 100000) (upto : Int) :
    Calls Try.prog 54 #[.pointer (some ⟨M, 0, none⟩), .int .i64 upto, .func (.func 55) #[] #[]] w fun r w' => ∃ j, r = .returned (.int .i64 j) ∧ LastIs (confP upto) g.es j ∧ Same noB w w' := by
  have hl := h.len
  obtain ⟨A, c, rfl, hc1, hc2⟩ := h.form
  have H := Lib.hid h
  have c2 := h.cells.2.2
  have hbl : es.length ≤ 100000 := by omega
  have HL := Lib.hid hl
  have hw0 : IntKind.i64.wrap ((es.length : Int) - 1) = (es.length : Int) - 1 := IntWalk.i64_in _ (by omega)
  clear h hl hlen
  go_enter Try.func54, Try.ntmps54
  go_wp2_with fail
  clear c2
  go_loopg [7] (es.length) (fun gk q wr => ∃ (k : Nat) (j : Int), k ≤ es.length ∧ Hid (gk = k) ∧ q = .int .i64 j ∧ Hid (j = (k : Int) - 1) ∧ Hid (∀ (q : Nat) (z : EnV), k ≤ q → g.es[q]? = some z → confP upto z = false) ∧ Hid (Same noB w wr))
  case atStart => exact ⟨es.length, _, Nat.le_refl _, rfl, rfl, rfl, fun q z hq hz => by have := (List.getElem?_eq_some_iff.1 hz).1; have := HL.out; omega, Same.refl _ _⟩
  case round =>
    obtain ⟨k, j, hk, HK, rfl, HJ, HA, HS⟩ := hrel
    cases k with
    | zero =>
      have hj : j = -1 := HJ.out
      subst hj
      have HF : Hid (LastIs (confP upto) g.es (-1)) := .inl ⟨rfl, lastP_none (fun q z hz => HA.out q z (Nat.zero_le _) hz)⟩
      go_wp2_with fail
      go_ret
      exact ⟨_, rfl, HF.out, HS.out⟩
    | succ k =>
      obtain rfl : j = (k : Int) := by have := HJ.out; omega
      obtain ⟨e, he⟩ : ∃ e, es[k]? = some e := ⟨_, List.getElem?_eq_getElem (by omega)⟩
      obtain ⟨x, hx, hix⟩ := H.out.is.at_ he
      obtain ⟨b, o, rfl, r⟩ := (H.out.keep HS.out).rd.at_ (by omega)
      obtain ⟨p0, p1, p2, p3, p4, p5, p6, p7, p8, p9, p10, p11, p12, p13, p14⟩ := en_at r he
      have c2 := (H.out.keep HS.out).cells.2.2
      have HIX := Lib.hid (And.intro hix.i hix.c.s)
      have HX := Lib.hid hx
      have hi0 : (0 : Int) ≤ (k : Int) := by omega
      have hi1 : (k : Int) < (es.length : Int) := by omega
      have hw : IntKind.i64.wrap ((k : Int) - 1) = (k : Int) - 1 := IntWalk.i64_in _ (by omega)
      have d0 : decide ((0 : Int) ≤ (k : Int)) = true := decide_eq_true hi0
      rw [hix.i] at p0
      have hC := fun W => conf55 W e.c
      rw [hix.c.s] at hC
      unfold Cm.val at hC
      have HC := Lib.hid hC
      clear r he hx hix hC
      by_cases h1 : x.i ≤ upto
      · have d1 : decide (x.i ≤ upto) = true := decide_eq_true h1
        clear h1
        cases h2 : x.c.s.k == 3 with
        | false =>
          have HP : Hid (confP upto x = false) := by show _ = _; unfold confP; rw [h2, Bool.and_false]
          rw [h2] at HC
          clear h2
          go_wp2_with fail
          have hZ := HC.out wr
          (with_reducible refine Calls.mono hZ ?_)
          clear hZ HC
          rintro r Wm ⟨rfl, hs1⟩
          have HS5 := Lib.hid (HS.out.trans' hs1)
          clear hs1 p0 p1 p2 p3 p4 p5 p6 p7 p8 p9 p10 p11 p12 p13 p14 c2
          go_wp2_with fail
          go_roundg (gk - 1)
          case measure => have h1 := HK.out; omega
          case rel => exact ⟨k, _, by omega, by show _ = _; have h1 := HK.out; omega, rfl, rfl, fun q z hq hz => by
            by_cases e : q = k
            · subst e
              have := hz.symm.trans HX.out
              injection this with this
              rw [this]
              exact HP.out
            · exact HA.out q z (by omega) hz, HS5.out⟩
        | true =>
          have HF : Hid (LastIs (confP upto) g.es (k : Int)) := .inr ⟨k, x, rfl, HX.out, lastP_at HX.out (by unfold confP; rw [h2, d1]; rfl) (fun q z hq hz => HA.out q z (by omega) hz)⟩
          rw [h2] at HC
          clear h2
          go_wp2_with fail
          have hZ := HC.out wr
          (with_reducible refine Calls.mono hZ ?_)
          clear hZ HC
          rintro r Wm ⟨rfl, hs1⟩
          have HS5 := Lib.hid (HS.out.trans' hs1)
          clear hs1 p0 p1 p2 p3 p4 p5 p6 p7 p8 p9 p10 p11 p12 p13 p14 c2
          go_wp2_with fail
          go_ret
          exact ⟨_, rfl, HF.out, HS5.out⟩
      · have d1 : decide (x.i ≤ upto) = false := decide_eq_false h1
        have HP : Hid (confP upto x = false) := by show _ = _; unfold confP; rw [d1, Bool.false_and]
        clear h1
        go_wp2_with fail
        go_roundg (gk - 1)
        case measure => have h1 := HK.out; omega
        case rel => exact ⟨k, _, by omega, by show _ = _; have h1 := HK.out; omega, rfl, rfl, fun q z hq hz => by
          by_cases e : q = k
          · subst e
            have := hz.symm.trans HX.out
            injection this with this
            rw [this]
            exact HP.out
          · exact HA.out q z (by omega) hz, HS.out⟩
/-- What Config returns. -/
def ConfTo (w : World) (o : Option EnV) (r : Ending) (w' : World) : Prop := ∃ s3 s4 s5 : Sl, r = .returned (.tuple #[.agg #[.slice s3.addr s3.len s3.cap, .slice s4.addr s4.len s4.cap, .slice s5.addr s5.len s5.cap], .bool o.isSome]) ∧ SlIs w' noB s3 (cf3 o) ∧ SlIs w' noB s4 (cf4 o) ∧ SlIs w' noB s5 (cf5 o) ∧ Same noB w w'
theorem SlIs.no {w : World} {bad : Nat → Prop} {s : Sl} {l : List Int} (h : SlIs w bad s l) : SlIs w noB s l := h.same (Same.refl noB w) (fun _ _ x => x.elim) (fun _ _ x => x.elim)
set_option maxHeartbeats 8000000 in
theorem conf_any {w : World} {M : Nat} {v : Value} {es : List En} {g : Lg} (h : LogIs w M v es g) (hlen : g.es.length ≤ 100000) (hsm : ∀ x ∈ g.es, x.c.Sm) (upto : Int) :
    Calls Try.prog 30 #[.pointer (some ⟨M, 0, none⟩), .int .i64 upto] w (ConfTo w (g.conf upto)) := by
  have H := Lib.hid h
  have HLE := Lib.hid hlen
  have HSM := Lib.hid hsm
  unfold Lg.conf
  clear h hlen hsm
  go_enter Try.func30, Try.ntmps30
  go_upto_region 1 with (fail)
  refine wp_abs (fun W => Hid (Blk W w.heap.size 53 #[.slice none 0 0, .slice none 0 0, .slice none 0 0]) ∧ Hid (Same noB w W)) ⟨Blk.new w 53 _, (Same.refl _ _).alloc _⟩ ?_
  rintro W0 ⟨HB, HS⟩
  obtain ⟨N, hN⟩ : ∃ N, w.heap.size = N := ⟨_, rfl⟩
  rw [hN] at HB ⊢
  have HZ := Lib.hid (last54 (H.out.keep HS.out) HLE.out upto)
  go_wp2_with fail
  (with_reducible refine Calls.mono HZ.out ?_)
  clear HZ
  rintro r W1 ⟨j, rfl, hj, hs1⟩
  replace HB := Lib.hid (HB.out.same hs1 (fun x => x))
  replace HS := Lib.hid (HS.out.trans' hs1)
  clear hs1
  rcases hj with ⟨rfl, hn⟩ | ⟨k, x, rfl, hx, hn⟩
  · have HNN := Lib.hid hn
    have HB7 := Lib.hid (row_stored HB.out #[.slice none 0 0, .slice none 0 0, .slice none 0 0])
    go_wp2_with (refine wpList_store_row rfl 53 _ _ rfl N #[.slice none 0 0, .slice none 0 0, .slice none 0 0] rfl rfl 53 _ HB.out (by kernel_rfl) rfl (by kernel_rfl) ?_)
    (try simp only [Exit.inBlock, Exit.then])
    refine bodyPost_ret (res_ft rfl HB7.out.1 rfl rfl) rfl ?_
    exact ⟨⟨none, 0, 0⟩, ⟨none, 0, 0⟩, ⟨none, 0, 0⟩, by rw [HNN.out] <;> rfl, by rw [HNN.out]; exact sl_nil _ _, by rw [HNN.out]; exact sl_nil _ _, by rw [HNN.out]; exact sl_nil _ _, HS.out.trans HB7.out.2 (fun b hb e => by have h3 : b = N := e; omega)⟩
  · have HNN := Lib.hid hn
    have hkl := (List.getElem?_eq_some_iff.1 hx).1
    have hlw := H.out.len
    have hle := HLE.out
    have HK1 := Lib.hid (H.out.keep HS.out)
    have c2 := HK1.out.cells.2.2
    obtain ⟨A, c, rfl, hc1, hc2⟩ := HK1.out.form
    have hen := HK1.out.enl
    obtain ⟨b, o, rfl, _⟩ := hen.rd.at_ (by omega)
    have hes := enl_slice hen (a := k) (m := k + 1) (by omega) (by omega) (by omega)
    have hvx : (g.es.drop k).take (k + 1 - k) = [x] := by
      rw [List.drop_eq_getElem_cons hkl, (List.getElem?_eq_some_iff.1 hx).2, show k + 1 - k = 1 from by omega]
      rfl
    rw [hvx] at hes
    have hsl := slice_run (b := b) (o := o) (n := es.length) (c := c) (a := k) (m := k + 1) (by omega) (by omega) (by omega)
    have hk1 : k + 1 - k = 1 := by omega
    rw [hk1] at hsl hes
    have HZ := Lib.hid (copied_any hes (by simp) (fun y hy => by rw [List.mem_singleton.1 hy]; exact HSM.out x (List.mem_of_getElem? hx)))
    obtain ⟨m, hm⟩ : ∃ m, k + 1 = m := ⟨_, rfl⟩
    have hw : IntKind.i64.wrap ((k : Int) + 1) = (m : Int) := by rw [IntWalk.i64_in _ (by omega)]; omega
    rw [hm] at hsl
    have hk0 : ¬ ((k : Int) < 0) := by omega
    clear hes hen hvx hkl hlw hk1 hm hn
    go_wp2_with fail
    (with_reducible refine Calls.mono HZ.out ?_)
    clear HZ c2
    rintro r W2 ⟨cv, cs, rfl, hcp⟩
    have hs2 := hcp.since
    have hl := hcp.is.len
    obtain ⟨e, rfl⟩ : ∃ e, cs = [e] := by
      cases cs with
      | nil => simp at hl
      | cons a l => cases l with
        | nil => exact ⟨a, rfl⟩
        | cons b l => simp at hl
    obtain ⟨GA, gc, rfl, hg1, hg2, hr2⟩ := (Rd.of_own (bad := noB) hcp.own (fun _ _ x => x)).form
    obtain ⟨G, go, rfl, r⟩ := hr2.at_ (by simp)
    obtain ⟨p0, p1, p2, p3, p4, p5, p6, p7, p8, p9, p10, p11, p12, p13, p14⟩ := en_at (k := 0) (e := e) r rfl
    simp only [Nat.zero_mul, Nat.add_zero, List.length_cons, List.length_nil, Nat.zero_add] at p0 p1 p2 p3 p4 p5 p6 p7 p8 p9 p10 p11 p12 p13 p14 hg1 ⊢
    have hN1 := HB.out.lt
    have HE : Hid (EnIs W2 (oneB N) e x) := by
      have hi := hcp.is
      cases hi with
      | cons hi _ => exact hi.same (Same.refl noB _) (fun _ _ x => x.elim) (fun b _ hb => .inl (by have h3 : b = N := hb; omega))
    replace HB := Lib.hid (HB.out.same hs2 (fun x => x))
    replace HS := Lib.hid (HS.out.trans' hs2)
    have HB7 := Lib.hid (row_stored HB.out #[.slice e.c.f3.addr e.c.f3.len e.c.f3.cap, .slice e.c.f4.addr e.c.f4.len e.c.f4.cap, .slice e.c.f5.addr e.c.f5.len e.c.f5.cap])
    have HBL := Lib.hid HB.out.lt
    clear r hr2 hl hcp hs2 p0 p1 p2 p3 p4 p5 p6 p7 p8 p9 p10 p11
    go_wp2_with (refine wpList_store_row rfl 53 _ _ rfl N #[.slice e.c.f3.addr e.c.f3.len e.c.f3.cap, .slice e.c.f4.addr e.c.f4.len e.c.f4.cap, .slice e.c.f5.addr e.c.f5.len e.c.f5.cap] rfl rfl 53 _ HB.out (by kernel_rfl) rfl (row53_one e.c.f3 e.c.f4 e.c.f5) ?_)
    (try simp only [Exit.inBlock, Exit.then])
    refine bodyPost_ret (res_ft rfl HB7.out.1 rfl rfl) rfl ?_
    exact ⟨e.c.f3, e.c.f4, e.c.f5, by rw [HNN.out] <;> rfl, by rw [HNN.out]; exact (HE.out.c.f3.same HB7.out.2 (fun _ _ e => e) (fun _ _ x => x)).no, by rw [HNN.out]; exact (HE.out.c.f4.same HB7.out.2 (fun _ _ e => e) (fun _ _ x => x)).no, by rw [HNN.out]; exact (HE.out.c.f5.same HB7.out.2 (fun _ _ e => e) (fun _ _ x => x)).no, HS.out.trans HB7.out.2 (fun b hb e => by have h3 : b = N := e; omega)⟩

/-- The reference's box: the configuration of the last that was found. -/
structure CfI (w W : World) (N : Nat) (lv : Value) (o : Option EnV) (s3 s4 s5 : Sl) : Prop where
  box : Blk W (N + 1 + 1) 53 #[.slice s3.addr s3.len s3.cap, .slice s4.addr s4.len s4.cap, .slice s5.addr s5.len s5.cap]
  res : Blk W (N + 1) 53 #[.slice none 0 0, .slice none 0 0, .slice none 0 0]
  c2 : W.cell? ⟨N, 2, none⟩ = some lv
  f3 : SlIs W (fun b => N ≤ b ∧ b ≤ N + 1 + 1) s3 (cf3 o)
  f4 : SlIs W (fun b => N ≤ b ∧ b ≤ N + 1 + 1) s4 (cf4 o)
  f5 : SlIs W (fun b => N ≤ b ∧ b ≤ N + 1 + 1) s5 (cf5 o)
  since : Same noB w W
  at_ : w.heap.size = N
theorem CfI.keep {w W W' : World} {N : Nat} {lv : Value} {o : Option EnV} {s3 s4 s5 : Sl} (h : CfI w W N lv o s3 s4 s5) (hs : Same noB W W') : CfI w W' N lv o s3 s4 s5 :=
  ⟨h.box.same hs (fun x => x), h.res.same hs (fun x => x), hs.cell h.c2 (fun x => x), h.f3.keep hs, h.f4.keep hs, h.f5.keep hs, h.since.trans' hs, h.at_⟩
theorem CfI.put {w W W' : World} {N : Nat} {lv : Value} {o : Option EnV} {s3 s4 s5 : Sl} (h : CfI w W N lv o s3 s4 s5) {x : EnV} {c : Cm} (hc : CmIs W (fun b => N ≤ b ∧ b ≤ N + 1 + 1) c x.c) (hb : Blk W' (N + 1 + 1) 53 #[.slice c.f3.addr c.f3.len c.f3.cap, .slice c.f4.addr c.f4.len c.f4.cap, .slice c.f5.addr c.f5.len c.f5.cap]) (hs : Same (oneB (N + 1 + 1)) W W') : CfI w W' N lv (some x) c.f3 c.f4 c.f5 := by
  have hn : ∀ b, b < W.heap.size → oneB (N + 1 + 1) b → N ≤ b ∧ b ≤ N + 1 + 1 := fun b _ e => by have h3 : b = N + 1 + 1 := e; omega
  exact ⟨hb, h.res.same hs (fun e => by have h3 : N + 1 = N + 1 + 1 := e; omega), hs.cell h.c2 (fun e => by have h3 : N = N + 1 + 1 := e; omega), hc.f3.same hs hn (fun _ _ x => x), hc.f4.same hs hn (fun _ _ x => x), hc.f5.same hs hn (fun _ _ x => x), h.since.trans hs (fun b hb e => by have h3 : b = N + 1 + 1 := e; have := h.at_; omega), h.at_⟩
theorem CfI.start (w : World) (b t : Int) (lv : Value) : CfI w ((((w.alloc (.cells #[.int .i64 b, .int .i64 t, lv] 29)).alloc (.cells #[.slice none 0 0, .slice none 0 0, .slice none 0 0] 53)).alloc (.cells #[.slice none 0 0, .slice none 0 0, .slice none 0 0] 53)).setRow (w.heap.size + 1 + 1) #[.slice none 0 0, .slice none 0 0, .slice none 0 0]) w.heap.size lv none ⟨none, 0, 0⟩ ⟨none, 0, 0⟩ ⟨none, 0, 0⟩ := by
  have h1 := ((Blk.new w 29 #[.int .i64 b, .int .i64 t, lv]).alloc (.cells #[.slice none 0 0, .slice none 0 0, .slice none 0 0] 53)).alloc (.cells #[.slice none 0 0, .slice none 0 0, .slice none 0 0] 53)
  have h2 := Blk.new (w.alloc (.cells #[.int .i64 b, .int .i64 t, lv] 29)) 53 #[.slice none 0 0, .slice none 0 0, .slice none 0 0]
  have h3 := Blk.new ((w.alloc (.cells #[.int .i64 b, .int .i64 t, lv] 29)).alloc (.cells #[.slice none 0 0, .slice none 0 0, .slice none 0 0] 53)) 53 #[.slice none 0 0, .slice none 0 0, .slice none 0 0]
  simp only [World.size_alloc] at h2 h3
  have hst := row_stored h3 #[.slice none 0 0, .slice none 0 0, .slice none 0 0]
  have hs : Same noB w (((w.alloc (.cells #[.int .i64 b, .int .i64 t, lv] 29)).alloc (.cells #[.slice none 0 0, .slice none 0 0, .slice none 0 0] 53)).alloc (.cells #[.slice none 0 0, .slice none 0 0, .slice none 0 0] 53)) := (((Same.refl noB w).alloc _).alloc _).alloc _
  exact ⟨hst.1, (h2.alloc _).same hst.2 (fun e => by have h3 : w.heap.size + 1 = w.heap.size + 1 + 1 := e; omega), hst.2.cell (h1.cell 2) (fun e => by have h3 : w.heap.size = w.heap.size + 1 + 1 := e; omega), sl_nil _ _, sl_nil _ _, sl_nil _ _, hs.trans hst.2 (fun b hb e => by have h3 : b = w.heap.size + 1 + 1 := e; omega), rfl⟩
set_option maxHeartbeats 16000000 in
theorem rconf_any {w : World} {bad : Nat → Prop} {v : Value} {es : List En} {g : Lg} (h : EnL w bad v es g.es) (hlen : g.es.length ≤ 100000) (upto : Int) :
    Calls Try.prog 31 #[.agg #[.int .i64 g.base, .int .i64 g.term, v], .int .i64 upto] w (ConfTo w (g.conf upto)) := by
  obtain ⟨A, c, rfl, hc1, hc2, hr⟩ := h.rd.form
  have HL := Lib.hid h.len
  have HB : Hid (EnL w (fun b => w.heap.size ≤ b) (.slice A es.length c) es g.es) := h.same (Same.refl noB w) (fun _ _ x => x.elim) (fun b hb hx => by omega)
  have hbl3 : es.length ≤ 100000 := by have := h.len; omega
  clear h hr hlen hc2
  unfold Lg.conf
  go_enter Try.func31, Try.ntmps31
  have HB0 := Lib.hid (CfI.start w g.base g.term (.slice A es.length c))
  have HBN : Hid (Blk (((w.alloc (.cells #[.int .i64 g.base, .int .i64 g.term, .slice A es.length c] 29)).alloc (.cells #[.slice none 0 0, .slice none 0 0, .slice none 0 0] 53)).alloc (.cells #[.slice none 0 0, .slice none 0 0, .slice none 0 0] 53)) (w.heap.size + 1 + 1) 53 #[.slice none 0 0, .slice none 0 0, .slice none 0 0]) := by
    have h3 := Blk.new ((w.alloc (.cells #[.int .i64 g.base, .int .i64 g.term, .slice A es.length c] 29)).alloc (.cells #[.slice none 0 0, .slice none 0 0, .slice none 0 0] 53)) 53 #[.slice none 0 0, .slice none 0 0, .slice none 0 0]
    simp only [World.size_alloc] at h3
    exact h3
  go_upto_region 2 with (refine wpList_store_row rfl 53 _ _ rfl (w.heap.size + 1 + 1) #[.slice none 0 0, .slice none 0 0, .slice none 0 0] rfl rfl 53 _ HBN.out (by kernel_rfl) rfl (by kernel_rfl) ?_)
  refine wp_abs (fun W => Hid (CfI w W w.heap.size (.slice A es.length c) none ⟨none, 0, 0⟩ ⟨none, 0, 0⟩ ⟨none, 0, 0⟩)) HB0.out ?_
  clear HB0 HBN
  rintro W0 HC0
  have HB2 : Hid (∀ W, Same noB w W → EnL W (fun b => w.heap.size ≤ b) (.slice A es.length c) es g.es) := fun W hs => HB.out.keep hs
  obtain ⟨N, hN⟩ : ∃ N, w.heap.size = N := ⟨_, rfl⟩
  rw [hN] at HC0 HB2 ⊢
  clear HB
  go_wp2_with fail
  go_loopg [7, 8] (es.length) (fun gk ok q wr => ∃ (k : Nat) (b : Bool) (s3 s4 s5 : Sl), k ≤ es.length ∧ Hid (gk + k = es.length) ∧ q = .int .i64 k ∧ ok = .bool b ∧ Hid (b = (lastP (confP upto) (g.es.take k)).isSome) ∧ Hid (CfI w wr N (.slice A es.length c) (lastP (confP upto) (g.es.take k)) s3 s4 s5))
  case atStart => exact ⟨0, false, _, _, _, Nat.zero_le _, rfl, rfl, rfl, rfl, HC0.out⟩
  case round =>
    clear HC0
    obtain ⟨k, ok, s3, s4, s5, hk, HK, rfl, rfl, HO, HC⟩ := hrel
    have d2 := HC.out.c2
    by_cases hlt : k < es.length
    · obtain ⟨e, he⟩ : ∃ e, es[k]? = some e := ⟨_, List.getElem?_eq_getElem hlt⟩
      have hb2 := HB2.out wr HC.out.since
      obtain ⟨b, o, rfl, r⟩ := hb2.rd.at_ (by omega)
      obtain ⟨x, hx, hix⟩ := hb2.is.at_ he
      obtain ⟨p0, p1, p2, p3, p4, p5, p6, p7, p8, p9, p10, p11, p12, p13, p14⟩ := en_at r he
      have HIX := Lib.hid hix
      have HY := Lib.hid hx
      have hi0 : (0 : Int) ≤ (k : Int) := by omega
      have hi1 : (k : Int) < (es.length : Int) := by omega
      have HB5 := Lib.hid (row_stored (Blk.new wr 57 en0.cells.toArray) e.cells.toArray)
      have hsx : Same noB wr ((wr.alloc (.cells en0.cells.toArray 57)).setRow wr.heap.size e.cells.toArray) := ((Same.refl noB wr).alloc _).trans HB5.out.2 (fun b hb e => by have h3 : b = wr.heap.size := e; omega)
      clear r he hx hix hb2
      go_upto_region 6 with (refine wpList_store_row rfl 57 _ _ rfl wr.heap.size e.cells.toArray rfl rfl 57 _ (Blk.new wr 57 en0.cells.toArray) (by kernel_rfl) rfl (by kernel_rfl) ?_)
      refine wp_abs (fun W => Hid (Blk W wr.heap.size 57 e.cells.toArray) ∧ Hid (Same noB wr W)) ⟨HB5.out.1, hsx⟩ ?_
      clear p0 p1 p2 p3 p4 p5 p6 p7 p8 p9 p10 p11 p12 p13 p14 HB5 hsx d2
      rintro W ⟨HE, HSW⟩
      obtain ⟨E, hE⟩ : ∃ E, wr.heap.size = E := ⟨_, rfl⟩
      rw [hE] at HE ⊢
      clear hE
      replace HC := Lib.hid (HC.out.keep HSW.out)
      replace HIX := Lib.hid (HIX.out.keep HSW.out)
      clear HSW
      have q0 : W.cell? ⟨E, 0, none⟩ = some (.int .i64 x.i) := by rw [← HIX.out.i]; exact HE.out.cell 0
      have q2 : W.cell? ⟨E, 2, none⟩ = some (.int .i64 x.c.s.k) := by rw [← HIX.out.c.s]; exact HE.out.cell 2
      have q12 : W.cell? ⟨E, 12, none⟩ = some (.slice e.c.f3.addr e.c.f3.len e.c.f3.cap) := HE.out.cell 12
      have q13 : W.cell? ⟨E, 13, none⟩ = some (.slice e.c.f4.addr e.c.f4.len e.c.f4.cap) := HE.out.cell 13
      have q14 : W.cell? ⟨E, 14, none⟩ = some (.slice e.c.f5.addr e.c.f5.len e.c.f5.cap) := HE.out.cell 14
      by_cases h1 : x.i ≤ upto
      · have d1 : decide (x.i ≤ upto) = true := decide_eq_true h1
        by_cases h2 : x.c.s.k = 3
        · have hp : confP upto x = true := by unfold confP; rw [d1, h2]; rfl
          have HT := Lib.hid (lastP_yes HY.out hp)
          rw [h2] at q2
          clear h1 h2 hp
          have HB7 := Lib.hid (row_stored HC.out.box #[.slice e.c.f3.addr e.c.f3.len e.c.f3.cap, .slice e.c.f4.addr e.c.f4.len e.c.f4.cap, .slice e.c.f5.addr e.c.f5.len e.c.f5.cap])
          have HCN : Hid (CfI w (W.setRow (N + 1 + 1) #[.slice e.c.f3.addr e.c.f3.len e.c.f3.cap, .slice e.c.f4.addr e.c.f4.len e.c.f4.cap, .slice e.c.f5.addr e.c.f5.len e.c.f5.cap]) N (.slice (some ⟨b, o, none⟩) es.length c) (some x) e.c.f3 e.c.f4 e.c.f5) := HC.out.put (HIX.out.c.same (Same.refl noB W) (fun _ _ x => x.elim) (fun b _ hx => hx.1)) HB7.out.1 HB7.out.2
          go_wp2_with (refine wpList_store_row rfl 53 _ _ rfl (N + 1 + 1) #[.slice e.c.f3.addr e.c.f3.len e.c.f3.cap, .slice e.c.f4.addr e.c.f4.len e.c.f4.cap, .slice e.c.f5.addr e.c.f5.len e.c.f5.cap] rfl rfl 53 _ HC.out.box (by kernel_rfl) rfl (row53_one e.c.f3 e.c.f4 e.c.f5) ?_)
          go_roundg (gk - 1)
          case measure => have h1 := HK.out; omega
          case rel => exact ⟨k + 1, true, e.c.f3, e.c.f4, e.c.f5, by omega, by show _ = _; have h1 := HK.out; omega, by go_num, rfl, by show _ = _; rw [HT.out]; rfl, by rw [HT.out]; exact HCN.out⟩
        · have hp : confP upto x = false := by unfold confP; rw [beq_eq_false_iff_ne.2 h2, Bool.and_false]
          have e2 : (x.c.s.k == 3) = false := beq_eq_false_iff_ne.2 h2
          have HT := Lib.hid (lastP_no HY.out hp)
          clear h1 h2 hp
          go_wp2_with fail
          go_roundg (gk - 1)
          case measure => have h1 := HK.out; omega
          case rel => exact ⟨k + 1, ok, s3, s4, s5, by omega, by show _ = _; have h1 := HK.out; omega, by go_num, rfl, by show _ = _; rw [HT.out]; exact HO.out, by rw [HT.out]; exact HC.out⟩
      · have d1 : decide (x.i ≤ upto) = false := decide_eq_false h1
        have hp : confP upto x = false := by unfold confP; rw [d1, Bool.false_and]
        have HT := Lib.hid (lastP_no HY.out hp)
        clear h1 hp
        go_wp2_with fail
        go_roundg (gk - 1)
        case measure => have h1 := HK.out; omega
        case rel => exact ⟨k + 1, ok, s3, s4, s5, by omega, by show _ = _; have h1 := HK.out; omega, by go_num, rfl, by show _ = _; rw [HT.out]; exact HO.out, by rw [HT.out]; exact HC.out⟩
    · obtain rfl : k = es.length := by omega
      have HTA : Hid (lastP (confP upto) (g.es.take es.length) = lastP (confP upto) g.es) := by show _ = _; rw [List.take_of_length_le (by have := HL.out; omega)]
      rw [HTA.out] at HO HC
      have b0 : wr.cell? ⟨N + 1 + 1, 0, none⟩ = some (.slice s3.addr s3.len s3.cap) := HC.out.box.cell 0
      have b1 : wr.cell? ⟨N + 1 + 1, 1, none⟩ = some (.slice s4.addr s4.len s4.cap) := HC.out.box.cell 1
      have b2 : wr.cell? ⟨N + 1 + 1, 2, none⟩ = some (.slice s5.addr s5.len s5.cap) := HC.out.box.cell 2
      have HB7 := Lib.hid (row_stored HC.out.res #[.slice s3.addr s3.len s3.cap, .slice s4.addr s4.len s4.cap, .slice s5.addr s5.len s5.cap])
      go_wp2_with (refine wpList_store_row rfl 53 _ _ rfl (N + 1) #[.slice s3.addr s3.len s3.cap, .slice s4.addr s4.len s4.cap, .slice s5.addr s5.len s5.cap] rfl rfl 53 _ HC.out.res (by kernel_rfl) rfl (row53_one s3 s4 s5) ?_)
      (try simp only [Exit.inBlock, Exit.then])
      refine bodyPost_ret (res_ft rfl HB7.out.1 rfl rfl) rfl ?_
      have hn : ∀ b, b < wr.heap.size → oneB (N + 1) b → N ≤ b ∧ b ≤ N + 1 + 1 := fun b _ e => by have h3 : b = N + 1 := e; omega
      exact ⟨s3, s4, s5, by rw [← HO.out] <;> rfl, (HC.out.f3.same HB7.out.2 hn (fun _ _ x => x)).no, (HC.out.f4.same HB7.out.2 hn (fun _ _ x => x)).no, (HC.out.f5.same HB7.out.2 hn (fun _ _ x => x)).no, HC.out.since.trans HB7.out.2 (fun b hb e => by have h3 : b = N + 1 := e; have := HC.out.at_; omega)⟩
end Go.Proofs.Ytlocfbjeljgblaa
