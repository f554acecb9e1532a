/- The reference's Send, Isolate, Double, Remove, Deliver, Join. -/
import Derived.Test.YtgmoeejhgjfpgaaRefA
namespace Go.Proofs.Ytgmoeejhgjfpgaa
open Go Go.RowKit Go.Maps


/-- The reference's network in the struct at B. -/
structure RefIn (w : World) (bad : Nat → Prop) (B : Nat) (A : Option Addr) (c : Nat) (A' : Option Addr) (c' : Nat) (st : NetSt) : Prop where
  blk : Blk w B 43 #[.slice A st.ps.length c, .int .i64 st.last, .slice A' st.iso.length c']
  ps : Rd w bad 4 (.slice A st.ps.length c) st.ps.length (pcells st.ps)
  iso : Rd w bad 1 (.slice A' st.iso.length c') st.iso.length (icells st.iso)
theorem RefIn.keep {w w' : World} {bad : Nat → Prop} {B : Nat} {A : Option Addr} {c : Nat} {A' : Option Addr} {c' : Nat} {st : NetSt} (h : RefIn w bad B A c A' c' st) (hs : Same noB w w') : RefIn w' bad B A c A' c' st :=
  ⟨h.blk.same hs (fun x => x), h.ps.same hs (fun _ _ x => x.elim) (fun _ _ x => x), h.iso.same hs (fun _ _ x => x.elim) (fun _ _ x => x)⟩
theorem RefIn.at_ {w : World} {bad : Nat → Prop} {B : Nat} {A : Option Addr} {c : Nat} {A' : Option Addr} {c' : Nat} {st : NetSt} (h : RefIn w bad B A c A' c' st) : RefAt w bad (.agg #[.slice A st.ps.length c, .int .i64 st.last, .slice A' st.iso.length c']) st := ⟨A, c, A', c', rfl, h.ps, h.iso⟩

theorem own_lit (w : World) (e : TypeId) (size : Nat) : (w.alloc (.cells #[] e)).ownsRow 0 e size (.slice (some ⟨w.heap.size, 0, none⟩) 0 0) 0 [] :=
  ⟨by simp, .inr ⟨_, 0, #[], rfl, Nat.zero_le _, heap_alloc_new w _, Nat.le_refl _, by simp [maxLen], by simp, by simp⟩⟩
theorem Rd.over {w : World} {bad : Nat → Prop} {size n : Nat} {v : Value} {xs : List Value} (h : Rd w bad size v n xs) : Rd w (fun b => bad b ∨ w.heap.size ≤ b) size v n xs := h.mono (fun b hb hx => hx.elim id (fun hx => by omega))
theorem RefAt.over {w : World} {bad : Nat → Prop} {v : Value} {st : NetSt} (h : RefAt w bad v st) : RefAt w (fun b => bad b ∨ w.heap.size ≤ b) v st := by
  obtain ⟨A, c, A', c', rfl, h1, h2⟩ := h
  exact ⟨A, c, A', c', rfl, h1.over, h2.over⟩
/-- A store to a field of the struct. -/
theorem Rd.set {w : World} {bad : Nat → Prop} {size n : Nat} {v : Value} {xs : List Value} (h : Rd w bad size v n xs) {B : Nat} (hB : bad B) (i : Nat) (u : Value) : Rd (w.setCell ⟨B, i, none⟩ u) bad size v n xs :=
  h.same ((Same.refl (oneB B) w).set1 i u) (fun b _ e => by rw [show b = B from e]; exact hB) (fun _ _ x => x)
theorem pcells_one' (l : List Pk) : ∀ u ∈ pcells l, u.oneCell' = true := pcells_one l
/-- The world behind two appends to an empty literal. -/
structure AppAt (W w' : World) (v : Value) (n : Nat) (e : TypeId) (size : Nat) (xs : List Value) : Prop where
  own : w'.ownsRow 0 e size v n xs
  new : ∀ g, v.ownBlock = some g → W.heap.size ≤ g
  since : Same noB W w'
theorem AppAt.rd {W w' : World} {v : Value} {n : Nat} {e : TypeId} {size : Nat} {xs : List Value} {bad : Nat → Prop} (h : AppAt W w' v n e size xs) (hb : ∀ b, bad b → b < W.heap.size) : Rd w' bad size v n xs := Rd.of_own h.own (fun g hg hx => by have := h.new g hg; have := hb g hx; omega)
theorem AppAt.next {W w1 w2 : World} {v v2 : Value} {n n2 : Nat} {e : TypeId} {size : Nat} {xs ys : List Value} (h : AppAt W w1 v n e size xs) (hg : w1.grownBy w2 v.ownBlock) (hat : v2.ownBlock = v.ownBlock ∨ v2.ownBlock = some w1.heap.size) (ho : w2.ownsRow 0 e size v2 n2 ys) : AppAt W w2 v2 n2 e size ys :=
  ⟨ho, fun g hg' => by
    rcases hat with ha | ha
    · exact h.new g (ha.symm.trans hg')
    · rw [ha] at hg'
      injection hg' with hg'
      have := h.since.size
      omega, h.since.grown hg (fun k hk hlt => by have := h.new k hk; omega)⟩
theorem AppAt.lit (W : World) (e : TypeId) (size : Nat) : AppAt W (W.alloc (.cells #[] e)) (.slice (some ⟨W.heap.size, 0, none⟩) 0 0) 0 e size [] :=
  ⟨own_lit W e size, fun g hg => by simp [Value.ownBlock] at hg; omega, (Same.refl _ _).alloc _⟩
theorem AppAt.lit2 (W : World) (o : Obj) (e : TypeId) (size : Nat) : AppAt W ((W.alloc o).alloc (.cells #[] e)) (.slice (some ⟨W.heap.size + 1, 0, none⟩) 0 0) 0 e size [] := by
  have h := own_lit (W.alloc o) e size
  exact ⟨by simpa using h, fun g hg => by simp [Value.ownBlock] at hg; omega, ((Same.refl _ _).alloc _).alloc _⟩
theorem AppAt.keep {W w1 w2 : World} {v : Value} {n : Nat} {e : TypeId} {size : Nat} {xs : List Value} (h : AppAt W w1 v n e size xs) (hs : Same noB w1 w2) : AppAt W w2 v n e size xs := ⟨own_same h.own hs (fun _ _ x => x), h.new, h.since.trans' hs⟩
theorem AppAt.before {W W' w1 : World} {v : Value} {n : Nat} {e : TypeId} {size : Nat} {xs : List Value} (h : AppAt W' w1 v n e size xs) (hs : Same noB W W') : AppAt W w1 v n e size xs := ⟨h.own, fun g hg => Nat.le_trans hs.size (h.new g hg), hs.trans' h.since⟩
theorem calls_abs {P : Program} {f : Nat} {args : Array Value} {Q : Ending → World → Prop} {w : World} (F : World → Prop) (hF : F w) (h : ∀ w, F w → Calls P f args w Q) : Calls P f args w Q := h w hF

/-- The reference's function under way: its argument at B, its result at R, laid behind w0. -/
structure RLoc (w0 W : World) (bad : Nat → Prop) (B R m : Nat) (A : Option Addr) (c : Nat) (A' : Option Addr) (c' : Nat) (st : NetSt) : Prop where
  i : RefIn W (fun b => bad b ∨ (w0.heap.size ≤ b ∧ b < w0.heap.size + m)) B A c A' c' st
  r : Blk W R 43 #[.slice none 0 0, .int .i64 0, .slice none 0 0]
  s : Same noB w0 W
  lb : w0.heap.size ≤ B ∧ B < w0.heap.size + m
  lr : w0.heap.size ≤ R ∧ R < w0.heap.size + m
  ne : B ≠ R
  bd : ∀ b, bad b → b < w0.heap.size
  sz : w0.heap.size + m ≤ W.heap.size
namespace RLoc
variable {w0 W W' : World} {bad : Nat → Prop} {B R m : Nat} {A : Option Addr} {c : Nat} {A' : Option Addr} {c' : Nat} {st : NetSt}
theorem cells (h : RLoc w0 W bad B R m A c A' c' st) : (W.cell? ⟨B, 0, none⟩ = some (.slice A st.ps.length c) ∧ W.cell? ⟨B, 1, none⟩ = some (.int .i64 st.last) ∧ W.cell? ⟨B, 2, none⟩ = some (.slice A' st.iso.length c')) ∧ (W.frozen? ⟨B, 0, none⟩ = false ∧ W.frozen? ⟨B, 1, none⟩ = false ∧ W.frozen? ⟨B, 2, none⟩ = false) ∧
    (W.cell? ⟨R, 0, none⟩ = some (.slice none 0 0) ∧ W.cell? ⟨R, 1, none⟩ = some (.int .i64 0) ∧ W.cell? ⟨R, 2, none⟩ = some (.slice none 0 0)) ∧ W.frozen? ⟨R, 0, none⟩ = false ∧ W.frozen? ⟨R, 1, none⟩ = false ∧ W.frozen? ⟨R, 2, none⟩ = false :=
  ⟨⟨h.i.blk.cell 0, h.i.blk.cell 1, h.i.blk.cell 2⟩, ⟨h.i.blk.frozen 0, h.i.blk.frozen 1, h.i.blk.frozen 2⟩, ⟨h.r.cell 0, h.r.cell 1, h.r.cell 2⟩, h.r.frozen 0, h.r.frozen 1, h.r.frozen 2⟩
theorem keep (h : RLoc w0 W bad B R m A c A' c' st) (hs : Same noB W W') : RLoc w0 W' bad B R m A c A' c' st :=
  ⟨h.i.keep hs, h.r.same hs (fun x => x), h.s.trans' hs, h.lb, h.lr, h.ne, h.bd, Nat.le_trans h.sz hs.size⟩
theorem setb (h : RLoc w0 W bad B R m A c A' c' st) (i : Nat) (u : Value) {A2 : Option Addr} {c2 : Nat} {A3 : Option Addr} {c3 : Nat} {st2 : NetSt} (hb : #[Value.slice A st.ps.length c, .int .i64 st.last, .slice A' st.iso.length c'].setIfInBounds i u = #[.slice A2 st2.ps.length c2, .int .i64 st2.last, .slice A3 st2.iso.length c3])
    (h1 : Rd W (fun b => bad b ∨ (w0.heap.size ≤ b ∧ b < w0.heap.size + m)) 4 (.slice A2 st2.ps.length c2) st2.ps.length (pcells st2.ps)) (h2 : Rd W (fun b => bad b ∨ (w0.heap.size ≤ b ∧ b < w0.heap.size + m)) 1 (.slice A3 st2.iso.length c3) st2.iso.length (icells st2.iso)) :
    RLoc w0 (W.setCell ⟨B, i, none⟩ u) bad B R m A2 c2 A3 c3 st2 :=
  ⟨⟨by rw [← hb]; exact h.i.blk.set_ i u, h1.set (.inr h.lb) i u, h2.set (.inr h.lb) i u⟩, h.r.same ((Same.refl (oneB B) W).set1 i u) (fun e => h.ne (show R = B from e).symm), h.s.setCell (a := ⟨B, i, none⟩) (fun hlt => absurd hlt (by have := h.lb; simp; omega)) u, h.lb, h.lr, h.ne, h.bd, by have := h.sz; simpa using this⟩
theorem setlast (h : RLoc w0 W bad B R m A c A' c' st) (x : Int) : RLoc w0 (W.setCell ⟨B, 1, none⟩ (.int .i64 x)) bad B R m A c A' c' ⟨st.ps, x, st.iso⟩ :=
  h.setb 1 _ (by simp) h.i.ps h.i.iso
theorem setps (h : RLoc w0 W bad B R m A c A' c' st) {A2 : Option Addr} {c2 : Nat} {w2 : World} {ps : List Pk} (ha : AppAt W w2 (.slice A2 ps.length c2) ps.length 34 4 (pcells ps)) : RLoc w0 (w2.setCell ⟨B, 0, none⟩ (.slice A2 ps.length c2)) bad B R m A2 c2 A' c' ⟨ps, st.last, st.iso⟩ :=
  (h.keep ha.since).setb 0 _ (by simp) (ha.rd (fun b hb => by have := h.sz; exact hb.elim (fun hb => by have := h.bd b hb; omega) (fun hb => by omega))) (h.keep ha.since).i.iso
theorem setiso (h : RLoc w0 W bad B R m A c A' c' st) {A2 : Option Addr} {c2 : Nat} {w2 : World} {l : List Int} (ha : AppAt W w2 (.slice A2 l.length c2) l.length 3 1 (icells l)) : RLoc w0 (w2.setCell ⟨B, 2, none⟩ (.slice A2 l.length c2)) bad B R m A c A2 c2 ⟨st.ps, st.last, l⟩ :=
  (h.keep ha.since).setb 2 _ (by simp) (h.keep ha.since).i.ps (ha.rd (fun b hb => by have := h.sz; exact hb.elim (fun hb => by have := h.bd b hb; omega) (fun hb => by omega)))
end RLoc
theorem blk_set3 {w : World} {g : Nat} {t : TypeId} {a b c : Value} (h : Blk w g t #[a, b, c]) (a' b' c' : Value) : Blk (((w.setCell ⟨g, 0, none⟩ a').setCell ⟨g, 1, none⟩ b').setCell ⟨g, 2, none⟩ c') g t #[a', b', c'] := by
  have := ((h.set_ 0 a').set_ 1 b').set_ 2 c'
  simpa using this
theorem set3 (w : World) (g : Nat) (a b c : Value) : Same (oneB g) w (((w.setCell ⟨g, 0, none⟩ a).setCell ⟨g, 1, none⟩ b).setCell ⟨g, 2, none⟩ c) := (((Same.refl _ _).set1 0 _).set1 1 _).set1 2 _
/-- Behind the store of the result. -/
theorem RLoc.fin {w0 W : World} {bad : Nat → Prop} {B R m : Nat} {A : Option Addr} {c : Nat} {A' : Option Addr} {c' : Nat} {st : NetSt} (h : RLoc w0 W bad B R m A c A' c' st) {w' : World} (hw : w' = ((W.setCell ⟨R, 0, none⟩ (.slice A st.ps.length c)).setCell ⟨R, 1, none⟩ (.int .i64 st.last)).setCell ⟨R, 2, none⟩ (.slice A' st.iso.length c')) :
    Blk w' R 43 #[.slice A st.ps.length c, .int .i64 st.last, .slice A' st.iso.length c'] ∧ RefAt w' bad (.agg #[.slice A st.ps.length c, .int .i64 st.last, .slice A' st.iso.length c']) st ∧ Same noB w0 w' := by
  subst hw
  have hs := set3 W R (.slice A st.ps.length c) (.int .i64 st.last) (.slice A' st.iso.length c')
  refine ⟨blk_set3 h.r _ _ _, ⟨A, c, A', c', rfl, h.i.ps.same hs (fun b _ e => ?_) (fun b _ x => .inl x), h.i.iso.same hs (fun b _ e => ?_) (fun b _ x => .inl x)⟩, h.s.trans hs (fun b hb e => ?_)⟩
  · exact .inr (by rw [show b = R from e]; exact h.lr)
  · exact .inr (by rw [show b = R from e]; exact h.lr)
  · have := h.lr
    rw [show b = R from e] at hb
    omega
theorem res_ref {fn : Func} {i j : Nat} (hres : fn.results = #[.cell i 43, .tmp j]) {tmps : Array Value} {w : World} {g : Nat} {a b c v : Value} (hb : Blk w g 43 #[a, b, c]) (h4 : tmps.getD i undef = .pointer (some ⟨g, 0, none⟩)) (h5 : tmps.getD j undef = v) :
    (results fn tmps).run Try.prog w = .ok (.tuple #[.agg #[a, b, c], v]) w := by
  have c0 : w.cell? ⟨g, 0, none⟩ = some a := hb.cell 0
  have c1 : w.cell? ⟨g, 1, none⟩ = some b := hb.cell 1
  have c2 : w.cell? ⟨g, 2, none⟩ = some c := hb.cell 2
  simp only [Array.getD_eq_getD_getElem?] at h4 h5
  simp [results, hres, go_sem, h4, h5, c0, c1, c2]
/-- At the start: the argument and the result are laid. -/
theorem RLoc.start {w : World} {bad : Nat → Prop} {A : Option Addr} {c : Nat} {A' : Option Addr} {c' : Nat} {st : NetSt} (h1 : Rd w bad 4 (.slice A st.ps.length c) st.ps.length (pcells st.ps)) (h2 : Rd w bad 1 (.slice A' st.iso.length c') st.iso.length (icells st.iso)) (hbd : ∀ b, bad b → b < w.heap.size) :
    RLoc w ((w.alloc (.cells #[.slice A st.ps.length c, .int .i64 st.last, .slice A' st.iso.length c'] 43)).alloc (.cells #[.slice none 0 0, .int .i64 0, .slice none 0 0] 43)) bad w.heap.size (w.heap.size + 1) 2 A c A' c' st := by
  have hS : Same noB w (w.alloc (.cells #[.slice A st.ps.length c, .int .i64 st.last, .slice A' st.iso.length c'] 43)) := (Same.refl _ _).alloc _
  refine ⟨RefIn.keep ⟨Blk.new _ _ _, h1.same hS (fun _ _ x => x.elim) (fun b hb x => x.elim id (fun x => by omega)), h2.same hS (fun _ _ x => x.elim) (fun b hb x => x.elim id (fun x => by omega))⟩ ((Same.refl _ _).alloc _), ?_, hS.alloc _, by omega, by omega, by omega, hbd, by simp⟩
  have := Blk.new (w.alloc (.cells #[.slice A st.ps.length c, .int .i64 st.last, .slice A' st.iso.length c'] 43)) 43 #[.slice none 0 0, .int .i64 0, .slice none 0 0]
  simpa using this

set_option maxHeartbeats 4000000 in
theorem rsend_any {w : World} {bad : Nat → Prop} {v : Value} {st : NetSt} (h : RefAt w bad v st) (hbd : ∀ b, bad b → b < w.heap.size) (x y : Int) (d : ByteArray) (hs : st.ps.length ≤ 1000000) (hl : 0 ≤ st.last ∧ st.last ≤ 1000000) :
    Calls Try.prog 35 #[v, .int .i64 x, .int .i64 y, .string d] w fun e w' => ∃ v', e = .returned (.tuple #[v', .int .i64 (st.sent x y)]) ∧ RefAt w' bad v' (st.send x y d) ∧ Same noB w w' := by
  obtain ⟨A, c, A', c', rfl, h1, h2⟩ := h
  obtain ⟨hl1, hl2⟩ := hl
  have hL := RLoc.start h1 h2 hbd
  clear h1 h2 hbd
  obtain ⟨qn, hqn⟩ : ∃ q, q = st.sent x y := ⟨_, rfl⟩
  obtain ⟨qt, hqt⟩ : ∃ q, q = st.send x y d := ⟨_, rfl⟩
  rw [← hqn, ← hqt]
  unfold NetSt.sent NetSt.cut at hqn
  unfold NetSt.send NetSt.cut at hqt
  have HQ := Lib.hid (And.intro hqn hqt)
  clear hqn hqt
  go_enter Try.func35, Try.ntmps35
  go_wp2_with fail
  refine calls_abs (fun W => RLoc w W bad w.heap.size (w.heap.size + 1) 2 A c A' c' st) hL ?_
  clear hL
  intro W hL
  generalize w.heap.size = B at *
  have HX := Lib.hid (has_any hL.i.at_ x)
  have HL := Lib.hid hL
  clear hL
  refine HX.out.mono ?_
  rintro e W1 ⟨rfl, hs1⟩
  have HL1 := Lib.hid (HL.out.keep hs1)
  clear HL HX hs1
  have HX := Lib.hid (has_any HL1.out.i.at_ y)
  obtain ⟨⟨b0, b1, b2⟩, ⟨f0, f1, f2⟩, ⟨r0, r1, r2⟩, q0, q1, q2⟩ := HL1.out.cells
  by_cases hcx : st.iso.contains x = true
  · obtain ⟨h1, h2⟩ := HQ.out
    rw [hcx] at h1 h2 ⊢
    simp only [Bool.true_or, if_true] at h1 h2
    subst h1 h2
    go_wp2_with fail
    obtain ⟨k1, k2, k3⟩ := HL1.out.fin rfl
    exact bodyPost_ret (res_ref rfl k1 rfl rfl) rfl ⟨_, rfl, k2, k3⟩
  rw [Bool.not_eq_true] at hcx
  by_cases hcy : st.iso.contains y = true
  · obtain ⟨h1, h2⟩ := HQ.out
    rw [hcx, hcy] at h1 h2
    rw [hcy] at HX
    rw [hcx]
    simp only [Bool.or_true, if_true] at h1 h2
    subst h1 h2
    clear b0 b1 b2 f0 f1 f2 r0 r1 r2 q0 q1 q2
    obtain ⟨⟨b0, b1, b2⟩, ⟨f0, f1, f2⟩, ⟨r0, r1, r2⟩, q0, q1, q2⟩ := HL1.out.cells
    go_wp2_with fail
    refine HX.out.mono ?_
    rintro e W2 ⟨rfl, hs2⟩
    have HL2 := Lib.hid (HL1.out.keep hs2)
    clear HL1 HX hs2 b0 b1 b2 f0 f1 f2 r0 r1 r2 q0 q1 q2
    obtain ⟨⟨b0, b1, b2⟩, ⟨f0, f1, f2⟩, ⟨r0, r1, r2⟩, q0, q1, q2⟩ := HL2.out.cells
    go_wp2_with fail
    obtain ⟨k1, k2, k3⟩ := HL2.out.fin rfl
    exact bodyPost_ret (res_ref rfl k1 rfl rfl) rfl ⟨_, rfl, k2, k3⟩
  rw [Bool.not_eq_true] at hcy
  obtain ⟨h1, h2⟩ := HQ.out
  rw [hcx, hcy] at h1 h2
  rw [hcy] at HX
  rw [hcx]
  simp only [Bool.or_false, if_false, Bool.false_eq_true] at h1 h2
  subst h1 h2
  go_wp2_with fail
  refine HX.out.mono ?_
  rintro e W2 ⟨rfl, hs2⟩
  have HL2 := Lib.hid (HL1.out.keep hs2)
  clear HL1 HX hs2 b0 b1 b2 f0 f1 f2 r0 r1 r2 q0 q1 q2
  obtain ⟨⟨b0, b1, b2⟩, ⟨f0, f1, f2⟩, ⟨r0, r1, r2⟩, q0, q1, q2⟩ := HL2.out.cells
  go_wp2_with fail
  refine wp_abs (fun W => RLoc w W bad B (B + 1) 2 A c A' c' ⟨st.ps, st.last + 1, st.iso⟩) (HL2.out.setlast _) ?_
  clear HL2 b0 b1 b2 f0 f1 f2 r0 r1 r2 q0 q1 q2
  intro W hL
  obtain ⟨⟨b0, b1, b2⟩, ⟨f0, f1, f2⟩, ⟨r0, r1, r2⟩, q0, q1, q2⟩ := hL.cells
  have hltB := hL.i.blk.lt
  have HL := Lib.hid hL
  have HI := Lib.hid hL.i
  have HP := Lib.hid (show Rd W _ 4 (.slice A st.ps.length c) st.ps.length (pcells st.ps) from hL.i.ps)
  clear hL
  simp only [] at b0 b1 b2
  go_region_law (first
     | (refine step_app slP (by rfl) _ _ (by rfl) (by rfl) (AppAt.own (AppAt.keep (AppAt.lit W 34 4) ?_)) (by rfl) (HP.out.same (S := noB) ?_ (fun _ _ x => x.elim) (fun _ _ x => x)) (pcells_one' _) (by omega) (Nat.zero_le _) ?_; (any_goals (show Same noB _ _; (repeat (first | exact Same.refl _ _ | assumption | refine Same.drew ?_ | refine Same.drewN ?_ _ | refine Same.alloc ?_ _ | refine Same.setCell ?_ (by intro h; simp at h ⊢; omega) _)))); intro A1 c1 w1 hown1 hgrow1 hat1 _; have hA1 := AppAt.next ((AppAt.lit W 34 4).keep (by (repeat (first | exact Same.refl _ _ | assumption | refine Same.drew ?_ | refine Same.drewN ?_ _ | refine Same.alloc ?_ _ | refine Same.setCell ?_ (by intro h; simp at h ⊢; omega) _)))) hgrow1 hat1 hown1; have hI1 := HI.out.keep hA1.since; have d0 := hI1.blk.cell 0; have d1 := hI1.blk.cell 1; simp only [Nat.zero_add, List.nil_append] at hA1; have HA1 := Lib.hid hA1; (try have HPk := Lib.hid (Blk.same (by simpa using Blk.drew (Blk.new (W.alloc (.cells #[] 34)) 34 (Pk.cells ⟨st.last + 1, x, y, d⟩).toArray) : Blk ((W.alloc (.cells #[] 34)).alloc (.cells (Pk.cells ⟨st.last + 1, x, y, d⟩).toArray 34)).drew (W.heap.size + 1) 34 (Pk.cells ⟨st.last + 1, x, y, d⟩).toArray) (Same.of_grown hgrow1) (by simp [rowB, Value.ownBlock]))); clear hA1 hI1 hown1 hgrow1 hat1)
     | (refine step_app slP (by rfl) _ _ (by rfl) (by rfl) (AppAt.own (AppAt.keep (AppAt.lit2 W (.cells (Pk.cells ⟨st.last + 1, x, y, d⟩).toArray 34) 34 4) ?_)) (by rfl) (HP.out.same (S := noB) ?_ (fun _ _ x => x.elim) (fun _ _ x => x)) (pcells_one' _) (by omega) (Nat.zero_le _) ?_; (any_goals (show Same noB _ _; (repeat (first | exact Same.refl _ _ | assumption | refine Same.drew ?_ | refine Same.drewN ?_ _ | refine Same.alloc ?_ _ | refine Same.setCell ?_ (by intro h; simp at h ⊢; omega) _)))); intro A1 c1 w1 hown1 hgrow1 hat1 _; have hA1 := AppAt.next ((AppAt.lit2 W (.cells (Pk.cells ⟨st.last + 1, x, y, d⟩).toArray 34) 34 4).keep (by (repeat (first | exact Same.refl _ _ | assumption | refine Same.drew ?_ | refine Same.drewN ?_ _ | refine Same.alloc ?_ _ | refine Same.setCell ?_ (by intro h; simp at h ⊢; omega) _)))) hgrow1 hat1 hown1; have hI1 := HI.out.keep hA1.since; have d0 := hI1.blk.cell 0; have d1 := hI1.blk.cell 1; simp only [Nat.zero_add, List.nil_append] at hA1; have HA1 := Lib.hid hA1; (try have HPk := Lib.hid (Blk.same (Blk.drew (Blk.alloc (Blk.new W 34 (Pk.cells ⟨st.last + 1, x, y, d⟩).toArray) (.cells #[] 34))) (Same.of_grown hgrow1) (by simp [rowB, Value.ownBlock]))); clear hA1 hI1 hown1 hgrow1 hat1)
     | (refine step_app slP (by rfl) _ _ (by rfl) (by rfl) (AppAt.own (AppAt.keep HA1.out ?_)) (bad := noB) (by rfl) (Rd.of_blk (Blk.new w1 34 (Pk.cells ⟨st.last + 1, x, y, d⟩).toArray) (fun x => x) (by rfl) (by omega) (by simp [maxLen])) (pk_one ⟨st.last + 1, x, y, d⟩) (by omega) (Nat.zero_le _) ?_; (any_goals (show Same noB _ _; (repeat (first | exact Same.refl _ _ | assumption | refine Same.drew ?_ | refine Same.drewN ?_ _ | refine Same.alloc ?_ _ | refine Same.setCell ?_ (by intro h; simp at h ⊢; omega) _)))); intro A2 c2 w2 hown2 hgrow2 hat2 _; have HA2 := Lib.hid (AppAt.next (HA1.out.keep (by (repeat (first | exact Same.refl _ _ | assumption | refine Same.drew ?_ | refine Same.drewN ?_ _ | refine Same.alloc ?_ _ | refine Same.setCell ?_ (by intro h; simp at h ⊢; omega) _)))) hgrow2 hat2 hown2); have hI2 := HI.out.keep (HA2.out).since; have e0 := hI2.blk.cell 0; have e1 := hI2.blk.cell 1; have e2 := hI2.blk.cell 2; have g0 := hI2.blk.frozen 0; clear hI2 hown2 hgrow2 hat2)
     | (refine step_app slP (by rfl) _ _ (by rfl) (by rfl) (AppAt.own (AppAt.keep HA1.out ?_)) (bad := noB) (by rfl) (Rd.of_blk HPk.out (fun x => x) (by rfl) (by omega) (by simp [maxLen])) (pk_one ⟨st.last + 1, x, y, d⟩) (by omega) (Nat.zero_le _) ?_; (any_goals (show Same noB _ _; (repeat (first | exact Same.refl _ _ | assumption | refine Same.drew ?_ | refine Same.drewN ?_ _ | refine Same.alloc ?_ _ | refine Same.setCell ?_ (by intro h; simp at h ⊢; omega) _)))); intro A2 c2 w2 hown2 hgrow2 hat2 _; have HA2 := Lib.hid (AppAt.next (HA1.out.keep (by (repeat (first | exact Same.refl _ _ | assumption | refine Same.drew ?_ | refine Same.drewN ?_ _ | refine Same.alloc ?_ _ | refine Same.setCell ?_ (by intro h; simp at h ⊢; omega) _)))) hgrow2 hat2 hown2); have hI2 := HI.out.keep (HA2.out).since; have e0 := hI2.blk.cell 0; have e1 := hI2.blk.cell 1; have e2 := hI2.blk.cell 2; have g0 := hI2.blk.frozen 0; clear hI2 hown2 hgrow2 hat2))
  all_goals
    go_wp2_with fail
    refine wp_abs (fun W => RLoc w W bad B (B + 1) 2 A2 c2 A' c' ⟨st.ps ++ [⟨st.last + 1, x, y, d⟩], st.last + 1, st.iso⟩ ∧ W.cell? ⟨B, 0, none⟩ = some (.slice A2 (st.ps.length + 1) c2)) (by
      have h := HA2.out
      have hh := HL.out.setps (w2 := w2) (A2 := A2) (c2 := c2) (ps := st.ps ++ [⟨st.last + 1, x, y, d⟩]) (by simpa [pcells_snoc] using h)
      rw [List.length_append] at hh
      exact ⟨hh, by have := hh.cells.1.1; rwa [List.length_append] at this⟩) ?_
    clear HL HI HP HA1 HA2 b0 b1 b2 f0 f1 f2 r0 r1 r2 q0 q1 q2 d0 d1 e0 e1 e2 g0
    try clear HPk
    rintro W3 ⟨hL, b0⟩
    obtain ⟨⟨_, b1, b2⟩, ⟨f0, f1, f2⟩, ⟨r0, r1, r2⟩, q0, q1, q2⟩ := hL.cells
    have HL := Lib.hid hL
    clear hL
    have HF := HL.out.keep ((Same.refl _ _).drew)
    have HF2 := HF.fin rfl
    simp only [List.length_append, List.length_cons, List.length_nil, Nat.zero_add] at HF2
    have HFF := Lib.hid HF2
    clear HF HF2
    go_region
    go_wp2_with fail
    obtain ⟨k1, k2, k3⟩ := HFF.out
    exact bodyPost_ret (res_ref rfl k1 rfl rfl) rfl ⟨_, rfl, k2, k3⟩
end Go.Proofs.Ytgmoeejhgjfpgaa
