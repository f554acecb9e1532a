/- Layer 21: the placement at the beginning, at the example. -/
import Derived.Test.YtpngmodgnkjhnaaFailM
import Derived.Test.YtpngmodgnkjhnaaSiteO
namespace Go.Proofs.Ytpngmodgnkjhnaa
open Go Go.RowKit Go.Maps
set_option maxRecDepth 100000

theorem slRow : SlT Try.prog 39 75 1 24 := SlT.mk_ (z := .slice none 0 0) Try.underlying39 (by kernel_rfl) rfl (by decide) (by decide)
theorem sl_one (A : Option Addr) (n c : Nat) : ∀ u ∈ [Value.slice A n c], u.oneCell' = true := by simp [Value.oneCell']
theorem On2.keep {w w' : World} {on : Sl} {S : Nat → Prop} (h : On2 w on) (hs : Same S w w') (hn : ∀ t cs b, S b → Blk w b t cs → t ≠ 3) : On2 w' on := by
  obtain ⟨g, e, hb⟩ := h
  exact ⟨g, e, hb.same hs (fun x => hn _ _ _ x hb rfl)⟩

/-- Initial's memory. -/
structure InI (w W : World) (M b o g R2 R3 ic : Nat) : Prop where
  c5 : W.cell? ⟨M, 5, none⟩ = some (.slice (some ⟨b, o, none⟩) 1 ic)
  q6 : W.cell? ⟨b, o + 6, none⟩ = some (.slice (some ⟨g, 0, none⟩) 1 1)
  q7 : W.cell? ⟨g, 0, none⟩ = some (.int .i64 2)
  r2 : Blk W R2 41 #[.slice none 0 0]
  r3 : Blk W R3 41 #[.slice none 0 0]
  lo2 : w.heap.size ≤ R2
  lo3 : w.heap.size ≤ R3
  ne : R2 ≠ R3
  cap : 1 ≤ ic ∧ ic ≤ 9223372036854775807
  since : Same noB w W
theorem InI.keep {w W W' : World} {M b o g R2 R3 ic : Nat} (h : InI w W M b o g R2 R3 ic) (hs : Same noB W W') : InI w W' M b o g R2 R3 ic :=
  ⟨hs.cell h.c5 (fun x => x), hs.cell h.q6 (fun x => x), hs.cell h.q7 (fun x => x), h.r2.same hs (fun x => x), h.r3.same hs (fun x => x), h.lo2, h.lo3, h.ne, h.cap, h.since.trans' hs⟩
theorem InI.start {w : World} {p : MPl} {on : Sl} {fl : Int} (h : MdlIn w p (exD on fl)) (ho : On2 w on) : ∃ b o g ic, p.i = ⟨some ⟨b, o, none⟩, 1, ic⟩ ∧
    InI w (((w.alloc (.cells (mdlCells p (exD on fl)) 29)).alloc (.cells #[.slice none 0 0] 41)).alloc (.cells #[.slice none 0 0] 41)) w.heap.size b o g (w.heap.size + 1) (w.heap.size + 1 + 1) ic := by
  have b2 := new_at (w := w.alloc (.cells (mdlCells p (exD on fl)) 29)) (n := w.heap.size + 1) (by simp) 41 #[.slice none 0 0]
  have b3 := new_at (w := (w.alloc (.cells (mdlCells p (exD on fl)) 29)).alloc (.cells #[.slice none 0 0] 41)) (n := w.heap.size + 1 + 1) (by simp) 41 #[.slice none 0 0]
  have hs : Same noB w (((w.alloc (.cells (mdlCells p (exD on fl)) 29)).alloc (.cells #[.slice none 0 0] 41)).alloc (.cells #[.slice none 0 0] 41)) := (((Same.refl noB _).alloc _).alloc _).alloc _
  have hm := ((MB.start h).keep ((Same.refl _ _).alloc (.cells #[.slice none 0 0] 41))).keep ((Same.refl _ _).alloc (.cells #[.slice none 0 0] 41))
  have hl : p.i.len = 1 := h.li
  obtain ⟨b, o, hpi, ri⟩ := hm.inn.i.at_ (by rw [hl]; omega)
  obtain ⟨_, q6⟩ := it_at (i := 0) ri rfl
  obtain ⟨g, hon, hg⟩ := ho
  have hcap := h.i.caps
  obtain ⟨c0, c1, c2, c3, c4, c5, c6, c7, c8, c9, c10⟩ := hm.all
  obtain ⟨s1, s2, s3, s4, s5, si, s6⟩ := p
  obtain ⟨ia, il, ic⟩ := si
  simp only at hpi hcap hl
  subst hl hpi
  simp only [exI, Nat.zero_mul, Nat.add_zero] at q6
  rw [hon] at q6
  exact ⟨b, o, g, ic, rfl, c5, q6, by rw [(hg.same hs (fun x => x)).cell]; rfl, b2.alloc _, b3, by omega, by omega, by omega, hcap, hs⟩
/-- Behind the store of the list. -/
structure InE (w W : World) (M R2 R3 b o ic : Nat) (A B : Option Addr) (c d : Nat) : Prop where
  c5 : W.cell? ⟨M, 5, none⟩ = some (.slice (some ⟨b, o, none⟩) 1 ic)
  r2 : Blk W R2 41 #[.slice none 0 0]
  r3 : Blk W R3 41 #[.slice B 1 d]
  lo2 : w.heap.size ≤ R2
  row : Rd W (oneB R2) 2 (.slice A 1 c) 1 (uncells [⟨2, 0⟩])
  list : Rd W (oneB R2) 1 (.slice B 1 d) 1 [.slice A 1 c]
  since : Same noB w W
theorem InE.mk_ {w W W4 W5 : World} {M b o g R2 R3 ic c d : Nat} {A B : Option Addr} (h : InI w W M b o g R2 R3 ic) (ha : AppAt W W4 (.slice A 1 c) 1 77 2 (uncells [⟨2, 0⟩])) (hl : AppAt W4 W5 (.slice B 1 d) 1 75 1 [.slice A 1 c]) :
    InE w (W5.setCell ⟨R3, 0, none⟩ (.slice B 1 d)) M R2 R3 b o ic A B c d := by
  have h5 := (h.keep ha.since).keep hl.since
  have hlt2 := h.r2.lt
  have hlt3 := h.r3.lt
  have hsz := ha.since.size
  have hs : Same (oneB R3) W5 (W5.setCell ⟨R3, 0, none⟩ (.slice B 1 d)) := (Same.refl _ _).set1 0 _
  have hne : M ≠ R3 := by
    rintro rfl
    have h1 := h5.c5
    rw [h5.r3.cell] at h1
    cases h1
  refine ⟨hs.cell h5.c5 hne, h5.r2.same hs h.ne, ?_, h.lo2, ?_, ?_, h5.since.trans hs (fun k hk e => by have := h.lo3; rw [show k = R3 from e] at hk; omega)⟩
  · have := h5.r3.set_ 0 (.slice B 1 d)
    simpa only [List.setIfInBounds_toArray, List.set_cons_zero] using this
  · exact ((ha.rd (bad := fun k => k = R2 ∨ k = R3) (fun k e => by omega)).keep hl.since).same hs (fun k _ e => .inr e) (fun k _ e => .inl e)
  · exact (hl.rd (bad := fun k => k = R2 ∨ k = R3) (fun k e => by omega)).same hs (fun k _ e => .inr e) (fun k _ e => .inl e)
theorem InE.fin {w W : World} {M R2 R3 b o ic c d : Nat} {A B : Option Addr} (h : InE w W M R2 R3 b o ic A B c d) :
    Blk (W.setCell ⟨R2, 0, none⟩ (.slice B 1 d)) R2 41 #[.slice B 1 d] ∧ PlIn (W.setCell ⟨R2, 0, none⟩ (.slice B 1 d)) ⟨B, 1, d⟩ [[⟨2, 0⟩]] ∧ Same noB w (W.setCell ⟨R2, 0, none⟩ (.slice B 1 d)) := by
  have hs : Same (oneB R2) W (W.setCell ⟨R2, 0, none⟩ (.slice B 1 d)) := (Same.refl _ _).set1 0 _
  refine ⟨?_, ⟨rfl, ⟨[⟨A, 1, c⟩], rfl, h.list.same hs (fun _ _ e => e) (fun _ _ e => e.elim), fun i sl us hi hu => ?_⟩, ?_⟩, h.since.trans hs (fun k hk e => by have := h.lo2; rw [show k = R2 from e] at hk; omega)⟩
  · have := h.r2.set_ 0 (.slice B 1 d)
    simpa only [List.setIfInBounds_toArray, List.set_cons_zero] using this
  · match i, hi, hu with
    | 0, hi, hu =>
      injection hi with hi
      injection hu with hu
      subst hi hu
      exact ⟨h.row.same hs (fun _ _ e => e) (fun _ _ e => e.elim), rfl⟩
  · intro us hus u hu
    simp at hus
    subst hus
    simp at hu
    subst hu
    exact ⟨inI64_of (by decide) (by decide), inI64_of (by decide) (by decide)⟩
theorem res_pl {fn : Func} {i : Nat} (hres : fn.results = #[.cell i 41]) {tmps : Array Value} {w : World} {g : Nat} {s : Sl} (hb : Blk w g 41 #[.slice s.addr s.len s.cap]) (h4 : tmps.getD i undef = .pointer (some ⟨g, 0, none⟩)) :
    (results fn tmps).run Try.prog w = .ok (plVal s) w := by
  have c0 : w.cell? ⟨g, 0, none⟩ = some (.slice s.addr s.len s.cap) := hb.cell 0
  simp only [Array.getD_eq_getD_getElem?] at h4
  simp [results, hres, go_sem, h4, c0, plVal]

theorem wp_abs_rounds {P : Program} {c : Code} {Q : Exit → Act → World → Prop} {n : Nat} {a : Act} {w : World} (F : World → Prop) (hF : F w) (h : ∀ w, F w → c.rounds P Q n a w) : c.rounds P Q n a w := h w hF

set_option maxHeartbeats 8000000 in
theorem initial_ex {w : World} {p : MPl} {on : Sl} {fl : Int} (h : MdlIn w p (exD on fl)) (ho : On2 w on) :
    Calls Try.prog 33 #[mdlVal p (exD on fl)] w fun e w' => ∃ s, e = .returned (plVal s) ∧ PlIn w' s [[⟨2, 0⟩]] ∧ Same noB w w' := by
  obtain ⟨b, o, g, ic, hpi, hi⟩ := InI.start h ho
  have HI0 := Lib.hid hi
  clear h ho hi hpi
  unfold mdlVal
  unfold mdlCells at HI0
  go_enter Try.func33, Try.ntmps33
  go_wp2_with fail
  refine wp_abs (fun W => Hid (InI w W w.heap.size b o g (w.heap.size + 1) (w.heap.size + 1 + 1) ic)) HI0 ?_
  clear HI0
  generalize w.heap.size + 1 + 1 = R3 at *
  generalize w.heap.size + 1 = R2 at *
  generalize w.heap.size = M at *
  intro W HI
  have c5 := HI.out.c5
  have q6 := HI.out.q6
  have q7 := HI.out.q7
  have hcap := HI.out.cap
  refine wp_loop_rounds 2 ?_
  rw [rounds_succ]
  go_wp2_with fail
  refine wp_abs (fun W1 => Hid (InI w W1 M b o g R2 R3 ic ∧ AppAt W W1 (.slice (some ⟨W.heap.size, 0, none⟩) 0 0) 0 77 2 [])) ⟨HI.out.keep ((Same.refl _ _).alloc _), AppAt.lit W 77 2⟩ ?_
  intro W1 HJ
  have c5 := HJ.out.1.c5
  have q6 := HJ.out.1.q6
  have q7 := HJ.out.1.q7
  refine wp_loop_rounds 2 ?_
  rw [rounds_succ]
  go_wp2_with (at_builtin; refine wpL_app slU rfl _ _ rfl rfl ((HJ.out.2.keep ((Same.refl _ _).alloc _)).own) rfl (bad := noB) (Rd.of_blk (Blk.new W1 77 [Value.int .i64 2, Value.int .i64 0].toArray) (fun x => x) (by rfl) (by omega) (by simp [maxLen])) (un_one ⟨2, 0⟩) (by decide) (Nat.zero_le _) ?_; intro A4 c4 W4 hown4 hgrow4 hat4 _; have HK : Hid (AppAt W W4 (.slice A4 1 c4) 1 77 2 (uncells [⟨2, 0⟩])) := (HJ.out.2.keep ((Same.refl _ _).alloc _)).next hgrow4 hat4 hown4; clear hown4 hgrow4 hat4)
  have HIK : Hid (InI w W4 M b o g R2 R3 ic) := HI.out.keep HK.out.since
  clear HJ
  have c5 := HIK.out.c5
  have q6 := HIK.out.q6
  have q7 := HIK.out.q7
  have d3 := HIK.out.r3.cell 0
  have f3 := HIK.out.r3.frozen 0
  simp only [List.getElem?_toArray, List.getElem?_cons_zero] at d3
  have hl3 := HIK.out.r3.lt
  rw [rounds_succ]
  go_wp2_with (at_builtin; refine wpL_app slRow rfl _ _ rfl rfl (((AppAt.nil_ W4 75 1).keep ((Same.refl _ _).alloc _)).own) rfl (bad := noB) (Rd.of_blk (Blk.new W4 75 [Value.slice A4 1 c4].toArray) (fun x => x) (by rfl) (by omega) (by simp [maxLen])) (sl_one A4 1 c4) (by decide) (Nat.zero_le _) ?_; intro A5 c5' W5 hown5 hgrow5 hat5 _; have HL : Hid (AppAt W4 W5 (.slice A5 1 c5') 1 75 1 [.slice A4 1 c4]) := ((AppAt.nil_ W4 75 1).keep ((Same.refl _ _).alloc _)).next hgrow5 hat5 hown5; have hc3 := HL.out.since.cell d3 (fun x => x); have hf3 := (HL.out.since.frozen hl3 (fun x => x)).trans f3; clear hown5 hgrow5 hat5)
  have HE := Lib.hid (InE.mk_ HI.out HK.out HL.out)
  refine wp_abs_rounds (fun W => Hid (InE w W M R2 R3 b o ic A4 A5 c4 c5')) HE ?_
  clear HE HL HK HI HIK c5 q6 q7 d3 f3 hl3 hc3 hf3
  intro W6 HE
  have c5 := HE.out.c5
  have d2 := HE.out.r2.cell 0
  have f2 := HE.out.r2.frozen 0
  have d3 := HE.out.r3.cell 0
  simp only [List.getElem?_toArray, List.getElem?_cons_zero] at d2 d3
  rw [rounds_succ]
  go_wp2_with fail
  obtain ⟨h1, h2⟩ := HE.out.fin
  exact bodyPost_ret (res_pl rfl h1 rfl) rfl ⟨_, rfl, h2⟩
end Go.Proofs.Ytpngmodgnkjhnaa
