/- Layer 21: Worst of the reference. -/
import Derived.Test.YtpngmodgnkjhnaaFailE
import Derived.Test.YtpngmodgnkjhnaaFailF
import Derived.Test.YtpngmodgnkjhnaaFailG
import Derived.Deep.CutRange
namespace Go.Proofs.Ytpngmodgnkjhnaa
open Go Go.RowKit Go.Maps
set_option maxRecDepth 100000

/-- The first with the fewest, as it is found. -/
def wStep (g : Fl → Nat) (a : Fl × Int) (f : Fl) : Fl × Int := if a.2 < 0 ∨ (g f : Int) < a.2 then (f, (g f : Int)) else a
def wst (g : Fl → Nat) (l : List Fl) : Fl × Int := l.foldl (wStep g) (⟨0, 0⟩, -1)
theorem wst_snoc (g : Fl → Nat) (l : List Fl) (x : Fl) : wst g (l ++ [x]) = wStep g (wst g l) x := by unfold wst; rw [List.foldl_append]; rfl
theorem wst_pos {g : Fl → Nat} {l : List Fl} (h : l ≠ []) : 0 ≤ (wst g l).2 := by
  rcases List.eq_nil_or_concat l with rfl | ⟨l', x, rfl⟩
  · exact absurd rfl h
  · rw [List.concat_eq_append, wst_snoc]
    unfold wStep
    split
    · exact Int.natCast_nonneg _
    · rename_i hc
      omega
theorem wst_mem {g : Fl → Nat} {l : List Fl} (h : l ≠ []) : (wst g l).1 ∈ l ∧ (wst g l).2 = g (wst g l).1 ∧ ∀ x ∈ l, (wst g l).2 ≤ g x := by
  have : ∀ n (l : List Fl), l.length = n + 1 → (wst g l).1 ∈ l ∧ (wst g l).2 = g (wst g l).1 ∧ ∀ x ∈ l, (wst g l).2 ≤ g x := by
    intro n
    induction n with
    | zero =>
      intro l hl
      match l, hl with
      | [x], _ => exact ⟨by simp [wst, wStep], by simp [wst, wStep], by simp [wst, wStep]⟩
    | succ n ih =>
      intro l hl
      rcases List.eq_nil_or_concat l with rfl | ⟨l', x, rfl⟩
      · simp at hl
      · rw [List.concat_eq_append] at hl ⊢
        obtain ⟨h1, h2, h3⟩ := ih l' (by simpa using hl)
        have hp : 0 ≤ (wst g l').2 := by omega
        rw [wst_snoc]
        unfold wStep
        split
        · rename_i hc
          refine ⟨by simp, rfl, fun y hy => ?_⟩
          rcases List.mem_append.1 hy with hy | hy
          · have := h3 y hy
            show (g x : Int) ≤ g y
            omega
          · rw [List.mem_singleton.1 hy]; exact Int.le_refl _
        · rename_i hc
          refine ⟨List.mem_append_left _ h1, h2, fun y hy => ?_⟩
          rcases List.mem_append.1 hy with hy | hy
          · exact h3 y hy
          · rw [List.mem_singleton.1 hy]; omega
  obtain ⟨n, hn⟩ : ∃ n, l.length = n + 1 := ⟨l.length - 1, by have := List.length_pos_iff.2 h; omega⟩
  exact this n l hn
def nS (m : Mdl) (P : List (List Un)) (item : Int) (f : Fl) : Nat := (survs m P f item).length
def worst (m : Mdl) (P : List (List Un)) (item : Int) : Fl × Int := wst (nS m P item) (declL m)
theorem decl_ne (m : Mdl) : declL m ≠ [] := by
  obtain ⟨t, ht⟩ := uptoL_pre m (k := 0) (k' := 3) (by omega)
  intro h
  rw [show uptoL m 3 = declL m from rfl, h] at ht
  simp [uptoL] at ht
theorem decl_head (m : Mdl) : (declL m)[0]? = some ⟨0, 0⟩ := by
  obtain ⟨t, ht⟩ := uptoL_pre m (k := 0) (k' := 3) (by omega)
  rw [show uptoL m 3 = declL m from rfl] at ht
  rw [← ht]
  simp [uptoL]
theorem decl_by {m : Mdl} {f : Fl} (h : f ∈ declL m) : 0 ≤ f.by_ ∧ f.by_ ≤ 3 ∧ 0 ≤ f.num ∧ ∃ b, f.num ≤ m.domains b := by
  have h1 : f ∈ (⟨0, 0⟩ : Fl) :: (List.range 3).flatMap (kindL m) := h
  rcases List.mem_cons.1 h1 with rfl | h1
  · exact ⟨by decide, by decide, by decide, 0, Int.natCast_nonneg _⟩
  · obtain ⟨k, hk, hf⟩ := List.mem_flatMap.1 h1
    unfold kindL at hf
    split at hf
    · obtain ⟨i, hi, rfl⟩ := List.mem_map.1 hf
      rw [List.mem_range] at hk hi
      exact ⟨by show (0 : Int) ≤ (k : Int) + 1; omega, by show (k : Int) + 1 ≤ 3; omega, by show (0 : Int) ≤ (i : Int) + 1; omega, (k : Int) + 1, by show (i : Int) + 1 ≤ _; omega⟩
    · cases hf
/-- What Worst holds besides its answer. -/
structure WQ (w W : World) (p : MPl) (m : Mdl) (s : Sl) (P : List (List Un)) (M Q G6 n0 n : Nat) (v : Value) : Prop where
  inn : MdlIn w p m
  pin : PlIn w s P
  since : Same noB w W
  mbox : Blk W M 29 (mdlCells p m)
  qbox : Blk W Q 41 #[.slice s.addr s.len s.cap]
  b6 : Blk W G6 31 #[.int .i64 0, .int .i64 0]
  l : Rd W (fun b => n0 ≤ b) 2 v n (flcells (declL m))
  wn : w.heap.size ≤ n0
  lts : M < n0 ∧ Q < n0 ∧ G6 < n0
  g6 : w.heap.size ≤ G6
  sz : n0 ≤ W.heap.size
section
variable {w W W' : World} {p : MPl} {m : Mdl} {s : Sl} {P : List (List Un)} {M Q G6 n0 n : Nat} {v : Value}
theorem WQ.mq (h : WQ w W p m s P M Q G6 n0 n v) : MQ w W p m s P M Q := ⟨⟨h.inn.keep h.since, h.mbox, h.since⟩, ⟨h.pin.keep h.since, h.qbox, h.since⟩⟩
theorem WQ.far (h : WQ w W p m s P M Q G6 n0 n v) (hs : Same (fun b => n0 ≤ b) W W') : WQ w W' p m s P M Q G6 n0 n v :=
  ⟨h.inn, h.pin, h.since.trans hs (fun b hb hx => by have h1 : n0 ≤ b := hx; have h2 := h.wn; omega), h.mbox.same hs (by have := h.lts.1; omega), h.qbox.same hs (by have := h.lts.2.1; omega), h.b6.same hs (by have := h.lts.2.2; omega), h.l.same hs (fun _ _ x => x) (fun _ _ x => x), h.wn, h.lts, h.g6, Nat.le_trans h.sz hs.size⟩
theorem WQ.keep (h : WQ w W p m s P M Q G6 n0 n v) (hs : Same noB W W') : WQ w W' p m s P M Q G6 n0 n v := h.far hs.of_no
theorem WQ.set2 (h : WQ w W p m s P M Q G6 n0 n v) {G9 : Nat} (hg : n0 ≤ G9) (a b : Value) : WQ w ((W.setCell ⟨G9, 0, none⟩ a).setCell ⟨G9, 1, none⟩ b) p m s P M Q G6 n0 n v :=
  h.far (((Same.refl _ W).setCell (fun _ => hg) a).setCell (fun _ => hg) b)
end
theorem res_w {fn : Func} {i j : Nat} (hres : fn.results = #[.cell i 31, .tmp j]) {tmps : Array Value} {w : World} {g : Nat} {a b v : Value} (hb : Blk w g 31 #[a, b]) (h4 : tmps.getD i undef = .pointer (some ⟨g, 0, none⟩)) (h5 : tmps.getD j undef = v) :
    (results fn tmps).run Try.prog w = .ok (.tuple #[.agg #[a, b], v]) w := by
  have c0 : w.cell? ⟨g, 0, none⟩ = some a := hb.cell 0
  have c1 : w.cell? ⟨g, 1, none⟩ = some b := hb.cell 1
  simp only [Array.getD_eq_getD_getElem?] at h4 h5
  simp [results, hres, go_sem, h4, h5, c0, c1]
set_option maxHeartbeats 4000000 in
theorem rworst_any {w : World} {p : MPl} {m : Mdl} {s : Sl} {P : List (List Un)} (h : MdlIn w p m) (hP : PlIn w s P) (item : Int) (hd : ∀ b, m.domains b ≤ 1000000) (hlen : (declL m).length ≤ 4000000) (hus : (unitsOf P item).length ≤ 1000000) :
    Calls Try.prog 19 #[mdlVal p m, plVal s, .int .i64 item] w fun e w' => e = .returned (.tuple #[(worst m P item).1.val, .int .i64 (worst m P item).2]) ∧ Same noB w w' := by
  have hbq := MQ.start h hP
  have hz1 : (w.alloc (.cells (mdlCells p m) 29)).heap.size = w.heap.size + 1 := by simp
  have hz2 : ((w.alloc (.cells (mdlCells p m) 29)).alloc (.cells #[.slice s.addr s.len s.cap] 41)).heap.size = w.heap.size + 1 + 1 := by simp
  have hb6 := Blk.new ((w.alloc (.cells (mdlCells p m) 29)).alloc (.cells #[.slice s.addr s.len s.cap] 41)) 31 #[.int .i64 0, .int .i64 0]
  rw [hz2] at hb6
  have HM0 := Lib.hid (And.intro (hbq.keep ((Same.refl noB _).alloc (.cells #[.int .i64 0, .int .i64 0] 31))) hb6)
  have HIN := Lib.hid (And.intro h hP)
  have HD := Lib.hid hd
  have HL := Lib.hid hlen
  have HU := Lib.hid hus
  clear h hP hd hlen hus hbq hz1 hz2 hb6
  unfold mdlVal plVal
  unfold mdlCells at HM0
  go_enter Try.func19, Try.ntmps19
  go_wp2_with fail
  refine calls_abs (fun W => Hid (MQ w W p m s P w.heap.size (w.heap.size + 1) ∧ Blk W (w.heap.size + 1 + 1) 31 #[.int .i64 0, .int .i64 0])) HM0 ?_
  clear HM0
  generalize hG : w.heap.size + 1 + 1 = G6 at *
  generalize hQ : w.heap.size + 1 = Q at *
  obtain ⟨M, hM⟩ : ∃ M, w.heap.size = M := ⟨_, rfl⟩
  rw [hM]
  intro W HM0
  have hZ := rall_any HM0.out.1.mb.inn HD.out HL.out
  unfold mdlVal at hZ
  (with_reducible refine Calls.mono hZ ?_)
  clear hZ
  rintro e W3 ⟨v3, rfl, ha⟩
  obtain ⟨A3, n3, rfl, hn31, hn32, hr3⟩ := (ha.rd (bad := noB) (fun b e => e.elim)).form
  have hlts := And.intro HM0.out.1.mb.box.lt (And.intro HM0.out.1.pb.box.lt HM0.out.2.lt)
  have HW : Hid (WQ w W3 p m s P M Q G6 W3.heap.size (declL m).length (.slice A3 (declL m).length n3)) :=
    ⟨HIN.out.1, HIN.out.2, HM0.out.1.mb.since.trans' ha.since, HM0.out.1.mb.box.same ha.since (fun x => x), HM0.out.1.pb.box.same ha.since (fun x => x), HM0.out.2.same ha.since (fun x => x), Rd.of_own ha.own (fun g hg hx => by have := (ha.own.lt g hg).2; omega), Nat.le_trans HM0.out.1.mb.since.size ha.since.size,
      by have := ha.since.size; omega, by omega, Nat.le_refl _⟩
  clear hlts
  have hnp : 0 < (declL m).length := List.length_pos_iff.2 (decl_ne m)
  have HH := Lib.hid (decl_head m)
  have HE := Lib.hid (show ∀ f ∈ declL m, inI64 f.by_ from fun f hf => by
    obtain ⟨h1, h2, _⟩ := decl_by hf
    exact inI64_of (by omega) (by omega))
  have HQ : Hid (worst m P item = wst (nS m P item) (declL m)) := rfl
  have HLl : Hid ((declL m).length ≤ 4000000) := HL.out
  obtain ⟨n0, hn0⟩ : ∃ n0, W3.heap.size = n0 := ⟨_, rfl⟩
  rw [hn0] at HW
  have hsz : W3.drew.heap.size = n0 := hn0
  clear ha hr3 HM0 hn31 hn32
  obtain ⟨b, o, rfl, hr⟩ := HW.out.l.at_ hnp
  obtain ⟨d0, d1⟩ := fl_at hr HH.out
  obtain ⟨c0, c1, c2, c3, c4, c5, c6, c7, c8, c9, c10⟩ := HW.out.mq.mb.all
  have cq := HW.out.mq.pb.c
  have HWd := Lib.hid (HW.out.keep ((Same.refl noB W3).drew))
  clear hr
  simp only [Nat.zero_mul, Nat.add_zero] at d0 d1
  have HZ := Lib.hid (fun (W' : World) (hs : Same noB W3 W') (f : Fl) (hf : f ∈ declL m) => rsurv_any (w := W') (HW.out.keep hs).mq.mb.inn (HW.out.keep hs).mq.pb.inn f (HE.out f hf) item HU.out)
  unfold mdlVal plVal Fl.val at HZ
  have HN := Lib.hid (show ∀ f, (survs m P f item).length = nS m P item f from fun _ => rfl)
  have hm0 := List.mem_of_getElem? HH.out
  clear HWd
  have x0 : n0 ≠ M := by rw [← hn0]; exact World.new_ne W3 _ c0
  have x1 : n0 ≠ Q := by rw [← hn0]; exact World.new_ne W3 _ cq
  have x2 : n0 ≠ b := by rw [← hn0]; exact World.new_ne W3 _ d0
  go_wp2_with fail
  go_cut [9, 10] from 15 to 25 (fun g9 k wx => ∃ G9, g9 = .pointer (some ⟨G9, 0, none⟩) ∧ k = .int .i64 (nS m P item ⟨0, 0⟩) ∧ WQ w wx p m s P M Q G6 n0 (declL m).length (.slice (some ⟨b, o, none⟩) (declL m).length n3) ∧ n0 ≤ G9 ∧ Blk wx G9 31 #[.int .i64 0, .int .i64 0])
  case first =>
    go_region_held3 (fun w' => w'.cell? ⟨M, 0, none⟩ = some (.slice p.s.addr p.s.len p.s.cap) ∧ w'.cell? ⟨M, 1, none⟩ = some (.slice p.f.addr p.f.len p.f.cap) ∧ w'.cell? ⟨M, 2, none⟩ = some (.slice p.r.addr p.r.len p.r.cap) ∧ w'.cell? ⟨M, 3, none⟩ = some (.slice p.mc.addr p.mc.len p.mc.cap) ∧ w'.cell? ⟨M, 4, none⟩ = some (.slice p.l.addr p.l.len p.l.cap) ∧ w'.cell? ⟨M, 5, none⟩ = some (.slice p.i.addr p.i.len p.i.cap) ∧ w'.cell? ⟨M, 6, none⟩ = some (.int .i64 m.dark) ∧ w'.cell? ⟨M, 7, none⟩ = some (.int .i64 m.slots) ∧ w'.cell? ⟨M, 8, none⟩ = some (.int .i64 m.reserve) ∧ w'.cell? ⟨M, 9, none⟩ = some (.int .i64 m.failures) ∧ w'.cell? ⟨M, 10, none⟩ = some (.slice p.ru.addr p.ru.len p.ru.cap) ∧ w'.cell? ⟨Q, 0, none⟩ = some (.slice s.addr s.len s.cap) ∧ w'.cell? ⟨b, o, none⟩ = some (.int .i64 0) ∧ w'.cell? ⟨b, o + 1, none⟩ = some (.int .i64 0))
      (first | (refine ⟨?_, ?_, ?_, ?_, ?_, ?_, ?_, ?_, ?_, ?_, ?_, ?_, ?_, ?_⟩ <;> with_reducible assumption) | go_keep)
      ((go_at_call 28; have hZ := HZ.out; (with_reducible refine Calls.mono (hZ _ (by (repeat (first | exact Same.refl _ _ | assumption | refine Same.drew ?_ | refine Same.alloc ?_ _))) ⟨0, 0⟩ hm0) ?_); clear hZ; rintro e W5 ⟨v5, rfl, ha5⟩; obtain ⟨A5, k5, rfl⟩ := own_form ha5.own; have hs5 := Lib.hid ha5.since; have HW5 := Lib.hid (HW.out.keep (Same.trans' (by (repeat (first | exact Same.refl _ _ | assumption | refine Same.drew ?_ | refine Same.alloc ?_ _))) ha5.since)); obtain ⟨c0, c1, c2, c3, c4, c5, c6, c7, c8, c9, c10⟩ := HW5.out.mq.mb.all; have cq := HW5.out.mq.pb.c; have d0 := (Same.trans' (S := noB) (w := W3) (by (repeat (first | exact Same.refl _ _ | assumption | refine Same.drew ?_ | refine Same.alloc ?_ _))) ha5.since).cell d0 (fun x => x); have d1 := (Same.trans' (S := noB) (w := W3) (by (repeat (first | exact Same.refl _ _ | assumption | refine Same.drew ?_ | refine Same.alloc ?_ _))) ha5.since).cell d1 (fun x => x); have x0 : W5.heap.size ≠ M := World.new_ne W5 _ c0; have x1 : W5.heap.size ≠ Q := World.new_ne W5 _ cq; have x2 : W5.heap.size ≠ b := World.new_ne W5 _ d0; (try (have hb5 := (by with_reducible exact hs5.out : Same noB (W3.alloc _).drew W5); have hy5 := (Blk.new W3 31 #[.int .i64 0, .int .i64 0]).drew.same hb5 (fun x => x); rw [hn0] at hy5; have y0 := hy5.cell 0; have y1 := hy5.cell 1; have z0 := hy5.frozen 0; have z1 := hy5.frozen 1)); clear ha5))
    all_goals go_wp2_with fail
    all_goals
      go_meet
      refine ⟨_, rfl, rfl, ?_, ?_, ?_⟩
    all_goals first
      | exact HW5.out.keep ((Same.refl _ _).alloc _)
      | exact HW5.out.set2 (Nat.le_refl _) _ _
      | exact Nat.le_refl _
      | exact HW5.out.sz
      | exact Blk.new _ _ _
      | (have hb5 : Same noB (W3.alloc (.cells #[.int .i64 0, .int .i64 0] 31)).drew W5 := (by with_reducible exact hs5.out)
         have hy := (Blk.new W3 31 #[.int .i64 0, .int .i64 0]).drew.same hb5 (fun x => x)
         rw [hn0] at hy
         exact (hy.set_ 0 _).set_ 1 _)
  case rest =>
    obtain ⟨G9, rfl, rfl, hw, hg9, hb9⟩ := hcut
    have HW1 := Lib.hid hw
    have HB1 := Lib.hid hb9
    have HG9 := Lib.hid hg9
    clear hw hg9 hb9 HZ HW c0 c1 c2 c3 c4 c5 c6 c7 c8 c9 c10 cq d0 d1 x0 x1 x2 hm0
    go_wp2_with fail
    go_loopg [10, 11] ((declL m).length - 1) (fun gk kk i wr => ∃ (k : Nat) (x : Fl), 1 ≤ k ∧ k ≤ (declL m).length ∧ Hid (gk + k = (declL m).length) ∧ i = .int .i64 k ∧ kk = .int .i64 (wst (nS m P item) ((declL m).take k)).2 ∧ Hid (x = (wst (nS m P item) ((declL m).take k)).1 ∧ Blk wr G9 31 #[.int .i64 x.by_, .int .i64 x.num] ∧ WQ w wr p m s P M Q G6 n0 (declL m).length (.slice (some ⟨b, o, none⟩) (declL m).length n3)))
    case atStart =>
      obtain ⟨t, ht⟩ : ∃ t, declL m = ⟨0, 0⟩ :: t := by
        have h1 := HH.out
        match hd : declL m, h1 with
        | y :: t, h1 => simp at h1; subst h1; exact ⟨t, rfl⟩
      have htk : (declL m).take 1 = [⟨0, 0⟩] := by rw [ht]; rfl
      have hws : wst (nS m P item) ((declL m).take 1) = (⟨0, 0⟩, (nS m P item ⟨0, 0⟩ : Int)) := by
        rw [htk]
        unfold wst
        simp only [List.foldl_cons, List.foldl_nil, wStep]
        rw [if_pos (Or.inl (by decide))]
      exact ⟨1, ⟨0, 0⟩, Nat.le_refl _, hnp, by show _ = _; omega, rfl, by rw [hws], by rw [hws], HB1.out, HW1.out⟩
    case round =>
      obtain ⟨k, x, hk1, hk, HK, rfl, rfl, HV⟩ := hrel
      clear HW1 HB1
      obtain ⟨a2, ha2⟩ : ∃ a2, (wst (nS m P item) ((declL m).take k)).2 = a2 := ⟨_, rfl⟩
      have HA2 := Lib.hid ha2
      rw [ha2]
      have hpos : 0 ≤ a2 := by
        rw [← ha2]
        refine wst_pos (fun e => ?_)
        have := congrArg List.length e
        rw [List.length_take, List.length_nil] at this
        omega
      clear ha2
      have hll := HLl.out
      by_cases hlt : k < (declL m).length
      · obtain ⟨⟨fb, fn⟩, hfx⟩ : ∃ fx, (declL m)[k]? = some fx := ⟨_, List.getElem?_eq_getElem hlt⟩
        obtain ⟨b', o', he, r⟩ := HV.out.2.2.l.at_ hnp
        cases he
        obtain ⟨d0, d1⟩ := fl_at r hfx
        have HST : Hid (wst (nS m P item) ((declL m).take (k + 1)) = wStep (nS m P item) (wst (nS m P item) ((declL m).take k)) ⟨fb, fn⟩) := by
          show _ = _
          rw [List.take_add_one, hfx]
          exact wst_snoc _ _ _
        obtain ⟨q, hq⟩ : ∃ q, nS m P item ⟨fb, fn⟩ = q := ⟨_, rfl⟩
        have HWd := Lib.hid (HV.out.2.2.keep ((Same.refl noB wr).drew))
        have HBd := Lib.hid (HV.out.2.1.drew)
        have hZ := rsurv_any (w := wr.drew) HWd.out.mq.mb.inn HWd.out.mq.pb.inn ⟨fb, fn⟩ (HE.out _ (List.mem_of_getElem? hfx)) item HU.out
        rw [HN.out ⟨fb, fn⟩, hq] at hZ
        unfold mdlVal plVal Fl.val at hZ
        have HZ := Lib.hid hZ
        have HQQ := Lib.hid hq
        have hb0 : (0 : Int) ≤ (k : Int) := Int.natCast_nonneg _
        have hb1 : (k : Int) < ((declL m).length : Int) := by omega
        obtain ⟨c0, c1, c2, c3, c4, c5, c6, c7, c8, c9, c10⟩ := HWd.out.mq.mb.all
        have cq := HWd.out.mq.pb.c
        have HX := Lib.hid HV.out.1
        clear hZ hq r hfx HV
        go_wp2_with fail
        go_region_held3 (fun w' => w'.cell? ⟨M, 0, none⟩ = some (.slice p.s.addr p.s.len p.s.cap) ∧ w'.cell? ⟨M, 1, none⟩ = some (.slice p.f.addr p.f.len p.f.cap) ∧ w'.cell? ⟨M, 2, none⟩ = some (.slice p.r.addr p.r.len p.r.cap) ∧ w'.cell? ⟨M, 3, none⟩ = some (.slice p.mc.addr p.mc.len p.mc.cap) ∧ w'.cell? ⟨M, 4, none⟩ = some (.slice p.l.addr p.l.len p.l.cap) ∧ w'.cell? ⟨M, 5, none⟩ = some (.slice p.i.addr p.i.len p.i.cap) ∧ w'.cell? ⟨M, 6, none⟩ = some (.int .i64 m.dark) ∧ w'.cell? ⟨M, 7, none⟩ = some (.int .i64 m.slots) ∧ w'.cell? ⟨M, 8, none⟩ = some (.int .i64 m.reserve) ∧ w'.cell? ⟨M, 9, none⟩ = some (.int .i64 m.failures) ∧ w'.cell? ⟨M, 10, none⟩ = some (.slice p.ru.addr p.ru.len p.ru.cap) ∧ w'.cell? ⟨Q, 0, none⟩ = some (.slice s.addr s.len s.cap) ∧ w'.cell? ⟨b, o + k * 2, none⟩ = some (.int .i64 fb) ∧ w'.cell? ⟨b, o + k * 2 + 1, none⟩ = some (.int .i64 fn))
          (first | (refine ⟨?_, ?_, ?_, ?_, ?_, ?_, ?_, ?_, ?_, ?_, ?_, ?_, ?_, ?_⟩ <;> with_reducible assumption) | go_keep)
          ((go_at_call 28; have hZ := HZ.out; (with_reducible refine Calls.mono hZ ?_); clear hZ; rintro e W5 ⟨v5, rfl, ha5⟩; obtain ⟨A5, k5, rfl⟩ := own_form ha5.own; have HW5 := Lib.hid (HWd.out.keep ha5.since); have HB5 := Lib.hid (HBd.out.same ha5.since (fun x => x)); obtain ⟨c0, c1, c2, c3, c4, c5, c6, c7, c8, c9, c10⟩ := HW5.out.mq.mb.all; have cq := HW5.out.mq.pb.c; have d0 := ha5.since.cell (a := ⟨b, o + k * 2, none⟩) d0 (fun x => x); have d1 := ha5.since.cell (a := ⟨b, o + k * 2 + 1, none⟩) d1 (fun x => x); clear ha5))
        all_goals
          have e0 := HB5.out.cell 0
          have e1 := HB5.out.cell 1
          have z0 := HB5.out.frozen 0
          have z1 := HB5.out.frozen 1
          by_cases hqa : (q : Int) < a2
        · have dq : decide ((q : Int) < a2) = true := decide_eq_true hqa
          have HST2 : Hid (wst (nS m P item) ((declL m).take (k + 1)) = (⟨fb, fn⟩, (q : Int))) := by
            show _ = _
            rw [HST.out]
            unfold wStep
            rw [HQQ.out, HA2.out, if_pos (Or.inr hqa)]
          go_wp2_with fail
          go_roundg (gk - 1)
          case measure => have h1 := HK.out; omega
          case rel => exact ⟨k + 1, ⟨fb, fn⟩, by omega, by omega, by show _ = _; have h1 := HK.out; omega, by go_num, by rw [HST2.out], by rw [HST2.out], (HB5.out.set_ 0 _).set_ 1 _, HW5.out.set2 HG9.out _ _⟩
        · have dq : decide ((q : Int) < a2) = false := decide_eq_false hqa
          have HST2 : Hid (wst (nS m P item) ((declL m).take (k + 1)) = wst (nS m P item) ((declL m).take k)) := by
            show _ = _
            rw [HST.out]
            unfold wStep
            rw [HQQ.out, HA2.out, if_neg (by omega)]
          go_wp2_with fail
          go_roundg (gk - 1)
          case measure => have h1 := HK.out; omega
          case rel => exact ⟨k + 1, x, by omega, by omega, by show _ = _; have h1 := HK.out; omega, by go_num, by rw [HST2.out, HA2.out], by rw [HST2.out]; exact HX.out, HB5.out, HW5.out⟩
      · obtain rfl : k = (declL m).length := by omega
        have e0 := HV.out.2.1.cell 0
        have e1 := HV.out.2.1.cell 1
        have g0 := HV.out.2.2.b6.cell 0
        have g1 := HV.out.2.2.b6.cell 1
        have z0 := HV.out.2.2.b6.frozen 0
        have z1 := HV.out.2.2.b6.frozen 1
        go_wp2_with fail
        have h1 := HA2.out
        have h2 := HV.out.1
        rw [List.take_length] at h1 h2
        have hb6 : Blk ((wr.setCell ⟨G6, 0, none⟩ (.int .i64 x.by_)).setCell ⟨G6, 1, none⟩ (.int .i64 x.num)) G6 31 #[.int .i64 x.by_, .int .i64 x.num] := (HV.out.2.2.b6.set_ 0 _).set_ 1 _
        refine bodyPost_ret (res_w rfl hb6 rfl rfl) rfl ⟨?_, ?_⟩
        · rw [HQ.out, ← h2, ← h1]
          rfl
        · exact HV.out.2.2.since.trans (((Same.refl (fun b => b = G6) wr).setCell (fun _ => rfl) _).setCell (fun _ => rfl) _) (fun b hb hx => by have h3 : b = G6 := hx; have := HV.out.2.2.g6; omega)
end Go.Proofs.Ytpngmodgnkjhnaa
