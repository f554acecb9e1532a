/- Layer 36: Append of the reference. (printed by genRepP.py) -/
import Derived.Test.YtlocfbjeljgblaaRepN
import Derived.Test.YtlocfbjeljgblaaRepO
namespace Go.Proofs.Ytlocfbjeljgblaa
open Go Go.RowKit
set_option maxRecDepth 100000

theorem cm_at {w : World} {bad : Nat → Prop} {b o k : Nat} {l : List Cm} {c : Cm} (r : RdAt w bad b o (ccells l)) (h : l[k]? = some c) :
    w.cell? ⟨b, o + k * 13, none⟩ = some (.int .i64 c.s.k) ∧ w.cell? ⟨b, o + k * 13 + 1, none⟩ = some (.int .i64 c.s.c) ∧ w.cell? ⟨b, o + k * 13 + 2, none⟩ = some (.int .i64 c.s.n) ∧ w.cell? ⟨b, o + k * 13 + 3, none⟩ = some (.string c.s.b) ∧ w.cell? ⟨b, o + k * 13 + 4, none⟩ = some (.int .i64 c.s.g) ∧ w.cell? ⟨b, o + k * 13 + 5, none⟩ = some (.int .i64 c.s.s) ∧ w.cell? ⟨b, o + k * 13 + 6, none⟩ = some (.int .i64 c.s.ck) ∧ w.cell? ⟨b, o + k * 13 + 7, none⟩ = some (.int .i64 c.s.cm) ∧ w.cell? ⟨b, o + k * 13 + 8, none⟩ = some (.slice c.f1.addr c.f1.len c.f1.cap) ∧ w.cell? ⟨b, o + k * 13 + 9, none⟩ = some (.slice c.f2.addr c.f2.len c.f2.cap) ∧ w.cell? ⟨b, o + k * 13 + 10, none⟩ = some (.slice c.f3.addr c.f3.len c.f3.cap) ∧ w.cell? ⟨b, o + k * 13 + 11, none⟩ = some (.slice c.f4.addr c.f4.len c.f4.cap) ∧ w.cell? ⟨b, o + k * 13 + 12, none⟩ = some (.slice c.f5.addr c.f5.len c.f5.cap) := by
  have cc := fun (j : Nat) (hj : j < 13) (u : Value) (hu : c.cells[j]? = some u) => r.cell (k * 13 + j) u ((flat_at Cm.cells 13 (fun _ => rfl) h j hj).trans hu)
  refine ⟨cc 0 (by omega) _ rfl, ?_, ?_, ?_, ?_, ?_, ?_, ?_, ?_, ?_, ?_, ?_, ?_⟩
  · have := cc 1 (by omega) _ rfl; rwa [← Nat.add_assoc] at this
  · have := cc 2 (by omega) _ rfl; rwa [← Nat.add_assoc] at this
  · have := cc 3 (by omega) _ rfl; rwa [← Nat.add_assoc] at this
  · have := cc 4 (by omega) _ rfl; rwa [← Nat.add_assoc] at this
  · have := cc 5 (by omega) _ rfl; rwa [← Nat.add_assoc] at this
  · have := cc 6 (by omega) _ rfl; rwa [← Nat.add_assoc] at this
  · have := cc 7 (by omega) _ rfl; rwa [← Nat.add_assoc] at this
  · have := cc 8 (by omega) _ rfl; rwa [← Nat.add_assoc] at this
  · have := cc 9 (by omega) _ rfl; rwa [← Nat.add_assoc] at this
  · have := cc 10 (by omega) _ rfl; rwa [← Nat.add_assoc] at this
  · have := cc 11 (by omega) _ rfl; rwa [← Nat.add_assoc] at this
  · have := cc 12 (by omega) _ rfl; rwa [← Nat.add_assoc] at this
/-- Commands as entries from an index on. -/
def appE (i t : Int) : List Cm → List En
  | [] => []
  | c :: l => ⟨i, t, c⟩ :: appE (i + 1) t l
def appV (i t : Int) : List CmV → List EnV
  | [] => []
  | c :: l => ⟨i, t, c⟩ :: appV (i + 1) t l
theorem appE_len (i t : Int) (l : List Cm) : (appE i t l).length = l.length := by
  induction l generalizing i with
  | nil => rfl
  | cons c l ih => simp [appE, ih]
theorem appV_len (i t : Int) (l : List CmV) : (appV i t l).length = l.length := by
  induction l generalizing i with
  | nil => rfl
  | cons c l ih => simp [appV, ih]
theorem appE_app (i t : Int) (l m : List Cm) : appE i t (l ++ m) = appE i t l ++ appE (i + l.length) t m := by
  induction l generalizing i with
  | nil => simp [appE]
  | cons c l ih =>
    rw [List.cons_append, appE, appE, ih, List.cons_append, List.length_cons, show i + 1 + (l.length : Int) = i + ((l.length + 1 : Nat) : Int) from by omega]
theorem appE_take {i t : Int} {l : List Cm} {k : Nat} {c : Cm} (h : l[k]? = some c) : appE i t (l.take (k + 1)) = appE i t (l.take k) ++ [⟨i + k, t, c⟩] := by
  rw [take_snoc h, appE_app, List.length_take, Nat.min_eq_left (Nat.le_of_lt (List.getElem?_eq_some_iff.1 h).1)]
  rfl
theorem app_all2 {w : World} {bad : Nat → Prop} {cs : List Cm} {vs : List CmV} (h : All2 (CmIs w bad) cs vs) (i t : Int) : All2 (EnIs w bad) (appE i t cs) (appV i t vs) := by
  induction h generalizing i with
  | nil => exact .nil
  | cons h _ ih => exact .cons ⟨rfl, rfl, h⟩ (ih _)
def Lg.append (g : Lg) (t : Int) (cs : List CmV) : Lg × List EnV := if t < g.last.2 then (g, []) else (⟨g.base, g.term, g.es ++ appV (g.last.1 + 1) t cs⟩, appV (g.last.1 + 1) t cs)
theorem ecells_app (l m : List En) : ecells (l ++ m) = ecells l ++ ecells m := by simp [ecells]

set_option maxHeartbeats 8000000 in
theorem rappend_no {w : World} {n c : Nat} {A : Option Addr} {base term last lt t : Int} {cv : Value} (ht : t < lt)
    (HT : Hid (∀ W : World, Same noB w W → Calls Try.prog 39 #[.agg #[.int .i64 base, .int .i64 term, .slice A n c]] W fun r w' => r = .returned (.tuple #[.int .i64 last, .int .i64 lt]) ∧ Same noB W w')) :
    Calls Try.prog 40 #[.agg #[.int .i64 base, .int .i64 term, .slice A n c], .int .i64 t, cv] w fun r w' => r = .returned (.tuple #[.agg #[.int .i64 base, .int .i64 term, .slice A n c], .slice none 0 0]) ∧ Same noB w w' := by
  have hd : decide (t < lt) = true := decide_eq_true ht
  go_enter Try.func40, Try.ntmps40
  go_upto_region 1 with (fail)
  refine wp_abs (fun W => W.cell? ⟨w.heap.size, 0, none⟩ = some (.int .i64 base) ∧ W.cell? ⟨w.heap.size, 1, none⟩ = some (.int .i64 term) ∧ W.cell? ⟨w.heap.size, 2, none⟩ = some (.slice A n c) ∧ Hid (Blk W (w.heap.size + 1) 29 #[.int .i64 0, .int .i64 0, .slice none 0 0]) ∧ Hid (Same noB w W)) ⟨by go_simp, by go_simp, by go_simp, by have := Blk.new (w.alloc (.cells #[.int .i64 base, .int .i64 term, .slice A n c] 29)) 29 #[.int .i64 0, .int .i64 0, .slice none 0 0]; rw [World.size_alloc] at this; exact this, ((Same.refl _ _).alloc _).alloc _⟩ ?_
  rintro W ⟨d0, d1, d2, HB, HS⟩
  obtain ⟨N, hN⟩ : ∃ N, w.heap.size = N := ⟨_, rfl⟩
  rw [hN] at d0 d1 d2 HB ⊢
  go_wp2_with fail
  (with_reducible refine Calls.mono (HT.out W HS.out) ?_)
  rintro r W2 ⟨rfl, hs2⟩
  replace d0 := hs2.cell d0 (fun x => x)
  replace d1 := hs2.cell d1 (fun x => x)
  replace d2 := hs2.cell d2 (fun x => x)
  have HB2 := Lib.hid (HB.out.same hs2 (fun x => x))
  have HS2 := Lib.hid (HS.out.trans' hs2)
  clear hs2 HT HB HS
  have HB7 := Lib.hid (row_stored HB2.out #[.int .i64 base, .int .i64 term, .slice A n c])
  go_wp2_with (refine wpList_store_row rfl 29 _ _ rfl (N + 1) #[.int .i64 base, .int .i64 term, .slice A n c] rfl rfl 29 _ HB2.out (by kernel_rfl) rfl (row29_one base term A n c) ?_)
  (try simp only [Exit.inBlock, Exit.then])
  refine bodyPost_ret (res_ct rfl HB7.out.1 rfl rfl) rfl ?_
  exact ⟨rfl, HS2.out.trans HB7.out.2 (fun b hb hx => by have h3 : b = N + 1 := hx; omega)⟩
set_option maxHeartbeats 8000000 in
theorem rappend_yes {w : World} {bad : Nat → Prop} {n c nc : Nat} {A : Option Addr} {base term last lt t : Int} {es : List En} {cs : List Cm} {C : Option Addr} (ht : ¬ t < lt) (hl1 : 0 ≤ last) (hl2 : last ≤ 4398046511104) (hn : es.length = n) (hn2 : n ≤ 100000)
    (hr : Rd w bad 15 (.slice A n c) n (ecells es)) (hcr : Rd w bad 13 (.slice C cs.length nc) cs.length (ccells cs)) (hcl : cs.length ≤ 1000)
    (HT : Hid (∀ W : World, Same noB w W → Calls Try.prog 39 #[.agg #[.int .i64 base, .int .i64 term, .slice A n c]] W fun r w' => r = .returned (.tuple #[.int .i64 last, .int .i64 lt]) ∧ Same noB W w')) :
    Calls Try.prog 40 #[.agg #[.int .i64 base, .int .i64 term, .slice A n c], .int .i64 t, .slice C cs.length nc] w fun r w' => ∃ A3 c3 O oc, r = .returned (.tuple #[.agg #[.int .i64 base, .int .i64 term, .slice A3 (n + cs.length) c3], .slice O cs.length oc]) ∧
      AppAt w w' (.slice A3 (n + cs.length) c3) (n + cs.length) 57 15 (ecells (es ++ appE (last + 1) t cs)) ∧ AppAt w w' (.slice O cs.length oc) cs.length 57 15 (ecells (appE (last + 1) t cs)) := by
  have hd : decide (t < lt) = false := decide_eq_false ht
  have HR := Lib.hid hr
  have HCR := Lib.hid hcr
  have HNN := Lib.hid hn
  clear hr hcr hn
  go_enter Try.func40, Try.ntmps40
  go_upto_region 1 with (fail)
  refine wp_abs (fun W => W.cell? ⟨w.heap.size, 0, none⟩ = some (.int .i64 base) ∧ W.cell? ⟨w.heap.size, 1, none⟩ = some (.int .i64 term) ∧ W.cell? ⟨w.heap.size, 2, none⟩ = some (.slice A n c) ∧ Hid (Blk W w.heap.size 29 #[.int .i64 base, .int .i64 term, .slice A n c]) ∧ Hid (Blk W (w.heap.size + 1) 29 #[.int .i64 0, .int .i64 0, .slice none 0 0]) ∧ Hid (Same noB w W)) ⟨by go_simp, by go_simp, by go_simp, (Blk.new w 29 _).alloc _, by have := Blk.new (w.alloc (.cells #[.int .i64 base, .int .i64 term, .slice A n c] 29)) 29 #[.int .i64 0, .int .i64 0, .slice none 0 0]; rw [World.size_alloc] at this; exact this, ((Same.refl _ _).alloc _).alloc _⟩ ?_
  rintro W ⟨d0, d1, d2, HN, HB, HS⟩
  obtain ⟨N, hN⟩ : ∃ N, w.heap.size = N := ⟨_, rfl⟩
  rw [hN] at d0 d1 d2 HN HB ⊢
  go_wp2_with fail
  (with_reducible refine Calls.mono (HT.out W HS.out) ?_)
  rintro r W2 ⟨rfl, hs2⟩
  have HN2 := Lib.hid (HN.out.same hs2 (fun x => x))
  have HB2 := Lib.hid (HB.out.same hs2 (fun x => x))
  have HS2 := Lib.hid (HS.out.trans' hs2)
  clear hs2 HT HN HB HS d0 d1 d2
  go_wp2_with fail
  go_loopg [10, 11] (cs.length) (fun gk o i wr => ∃ (k : Nat) (A2 : Option Addr) (c2 m : Nat), k ≤ cs.length ∧ Hid (gk + k = cs.length) ∧ i = .int .i64 k ∧ o = .slice A2 m c2 ∧ Hid (m = k) ∧ Hid (AppAt W2 wr (.slice A2 m c2) m 57 15 (ecells (appE (last + 1) t (cs.take k)))))
  case atStart => exact ⟨0, _, _, 0, Nat.zero_le _, rfl, rfl, rfl, rfl, AppAt.lit W2 57 15⟩
  case round =>
    obtain ⟨k, A2, c2, m, hk, HK, rfl, rfl, HM, HA⟩ := hrel
    by_cases hlt : k < cs.length
    · obtain ⟨e, he⟩ : ∃ e, cs[k]? = some e := ⟨_, List.getElem?_eq_getElem hlt⟩
      obtain ⟨b, o, rfl, r⟩ := (HCR.out.keep (HS2.out.trans' HA.out.since)).at_ (by omega)
      obtain ⟨p0, p1, p2, p3, p4, p5, p6, p7, p8, p9, p10, p11, p12⟩ := cm_at r he
      have HT := Lib.hid (appE_take (i := last + 1) (t := t) he)
      have hm := HM.out
      have HNB : Hid (m ≤ 1000) := by show _ ≤ _; omega
      have hcaps := (HCR.out).caps
      clear r he hm
      obtain ⟨⟨sk, sc, sn, sb, sg, ss, sck, scm⟩, f1, f2, f3, f4, f5⟩ := e
      simp only at p0 p1 p2 p3 p4 p5 p6 p7 p8 p9 p10 p11 p12
      have hi0 : (0 : Int) ≤ (k : Int) := by omega
      have hi1 : (k : Int) < (cs.length : Int) := by omega
      have hw1 : IntKind.i64.wrap (last + 1) = last + 1 := IntWalk.i64_in _ (by omega)
      have hw2 : IntKind.i64.wrap (last + 1 + k) = last + 1 + k := IntWalk.i64_in _ (by omega)
      go_wp2_with (at_builtin; refine wpL_app slE rfl _ _ rfl rfl ((HA.out.keep ((Same.refl _ _).alloc _)).own) rfl (bad := noB) (Rd.of_blk (Blk.new wr 57 [Value.int .i64 (last + 1 + k), Value.int .i64 t, Value.int .i64 sk, Value.int .i64 sc, Value.int .i64 sn, Value.string sb, Value.int .i64 sg, Value.int .i64 ss, Value.int .i64 sck, Value.int .i64 scm, Value.slice f1.addr f1.len f1.cap, Value.slice f2.addr f2.len f2.cap, Value.slice f3.addr f3.len f3.cap, Value.slice f4.addr f4.len f4.cap, Value.slice f5.addr f5.len f5.cap].toArray) (fun x => x) (by rfl) (by omega) (by simp [maxLen])) (en_one ⟨last + 1 + k, t, ⟨sk, sc, sn, sb, sg, ss, sck, scm⟩, f1, f2, f3, f4, f5⟩) (by have := HNB.out; omega) (Nat.zero_le _) ?_; intro A6 c6' W6 hown6 hgrow6 hat6 _; have HA6 := Lib.hid (AppAt.next (HA.out.keep ((Same.refl _ _).alloc (.cells #[.int .i64 (last + 1 + k), .int .i64 t, .int .i64 sk, .int .i64 sc, .int .i64 sn, .string sb, .int .i64 sg, .int .i64 ss, .int .i64 sck, .int .i64 scm, .slice f1.addr f1.len f1.cap, .slice f2.addr f2.len f2.cap, .slice f3.addr f3.len f3.cap, .slice f4.addr f4.len f4.cap, .slice f5.addr f5.len f5.cap] 57))) hgrow6 hat6 hown6); clear hown6 hgrow6 hat6)
      go_roundg (gk - 1)
      case measure => have h1 := HK.out; omega
      case rel =>
        refine ⟨k + 1, A6, c6', m + 1, by omega, by show _ = _; have h1 := HK.out; omega, by go_num, rfl, by show _ = _; rw [HM.out], ?_⟩
        show AppAt _ _ _ _ _ _ _
        rw [HT.out, ecells_snoc]
        exact HA6.out
    · obtain rfl : k = cs.length := by omega
      have HA4 : Hid (AppAt W2 wr (.slice A2 cs.length c2) cs.length 57 15 (ecells (appE (last + 1) t cs))) := by
        have h1 := HA.out
        have h2 := HM.out
        rw [List.take_length] at h1
        show AppAt _ _ _ _ _ _ _
        rw [← h2]
        exact h1
      have hm := HM.out
      subst hm
      clear HA HK
      have HN3 := Lib.hid (HN2.out.same HA4.out.since (fun x => x))
      have HB3 := Lib.hid (HB2.out.same HA4.out.since (fun x => x))
      have HS3 := Lib.hid (HS2.out.trans' HA4.out.since)
      have e2 : (wr.alloc (.cells #[] 57)).cell? ⟨N, 2, none⟩ = some (.slice A n c) := (HN3.out.alloc _).cell 2
      have hne : wr.heap.size ≠ N := by have := HN3.out.lt; omega
      go_upto_region 10 with (first | (at_builtin; refine wpL_app slE rfl _ _ rfl rfl (own_lit wr 57 15) rfl (HR.out.keep (HS3.out.alloc _)) (ecells_one es) (by omega) (Nat.zero_le _) ?_; intro A3 c3 W3 hown3 hgrow3 hat3 _; rw [Nat.zero_add, List.nil_append] at hown3; have HA3 := Lib.hid ((AppAt.lit wr 57 15).next hgrow3 (by rw [Nat.zero_add] at hat3; exact hat3) hown3); rw [Nat.zero_add]; clear hown3 hgrow3 hat3) | (at_builtin; refine wpL_app slE rfl _ _ rfl rfl HA3.out.own rfl ((HA4.out.rd (bad := noB) (fun _ x => x.elim)).keep HA3.out.since) (ecells_one _) (by omega) (Nat.zero_le _) ?_; intro A5 c5 W5 hown5 hgrow5 hat5 _; have HA5 := Lib.hid (HA3.out.next hgrow5 hat5 hown5); have HN5 := Lib.hid (HN3.out.same HA5.out.since (fun x => x)); have f2 := HN5.out.frozen 2; have g0 : W5.cell? ⟨N, 0, none⟩ = some (.int .i64 base) := HN5.out.cell 0; have g1 : W5.cell? ⟨N, 1, none⟩ = some (.int .i64 term) := HN5.out.cell 1; have g2 : W5.cell? ⟨N, 2, none⟩ = some (.slice A n c) := HN5.out.cell 2; clear hown5 hgrow5 hat5))
      refine wp_abs (fun W6 => W6.cell? ⟨N, 0, none⟩ = some (.int .i64 base) ∧ W6.cell? ⟨N, 1, none⟩ = some (.int .i64 term) ∧ W6.cell? ⟨N, 2, none⟩ = some (.slice A5 (n + cs.length) c5) ∧ Hid (Blk W6 (N + 1) 29 #[.int .i64 0, .int .i64 0, .slice none 0 0]) ∧ Hid (AppAt w W6 (.slice A5 (n + cs.length) c5) (n + cs.length) 57 15 (ecells (es ++ appE (last + 1) t cs)) ∧ AppAt w W6 (.slice A2 cs.length c2) cs.length 57 15 (ecells (appE (last + 1) t cs)) ∧ (∀ b, (Value.slice A5 (n + cs.length) c5).ownBlock = some b → N + 1 < b) ∧ ∀ b, (Value.slice A2 cs.length c2).ownBlock = some b → N + 1 < b)) ?_ ?_
      · have hb := HN5.out.set_ 2 (.slice A5 (n + cs.length) c5)
        have hs := (Same.refl (oneB N) W5).set1 2 (.slice A5 (n + cs.length) c5)
        have hl := HB2.out.lt
        have hl3 := HB3.out.lt
        have hz5 : ∀ b, (Value.slice A5 (n + cs.length) c5).ownBlock = some b → N + 1 < b := fun b hb => by have := HA5.out.new b hb; omega
        have hz2 : ∀ b, (Value.slice A2 cs.length c2).ownBlock = some b → N + 1 < b := fun b hb => by have := HA4.out.new b hb; omega
        have hall : Same noB w (W5.setCell ⟨N, 2, none⟩ (.slice A5 (n + cs.length) c5)) := (HS3.out.trans' HA5.out.since).trans hs (fun b hb hx => by have h3 : b = N := hx; omega)
        refine ⟨hb.cell 0, hb.cell 1, hb.cell 2, (HB3.out.same HA5.out.since (fun x => x)).same hs (fun e => by have h3 : N + 1 = N := e; omega), ⟨?_, fun b hb => Nat.le_trans HS3.out.size (HA5.out.new b hb), hall⟩, ⟨own_same (HA4.out.keep HA5.out.since).own hs (fun b hb hx => by have h3 : b = N := hx; have := hz2 b hb; omega), fun b hb => Nat.le_trans HS2.out.size (HA4.out.new b hb), hall⟩, hz5, hz2⟩
        rw [ecells_app]
        exact own_same HA5.out.own hs (fun b hb hx => by have h3 : b = N := hx; have := hz5 b hb; omega)
      · rintro W6 ⟨d0, d1, d2, HB6, HA6⟩
        have HB7 := Lib.hid (row_stored HB6.out #[.int .i64 base, .int .i64 term, .slice A5 (n + cs.length) c5])
        clear HA3 HA4 HA5 HN3 HB3 HN5 f2 g0 g1 g2 e2
        go_wp2_with (refine wpList_store_row rfl 29 _ _ rfl (N + 1) #[.int .i64 base, .int .i64 term, .slice A5 (n + cs.length) c5] rfl rfl 29 _ HB6.out (by kernel_rfl) rfl (row29_one base term A5 (n + cs.length) c5) ?_)
        (try simp only [Exit.inBlock, Exit.then])
        refine bodyPost_ret (res_ct rfl HB7.out.1 rfl rfl) rfl ?_
        have hf : ∀ b, b < w.heap.size → oneB (N + 1) b → noB b := fun b hb hx => by have h3 : b = N + 1 := hx; omega
        exact ⟨A5, c5, A2, c2, rfl, ⟨own_same HA6.out.1.own HB7.out.2 (fun b hb hx => by have h3 : b = N + 1 := hx; have := HA6.out.2.2.1 b hb; omega), HA6.out.1.new, HA6.out.1.since.trans HB7.out.2 hf⟩, ⟨own_same HA6.out.2.1.own HB7.out.2 (fun b hb hx => by have h3 : b = N + 1 := hx; have := HA6.out.2.2.2 b hb; omega), HA6.out.2.1.new, HA6.out.2.1.since.trans HB7.out.2 hf⟩⟩
/-- Numbers of a log that follow each other. -/
theorem rappend_any {w : World} {bad : Nat → Prop} (hbad : ∀ b, bad b → b < w.heap.size) {v cv : Value} {es : List En} {g : Lg} {cs : List Cm} {vs : List CmV} (h : EnL w bad v es g.es) (hf : g.Fit) (hl : 0 ≤ g.last.1 ∧ g.last.1 ≤ 4398046511104) (hc : CmL w bad cv cs vs) (hcl : vs.length ≤ 1000) (t : Int) :
    Calls Try.prog 40 #[.agg #[.int .i64 g.base, .int .i64 g.term, v], .int .i64 t, cv] w fun r w' => ∃ v' es' o os, r = .returned (.tuple #[.agg #[.int .i64 (g.append t vs).1.base, .int .i64 (g.append t vs).1.term, v'], o]) ∧ EnL w' bad v' es' (g.append t vs).1.es ∧ EnL w' bad o os (g.append t vs).2 ∧ Same noB w w' := by
  have hT := fun (W : World) (hs : Same noB w W) => rlast_any (h.keep hs) hf.len
  obtain ⟨A, c, rfl, hc1, hc2, hr⟩ := h.rd.form
  obtain ⟨C, nc, rfl, hd1, hd2, hcr⟩ := hc.rd.form
  unfold Lg.append
  by_cases ht : t < g.last.2
  · rw [if_pos ht]
    refine (rappend_no ht (Lib.hid hT)).mono ?_
    rintro r w' ⟨rfl, hs⟩
    exact ⟨_, es, _, [], rfl, h.keep hs, ⟨Rd.nil_ _ _ _, .nil⟩, hs⟩
  · rw [if_neg ht]
    have hcc := hc.is.len
    have hl2 := h.len
    have hfl := hf.len
    refine (rappend_yes ht hl.1 hl.2 rfl (by omega) hr hcr (by omega) (Lib.hid hT)).mono ?_
    rintro r w' ⟨A3, c3, O, oc, rfl, hA, hO⟩
    have hE := app_all2 (hc.is.imp fun _ _ k => k.keep hA.since) (g.last.1 + 1) t
    refine ⟨_, es ++ appE (g.last.1 + 1) t cs, _, appE (g.last.1 + 1) t cs, rfl, ⟨?_, (h.keep hA.since).is.app hE⟩, ⟨?_, hE⟩, hA.since⟩
    · rw [List.length_append, appE_len]
      exact hA.rd hbad
    · rw [appE_len]
      exact hO.rd hbad
end Go.Proofs.Ytlocfbjeljgblaa
