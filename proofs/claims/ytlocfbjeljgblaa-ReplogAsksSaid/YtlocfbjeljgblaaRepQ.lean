/- Layer 36: Append of the program. (printed by genRepQ.py) -/
import Derived.Test.YtlocfbjeljgblaaRepP
namespace Go.Proofs.Ytlocfbjeljgblaa
open Go Go.RowKit
set_option maxRecDepth 100000

def cm0 : Array Value := #[.int .i64 0, .int .i64 0, .int .i64 0, .string .empty, .int .i64 0, .int .i64 0, .int .i64 0, .int .i64 0, .slice none 0 0, .slice none 0 0, .slice none 0 0, .slice none 0 0, .slice none 0 0]
theorem append_no {w : World} {M : Nat} {last lt t : Int} {cv : Value} (ht : t < lt)
    (HT : Hid (∀ W : World, Same noB w W → Calls Try.prog 23 #[.pointer (some ⟨M, 0, none⟩)] W fun r w' => r = .returned (.tuple #[.int .i64 last, .int .i64 lt]) ∧ Same noB W w')) :
    Calls Try.prog 27 #[.pointer (some ⟨M, 0, none⟩), .int .i64 t, cv] w fun r w' => r = .returned (.slice none 0 0) ∧ Same noB w w' := by
  have hd : decide (t < lt) = true := decide_eq_true ht
  have HS : Hid (Same noB w w) := Same.refl _ _
  go_enter Try.func27, Try.ntmps27
  go_wp2_with fail
  (with_reducible refine Calls.mono (HT.out w HS.out) ?_)
  rintro r W2 ⟨rfl, hs2⟩
  have HS2 := Lib.hid hs2
  clear hs2 HT HS
  go_wp2_with fail
  go_ret
  exact ⟨rfl, HS2.out⟩
def ApS (M : Nat) (v : Value) (w' : World) : Prop := w'.cell? ⟨M, 2, none⟩ = some v
set_option maxHeartbeats 8000000 in
theorem append_yes {w : World} {M n c nc : Nat} {bad : Nat → Prop} {A : Option Addr} {base term last lt t : Int} {es : List En} {cs : List Cm} {C : Option Addr} {Q : World → Value → List En → World → Prop} (ht : ¬ t < lt) (hl1 : 0 ≤ last) (hl2 : last ≤ 4398046511104) (hn : es.length = n) (hn2 : n ≤ 100000)
    (hb : Blk w M 80 #[.int .i64 base, .int .i64 term, .slice A n c]) (hown : w.ownsRow 0 57 15 (.slice A n c) n (ecells es)) (hMA : (Value.slice A n c).ownBlock ≠ some M) (hcr : Rd w bad 13 (.slice C cs.length nc) cs.length (ccells cs)) (hcl : cs.length ≤ 1000)
    (HT : Hid (∀ W : World, Same noB w W → Calls Try.prog 23 #[.pointer (some ⟨M, 0, none⟩)] W fun r w' => r = .returned (.tuple #[.int .i64 last, .int .i64 lt]) ∧ Same noB W w'))
    (HC : Hid (∀ (W : World) (v : Value), Same (lgB M (.slice A n c)) w W → Rd W noB 15 v cs.length (ecells (appE (last + 1) t cs)) → Calls Try.prog 51 #[v] W fun r w' => ∃ O on oc os, r = .returned (.slice O on oc) ∧ os.length = on ∧ on = cs.length ∧ w'.ownsRow 0 57 15 (.slice O on oc) on (ecells os) ∧ Same noB W w' ∧ Q W (.slice O on oc) os w')) :
    Calls Try.prog 27 #[.pointer (some ⟨M, 0, none⟩), .int .i64 t, .slice C cs.length nc] w fun r w' => ∃ W1 W2 W3 v1 v2 os1 os2 A3 c3, r = .returned v2 ∧ Same noB w W1 ∧ Q W1 v1 os1 W2 ∧ Same noB W1 W2 ∧ Same (lgB M (.slice A n c)) W2 W3 ∧ W3.ownsRow 0 57 15 (.slice A3 (n + cs.length) c3) (n + cs.length) (ecells (es ++ os1)) ∧ ((Value.slice A3 (n + cs.length) c3).ownBlock = (Value.slice A n c).ownBlock ∨ ∀ b, (Value.slice A3 (n + cs.length) c3).ownBlock = some b → W2.heap.size ≤ b) ∧
      Blk W3 M 80 #[.int .i64 base, .int .i64 term, .slice A3 (n + cs.length) c3] ∧ Q W3 v2 os2 w' ∧ Same noB W3 w' := by
  have hd : decide (t < lt) = false := decide_eq_false ht
  have HB := Lib.hid hb
  have HOW := Lib.hid hown
  have HMA := Lib.hid hMA
  have HCR := Lib.hid hcr
  have HNN := Lib.hid hn
  have HS : Hid (Same noB w w) := Same.refl _ _
  clear hb hown hMA hcr hn
  go_enter Try.func27, Try.ntmps27
  go_wp2_with fail
  (with_reducible refine Calls.mono (HT.out w HS.out) ?_)
  rintro r W2 ⟨rfl, hs2⟩
  have HS2 := Lib.hid hs2
  clear hs2 HT HS
  go_wp2_with fail
  go_loopg [9, 22] (cs.length) (fun gk o i wr => ∃ (k : Nat) (A2 : Option Addr) (c2 m : Nat), k ≤ cs.length ∧ Hid (gk + k = cs.length) ∧ i = .int .i64 k ∧ o = .slice A2 m c2 ∧ Hid (m = k) ∧ Hid (AppAt W2 wr (.slice A2 m c2) m 57 15 (ecells (appE (last + 1) t (cs.take k)))))
  case atStart => exact ⟨0, _, _, 0, Nat.zero_le _, rfl, rfl, rfl, rfl, AppAt.nil_ W2 57 15⟩
  case round =>
    obtain ⟨k, A2, c2, m, hk, HK, rfl, rfl, HM, HA⟩ := hrel
    by_cases hlt : k < cs.length
    · obtain ⟨e, he⟩ : ∃ e, cs[k]? = some e := ⟨_, List.getElem?_eq_getElem hlt⟩
      obtain ⟨b, o, rfl, r⟩ := (HCR.out.keep (HS2.out.trans' HA.out.since)).at_ (by omega)
      obtain ⟨p0, p1, p2, p3, p4, p5, p6, p7, p8, p9, p10, p11, p12⟩ := cm_at r he
      have HT := Lib.hid (appE_take (i := last + 1) (t := t) he)
      have hm := HM.out
      have HNB : Hid (m ≤ 1000) := by show _ ≤ _; omega
      have hcaps := (HCR.out).caps
      clear r he hm
      obtain ⟨⟨sk, sc, sn, sb, sg, ss, sck, scm⟩, f1, f2, f3, f4, f5⟩ := e
      simp only at p0 p1 p2 p3 p4 p5 p6 p7 p8 p9 p10 p11 p12
      have hi0 : (0 : Int) ≤ (k : Int) := by omega
      have hi1 : (k : Int) < (cs.length : Int) := by omega
      have hw1 : IntKind.i64.wrap (last + 1) = last + 1 := IntWalk.i64_in _ (by omega)
      have hw2 : IntKind.i64.wrap (last + 1 + k) = last + 1 + k := IntWalk.i64_in _ (by omega)
      have HB5 := Lib.hid (row_stored (Blk.new wr 55 cm0) #[Value.int .i64 sk, .int .i64 sc, .int .i64 sn, .string sb, .int .i64 sg, .int .i64 ss, .int .i64 sck, .int .i64 scm, .slice f1.addr f1.len f1.cap, .slice f2.addr f2.len f2.cap, .slice f3.addr f3.len f3.cap, .slice f4.addr f4.len f4.cap, .slice f5.addr f5.len f5.cap])
      go_upto_region 8 with (refine wpList_store_row rfl 55 _ _ rfl wr.heap.size #[Value.int .i64 sk, .int .i64 sc, .int .i64 sn, .string sb, .int .i64 sg, .int .i64 ss, .int .i64 sck, .int .i64 scm, .slice f1.addr f1.len f1.cap, .slice f2.addr f2.len f2.cap, .slice f3.addr f3.len f3.cap, .slice f4.addr f4.len f4.cap, .slice f5.addr f5.len f5.cap] rfl rfl 55 _ (Blk.new wr 55 cm0) (by kernel_rfl) rfl (by kernel_rfl) ?_)
      refine wp_abs (fun W => W.cell? ⟨wr.heap.size, 0, none⟩ = some (.int .i64 sk) ∧ W.cell? ⟨wr.heap.size, 1, none⟩ = some (.int .i64 sc) ∧ W.cell? ⟨wr.heap.size, 2, none⟩ = some (.int .i64 sn) ∧ W.cell? ⟨wr.heap.size, 3, none⟩ = some (.string sb) ∧ W.cell? ⟨wr.heap.size, 4, none⟩ = some (.int .i64 sg) ∧ W.cell? ⟨wr.heap.size, 5, none⟩ = some (.int .i64 ss) ∧ W.cell? ⟨wr.heap.size, 6, none⟩ = some (.int .i64 sck) ∧ W.cell? ⟨wr.heap.size, 7, none⟩ = some (.int .i64 scm) ∧ W.cell? ⟨wr.heap.size, 8, none⟩ = some (.slice f1.addr f1.len f1.cap) ∧ W.cell? ⟨wr.heap.size, 9, none⟩ = some (.slice f2.addr f2.len f2.cap) ∧ W.cell? ⟨wr.heap.size, 10, none⟩ = some (.slice f3.addr f3.len f3.cap) ∧ W.cell? ⟨wr.heap.size, 11, none⟩ = some (.slice f4.addr f4.len f4.cap) ∧ W.cell? ⟨wr.heap.size, 12, none⟩ = some (.slice f5.addr f5.len f5.cap) ∧ Hid (AppAt W2 W (.slice A2 m c2) m 57 15 (ecells (appE (last + 1) t (cs.take k))))) ⟨HB5.out.1.cell 0, HB5.out.1.cell 1, HB5.out.1.cell 2, HB5.out.1.cell 3, HB5.out.1.cell 4, HB5.out.1.cell 5, HB5.out.1.cell 6, HB5.out.1.cell 7, HB5.out.1.cell 8, HB5.out.1.cell 9, HB5.out.1.cell 10, HB5.out.1.cell 11, HB5.out.1.cell 12, HA.out.keep (((Same.refl _ _).alloc _).trans HB5.out.2 (fun b hb hx => absurd hx (Nat.ne_of_lt hb)))⟩ ?_
      rintro W ⟨q0, q1, q2, q3, q4, q5, q6, q7, q8, q9, q10, q11, q12, HA5⟩
      clear p0 p1 p2 p3 p4 p5 p6 p7 p8 p9 p10 p11 p12 HB5 HA
      go_wp2_with (at_builtin; refine wpL_app slE rfl _ _ rfl rfl ((HA5.out.keep ((Same.refl _ _).alloc _)).own) rfl (bad := noB) (Rd.of_blk (Blk.new W 57 [Value.int .i64 (last + 1 + k), Value.int .i64 t, Value.int .i64 sk, Value.int .i64 sc, Value.int .i64 sn, Value.string sb, Value.int .i64 sg, Value.int .i64 ss, Value.int .i64 sck, Value.int .i64 scm, Value.slice f1.addr f1.len f1.cap, Value.slice f2.addr f2.len f2.cap, Value.slice f3.addr f3.len f3.cap, Value.slice f4.addr f4.len f4.cap, Value.slice f5.addr f5.len f5.cap].toArray) (fun x => x) (by rfl) (by omega) (by simp [maxLen])) (en_one ⟨last + 1 + k, t, ⟨sk, sc, sn, sb, sg, ss, sck, scm⟩, f1, f2, f3, f4, f5⟩) (by have := HNB.out; omega) (Nat.zero_le _) ?_; intro A6 c6' W6 hown6 hgrow6 hat6 _; have HA6 := Lib.hid (AppAt.next (HA5.out.keep ((Same.refl _ _).alloc (.cells #[.int .i64 (last + 1 + k), .int .i64 t, .int .i64 sk, .int .i64 sc, .int .i64 sn, .string sb, .int .i64 sg, .int .i64 ss, .int .i64 sck, .int .i64 scm, .slice f1.addr f1.len f1.cap, .slice f2.addr f2.len f2.cap, .slice f3.addr f3.len f3.cap, .slice f4.addr f4.len f4.cap, .slice f5.addr f5.len f5.cap] 57))) hgrow6 hat6 hown6); clear hown6 hgrow6 hat6)
      go_roundg (gk - 1)
      case measure => have h1 := HK.out; omega
      case rel =>
        refine ⟨k + 1, A6, c6', m + 1, by omega, by show _ = _; have h1 := HK.out; omega, by go_num, rfl, by show _ = _; rw [HM.out], ?_⟩
        show AppAt _ _ _ _ _ _ _
        rw [HT.out, ecells_snoc]
        exact HA6.out
    · obtain rfl : k = cs.length := by omega
      have HA4 : Hid (AppAt W2 wr (.slice A2 cs.length c2) cs.length 57 15 (ecells (appE (last + 1) t cs))) := by
        have h1 := HA.out
        have h2 := HM.out
        rw [List.take_length] at h1
        show AppAt _ _ _ _ _ _ _
        rw [← h2]
        exact h1
      have hm := HM.out
      subst hm
      clear HA HK
      have HB3 := Lib.hid (HB.out.same (HS2.out.trans' HA4.out.since) (fun x => x))
      have HOW3 := Lib.hid (own_same HOW.out (HS2.out.trans' HA4.out.since) (fun _ _ x => x))
      have HS3 := Lib.hid (HS2.out.trans' HA4.out.since)
      have HOL := Lib.hid (fun b hb => (HOW.out.lt b hb).2)
      have d2 : wr.cell? ⟨M, 2, none⟩ = some (.slice A n c) := HB3.out.cell 2
      go_upto_region 10 with (fail)
      have HRD : Hid (Rd wr.drew noB 15 (.slice A2 cs.length c2) cs.length (ecells (appE (last + 1) t cs))) := (HA4.out.rd (bad := noB) (fun _ x => x.elim)).drew
      refine wp_region_T (S := ApS M (.slice A n c)) (late := fun j => [7, 10].contains j) (by kernel_rfl) ?_ (fun hHeld => ?_)
      · exact d2
      refine T_pure (i := 0) (v := ?va0) rfl (by kernel_rfl) (by kernel_rfl) (by kernel_rfl) (fun _ _ _ h => h) (Or.inl ⟨?_, ?_⟩) ?_
      rotate_left 1
      · rfl
      · (intro w hSw; clear hSw; go_simp; (try with_reducible rfl))
      go_simp
      refine T_pure (i := 1) (v := ?va1) rfl (by kernel_rfl) (by kernel_rfl) (by kernel_rfl) (fun _ _ _ h => h) (Or.inl ⟨?_, ?_⟩) ?_
      rotate_left 1
      · rfl
      · (intro w hSw; clear hSw; go_simp; (try with_reducible rfl))
      go_simp
      refine T_pure (i := 2) (v := ?va2) rfl (by kernel_rfl) (by kernel_rfl) (by kernel_rfl) (fun _ _ _ h => h) (Or.inl ⟨?_, ?_⟩) ?_
      rotate_left 1
      · rfl
      · (intro w hSw; clear hSw; go_simp; (try with_reducible rfl))
      go_simp
      refine T_pure (i := 3) (v := ?va3) rfl (by kernel_rfl) (by kernel_rfl) (by kernel_rfl) (fun _ _ _ h => h) (Or.inl ⟨?_, ?_⟩) ?_
      rotate_left 1
      · rfl
      · (intro w hSw; clear hSw; go_simp; (try with_reducible rfl))
      go_simp
      refine T_take (i := 4) (v := ?va4) rfl (by kernel_rfl) (by kernel_rfl) (by kernel_rfl) (by kernel_rfl) (fun _ _ _ h => h) (Or.inl ⟨?_, ?_⟩) (by assumption) ?_
      rotate_left 1
      · rfl
      · (intro w hSw; unfold ApS at hSw; go_simp; (try with_reducible rfl))
      go_simp
      refine T_pure (i := 5) (v := ?va5) rfl (by kernel_rfl) (by kernel_rfl) (by kernel_rfl) (fun _ _ _ h => h) (Or.inl ⟨?_, ?_⟩) ?_
      rotate_left 1
      · rfl
      · (intro w hSw; clear hSw; go_simp; (try with_reducible rfl))
      go_simp
      refine T_ready (rs := [6]) (by kernel_rfl) (by simp) ?_
      refine ReadyT.early rfl (fun K hK => ?_) ReadyT.nil
      go_simp
      (with_reducible refine Calls.mono (HC.out wr.drew _ HS3.out.drew.of_no HRD.out) ?_)
      rintro r W5 ⟨O, on, oc, os, rfl, hon, hon2, hoo, hs5, hq⟩
      have HS5 := Lib.hid hs5
      have HQ := Lib.hid hq
      have HON := Lib.hid (And.intro hon hon2)
      have HOO := Lib.hid hoo
      have HB5 := Lib.hid (HB3.out.drew.same hs5 (fun x => x))
      have HOW5 := Lib.hid (own_same (w := wr.drew) HOW3.out hs5 (fun _ _ x => x))
      replace d2 := hs5.cell (w := wr.drew) d2 (fun x => x)
      clear hs5 hq hon hon2 hoo
      clear hHeld
      go_wp2_with fail
      refine hK.out _ _ ?_ (fun hHeld => ?_)
      · exact d2
      clear hK K
      refine T_ready (rs := [7]) (by kernel_rfl) (by simp) ?_
      refine ReadyT.behind rfl rfl (fun K hK => ?_) ReadyT.nil
      refine step_app slE rfl _ _ rfl rfl HOW5.out rfl (Rd.of_own (bad := noB) HOO.out (fun _ _ x => x)) (ecells_one os) (by have := HON.out.2; omega) (Nat.zero_le _) ?_
      intro A7 c7 W7 hown7 hgrow7 hat7 _
      have HG7 := Lib.hid (And.intro hown7 (And.intro hgrow7 hat7))
      have HB7 : Hid (Blk W7 M 80 #[.int .i64 base, .int .i64 term, .slice A n c]) := HB5.out.same (Same.of_grown hgrow7) (fun e => HMA.out e.symm)
      have z2 := HB7.out.frozen 2
      have d7 : W7.cell? ⟨M, 2, none⟩ = some (.slice A n c) := HB7.out.cell 2
      clear hown7 hgrow7 hat7
      refine hK.out _ _ ?_
      clear hK K
      go_simp
      refine T_pure (i := 8) (v := ?va8) rfl (by kernel_rfl) (by kernel_rfl) (by kernel_rfl) (fun _ _ _ h => h) (Or.inl ⟨?_, ?_⟩) ?_
      rotate_left 1
      · rfl
      · (intro w hSw; clear hSw; go_simp; (try with_reducible rfl))
      go_simp
      refine T_pure (i := 9) (v := ?va9) rfl (by kernel_rfl) (by kernel_rfl) (by kernel_rfl) (fun _ _ _ h => h) (Or.inl ⟨?_, ?_⟩) ?_
      rotate_left 1
      · rfl
      · (intro w hSw; clear hSw; go_simp; (try with_reducible rfl))
      go_simp
      refine T_ready (rs := [10]) (by kernel_rfl) (by simp) ?_
      refine ReadyT.behind rfl rfl (fun K hK => ?_) ReadyT.nil
      go_simp
      skip
      refine hK.out _ _ ?_
      clear hK K
      refine T_done (by kernel_rfl) ?_ _
      have hown7 : W7.ownsRow 0 57 15 (.slice A7 (n + on) c7) (n + on) (ecells es ++ ecells os) := HG7.out.1
      have hgrow7 : W5.grownBy W7 (Value.slice A n c).ownBlock := HG7.out.2.1
      have hat7 : (Value.slice A7 (n + on) c7).ownBlock = (Value.slice A n c).ownBlock ∨ (Value.slice A7 (n + on) c7).ownBlock = some W5.heap.size := HG7.out.2.2
      have hs7 : Same (lgB M (.slice A n c)) W5 W7 := (Same.of_grown hgrow7).mono (fun b _ hb => .inr hb)
      have hs8 : Same (lgB M (.slice A n c)) W5 (W7.setCell ⟨M, 2, none⟩ (.slice A7 (n + on) c7)) := hs7.trans' ((Same.refl (lgB M (.slice A n c)) W7).setCell (fun _ => .inl rfl) _)
      have hw5 : Same noB w W5 := HS3.out.drew.trans' HS5.out
      have hsz5 : wr.heap.size ≤ W5.heap.size := HS5.out.size
      have HS8 := Lib.hid (hw5.of_no.trans' hs8)
      have hne7 : ∀ b, (Value.slice A7 (n + on) c7).ownBlock = some b → b ≠ M := fun b hb e => by
        rcases hat7 with h | h
        · exact HMA.out (by rw [← h, hb, e])
        · rw [h] at hb
          injection hb with hb
          have := HB5.out.lt
          omega
      have HO8 := Lib.hid (own_same hown7 ((Same.refl (oneB M) W7).set1 2 (.slice A7 (n + on) c7)) (fun b hb hx => hne7 b hb hx))
      have HRD8 : Hid (Rd (W7.setCell ⟨M, 2, none⟩ (.slice A7 (n + on) c7)) noB 15 (.slice A2 cs.length c2) cs.length (ecells (appE (last + 1) t cs))) := by
        refine Rd.of_own (own_same (own_same (w := wr.drew) HA4.out.own HS5.out (fun _ _ x => x)) hs8 (fun b hb hx => ?_)) (fun _ _ x => x)
        have h1 := HA4.out.new b hb
        have h2 := HS2.out.size
        rcases hx with hx | hx
        · have := HB.out.lt; have h3 : b = M := hx; omega
        · have := HOL.out b hx.symm; omega
      have HB8 := Lib.hid (HB7.out.set_ 2 (.slice A7 (n + on) c7))
      have HS78 := Lib.hid hs8
      have HAT := Lib.hid hat7
      have HW5 := Lib.hid hw5
      have hon := HON.out.2
      subst hon
      clear hown7 hgrow7 hat7 hs7 hs8 hw5 hne7 HG7
      go_wp2_with fail
      (with_reducible refine Calls.mono (HC.out _ _ HS8.out HRD8.out) ?_)
      rintro r W9 ⟨O9, on9, oc9, os9, rfl, hz9, hy9, _, hs9, hq9⟩
      subst hy9
      clear hz9
      have HQ9 := Lib.hid (And.intro hs9 hq9)
      clear hs9 hq9
      go_wp2_with fail
      go_ret
      refine ⟨wr.drew, W5, _, _, _, os, os9, A7, c7, rfl, HS3.out.drew, HQ.out, HS5.out, HS78.out, ?_, ?_, HB8.out, HQ9.out.2, HQ9.out.1⟩
      · rw [ecells_app]
        exact HO8.out
      · rcases HAT.out with h | h
        · exact .inl h
        · exact .inr (fun b hb => by rw [h] at hb; injection hb with hb; omega)
def Lg.Sm (g : Lg) : Prop := ∀ x ∈ g.es, x.c.Sm
theorem appV_sm {i t : Int} {vs : List CmV} (h : ∀ x ∈ vs, x.Sm) : ∀ x ∈ appV i t vs, x.c.Sm := by
  induction vs generalizing i with
  | nil => intro x hx; cases hx
  | cons c l ih =>
    intro x hx
    rcases List.mem_cons.1 hx with rfl | hx
    · exact h c (List.mem_cons_self ..)
    · exact ih (fun y hy => h y (List.mem_cons_of_mem _ hy)) x hx
/-- What a call has made of a log; lists outside a set of blocks stay outside. -/
def LogToB (w w' : World) (M : Nat) (v : Value) (es : List En) (g g' : Lg) : Prop := ∃ v' es', LogIs w' M v' es' g' ∧ Same (lgB M v) w w' ∧ (∀ b, v'.ownBlock = some b → v.ownBlock = some b ∨ w.heap.size ≤ b) ∧
  ∀ B : Nat → Prop, (∀ b, B b → b < w.heap.size) → All2 (EnIs w (fun b => lgB M v b ∨ B b)) es g.es → All2 (EnIs w' (fun b => lgB M v' b ∨ B b)) es' g'.es
theorem LogToB.to {w w' : World} {M : Nat} {v : Value} {es : List En} {g g' : Lg} (h : LogToB w w' M v es g g') : LogTo w w' M v g' := by
  obtain ⟨v', es', h1, h2, h3, _⟩ := h
  exact ⟨v', es', h1, h2, h3⟩
theorem LogToB.same {w w' : World} {M : Nat} {v : Value} {es : List En} {g : Lg} (h : LogIs w M v es g) (hs : Same noB w w') : LogToB w w' M v es g g := ⟨v, es, h.keep hs, hs.of_no, fun _ hb => .inl hb, fun _ _ hA => hA.imp fun _ _ k => k.keep hs⟩
theorem append_any {w : World} {bad : Nat → Prop} {M : Nat} {v cv : Value} {es : List En} {g : Lg} {cs : List Cm} {vs : List CmV} (h : LogIs w M v es g) (hf : g.Fit) (hl : 0 ≤ g.last.1 ∧ g.last.1 ≤ 4398046511104) (hc : CmL w bad cv cs vs) (hlb : ∀ b, lgB M v b → bad b) (hcl : vs.length ≤ 1000) (hsm : ∀ x ∈ vs, x.Sm) (t : Int) :
    Calls Try.prog 27 #[.pointer (some ⟨M, 0, none⟩), .int .i64 t, cv] w fun r w' => ∃ W3 o os, r = .returned o ∧ LogToB w W3 M v es g (g.append t vs).1 ∧ CopyIs W3 w' o os (g.append t vs).2 := by
  have hT := fun (W : World) (hs : Same noB w W) => last_any (h.keep hs) hf
  obtain ⟨A, c, rfl, hc1, hc2⟩ := h.form
  obtain ⟨C, nc, rfl, hd1, hd2, hcr⟩ := hc.rd.form
  unfold Lg.append
  by_cases ht : t < g.last.2
  · rw [if_pos ht]
    refine (append_no ht (Lib.hid hT)).mono ?_
    rintro r w' ⟨rfl, hs⟩
    exact ⟨w', _, [], rfl, LogToB.same h hs, copy_nil (Same.refl _ _)⟩
  · rw [if_neg ht]
    have hcc := hc.is.len
    have hl2 := h.len
    have hfl := hf.len
    have hMA : (Value.slice A es.length c).ownBlock ≠ some M := by
      intro e
      obtain ⟨ds, hb⟩ := own_blk h.own e
      exact Blk.ne_ h.box hb (by decide) rfl
    have hHC : ∀ (W : World) (v : Value), Same (lgB M (.slice A es.length c)) w W → Rd W noB 15 v cs.length (ecells (appE (g.last.1 + 1) t cs)) → Calls Try.prog 51 #[v] W fun r w' => ∃ O on oc os, r = .returned (.slice O on oc) ∧ os.length = on ∧ on = cs.length ∧ w'.ownsRow 0 57 15 (.slice O on oc) on (ecells os) ∧ Same noB W w' ∧ CopyIs W w' (.slice O on oc) os (appV (g.last.1 + 1) t vs) := by
      intro W v hs hrd
      have hE := app_all2 (hc.is.imp fun _ _ k => k.same (bad' := noB) hs (fun b _ hb => hlb b hb) (fun _ _ x => x.elim)) (g.last.1 + 1) t
      refine (copied_any (es := appE (g.last.1 + 1) t cs) ⟨by rw [appE_len]; exact hrd, hE⟩ (by rw [appV_len]; omega) (appV_sm hsm)).mono ?_
      rintro r w' ⟨v', es', rfl, hcp⟩
      obtain ⟨O, oc, rfl⟩ := own_form hcp.own
      have hl := hcp.is.len
      rw [appV_len] at hl
      exact ⟨O, _, oc, es', rfl, rfl, by omega, hcp.own, hcp.since, hcp⟩
    refine (append_yes (n := es.length) (Q := fun W v os w' => CopyIs W w' v os (appV (g.last.1 + 1) t vs)) ht hl.1 hl.2 rfl (by omega) h.box h.own hMA hcr (by omega) (Lib.hid hT) (Lib.hid hHC)).mono ?_
    rintro r w' ⟨W1, W2, W3, v1, v2, os1, os2, A3, c3, rfl, hs1, hq1, hs12, hs23, hown, hat, hbox, hq2, hs3⟩
    have hL := h.box.lt
    have hsz1 := hs1.size
    have hsz2 := hs12.size
    have hOL : ∀ b, (Value.slice A es.length c).ownBlock = some b → b < w.heap.size := fun b hb => (h.own.lt b hb).2
    have hs02 : Same noB w W2 := hs1.trans' hs12
    have hall : Same (lgB M (.slice A es.length c)) w W3 := hs02.of_no.trans' hs23
    have hl1 := hq1.is.len
    rw [appV_len] at hl1
    have hold : ∀ b, b < w.heap.size → lgB M (.slice A3 (es.length + cs.length) c3) b → lgB M (.slice A es.length c) b := by
      intro b hb hx
      rcases hx with hx | hx
      · exact .inl hx
      · rcases hat with ha | ha
        · exact .inr (by rw [← ha]; exact hx)
        · have := ha b hx.symm; omega
    have hnew : ∀ b, b < W2.heap.size → lgB M (.slice A3 (es.length + cs.length) c3) b → b < W1.heap.size := by
      intro b hb hx
      rcases hx with hx | hx
      · have h3 : b = M := hx; omega
      · rcases hat with ha | ha
        · have := hOL b (by rw [← ha]; exact hx.symm); omega
        · have := ha b hx.symm; omega
    have hnewS : ∀ b, lgB M (.slice A es.length c) b → b < W1.heap.size := by
      intro b hx
      rcases hx with hx | hx
      · have h3 : b = M := hx; omega
      · have := hOL b hx.symm; omega
    refine ⟨W3, v2, os2, rfl, ⟨.slice A3 (es.length + cs.length) c3, es ++ os1, ⟨hbox, ?_, ?_⟩, hall, ?_, ?_⟩, hq2⟩
    · rw [List.length_append, show os1.length = cs.length from by omega]
      exact hown
    · exact (h.is.imp fun _ _ k => k.same hall (fun _ _ x => x) hold).app (hq1.is.imp fun _ _ k => k.same hs23 (fun b _ hb => .inl (hnewS b hb)) (fun b hb hx => .inl (hnew b hb hx)))
    · intro b hb
      rcases hat with ha | ha
      · exact .inl (by rw [← ha]; exact hb)
      · have := ha b hb; exact .inr (by omega)
    · intro B hB hA
      refine (hA.imp fun _ _ k => k.same hall (fun _ _ x => .inl x) (fun b hb hx => hx.imp (hold b hb) id)).app (hq1.is.imp fun _ _ k => k.same hs23 (fun b _ hb => .inl (hnewS b hb)) (fun b hb hx => ?_))
      rcases hx with hx | hx
      · exact .inl (hnew b hb hx)
      · have := hB b hx; exact .inl (by omega)
end Go.Proofs.Ytlocfbjeljgblaa
