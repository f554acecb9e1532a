/- Layer 36: fit of the law. (printed by genRepZ.py) -/
import Derived.Test.YtlocfbjeljgblaaRepL
import Derived.Test.YtlocfbjeljgblaaRepO
namespace Go.Proofs.Ytlocfbjeljgblaa
open Go Go.RowKit
set_option maxRecDepth 100000

def fitE (i t : Int) : List En → List En
  | [] => []
  | e :: l => ⟨i, max t (min e.t 1099511627776), e.c⟩ :: fitE (i + 1) (max t (min e.t 1099511627776)) l
def fitV (i t : Int) : List EnV → List EnV
  | [] => []
  | e :: l => ⟨i, max t (min e.t 1099511627776), e.c⟩ :: fitV (i + 1) (max t (min e.t 1099511627776)) l
theorem fitE_len (i t : Int) (l : List En) : (fitE i t l).length = l.length := by
  induction l generalizing i t with
  | nil => rfl
  | cons e l ih => simp [fitE, ih]
theorem fitV_len (i t : Int) (l : List EnV) : (fitV i t l).length = l.length := by
  induction l generalizing i t with
  | nil => rfl
  | cons e l ih => simp [fitV, ih]
theorem fit_all2 {w : World} {bad : Nat → Prop} {es : List En} {vs : List EnV} (h : All2 (EnIs w bad) es vs) (i t : Int) : All2 (EnIs w bad) (fitE i t es) (fitV i t vs) := by
  induction h generalizing i t with
  | nil => exact .nil
  | cons h _ ih =>
    refine .cons ⟨rfl, by simp only [h.t], h.c⟩ ?_
    rw [h.t]
    exact ih _ _
theorem fitE_step {i t : Int} {l : List En} {k : Nat} {e : En} (h : l[k]? = some e) : fitE i t (l.drop k) = ⟨i, max t (min e.t 1099511627776), e.c⟩ :: fitE (i + 1) (max t (min e.t 1099511627776)) (l.drop (k + 1)) := by
  have hk := (List.getElem?_eq_some_iff.1 h).1
  rw [List.drop_eq_getElem_cons hk, (List.getElem?_eq_some_iff.1 h).2]
  rfl
def OpV.fitL (x : OpV) : List EnV := if x.fit then fitV (x.a + 1) x.b x.es else x.es
set_option maxHeartbeats 8000000 in
theorem fit_no {w : World} {kk a b : Int} {A : Option Addr} {n c : Nat} :
    Calls Try.prog 16 #[.agg #[.int .i64 kk, .int .i64 a, .int .i64 b, .bool false, .slice A n c]] w fun r w' => r = .returned (.slice A n c) ∧ Same noB w w' := by
  go_enter Try.func16, Try.ntmps16
  go_wp2_with fail
  go_ret
  exact ⟨rfl, (Same.refl _ _).alloc _⟩
set_option maxHeartbeats 8000000 in
theorem fit_yes {w : World} {bad : Nat → Prop} {kk a b : Int} {A : Option Addr} {c : Nat} {es : List En} (ha1 : -1099511627776 ≤ a) (ha2 : a ≤ 1099511627776) (hr : Rd w bad 15 (.slice A es.length c) es.length (ecells es)) (hlen : es.length ≤ 1000) :
    Calls Try.prog 16 #[.agg #[.int .i64 kk, .int .i64 a, .int .i64 b, .bool true, .slice A es.length c]] w fun r w' => ∃ v', r = .returned v' ∧ AppAt w w' v' es.length 57 15 (ecells (fitE (a + 1) b es)) := by
  have HR := Lib.hid hr
  have hcaps := hr.caps
  clear hr
  go_enter Try.func16, Try.ntmps16
  go_upto_region 3 with (fail)
  refine wp_abs (fun W => Hid (Blk W w.heap.size 35 #[.int .i64 kk, .int .i64 a, .int .i64 b, .bool true, .slice A es.length c]) ∧ Hid (Same noB w W)) ⟨Blk.new _ _ _, (Same.refl _ _).alloc _⟩ ?_
  rintro W0 ⟨HG0, HS0⟩
  obtain ⟨N, hN⟩ : ∃ N, w.heap.size = N := ⟨_, rfl⟩
  rw [hN] at HG0 ⊢
  go_upto_region 4 with (fail)
  refine wp_abs (fun W => W.cell? ⟨N, 2, none⟩ = some (.int .i64 b) ∧ W.cell? ⟨N, 4, none⟩ = some (.slice A es.length c) ∧ Hid (Blk W N 35 #[.int .i64 kk, .int .i64 a, .int .i64 b, .bool true, .slice A es.length c]) ∧ Hid (AppAt W0 W (.slice (some ⟨W0.heap.size, 0, none⟩) 0 0) 0 57 15 [])) ⟨(HG0.out.alloc _).cell 2, (HG0.out.alloc _).cell 4, HG0.out.alloc _, AppAt.lit W0 57 15⟩ ?_
  rintro W1 ⟨d2, d4, HG, HA0⟩
  go_wp2_with fail
  go_loopg [3, 4, 18] (es.length) (fun gk o tt i wr => ∃ (k : Nat) (tk : Int) (A2 : Option Addr) (c2 m : Nat) (done : List En), k ≤ es.length ∧ Hid (gk + k = es.length) ∧ i = .int .i64 k ∧ tt = .int .i64 tk ∧ o = .slice A2 m c2 ∧ Hid (m = k ∧ done.length = k) ∧ Hid (fitE (a + 1) b es = done ++ fitE (a + 1 + k) tk (es.drop k)) ∧ Hid (AppAt W0 wr (.slice A2 m c2) m 57 15 (ecells done)) ∧ Hid (Blk wr N 35 #[.int .i64 kk, .int .i64 a, .int .i64 b, .bool true, .slice A es.length c]))
  case atStart => exact ⟨0, b, _, _, 0, [], Nat.zero_le _, rfl, rfl, rfl, rfl, ⟨rfl, rfl⟩, by show _ = _; simp, HA0.out, HG.out⟩
  case round =>
    obtain ⟨k, tk, A2, c2, m, done, hk, HK, rfl, rfl, rfl, HM, HF, HA, HGR⟩ := hrel
    clear d2 d4 HG HA0
    by_cases hlt : k < es.length
    · obtain ⟨e, he⟩ : ∃ e, es[k]? = some e := ⟨_, List.getElem?_eq_getElem hlt⟩
      have HS := Lib.hid (HS0.out.trans' HA.out.since)
      obtain ⟨fb, o, rfl, r⟩ := (HR.out.keep HS.out).at_ (by omega)
      obtain ⟨p0, p1, p2, p3, p4, p5, p6, p7, p8, p9, p10, p11, p12, p13, p14⟩ := en_at r he
      have HT := Lib.hid (fitE_step (i := a + 1 + k) (t := tk) he)
      have hm := HM.out.1
      have HNB : Hid (m ≤ 1000) := by show _ ≤ _; omega
      clear r he hm
      obtain ⟨ei, et, ⟨⟨sk, sc, sn, sb, sg, ss, sck, scm⟩, f1, f2, f3, f4, f5⟩⟩ := e
      obtain ⟨tm, htm⟩ : ∃ tm, (if 1099511627776 < et then 1099511627776 else et) = tm := ⟨_, rfl⟩
      obtain ⟨tn, htn⟩ : ∃ tn, (if tk < tm then tm else tk) = tn := ⟨_, rfl⟩
      have HTN : Hid (max tk (min et 1099511627776) = tn) := by show _ = _; split at htn <;> split at htm <;> omega
      simp only at p0 p1 p2 p3 p4 p5 p6 p7 p8 p9 p10 p11 p12 p13 p14 HT
      rw [HTN.out] at HT
      have hi0 : (0 : Int) ≤ (k : Int) := by omega
      have hi1 : (k : Int) < (es.length : Int) := by omega
      have hw1 : IntKind.i64.wrap (a + 1) = a + 1 := IntWalk.i64_in _ (by omega)
      have hw2 : IntKind.i64.wrap (a + 1 + k) = a + 1 + k := IntWalk.i64_in _ (by omega)
      have HB5 := Lib.hid (row_stored (Blk.new wr 57 en0.cells.toArray) #[Value.int .i64 ei, .int .i64 et, .int .i64 sk, .int .i64 sc, .int .i64 sn, .string sb, .int .i64 sg, .int .i64 ss, .int .i64 sck, .int .i64 scm, .slice f1.addr f1.len f1.cap, .slice f2.addr f2.len f2.cap, .slice f3.addr f3.len f3.cap, .slice f4.addr f4.len f4.cap, .slice f5.addr f5.len f5.cap])
      have HGN := Lib.hid ((HGR.out.alloc (.cells en0.cells.toArray 57)).same HB5.out.2 (fun hx => by have h3 : N = wr.heap.size := hx; have := HGR.out.lt; omega))
      have HWM := Lib.hid (And.intro htm htn)
      have HNL := Lib.hid HGR.out.lt
      clear htm htn
      go_upto_region 8 with (refine wpList_store_row rfl 57 _ _ rfl wr.heap.size #[Value.int .i64 ei, .int .i64 et, .int .i64 sk, .int .i64 sc, .int .i64 sn, .string sb, .int .i64 sg, .int .i64 ss, .int .i64 sck, .int .i64 scm, .slice f1.addr f1.len f1.cap, .slice f2.addr f2.len f2.cap, .slice f3.addr f3.len f3.cap, .slice f4.addr f4.len f4.cap, .slice f5.addr f5.len f5.cap] rfl rfl 57 _ (Blk.new wr 57 en0.cells.toArray) (by kernel_rfl) rfl (by kernel_rfl) ?_)
      refine wp_abs (fun W => Hid (Blk W wr.heap.size 57 #[Value.int .i64 ei, .int .i64 et, .int .i64 sk, .int .i64 sc, .int .i64 sn, .string sb, .int .i64 sg, .int .i64 ss, .int .i64 sck, .int .i64 scm, .slice f1.addr f1.len f1.cap, .slice f2.addr f2.len f2.cap, .slice f3.addr f3.len f3.cap, .slice f4.addr f4.len f4.cap, .slice f5.addr f5.len f5.cap]) ∧ Hid (Blk W N 35 #[.int .i64 kk, .int .i64 a, .int .i64 b, .bool true, .slice (some ⟨fb, o, none⟩) es.length c]) ∧ Hid (AppAt W0 W (.slice A2 m c2) m 57 15 (ecells done))) ⟨HB5.out.1, HGN.out, HA.out.keep (((Same.refl _ _).alloc _).trans HB5.out.2 (fun b hb hx => absurd hx (Nat.ne_of_lt hb)))⟩ ?_
      rintro W ⟨HE, HGR2, HA5⟩
      obtain ⟨G, hG⟩ : ∃ G, wr.heap.size = G := ⟨_, rfl⟩
      have HGS := Lib.hid (Nat.le_of_eq hG)
      have HAS := Lib.hid (And.intro HA.out.since.size (fun b hb => (HA.out.own.lt b hb).2))
      rw [hG] at HE ⊢
      have e0 : W.cell? ⟨G, 0, none⟩ = some (.int .i64 ei) := HE.out.cell 0
      have e1 : W.cell? ⟨G, 1, none⟩ = some (.int .i64 et) := HE.out.cell 1
      have z0 := HE.out.frozen 0
      have z1 := HE.out.frozen 1
      have n1 : W.cell? ⟨N, 1, none⟩ = some (.int .i64 a) := HGR2.out.cell 1
      have HE2 := Lib.hid ((HE.out.set_ 0 (.int .i64 (a + 1 + k))).set_ 1 (.int .i64 tn))
      have HES := Lib.hid (((Same.refl (oneB G) W).set1 0 (.int .i64 (a + 1 + k))).set1 1 (.int .i64 tn))
      have htm := HWM.out.1
      have htn := HWM.out.2
      clear p0 p1 p2 p3 p4 p5 p6 p7 p8 p9 p10 p11 p12 p13 p14 HB5 HA HGR HGN
      go_upto_region 11 with (fail)
      refine wp_abs (fun W' => W'.cell? ⟨G, 0, none⟩ = some (.int .i64 (a + 1 + k)) ∧ W'.cell? ⟨G, 1, none⟩ = some (.int .i64 tn) ∧ W'.cell? ⟨G, 2, none⟩ = some (.int .i64 sk) ∧ W'.cell? ⟨G, 3, none⟩ = some (.int .i64 sc) ∧ W'.cell? ⟨G, 4, none⟩ = some (.int .i64 sn) ∧ W'.cell? ⟨G, 5, none⟩ = some (.string sb) ∧ W'.cell? ⟨G, 6, none⟩ = some (.int .i64 sg) ∧ W'.cell? ⟨G, 7, none⟩ = some (.int .i64 ss) ∧ W'.cell? ⟨G, 8, none⟩ = some (.int .i64 sck) ∧ W'.cell? ⟨G, 9, none⟩ = some (.int .i64 scm) ∧ W'.cell? ⟨G, 10, none⟩ = some (.slice f1.addr f1.len f1.cap) ∧ W'.cell? ⟨G, 11, none⟩ = some (.slice f2.addr f2.len f2.cap) ∧ W'.cell? ⟨G, 12, none⟩ = some (.slice f3.addr f3.len f3.cap) ∧ W'.cell? ⟨G, 13, none⟩ = some (.slice f4.addr f4.len f4.cap) ∧ W'.cell? ⟨G, 14, none⟩ = some (.slice f5.addr f5.len f5.cap) ∧ Hid (Blk W' N 35 #[.int .i64 kk, .int .i64 a, .int .i64 b, .bool true, .slice (some ⟨fb, o, none⟩) es.length c]) ∧ Hid (AppAt W0 W' (.slice A2 m c2) m 57 15 (ecells done))) ⟨HE2.out.cell 0, HE2.out.cell 1, HE2.out.cell 2, HE2.out.cell 3, HE2.out.cell 4, HE2.out.cell 5, HE2.out.cell 6, HE2.out.cell 7, HE2.out.cell 8, HE2.out.cell 9, HE2.out.cell 10, HE2.out.cell 11, HE2.out.cell 12, HE2.out.cell 13, HE2.out.cell 14, ?_, ?_⟩ ?_
      · exact HGR2.out.same HES.out (fun hx => by have h3 : N = G := hx; have := HNL.out; have := HGS.out; omega)
      · exact ⟨own_same HA5.out.own HES.out (fun b hb hx => by have h3 : b = G := hx; have := HAS.out.2 b hb; have := HGS.out; omega), HA5.out.new, HA5.out.since.trans HES.out (fun b hb hx => by have h3 : b = G := hx; have := HAS.out.1; have := HGS.out; omega)⟩
      rintro W' ⟨q0, q1, q2, q3, q4, q5, q6, q7, q8, q9, q10, q11, q12, q13, q14, HG6, HA6⟩
      clear e0 e1 z0 z1 n1 HE2 HES htm htn HE HGR2 HA5
      go_wp2_with (at_builtin; refine wpL_app slE rfl _ _ rfl rfl ((HA6.out.keep ((Same.refl _ _).alloc _)).own) rfl (bad := noB) (Rd.of_blk (Blk.new W' 57 [Value.int .i64 (a + 1 + k), Value.int .i64 tn, Value.int .i64 sk, Value.int .i64 sc, Value.int .i64 sn, Value.string sb, Value.int .i64 sg, Value.int .i64 ss, Value.int .i64 sck, Value.int .i64 scm, Value.slice f1.addr f1.len f1.cap, Value.slice f2.addr f2.len f2.cap, Value.slice f3.addr f3.len f3.cap, Value.slice f4.addr f4.len f4.cap, Value.slice f5.addr f5.len f5.cap].toArray) (fun x => x) (by rfl) (by omega) (by simp [maxLen])) (en_one ⟨a + 1 + k, tn, ⟨sk, sc, sn, sb, sg, ss, sck, scm⟩, f1, f2, f3, f4, f5⟩) (by have := HNB.out; omega) (Nat.zero_le _) ?_; intro A7 c7' W7 hown7 hgrow7 hat7 _; have HA7 := Lib.hid (AppAt.next (HA6.out.keep ((Same.refl _ _).alloc (.cells #[.int .i64 (a + 1 + k), .int .i64 tn, .int .i64 sk, .int .i64 sc, .int .i64 sn, .string sb, .int .i64 sg, .int .i64 ss, .int .i64 sck, .int .i64 scm, .slice f1.addr f1.len f1.cap, .slice f2.addr f2.len f2.cap, .slice f3.addr f3.len f3.cap, .slice f4.addr f4.len f4.cap, .slice f5.addr f5.len f5.cap] 57))) hgrow7 hat7 hown7); have HG7 := Lib.hid ((HG6.out.alloc (.cells #[.int .i64 (a + 1 + k), .int .i64 tn, .int .i64 sk, .int .i64 sc, .int .i64 sn, .string sb, .int .i64 sg, .int .i64 ss, .int .i64 sck, .int .i64 scm, .slice f1.addr f1.len f1.cap, .slice f2.addr f2.len f2.cap, .slice f3.addr f3.len f3.cap, .slice f4.addr f4.len f4.cap, .slice f5.addr f5.len f5.cap] 57)).same (Same.of_grown hgrow7) (fun hx => by have := HA6.out.new N hx.symm; have := HG0.out.lt; omega)); clear hown7 hgrow7 hat7)
      go_roundg (gk - 1)
      case measure => have h1 := HK.out; omega
      case rel =>
        refine ⟨k + 1, tn, A7, c7', m + 1, done ++ [⟨a + 1 + k, tn, ⟨sk, sc, sn, sb, sg, ss, sck, scm⟩, f1, f2, f3, f4, f5⟩], by omega, by show _ = _; have h1 := HK.out; omega, by go_num, rfl, rfl, ⟨by rw [HM.out.1], by rw [List.length_append, HM.out.2]; rfl⟩, ?_, ?_, HG7.out⟩
        · show _ = _
          rw [HF.out, HT.out, List.append_assoc, show a + 1 + ((k + 1 : Nat) : Int) = a + 1 + k + 1 from by omega]
          rfl
        · show AppAt _ _ _ _ _ _ _
          rw [ecells_snoc]
          exact HA7.out
    · obtain rfl : k = es.length := by omega
      have HA4 : Hid (AppAt w wr (.slice A2 es.length c2) es.length 57 15 (ecells (fitE (a + 1) b es))) := by
        have h1 := HA.out
        have h2 := HM.out.1
        have h3 := HF.out
        rw [List.drop_length] at h3
        simp only [fitE, List.append_nil] at h3
        show AppAt _ _ _ _ _ _ _
        rw [h3, ← h2]
        exact h1.before HS0.out
      have hm := HM.out.1
      subst hm
      go_wp2_with fail
      go_ret
      exact ⟨_, rfl, HA4.out⟩
theorem fit_any {w : World} {bad : Nat → Prop} (hbad : ∀ b, bad b → b < w.heap.size) {x : OpR} {v : OpV} (h : OpIs w bad x v) (hs : v.Small) :
    Calls Try.prog 16 #[x.val] w fun r w' => ∃ v' es', r = .returned v' ∧ EnL w' bad v' es' v.fitL ∧ Same noB w w' := by
  obtain ⟨xk, xa, xb, xf, ⟨A, n, c⟩⟩ := x
  obtain ⟨es, hn, he⟩ := h.l
  have ha := h.a
  have hb := h.b
  have hf := h.f
  have hle := he.len
  have hsn := hs.n
  have hsa := hs.a
  simp only at hn he ha hb hf
  subst hn
  unfold OpV.fitL OpR.val
  dsimp only
  rw [← hf]
  cases xf with
  | false =>
    refine fit_no.mono ?_
    rintro r w' ⟨rfl, hs⟩
    exact ⟨_, es, rfl, he.keep hs, hs⟩
  | true =>
    refine (fit_yes (a := xa) (b := xb) (by omega) (by omega) he.rd (by omega)).mono ?_
    rintro r w' ⟨v', rfl, hA⟩
    refine ⟨v', fitE (xa + 1) xb es, rfl, ⟨?_, ?_⟩, hA.since⟩
    · rw [fitE_len]
      exact hA.rd hbad
    · rw [if_pos rfl, ← ha, ← hb]
      exact fit_all2 (he.keep hA.since).is _ _
end Go.Proofs.Ytlocfbjeljgblaa
