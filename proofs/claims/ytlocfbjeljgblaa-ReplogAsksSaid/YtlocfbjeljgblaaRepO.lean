/- Layer 36: the law's list of commands. -/
import Derived.Test.YtlocfbjeljgblaaRepC
import Derived.Test.YtlocfbjeljgblaaRepG
namespace Go.Proofs.Ytlocfbjeljgblaa
open Go Go.RowKit
set_option maxRecDepth 100000

theorem ccells_snoc (l : List Cm) (x : Cm) : ccells (l ++ [x]) = ccells l ++ x.cells := by simp [ccells]
theorem ecells_snoc (l : List En) (x : En) : ecells (l ++ [x]) = ecells l ++ x.cells := by simp [ecells]
theorem cm_one (x : Cm) : ∀ u ∈ x.cells, u.oneCell' = true := by
  have h := ccells_one [x]
  have e : ccells [x] = x.cells := by simp [ccells]
  rwa [e] at h
theorem en_one (x : En) : ∀ u ∈ x.cells, u.oneCell' = true := by
  have h := ecells_one [x]
  have e : ecells [x] = x.cells := by simp [ecells]
  rwa [e] at h
theorem take_snoc {α : Type} {l : List α} {k : Nat} {x : α} (h : l[k]? = some x) : l.take (k + 1) = l.take k ++ [x] := by
  rw [List.take_add_one, h]
  rfl
set_option maxHeartbeats 8000000 in
theorem commands_any {w : World} {bad : Nat → Prop} {v : Value} {es : List En} (hr : Rd w bad 15 v es.length (ecells es)) (hlen : es.length ≤ 100000) :
    Calls Try.prog 41 #[v] w fun e w' => ∃ v', e = .returned v' ∧ AppAt w w' v' es.length 55 13 (ccells (es.map En.c)) := by
  obtain ⟨A, c, rfl, hc1, hc2, hr2⟩ := hr.form
  have HR := Lib.hid hr2
  clear hr hr2
  unfold maxLen at hc2
  go_enter Try.func41, Try.ntmps41
  go_wp2_with fail
  go_loopg [3, 8] (es.length) (fun gk o i wr => ∃ (k : Nat) (A2 : Option Addr) (c2 n : Nat), k ≤ es.length ∧ Hid (gk + k = es.length) ∧ i = .int .i64 k ∧ o = .slice A2 n c2 ∧ Hid (n = k) ∧ Hid (AppAt w wr (.slice A2 n c2) n 55 13 (ccells ((es.take k).map En.c))))
  case atStart => exact ⟨0, _, _, 0, Nat.zero_le _, rfl, rfl, rfl, rfl, AppAt.lit w 55 13⟩
  case round =>
    obtain ⟨k, A2, c2, n, hk, HK, rfl, rfl, HN, HA⟩ := hrel
    by_cases hlt : k < es.length
    · obtain ⟨e, he⟩ : ∃ e, es[k]? = some e := ⟨_, List.getElem?_eq_getElem hlt⟩
      obtain ⟨b, o, rfl, r⟩ := (HR.out.keep HA.out.since).at_ (by omega)
      obtain ⟨p0, p1, p2, p3, p4, p5, p6, p7, p8, p9, p10, p11, p12, p13, p14⟩ := en_at r he
      have HT := Lib.hid (take_snoc he)
      have hn := HN.out
      have HNB : Hid (n ≤ 100000) := by show _ ≤ _; omega
      clear r he hn
      obtain ⟨ei, et, ⟨⟨sk, sc, sn, sb, sg, ss, sck, scm⟩, f1, f2, f3, f4, f5⟩⟩ := e
      simp only at p2 p3 p4 p5 p6 p7 p8 p9 p10 p11 p12 p13 p14
      have hi0 : (0 : Int) ≤ (k : Int) := by omega
      have hi1 : (k : Int) < (es.length : Int) := by omega
      go_wp2_with (at_builtin; refine wpL_app slC rfl _ _ rfl rfl ((HA.out.keep ((Same.refl _ _).alloc _)).own) rfl (bad := noB) (Rd.of_blk (Blk.new wr 55 [Value.int .i64 sk, Value.int .i64 sc, Value.int .i64 sn, Value.string sb, Value.int .i64 sg, Value.int .i64 ss, Value.int .i64 sck, Value.int .i64 scm, Value.slice f1.addr f1.len f1.cap, Value.slice f2.addr f2.len f2.cap, Value.slice f3.addr f3.len f3.cap, Value.slice f4.addr f4.len f4.cap, Value.slice f5.addr f5.len f5.cap].toArray) (fun x => x) (by rfl) (by omega) (by simp [maxLen])) (cm_one ⟨⟨sk, sc, sn, sb, sg, ss, sck, scm⟩, f1, f2, f3, f4, f5⟩) (by have := HNB.out; omega) (Nat.zero_le _) ?_; intro A6 c6' W6 hown6 hgrow6 hat6 _; have HA6 := Lib.hid (AppAt.next (HA.out.keep ((Same.refl _ _).alloc (.cells #[.int .i64 sk, .int .i64 sc, .int .i64 sn, .string sb, .int .i64 sg, .int .i64 ss, .int .i64 sck, .int .i64 scm, .slice f1.addr f1.len f1.cap, .slice f2.addr f2.len f2.cap, .slice f3.addr f3.len f3.cap, .slice f4.addr f4.len f4.cap, .slice f5.addr f5.len f5.cap] 55))) hgrow6 hat6 hown6); clear hown6 hgrow6 hat6)
      go_roundg (gk - 1)
      case measure => have h1 := HK.out; omega
      case rel =>
        refine ⟨k + 1, A6, c6', n + 1, by omega, by show _ = _; have h1 := HK.out; omega, by go_num, rfl, by show _ = _; rw [HN.out], ?_⟩
        show AppAt _ _ _ _ _ _ _
        rw [HT.out, List.map_append, List.map_cons, List.map_nil, ccells_snoc]
        exact HA6.out
    · obtain rfl : k = es.length := by omega
      have HA4 : Hid (AppAt w wr (.slice A2 n c2) es.length 55 13 (ccells (es.map En.c))) := by
        have h1 := HA.out
        have h2 := HN.out
        rw [List.take_length] at h1
        show AppAt _ _ _ _ _ _ _
        rw [← h2]
        exact h1
      go_wp2_with fail
      go_ret
      exact ⟨_, rfl, HA4.out⟩
theorem all2_map_c {w : World} {bad : Nat → Prop} {es : List En} {vs : List EnV} (h : All2 (EnIs w bad) es vs) : All2 (CmIs w bad) (es.map En.c) (vs.map EnV.c) := by
  induction h with
  | nil => exact .nil
  | cons h _ ih => exact .cons h.c ih
theorem commands_cml {w : World} {bad : Nat → Prop} (hbad : ∀ b, bad b → b < w.heap.size) {v : Value} {es : List En} {vs : List EnV} (h : EnL w bad v es vs) (hlen : vs.length ≤ 100000) :
    Calls Try.prog 41 #[v] w fun e w' => ∃ v', e = .returned v' ∧ CmL w' bad v' (es.map En.c) (vs.map EnV.c) ∧ Same noB w w' := by
  refine (commands_any h.rd (by have := h.len; omega)).mono ?_
  rintro e w' ⟨v', rfl, ha⟩
  refine ⟨v', rfl, ⟨?_, all2_map_c (h.keep ha.since).is⟩, ha.since⟩
  rw [List.length_map]
  exact ha.rd hbad
end Go.Proofs.Ytlocfbjeljgblaa
