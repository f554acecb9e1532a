/- The reference's Isolate and Join. -/
import Derived.Test.YtgmoeejhgjfpgaaRefB
namespace Go.Proofs.Ytgmoeejhgjfpgaa
open Go Go.RowKit Go.Maps

theorem res_ref1 {fn : Func} {i : Nat} (hres : fn.results = #[.cell i 43]) {tmps : Array Value} {w : World} {g : Nat} {a b c : Value} (hb : Blk w g 43 #[a, b, c]) (h4 : tmps.getD i undef = .pointer (some ⟨g, 0, none⟩)) :
    (results fn tmps).run Try.prog w = .ok (.agg #[a, b, c]) w := by
  have c0 : w.cell? ⟨g, 0, none⟩ = some a := hb.cell 0
  have c1 : w.cell? ⟨g, 1, none⟩ = some b := hb.cell 1
  have c2 : w.cell? ⟨g, 2, none⟩ = some c := hb.cell 2
  simp only [Array.getD_eq_getD_getElem?] at h4
  simp [results, hres, go_sem, h4, c0, c1, c2]
theorem icells_snoc (l : List Int) (x : Int) : icells (l ++ [x]) = icells l ++ [.int .i64 x] := by simp [icells]
theorem int_one (x : Int) : ∀ u ∈ [Value.int .i64 x], u.oneCell' = true := by simp [Value.oneCell']

theorem AppAt.lit' {W : World} {g : Nat} (hg : W.heap.size = g) (e : TypeId) (size : Nat) : AppAt W (W.alloc (.cells #[] e)) (.slice (some ⟨g, 0, none⟩) 0 0) 0 e size [] := by
  subst hg
  exact AppAt.lit W e size

theorem risolate_any {w : World} {bad : Nat → Prop} {v : Value} {st : NetSt} (h : RefAt w bad v st) (hbd : ∀ b, bad b → b < w.heap.size) (x : Int) (hs : st.iso.length ≤ 1000000) :
    Calls Try.prog 39 #[v, .int .i64 x] w fun e w' => ∃ v', e = .returned v' ∧ RefAt w' bad v' (st.isolate x) ∧ Same noB w w' := by
  obtain ⟨A, c, A', c', rfl, h1, h2⟩ := h
  have hL := RLoc.start h1 h2 hbd
  clear h1 h2 hbd
  unfold NetSt.isolate
  have HL := Lib.hid hL
  clear hL
  have HA := Lib.hid (AppAt.lit' (W := (w.alloc (.cells #[.slice A st.ps.length c, .int .i64 st.last, .slice A' st.iso.length c'] 43)).alloc (.cells #[.slice none 0 0, .int .i64 0, .slice none 0 0] 43)) (g := w.heap.size + 1 + 1) (by simp) 3 1)
  go_enter Try.func39, Try.ntmps39
  go_wp2_with (first
    | (at_builtin; refine wpL_app slI rfl _ _ rfl rfl HA.out.own rfl (HL.out.i.iso.same (S := noB) ((Same.refl _ _).alloc _) (fun _ _ x => x.elim) (fun _ _ x => x)) (icells_one _) (by omega) (Nat.zero_le _) ?_; intro A1 c1 w1 hown1 hgrow1 hat1 _; have hA1 := HA.out.next hgrow1 hat1 hown1; simp only [Nat.zero_add, List.nil_append] at hA1 ⊢; have HA1 := Lib.hid hA1; clear hA1 hown1 hgrow1 hat1)
    | (at_builtin; refine wpL_app slI rfl _ _ rfl rfl (HA1.out.keep ((Same.refl _ _).alloc _)).own rfl (bad := noB) (Rd.of_blk (Blk.new w1 3 [Value.int .i64 x].toArray) (fun x => x) (by rfl) (by omega) (by simp [maxLen])) (int_one x) (by omega) (Nat.zero_le _) ?_; intro A2 c2 w2 hown2 hgrow2 hat2 _; have hA2 := AppAt.next (HA1.out.keep ((Same.refl _ _).alloc _)) hgrow2 hat2 hown2; have HA2 := Lib.hid hA2; have hL2 := HL.out.keep hA2.since; obtain ⟨⟨b0, b1, b2⟩, ⟨f0, f1, f2⟩, ⟨r0, r1, r2⟩, q0, q1, q2⟩ := hL2.cells; have hF := (HL.out.setiso (w2 := w2) (A2 := A2) (c2 := c2) (l := st.iso ++ [x]) (by simpa [icells_snoc] using hA2)).fin rfl; simp only [List.length_append, List.length_cons, List.length_nil, Nat.zero_add] at hF; have HF := Lib.hid hF; clear hF hL2 hA2 hown2 hgrow2 hat2))
  obtain ⟨k1, k2, k3⟩ := HF.out
  exact bodyPost_ret (res_ref1 rfl k1 rfl) rfl ⟨_, rfl, k2, k3⟩

theorem filter_step {l : List Int} {k : Nat} {y x : Int} (h : l[k]? = some y) : (l.take (k + 1)).filter (fun z => !(z == x)) = (l.take k).filter (fun z => !(z == x)) ++ (if y = x then [] else [y]) := by
  rw [List.take_add_one, h]
  simp only [Option.toList, List.filter_append]
  by_cases e : y = x <;> simp [e]

theorem rjoin_any {w : World} {bad : Nat → Prop} {v : Value} {st : NetSt} (h : RefAt w bad v st) (hbd : ∀ b, bad b → b < w.heap.size) (x : Int) (hs : st.iso.length ≤ 1000000) :
    Calls Try.prog 40 #[v, .int .i64 x] w fun e w' => ∃ v', e = .returned v' ∧ RefAt w' bad v' (st.join x) ∧ Same noB w w' := by
  obtain ⟨A, c, A', c', rfl, h1, h2⟩ := h
  have hL := RLoc.start h1 h2 hbd
  clear h1 h2 hbd
  unfold NetSt.join
  have HL := Lib.hid hL
  clear hL
  have HA := Lib.hid (AppAt.lit' (W := (w.alloc (.cells #[.slice A st.ps.length c, .int .i64 st.last, .slice A' st.iso.length c'] 43)).alloc (.cells #[.slice none 0 0, .int .i64 0, .slice none 0 0] 43)) (g := w.heap.size + 1 + 1) (by simp) 3 1)
  obtain ⟨X, hX⟩ : ∃ X, X = (w.alloc (.cells #[.slice A st.ps.length c, .int .i64 st.last, .slice A' st.iso.length c'] 43)).alloc (.cells #[.slice none 0 0, .int .i64 0, .slice none 0 0] 43) := ⟨_, rfl⟩
  rw [← hX] at HL HA
  have HX := Lib.hid hX
  clear hX
  go_enter Try.func40, Try.ntmps40
  go_wp2_with fail
  go_loopw [5, 6] (fun o i wr => ∃ (k : Nat) (A2 : Option Addr) (c2 m : Nat), k ≤ st.iso.length ∧ i = .int .i64 k ∧ o = .slice A2 m c2 ∧ Hid (m = ((st.iso.take k).filter (fun z => !(z == x))).length) ∧ Hid (AppAt X wr (.slice A2 m c2) m 3 1 (icells ((st.iso.take k).filter (fun z => !(z == x)))))) (fun _ i _ => st.iso.length - (intOf i).toNat)
  case atStart =>
    refine ⟨0, _, _, 0, Nat.zero_le _, rfl, rfl, rfl, ?_⟩
    rw [← HX.out]
    exact HA.out
  case round =>
    obtain ⟨k, A2, c2, m, hk, rfl, rfl, HM, HA2⟩ := hrel
    have hL2 := HL.out.keep (HA2.out).since
    obtain ⟨⟨b0, b1, b2⟩, ⟨f0, f1, f2⟩, ⟨r0, r1, r2⟩, q0, q1, q2⟩ := hL2.cells
    have HL2 := Lib.hid hL2
    have HI2 := Lib.hid hL2.i.iso
    clear hL2 b0 b1 f0 f1 f2 r0 r1 r2 q0 q1 q2
    by_cases hlt : k < st.iso.length
    · obtain ⟨b, o, rfl, r⟩ := HI2.out.at_ (by omega)
      obtain ⟨y, hy⟩ : ∃ y, st.iso[k]? = some y := ⟨_, List.getElem?_eq_getElem hlt⟩
      have c4 := r.cell k _ (icells_at hy)
      have hfs := filter_step (x := x) hy
      have HF := Lib.hid hfs
      have hm : m ≤ 1000000 := by
        rw [HM.out]
        have := List.length_filter_le (fun z => !(z == x)) (st.iso.take k)
        rw [List.length_take] at this
        omega
      clear r hy hfs
      by_cases hxy : y = x
      · subst hxy
        go_wp2_with fail
        go_round
        case rel =>
          refine ⟨k + 1, _, _, _, by omega, by go_num, rfl, ?_, ?_⟩
          · show _ = _
            rw [HF.out, HM.out]
            simp
          · show AppAt _ _ _ _ _ _ _
            rw [HF.out]
            simpa using HA2.out
        case measure => simp [intOf]; omega
      · have e0 : (y == x) = false := by simpa using hxy
        have e1 : (y != x) = true := by simpa using hxy
        go_wp2_with (at_builtin; refine wpL_app slI rfl _ _ rfl rfl ((HA2.out.keep ((Same.refl _ _).alloc _)).own) rfl (bad := noB) (Rd.of_blk (Blk.new wr 3 [Value.int .i64 y].toArray) (fun x => x) (by rfl) (by omega) (by simp [maxLen])) (int_one y) (by omega) (Nat.zero_le _) ?_; intro A3 c3 w3 hown3 hgrow3 hat3 _; have HA3 := Lib.hid (AppAt.next (HA2.out.keep ((Same.refl _ _).alloc _)) hgrow3 hat3 hown3); clear hown3 hgrow3 hat3)
        go_roundw
        case rel =>
          refine ⟨k + 1, _, _, _, by omega, by go_num, rfl, ?_, ?_⟩
          · show _ = _
            rw [HF.out, HM.out, if_neg hxy]
            simp
          · show AppAt _ _ _ _ _ _ _
            rw [HF.out, if_neg hxy, icells_snoc]
            exact HA3.out
        case measure => simp [intOf]; omega
    · obtain rfl : k = st.iso.length := by omega
      have hm := HM.out
      have ha := HA2.out
      rw [List.take_length] at hm ha
      subst hm
      have hF := (HL.out.setiso ha).fin rfl
      have HF := Lib.hid hF
      clear hF ha HM HA2
      obtain ⟨⟨b0, b1, b2⟩, ⟨f0, f1, f2⟩, ⟨r0, r1, r2⟩, q0, q1, q2⟩ := HL2.out.cells
      go_wp2_with fail
      obtain ⟨k1, k2, k3⟩ := HF.out
      exact bodyPost_ret (res_ref1 rfl k1 rfl) rfl ⟨_, rfl, k2, k3⟩
end Go.Proofs.Ytgmoeejhgjfpgaa
