/- The reference's Same; slices.Clone; Pending. -/
import Derived.Test.YtgmoeejhgjfpgaaRefF
import Derived.BigQuiet
namespace Go.Proofs.Ytgmoeejhgjfpgaa
open Go Go.RowKit Go.Maps

theorem rsame_true {w : World} {bad bad' : Nat → Prop} {v v' : Value} {ps : List Pk} (h1 : Rd w bad 4 v ps.length (pcells ps)) (h2 : Rd w bad' 4 v' ps.length (pcells ps)) :
    Calls Try.prog 24 #[v, v'] w fun e w' => e = .returned (.bool true) ∧ Same noB w w' := by
  obtain ⟨A, c, rfl, hc1, hc2, hr1⟩ := h1.form
  obtain ⟨A', c', rfl, _, _, hr2⟩ := h2.form
  have H1 := Lib.hid hr1
  have H2 := Lib.hid hr2
  clear h1 h2 hr1 hr2
  unfold maxLen at hc2
  have hn : ps.length ≤ 9223372036854775807 := by omega
  clear hc1 hc2
  go_enter Try.func24, Try.ntmps24
  go_wp2_with fail
  go_loopw [5] (fun i wr => ∃ k : Nat, k ≤ ps.length ∧ i = .int .i64 k ∧ Hid (Same noB w wr)) (fun i _ => ps.length - (intOf i).toNat)
  case atStart => exact ⟨0, Nat.zero_le _, rfl, Same.refl _ _⟩
  case round =>
    obtain ⟨k, hk, rfl, HS⟩ := hrel
    by_cases hlt : k < ps.length
    · obtain ⟨b, o, rfl, r1⟩ := H1.out.at_ (by omega)
      obtain ⟨b', o', rfl, r2⟩ := H2.out.at_ (by omega)
      obtain ⟨p, hp⟩ : ∃ p, ps[k]? = some p := ⟨_, List.getElem?_eq_getElem hlt⟩
      have p0 := (HS.out).cell (r1.cell (k * 4 + 0) _ (by rw [pcells_at hp 0 (by omega)]; rfl)) (fun x => x)
      have p1 := (HS.out).cell (r1.cell (k * 4 + 1) _ (by rw [pcells_at hp 1 (by omega)]; rfl)) (fun x => x)
      have p2 := (HS.out).cell (r1.cell (k * 4 + 2) _ (by rw [pcells_at hp 2 (by omega)]; rfl)) (fun x => x)
      have p3 := (HS.out).cell (r1.cell (k * 4 + 3) _ (by rw [pcells_at hp 3 (by omega)]; rfl)) (fun x => x)
      have q0 := (HS.out).cell (r2.cell (k * 4 + 0) _ (by rw [pcells_at hp 0 (by omega)]; rfl)) (fun x => x)
      have q1 := (HS.out).cell (r2.cell (k * 4 + 1) _ (by rw [pcells_at hp 1 (by omega)]; rfl)) (fun x => x)
      have q2 := (HS.out).cell (r2.cell (k * 4 + 2) _ (by rw [pcells_at hp 2 (by omega)]; rfl)) (fun x => x)
      have q3 := (HS.out).cell (r2.cell (k * 4 + 3) _ (by rw [pcells_at hp 3 (by omega)]; rfl)) (fun x => x)
      simp only [← Nat.add_assoc, Nat.add_zero] at p0 p1 p2 p3 q0 q1 q2 q3
      clear r1 r2 hp
      go_wp2_with fail
      go_region
      all_goals go_wp2_with fail
      all_goals
        go_roundw
        case rel => exact ⟨k + 1, by omega, by go_num, HS.out.drew⟩
        case measure => simp [intOf]; omega
    · obtain rfl : k = ps.length := by omega
      go_wp2_with fail
      go_ret
      exact ⟨rfl, HS.out⟩

theorem clone_any {w : World} {v : Value} {n : Nat} {xs : List Value} (h : w.ownsRow 0 34 4 v n xs) (h1 : ∀ u ∈ xs, u.oneCell' = true) (hn : n ≤ 2000000) :
    Calls Try.prog 33 #[v] w fun e w' => ∃ v', e = .returned v' ∧ AppAt w w' v' n 34 4 xs := by
  obtain ⟨hl, ⟨rfl, rfl⟩ | ⟨g, cap, cur, rfl, hb, hg, hnc, hcm, hcs, ht⟩⟩ := id h
  · have : xs = [] := List.eq_nil_of_length_eq_zero (by simpa using hl)
    subst this
    have he : ∀ w : World, (binOp .eql 40 (.slice none 0 0) (.slice none 0 0)).run Try.prog w = .ok (.bool true) w := fun _ => rfl
    go_enter Try.func33, Try.ntmps33
    go_wp2_with fail
    go_ret
    exact ⟨_, rfl, h, (fun g hg => by cases hg), Same.refl _ _⟩
  · have H := Lib.hid (Rd.of_own (bad := noB) h (fun _ _ x => x))
    have H1 := Lib.hid h1
    clear h hl hb hg hnc hcm hcs ht h1
    have he : ∀ w : World, (binOp .eql 40 (.slice (some ⟨g, 0, none⟩) n cap) (.slice none 0 0)).run Try.prog w = .ok (.bool false) w := fun _ => rfl
    go_enter Try.func33, Try.ntmps33
    go_wp2_with (at_builtin; refine wpL_app slP rfl _ _ rfl rfl (AppAt.lit w 34 4).own rfl (H.out.same (S := noB) ((Same.refl _ _).alloc _) (fun _ _ x => x.elim) (fun _ _ x => x)) H1.out (by omega) (Nat.zero_le _) ?_; intro A1 c1 w1 hown1 hgrow1 hat1 _; have hA1 := AppAt.next (AppAt.lit w 34 4) hgrow1 hat1 hown1; simp only [Nat.zero_add, List.nil_append] at hA1 ⊢; have HA1 := Lib.hid hA1; clear hA1 hown1 hgrow1 hat1)
    go_ret
    exact ⟨_, rfl, HA1.out⟩

theorem pending_on {T : Nat → Prop} {w : World} {n k : Nat} {st : NetSt} (h : NetOn T w n st k) (hs : st.ps.length ≤ 1000000) :
    Calls Try.prog 22 #[.pointer (some ⟨n, 0, none⟩)] w fun e w' => ∃ v', e = .returned v' ∧ AppAt w w' v' st.ps.length 34 4 (pcells st.ps) := by
  obtain ⟨_, S, ⟨v, bm, hp⟩, _⟩ := h
  have H := Lib.hid (clone_any hp.own (pcells_one _) (by omega))
  have n0 : w.cell? ⟨n, 0, none⟩ = some v := hp.blk.cell 0
  clear hp hs
  go_enter Try.func22, Try.ntmps22
  go_wp2_with fail
  refine H.out.mono ?_
  rintro e w' ⟨v', rfl, ha⟩
  have HA := Lib.hid ha
  clear ha
  go_wp2_with fail
  go_ret
  exact ⟨_, rfl, HA.out⟩
end Go.Proofs.Ytgmoeejhgjfpgaa
