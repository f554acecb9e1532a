/- Layer 21: names. (printed by genValD.py) -/
import Derived.Test.YtpngmodgnkjhnaaValC
namespace Go.Proofs.Ytpngmodgnkjhnaa
open Go Go.RowKit Go.Maps
set_option maxRecDepth 100000

/-- Some bool, and the world. -/
def SomeB (w : World) (e : Ending) (w' : World) : Prop := ∃ q : Bool, e = .returned (.bool q) ∧ Same noB w w'
theorem someB_mk {w w' : World} {e : Ending} (q : Bool) (he : e = .returned (.bool q)) (h : Same noB w w') : SomeB w e w' := ⟨q, he, h⟩
def NaS (b o k : Nat) (x : ByteArray) (w' : World) : Prop := w'.cell? ⟨b, o + k, none⟩ = some (.string x)
/-- names' memory. -/
structure NaI (w W : World) (v : Value) (l : List ByteArray) : Prop where
  rd : Rd W noB 1 v l.length (scells l)
  since : Same noB w W
theorem NaI.keep {w W W' : World} {v : Value} {l : List ByteArray} (h : NaI w W v l) (hs : Same noB W W') : NaI w W' v l := ⟨h.rd.keep hs, h.since.trans' hs⟩
theorem take_pre {w : World} {b o c k : Nat} {l : List ByteArray} (h : Rd w noB 1 (.slice (some ⟨b, o, none⟩) l.length c) l.length (scells l)) (hk : k < l.length) : Rd w noB 1 (.slice (some ⟨b, o, none⟩) k c) (l.take k).length (scells (l.take k)) := by
  have h1 := h.pre (k := k) (by omega) (by omega)
  rw [Nat.mul_one] at h1
  have e1 : (l.take k).length = k := by rw [List.length_take]; omega
  have e2 : scells (l.take k) = (scells l).take k := by unfold scells; rw [List.map_take]
  rw [e1, e2]
  exact h1

set_option maxHeartbeats 16000000 in
theorem names_any {w : World} {p : MPl} {m : Mdl} (h : MdlIn w p m) (hs : m.Small) : Calls Try.prog 46 #[mdlVal p m] w (SomeB w) := by
  have HM0 := Lib.hid (MB.start h)
  have HS := Lib.hid hs
  clear h hs
  unfold mdlVal
  unfold mdlCells at HM0
  go_enter Try.func46, Try.ntmps46
  go_wp2_with fail
  refine calls_abs (fun W => Hid (MB w W p m w.heap.size)) HM0 ?_
  clear HM0
  intro W HM
  have hZ := names64_any HM.out.inn HS.out
  unfold mdlVal at hZ
  (with_reducible refine Calls.mono hZ ?_)
  clear hZ
  rintro e W1 ⟨v, l, rfl, hr, hl, hs⟩
  obtain ⟨A, c, rfl, hc1, hc2, hr1⟩ := hr.form
  have HN : Hid (NaI w W1 (.slice A l.length c) l) := ⟨hr1, HM.out.since.trans' hs⟩
  unfold maxLen at hc2
  clear hs hr hr1 HM HS
  go_wp2_with fail
  go_loopg [4] (l.length) (fun gk i wr => ∃ k : Nat, k ≤ l.length ∧ Hid (gk + k = l.length) ∧ i = .int .i64 k ∧ Hid (NaI w wr (.slice A l.length c) l))
  case atStart => exact ⟨0, Nat.zero_le _, rfl, rfl, HN.out⟩
  case round =>
    obtain ⟨k, hk, HK, rfl, HN1⟩ := hrel
    clear HN
    by_cases hlt : k < l.length
    · obtain ⟨b, o, rfl, r1⟩ := HN1.out.rd.at_ (by omega)
      obtain ⟨x, hx⟩ : ∃ x, l[k]? = some x := ⟨_, List.getElem?_eq_getElem hlt⟩
      have e0 := s_at r1 hx
      have hi0 : (0 : Int) ≤ (k : Int) := by omega
      have hi1 : (k : Int) < (l.length : Int) := by omega
      have hi2 : (k : Int) ≤ (c : Int) := by omega
      have HNd := Lib.hid (HN1.out.keep ((Same.refl noB wr).drew))
      obtain ⟨q, hq⟩ : ∃ q, isNameB x = q := ⟨_, rfl⟩
      have HB := Lib.hid hq
      clear r1 hx hq
      cases q
      · go_wp2_with fail
        refine wp_region_held_drew (S := NaS b o k x) (by kernel_rfl) ?_ (fun hHeld => ?_)
        · exact e0
        refine wpAnyH_take (i := 0) (v := ?va0) rfl (by kernel_rfl) (by kernel_rfl) (by kernel_rfl) (fun _ _ _ h => h) (Or.inl ⟨?_, ?_⟩) (by assumption) ?_
        rotate_left 1
        · rfl
        · (intro w hSw; unfold NaS at hSw; go_simp; (try with_reducible rfl))
        go_simp
        refine wpAnyH_take (i := 1) (v := ?va1) rfl (by kernel_rfl) (by kernel_rfl) (by kernel_rfl) (fun _ _ _ h => h) (Or.inl ⟨?_, ?_⟩) (by assumption) ?_
        rotate_left 1
        · rfl
        · (intro w hSw; unfold NaS at hSw; go_simp; (try with_reducible rfl))
        go_simp
        refine wpAnyH_take (i := 2) (v := ?va2) rfl (by kernel_rfl) (by kernel_rfl) (by kernel_rfl) (fun _ _ _ h => h) (Or.inl ⟨?_, ?_⟩) (by assumption) ?_
        rotate_left 1
        · rfl
        · (intro w hSw; unfold NaS at hSw; go_simp; (try with_reducible rfl))
        go_simp
        refine wpAnyH_take (i := 3) (v := ?va3) rfl (by kernel_rfl) (by kernel_rfl) (by kernel_rfl) (fun _ _ _ h => h) (Or.inl ⟨?_, ?_⟩) (by assumption) ?_
        rotate_left 1
        · rfl
        · (intro w hSw; unfold NaS at hSw; go_simp; (try with_reducible rfl))
        go_simp
        refine wpAnyH_ready (rs := [4]) (by kernel_rfl) (by simp) ?_
        refine AllReadyH.cons rfl (fun K hK => ?_) AllReadyH.nil
        go_simp
        (with_reducible refine Calls.mono (isname_any x _) ?_)
        rintro e W2 ⟨rfl, hs⟩
        rw [HB.out]
        have HN2 := Lib.hid (HNd.out.keep hs)
        have e0 := hs.cell e0 (fun x => x)
        clear hHeld
        go_wp2_with fail
        refine hK.out _ _ ?_ (fun hHeld => ?_)
        · exact e0
        clear hK K
        refine wpAnyH_take (i := 5) (v := ?va5) rfl (by kernel_rfl) (by kernel_rfl) (by kernel_rfl) (fun _ _ _ h => h) (Or.inl ⟨?_, ?_⟩) (by assumption) ?_
        rotate_left 1
        · rfl
        · (intro w hSw; unfold NaS at hSw; go_simp; (try with_reducible rfl))
        go_simp
        refine wpAnyH_take (i := 6) (v := ?va6) rfl (by kernel_rfl) (by kernel_rfl) (by kernel_rfl) (fun _ _ _ h => h) (Or.inl ⟨?_, ?_⟩) (by assumption) ?_
        rotate_left 1
        · rfl
        · (intro w hSw; unfold NaS at hSw; go_simp; (try with_reducible rfl))
        go_simp
        refine wpAnyH_take (i := 7) (v := undef) rfl (by kernel_rfl) (by kernel_rfl) (by kernel_rfl) (fun _ _ _ h => h) (Or.inr ⟨?_, rfl⟩) (by assumption) ?_
        · rfl
        go_simp
        refine wpAnyH_take (i := 8) (v := undef) rfl (by kernel_rfl) (by kernel_rfl) (by kernel_rfl) (fun _ _ _ h => h) (Or.inr ⟨?_, rfl⟩) (by assumption) ?_
        · rfl
        go_simp
        refine wpAnyH_take (i := 9) (v := undef) rfl (by kernel_rfl) (by kernel_rfl) (by kernel_rfl) (fun _ _ _ h => h) (Or.inr ⟨?_, rfl⟩) (by assumption) ?_
        · rfl
        go_simp
        refine wpAnyH_take (i := 10) (v := undef) rfl (by kernel_rfl) (by kernel_rfl) (by kernel_rfl) (fun _ _ _ h => h) (Or.inr ⟨?_, rfl⟩) (by assumption) ?_
        · rfl
        go_simp
        refine wpAnyH_take (i := 11) (v := undef) rfl (by kernel_rfl) (by kernel_rfl) (by kernel_rfl) (fun _ _ _ h => h) (Or.inr ⟨?_, rfl⟩) (by assumption) ?_
        · rfl
        go_simp
        refine wpAnyH_take (i := 12) (v := undef) rfl (by kernel_rfl) (by kernel_rfl) (by kernel_rfl) (fun _ _ _ h => h) (Or.inr ⟨?_, rfl⟩) (by assumption) ?_
        · rfl
        go_simp
        refine wpAnyH_take (i := 13) (v := undef) rfl (by kernel_rfl) (by kernel_rfl) (by kernel_rfl) (fun _ _ _ h => h) (Or.inr ⟨?_, rfl⟩) (by assumption) ?_
        · rfl
        go_simp
        refine wpAnyH_take (i := 14) (v := undef) rfl (by kernel_rfl) (by kernel_rfl) (by kernel_rfl) (fun _ _ _ h => h) (Or.inr ⟨?_, rfl⟩) (by assumption) ?_
        · rfl
        go_simp
        refine wpAnyH_take (i := 15) (v := ?va15) rfl (by kernel_rfl) (by kernel_rfl) (by kernel_rfl) (fun _ _ _ h => h) (Or.inl ⟨?_, ?_⟩) (by assumption) ?_
        rotate_left 1
        · rfl
        · (intro w hSw; unfold NaS at hSw; go_simp; (try with_reducible rfl))
        go_simp
        refine wpAnyH_done (by kernel_rfl) ?_ _
        go_wp2_with fail
        go_ret
        exact someB_mk false rfl HN2.out.since
      · have HP := Lib.hid (take_pre HNd.out.rd hlt)
        go_wp2_with fail
        go_region_held3 (fun w' => w'.cell? ⟨b, o + k, none⟩ = some (.string x))
          (first | with_reducible assumption | go_keep)
          (first
            | (go_at_call 65; (with_reducible refine Calls.mono (isname_any x _) ?_); rintro e W2 ⟨rfl, hs⟩; rw [HB.out]; have HN2 := Lib.hid (HNd.out.keep hs); have e0 := hs.cell e0 (fun x => x); have HP := Lib.hid (HP.out.keep hs); clear hs)
            | (go_at_call 66; (with_reducible refine Calls.mono (has_any HP.out x) ?_); rintro e W3 ⟨rfl, hs⟩; have HN3 := Lib.hid (HN2.out.keep hs); have e0 := hs.cell e0 (fun x => x); clear hs))
        generalize hasS (l.take k) x = b6
        cases b6
        · go_wp2_with fail
          go_roundg (gk - 1)
          case measure => have h1 := HK.out; omega
          case rel => exact ⟨k + 1, by omega, by show _ = _; have h1 := HK.out; omega, by go_num, HN3.out⟩
        · go_wp2_with fail
          go_ret
          exact someB_mk false rfl HN3.out.since
    · obtain rfl : k = l.length := by omega
      go_wp2_with fail
      go_ret
      exact someB_mk true rfl HN1.out.since
end Go.Proofs.Ytpngmodgnkjhnaa
