/- Layer 21: Machines of a list. (printed by genValE.py) -/
import Derived.Test.YtpngmodgnkjhnaaValD
import Derived.Test.YtpngmodgnkjhnaaSiteR
namespace Go.Proofs.Ytpngmodgnkjhnaa
open Go Go.RowKit Go.Maps
set_option maxRecDepth 100000

def MaS (M : Nat) (p : MPl) (b o : Nat) (x : Int) (w' : World) : Prop := w'.cell? ⟨M, 3, none⟩ = some (.slice p.mc.addr p.mc.len p.mc.cap) ∧ w'.cell? ⟨b, o, none⟩ = some (.int .i64 x)
/-- Machines' memory. -/
structure MaI (w W : World) (p : MPl) (m : Mdl) (M : Nat) (v : Value) (l : List Int) : Prop where
  mb : MB w W p m M
  rd : Rd W noB 1 v l.length (icells l)
theorem MaI.keep {w W W' : World} {p : MPl} {m : Mdl} {M : Nat} {v : Value} {l : List Int} (h : MaI w W p m M v l) (hs : Same noB W W') : MaI w W' p m M v l := ⟨h.mb.keep hs, h.rd.keep hs⟩

set_option maxHeartbeats 16000000 in
theorem machs67_any {w : World} {p : MPl} {m : Mdl} (h : MdlIn w p m) {v : Value} {l : List Int} (hr : Rd w noB 1 v l.length (icells l)) : Calls Try.prog 67 #[mdlVal p m, v] w (SomeB w) := by
  obtain ⟨A, c, rfl, hc1, hc2, hr1⟩ := hr.form
  have HM0 : Hid (MaI w (w.alloc (.cells (mdlCells p m) 29)) p m w.heap.size (.slice A l.length c) l) := ⟨MB.start h, hr1.keep ((Same.refl _ _).alloc _)⟩
  unfold maxLen at hc2
  clear h hr hr1
  unfold mdlVal
  unfold mdlCells at HM0
  go_enter Try.func67, Try.ntmps67
  go_wp2_with fail
  refine wp_abs (fun W => Hid (MaI w W p m w.heap.size (.slice A l.length c) l)) HM0 ?_
  clear HM0
  generalize w.heap.size = M at *
  intro W HM
  go_loopg [5] (l.length) (fun gk i wr => ∃ k : Nat, k ≤ l.length ∧ Hid (gk + k = l.length) ∧ i = .int .i64 k ∧ Hid (MaI w wr p m M (.slice A l.length c) l))
  case atStart => exact ⟨0, Nat.zero_le _, rfl, rfl, HM.out⟩
  case round =>
    obtain ⟨k, hk, HK, rfl, HN1⟩ := hrel
    clear HM
    by_cases hlt : k < l.length
    · obtain ⟨b, o, rfl, r1⟩ := HN1.out.rd.at_ (by omega)
      obtain ⟨x, hx⟩ : ∃ x, l[k]? = some x := ⟨_, List.getElem?_eq_getElem hlt⟩
      have e0 := r1.cell k _ (icells_at hx)
      have c3 := HN1.out.mb.c3
      have hi0 : (0 : Int) ≤ (k : Int) := by omega
      have hi1 : (k : Int) < (l.length : Int) := by omega
      have HNd := Lib.hid (HN1.out.keep ((Same.refl noB wr).drew))
      obtain ⟨q, hq⟩ : ∃ q, exB x p.mc.len = q := ⟨_, rfl⟩
      have HBE := Lib.hid hq
      clear hq
      cases q
      · clear r1 hx
        go_wp2_with fail
        refine wp_region_held_drew (S := MaS M p b (o + k) x) (by kernel_rfl) ?_ (fun hHeld => ?_)
        · exact ⟨c3, e0⟩
        refine wpAnyH_take (i := 0) (v := ?va0) rfl (by kernel_rfl) (by kernel_rfl) (by kernel_rfl) (fun _ _ _ h => h) (Or.inl ⟨?_, ?_⟩) (by assumption) ?_
        rotate_left 1
        · rfl
        · (intro w hSw; unfold MaS at hSw; go_simp; (try with_reducible rfl))
        go_simp
        refine wpAnyH_take (i := 1) (v := ?va1) rfl (by kernel_rfl) (by kernel_rfl) (by kernel_rfl) (fun _ _ _ h => h) (Or.inl ⟨?_, ?_⟩) (by assumption) ?_
        rotate_left 1
        · rfl
        · (intro w hSw; unfold MaS at hSw; go_simp; (try with_reducible rfl))
        go_simp
        refine wpAnyH_take (i := 2) (v := ?va2) rfl (by kernel_rfl) (by kernel_rfl) (by kernel_rfl) (fun _ _ _ h => h) (Or.inl ⟨?_, ?_⟩) (by assumption) ?_
        rotate_left 1
        · rfl
        · (intro w hSw; unfold MaS at hSw; go_simp; (try with_reducible rfl))
        go_simp
        refine wpAnyH_take (i := 3) (v := ?va3) rfl (by kernel_rfl) (by kernel_rfl) (by kernel_rfl) (fun _ _ _ h => h) (Or.inl ⟨?_, ?_⟩) (by assumption) ?_
        rotate_left 1
        · rfl
        · (intro w hSw; unfold MaS at hSw; go_simp; (try with_reducible rfl))
        go_simp
        refine wpAnyH_take (i := 4) (v := ?va4) rfl (by kernel_rfl) (by kernel_rfl) (by kernel_rfl) (fun _ _ _ h => h) (Or.inl ⟨?_, ?_⟩) (by assumption) ?_
        rotate_left 1
        · rfl
        · (intro w hSw; unfold MaS at hSw; go_simp; (try with_reducible rfl))
        go_simp
        refine wpAnyH_take (i := 5) (v := ?va5) rfl (by kernel_rfl) (by kernel_rfl) (by kernel_rfl) (fun _ _ _ h => h) (Or.inl ⟨?_, ?_⟩) (by assumption) ?_
        rotate_left 1
        · rfl
        · (intro w hSw; unfold MaS at hSw; go_simp; (try with_reducible rfl))
        go_simp
        refine wpAnyH_take (i := 6) (v := ?va6) rfl (by kernel_rfl) (by kernel_rfl) (by kernel_rfl) (fun _ _ _ h => h) (Or.inl ⟨?_, ?_⟩) (by assumption) ?_
        rotate_left 1
        · rfl
        · (intro w hSw; unfold MaS at hSw; go_simp; (try with_reducible rfl))
        go_simp
        refine wpAnyH_ready (rs := [7]) (by kernel_rfl) (by simp) ?_
        refine AllReadyH.cons rfl (fun K hK => ?_) AllReadyH.nil
        go_simp
        refine (rexists_any x p.mc.len _).mono ?_
        rintro e W2 ⟨rfl, rfl⟩
        rw [HBE.out]
        clear hHeld
        go_wp2_with fail
        refine hK.out _ _ ?_ (fun hHeld => ?_)
        · exact ⟨c3, e0⟩
        clear hK K
        refine wpAnyH_take (i := 8) (v := ?va8) rfl (by kernel_rfl) (by kernel_rfl) (by kernel_rfl) (fun _ _ _ h => h) (Or.inl ⟨?_, ?_⟩) (by assumption) ?_
        rotate_left 1
        · rfl
        · (intro w hSw; unfold MaS at hSw; go_simp; (try with_reducible rfl))
        go_simp
        refine wpAnyH_take (i := 9) (v := ?va9) rfl (by kernel_rfl) (by kernel_rfl) (by kernel_rfl) (fun _ _ _ h => h) (Or.inl ⟨?_, ?_⟩) (by assumption) ?_
        rotate_left 1
        · rfl
        · (intro w hSw; unfold MaS at hSw; go_simp; (try with_reducible rfl))
        go_simp
        refine wpAnyH_take (i := 10) (v := undef) rfl (by kernel_rfl) (by kernel_rfl) (by kernel_rfl) (fun _ _ _ h => h) (Or.inr ⟨?_, rfl⟩) (by assumption) ?_
        · rfl
        go_simp
        refine wpAnyH_take (i := 11) (v := undef) rfl (by kernel_rfl) (by kernel_rfl) (by kernel_rfl) (fun _ _ _ h => h) (Or.inr ⟨?_, rfl⟩) (by assumption) ?_
        · rfl
        go_simp
        refine wpAnyH_take (i := 12) (v := undef) rfl (by kernel_rfl) (by kernel_rfl) (by kernel_rfl) (fun _ _ _ h => h) (Or.inr ⟨?_, rfl⟩) (by assumption) ?_
        · rfl
        go_simp
        refine wpAnyH_take (i := 13) (v := undef) rfl (by kernel_rfl) (by kernel_rfl) (by kernel_rfl) (fun _ _ _ h => h) (Or.inr ⟨?_, rfl⟩) (by assumption) ?_
        · rfl
        go_simp
        refine wpAnyH_take (i := 14) (v := undef) rfl (by kernel_rfl) (by kernel_rfl) (by kernel_rfl) (fun _ _ _ h => h) (Or.inr ⟨?_, rfl⟩) (by assumption) ?_
        · rfl
        go_simp
        refine wpAnyH_take (i := 15) (v := undef) rfl (by kernel_rfl) (by kernel_rfl) (by kernel_rfl) (fun _ _ _ h => h) (Or.inr ⟨?_, rfl⟩) (by assumption) ?_
        · rfl
        go_simp
        refine wpAnyH_take (i := 16) (v := undef) rfl (by kernel_rfl) (by kernel_rfl) (by kernel_rfl) (fun _ _ _ h => h) (Or.inr ⟨?_, rfl⟩) (by assumption) ?_
        · rfl
        go_simp
        refine wpAnyH_take (i := 17) (v := undef) rfl (by kernel_rfl) (by kernel_rfl) (by kernel_rfl) (fun _ _ _ h => h) (Or.inr ⟨?_, rfl⟩) (by assumption) ?_
        · rfl
        go_simp
        refine wpAnyH_take (i := 18) (v := undef) rfl (by kernel_rfl) (by kernel_rfl) (by kernel_rfl) (fun _ _ _ h => h) (Or.inr ⟨?_, rfl⟩) (by assumption) ?_
        · rfl
        go_simp
        refine wpAnyH_take (i := 19) (v := undef) rfl (by kernel_rfl) (by kernel_rfl) (by kernel_rfl) (fun _ _ _ h => h) (Or.inr ⟨?_, rfl⟩) (by assumption) ?_
        · rfl
        go_simp
        refine wpAnyH_take (i := 20) (v := undef) rfl (by kernel_rfl) (by kernel_rfl) (by kernel_rfl) (fun _ _ _ h => h) (Or.inr ⟨?_, rfl⟩) (by assumption) ?_
        · rfl
        go_simp
        refine wpAnyH_take (i := 21) (v := undef) rfl (by kernel_rfl) (by kernel_rfl) (by kernel_rfl) (fun _ _ _ h => h) (Or.inr ⟨?_, rfl⟩) (by assumption) ?_
        · rfl
        go_simp
        refine wpAnyH_take (i := 22) (v := undef) rfl (by kernel_rfl) (by kernel_rfl) (by kernel_rfl) (fun _ _ _ h => h) (Or.inr ⟨?_, rfl⟩) (by assumption) ?_
        · rfl
        go_simp
        refine wpAnyH_take (i := 23) (v := undef) rfl (by kernel_rfl) (by kernel_rfl) (by kernel_rfl) (fun _ _ _ h => h) (Or.inr ⟨?_, rfl⟩) (by assumption) ?_
        · rfl
        go_simp
        refine wpAnyH_take (i := 24) (v := ?va24) rfl (by kernel_rfl) (by kernel_rfl) (by kernel_rfl) (fun _ _ _ h => h) (Or.inl ⟨?_, ?_⟩) (by assumption) ?_
        rotate_left 1
        · rfl
        · (intro w hSw; unfold MaS at hSw; go_simp; (try with_reducible rfl))
        go_simp
        refine wpAnyH_done (by kernel_rfl) ?_ _
        go_wp2_with fail
        go_ret
        exact someB_mk false rfl HNd.out.mb.since
      · by_cases hk0 : k = 0
        · subst hk0
          clear r1 hx
          simp only [Nat.add_zero] at e0
          go_wp2_with fail
          refine wp_region_held_drew (S := MaS M p b o x) (by kernel_rfl) ?_ (fun hHeld => ?_)
          · exact ⟨c3, e0⟩
          refine wpAnyH_take (i := 0) (v := ?vb0) rfl (by kernel_rfl) (by kernel_rfl) (by kernel_rfl) (fun _ _ _ h => h) (Or.inl ⟨?_, ?_⟩) (by assumption) ?_
          rotate_left 1
          · rfl
          · (intro w hSw; unfold MaS at hSw; go_simp; (try with_reducible rfl))
          go_simp
          refine wpAnyH_take (i := 1) (v := ?vb1) rfl (by kernel_rfl) (by kernel_rfl) (by kernel_rfl) (fun _ _ _ h => h) (Or.inl ⟨?_, ?_⟩) (by assumption) ?_
          rotate_left 1
          · rfl
          · (intro w hSw; unfold MaS at hSw; go_simp; (try with_reducible rfl))
          go_simp
          refine wpAnyH_take (i := 2) (v := ?vb2) rfl (by kernel_rfl) (by kernel_rfl) (by kernel_rfl) (fun _ _ _ h => h) (Or.inl ⟨?_, ?_⟩) (by assumption) ?_
          rotate_left 1
          · rfl
          · (intro w hSw; unfold MaS at hSw; go_simp; (try with_reducible rfl))
          go_simp
          refine wpAnyH_take (i := 3) (v := ?vb3) rfl (by kernel_rfl) (by kernel_rfl) (by kernel_rfl) (fun _ _ _ h => h) (Or.inl ⟨?_, ?_⟩) (by assumption) ?_
          rotate_left 1
          · rfl
          · (intro w hSw; unfold MaS at hSw; go_simp; (try with_reducible rfl))
          go_simp
          refine wpAnyH_take (i := 4) (v := ?vb4) rfl (by kernel_rfl) (by kernel_rfl) (by kernel_rfl) (fun _ _ _ h => h) (Or.inl ⟨?_, ?_⟩) (by assumption) ?_
          rotate_left 1
          · rfl
          · (intro w hSw; unfold MaS at hSw; go_simp; (try with_reducible rfl))
          go_simp
          refine wpAnyH_take (i := 5) (v := ?vb5) rfl (by kernel_rfl) (by kernel_rfl) (by kernel_rfl) (fun _ _ _ h => h) (Or.inl ⟨?_, ?_⟩) (by assumption) ?_
          rotate_left 1
          · rfl
          · (intro w hSw; unfold MaS at hSw; go_simp; (try with_reducible rfl))
          go_simp
          refine wpAnyH_take (i := 6) (v := ?vb6) rfl (by kernel_rfl) (by kernel_rfl) (by kernel_rfl) (fun _ _ _ h => h) (Or.inl ⟨?_, ?_⟩) (by assumption) ?_
          rotate_left 1
          · rfl
          · (intro w hSw; unfold MaS at hSw; go_simp; (try with_reducible rfl))
          go_simp
          refine wpAnyH_ready (rs := [7]) (by kernel_rfl) (by simp) ?_
          refine AllReadyH.cons rfl (fun K hK => ?_) AllReadyH.nil
          go_simp
          refine (rexists_any x p.mc.len _).mono ?_
          rintro e W2 ⟨rfl, rfl⟩
          rw [HBE.out]
          clear hHeld
          go_wp2_with fail
          refine hK.out _ _ ?_ (fun hHeld => ?_)
          · exact ⟨c3, e0⟩
          clear hK K
          refine wpAnyH_take (i := 8) (v := ?vb8) rfl (by kernel_rfl) (by kernel_rfl) (by kernel_rfl) (fun _ _ _ h => h) (Or.inl ⟨?_, ?_⟩) (by assumption) ?_
          rotate_left 1
          · rfl
          · (intro w hSw; unfold MaS at hSw; go_simp; (try with_reducible rfl))
          go_simp
          refine wpAnyH_take (i := 9) (v := ?vb9) rfl (by kernel_rfl) (by kernel_rfl) (by kernel_rfl) (fun _ _ _ h => h) (Or.inl ⟨?_, ?_⟩) (by assumption) ?_
          rotate_left 1
          · rfl
          · (intro w hSw; unfold MaS at hSw; go_simp; (try with_reducible rfl))
          go_simp
          refine wpAnyH_take (i := 10) (v := ?vb10) rfl (by kernel_rfl) (by kernel_rfl) (by kernel_rfl) (fun _ _ _ h => h) (Or.inl ⟨?_, ?_⟩) (by assumption) ?_
          rotate_left 1
          · rfl
          · (intro w hSw; unfold MaS at hSw; go_simp; (try with_reducible rfl))
          go_simp
          refine wpAnyH_take (i := 11) (v := ?vb11) rfl (by kernel_rfl) (by kernel_rfl) (by kernel_rfl) (fun _ _ _ h => h) (Or.inl ⟨?_, ?_⟩) (by assumption) ?_
          rotate_left 1
          · rfl
          · (intro w hSw; unfold MaS at hSw; go_simp; (try with_reducible rfl))
          go_simp
          refine wpAnyH_take (i := 12) (v := ?vb12) rfl (by kernel_rfl) (by kernel_rfl) (by kernel_rfl) (fun _ _ _ h => h) (Or.inl ⟨?_, ?_⟩) (by assumption) ?_
          rotate_left 1
          · rfl
          · (intro w hSw; unfold MaS at hSw; go_simp; (try with_reducible rfl))
          go_simp
          refine wpAnyH_take (i := 13) (v := undef) rfl (by kernel_rfl) (by kernel_rfl) (by kernel_rfl) (fun _ _ _ h => h) (Or.inr ⟨?_, rfl⟩) (by assumption) ?_
          · rfl
          go_simp
          refine wpAnyH_take (i := 14) (v := undef) rfl (by kernel_rfl) (by kernel_rfl) (by kernel_rfl) (fun _ _ _ h => h) (Or.inr ⟨?_, rfl⟩) (by assumption) ?_
          · rfl
          go_simp
          refine wpAnyH_take (i := 15) (v := undef) rfl (by kernel_rfl) (by kernel_rfl) (by kernel_rfl) (fun _ _ _ h => h) (Or.inr ⟨?_, rfl⟩) (by assumption) ?_
          · rfl
          go_simp
          refine wpAnyH_take (i := 16) (v := undef) rfl (by kernel_rfl) (by kernel_rfl) (by kernel_rfl) (fun _ _ _ h => h) (Or.inr ⟨?_, rfl⟩) (by assumption) ?_
          · rfl
          go_simp
          refine wpAnyH_take (i := 17) (v := undef) rfl (by kernel_rfl) (by kernel_rfl) (by kernel_rfl) (fun _ _ _ h => h) (Or.inr ⟨?_, rfl⟩) (by assumption) ?_
          · rfl
          go_simp
          refine wpAnyH_take (i := 18) (v := undef) rfl (by kernel_rfl) (by kernel_rfl) (by kernel_rfl) (fun _ _ _ h => h) (Or.inr ⟨?_, rfl⟩) (by assumption) ?_
          · rfl
          go_simp
          refine wpAnyH_take (i := 19) (v := undef) rfl (by kernel_rfl) (by kernel_rfl) (by kernel_rfl) (fun _ _ _ h => h) (Or.inr ⟨?_, rfl⟩) (by assumption) ?_
          · rfl
          go_simp
          refine wpAnyH_take (i := 20) (v := undef) rfl (by kernel_rfl) (by kernel_rfl) (by kernel_rfl) (fun _ _ _ h => h) (Or.inr ⟨?_, rfl⟩) (by assumption) ?_
          · rfl
          go_simp
          refine wpAnyH_take (i := 21) (v := undef) rfl (by kernel_rfl) (by kernel_rfl) (by kernel_rfl) (fun _ _ _ h => h) (Or.inr ⟨?_, rfl⟩) (by assumption) ?_
          · rfl
          go_simp
          refine wpAnyH_take (i := 22) (v := undef) rfl (by kernel_rfl) (by kernel_rfl) (by kernel_rfl) (fun _ _ _ h => h) (Or.inr ⟨?_, rfl⟩) (by assumption) ?_
          · rfl
          go_simp
          refine wpAnyH_take (i := 23) (v := ?vb23) rfl (by kernel_rfl) (by kernel_rfl) (by kernel_rfl) (fun _ _ _ h => h) (Or.inl ⟨?_, ?_⟩) (by assumption) ?_
          rotate_left 1
          · rfl
          · (intro w hSw; unfold MaS at hSw; go_simp; (try with_reducible rfl))
          go_simp
          refine wpAnyH_take (i := 24) (v := ?vb24) rfl (by kernel_rfl) (by kernel_rfl) (by kernel_rfl) (fun _ _ _ h => h) (Or.inl ⟨?_, ?_⟩) (by assumption) ?_
          rotate_left 1
          · rfl
          · (intro w hSw; unfold MaS at hSw; go_simp; (try with_reducible rfl))
          go_simp
          refine wpAnyH_done (by kernel_rfl) ?_ _
          go_wp2_with fail
          go_roundg (gk - 1)
          case measure => have h1 := HK.out; omega
          case rel => exact ⟨0 + 1, by omega, by show _ = _; have h1 := HK.out; omega, by go_num, HNd.out⟩
        · obtain ⟨j, rfl⟩ : ∃ j, k = j + 1 := ⟨k - 1, by omega⟩
          obtain ⟨y, hy⟩ : ∃ y, l[j]? = some y := ⟨_, List.getElem?_eq_getElem (by omega)⟩
          have e1 := r1.cell j _ (icells_at hy)
          clear r1 hx hy
          have hk3 : (0 : Int) < (j : Int) + 1 := by omega
          have hj2 : ((j : Int) + 1 - 1) = (j : Int) := by omega
          have hj0 : (0 : Int) ≤ (j : Int) := by omega
          have hi0' : (0 : Int) ≤ (j : Int) + 1 := by omega
          have hi1' : (j : Int) + 1 < (l.length : Int) := by omega
          have hi2' : ((j : Int) + 1).toNat = j + 1 := by omega
          have hi3' : IntKind.i64.wrap (j : Int) = (j : Int) := IntWalk.i64_in _ (by omega)
          clear hi0 hi1 hj2
          have hj1 : (j : Int) < (l.length : Int) := by omega
          have hb3 : decide ((0 : Int) < (j : Int) + 1) = true := decide_eq_true hk3
          go_wp2_with fail
          go_region_held3 (fun w' => w'.cell? ⟨M, 3, none⟩ = some (.slice p.mc.addr p.mc.len p.mc.cap) ∧ w'.cell? ⟨b, o + (j + 1), none⟩ = some (.int .i64 x) ∧ w'.cell? ⟨b, o + j, none⟩ = some (.int .i64 y))
            (first | (refine ⟨?_, ?_, ?_⟩ <;> with_reducible assumption) | go_keep)
            ((go_at_call 29; refine (rexists_any x p.mc.len _).mono ?_; rintro e W2 ⟨rfl, rfl⟩; rw [HBE.out]))
          all_goals go_wp2_with fail
          · go_ret
            exact someB_mk false rfl HNd.out.mb.since
          · go_roundg (gk - 1)
            case measure => have h1 := HK.out; omega
            case rel => exact ⟨j + 1 + 1, by omega, by show _ = _; have h1 := HK.out; omega, by go_num, HNd.out⟩
    · obtain rfl : k = l.length := by omega
      go_wp2_with fail
      go_ret
      exact someB_mk _ rfl HN1.out.mb.since
end Go.Proofs.Ytpngmodgnkjhnaa
