/- Layer 21: the reference's Valid of a placement. (printed by genValH.py) -/
import Derived.Test.YtpngmodgnkjhnaaValG
import Derived.Test.YtpngmodgnkjhnaaFailG
import Derived.Deep.CutRange
namespace Go.Proofs.Ytpngmodgnkjhnaa
open Go Go.RowKit Go.Maps
set_option maxRecDepth 100000

def VaS (M U : Nat) (p : MPl) (um : Int) (w' : World) : Prop := w'.cell? ⟨M, 3, none⟩ = some (.slice p.mc.addr p.mc.len p.mc.cap) ∧ w'.cell? ⟨U, 0, none⟩ = some (.int .i64 um)

theorem va_row {w : World} {s : Sl} {P : List (List Un)} (h : PlIn w s P) {i : Nat} (hi : i < s.len) : ∃ (b o : Nat) (sl : Sl), s.addr = some ⟨b, o, none⟩ ∧ w.cell? ⟨b, o + i, none⟩ = some (.slice sl.addr sl.len sl.cap) ∧ sl.len = (unitsOf P ((i : Int) + 1)).length ∧ Rd w noB 2 (.slice sl.addr sl.len sl.cap) sl.len (uncells (unitsOf P ((i : Int) + 1))) := by
  obtain ⟨k0, b, o, sl, hk0, hk1, hsa, hrc, hsll, hsr⟩ := h.at_ (item := (i : Int) + 1) (by omega) (by omega)
  obtain rfl : k0 = i := by omega
  exact ⟨b, o, sl, hsa, hrc, hsll, hsr⟩
theorem va_un {w : World} {sl : Sl} {us : List Un} (h : Rd w noB 2 (.slice sl.addr sl.len sl.cap) sl.len (uncells us)) (hl : sl.len = us.length) {k : Nat} {u : Un} (hu : us[k]? = some u) : ∃ b o, sl.addr = some ⟨b, o, none⟩ ∧ w.cell? ⟨b, o + k * 2, none⟩ = some (.int .i64 u.mach) ∧ w.cell? ⟨b, o + k * 2 + 1, none⟩ = some (.int .i64 u.state) := by
  obtain ⟨b, o, e, r⟩ := h.at_ (by have := (List.getElem?_eq_some_iff.1 hu).1; omega)
  exact ⟨b, o, e, un_at r hu⟩

set_option maxHeartbeats 32000000 in
theorem valid21_any {w : World} {p : MPl} {m : Mdl} {s : Sl} {P : List (List Un)} (h : MdlIn w p m) (hs : m.Small) (hf : Ful w m) (hp : PlIn w s P) (hus : ∀ item, (unitsOf P item).length ≤ 1000000) : Calls Try.prog 21 #[mdlVal p m, plVal s] w (SomeB w) := by
  have HM0 := Lib.hid (MQ.start h hp)
  have HS := Lib.hid hs
  have HF := Lib.hid hf
  have HU := Lib.hid hus
  clear h hs hf hp hus
  unfold mdlVal plVal
  unfold mdlCells at HM0
  go_enter Try.func21, Try.ntmps21
  go_wp2_with fail
  refine calls_abs (fun W => Hid (MQ w W p m s P w.heap.size (w.heap.size + 1))) HM0 ?_
  clear HM0
  generalize w.heap.size + 1 = Q at *
  generalize w.heap.size = M at *
  intro W HM
  have hZ := valid31_any HM.out.mb.inn HS.out (HF.out.keep HM.out.mb.since)
  unfold mdlVal at hZ
  (with_reducible refine Calls.mono hZ ?_)
  clear hZ
  rintro e W2 ⟨q, rfl, _, hs⟩
  have HM := Lib.hid (HM.out.keep hs)
  clear hs
  obtain ⟨c0, c1, c2, c3, c4, c5, c6, c7, c8, c9, c10⟩ := HM.out.mb.all; have cq := HM.out.pb.c
  cases q
  · go_wp2_with fail
    go_ret
    exact someB_mk false rfl HM.out.mb.since
  have hli : p.i.len ≤ 24 := by obtain ⟨q1, q2, q3, q4, q5, q6, q7⟩ := HS.out; have := HM.out.mb.inn.li; omega
  by_cases hn : s.len = p.i.len
  · have HLI : Hid (s.len = p.i.len ∧ p.i.len = m.items.length) := ⟨hn, HM.out.mb.inn.li⟩
    have hsl : s.len ≤ 24 := by omega
    have hcs : s.len ≤ s.cap ∧ s.cap ≤ 9223372036854775807 := by obtain ⟨rs, _, hr, _⟩ := HM.out.pb.inn.rows; exact hr.caps
    have hb1 : ((s.len : Int) != (p.i.len : Int)) = false := by rw [hn]; simp
    clear hn
    go_wp2_with fail
    go_loopg [5] (s.len) (fun gk i wr => ∃ k : Nat, k ≤ s.len ∧ Hid (gk + k = s.len) ∧ i = .int .i64 k ∧ Hid (MQ w wr p m s P M Q))
    case atStart => exact ⟨0, Nat.zero_le _, rfl, rfl, HM.out⟩
    case round =>
      obtain ⟨i, hi, HI, rfl, HM1⟩ := hrel
      clear HM c0 c1 c2 c3 c4 c5 c6 c7 c8 c9 c10 cq
      have HM := HM1
      clear HM1
      obtain ⟨c0, c1, c2, c3, c4, c5, c6, c7, c8, c9, c10⟩ := HM.out.mb.all; have cq := HM.out.pb.c
      by_cases hlt : i < s.len
      · obtain ⟨ok, rfl⟩ : ∃ ok : Nat, ok = gk := ⟨_, rfl⟩
        have hul := HU.out ((i : Int) + 1)
        obtain ⟨us, hus⟩ : ∃ us, unitsOf P ((i : Int) + 1) = us := ⟨_, rfl⟩
        have HUS := Lib.hid hus
        rw [hus] at hul
        clear hus
        have hi0 : (0 : Int) ≤ (i : Int) := by omega
        have hi1 : (i : Int) < (s.len : Int) := by omega
        have hd1 : decide ((i : Int) < (s.len : Int)) = true := decide_eq_true hi1
        go_wp2_with fail
        go_loopg [6] (us.length) (fun gj j wr => ∃ k : Nat, k ≤ us.length ∧ Hid (gj + k = us.length) ∧ j = .int .i64 k ∧ Hid (MQ w wr p m s P M Q))
        case atStart => exact ⟨0, Nat.zero_le _, rfl, rfl, HM.out⟩
        case round =>
          obtain ⟨k, hk, HK, rfl, HM1⟩ := hrel
          clear HM c0 c1 c2 c3 c4 c5 c6 c7 c8 c9 c10 cq
          have HM := HM1
          clear HM1
          obtain ⟨c0, c1, c2, c3, c4, c5, c6, c7, c8, c9, c10⟩ := HM.out.mb.all; have cq := HM.out.pb.c
          obtain ⟨b, o, sl, hsa, hrc, hsl, hrd⟩ := va_row HM.out.pb.inn hlt
          have HSA := Lib.hid hsa
          rw [HUS.out] at hsl hrd
          rw [hsa] at cq
          clear hsa
          by_cases hlk : k < us.length
          · obtain ⟨u, hu⟩ : ∃ u, us[k]? = some u := ⟨_, List.getElem?_eq_getElem hlk⟩
            obtain ⟨b2, o2, hsb, u0, u1⟩ := va_un hrd hsl hu
            have HUX := Lib.hid hu
            have hsc := hrd.caps
            obtain ⟨sla, sln, slc⟩ := sl
            simp only at hsb hsl hrc hsc
            subst hsb hsl
            obtain ⟨um, ust⟩ := u
            simp only at u0 u1
            have hk0 : (0 : Int) ≤ (k : Int) := by omega
            have hk1 : (k : Int) < (us.length : Int) := by omega
            clear hrd hu
            go_upto_region 10 with (fail)
            have HM6 : Hid (MQ w (wr.alloc (.cells #[.int .i64 um, .int .i64 ust] 77)) p m s P M Q ∧ Blk (wr.alloc (.cells #[.int .i64 um, .int .i64 ust] 77)) wr.heap.size 77 #[.int .i64 um, .int .i64 ust]) := ⟨HM.out.keep ((Same.refl _ _).alloc _), Blk.new _ _ _⟩
            refine wp_abs (fun W => Hid (MQ w W p m s P M Q ∧ Blk W wr.heap.size 77 #[.int .i64 um, .int .i64 ust])) HM6 ?_
            clear HM6 HM c0 c1 c2 c3 c4 c5 c6 c7 c8 c9 c10 cq hrc u0 u1
            generalize wr.heap.size = U at *
            intro W6 HM6
            have HM : Hid (MQ w W6 p m s P M Q) := HM6.out.1
            obtain ⟨c0, c1, c2, c3, c4, c5, c6, c7, c8, c9, c10⟩ := HM.out.mb.all; have cq := HM.out.pb.c
            have d0 := HM6.out.2.cell 0
            have d1 := HM6.out.2.cell 1
            simp only [List.getElem?_toArray, List.getElem?_cons_zero, List.getElem?_cons_succ] at d0 d1
            rw [HSA.out] at cq
            have HMd := Lib.hid (HM.out.keep ((Same.refl noB W6).drew))
            obtain ⟨q, hq⟩ : ∃ q, exB um p.mc.len = q := ⟨_, rfl⟩
            have HBE := Lib.hid hq
            clear hq
            cases q
            · go_wp2_with fail
              refine wp_region_held_drew (S := VaS M U p um) (by kernel_rfl) ?_ (fun hHeld => ?_)
              · exact ⟨c3, d0⟩
              refine wpAnyH_take (i := 0) (v := ?va0) rfl (by kernel_rfl) (by kernel_rfl) (by kernel_rfl) (fun _ _ _ h => h) (Or.inl ⟨?_, ?_⟩) (by assumption) ?_
              rotate_left 1
              · rfl
              · (intro w hSw; unfold VaS at hSw; go_simp; (try with_reducible rfl))
              go_simp
              refine wpAnyH_take (i := 1) (v := ?va1) rfl (by kernel_rfl) (by kernel_rfl) (by kernel_rfl) (fun _ _ _ h => h) (Or.inl ⟨?_, ?_⟩) (by assumption) ?_
              rotate_left 1
              · rfl
              · (intro w hSw; unfold VaS at hSw; go_simp; (try with_reducible rfl))
              go_simp
              refine wpAnyH_take (i := 2) (v := ?va2) rfl (by kernel_rfl) (by kernel_rfl) (by kernel_rfl) (fun _ _ _ h => h) (Or.inl ⟨?_, ?_⟩) (by assumption) ?_
              rotate_left 1
              · rfl
              · (intro w hSw; unfold VaS at hSw; go_simp; (try with_reducible rfl))
              go_simp
              refine wpAnyH_take (i := 3) (v := ?va3) rfl (by kernel_rfl) (by kernel_rfl) (by kernel_rfl) (fun _ _ _ h => h) (Or.inl ⟨?_, ?_⟩) (by assumption) ?_
              rotate_left 1
              · rfl
              · (intro w hSw; unfold VaS at hSw; go_simp; (try with_reducible rfl))
              go_simp
              refine wpAnyH_take (i := 4) (v := ?va4) rfl (by kernel_rfl) (by kernel_rfl) (by kernel_rfl) (fun _ _ _ h => h) (Or.inl ⟨?_, ?_⟩) (by assumption) ?_
              rotate_left 1
              · rfl
              · (intro w hSw; unfold VaS at hSw; go_simp; (try with_reducible rfl))
              go_simp
              refine wpAnyH_ready (rs := [5]) (by kernel_rfl) (by simp) ?_
              refine AllReadyH.cons rfl (fun K hK => ?_) AllReadyH.nil
              go_simp
              refine (rexists_any um p.mc.len _).mono ?_
              rintro e W2 ⟨rfl, rfl⟩
              rw [HBE.out]
              clear hHeld
              go_wp2_with fail
              refine hK.out _ _ ?_ (fun hHeld => ?_)
              · exact ⟨c3, d0⟩
              clear hK K
              refine wpAnyH_take (i := 6) (v := ?va6) rfl (by kernel_rfl) (by kernel_rfl) (by kernel_rfl) (fun _ _ _ h => h) (Or.inl ⟨?_, ?_⟩) (by assumption) ?_
              rotate_left 1
              · rfl
              · (intro w hSw; unfold VaS at hSw; go_simp; (try with_reducible rfl))
              go_simp
              refine wpAnyH_take (i := 7) (v := ?va7) rfl (by kernel_rfl) (by kernel_rfl) (by kernel_rfl) (fun _ _ _ h => h) (Or.inl ⟨?_, ?_⟩) (by assumption) ?_
              rotate_left 1
              · rfl
              · (intro w hSw; unfold VaS at hSw; go_simp; (try with_reducible rfl))
              go_simp
              refine wpAnyH_take (i := 8) (v := undef) rfl (by kernel_rfl) (by kernel_rfl) (by kernel_rfl) (fun _ _ _ h => h) (Or.inr ⟨?_, rfl⟩) (by assumption) ?_
              · rfl
              go_simp
              refine wpAnyH_take (i := 9) (v := undef) rfl (by kernel_rfl) (by kernel_rfl) (by kernel_rfl) (fun _ _ _ h => h) (Or.inr ⟨?_, rfl⟩) (by assumption) ?_
              · rfl
              go_simp
              refine wpAnyH_take (i := 10) (v := undef) rfl (by kernel_rfl) (by kernel_rfl) (by kernel_rfl) (fun _ _ _ h => h) (Or.inr ⟨?_, rfl⟩) (by assumption) ?_
              · rfl
              go_simp
              refine wpAnyH_take (i := 11) (v := undef) rfl (by kernel_rfl) (by kernel_rfl) (by kernel_rfl) (fun _ _ _ h => h) (Or.inr ⟨?_, rfl⟩) (by assumption) ?_
              · rfl
              go_simp
              refine wpAnyH_take (i := 12) (v := undef) rfl (by kernel_rfl) (by kernel_rfl) (by kernel_rfl) (fun _ _ _ h => h) (Or.inr ⟨?_, rfl⟩) (by assumption) ?_
              · rfl
              go_simp
              refine wpAnyH_take (i := 13) (v := undef) rfl (by kernel_rfl) (by kernel_rfl) (by kernel_rfl) (fun _ _ _ h => h) (Or.inr ⟨?_, rfl⟩) (by assumption) ?_
              · rfl
              go_simp
              refine wpAnyH_take (i := 14) (v := undef) rfl (by kernel_rfl) (by kernel_rfl) (by kernel_rfl) (fun _ _ _ h => h) (Or.inr ⟨?_, rfl⟩) (by assumption) ?_
              · rfl
              go_simp
              refine wpAnyH_take (i := 15) (v := undef) rfl (by kernel_rfl) (by kernel_rfl) (by kernel_rfl) (fun _ _ _ h => h) (Or.inr ⟨?_, rfl⟩) (by assumption) ?_
              · rfl
              go_simp
              refine wpAnyH_take (i := 16) (v := undef) rfl (by kernel_rfl) (by kernel_rfl) (by kernel_rfl) (fun _ _ _ h => h) (Or.inr ⟨?_, rfl⟩) (by assumption) ?_
              · rfl
              go_simp
              refine wpAnyH_take (i := 17) (v := undef) rfl (by kernel_rfl) (by kernel_rfl) (by kernel_rfl) (fun _ _ _ h => h) (Or.inr ⟨?_, rfl⟩) (by assumption) ?_
              · rfl
              go_simp
              refine wpAnyH_take (i := 18) (v := undef) rfl (by kernel_rfl) (by kernel_rfl) (by kernel_rfl) (fun _ _ _ h => h) (Or.inr ⟨?_, rfl⟩) (by assumption) ?_
              · rfl
              go_simp
              refine wpAnyH_take (i := 19) (v := undef) rfl (by kernel_rfl) (by kernel_rfl) (by kernel_rfl) (fun _ _ _ h => h) (Or.inr ⟨?_, rfl⟩) (by assumption) ?_
              · rfl
              go_simp
              refine wpAnyH_take (i := 20) (v := undef) rfl (by kernel_rfl) (by kernel_rfl) (by kernel_rfl) (fun _ _ _ h => h) (Or.inr ⟨?_, rfl⟩) (by assumption) ?_
              · rfl
              go_simp
              refine wpAnyH_take (i := 21) (v := undef) rfl (by kernel_rfl) (by kernel_rfl) (by kernel_rfl) (fun _ _ _ h => h) (Or.inr ⟨?_, rfl⟩) (by assumption) ?_
              · rfl
              go_simp
              refine wpAnyH_take (i := 22) (v := undef) rfl (by kernel_rfl) (by kernel_rfl) (by kernel_rfl) (fun _ _ _ h => h) (Or.inr ⟨?_, rfl⟩) (by assumption) ?_
              · rfl
              go_simp
              refine wpAnyH_take (i := 23) (v := undef) rfl (by kernel_rfl) (by kernel_rfl) (by kernel_rfl) (fun _ _ _ h => h) (Or.inr ⟨?_, rfl⟩) (by assumption) ?_
              · rfl
              go_simp
              refine wpAnyH_take (i := 24) (v := undef) rfl (by kernel_rfl) (by kernel_rfl) (by kernel_rfl) (fun _ _ _ h => h) (Or.inr ⟨?_, rfl⟩) (by assumption) ?_
              · rfl
              go_simp
              refine wpAnyH_take (i := 25) (v := ?va25) rfl (by kernel_rfl) (by kernel_rfl) (by kernel_rfl) (fun _ _ _ h => h) (Or.inl ⟨?_, ?_⟩) (by assumption) ?_
              rotate_left 1
              · rfl
              · (intro w hSw; unfold VaS at hSw; go_simp; (try with_reducible rfl))
              go_simp
              refine wpAnyH_done (by kernel_rfl) ?_ _
              go_wp2_with fail
              go_ret
              exact someB_mk false rfl HMd.out.mb.since
            · by_cases hk00 : k = 0
              · subst hk00
                go_wp2_with fail
                refine wp_region_held_drew (S := VaS M U p um) (by kernel_rfl) ?_ (fun hHeld => ?_)
                · exact ⟨c3, d0⟩
                refine wpAnyH_take (i := 0) (v := ?vb0) rfl (by kernel_rfl) (by kernel_rfl) (by kernel_rfl) (fun _ _ _ h => h) (Or.inl ⟨?_, ?_⟩) (by assumption) ?_
                rotate_left 1
                · rfl
                · (intro w hSw; unfold VaS at hSw; go_simp; (try with_reducible rfl))
                go_simp
                refine wpAnyH_take (i := 1) (v := ?vb1) rfl (by kernel_rfl) (by kernel_rfl) (by kernel_rfl) (fun _ _ _ h => h) (Or.inl ⟨?_, ?_⟩) (by assumption) ?_
                rotate_left 1
                · rfl
                · (intro w hSw; unfold VaS at hSw; go_simp; (try with_reducible rfl))
                go_simp
                refine wpAnyH_take (i := 2) (v := ?vb2) rfl (by kernel_rfl) (by kernel_rfl) (by kernel_rfl) (fun _ _ _ h => h) (Or.inl ⟨?_, ?_⟩) (by assumption) ?_
                rotate_left 1
                · rfl
                · (intro w hSw; unfold VaS at hSw; go_simp; (try with_reducible rfl))
                go_simp
                refine wpAnyH_take (i := 3) (v := ?vb3) rfl (by kernel_rfl) (by kernel_rfl) (by kernel_rfl) (fun _ _ _ h => h) (Or.inl ⟨?_, ?_⟩) (by assumption) ?_
                rotate_left 1
                · rfl
                · (intro w hSw; unfold VaS at hSw; go_simp; (try with_reducible rfl))
                go_simp
                refine wpAnyH_take (i := 4) (v := ?vb4) rfl (by kernel_rfl) (by kernel_rfl) (by kernel_rfl) (fun _ _ _ h => h) (Or.inl ⟨?_, ?_⟩) (by assumption) ?_
                rotate_left 1
                · rfl
                · (intro w hSw; unfold VaS at hSw; go_simp; (try with_reducible rfl))
                go_simp
                refine wpAnyH_ready (rs := [5]) (by kernel_rfl) (by simp) ?_
                refine AllReadyH.cons rfl (fun K hK => ?_) AllReadyH.nil
                go_simp
                refine (rexists_any um p.mc.len _).mono ?_
                rintro e W2 ⟨rfl, rfl⟩
                rw [HBE.out]
                clear hHeld
                go_wp2_with fail
                refine hK.out _ _ ?_ (fun hHeld => ?_)
                · exact ⟨c3, d0⟩
                clear hK K
                refine wpAnyH_take (i := 6) (v := ?vb6) rfl (by kernel_rfl) (by kernel_rfl) (by kernel_rfl) (fun _ _ _ h => h) (Or.inl ⟨?_, ?_⟩) (by assumption) ?_
                rotate_left 1
                · rfl
                · (intro w hSw; unfold VaS at hSw; go_simp; (try with_reducible rfl))
                go_simp
                refine wpAnyH_take (i := 7) (v := ?vb7) rfl (by kernel_rfl) (by kernel_rfl) (by kernel_rfl) (fun _ _ _ h => h) (Or.inl ⟨?_, ?_⟩) (by assumption) ?_
                rotate_left 1
                · rfl
                · (intro w hSw; unfold VaS at hSw; go_simp; (try with_reducible rfl))
                go_simp
                refine wpAnyH_take (i := 8) (v := ?vb8) rfl (by kernel_rfl) (by kernel_rfl) (by kernel_rfl) (fun _ _ _ h => h) (Or.inl ⟨?_, ?_⟩) (by assumption) ?_
                rotate_left 1
                · rfl
                · (intro w hSw; unfold VaS at hSw; go_simp; (try with_reducible rfl))
                go_simp
                refine wpAnyH_take (i := 9) (v := ?vb9) rfl (by kernel_rfl) (by kernel_rfl) (by kernel_rfl) (fun _ _ _ h => h) (Or.inl ⟨?_, ?_⟩) (by assumption) ?_
                rotate_left 1
                · rfl
                · (intro w hSw; unfold VaS at hSw; go_simp; (try with_reducible rfl))
                go_simp
                refine wpAnyH_take (i := 10) (v := ?vb10) rfl (by kernel_rfl) (by kernel_rfl) (by kernel_rfl) (fun _ _ _ h => h) (Or.inl ⟨?_, ?_⟩) (by assumption) ?_
                rotate_left 1
                · rfl
                · (intro w hSw; unfold VaS at hSw; go_simp; (try with_reducible rfl))
                go_simp
                refine wpAnyH_take (i := 11) (v := undef) rfl (by kernel_rfl) (by kernel_rfl) (by kernel_rfl) (fun _ _ _ h => h) (Or.inr ⟨?_, rfl⟩) (by assumption) ?_
                · rfl
                go_simp
                refine wpAnyH_take (i := 12) (v := undef) rfl (by kernel_rfl) (by kernel_rfl) (by kernel_rfl) (fun _ _ _ h => h) (Or.inr ⟨?_, rfl⟩) (by assumption) ?_
                · rfl
                go_simp
                refine wpAnyH_take (i := 13) (v := undef) rfl (by kernel_rfl) (by kernel_rfl) (by kernel_rfl) (fun _ _ _ h => h) (Or.inr ⟨?_, rfl⟩) (by assumption) ?_
                · rfl
                go_simp
                refine wpAnyH_take (i := 14) (v := undef) rfl (by kernel_rfl) (by kernel_rfl) (by kernel_rfl) (fun _ _ _ h => h) (Or.inr ⟨?_, rfl⟩) (by assumption) ?_
                · rfl
                go_simp
                refine wpAnyH_take (i := 15) (v := undef) rfl (by kernel_rfl) (by kernel_rfl) (by kernel_rfl) (fun _ _ _ h => h) (Or.inr ⟨?_, rfl⟩) (by assumption) ?_
                · rfl
                go_simp
                refine wpAnyH_take (i := 16) (v := undef) rfl (by kernel_rfl) (by kernel_rfl) (by kernel_rfl) (fun _ _ _ h => h) (Or.inr ⟨?_, rfl⟩) (by assumption) ?_
                · rfl
                go_simp
                refine wpAnyH_take (i := 17) (v := undef) rfl (by kernel_rfl) (by kernel_rfl) (by kernel_rfl) (fun _ _ _ h => h) (Or.inr ⟨?_, rfl⟩) (by assumption) ?_
                · rfl
                go_simp
                refine wpAnyH_take (i := 18) (v := undef) rfl (by kernel_rfl) (by kernel_rfl) (by kernel_rfl) (fun _ _ _ h => h) (Or.inr ⟨?_, rfl⟩) (by assumption) ?_
                · rfl
                go_simp
                refine wpAnyH_take (i := 19) (v := undef) rfl (by kernel_rfl) (by kernel_rfl) (by kernel_rfl) (fun _ _ _ h => h) (Or.inr ⟨?_, rfl⟩) (by assumption) ?_
                · rfl
                go_simp
                refine wpAnyH_take (i := 20) (v := undef) rfl (by kernel_rfl) (by kernel_rfl) (by kernel_rfl) (fun _ _ _ h => h) (Or.inr ⟨?_, rfl⟩) (by assumption) ?_
                · rfl
                go_simp
                refine wpAnyH_take (i := 21) (v := undef) rfl (by kernel_rfl) (by kernel_rfl) (by kernel_rfl) (fun _ _ _ h => h) (Or.inr ⟨?_, rfl⟩) (by assumption) ?_
                · rfl
                go_simp
                refine wpAnyH_take (i := 22) (v := undef) rfl (by kernel_rfl) (by kernel_rfl) (by kernel_rfl) (fun _ _ _ h => h) (Or.inr ⟨?_, rfl⟩) (by assumption) ?_
                · rfl
                go_simp
                refine wpAnyH_take (i := 23) (v := undef) rfl (by kernel_rfl) (by kernel_rfl) (by kernel_rfl) (fun _ _ _ h => h) (Or.inr ⟨?_, rfl⟩) (by assumption) ?_
                · rfl
                go_simp
                refine wpAnyH_take (i := 24) (v := ?vb24) rfl (by kernel_rfl) (by kernel_rfl) (by kernel_rfl) (fun _ _ _ h => h) (Or.inl ⟨?_, ?_⟩) (by assumption) ?_
                rotate_left 1
                · rfl
                · (intro w hSw; unfold VaS at hSw; go_simp; (try with_reducible rfl))
                go_simp
                refine wpAnyH_take (i := 25) (v := ?vb25) rfl (by kernel_rfl) (by kernel_rfl) (by kernel_rfl) (fun _ _ _ h => h) (Or.inl ⟨?_, ?_⟩) (by assumption) ?_
                rotate_left 1
                · rfl
                · (intro w hSw; unfold VaS at hSw; go_simp; (try with_reducible rfl))
                go_simp
                refine wpAnyH_done (by kernel_rfl) ?_ _
                obtain ⟨b3, o3, y, hb3, hy, k1⟩ := it_kind (k := i) HMd.out.mb.inn (by have := HLI.out; omega)
                have hii : (i : Int) < (p.i.len : Int) := by have := HLI.out; omega
                have hci := HMd.out.mb.inn.i.caps
                rw [hb3] at c5
                clear hb3 hy
                go_wp2_with fail
                all_goals first
                  | (go_ret; exact someB_mk _ rfl HMd.out.mb.since)
                  | (go_roundg (gk - 1)
                     case measure => have h1 := HK.out; omega
                     case rel => exact ⟨0 + 1, by omega, by show _ = _; have h1 := HK.out; omega, by go_num, HMd.out⟩)
              · obtain ⟨j, rfl⟩ : ∃ j, k = j + 1 := ⟨k - 1, by omega⟩
                obtain ⟨y, hy⟩ : ∃ y, us[j]? = some y := ⟨_, List.getElem?_eq_getElem (by omega)⟩
                obtain ⟨b4, o4, sl4, hsa4, hrc4, hsl4, hrd4⟩ := va_row HM.out.pb.inn hlt
                rw [HUS.out] at hsl4 hrd4
                obtain ⟨b5, o5, hsb5, y0, _⟩ := va_un hrd4 hsl4 hy
                have hsc5 := hrd4.caps
                obtain ⟨sla4, sln4, slc4⟩ := sl4
                simp only at hsb5 hsl4 hrc4 hsc5
                subst hsb5 hsl4
                have hbo := HSA.out.symm.trans hsa4
                injection hbo with hbo
                injection hbo with hb4 ho4
                subst hb4 ho4
                have hk3 : (0 : Int) < (j : Int) + 1 := by omega
                have hj0 : (0 : Int) ≤ (j : Int) := by omega
                have hj1 : (j : Int) < (us.length : Int) := by omega
                have hi3' : IntKind.i64.wrap (j : Int) = (j : Int) := IntWalk.i64_in _ (by omega)
                have hb3 : decide ((0 : Int) < (j : Int) + 1) = true := decide_eq_true hk3
                clear hy hrd4 hsa4 hk0 hk1
                have hge : decide (y.mach ≥ um) = decide (y.mach ≥ um) := rfl
                clear hge
                obtain ⟨ym, yst⟩ := y
                simp only at y0
                go_wp2_with fail
                go_region_held3 (fun w' => w'.cell? ⟨M, 3, none⟩ = some (.slice p.mc.addr p.mc.len p.mc.cap) ∧ w'.cell? ⟨U, 0, none⟩ = some (.int .i64 um) ∧ w'.cell? ⟨Q, 0, none⟩ = some (.slice (some ⟨b, o, none⟩) s.len s.cap) ∧ w'.cell? ⟨b, o + i, none⟩ = some (.slice (some ⟨b5, o5, none⟩) us.length slc4) ∧ w'.cell? ⟨b5, o5 + j * 2, none⟩ = some (.int .i64 ym))
                  (first | (refine ⟨?_, ?_, ?_, ?_, ?_⟩ <;> with_reducible assumption) | go_keep)
                  ((go_at_call 29; refine (rexists_any um p.mc.len _).mono ?_; rintro e W2 ⟨rfl, rfl⟩; rw [HBE.out]))
                obtain ⟨b3, o3, y, hb3, hy, k1⟩ := it_kind (k := i) HMd.out.mb.inn (by have := HLI.out; omega)
                have hii : (i : Int) < (p.i.len : Int) := by have := HLI.out; omega
                have hci := HMd.out.mb.inn.i.caps
                rw [hb3] at c5
                clear hb3 hy
                go_wp2_with fail
                all_goals first
                  | (go_ret; exact someB_mk _ rfl HMd.out.mb.since)
                  | (go_roundg (gk - 1)
                     case measure => have h1 := HK.out; omega
                     case rel => exact ⟨j + 1 + 1, by omega, by show _ = _; have h1 := HK.out; omega, by go_num, HMd.out⟩)
          · obtain rfl : k = us.length := by omega
            go_wp2_with fail
            go_roundg (ok - 1)
            case measure => have h1 := HI.out; omega
            case rel => exact ⟨i + 1, by omega, by show _ = _; have h1 := HI.out; omega, by go_num, HM.out⟩
      · obtain rfl : i = s.len := by omega
        go_wp2_with fail
        go_ret
        exact someB_mk true rfl HM.out.mb.since
  · have hb1 : ((s.len : Int) != (p.i.len : Int)) = true := by rw [bne_iff_ne]; omega
    clear hn
    go_wp2_with fail
    go_ret
    exact someB_mk false rfl HM.out.mb.since
end Go.Proofs.Ytpngmodgnkjhnaa
