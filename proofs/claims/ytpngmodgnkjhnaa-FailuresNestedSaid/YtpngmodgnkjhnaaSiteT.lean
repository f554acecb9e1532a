/- Layer 14: Few with a definite answer. (printed by genSiteT.py) -/
import Derived.Test.YtpngmodgnkjhnaaSiteO
namespace Go.Proofs.Ytpngmodgnkjhnaa
open Go Go.RowKit Go.Maps
set_option maxRecDepth 100000

def mxI (z n : Int) : Int := if z < n then n else z
def runK {α : Type} (f : Int → α → Int) (z : Int) (l : List α) (k : Nat) : Int := (l.take k).foldl f z
theorem runK_step {α : Type} {f : Int → α → Int} {z : Int} {l : List α} {k : Nat} {x : α} (h : l[k]? = some x) : runK f z l (k + 1) = f (runK f z l k) x := by
  unfold runK
  rw [List.take_add_one, h, List.foldl_append]
  rfl
def fS (z : Int) (s : ByteArray) : Int := mxI z s.size
def fRk (z : Int) (x : Rk) : Int := mxI z x.name.size
def fMc (z : Int) (x : Mc) : Int := mxI z x.name.size
def fIt (z : Int) (x : It) : Int := mxI (mxI z x.name.size) (wrap64 (4 * x.on.len))
def fRu (z : Int) (x : Ru) : Int := mxI z (wrap64 (4 * x.ms.len))
/-- The greatest size that Few finds. -/
def fewZ (m : Mdl) (a b c d e f : Nat) : Int := runK fRu (runK fIt (runK fMc (runK fRk (runK fS (runK fS 0 m.sites a) m.feeds b) m.racks c) m.machines d) m.items e) m.rules f
def fewB (m : Mdl) : Bool := decide (m.sites.length ≤ 24 ∧ m.feeds.length ≤ 24 ∧ m.racks.length ≤ 24 ∧ m.machines.length ≤ 24 ∧ m.links.length ≤ 24 ∧ m.items.length ≤ 24 ∧ m.rules.length ≤ 48) && decide (fewZ m m.sites.length m.feeds.length m.racks.length m.machines.length m.items.length m.rules.length ≤ 100)
theorem fewB_small {m : Mdl} (h : fewB m = true) : m.Small := by
  unfold fewB at h
  rw [Bool.and_eq_true] at h
  have h1 := h.1
  rw [decide_eq_true_eq] at h1
  exact h1

set_option maxRecDepth 100000 in
set_option maxHeartbeats 16000000 in
theorem few2_any {w : World} {p : MPl} {m : Mdl} (h : MdlIn w p m) : Calls Try.prog 11 #[mdlVal p m] w fun e w' => e = .returned (.bool (fewB m)) ∧ Same noB w w' := by
  have HMB := Lib.hid (MB.start h)
  have HS0 : Hid (Same noB w (w.alloc (.cells (mdlCells p m) 29))) := (Same.refl _ _).alloc _
  have HQ : Hid (fewB m = (decide (p.s.len ≤ 24 ∧ p.f.len ≤ 24 ∧ p.r.len ≤ 24 ∧ p.mc.len ≤ 24 ∧ p.l.len ≤ 24 ∧ p.i.len ≤ 24 ∧ p.ru.len ≤ 48) && decide (fewZ m p.s.len p.f.len p.r.len p.mc.len p.i.len p.ru.len ≤ 100))) := by
    show fewB m = _
    unfold fewB
    rw [h.ls, h.lf, h.lr, h.lm, h.ll, h.li, h.lru]
  have HLE := Lib.hid (And.intro h.ls (And.intro h.lf (And.intro h.lr (And.intro h.lm (And.intro h.li h.lru)))))
  generalize fewB m = q at *
  clear h
  unfold mdlVal
  unfold mdlCells at *
  by_cases hs : p.s.len ≤ 24 ∧ p.f.len ≤ 24 ∧ p.r.len ≤ 24 ∧ p.mc.len ≤ 24 ∧ p.l.len ≤ 24 ∧ p.i.len ≤ 24 ∧ p.ru.len ≤ 48
  · rw [decide_eq_true hs] at HQ
    obtain ⟨b1, b2, b3, b4, b5, b6, b7⟩ := hs
    go_enter Try.func11, Try.ntmps11
    go_wp2_with fail
    refine wp_abs (fun W => Hid (MB w W p m w.heap.size)) HMB ?_
    clear HMB HS0
    generalize w.heap.size = M at *
    intro W0 HM0
    go_loopw [3, 4] (fun n i wr => ∃ k : Nat, k ≤ p.s.len ∧ i = .int .i64 k ∧ n = .int .i64 (runK fS 0 m.sites k) ∧ Hid (MB w wr p m M)) (fun _ i _ => p.s.len - (intOf i).toNat)
    case atStart => exact ⟨0, Nat.zero_le _, rfl, rfl, HM0⟩
    case round =>
      obtain ⟨k, hk, rfl, rfl, HV⟩ := hrel
      clear HM0
      by_cases hlt : k < p.s.len
      · obtain ⟨x, hx⟩ : ∃ x, m.sites[k]? = some x := ⟨_, List.getElem?_eq_getElem (by have := HLE.out.1; omega)⟩
        obtain ⟨b, o, hadr, r⟩ := HV.out.inn.s.at_ (by omega)
        have HST := Lib.hid (runK_step (f := fS) (z := 0) hx)
        have d0 := s_at r hx
        obtain ⟨c0, c1, c2, c3, c4, c5, c6, c7, c8, c9, c10⟩ := HV.out.all
        rw [hadr] at c0
        clear hx r hadr
        generalize runK fS 0 m.sites k = z at *
        go_wp2_with fail
        go_roundw
        case rel => exact ⟨k + 1, by omega, by go_num, by rw [HST.out] <;> rfl, HV.out⟩
        case measure => simp [intOf]; omega
      · obtain rfl : k = p.s.len := by omega
        have HM1 := Lib.hid HV.out
        obtain ⟨z1, hz⟩ : ∃ z, runK fS 0 m.sites p.s.len = z := ⟨_, rfl⟩
        rw [hz]
        have HZ1 := Lib.hid hz
        clear hz
        obtain ⟨c0, c1, c2, c3, c4, c5, c6, c7, c8, c9, c10⟩ := HM1.out.all
        clear HV
        go_wp2_with fail
        clear c0 c1 c2 c3 c4 c5 c6 c7 c8 c9 c10 hlt hk
        go_loopw [3, 5] (fun n i wr => ∃ k : Nat, k ≤ p.f.len ∧ i = .int .i64 k ∧ n = .int .i64 (runK fS z1 m.feeds k) ∧ Hid (MB w wr p m M)) (fun _ i _ => p.f.len - (intOf i).toNat)
        case atStart => exact ⟨0, Nat.zero_le _, rfl, rfl, HM1⟩
        case round =>
          obtain ⟨k, hk, rfl, rfl, HV⟩ := hrel
          clear HM1
          by_cases hlt : k < p.f.len
          · obtain ⟨x, hx⟩ : ∃ x, m.feeds[k]? = some x := ⟨_, List.getElem?_eq_getElem (by have := HLE.out.2.1; omega)⟩
            obtain ⟨b, o, hadr, r⟩ := HV.out.inn.f.at_ (by omega)
            have HST := Lib.hid (runK_step (f := fS) (z := z1) hx)
            have d0 := s_at r hx
            obtain ⟨c0, c1, c2, c3, c4, c5, c6, c7, c8, c9, c10⟩ := HV.out.all
            rw [hadr] at c1
            clear hx r hadr
            generalize runK fS z1 m.feeds k = z at *
            go_wp2_with fail
            go_roundw
            case rel => exact ⟨k + 1, by omega, by go_num, by rw [HST.out] <;> rfl, HV.out⟩
            case measure => simp [intOf]; omega
          · obtain rfl : k = p.f.len := by omega
            have HM2 := Lib.hid HV.out
            obtain ⟨z2, hz⟩ : ∃ z, runK fS z1 m.feeds p.f.len = z := ⟨_, rfl⟩
            rw [hz]
            have HZ2 := Lib.hid hz
            clear hz
            obtain ⟨c0, c1, c2, c3, c4, c5, c6, c7, c8, c9, c10⟩ := HM2.out.all
            clear HV
            go_wp2_with fail
            clear c0 c1 c2 c3 c4 c5 c6 c7 c8 c9 c10 hlt hk
            go_loopw [3, 6] (fun n i wr => ∃ k : Nat, k ≤ p.r.len ∧ i = .int .i64 k ∧ n = .int .i64 (runK fRk z2 m.racks k) ∧ Hid (MB w wr p m M)) (fun _ i _ => p.r.len - (intOf i).toNat)
            case atStart => exact ⟨0, Nat.zero_le _, rfl, rfl, HM2⟩
            case round =>
              obtain ⟨k, hk, rfl, rfl, HV⟩ := hrel
              clear HM2
              by_cases hlt : k < p.r.len
              · obtain ⟨x, hx⟩ : ∃ x, m.racks[k]? = some x := ⟨_, List.getElem?_eq_getElem (by have := HLE.out.2.2.1; omega)⟩
                obtain ⟨b, o, hadr, r⟩ := HV.out.inn.r.at_ (by omega)
                have HST := Lib.hid (runK_step (f := fRk) (z := z2) hx)
                obtain ⟨d0, _, _⟩ := rk_at r hx
                obtain ⟨c0, c1, c2, c3, c4, c5, c6, c7, c8, c9, c10⟩ := HV.out.all
                rw [hadr] at c2
                clear hx r hadr
                generalize runK fRk z2 m.racks k = z at *
                go_wp2_with fail
                go_roundw
                case rel => exact ⟨k + 1, by omega, by go_num, by rw [HST.out] <;> rfl, HV.out⟩
                case measure => simp [intOf]; omega
              · obtain rfl : k = p.r.len := by omega
                have HM3 := Lib.hid HV.out
                obtain ⟨z3, hz⟩ : ∃ z, runK fRk z2 m.racks p.r.len = z := ⟨_, rfl⟩
                rw [hz]
                have HZ3 := Lib.hid hz
                clear hz
                obtain ⟨c0, c1, c2, c3, c4, c5, c6, c7, c8, c9, c10⟩ := HM3.out.all
                clear HV
                go_wp2_with fail
                clear c0 c1 c2 c3 c4 c5 c6 c7 c8 c9 c10 hlt hk
                go_loopw [3, 7] (fun n i wr => ∃ k : Nat, k ≤ p.mc.len ∧ i = .int .i64 k ∧ n = .int .i64 (runK fMc z3 m.machines k) ∧ Hid (MB w wr p m M)) (fun _ i _ => p.mc.len - (intOf i).toNat)
                case atStart => exact ⟨0, Nat.zero_le _, rfl, rfl, HM3⟩
                case round =>
                  obtain ⟨k, hk, rfl, rfl, HV⟩ := hrel
                  clear HM3
                  by_cases hlt : k < p.mc.len
                  · obtain ⟨x, hx⟩ : ∃ x, m.machines[k]? = some x := ⟨_, List.getElem?_eq_getElem (by have := HLE.out.2.2.2.1; omega)⟩
                    obtain ⟨b, o, hadr, r⟩ := HV.out.inn.mc.at_ (by omega)
                    have HST := Lib.hid (runK_step (f := fMc) (z := z3) hx)
                    obtain ⟨d0, _, _⟩ := mc_at r hx
                    obtain ⟨c0, c1, c2, c3, c4, c5, c6, c7, c8, c9, c10⟩ := HV.out.all
                    rw [hadr] at c3
                    clear hx r hadr
                    generalize runK fMc z3 m.machines k = z at *
                    go_wp2_with fail
                    go_roundw
                    case rel => exact ⟨k + 1, by omega, by go_num, by rw [HST.out] <;> rfl, HV.out⟩
                    case measure => simp [intOf]; omega
                  · obtain rfl : k = p.mc.len := by omega
                    have HM4 := Lib.hid HV.out
                    obtain ⟨z4, hz⟩ : ∃ z, runK fMc z3 m.machines p.mc.len = z := ⟨_, rfl⟩
                    rw [hz]
                    have HZ4 := Lib.hid hz
                    clear hz
                    obtain ⟨c0, c1, c2, c3, c4, c5, c6, c7, c8, c9, c10⟩ := HM4.out.all
                    clear HV
                    go_wp2_with fail
                    clear c0 c1 c2 c3 c4 c5 c6 c7 c8 c9 c10 hlt hk
                    go_loopw [3, 8] (fun n i wr => ∃ k : Nat, k ≤ p.i.len ∧ i = .int .i64 k ∧ n = .int .i64 (runK fIt z4 m.items k) ∧ Hid (MB w wr p m M)) (fun _ i _ => p.i.len - (intOf i).toNat)
                    case atStart => exact ⟨0, Nat.zero_le _, rfl, rfl, HM4⟩
                    case round =>
                      obtain ⟨k, hk, rfl, rfl, HV⟩ := hrel
                      clear HM4
                      by_cases hlt : k < p.i.len
                      · obtain ⟨x, hx⟩ : ∃ x, m.items[k]? = some x := ⟨_, List.getElem?_eq_getElem (by have := HLE.out.2.2.2.2.1; omega)⟩
                        obtain ⟨b, o, hadr, r⟩ := HV.out.inn.i.at_ (by omega)
                        have HST := Lib.hid (runK_step (f := fIt) (z := z4) hx)
                        obtain ⟨d0, d6⟩ := it_at r hx
                        obtain ⟨c0, c1, c2, c3, c4, c5, c6, c7, c8, c9, c10⟩ := HV.out.all
                        rw [hadr] at c5
                        clear hx r hadr
                        generalize runK fIt z4 m.items k = z at *
                        go_wp2_with fail
                        go_region
                        all_goals go_wp2_with fail
                        all_goals
                          go_roundw
                          case rel => exact ⟨k + 1, by omega, by go_num, by rw [HST.out] <;> rfl, HV.out.keep ((Same.refl _ _).drew)⟩
                          case measure => simp [intOf]; omega
                      · obtain rfl : k = p.i.len := by omega
                        have HM5 := Lib.hid HV.out
                        obtain ⟨z5, hz⟩ : ∃ z, runK fIt z4 m.items p.i.len = z := ⟨_, rfl⟩
                        rw [hz]
                        have HZ5 := Lib.hid hz
                        clear hz
                        obtain ⟨c0, c1, c2, c3, c4, c5, c6, c7, c8, c9, c10⟩ := HM5.out.all
                        clear HV
                        go_wp2_with fail
                        clear c0 c1 c2 c3 c4 c5 c6 c7 c8 c9 c10 hlt hk
                        go_loopw [3, 9] (fun n i wr => ∃ k : Nat, k ≤ p.ru.len ∧ i = .int .i64 k ∧ n = .int .i64 (runK fRu z5 m.rules k) ∧ Hid (MB w wr p m M)) (fun _ i _ => p.ru.len - (intOf i).toNat)
                        case atStart => exact ⟨0, Nat.zero_le _, rfl, rfl, HM5⟩
                        case round =>
                          obtain ⟨k, hk, rfl, rfl, HV⟩ := hrel
                          clear HM5
                          by_cases hlt : k < p.ru.len
                          · obtain ⟨x, hx⟩ : ∃ x, m.rules[k]? = some x := ⟨_, List.getElem?_eq_getElem (by have := HLE.out.2.2.2.2.2; omega)⟩
                            obtain ⟨b, o, hadr, r⟩ := HV.out.inn.ru.at_ (by omega)
                            have HST := Lib.hid (runK_step (f := fRu) (z := z5) hx)
                            have d6 := ru_at r hx
                            obtain ⟨c0, c1, c2, c3, c4, c5, c6, c7, c8, c9, c10⟩ := HV.out.all
                            rw [hadr] at c10
                            clear hx r hadr
                            generalize runK fRu z5 m.rules k = z at *
                            go_wp2_with fail
                            go_roundw
                            case rel => exact ⟨k + 1, by omega, by go_num, by rw [HST.out] <;> rfl, HV.out⟩
                            case measure => simp [intOf]; omega
                          · obtain rfl : k = p.ru.len := by omega
                            have HM6 := Lib.hid HV.out
                            obtain ⟨z6, hz⟩ : ∃ z, runK fRu z5 m.rules p.ru.len = z := ⟨_, rfl⟩
                            rw [hz]
                            have HZ6 := Lib.hid hz
                            clear hz
                            obtain ⟨c0, c1, c2, c3, c4, c5, c6, c7, c8, c9, c10⟩ := HM6.out.all
                            clear HV
                            go_wp2_with fail
                            clear c0 c1 c2 c3 c4 c5 c6 c7 c8 c9 c10 hlt hk
                            all_goals
                              go_ret
                              refine ⟨?_, HM6.out.since⟩
                              rw [HQ.out]
                              unfold fewZ
                              rw [HZ1.out, HZ2.out, HZ3.out, HZ4.out, HZ5.out, HZ6.out, Bool.true_and]
                              rfl
  · rw [decide_eq_false hs] at HQ
    have hs' : 24 < p.s.len ∨ 24 < p.f.len ∨ 24 < p.r.len ∨ 24 < p.mc.len ∨ 24 < p.l.len ∨ 24 < p.i.len ∨ 48 < p.ru.len := by omega
    clear hs HMB HLE
    go_enter Try.func11, Try.ntmps11
    go_wp2_with fail
    all_goals first | (exfalso; omega) | (go_ret; exact ⟨by rw [HQ.out, Bool.false_and] <;> rfl, HS0.out⟩)
end Go.Proofs.Ytpngmodgnkjhnaa
