/- Layer 14: Few answers some bool, and yes only if the lists are short. (printed by genSiteO.py) -/
import Derived.Test.YtpngmodgnkjhnaaSiteE
namespace Go.Proofs.Ytpngmodgnkjhnaa
open Go Go.RowKit Go.Maps
set_option maxRecDepth 100000

/-- Short lists. -/
def Mdl.Small (m : Mdl) : Prop := m.sites.length ≤ 24 ∧ m.feeds.length ≤ 24 ∧ m.racks.length ≤ 24 ∧ m.machines.length ≤ 24 ∧ m.links.length ≤ 24 ∧ m.items.length ≤ 24 ∧ m.rules.length ≤ 48
theorem s_at {w : World} {bad : Nat → Prop} {b o i : Nat} {l : List ByteArray} {x : ByteArray} (r : RdAt w bad b o (scells l)) (h : l[i]? = some x) : w.cell? ⟨b, o + i, none⟩ = some (.string x) :=
  r.cell i _ (by simp [scells, h])
theorem it_at {w : World} {bad : Nat → Prop} {b o i : Nat} {l : List It} {x : It} (r : RdAt w bad b o (itcells l)) (h : l[i]? = some x) :
    w.cell? ⟨b, o + i * 7, none⟩ = some (.string x.name) ∧ w.cell? ⟨b, o + i * 7 + 6, none⟩ = some (.slice x.on.addr x.on.len x.on.cap) := by
  have c0 := r.cell (i * 7 + 0) _ ((flat_at It.cells 7 (fun _ => rfl) h 0 (by omega)).trans rfl)
  have c6 := r.cell (i * 7 + 6) _ ((flat_at It.cells 7 (fun _ => rfl) h 6 (by omega)).trans rfl)
  simp only [← Nat.add_assoc, Nat.add_zero] at c0 c6
  exact ⟨c0, c6⟩
theorem ru_at {w : World} {bad : Nat → Prop} {b o i : Nat} {l : List Ru} {x : Ru} (r : RdAt w bad b o (rucells l)) (h : l[i]? = some x) :
    w.cell? ⟨b, o + i * 7 + 6, none⟩ = some (.slice x.ms.addr x.ms.len x.ms.cap) := by
  have c6 := r.cell (i * 7 + 6) _ ((flat_at Ru.cells 7 (fun _ => rfl) h 6 (by omega)).trans rfl)
  simp only [← Nat.add_assoc] at c6
  exact c6

def FewPost (w : World) (m : Mdl) (e : Ending) (w' : World) : Prop := ∃ q, e = .returned (.bool q) ∧ (q = true → m.Small) ∧ Same noB w w'
theorem few_mk {w w' : World} {m : Mdl} {e : Ending} (q : Bool) (he : e = .returned (.bool q)) (h : q = true → m.Small) (hs : Same noB w w') : FewPost w m e w' := ⟨q, he, h, hs⟩

set_option maxRecDepth 100000 in
set_option maxHeartbeats 16000000 in
theorem few_any {w : World} {p : MPl} {m : Mdl} (h : MdlIn w p m) : Calls Try.prog 11 #[mdlVal p m] w (FewPost w m) := by
  have HMB := Lib.hid (MB.start h)
  have HS0 : Hid (Same noB w (w.alloc (.cells (mdlCells p m) 29))) := (Same.refl _ _).alloc _
  have HSm : Hid ((p.s.len ≤ 24 ∧ p.f.len ≤ 24 ∧ p.r.len ≤ 24 ∧ p.mc.len ≤ 24 ∧ p.l.len ≤ 24 ∧ p.i.len ≤ 24 ∧ p.ru.len ≤ 48) → m.Small) := by
    show _ → m.Small
    rw [h.ls, h.lf, h.lr, h.lm, h.ll, h.li, h.lru]
    exact id
  have HLE := Lib.hid (And.intro h.ls (And.intro h.lf (And.intro h.lr (And.intro h.lm (And.intro h.li h.lru)))))
  clear h
  unfold mdlVal
  unfold mdlCells at *
  by_cases hs : p.s.len ≤ 24 ∧ p.f.len ≤ 24 ∧ p.r.len ≤ 24 ∧ p.mc.len ≤ 24 ∧ p.l.len ≤ 24 ∧ p.i.len ≤ 24 ∧ p.ru.len ≤ 48
  · have HSM := Lib.hid (HSm.out hs)
    obtain ⟨b1, b2, b3, b4, b5, b6, b7⟩ := hs
    go_enter Try.func11, Try.ntmps11
    go_wp2_with fail
    refine wp_abs (fun W => Hid (MB w W p m w.heap.size)) HMB ?_
    clear HMB HS0 HSm
    generalize w.heap.size = M at *
    intro W0 HM0
    go_loopw [3, 4] (fun n i wr => ∃ (k : Nat) (z : Int), k ≤ p.s.len ∧ i = .int .i64 k ∧ n = .int .i64 z ∧ Hid (MB w wr p m M)) (fun _ i _ => p.s.len - (intOf i).toNat)
    case atStart => exact ⟨0, _, Nat.zero_le _, rfl, rfl, HM0⟩
    case round =>
      obtain ⟨k, z, hk, rfl, rfl, HV⟩ := hrel
      clear HM0
      by_cases hlt : k < p.s.len
      · obtain ⟨x, hx⟩ : ∃ x, m.sites[k]? = some x := ⟨_, List.getElem?_eq_getElem (by have := HLE.out.1; omega)⟩
        obtain ⟨b, o, hadr, r⟩ := HV.out.inn.s.at_ (by omega)
        have d0 := s_at r hx
        obtain ⟨c0, c1, c2, c3, c4, c5, c6, c7, c8, c9, c10⟩ := HV.out.all
        rw [hadr] at c0
        clear hx r hadr
        go_wp2_with fail
        go_roundw
        case rel => exact ⟨k + 1, _, by omega, by go_num, rfl, HV.out⟩
        case measure => simp [intOf]; omega
      · have HM1 := Lib.hid HV.out
        obtain ⟨c0, c1, c2, c3, c4, c5, c6, c7, c8, c9, c10⟩ := HM1.out.all
        clear HV
        go_wp2_with fail
        clear c0 c1 c2 c3 c4 c5 c6 c7 c8 c9 c10 hlt hk
        go_loopw [3, 5] (fun n i wr => ∃ (k : Nat) (z : Int), k ≤ p.f.len ∧ i = .int .i64 k ∧ n = .int .i64 z ∧ Hid (MB w wr p m M)) (fun _ i _ => p.f.len - (intOf i).toNat)
        case atStart => exact ⟨0, _, Nat.zero_le _, rfl, rfl, HM1⟩
        case round =>
          obtain ⟨k, z, hk, rfl, rfl, HV⟩ := hrel
          clear HM1
          by_cases hlt : k < p.f.len
          · obtain ⟨x, hx⟩ : ∃ x, m.feeds[k]? = some x := ⟨_, List.getElem?_eq_getElem (by have := HLE.out.2.1; omega)⟩
            obtain ⟨b, o, hadr, r⟩ := HV.out.inn.f.at_ (by omega)
            have d0 := s_at r hx
            obtain ⟨c0, c1, c2, c3, c4, c5, c6, c7, c8, c9, c10⟩ := HV.out.all
            rw [hadr] at c1
            clear hx r hadr
            go_wp2_with fail
            go_roundw
            case rel => exact ⟨k + 1, _, by omega, by go_num, rfl, HV.out⟩
            case measure => simp [intOf]; omega
          · have HM2 := Lib.hid HV.out
            obtain ⟨c0, c1, c2, c3, c4, c5, c6, c7, c8, c9, c10⟩ := HM2.out.all
            clear HV
            go_wp2_with fail
            clear c0 c1 c2 c3 c4 c5 c6 c7 c8 c9 c10 hlt hk
            go_loopw [3, 6] (fun n i wr => ∃ (k : Nat) (z : Int), k ≤ p.r.len ∧ i = .int .i64 k ∧ n = .int .i64 z ∧ Hid (MB w wr p m M)) (fun _ i _ => p.r.len - (intOf i).toNat)
            case atStart => exact ⟨0, _, Nat.zero_le _, rfl, rfl, HM2⟩
            case round =>
              obtain ⟨k, z, hk, rfl, rfl, HV⟩ := hrel
              clear HM2
              by_cases hlt : k < p.r.len
              · obtain ⟨x, hx⟩ : ∃ x, m.racks[k]? = some x := ⟨_, List.getElem?_eq_getElem (by have := HLE.out.2.2.1; omega)⟩
                obtain ⟨b, o, hadr, r⟩ := HV.out.inn.r.at_ (by omega)
                obtain ⟨d0, _, _⟩ := rk_at r hx
                obtain ⟨c0, c1, c2, c3, c4, c5, c6, c7, c8, c9, c10⟩ := HV.out.all
                rw [hadr] at c2
                clear hx r hadr
                go_wp2_with fail
                go_roundw
                case rel => exact ⟨k + 1, _, by omega, by go_num, rfl, HV.out⟩
                case measure => simp [intOf]; omega
              · have HM3 := Lib.hid HV.out
                obtain ⟨c0, c1, c2, c3, c4, c5, c6, c7, c8, c9, c10⟩ := HM3.out.all
                clear HV
                go_wp2_with fail
                clear c0 c1 c2 c3 c4 c5 c6 c7 c8 c9 c10 hlt hk
                go_loopw [3, 7] (fun n i wr => ∃ (k : Nat) (z : Int), k ≤ p.mc.len ∧ i = .int .i64 k ∧ n = .int .i64 z ∧ Hid (MB w wr p m M)) (fun _ i _ => p.mc.len - (intOf i).toNat)
                case atStart => exact ⟨0, _, Nat.zero_le _, rfl, rfl, HM3⟩
                case round =>
                  obtain ⟨k, z, hk, rfl, rfl, HV⟩ := hrel
                  clear HM3
                  by_cases hlt : k < p.mc.len
                  · obtain ⟨x, hx⟩ : ∃ x, m.machines[k]? = some x := ⟨_, List.getElem?_eq_getElem (by have := HLE.out.2.2.2.1; omega)⟩
                    obtain ⟨b, o, hadr, r⟩ := HV.out.inn.mc.at_ (by omega)
                    obtain ⟨d0, _, _⟩ := mc_at r hx
                    obtain ⟨c0, c1, c2, c3, c4, c5, c6, c7, c8, c9, c10⟩ := HV.out.all
                    rw [hadr] at c3
                    clear hx r hadr
                    go_wp2_with fail
                    go_roundw
                    case rel => exact ⟨k + 1, _, by omega, by go_num, rfl, HV.out⟩
                    case measure => simp [intOf]; omega
                  · have HM4 := Lib.hid HV.out
                    obtain ⟨c0, c1, c2, c3, c4, c5, c6, c7, c8, c9, c10⟩ := HM4.out.all
                    clear HV
                    go_wp2_with fail
                    clear c0 c1 c2 c3 c4 c5 c6 c7 c8 c9 c10 hlt hk
                    go_loopw [3, 8] (fun n i wr => ∃ (k : Nat) (z : Int), k ≤ p.i.len ∧ i = .int .i64 k ∧ n = .int .i64 z ∧ Hid (MB w wr p m M)) (fun _ i _ => p.i.len - (intOf i).toNat)
                    case atStart => exact ⟨0, _, Nat.zero_le _, rfl, rfl, HM4⟩
                    case round =>
                      obtain ⟨k, z, hk, rfl, rfl, HV⟩ := hrel
                      clear HM4
                      by_cases hlt : k < p.i.len
                      · obtain ⟨x, hx⟩ : ∃ x, m.items[k]? = some x := ⟨_, List.getElem?_eq_getElem (by have := HLE.out.2.2.2.2.1; omega)⟩
                        obtain ⟨b, o, hadr, r⟩ := HV.out.inn.i.at_ (by omega)
                        obtain ⟨d0, d6⟩ := it_at r hx
                        obtain ⟨c0, c1, c2, c3, c4, c5, c6, c7, c8, c9, c10⟩ := HV.out.all
                        rw [hadr] at c5
                        clear hx r hadr
                        go_wp2_with fail
                        go_region
                        all_goals go_wp2_with fail
                        all_goals
                          go_roundw
                          case rel => exact ⟨k + 1, _, by omega, by go_num, rfl, HV.out.keep ((Same.refl _ _).drew)⟩
                          case measure => simp [intOf]; omega
                      · have HM5 := Lib.hid HV.out
                        obtain ⟨c0, c1, c2, c3, c4, c5, c6, c7, c8, c9, c10⟩ := HM5.out.all
                        clear HV
                        go_wp2_with fail
                        clear c0 c1 c2 c3 c4 c5 c6 c7 c8 c9 c10 hlt hk
                        go_loopw [3, 9] (fun n i wr => ∃ (k : Nat) (z : Int), k ≤ p.ru.len ∧ i = .int .i64 k ∧ n = .int .i64 z ∧ Hid (MB w wr p m M)) (fun _ i _ => p.ru.len - (intOf i).toNat)
                        case atStart => exact ⟨0, _, Nat.zero_le _, rfl, rfl, HM5⟩
                        case round =>
                          obtain ⟨k, z, hk, rfl, rfl, HV⟩ := hrel
                          clear HM5
                          by_cases hlt : k < p.ru.len
                          · obtain ⟨x, hx⟩ : ∃ x, m.rules[k]? = some x := ⟨_, List.getElem?_eq_getElem (by have := HLE.out.2.2.2.2.2; omega)⟩
                            obtain ⟨b, o, hadr, r⟩ := HV.out.inn.ru.at_ (by omega)
                            have d6 := ru_at r hx
                            obtain ⟨c0, c1, c2, c3, c4, c5, c6, c7, c8, c9, c10⟩ := HV.out.all
                            rw [hadr] at c10
                            clear hx r hadr
                            go_wp2_with fail
                            go_roundw
                            case rel => exact ⟨k + 1, _, by omega, by go_num, rfl, HV.out⟩
                            case measure => simp [intOf]; omega
                          · have HM6 := Lib.hid HV.out
                            obtain ⟨c0, c1, c2, c3, c4, c5, c6, c7, c8, c9, c10⟩ := HM6.out.all
                            clear HV
                            go_wp2_with fail
                            clear c0 c1 c2 c3 c4 c5 c6 c7 c8 c9 c10 hlt hk
                            all_goals
                              go_ret
                              exact few_mk _ rfl (fun _ => HSM.out) HM6.out.since
  · have hs' : 24 < p.s.len ∨ 24 < p.f.len ∨ 24 < p.r.len ∨ 24 < p.mc.len ∨ 24 < p.l.len ∨ 24 < p.i.len ∨ 48 < p.ru.len := by omega
    clear hs HMB HSm HLE
    go_enter Try.func11, Try.ntmps11
    go_wp2_with fail
    all_goals first | (exfalso; omega) | (go_ret; exact few_mk false rfl (fun e => by cases e) HS0.out)
end Go.Proofs.Ytpngmodgnkjhnaa
