/- Layer 21: the reference's Valid of a model. (printed by genValG.py) -/
import Derived.Test.YtpngmodgnkjhnaaValF
namespace Go.Proofs.Ytpngmodgnkjhnaa
open Go Go.RowKit Go.Maps
set_option maxRecDepth 100000

def VlPost (m : Mdl) (w : World) (e : Ending) (w' : World) : Prop := ∃ q : Bool, e = .returned (.bool q) ∧ (q = true → m.valid = true) ∧ Same noB w w'
theorem vl_mk {m : Mdl} {w w' : World} {e : Ending} (q : Bool) (he : e = .returned (.bool q)) (hv : q = true → m.valid = true) (h : Same noB w w') : VlPost m w e w' := ⟨q, he, hv, h⟩
theorem it_all {w : World} {p : MPl} {m : Mdl} (h : MdlIn w p m) {k : Nat} {x : It} (hx : m.items[k]? = some x) : ∃ b o, p.i.addr = some ⟨b, o, none⟩ ∧ (w.cell? ⟨b, o + k * 7, none⟩ = some (.string x.name) ∧ w.cell? ⟨b, o + k * 7 + 1, none⟩ = some (.int .i64 x.kind) ∧ w.cell? ⟨b, o + k * 7 + 2, none⟩ = some (.int .i64 x.count) ∧ w.cell? ⟨b, o + k * 7 + 3, none⟩ = some (.int .i64 x.load) ∧ w.cell? ⟨b, o + k * 7 + 4, none⟩ = some (.int .i64 x.size) ∧ w.cell? ⟨b, o + k * 7 + 5, none⟩ = some (.int .i64 x.share) ∧ w.cell? ⟨b, o + k * 7 + 6, none⟩ = some (.slice x.on.addr x.on.len x.on.cap)) := by
  obtain ⟨b, o, e, r⟩ := h.i.at_ (by have := (List.getElem?_eq_some_iff.1 hx).1; rw [h.li]; omega)
  have cc := fun (j : Nat) (hj : j < 7) (u : Value) (hu : x.cells[j]? = some u) => r.cell (k * 7 + j) u ((flat_at It.cells 7 (fun _ => rfl) hx j hj).trans hu)
  refine ⟨b, o, e, cc 0 (by omega) _ rfl, ?_, ?_, ?_, ?_, ?_, ?_⟩
  · have := cc 1 (by omega) _ rfl; rwa [← Nat.add_assoc] at this
  · have := cc 2 (by omega) _ rfl; rwa [← Nat.add_assoc] at this
  · have := cc 3 (by omega) _ rfl; rwa [← Nat.add_assoc] at this
  · have := cc 4 (by omega) _ rfl; rwa [← Nat.add_assoc] at this
  · have := cc 5 (by omega) _ rfl; rwa [← Nat.add_assoc] at this
  · have := cc 6 (by omega) _ rfl; rwa [← Nat.add_assoc] at this
theorem ru_all {w : World} {p : MPl} {m : Mdl} (h : MdlIn w p m) {k : Nat} {x : Ru} (hx : m.rules[k]? = some x) : ∃ b o, p.ru.addr = some ⟨b, o, none⟩ ∧ (w.cell? ⟨b, o + k * 7, none⟩ = some (.int .i64 x.kind) ∧ w.cell? ⟨b, o + k * 7 + 1, none⟩ = some (.int .i64 x.item) ∧ w.cell? ⟨b, o + k * 7 + 2, none⟩ = some (.int .i64 x.other) ∧ w.cell? ⟨b, o + k * 7 + 3, none⟩ = some (.int .i64 x.n) ∧ w.cell? ⟨b, o + k * 7 + 4, none⟩ = some (.int .i64 x.by_) ∧ w.cell? ⟨b, o + k * 7 + 5, none⟩ = some (.bool x.always) ∧ w.cell? ⟨b, o + k * 7 + 6, none⟩ = some (.slice x.ms.addr x.ms.len x.ms.cap)) := by
  obtain ⟨b, o, e, r⟩ := h.ru.at_ (by have := (List.getElem?_eq_some_iff.1 hx).1; rw [h.lru]; omega)
  have cc := fun (j : Nat) (hj : j < 7) (u : Value) (hu : x.cells[j]? = some u) => r.cell (k * 7 + j) u ((flat_at Ru.cells 7 (fun _ => rfl) hx j hj).trans hu)
  refine ⟨b, o, e, cc 0 (by omega) _ rfl, ?_, ?_, ?_, ?_, ?_, ?_⟩
  · have := cc 1 (by omega) _ rfl; rwa [← Nat.add_assoc] at this
  · have := cc 2 (by omega) _ rfl; rwa [← Nat.add_assoc] at this
  · have := cc 3 (by omega) _ rfl; rwa [← Nat.add_assoc] at this
  · have := cc 4 (by omega) _ rfl; rwa [← Nat.add_assoc] at this
  · have := cc 5 (by omega) _ rfl; rwa [← Nat.add_assoc] at this
  · have := cc 6 (by omega) _ rfl; rwa [← Nat.add_assoc] at this

set_option maxHeartbeats 32000000 in
theorem valid31_any {w : World} {p : MPl} {m : Mdl} (h : MdlIn w p m) (hs : m.Small) (hf : Ful w m) : Calls Try.prog 31 #[mdlVal p m] w (VlPost m w) := by
  have HM0 := Lib.hid (MB.start h)
  have HS := Lib.hid hs
  have HF := Lib.hid hf
  obtain ⟨q, hq⟩ : ∃ q, m.valid = q := ⟨_, rfl⟩
  have HQ := Lib.hid hq
  clear h hs hf hq
  unfold mdlVal
  unfold mdlCells at HM0
  go_enter Try.func31, Try.ntmps31
  go_wp2_with fail
  refine calls_abs (fun W => Hid (MB w W p m w.heap.size)) HM0 ?_
  clear HM0
  generalize w.heap.size = M at *
  intro W HM
  have hZ := rvalid_any HM.out.inn
  unfold mdlVal at hZ
  rw [HQ.out] at hZ
  (with_reducible refine Calls.mono hZ ?_)
  clear hZ
  rintro e W2 ⟨rfl, hs⟩
  have HM := Lib.hid (HM.out.keep hs)
  clear hs
  obtain ⟨c0, c1, c2, c3, c4, c5, c6, c7, c8, c9, c10⟩ := HM.out.all
  cases q
  · go_wp2_with fail
    go_ret
    exact vl_mk false rfl (fun h => by cases h) HM.out.since
  have hli : p.i.len ≤ 24 := by obtain ⟨q1, q2, q3, q4, q5, q6, q7⟩ := HS.out; have := HM.out.inn.li; omega
  have hlr : p.ru.len ≤ 48 := by obtain ⟨q1, q2, q3, q4, q5, q6, q7⟩ := HS.out; have := HM.out.inn.lru; omega
  by_cases h8 : p.i.len ≤ 8
  · by_cases h40 : p.ru.len ≤ 40
    · go_wp2_with fail
      have hZ := names_any HM.out.inn HS.out
      unfold mdlVal at hZ
      (with_reducible refine Calls.mono hZ ?_)
      clear hZ
      rintro e W3 ⟨q3, rfl, hs⟩
      have HM := Lib.hid (HM.out.keep hs)
      clear hs c0 c1 c2 c3 c4 c5 c6 c7 c8 c9 c10 h8 h40 hli hlr
      cases q3
      · go_wp2_with fail
        go_ret
        exact vl_mk false rfl (fun h => by cases h) HM.out.since
      · have HLi : Hid (p.i.len = m.items.length) := HM.out.inn.li
        have hLi : p.i.len ≤ 100 := by obtain ⟨q1, q2, q3, q4, q5, q6, q7⟩ := HS.out; have := HLi.out; omega
        have hcpi := HM.out.inn.i.caps
        obtain ⟨c0, c1, c2, c3, c4, c5, c6, c7, c8, c9, c10⟩ := HM.out.all
        go_wp2_with fail
        go_loopg [3] (p.i.len) (fun gk i wr => ∃ k : Nat, k ≤ p.i.len ∧ Hid (gk + k = p.i.len) ∧ i = .int .i64 k ∧ Hid (MB w wr p m M))
        case atStart => exact ⟨0, Nat.zero_le _, rfl, rfl, HM.out⟩
        case round =>
          obtain ⟨k, hk, HK, rfl, HM1⟩ := hrel
          clear HM c0 c1 c2 c3 c4 c5 c6 c7 c8 c9 c10
          have HM := HM1
          clear HM1
          obtain ⟨c0, c1, c2, c3, c4, c5, c6, c7, c8, c9, c10⟩ := HM.out.all
          by_cases hlt : k < p.i.len
          · obtain ⟨x, hx⟩ : ∃ x, m.items[k]? = some x := ⟨_, List.getElem?_eq_getElem (by have := HLi.out; omega)⟩
            obtain ⟨b, o, hb, e⟩ := it_all HM.out.inn hx
            have HO := Lib.hid ((HF.out.keep HM.out.since).it x (List.mem_of_getElem? hx))
            have HB := Lib.hid hb
            obtain ⟨xn, xk, xc, xl, xs, xh, ⟨xa, xo, xp⟩⟩ := x
            simp only at e
            obtain ⟨e0, e1, e2, e3, e4, e5, e6⟩ := e
            rw [hb] at c5
            clear hb hx
            have hi0 : (0 : Int) ≤ (k : Int) := by omega
            have hi1 : (k : Int) < (p.i.len : Int) := by omega
            have HMd := Lib.hid (HM.out.keep ((Same.refl noB wr).drew))
            go_wp2_with fail
            go_region_held3 (fun w' => w'.cell? ⟨M, 0, none⟩ = some (.slice p.s.addr p.s.len p.s.cap) ∧ w'.cell? ⟨M, 1, none⟩ = some (.slice p.f.addr p.f.len p.f.cap) ∧ w'.cell? ⟨M, 2, none⟩ = some (.slice p.r.addr p.r.len p.r.cap) ∧ w'.cell? ⟨M, 3, none⟩ = some (.slice p.mc.addr p.mc.len p.mc.cap) ∧ w'.cell? ⟨M, 4, none⟩ = some (.slice p.l.addr p.l.len p.l.cap) ∧ w'.cell? ⟨M, 5, none⟩ = some (.slice (some ⟨b, o, none⟩) p.i.len p.i.cap) ∧ w'.cell? ⟨M, 6, none⟩ = some (.int .i64 m.dark) ∧ w'.cell? ⟨M, 7, none⟩ = some (.int .i64 m.slots) ∧ w'.cell? ⟨M, 8, none⟩ = some (.int .i64 m.reserve) ∧ w'.cell? ⟨M, 9, none⟩ = some (.int .i64 m.failures) ∧ w'.cell? ⟨M, 10, none⟩ = some (.slice p.ru.addr p.ru.len p.ru.cap) ∧ w'.cell? ⟨b, o + k * 7, none⟩ = some (.string xn) ∧ w'.cell? ⟨b, o + k * 7 + 1, none⟩ = some (.int .i64 xk) ∧ w'.cell? ⟨b, o + k * 7 + 2, none⟩ = some (.int .i64 xc) ∧ w'.cell? ⟨b, o + k * 7 + 3, none⟩ = some (.int .i64 xl) ∧ w'.cell? ⟨b, o + k * 7 + 4, none⟩ = some (.int .i64 xs) ∧ w'.cell? ⟨b, o + k * 7 + 5, none⟩ = some (.int .i64 xh) ∧ w'.cell? ⟨b, o + k * 7 + 6, none⟩ = some (.slice xa xo xp))
              (first | (refine ⟨?_, ?_, ?_, ?_, ?_, ?_, ?_, ?_, ?_, ?_, ?_, ?_, ?_, ?_, ?_, ?_, ?_, ?_⟩ <;> with_reducible assumption) | go_keep)
              ((go_at_call 47; have hZ := item_any (x := ⟨xn, xk, xc, xl, xs, xh, ⟨xa, xo, xp⟩⟩) HMd.out.inn (HO.out.keep ((Same.refl noB wr).drew)); unfold mdlVal It.val at hZ; dsimp only at hZ; rw [HB.out] at hZ; (with_reducible refine Calls.mono hZ ?_); clear hZ; rintro e W2 ⟨q2, rfl, hs⟩; have HM2 := Lib.hid (HMd.out.keep hs); obtain ⟨c0, c1, c2, c3, c4, c5, c6, c7, c8, c9, c10⟩ := HM2.out.all; rw [HB.out] at c5; have e0 := hs.cell e0 (fun x => x); have e1 := hs.cell e1 (fun x => x); have e2 := hs.cell e2 (fun x => x); have e3 := hs.cell e3 (fun x => x); have e4 := hs.cell e4 (fun x => x); have e5 := hs.cell e5 (fun x => x); have e6 := hs.cell e6 (fun x => x); clear hs))
            cases q2
            · go_wp2_with fail
              go_ret
              exact vl_mk false rfl (fun h => by cases h) HM2.out.since
            · go_wp2_with fail
              go_roundg (gk - 1)
              case measure => have h1 := HK.out; omega
              case rel => exact ⟨k + 1, by omega, by show _ = _; have h1 := HK.out; omega, by go_num, HM2.out⟩
          · obtain rfl : k = p.i.len := by omega
            have HLr : Hid (p.ru.len = m.rules.length) := HM.out.inn.lru
            have hLr : p.ru.len ≤ 100 := by obtain ⟨q1, q2, q3, q4, q5, q6, q7⟩ := HS.out; have := HLr.out; omega
            have hcpr := HM.out.inn.ru.caps
            obtain ⟨c0, c1, c2, c3, c4, c5, c6, c7, c8, c9, c10⟩ := HM.out.all
            go_wp2_with fail
            go_loopg [4] (p.ru.len) (fun gk i wr => ∃ k : Nat, k ≤ p.ru.len ∧ Hid (gk + k = p.ru.len) ∧ i = .int .i64 k ∧ Hid (MB w wr p m M))
            case atStart => exact ⟨0, Nat.zero_le _, rfl, rfl, HM.out⟩
            case round =>
              obtain ⟨k, hk, HK, rfl, HM1⟩ := hrel
              clear HM c0 c1 c2 c3 c4 c5 c6 c7 c8 c9 c10
              have HM := HM1
              clear HM1
              obtain ⟨c0, c1, c2, c3, c4, c5, c6, c7, c8, c9, c10⟩ := HM.out.all
              by_cases hlt : k < p.ru.len
              · obtain ⟨x, hx⟩ : ∃ x, m.rules[k]? = some x := ⟨_, List.getElem?_eq_getElem (by have := HLr.out; omega)⟩
                obtain ⟨b, o, hb, e⟩ := ru_all HM.out.inn hx
                have HO := Lib.hid ((HF.out.keep HM.out.since).ru x (List.mem_of_getElem? hx))
                have HB := Lib.hid hb
                obtain ⟨xk, xi, xo, xn, xb, xa, ⟨ma, mn, mc⟩⟩ := x
                simp only at e
                obtain ⟨e0, e1, e2, e3, e4, e5, e6⟩ := e
                rw [hb] at c10
                clear hb hx
                have hi0 : (0 : Int) ≤ (k : Int) := by omega
                have hi1 : (k : Int) < (p.ru.len : Int) := by omega
                have HMd := Lib.hid (HM.out.keep ((Same.refl noB wr).drew))
                go_wp2_with fail
                go_region_held3 (fun w' => w'.cell? ⟨M, 0, none⟩ = some (.slice p.s.addr p.s.len p.s.cap) ∧ w'.cell? ⟨M, 1, none⟩ = some (.slice p.f.addr p.f.len p.f.cap) ∧ w'.cell? ⟨M, 2, none⟩ = some (.slice p.r.addr p.r.len p.r.cap) ∧ w'.cell? ⟨M, 3, none⟩ = some (.slice p.mc.addr p.mc.len p.mc.cap) ∧ w'.cell? ⟨M, 4, none⟩ = some (.slice p.l.addr p.l.len p.l.cap) ∧ w'.cell? ⟨M, 5, none⟩ = some (.slice p.i.addr p.i.len p.i.cap) ∧ w'.cell? ⟨M, 6, none⟩ = some (.int .i64 m.dark) ∧ w'.cell? ⟨M, 7, none⟩ = some (.int .i64 m.slots) ∧ w'.cell? ⟨M, 8, none⟩ = some (.int .i64 m.reserve) ∧ w'.cell? ⟨M, 9, none⟩ = some (.int .i64 m.failures) ∧ w'.cell? ⟨M, 10, none⟩ = some (.slice (some ⟨b, o, none⟩) p.ru.len p.ru.cap) ∧ w'.cell? ⟨b, o + k * 7, none⟩ = some (.int .i64 xk) ∧ w'.cell? ⟨b, o + k * 7 + 1, none⟩ = some (.int .i64 xi) ∧ w'.cell? ⟨b, o + k * 7 + 2, none⟩ = some (.int .i64 xo) ∧ w'.cell? ⟨b, o + k * 7 + 3, none⟩ = some (.int .i64 xn) ∧ w'.cell? ⟨b, o + k * 7 + 4, none⟩ = some (.int .i64 xb) ∧ w'.cell? ⟨b, o + k * 7 + 5, none⟩ = some (.bool xa) ∧ w'.cell? ⟨b, o + k * 7 + 6, none⟩ = some (.slice ma mn mc))
                  (first | (refine ⟨?_, ?_, ?_, ?_, ?_, ?_, ?_, ?_, ?_, ?_, ?_, ?_, ?_, ?_, ?_, ?_, ?_, ?_⟩ <;> with_reducible assumption) | go_keep)
                  ((go_at_call 48; have hZ := rule_any (x := ⟨xk, xi, xo, xn, xb, xa, ⟨ma, mn, mc⟩⟩) HMd.out.inn (HO.out.keep ((Same.refl noB wr).drew)); unfold mdlVal Ru.val at hZ; dsimp only at hZ; rw [HB.out] at hZ; (with_reducible refine Calls.mono hZ ?_); clear hZ; rintro e W2 ⟨q2, rfl, hs⟩; have HM2 := Lib.hid (HMd.out.keep hs); obtain ⟨c0, c1, c2, c3, c4, c5, c6, c7, c8, c9, c10⟩ := HM2.out.all; rw [HB.out] at c10; have e0 := hs.cell e0 (fun x => x); have e1 := hs.cell e1 (fun x => x); have e2 := hs.cell e2 (fun x => x); have e3 := hs.cell e3 (fun x => x); have e4 := hs.cell e4 (fun x => x); have e5 := hs.cell e5 (fun x => x); have e6 := hs.cell e6 (fun x => x); clear hs))
                cases q2
                · go_wp2_with fail
                  go_ret
                  exact vl_mk false rfl (fun h => by cases h) HM2.out.since
                · go_wp2_with fail
                  go_roundg (gk - 1)
                  case measure => have h1 := HK.out; omega
                  case rel => exact ⟨k + 1, by omega, by show _ = _; have h1 := HK.out; omega, by go_num, HM2.out⟩
              · obtain rfl : k = p.ru.len := by omega
                go_wp2_with (first
                  | (go_at_call 49; refine (within_any _ _ _ _).mono ?_; rintro e W3 ⟨rfl, rfl⟩)
                  | (go_at_call 29; refine (rexists_any _ _ _).mono ?_; rintro e W3 ⟨rfl, rfl⟩))
                all_goals
                  go_ret
                  exact vl_mk _ rfl (fun _ => HQ.out) HM.out.since
    · go_wp2_with fail
      go_ret
      exact vl_mk false rfl (fun h => by cases h) HM.out.since
  · go_wp2_with fail
    go_ret
    exact vl_mk false rfl (fun h => by cases h) HM.out.since
end Go.Proofs.Ytpngmodgnkjhnaa
