/- Layer 14: the reference's distances, walked. -/
import Derived.Test.YtkmclglphelhdaaRoutD
namespace Go.Proofs.Ytkmclglphelhdaa
open Go Go.RowKit Go.Maps

theorem lev_zero (nb : Int → List Int) (b s : Int) : lev nb b 0 s = if s = b then 0 else -1 := rfl
def dF (m : Mdl) (b : Int) (p : Nat) : Int := if p = 0 then -1 else dst m.near m.sites.length b (p : Int)
set_option maxRecDepth 100000 in
set_option maxHeartbeats 8000000 in
theorem rdist_any {w : World} {p : MPl} {m : Mdl} (h : MdlIn w p m) {b : Int} (hls : m.sites.length ≤ 1000000) (hll : m.links.length ≤ 1000000) (hb : exB b m.sites.length = true) :
    Calls Try.prog 50 #[mdlVal p m, .int .i64 b] w fun e w' => ∃ v', e = .returned v' ∧ AppAt w w' v' (p.s.len + 1) 3 1 (fCells (dF m b) p.s.len) := by
  obtain ⟨j, rfl, hj⟩ := exB_at hb
  have HMB := Lib.hid (MB.start h)
  have HIN := Lib.hid h
  have HLN := Lib.hid h.ls
  have HLS := Lib.hid hls
  have HLL := Lib.hid hll
  have hj2 : j < p.s.len := by rw [HLN.out]; exact hj
  have hN : p.s.len ≤ 1000000 := by rw [HLN.out]; exact hls
  clear h hb hj hls hll
  obtain ⟨wm, hmk, hown, hsm⟩ := make_zero (w.alloc (.cells (mdlCells p m) 29)) p.s.len hN
  have hz : (w.alloc (.cells (mdlCells p m) 29)).heap.size = w.heap.size + 1 := by simp
  rw [hz] at hmk hown
  have c0 := HMB.out.c0
  have HP : Hid (FI w wm p m w.heap.size (w.heap.size + 1) p.s.len (fun _ => 0)) := ⟨HMB.out.keep hsm, by rw [← zero_f]; exact hown, by omega⟩
  clear hown hsm HMB hz
  unfold mdlVal
  unfold mdlCells at *
  go_enter Try.func50, Try.ntmps50
  go_wp2_with fail
  clear hmk c0
  generalize w.heap.size = M at *
  generalize M + 1 = g at *
  go_loopg [6] (p.s.len + 1) (fun k i wr => ∃ s : Nat, s ≤ p.s.len + 1 ∧ Hid (k + s = p.s.len + 1) ∧ i = .int .i64 s ∧ Hid (FI w wr p m M g p.s.len (fun q => if q < s then -1 else 0)))
  case atStart => exact ⟨0, Nat.zero_le _, rfl, rfl, HP.out.congr (fun q _ => by simp)⟩
  case round =>
    obtain ⟨s, hs, HK, rfl, HF⟩ := hrel
    clear HP
    by_cases hlt : s < p.s.len + 1
    · obtain ⟨f1, f2, f3⟩ := HF.out.at_ (i := s) (by omega)
      have HF2 : Hid (FI w (wr.setCell ⟨g, s, none⟩ (.int .i64 (-1))) p m M g p.s.len (fun q => if q < s + 1 then -1 else 0)) := HF.out.set_ HIN.out s (-1) (fun q _ => by
        by_cases e : q = s
        · rw [if_pos (by omega), if_pos e]
        · rw [if_neg e]
          by_cases e2 : q < s
          · rw [if_pos (by omega), if_pos e2]
          · rw [if_neg (by omega), if_neg e2])
      go_wp2_with fail
      go_roundg (gk - 1)
      case measure => have h1 := HK.out; omega
      case rel => exact ⟨s + 1, by omega, by show _ = _; have h1 := HK.out; omega, by go_num, HF2.out⟩
    · obtain rfl : s = p.s.len + 1 := by omega
      obtain ⟨f1, f2, f3⟩ := HF.out.at_ (i := j + 1) (by omega)
      have HF2 : Hid (FI w (wr.setCell ⟨g, j + 1, none⟩ (.int .i64 0)) p m M g p.s.len (dcl m.near ((j : Int) + 1) 0 1 0)) := HF.out.set_ HIN.out (j + 1) 0 (fun q hq => by
        show _ = if q = j + 1 then 0 else (if q < p.s.len + 1 then -1 else 0)
        rw [dcl_start, lev_zero, show (if q < p.s.len + 1 then (-1 : Int) else 0) = -1 from if_pos (by omega)]
        by_cases e : q = j + 1
        · rw [if_neg (by omega), if_pos (by omega), if_pos e]
        · rw [if_neg e]
          split
          · rfl
          · rw [if_neg (by omega)])
      go_wp2_with fail
      generalize wr.setCell ⟨g, j + 1, none⟩ (.int .i64 0) = wz at *
      clear f1 f2 f3 HF
      go_loopg [7] (p.s.len) (fun k i wr => ∃ d : Nat, d ≤ p.s.len ∧ Hid (k + d = p.s.len) ∧ i = .int .i64 d ∧ Hid (FI w wr p m M g p.s.len (dcl m.near ((j : Int) + 1) d 1 0)))
      case atStart => exact ⟨0, Nat.zero_le _, rfl, rfl, HF2.out⟩
      case round =>
        obtain ⟨d, hd, HK, rfl, HF⟩ := hrel
        obtain ⟨kd, rfl⟩ : ∃ kd : Nat, kd = gk := ⟨_, rfl⟩
        clear HF2
        have c0 := HF.out.mb.c0
        by_cases hlt : d < p.s.len
        · go_wp2_with fail
          clear c0
          go_loopg [8] (p.s.len) (fun k i wr => ∃ s : Nat, 1 ≤ s ∧ s ≤ p.s.len + 1 ∧ Hid (k + s = p.s.len + 1) ∧ i = .int .i64 s ∧ Hid (FI w wr p m M g p.s.len (dcl m.near ((j : Int) + 1) d s 0)))
          case atStart => exact ⟨1, Nat.le_refl _, by omega, rfl, rfl, HF.out⟩
          case round =>
            obtain ⟨s, hs1, hs, HK1, rfl, HG⟩ := hrel
            obtain ⟨ks, rfl⟩ : ∃ ks : Nat, ks = gk := ⟨_, rfl⟩
            clear HF
            by_cases hlt2 : s < p.s.len + 1
            · obtain ⟨c0, c1, c2, c3, c4, c5, c6, c7, c8, c9, c10⟩ := HG.out.mb.all
              go_wp2_with fail
              have hZ := rnear_any HG.out.mb.inn (s := (s : Int)) HLS.out HLL.out
              unfold mdlVal at hZ
              (with_reducible refine Calls.mono hZ ?_)
              clear hZ
              rintro e W6 ⟨v6, rfl, ha⟩
              have hgl := (HG.out.at_ (i := 0) (Nat.zero_le _)).2.2
              obtain ⟨A6, c6', rfl, hc61, hc62, hr6⟩ := (ha.rd (bad := oneB g) (fun b e => by rw [show b = g from e]; exact hgl)).form
              have HR := Lib.hid hr6
              have HG6 := Lib.hid (HG.out.keep ha.since)
              have hnl : (m.near (s : Int)).length ≤ 1000000 := Nat.le_trans (near_len m _) HLS.out
              clear ha hr6 hc61 hc62 hgl HG c0 c1 c2 c3 c4 c5 c6 c7 c8 c9 c10
              go_wp2_with fail
              go_loopg [10] ((m.near (s : Int)).length) (fun k i wr => ∃ t : Nat, t ≤ (m.near (s : Int)).length ∧ Hid (k + t = (m.near (s : Int)).length) ∧ i = .int .i64 t ∧ Hid (FI w wr p m M g p.s.len (dcl m.near ((j : Int) + 1) d s t) ∧ Same (oneB g) W6 wr))
              case atStart => exact ⟨0, Nat.zero_le _, rfl, rfl, HG6.out, Same.refl _ _⟩
              case round =>
                obtain ⟨t, ht, HK2, rfl, HT⟩ := hrel
                clear HG6
                by_cases hlt3 : t < (m.near (s : Int)).length
                · obtain ⟨nb, no, rfl, r⟩ := HR.out.at_ (by omega)
                  obtain ⟨x, hx⟩ : ∃ x, (m.near (s : Int))[t]? = some x := ⟨_, List.getElem?_eq_getElem hlt3⟩
                  have hxr := (near_gr m).rng _ _ (List.mem_of_getElem? hx)
                  rw [← HLN.out] at hxr
                  obtain ⟨q, rfl⟩ : ∃ q : Nat, x = (q : Int) := ⟨x.toNat, by omega⟩
                  have p0 := HT.out.2.cell (r.cell t _ (icells_at hx)) r.ok
                  have hq1 : 1 ≤ q := by omega
                  have hqN : q ≤ p.s.len := by omega
                  obtain ⟨f1, f2, f3⟩ := HT.out.1.at_ (i := s) (by omega)
                  have f4 := (HT.out.1.at_ (i := q) hqN).1
                  have HST := Lib.hid (stp_step (nb := m.near) (b := (j : Int) + 1) (d := d) hx)
                  have HEQ := Lib.hid (dcl_eq (nb := m.near) (b := (j : Int) + 1) (d := d) (s := s) (i := t) (p := q) (by omega))
                  have HAT := Lib.hid (dcl_at (nb := m.near) (b := (j : Int) + 1) (d := d) s t hs1)
                  have hrs := dcl_range (nb := m.near) (b := (j : Int) + 1) (d := d) s t s
                  have hrq := dcl_range (nb := m.near) (b := (j : Int) + 1) (d := d) s t q
                  clear r hx hxr
                  have HKEEP : Hid (stp m.near ((j : Int) + 1) d (s : Int) (t + 1) = stp m.near ((j : Int) + 1) d (s : Int) t → FI w wr p m M g p.s.len (dcl m.near ((j : Int) + 1) d s (t + 1))) := fun e => HT.out.1.congr (fun a _ => by
                    rw [dcl_step a hs1 e]
                    by_cases ea : a = s
                    · subst ea
                      rw [if_pos rfl]
                      exact HAT.out
                    · rw [if_neg ea])
                  have HSET : Hid (stp m.near ((j : Int) + 1) d (s : Int) (t + 1) = (d : Int) + 1 → FI w (wr.setCell ⟨g, s, none⟩ (.int .i64 ((d : Int) + 1))) p m M g p.s.len (dcl m.near ((j : Int) + 1) d s (t + 1))) := fun e => HT.out.1.set_ HIN.out s ((d : Int) + 1) (fun a _ => dcl_step a hs1 e)
                  generalize hS : dcl m.near ((j : Int) + 1) d s t s = fs at *
                  generalize hQ : dcl m.near ((j : Int) + 1) d s t q = fq at *
                  have HSE : Hid (stp m.near ((j : Int) + 1) d (s : Int) t = fs) := HAT.out.symm
                  clear hS hQ HAT
                  by_cases h0 : fs < 0
                  · cases he : (fq == (d : Int))
                    · have HK3 : Hid (FI w wr p m M g p.s.len (dcl m.near ((j : Int) + 1) d s (t + 1))) := HKEEP.out (by rw [HST.out, ← HEQ.out, he]; simp)
                      go_wp2_with fail
                      go_roundg (gk - 1)
                      case measure => have h1 := HK2.out; omega
                      case rel => exact ⟨t + 1, by omega, by show _ = _; have h1 := HK2.out; omega, by go_num, HK3.out, HT.out.2⟩
                    · have HK3 : Hid (FI w (wr.setCell ⟨g, s, none⟩ (.int .i64 ((d : Int) + 1))) p m M g p.s.len (dcl m.near ((j : Int) + 1) d s (t + 1))) := HSET.out (by rw [HST.out, ← HEQ.out, he, HSE.out]; simp [h0])
                      go_wp2_with fail
                      go_roundg (gk - 1)
                      case measure => have h1 := HK2.out; omega
                      case rel => exact ⟨t + 1, by omega, by show _ = _; have h1 := HK2.out; omega, by go_num, HK3.out, HT.out.2.set1 _ _⟩
                  · have HK3 : Hid (FI w wr p m M g p.s.len (dcl m.near ((j : Int) + 1) d s (t + 1))) := HKEEP.out (by rw [HST.out, HSE.out]; simp [h0])
                    go_wp2_with fail
                    go_roundg (gk - 1)
                    case measure => have h1 := HK2.out; omega
                    case rel => exact ⟨t + 1, by omega, by show _ = _; have h1 := HK2.out; omega, by go_num, HK3.out, HT.out.2⟩
                · obtain rfl : t = (m.near (s : Int)).length := by omega
                  have HG2 : Hid (FI w wr p m M g p.s.len (dcl m.near ((j : Int) + 1) d (s + 1) 0)) := HT.out.1.congr (fun a _ => dcl_row hs1 a)
                  go_wp2_with fail
                  go_roundg (ks - 1)
                  case measure => have h1 := HK1.out; omega
                  case rel => exact ⟨s + 1, by omega, by omega, by show _ = _; have h1 := HK1.out; omega, by go_num, HG2.out⟩
            · obtain rfl : s = p.s.len + 1 := by omega
              have HF2 : Hid (FI w wr p m M g p.s.len (dcl m.near ((j : Int) + 1) (d + 1) 1 0)) := HG.out.congr (fun a ha => dcl_end a ha)
              go_wp2_with fail
              go_roundg (kd - 1)
              case measure => have h1 := HK.out; omega
              case rel => exact ⟨d + 1, by omega, by show _ = _; have h1 := HK.out; omega, by go_num, HF2.out⟩
        · obtain rfl : d = p.s.len := by omega
          have HR : Hid (AppAt w wr (.slice (some ⟨g, 0, none⟩) (p.s.len + 1) (p.s.len + 1)) (p.s.len + 1) 3 1 (fCells (dF m ((j : Int) + 1)) p.s.len)) := by
            have h1 := HF.out.congr (F' := dF m ((j : Int) + 1)) (fun a _ => by rw [dcl_start]; unfold dF dst; rw [HLN.out])
            exact ⟨h1.own, fun b hb => by simp [Value.ownBlock] at hb; have := h1.lo; omega, h1.mb.since⟩
          go_wp2_with fail
          go_ret
          exact ⟨_, rfl, HR.out⟩
end Go.Proofs.Ytkmclglphelhdaa
