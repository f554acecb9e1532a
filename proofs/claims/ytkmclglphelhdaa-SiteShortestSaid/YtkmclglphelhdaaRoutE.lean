/- Layer 14: the walk of the program's Route, for any model. (printed by genRoutE.py) -/
import Derived.Test.YtkmclglphelhdaaRoutC
namespace Go.Proofs.Ytkmclglphelhdaa
open Go Go.RowKit Go.Maps

theorem St.mb {w W : World} {p : MPl} {m : Mdl} {M B : Nat} {a : Int} {h k : Nat} {Q : List Int} {par : Int → Option Int} {g o c n : Nat} (H : St w W p m M B a h k Q par g o c n) : MB w W p m M := by
  obtain ⟨nm, hr⟩ := H.rq
  exact hr.mb
theorem St.glt {w W : World} {p : MPl} {m : Mdl} {M B : Nat} {a : Int} {h k : Nat} {Q : List Int} {par : Int → Option Int} {g o c n : Nat} (H : St w W p m M B a h k Q par g o c n) : g < W.heap.size ∧ B < W.heap.size := by
  obtain ⟨nm, hr⟩ := H.rq
  exact ⟨hr.qu.lt, hr.map.lt⟩
theorem near_in {m : Mdl} {v s : Int} {k : Nat} (hls : m.sites.length ≤ 1000000) (h : (m.near v)[k]? = some s) : 1 ≤ s ∧ s ≤ (m.sites.length : Int) ∧ inI64 s := by
  have := (near_gr m).rng _ _ (List.mem_of_getElem? h)
  exact ⟨this.1, this.2, inI64_of (by omega) (by omega)⟩
theorem St.find {w W : World} {p : MPl} {m : Mdl} {M B : Nat} {a : Int} {h k : Nat} {Q : List Int} {par : Int → Option Int} {g o c n : Nat} (H : St w W p m M B a h k Q par g o c n) {s : Int} (hs : inI64 s) :
    (Instr.lookup 69 (.map (some B)) (.int .i64 s) true).run Try.prog W = .ok (.tuple #[.int .i64 ((par s).getD 0), .bool (par s).isSome]) W ∧ (Instr.lookup 69 (.map (some B)) (.int .i64 s) false).run Try.prog W = .ok (.int .i64 ((par s).getD 0)) W := by
  obtain ⟨nm, hr⟩ := H.rq
  have h1 := hr.map.lookup Try.underlying69 (zero3 W) hs true
  have h2 := hr.map.lookup Try.underlying69 (zero3 W) hs false
  unfold pf at h1 h2
  cases hp : par s with
  | none => rw [hp] at h1 h2; exact ⟨h1, h2⟩
  | some y => rw [hp] at h1 h2; exact ⟨h1, h2⟩

set_option maxRecDepth 100000 in
set_option maxHeartbeats 8000000 in
theorem route_yes {w : World} {p : MPl} {m : Mdl} (h : MdlIn w p m) {a b : Int} (hls : m.sites.length ≤ 1000000) (hll : m.links.length ≤ 1000000) (ha : exB a m.sites.length = true) (hb : exB b m.sites.length = true) :
    Calls Try.prog 28 #[mdlVal p m, .int .i64 a, .int .i64 b] w fun e w' => ∃ v', e = .returned v' ∧ Rd w' noB 1 v' (m.route a b).length (icells (m.route a b)) ∧ Same noB w w' := by
  have ha' := exB_iff.1 ha
  have hb' := exB_iff.1 hb
  have hai : inI64 a := inI64_of (by omega) (by omega)
  have HBI : Hid (inI64 b) := inI64_of (by omega) (by omega)
  have hmb := MB.start h
  have hM := MapF.made eI (w.alloc (.cells (mdlCells p m) 29))
  have hz : (w.alloc (.cells (mdlCells p m) 29)).heap.size = w.heap.size + 1 := by simp
  rw [hz] at hM
  obtain ⟨w1, r1, hM1, g1⟩ := hM.store Try.underlying69 (k := a) hai (.int .i64 0)
  have s1 : Same noB w w1 := (hmb.since.alloc _).grown g1 (fun k e hk => by injection e with e; omega)
  have b1 : Blk w1 w.heap.size 29 (mdlCells p m) := (hmb.box.alloc _).same (Same.of_grown g1) (fun e => by injection e with e; omega)
  have HX : Hid (St w (w1.alloc (.cells #[.int .i64 a] 3)) p m w.heap.size (w.heap.size + 1) a 0 0 [a] (fun s => if s = a then some 0 else none) w1.heap.size 0 1 1) :=
    ⟨⟨_, _, BI.start ha'.1 ha'.2⟩, ⟨1, ⟨h, s1.alloc _, b1.alloc _, by rw [pf_start]; exact hM1.same ((Same.refl noB _).alloc _) (fun x => x), Qu.one w1 a, s1.size, by omega⟩⟩, rfl, by simp⟩
  have e1 : (Instr.mapUpdate 69 (.map (some (w.heap.size + 1))) (.int .i64 a) (.int .i64 0)).run Try.prog ((w.alloc (.cells #[.slice p.s.addr p.s.len p.s.cap, .slice p.f.addr p.f.len p.f.cap, .slice p.r.addr p.r.len p.r.cap, .slice p.mc.addr p.mc.len p.mc.cap, .slice p.l.addr p.l.len p.l.cap, .slice p.i.addr p.i.len p.i.cap, .int .i64 m.dark, .int .i64 m.slots, .int .i64 m.reserve, .int .i64 m.failures, .slice p.ru.addr p.ru.len p.ru.cap] 29)).alloc (.map #[] 0)) = .ok () w1 := r1
  have HE2 : Hid (exB a p.s.len = true) := by show exB _ _ = true; rw [h.ls]; exact ha
  have HE1 : Hid (exB b p.s.len = true) := by show exB _ _ = true; rw [h.ls]; exact hb
  have HRT : Hid (m.route a b = rt m.near m.sites.length a b) := by show m.route a b = _; unfold Mdl.route; rw [ha, hb]; rfl
  have HLS := Lib.hid hls
  have HLL := Lib.hid hll
  clear hmb hM hz r1 hM1 g1 h s1 b1 ha hb ha' hb' hai hll
  generalize m.route a b = rr at *
  unfold mdlVal
  have hmm := @run_makeMap Try.prog
  go_enter Try.func28, Try.ntmps28
  go_wp2_with fail
  refine (exists_any a p.s.len _).mono ?_
  rintro e w2 ⟨rfl, rfl⟩
  rw [HE2.out]
  go_wp2_with fail
  refine (exists_any b p.s.len _).mono ?_
  rintro e w2 ⟨rfl, rfl⟩
  rw [HE1.out]
  go_wp2_with fail
  refine wp_abs (fun W => Hid (St w W p m w.heap.size (w.heap.size + 1) a 0 0 [a] (fun s => if s = a then some 0 else none) w1.heap.size 0 1 1)) HX ?_
  clear HX e1 HE1 HE2 hmm
  generalize hMm : w.heap.size = M at *
  have HMm := Lib.hid hMm
  clear hMm
  generalize M + 1 = B at *
  generalize w1.heap.size = G at *
  clear w1
  intro W HX
  go_loopg [8] (m.sites.length) (fun k q wr => ∃ (h : Nat) (Q : List Int) (par : Int → Option Int) (g o c n : Nat), Hid (k + h = m.sites.length) ∧ q = .slice (some ⟨g, o, none⟩) n c ∧ Hid (St w wr p m M B a h 0 Q par g o c n))
  case atStart => exact ⟨0, [a], _, G, 0, 1, 1, rfl, rfl, HX⟩
  case round =>
    obtain ⟨h, Q, par, g, o, c, n, HK, rfl, HS⟩ := hrel
    clear HX
    obtain ⟨hQN, _, hnc, hcm, hnh⟩ := HS.out.bound
    unfold maxLen at hcm
    have hnb : n ≤ 1000000 := by
      by_cases h0 : 0 < n
      · have := hnh h0; omega
      · omega
    clear hnh
    by_cases hn : 0 < n
    · obtain ⟨v, hv, hq0, hev, hvi⟩ := HS.out.head hn
      have HV := Lib.hid hv
      have HEV := Lib.hid hev
      clear hv hev hvi
      obtain ⟨c0, c1, c2, c3, c4, c5, c6, c7, c8, c9, c10⟩ := HS.out.mb.all
      have HSd := Lib.hid (HS.out.keep ((Same.refl noB wr).drew))
      have hNZ := near_any HSd.out.mb.inn (s := v) HLS.out HLL.out
      unfold mdlVal at hNZ
      have HNZ := Lib.hid hNZ
      have HGL : Hid (g < wr.drew.heap.size ∧ B < wr.drew.heap.size) := HSd.out.glt
      clear hNZ HS
      go_wp2_with fail
      go_region_held3 (fun w' => w'.cell? ⟨M, 0, none⟩ = some (.slice p.s.addr p.s.len p.s.cap) ∧ w'.cell? ⟨M, 1, none⟩ = some (.slice p.f.addr p.f.len p.f.cap) ∧ w'.cell? ⟨M, 2, none⟩ = some (.slice p.r.addr p.r.len p.r.cap) ∧ w'.cell? ⟨M, 3, none⟩ = some (.slice p.mc.addr p.mc.len p.mc.cap) ∧ w'.cell? ⟨M, 4, none⟩ = some (.slice p.l.addr p.l.len p.l.cap) ∧ w'.cell? ⟨M, 5, none⟩ = some (.slice p.i.addr p.i.len p.i.cap) ∧ w'.cell? ⟨M, 6, none⟩ = some (.int .i64 m.dark) ∧ w'.cell? ⟨M, 7, none⟩ = some (.int .i64 m.slots) ∧ w'.cell? ⟨M, 8, none⟩ = some (.int .i64 m.reserve) ∧ w'.cell? ⟨M, 9, none⟩ = some (.int .i64 m.failures) ∧ w'.cell? ⟨M, 10, none⟩ = some (.slice p.ru.addr p.ru.len p.ru.cap) ∧ w'.cell? ⟨g, o, none⟩ = some (.int .i64 v))
        (first | (refine ⟨?_, ?_, ?_, ?_, ?_, ?_, ?_, ?_, ?_, ?_, ?_, ?_⟩ <;> with_reducible assumption) | go_keep)
        ((go_at_call 26; have hZ := HNZ.out; (with_reducible refine Calls.mono hZ ?_); clear hZ; rintro e W2 ⟨v2, rfl, ha⟩; obtain ⟨A2, c2', rfl, hc21, hc22, hr2⟩ := (ha.rd (bad := twoB g B) (fun b e => by rcases e with e | e; (rw [e]; exact HGL.out.1); (rw [e]; exact HGL.out.2))).form; have HS2 := Lib.hid (HSd.out.keep ha.since); have HN2 := Lib.hid hr2; have hq0 := ha.since.cell (show wr.drew.cell? ⟨g, o, none⟩ = some (.int .i64 v) from hq0) (fun x => x); obtain ⟨c0, c1, c2, c3, c4, c5, c6, c7, c8, c9, c10⟩ := HS2.out.mb.all; clear ha hr2))
      clear HNZ HSd HGL c0 c1 c2 c3 c4 c5 c6 c7 c8 c9 c10
      have hnl : (m.near v).length ≤ 1000000 := Nat.le_trans (near_len m v) HLS.out
      go_wp2_with fail
      go_loopw [8, 47] (fun q i wr => ∃ (k : Nat) (Q : List Int) (par : Int → Option Int) (g o c n : Nat), k ≤ (m.near v).length ∧ i = .int .i64 k ∧ q = .slice (some ⟨g, o, none⟩) n c ∧ 0 < n ∧
        Hid (St w wr p m M B a h k Q par g o c n ∧ Q[h]? = some v ∧ Rd wr (twoB g B) 1 (.slice A2 (m.near v).length c2') (m.near v).length (icells (m.near v)))) (fun _ i _ => (m.near v).length - (intOf i).toNat)
      case atStart => exact ⟨0, Q, par, g, o, c, n, Nat.zero_le _, rfl, rfl, hn, HS2.out, HV.out, HN2.out⟩
      case round =>
        obtain ⟨k, Q, par, g, o, c, n, hk, rfl, rfl, hn, HI⟩ := hrel
        clear HS2 HV HN2 hq0 hQN hnc hcm hnb
        obtain ⟨hQN, _, hnc, hcm, hnh⟩ := HI.out.1.bound
        unfold maxLen at hcm
        have hnb : n ≤ 1000000 := by
          have := hnh hn; omega
        clear hnh
        by_cases hlt : k < (m.near v).length
        · obtain ⟨nb, no, rfl, r⟩ := HI.out.2.2.at_ (by omega)
          obtain ⟨s, hs⟩ : ∃ s, (m.near v)[k]? = some s := ⟨_, List.getElem?_eq_getElem hlt⟩
          have p0 := r.cell k _ (icells_at hs)
          obtain ⟨v', hv', hq0, _, _⟩ := HI.out.1.head hn
          obtain rfl : v' = v := by have h1 := HI.out.2.1; rw [hv'] at h1; injection h1
          have hsi := (near_in HLS.out hs).2.2
          have hl := (HI.out.1.find hsi).1
          have HSn := Lib.hid hs
          have HSi := Lib.hid hsi
          clear r hs hsi hv'
          cases hp : par s with
          | some y =>
            rw [hp] at hl
            have hl1 : (Instr.lookup 69 (.map (some B)) (.int .i64 s) true).run Try.prog wr = .ok (.tuple #[.int .i64 y, .bool true]) wr := hl
            have HO : Hid (St w wr p m M B a h (k + 1) Q par g o c n) := HI.out.1.old HI.out.2.1 HSn.out (by rw [hp]; simp)
            clear hl hp
            go_wp2_with fail
            go_roundw
            case rel => exact ⟨k + 1, Q, par, g, o, c, n, by omega, by go_num, rfl, hn, HO.out, HI.out.2.1, HI.out.2.2⟩
            case measure => simp [intOf]; omega
          | none =>
            rw [hp] at hl
            have hl1 : (Instr.lookup 69 (.map (some B)) (.int .i64 s) true).run Try.prog wr = .ok (.tuple #[.int .i64 0, .bool false]) wr := hl
            have HP := Lib.hid hp
            clear hl hp
            obtain ⟨J, K, hbi⟩ := HI.out.1.bi
            obtain ⟨nm, hrq⟩ := HI.out.1.rq
            obtain ⟨W3, r3, hM3, g3⟩ := hrq.map.store Try.underlying69 (k := s) HSi.out (.int .i64 v')
            have r3' : (Instr.mapUpdate 69 (.map (some B)) (.int .i64 s) (.int .i64 v')).run Try.prog wr = .ok () W3 := r3
            have HR3 := Lib.hid (hrq.upd hM3 g3)
            have HG3 := Lib.hid g3
            have HN := Lib.hid HI.out.1.n
            clear r3 hM3 g3 hrq hbi
            go_wp2_with (at_builtin; refine wpL_qapp rfl _ _ rfl rfl HN.out (HR3.out.keep ((Same.refl _ _).alloc _)).qu rfl (y := s) (by rw [Addr.add_lit]; exact (Blk.new W3 3 #[.int .i64 s]).cell 0) (by rw [← HN.out]; omega) ?_; intro g' o' c' W4 hq4 hg4 hat4; have HS4 := Lib.hid (St.new HI.out.1 HI.out.2.1 HSn.out HP.out ((HR3.out.keep ((Same.refl _ _).alloc (.cells #[.int .i64 s] 3))).app hq4 hg4 hat4)); have HN4 := Lib.hid (rd_step HI.out.2.2 HG3.out hg4 hat4); clear hq4 hg4 hat4)
            go_roundw
            case rel => exact ⟨k + 1, Q ++ [s], _, g', o', c', n + 1, by omega, by go_num, rfl, by omega, HS4.out, by rw [List.getElem?_append_left (List.getElem?_eq_some_iff.1 HI.out.2.1).1]; exact HI.out.2.1, HN4.out⟩
            case measure => simp [intOf]; omega
        · obtain rfl : k = (m.near v).length := by omega
          have HNX := Lib.hid (HI.out.1.next hn HI.out.2.1 rfl)
          have HK1 : Hid (gk - 1 < gk ∧ gk - 1 + (h + 1) = m.sites.length) := by
            have h1 := HK.out
            have h2 := (List.getElem?_eq_some_iff.1 HI.out.2.1).1
            exact ⟨by omega, by omega⟩
          by_cases hc1 : c = 1
          · subst hc1
            obtain rfl : n = 1 := by omega
            go_wp2_with fail
            go_roundg (gk - 1)
            case measure => exact HK1.out.1
            case rel => exact ⟨h + 1, Q, par, g, o, 0, 0, HK1.out.2, rfl, by have h1 := HNX.out; rw [if_pos True.intro] at h1; exact h1⟩
          · go_wp2_with fail
            go_roundg (gk - 1)
            case measure => exact HK1.out.1
            case rel => exact ⟨h + 1, Q, par, g, o + 1, c - 1, n - 1, HK1.out.2, rfl, by have h1 := HNX.out; rw [if_neg hc1] at h1; exact h1⟩
    · obtain rfl : n = 0 := by omega
      have HHQ : Hid (h = Q.length) := by
        have h1 := HS.out.n
        rw [List.length_drop] at h1
        have h2 := HS.out.hl
        show h = _
        omega
      have hl := (HS.out.find HBI.out).1
      obtain ⟨J, K, hbi⟩ := HS.out.bi
      have HBQ := Lib.hid hbi
      obtain ⟨nm, hrq⟩ := HS.out.rq
      cases hp : par b with
      | none =>
        rw [hp] at hl
        have hl1 : (Instr.lookup 69 (.map (some B)) (.int .i64 b) true).run Try.prog wr = .ok (.tuple #[.int .i64 0, .bool false]) wr := hl
        have HRR : Hid (rr = []) := by
          have h1 := HBQ.out
          rw [HHQ.out] at h1
          show rr = []
          rw [HRT.out]
          exact h1.no (near_gr m) (fun hm => (h1.dom b).1 hm hp)
        have HSI := Lib.hid hrq.since
        clear hl hp hrq hbi
        go_wp2_with fail
        go_ret
        exact ⟨_, rfl, by rw [HRR.out]; exact Rd.nil_ _ _ _, HSI.out⟩
      | some y =>
        rw [hp] at hl
        have hl1 : (Instr.lookup 69 (.map (some B)) (.int .i64 b) true).run Try.prog wr = .ok (.tuple #[.int .i64 y, .bool true]) wr := hl
        obtain ⟨L, hL⟩ : ∃ L : List Int, L[0]? = some b ∧ (∀ (t : Nat) (u : Int), L[t]? = some u → par u = some ((L[t + 1]?).getD 0) ∧ 1 ≤ u ∧ u ≤ (m.sites.length : Int)) ∧ rr = L.reverse ∧ L.length ≤ m.sites.length := by
          have h1 := HBQ.out
          rw [HHQ.out] at h1
          obtain ⟨L, l1, l2, l3⟩ := h1.yes (near_gr m) (b := b) ((h1.dom b).2 (by rw [hp]; simp))
          have hra := h1.rng a (List.mem_of_getElem? h1.st)
          have h3 := rt_le (near_gr m) (b := b) hra.1 hra.2
          rw [l3, List.length_reverse] at h3
          exact ⟨L, l1, fun t u hu => ⟨(l2 t u hu).1, h1.rng u (l2 t u hu).2⟩, by rw [HRT.out]; exact l3, h3⟩
        have HL := Lib.hid hL
        have hLb : L.length ≤ 1000000 := Nat.le_trans hL.2.2.2 hls
        have hL0 : 0 < L.length := (List.getElem?_eq_some_iff.1 hL.1).1
        have HO : Hid (RtI w wr p m M B nm (pf par) (.slice none 0 0) 0 (icells (L.take 0))) := ⟨hrq.inn, hrq.since, hrq.box, hrq.map, World.ownsRow_nil _ _ _ _, fun g hg => by simp [Value.ownBlock] at hg, hrq.lb⟩
        clear hl hp hrq hbi hL hnc hcm hQN
        go_wp2_with fail
        go_loopg [15, 16] (L.length) (fun k out s wr3 => ∃ (t : Nat) (A : Option Addr) (c n : Nat) (u : Int), Hid (k + t = L.length) ∧ s = .int .i64 u ∧ out = .slice A n c ∧ Hid (n = t) ∧ Hid (u = (L[t]?).getD 0) ∧ Hid (RtI w wr3 p m M B nm (pf par) (.slice A n c) n (icells (L.take t))))
        case atStart => exact ⟨0, none, 0, 0, b, rfl, rfl, rfl, rfl, by show b = _; rw [HL.out.1]; rfl, HO.out⟩
        case round =>
          obtain ⟨t, A, c3, n3, u, HK3, rfl, rfl, HN3, HU, HR⟩ := hrel
          clear HO
          by_cases hlt : t < L.length
          · obtain ⟨u', hu'⟩ : ∃ u, L[t]? = some u := ⟨_, List.getElem?_eq_getElem hlt⟩
            obtain rfl : u = u' := by have h1 := HU.out; rw [hu'] at h1; exact h1
            obtain ⟨hpu, hu1, hu2⟩ := HL.out.2.1 t u hu'
            have HPU := Lib.hid hpu
            have HUI : Hid (inI64 u) := inI64_of (by omega) (by omega)
            have HTK : Hid (icells (L.take (t + 1)) = icells (L.take t) ++ [.int .i64 u]) := by
              show icells _ = _
              rw [List.take_add_one, hu', ← icells_snoc]
              rfl
            have hn3 : n3 ≤ 1000000 := by rw [HN3.out]; omega
            clear hpu hu'
            go_wp2_with (at_builtin; refine wpL_app slI rfl _ _ rfl rfl ((HR.out.keep ((Same.refl _ _).alloc _)).own) rfl (bad := noB) (Rd.of_blk (Blk.new wr 3 [Value.int .i64 u].toArray) (fun x => x) (by rfl) (by omega) (by simp [maxLen])) (int_one u) (by omega) (Nat.zero_le _) ?_; intro A6 c6' W6 hown6 hgrow6 hat6 _; have HR6 := Lib.hid ((HR.out.keep ((Same.refl _ _).alloc (.cells #[.int .i64 u] 3))).app hgrow6 hat6 hown6); have k2 : (Instr.lookup 69 (.map (some B)) (.int .i64 u) false).run Try.prog W6 = .ok (.int .i64 ((L[t + 1]?).getD 0)) W6 := by { have h1 := HR6.out.map.lookup Try.underlying69 (zero3 W6) (k := u) HUI.out false; unfold pf at h1; rw [HPU.out] at h1; exact h1 }; clear hown6 hgrow6 hat6)
            go_roundg (gk - 1)
            case measure => have h1 := HK3.out; omega
            case rel => exact ⟨t + 1, A6, c6', n3 + 1, _, by show _ = _; have h1 := HK3.out; omega, rfl, rfl, by show _ = _; rw [HN3.out], rfl, by rw [HTK.out]; exact HR6.out⟩
          · have HTL : Hid (t = L.length) := by
              have h1 := HK3.out
              show t = _
              omega
            obtain rfl : u = 0 := by rw [HU.out, List.getElem?_eq_none (by omega)]; rfl
            obtain rfl : n3 = L.length := HN3.out.trans HTL.out
            go_wp2_with fail
            have hown : wr.ownsRow 0 3 1 (.slice A L.length c3) L.length (icells L) := by
              have h1 := HR.out.own
              rw [HTL.out, List.take_length] at h1
              exact h1
            have hZ := reverse_any hown hL0 hLb
            (with_reducible refine Calls.mono hZ ?_)
            clear hZ hown
            rintro e W8 ⟨rfl, hown8, hs8⟩
            have HF : Hid (Rd W8 noB 1 (.slice A L.length c3) rr.length (icells rr) ∧ Same noB w W8) := by
              refine ⟨?_, HR.out.since.trans hs8 (fun b hb e => ?_)⟩
              · rw [HL.out.2.2.1, List.length_reverse]
                exact Rd.of_own hown8 (fun _ _ x => x)
              · have h1 := HR.out.new b e.symm
                omega
            clear hown8 hs8
            go_wp2_with fail
            go_ret
            exact ⟨_, rfl, HF.out.1, HF.out.2⟩
theorem route_any {w : World} {p : MPl} {m : Mdl} (h : MdlIn w p m) (a b : Int) (hls : m.sites.length ≤ 1000000) (hll : m.links.length ≤ 1000000) :
    Calls Try.prog 28 #[mdlVal p m, .int .i64 a, .int .i64 b] w fun e w' => ∃ v', e = .returned v' ∧ Rd w' noB 1 v' (m.route a b).length (icells (m.route a b)) ∧ Same noB w w' := by
  cases ha : exB a m.sites.length
  · have HRR : Hid (m.route a b = []) := by show m.route a b = []; unfold Mdl.route; rw [ha]; rfl
    have HE1 : Hid (exB a p.s.len = false) := by show exB _ _ = false; rw [h.ls]; exact ha
    have HMB := Lib.hid (MB.start h)
    generalize m.route a b = rr at *
    clear h ha hls hll
    unfold mdlVal
    unfold mdlCells at HMB
    go_enter Try.func28, Try.ntmps28
    go_wp2_with fail
    refine (exists_any a p.s.len _).mono ?_
    rintro e w2 ⟨rfl, rfl⟩
    rw [HE1.out]
    go_wp2_with fail
    go_ret
    exact ⟨_, rfl, by rw [HRR.out]; exact Rd.nil_ _ _ _, HMB.out.since⟩
  · cases hb : exB b m.sites.length
    · have HRR : Hid (m.route a b = []) := by show m.route a b = []; unfold Mdl.route; rw [ha, hb]; rfl
      have HE1 : Hid (exB a p.s.len = true) := by show exB _ _ = true; rw [h.ls]; exact ha
      have HE2 : Hid (exB b p.s.len = false) := by show exB _ _ = false; rw [h.ls]; exact hb
      have HMB := Lib.hid (MB.start h)
      generalize m.route a b = rr at *
      clear h ha hb hls hll
      unfold mdlVal
      unfold mdlCells at HMB
      go_enter Try.func28, Try.ntmps28
      go_wp2_with fail
      refine (exists_any a p.s.len _).mono ?_
      rintro e w2 ⟨rfl, rfl⟩
      rw [HE1.out]
      go_wp2_with fail
      refine (exists_any b p.s.len _).mono ?_
      rintro e w2 ⟨rfl, rfl⟩
      rw [HE2.out]
      go_wp2_with fail
      go_ret
      exact ⟨_, rfl, by rw [HRR.out]; exact Rd.nil_ _ _ _, HMB.out.since⟩
    · exact route_yes h hls hll ha hb
end Go.Proofs.Ytkmclglphelhdaa
