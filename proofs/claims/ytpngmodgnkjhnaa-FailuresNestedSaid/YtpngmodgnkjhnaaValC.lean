/- Layer 21: the names of a model. -/
import Derived.Test.YtpngmodgnkjhnaaValB
import Derived.Test.YtpngmodgnkjhnaaFailD
import Derived.Deep.CutRange
import Derived.Deep.LoopGhost
namespace Go.Proofs.Ytpngmodgnkjhnaa
open Go Go.RowKit Go.Maps
set_option maxRecDepth 100000

theorem slStr : SlT Try.prog 22 9 1 16 := SlT.mk_ (z := .string ⟨#[]⟩) Try.underlying22 (by kernel_rfl) rfl (by decide) (by decide)
theorem scells_one (l : List ByteArray) : ∀ u ∈ scells l, u.oneCell' = true := by
  intro u hu
  simp [scells] at hu
  obtain ⟨x, _, rfl⟩ := hu
  rfl
theorem str_one (s : ByteArray) : ∀ u ∈ [Value.string s], u.oneCell' = true := by simp [Value.oneCell']
theorem scells_app (l : List ByteArray) (s : ByteArray) : scells l ++ [.string s] = scells (l ++ [s]) := by simp [scells]
theorem scells_app2 (l l' : List ByteArray) : scells l ++ scells l' = scells (l ++ l') := by simp [scells]
/-- Names' memory. -/
structure NmI (w W : World) (p : MPl) (m : Mdl) (M : Nat) (A : Option Addr) (c n : Nat) (l : List ByteArray) : Prop where
  inn : MdlIn w p m
  box : Blk W M 29 (mdlCells p m)
  app : AppAt w W (.slice A n c) n 9 1 (scells l)
  len : n = l.length
theorem NmI.mb {w W : World} {p : MPl} {m : Mdl} {M : Nat} {A : Option Addr} {c n : Nat} {l : List ByteArray} (h : NmI w W p m M A c n l) : MB w W p m M := ⟨h.inn.keep h.app.since, h.box, h.app.since⟩
theorem NmI.keep {w W W' : World} {p : MPl} {m : Mdl} {M : Nat} {A : Option Addr} {c n : Nat} {l : List ByteArray} (h : NmI w W p m M A c n l) (hs : Same noB W W') : NmI w W' p m M A c n l := ⟨h.inn, h.box.same hs (fun x => x), h.app.keep hs, h.len⟩
theorem NmI.next {w W W' : World} {p : MPl} {m : Mdl} {M : Nat} {A A' : Option Addr} {c c' n k : Nat} {l l' : List ByteArray} (h : NmI w W p m M A c n l) (hown : W'.ownsRow 0 9 1 (.slice A' (n + k) c') (n + k) (scells l ++ scells l'))
    (hg : W.grownBy W' (Value.slice A n c).ownBlock) (hat : (Value.slice A' (n + k) c').ownBlock = (Value.slice A n c).ownBlock ∨ (Value.slice A' (n + k) c').ownBlock = some W.heap.size) (hk : k = l'.length) : NmI w W' p m M A' c' (n + k) (l ++ l') := by
  have hs := Same.of_grown hg
  refine ⟨h.inn, h.box.same hs (fun e => ?_), ?_, by rw [List.length_append, h.len, hk]⟩
  · obtain ⟨cs, hc⟩ := own_blk h.app.own e.symm
    exact h.box.ne_ hc (by decide) rfl
  · have := h.app.next hg hat hown
    rw [scells_app2] at this
    exact this
theorem NmI.start {w : World} {p : MPl} {m : Mdl} (h : MdlIn w p m) {W : World} {M : Nat} (hm : MB w W p m M) : NmI w (W.alloc (.cells #[] 9)).drew p m M (some ⟨W.heap.size, 0, none⟩) 0 0 [] :=
  ⟨h, (hm.box.alloc _).drew, ((AppAt.lit W 9 1).keep ((Same.refl _ _).drew)).before hm.since, rfl⟩
/-- The names, in order. -/
def namesL (m : Mdl) (a b c : Nat) : List ByteArray := m.sites ++ m.feeds ++ (m.racks.take a).map Rk.name ++ (m.machines.take b).map Mc.name ++ (m.items.take c).map It.name
theorem namesL_0 (m : Mdl) : namesL m 0 0 0 = m.sites ++ m.feeds := by simp [namesL]
theorem namesL_r {m : Mdl} {k : Nat} {x : Rk} (h : m.racks[k]? = some x) : namesL m (k + 1) 0 0 = namesL m k 0 0 ++ [x.name] := by simp [namesL, List.take_add_one, h]
theorem namesL_m {m : Mdl} {a k : Nat} {x : Mc} (h : m.machines[k]? = some x) : namesL m a (k + 1) 0 = namesL m a k 0 ++ [x.name] := by simp [namesL, List.take_add_one, h]
theorem namesL_i {m : Mdl} {a b k : Nat} {x : It} (h : m.items[k]? = some x) : namesL m a b (k + 1) = namesL m a b k ++ [x.name] := by simp [namesL, List.take_add_one, h]
theorem rk_nm {w : World} {p : MPl} {m : Mdl} (h : MdlIn w p m) {k : Nat} (hk : k < m.racks.length) : ∃ b o x, p.r.addr = some ⟨b, o, none⟩ ∧ m.racks[k]? = some x ∧ w.cell? ⟨b, o + k * 3, none⟩ = some (.string x.name) := by
  obtain ⟨x, hx⟩ : ∃ x, m.racks[k]? = some x := ⟨_, List.getElem?_eq_getElem hk⟩
  obtain ⟨b, o, e, c, _⟩ := h.rack hx
  exact ⟨b, o, x, e, hx, c⟩
theorem mc_nm {w : World} {p : MPl} {m : Mdl} (h : MdlIn w p m) {k : Nat} (hk : k < m.machines.length) : ∃ b o x, p.mc.addr = some ⟨b, o, none⟩ ∧ m.machines[k]? = some x ∧ w.cell? ⟨b, o + k * 3, none⟩ = some (.string x.name) := by
  obtain ⟨x, hx⟩ : ∃ x, m.machines[k]? = some x := ⟨_, List.getElem?_eq_getElem hk⟩
  obtain ⟨b, o, e, c, _⟩ := h.mach hx
  exact ⟨b, o, x, e, hx, c⟩
theorem it_nm {w : World} {p : MPl} {m : Mdl} (h : MdlIn w p m) {k : Nat} (hk : k < m.items.length) : ∃ b o x, p.i.addr = some ⟨b, o, none⟩ ∧ m.items[k]? = some x ∧ w.cell? ⟨b, o + k * 7, none⟩ = some (.string x.name) := by
  obtain ⟨x, hx⟩ : ∃ x, m.items[k]? = some x := ⟨_, List.getElem?_eq_getElem hk⟩
  obtain ⟨b, o, e, r⟩ := h.i.at_ (by rw [h.li]; omega)
  exact ⟨b, o, x, e, hx, (it_at r hx).1⟩

set_option maxHeartbeats 8000000 in
theorem names64_any {w : World} {p : MPl} {m : Mdl} (h : MdlIn w p m) (hs : m.Small) : Calls Try.prog 64 #[mdlVal p m] w fun e w' => ∃ v l, e = .returned v ∧ Rd w' noB 1 v l.length (scells l) ∧ l.length ≤ 1000 ∧ Same noB w w' := by
  have HM0 := Lib.hid (MB.start h)
  have HIN := Lib.hid h
  have HS := Lib.hid hs
  clear h hs
  unfold mdlVal
  unfold mdlCells at HM0
  go_enter Try.func64, Try.ntmps64
  go_wp2_with fail
  refine wp_abs (fun W => Hid (MB w W p m w.heap.size)) HM0 ?_
  clear HM0
  generalize w.heap.size = M at *
  intro W HM
  have c0 := HM.out.c0
  have c1 := HM.out.c1
  have HN := Lib.hid (NmI.start HIN.out HM.out)
  have ls := HM.out.inn.ls
  have lf := HM.out.inn.lf
  have hs1 := HS.out.1
  have hs2 := HS.out.2.1
  have HS1 : Hid (p.s.len ≤ 24 ∧ p.f.len ≤ 24 ∧ p.s.len = m.sites.length ∧ p.f.len = m.feeds.length) := ⟨by omega, by omega, ls, lf⟩
  clear ls lf hs1 hs2
  have y0 : W.heap.size ≠ M := World.new_ne W _ c0
  go_cut [3] from 7 to 14 (fun v wx => ∃ A c n, v = .slice A n c ∧ NmI w wx p m M A c n (namesL m 0 0 0) ∧ n ≤ 48)
  case first =>
    go_region_held3 (fun w' => w'.cell? ⟨M, 0, none⟩ = some (.slice p.s.addr p.s.len p.s.cap) ∧ w'.cell? ⟨M, 1, none⟩ = some (.slice p.f.addr p.f.len p.f.cap))
      (first | (refine ⟨?_, ?_⟩ <;> with_reducible assumption) | go_keep)
      (first
        | (refine step_app slStr (by rfl) _ _ (by rfl) (by rfl) HN.out.app.own (by rfl) HN.out.mb.inn.s (scells_one _) (by have := HS1.out; omega) (Nat.zero_le _) ?_; intro A1 c1' w1 hown1 hgrow1 hat1 _; have HN1 := Lib.hid (HN.out.next hown1 hgrow1 hat1 HS1.out.2.2.1); have c0 := HN1.out.mb.c0; have c1 := HN1.out.mb.c1; clear hown1 hgrow1 hat1)
        | (refine step_app slStr (by rfl) _ _ (by rfl) (by rfl) HN1.out.app.own (by rfl) HN1.out.mb.inn.f (scells_one _) (by have := HS1.out; omega) (Nat.zero_le _) ?_; intro A2 c2' w2 hown2 hgrow2 hat2 _; have HN2 := Lib.hid (HN1.out.next hown2 hgrow2 hat2 HS1.out.2.2.2); have c0 := HN2.out.mb.c0; have c1 := HN2.out.mb.c1; clear hown2 hgrow2 hat2))
    all_goals go_wp2_with fail
    all_goals
      go_meet
      exact ⟨_, _, _, rfl, by rw [namesL_0]; simpa only [Nat.zero_add, List.nil_append] using HN2.out, by have := HS1.out; omega⟩
  case rest =>
    obtain ⟨A, c, n, rfl, hN, hn⟩ := hcut
    have HN := Lib.hid hN
    clear hN HM c0 c1 y0
    have HLr : Hid (p.r.len = m.racks.length ∧ m.racks.length ≤ 24) := ⟨HN.out.mb.inn.lr, by obtain ⟨q1, q2, q3, q4, q5, q6, q7⟩ := HS.out; omega⟩
    have hLr : p.r.len ≤ 24 := by have := HLr.out; omega
    have hCr := HN.out.mb.inn.r.caps
    go_wp2_with fail
    go_loopg [3, 4] (p.r.len) (fun gk v i wr => ∃ (A : Option Addr) (c n k : Nat), k ≤ p.r.len ∧ Hid (gk + k = p.r.len) ∧ i = .int .i64 k ∧ v = .slice A n c ∧ n ≤ 48 + k ∧ Hid (NmI w wr p m M A c n (namesL m k 0 0)))
    case atStart => exact ⟨_, _, _, 0, Nat.zero_le _, rfl, rfl, rfl, by omega, HN.out⟩
    case round =>
      obtain ⟨A1, c1, n1, k, hk, HK, rfl, rfl, hn1, HN1⟩ := hrel
      clear HN
      have c2 := HN1.out.mb.all.2.2.1
      by_cases hlt : k < p.r.len
      · have hlt2 : k < m.racks.length := by have := HLr.out; omega
        obtain ⟨b, o, x, hb, hx, e0⟩ := rk_nm HN1.out.mb.inn hlt2
        have HX := Lib.hid (namesL_r (m := m) hx)
        have HB := Lib.hid hb
        rw [hb] at c2
        have hi0 : (0 : Int) ≤ (k : Int) := by omega
        clear hx hb
        go_wp2_with (at_builtin; refine wpL_app slStr rfl _ _ rfl rfl ((HN1.out.keep ((Same.refl _ _).alloc _)).app.own) rfl (bad := noB) (Rd.of_blk (Blk.new wr 9 [Value.string x.name].toArray) (fun x => x) (by rfl) (by omega) (by simp [maxLen])) (str_one x.name) (by omega) (Nat.zero_le _) ?_; intro A4 c4 W4 hown4 hgrow4 hat4 _; have HN4 := Lib.hid ((HN1.out.keep ((Same.refl _ _).alloc _)).next (l' := [x.name]) hown4 hgrow4 hat4 rfl); clear hown4 hgrow4 hat4)
        go_roundg (gk - 1)
        case measure => have h1 := HK.out; omega
        case rel => exact ⟨_, _, _, k + 1, by omega, by show _ = _; have h1 := HK.out; omega, by go_num, rfl, by omega, by show NmI _ _ _ _ _ _ _ _ _; rw [HX.out]; exact HN4.out⟩
      · obtain rfl : k = p.r.len := by omega
        have HN : Hid (NmI w wr p m M A1 c1 n1 (namesL m m.racks.length 0 0)) := by show NmI _ _ _ _ _ _ _ _ _; rw [← HLr.out.1]; exact HN1.out
        clear HN1
        have HLmc : Hid (p.mc.len = m.machines.length ∧ m.machines.length ≤ 24) := ⟨HN.out.mb.inn.lm, by obtain ⟨q1, q2, q3, q4, q5, q6, q7⟩ := HS.out; omega⟩
        have hLmc : p.mc.len ≤ 24 := by have := HLmc.out; omega
        have hCmc := HN.out.mb.inn.mc.caps
        go_wp2_with fail
        go_loopg [3, 5] (p.mc.len) (fun gk v i wr => ∃ (A : Option Addr) (c n k : Nat), k ≤ p.mc.len ∧ Hid (gk + k = p.mc.len) ∧ i = .int .i64 k ∧ v = .slice A n c ∧ n ≤ 72 + k ∧ Hid (NmI w wr p m M A c n (namesL m m.racks.length k 0)))
        case atStart => exact ⟨_, _, _, 0, Nat.zero_le _, rfl, rfl, rfl, by omega, HN.out⟩
        case round =>
          obtain ⟨A1, c1, n1, k, hk, HK, rfl, rfl, hn1, HN1⟩ := hrel
          clear HN
          have c3 := HN1.out.mb.all.2.2.2.1
          by_cases hlt : k < p.mc.len
          · have hlt2 : k < m.machines.length := by have := HLmc.out; omega
            obtain ⟨b, o, x, hb, hx, e0⟩ := mc_nm HN1.out.mb.inn hlt2
            have HX := Lib.hid (namesL_m (m := m) (a := m.racks.length) hx)
            have HB := Lib.hid hb
            rw [hb] at c3
            have hi0 : (0 : Int) ≤ (k : Int) := by omega
            clear hx hb
            go_wp2_with (at_builtin; refine wpL_app slStr rfl _ _ rfl rfl ((HN1.out.keep ((Same.refl _ _).alloc _)).app.own) rfl (bad := noB) (Rd.of_blk (Blk.new wr 9 [Value.string x.name].toArray) (fun x => x) (by rfl) (by omega) (by simp [maxLen])) (str_one x.name) (by omega) (Nat.zero_le _) ?_; intro A4 c4 W4 hown4 hgrow4 hat4 _; have HN4 := Lib.hid ((HN1.out.keep ((Same.refl _ _).alloc _)).next (l' := [x.name]) hown4 hgrow4 hat4 rfl); clear hown4 hgrow4 hat4)
            go_roundg (gk - 1)
            case measure => have h1 := HK.out; omega
            case rel => exact ⟨_, _, _, k + 1, by omega, by show _ = _; have h1 := HK.out; omega, by go_num, rfl, by omega, by show NmI _ _ _ _ _ _ _ _ _; rw [HX.out]; exact HN4.out⟩
          · obtain rfl : k = p.mc.len := by omega
            have HN : Hid (NmI w wr p m M A1 c1 n1 (namesL m m.racks.length m.machines.length 0)) := by show NmI _ _ _ _ _ _ _ _ _; rw [← HLmc.out.1]; exact HN1.out
            clear HN1
            have HLi : Hid (p.i.len = m.items.length ∧ m.items.length ≤ 24) := ⟨HN.out.mb.inn.li, by obtain ⟨q1, q2, q3, q4, q5, q6, q7⟩ := HS.out; omega⟩
            have hLi : p.i.len ≤ 24 := by have := HLi.out; omega
            have hCi := HN.out.mb.inn.i.caps
            go_wp2_with fail
            go_loopg [3, 6] (p.i.len) (fun gk v i wr => ∃ (A : Option Addr) (c n k : Nat), k ≤ p.i.len ∧ Hid (gk + k = p.i.len) ∧ i = .int .i64 k ∧ v = .slice A n c ∧ n ≤ 96 + k ∧ Hid (NmI w wr p m M A c n (namesL m m.racks.length m.machines.length k)))
            case atStart => exact ⟨_, _, _, 0, Nat.zero_le _, rfl, rfl, rfl, by omega, HN.out⟩
            case round =>
              obtain ⟨A1, c1, n1, k, hk, HK, rfl, rfl, hn1, HN1⟩ := hrel
              clear HN
              have c5 := HN1.out.mb.all.2.2.2.2.2.1
              by_cases hlt : k < p.i.len
              · have hlt2 : k < m.items.length := by have := HLi.out; omega
                obtain ⟨b, o, x, hb, hx, e0⟩ := it_nm HN1.out.mb.inn hlt2
                have HX := Lib.hid (namesL_i (m := m) (a := m.racks.length) (b := m.machines.length) hx)
                have HB := Lib.hid hb
                rw [hb] at c5
                have hi0 : (0 : Int) ≤ (k : Int) := by omega
                clear hx hb
                go_wp2_with (at_builtin; refine wpL_app slStr rfl _ _ rfl rfl ((HN1.out.keep ((Same.refl _ _).alloc _)).app.own) rfl (bad := noB) (Rd.of_blk (Blk.new wr 9 [Value.string x.name].toArray) (fun x => x) (by rfl) (by omega) (by simp [maxLen])) (str_one x.name) (by omega) (Nat.zero_le _) ?_; intro A4 c4 W4 hown4 hgrow4 hat4 _; have HN4 := Lib.hid ((HN1.out.keep ((Same.refl _ _).alloc _)).next (l' := [x.name]) hown4 hgrow4 hat4 rfl); clear hown4 hgrow4 hat4)
                go_roundg (gk - 1)
                case measure => have h1 := HK.out; omega
                case rel => exact ⟨_, _, _, k + 1, by omega, by show _ = _; have h1 := HK.out; omega, by go_num, rfl, by omega, by show NmI _ _ _ _ _ _ _ _ _; rw [HX.out]; exact HN4.out⟩
              · obtain rfl : k = p.i.len := by omega
                go_wp2_with fail
                go_ret
                exact ⟨_, _, rfl, by have h1 := HN1.out.app.rd (bad := noB) (fun _ e => e.elim); rw [HN1.out.len] at h1; rw [HN1.out.len]; exact h1, by have := HN1.out.len; omega, HN1.out.app.since⟩
end Go.Proofs.Ytpngmodgnkjhnaa
