/- Layer 21: Same of two equal lists; All of the reference. -/
import Derived.Test.YtpngmodgnkjhnaaFailB
import Derived.Deep.LoopGhost
namespace Go.Proofs.Ytpngmodgnkjhnaa
open Go Go.RowKit Go.Maps
set_option maxRecDepth 100000

theorem slFl : SlT Try.prog 35 31 2 16 := SlT.mk_ (z := .agg #[.int .i64 0, .int .i64 0]) Try.underlying35 (by kernel_rfl) rfl (by decide) (by decide)
theorem fl_at {w : World} {bad : Nat → Prop} {b o i : Nat} {l : List Fl} {x : Fl} (r : RdAt w bad b o (flcells l)) (h : l[i]? = some x) :
    w.cell? ⟨b, o + i * 2, none⟩ = some (.int .i64 x.by_) ∧ w.cell? ⟨b, o + i * 2 + 1, none⟩ = some (.int .i64 x.num) := by
  have c0 := r.cell (i * 2 + 0) _ ((flat_at Fl.cells 2 (fun _ => rfl) h 0 (by omega)).trans rfl)
  have c1 := r.cell (i * 2 + 1) _ ((flat_at Fl.cells 2 (fun _ => rfl) h 1 (by omega)).trans rfl)
  simp only [← Nat.add_assoc, Nat.add_zero] at c0 c1
  exact ⟨c0, c1⟩
theorem fl_one (x : Fl) : ∀ u ∈ x.cells, u.oneCell' = true := by
  intro u hu
  simp [Fl.cells] at hu
  rcases hu with rfl | rfl <;> rfl
theorem same_true {w : World} {bad bad' : Nat → Prop} {v v' : Value} {l : List Fl} (h1 : Rd w bad 2 v l.length (flcells l)) (h2 : Rd w bad' 2 v' l.length (flcells l)) :
    Calls Try.prog 12 #[v, v'] w fun e w' => e = .returned (.bool true) ∧ Same noB w w' := by
  obtain ⟨A, c, rfl, hc1, hc2, hr1⟩ := h1.form
  obtain ⟨A', c', rfl, _, _, hr2⟩ := h2.form
  have H1 := Lib.hid hr1
  have H2 := Lib.hid hr2
  clear h1 h2 hr1 hr2
  unfold maxLen at hc2
  have hn : l.length ≤ 9223372036854775807 := by omega
  clear hc1 hc2
  go_enter Try.func12, Try.ntmps12
  go_wp2_with fail
  go_loopw [5] (fun i wr => ∃ k : Nat, k ≤ l.length ∧ i = .int .i64 k ∧ Hid (Same noB w wr)) (fun i _ => l.length - (intOf i).toNat)
  case atStart => exact ⟨0, Nat.zero_le _, rfl, Same.refl _ _⟩
  case round =>
    obtain ⟨k, hk, rfl, HS⟩ := hrel
    by_cases hlt : k < l.length
    · obtain ⟨b, o, rfl, r1⟩ := H1.out.at_ (by omega)
      obtain ⟨b', o', rfl, r2⟩ := H2.out.at_ (by omega)
      obtain ⟨y, hy⟩ : ∃ y, l[k]? = some y := ⟨_, List.getElem?_eq_getElem hlt⟩
      obtain ⟨a0, a1⟩ := fl_at r1 hy
      obtain ⟨b0, b1⟩ := fl_at r2 hy
      have p0 := (HS.out).cell a0 (fun x => x)
      have p1 := (HS.out).cell a1 (fun x => x)
      have q0 := (HS.out).cell b0 (fun x => x)
      have q1 := (HS.out).cell b1 (fun x => x)
      clear r1 r2 hy a0 a1 b0 b1
      go_wp2_with fail
      go_region
      all_goals go_wp2_with fail
      all_goals
        go_roundw
        case rel => exact ⟨k + 1, by omega, by go_num, HS.out.drew⟩
        case measure => simp [intOf]; omega
    · obtain rfl : k = l.length := by omega
      go_wp2_with fail
      go_ret
      exact ⟨rfl, HS.out⟩

theorem bit_and (x : Int) {k : Nat} (hk : k < 3) : (bits BinOp.and IntKind.i64 x (2 ^ k) == 0) = !bitB x k := by
  have hb : ∀ (y : Int) (j : Nat), j < 64 → (BitVec.ofInt 64 y).getLsbD j = decide ((y % 18446744073709551616).toNat / 2 ^ j % 2 = 1) := by
    intro y j hj
    rw [BitVec.getLsbD, BitVec.toNat_ofInt, Nat.testBit_eq_decide_div_mod_eq]
    rfl
  have h1 : ∀ y : Int, bits BinOp.and IntKind.i64 y (2 ^ k) = if (BitVec.ofInt 64 y).getLsbD k then 2 ^ k else 0 := by
    intro y
    unfold bits
    have e : BitVec.ofInt IntKind.i64.bits (2 ^ k) = BitVec.twoPow 64 k := by
      match k, hk with
      | 0, _ => (show BitVec.ofInt 64 (2 ^ 0) = _; decide)
      | 1, _ => (show BitVec.ofInt 64 (2 ^ 1) = _; decide)
      | 2, _ => (show BitVec.ofInt 64 (2 ^ 2) = _; decide)
    simp only [e]
    show IntKind.i64.wrap ((BitVec.ofInt 64 y &&& BitVec.twoPow 64 k).toNat : Int) = _
    rw [BitVec.and_twoPow]
    split
    · match k, hk with
      | 0, _ => decide
      | 1, _ => decide
      | 2, _ => decide
    · decide
  have h2 : ∀ y : Int, bits BinOp.and IntKind.i64 y 1 = if (BitVec.ofInt 64 y).getLsbD 0 then 1 else 0 := by
    intro y
    unfold bits
    have e : BitVec.ofInt IntKind.i64.bits 1 = BitVec.twoPow 64 0 := by (show BitVec.ofInt 64 1 = _; decide)
    simp only [e]
    show IntKind.i64.wrap ((BitVec.ofInt 64 y &&& BitVec.twoPow 64 0).toNat : Int) = _
    rw [BitVec.and_twoPow]
    split <;> decide
  unfold bitB
  rw [h1, h2, hb _ _ (by omega), hb _ _ (by omega)]
  have h3 : decide ((x % 18446744073709551616).toNat / 2 ^ k % 2 = 1) = decide (((x / 2 ^ k) % 18446744073709551616).toNat / 2 ^ 0 % 2 = 1) := by
    rw [decide_eq_decide]
    match k, hk with
    | 0, _ => simp
    | 1, _ => simp only [Nat.reducePow, Int.reducePow, Nat.div_one]; omega
    | 2, _ => simp only [Nat.reducePow, Int.reducePow, Nat.div_one]; omega
  rw [h3]
  generalize decide (((x / 2 ^ k) % 18446744073709551616).toNat / 2 ^ 0 % 2 = 1) = q
  cases q
  · rfl
  · match k, hk with
    | 0, _ => rfl
    | 1, _ => rfl
    | 2, _ => rfl

theorem lit_cell {W : World} {g : Nat} {a b c : Int} (h : Blk W g 3 #[.int .i64 a, .int .i64 b, .int .i64 c]) {i : Nat} (hi : i < 3) (f : Nat → Int) (h0 : f 0 = a) (h1 : f 1 = b) (h2 : f 2 = c) : W.cell? ⟨g, i, none⟩ = some (.int .i64 (f i)) := by
  subst h0 h1 h2
  rw [h.cell]
  match i, hi with
  | 0, _ => rfl
  | 1, _ => rfl
  | 2, _ => rfl
/-- What All of the reference holds as it goes. -/
structure RA (w W : World) (p : MPl) (m : Mdl) (M g1 g2 : Nat) (A : Option Addr) (c n : Nat) (l : List Fl) : Prop where
  inn : MdlIn w p m
  box : Blk W M 29 (mdlCells p m)
  l1 : Blk W g1 3 #[.int .i64 1, .int .i64 2, .int .i64 4]
  l2 : Blk W g2 3 #[.int .i64 1, .int .i64 2, .int .i64 3]
  app : AppAt w W (.slice A n c) n 31 2 (flcells l)
  len : n = l.length
theorem RA.mb {w W : World} {p : MPl} {m : Mdl} {M g1 g2 : Nat} {A : Option Addr} {c n : Nat} {l : List Fl} (h : RA w W p m M g1 g2 A c n l) : MB w W p m M := ⟨h.inn.keep h.app.since, h.box, h.app.since⟩
theorem RA.keep {w W W' : World} {p : MPl} {m : Mdl} {M g1 g2 : Nat} {A : Option Addr} {c n : Nat} {l : List Fl} (h : RA w W p m M g1 g2 A c n l) (hs : Same noB W W') : RA w W' p m M g1 g2 A c n l := ⟨h.inn, h.box.same hs (fun x => x), h.l1.same hs (fun x => x), h.l2.same hs (fun x => x), h.app.keep hs, h.len⟩
theorem RA.next {w W W' : World} {p : MPl} {m : Mdl} {M g1 g2 : Nat} {A A' : Option Addr} {c c' n : Nat} {l : List Fl} {x : Fl} (h : RA w W p m M g1 g2 A c n l) (hown : W'.ownsRow 0 31 2 (.slice A' (n + 1) c') (n + 1) (flcells l ++ x.cells))
    (hg : W.grownBy W' (Value.slice A n c).ownBlock) (hat : (Value.slice A' (n + 1) c').ownBlock = (Value.slice A n c).ownBlock ∨ (Value.slice A' (n + 1) c').ownBlock = some W.heap.size) : RA w W' p m M g1 g2 A' c' (n + 1) (l ++ [x]) := by
  have hs := Same.of_grown hg
  have hn : ∀ (b t : Nat) (cs : Array Value), Blk W b t cs → t ≠ 31 → ¬ rowB (Value.slice A n c).ownBlock b := by
    intro b t cs hb ht hx
    obtain ⟨cs', hb'⟩ := own_blk h.app.own hx.symm
    exact hb.ne_ hb' ht rfl
  refine ⟨h.inn, h.box.same hs (hn _ _ _ h.box (by decide)), h.l1.same hs (hn _ _ _ h.l1 (by decide)), h.l2.same hs (hn _ _ _ h.l2 (by decide)), ?_, ?_⟩
  · rw [flcells_snoc]; exact h.app.next hg hat hown
  · rw [List.length_append, h.len]; rfl
theorem RA.start {w : World} {p : MPl} {m : Mdl} (h : MdlIn w p m) : RA w ((((w.alloc (.cells (mdlCells p m) 29)).alloc (.cells #[.int .i64 0, .int .i64 0] 31)).alloc (.cells #[.int .i64 1, .int .i64 2, .int .i64 4] 3)).alloc (.cells #[.int .i64 1, .int .i64 2, .int .i64 3] 3)) p m w.heap.size (w.heap.size + 1 + 1) (w.heap.size + 1 + 1 + 1) (some ⟨w.heap.size + 1, 0, none⟩) 1 1 (uptoL m 0) := by
  have z1 : (w.alloc (.cells (mdlCells p m) 29)).heap.size = w.heap.size + 1 := by simp
  have z2 : ((w.alloc (.cells (mdlCells p m) 29)).alloc (.cells #[.int .i64 0, .int .i64 0] 31)).heap.size = w.heap.size + 1 + 1 := by simp
  have z3 : (((w.alloc (.cells (mdlCells p m) 29)).alloc (.cells #[.int .i64 0, .int .i64 0] 31)).alloc (.cells #[.int .i64 1, .int .i64 2, .int .i64 4] 3)).heap.size = w.heap.size + 1 + 1 + 1 := by simp
  have b1 := Blk.new ((w.alloc (.cells (mdlCells p m) 29)).alloc (.cells #[.int .i64 0, .int .i64 0] 31)) 3 #[.int .i64 1, .int .i64 2, .int .i64 4]
  have b2 := Blk.new (((w.alloc (.cells (mdlCells p m) 29)).alloc (.cells #[.int .i64 0, .int .i64 0] 31)).alloc (.cells #[.int .i64 1, .int .i64 2, .int .i64 4] 3)) 3 #[.int .i64 1, .int .i64 2, .int .i64 3]
  rw [z2] at b1
  rw [z3] at b2
  have ow := World.ownsRow_lit (base := 0) (size := 2) (e := 31) (w.alloc (.cells (mdlCells p m) 29)) #[.int .i64 0, .int .i64 0] 1 (Nat.zero_le _) (by simp [maxLen]) rfl
  rw [z1] at ow
  exact ⟨h, (((Blk.new w 29 _).alloc _).alloc _).alloc _, b1.alloc _, b2, ⟨(ow.alloc _).alloc _, fun g hg => by simp [Value.ownBlock] at hg; omega, ((((Same.refl _ _).alloc _).alloc _).alloc _).alloc _⟩, rfl⟩
def RaS (M : Nat) (p : MPl) (m : Mdl) (g2 k : Nat) (w' : World) : Prop := w'.cell? ⟨M, 0, none⟩ = some (.slice p.s.addr p.s.len p.s.cap) ∧ w'.cell? ⟨M, 1, none⟩ = some (.slice p.f.addr p.f.len p.f.cap) ∧ w'.cell? ⟨M, 2, none⟩ = some (.slice p.r.addr p.r.len p.r.cap) ∧ w'.cell? ⟨M, 3, none⟩ = some (.slice p.mc.addr p.mc.len p.mc.cap) ∧ w'.cell? ⟨M, 4, none⟩ = some (.slice p.l.addr p.l.len p.l.cap) ∧ w'.cell? ⟨M, 5, none⟩ = some (.slice p.i.addr p.i.len p.i.cap) ∧ w'.cell? ⟨M, 6, none⟩ = some (.int .i64 m.dark) ∧ w'.cell? ⟨M, 7, none⟩ = some (.int .i64 m.slots) ∧ w'.cell? ⟨M, 8, none⟩ = some (.int .i64 m.reserve) ∧ w'.cell? ⟨M, 9, none⟩ = some (.int .i64 m.failures) ∧ w'.cell? ⟨M, 10, none⟩ = some (.slice p.ru.addr p.ru.len p.ru.cap) ∧ w'.cell? ⟨g2, k, none⟩ = some (.int .i64 ((k : Int) + 1))
set_option maxHeartbeats 4000000 in
theorem rall_any {w : World} {p : MPl} {m : Mdl} (h : MdlIn w p m) (hd : ∀ b, m.domains b ≤ 1000000) (hlen : (declL m).length ≤ 4000000) :
    Calls Try.prog 14 #[mdlVal p m] w fun e w' => ∃ v, e = .returned v ∧ AppAt w w' v (declL m).length 31 2 (flcells (declL m)) := by
  have HR0 := Lib.hid (RA.start h)
  have HD := Lib.hid hd
  have HL := Lib.hid hlen
  clear h hd hlen
  unfold mdlVal
  unfold mdlCells at HR0
  go_enter Try.func14, Try.ntmps14
  go_wp2_with fail
  refine wp_abs (fun W => Hid (RA w W p m w.heap.size (w.heap.size + 1 + 1) (w.heap.size + 1 + 1 + 1) (some ⟨w.heap.size + 1, 0, none⟩) 1 1 (uptoL m 0))) HR0 ?_
  clear HR0
  generalize w.heap.size + 1 + 1 + 1 = g2 at *
  generalize w.heap.size + 1 + 1 = g1 at *
  generalize w.heap.size + 1 = g0 at *
  generalize w.heap.size = M at *
  intro W HR0
  go_loopg [3, 6] (3) (fun gk o i wr => ∃ (k : Nat) (A : Option Addr) (c n : Nat), k ≤ 3 ∧ Hid (gk + k = 3) ∧ i = .int .i64 k ∧ o = .slice A n c ∧ Hid (RA w wr p m M g1 g2 A c n (uptoL m k)))
  case atStart => exact ⟨0, _, _, _, by omega, rfl, rfl, rfl, HR0.out⟩
  case round =>
    obtain ⟨k, A, c, n, hk, HK, rfl, rfl, HR⟩ := hrel
    clear HR0
    by_cases hlt : k < 3
    · obtain ⟨ok, rfl⟩ : ∃ ok : Nat, ok = gk := ⟨_, rfl⟩
      have hD := HD.out ((k : Int) + 1)
      have HDD : Hid (m.domains ((k : Int) + 1) = m.domains ((k : Int) + 1)) := rfl
      obtain ⟨D, hDe⟩ : ∃ D, m.domains ((k : Int) + 1) = D := ⟨_, rfl⟩
      have HDe := Lib.hid hDe
      rw [hDe] at hD
      clear HDD hDe
      have hk0 : (0 : Int) ≤ (k : Int) := Int.natCast_nonneg _
      have hk3 : (k : Int) < 3 := by omega
      have hdk : decide ((k : Int) < 3) = true := decide_eq_true hk3
      go_wp2_with fail
      go_loopg [3, 7] (D) (fun gj o i wr => ∃ (t : Nat) (A : Option Addr) (c n : Nat), t ≤ D ∧ Hid (gj + t = D) ∧ i = .int .i64 ((t : Int) + 1) ∧ o = .slice A n c ∧ Hid (RA w wr p m M g1 g2 A c n (uptoL m k ++ partL m k t)))
      case atStart => exact ⟨0, _, _, _, Nat.zero_le _, rfl, rfl, rfl, by rw [partL_zero, List.append_nil]; exact HR.out⟩
      case round =>
        obtain ⟨t, A2, c2, n2, ht, HT, rfl, rfl, HR2⟩ := hrel
        clear HR
        obtain ⟨c0, c1, c2', c3, c4, c5, c6, c7, c8, c9, c10⟩ := HR2.out.mb.all
        have e1 := lit_cell HR2.out.l1 hlt (fun k => (2 : Int) ^ k) rfl rfl rfl
        have e2 := lit_cell HR2.out.l2 hlt (fun k => (k : Int) + 1) rfl rfl rfl
        have HB := Lib.hid (bit_and m.failures hlt)
        generalize (2 : Int) ^ k = b2 at *
        have HRd := Lib.hid (HR2.out.keep ((Same.refl noB wr).drew))
        by_cases hlt2 : t < D
        · have d1 : decide ((t : Int) + 1 ≤ (D : Int)) = true := decide_eq_true (by omega)
          cases hb : bitB m.failures k
          · have hbq : (bits BinOp.and IntKind.i64 m.failures b2 == 0) = true := by rw [HB.out, hb]; rfl
            have HPN := Lib.hid (partL_no (m := m) hb)
            have HZ : Hid (uptoL m k ++ partL m k t = uptoL m (k + 1)) := by
              show _ = _
              rw [uptoL_step, ← partL_all, HPN.out, HPN.out]
            clear hb HB
            go_wp2_with fail
            go_region_held3 (fun w' => w'.cell? ⟨M, 0, none⟩ = some (.slice p.s.addr p.s.len p.s.cap) ∧ w'.cell? ⟨M, 1, none⟩ = some (.slice p.f.addr p.f.len p.f.cap) ∧ w'.cell? ⟨M, 2, none⟩ = some (.slice p.r.addr p.r.len p.r.cap) ∧ w'.cell? ⟨M, 3, none⟩ = some (.slice p.mc.addr p.mc.len p.mc.cap) ∧ w'.cell? ⟨M, 4, none⟩ = some (.slice p.l.addr p.l.len p.l.cap) ∧ w'.cell? ⟨M, 5, none⟩ = some (.slice p.i.addr p.i.len p.i.cap) ∧ w'.cell? ⟨M, 6, none⟩ = some (.int .i64 m.dark) ∧ w'.cell? ⟨M, 7, none⟩ = some (.int .i64 m.slots) ∧ w'.cell? ⟨M, 8, none⟩ = some (.int .i64 m.reserve) ∧ w'.cell? ⟨M, 9, none⟩ = some (.int .i64 m.failures) ∧ w'.cell? ⟨M, 10, none⟩ = some (.slice p.ru.addr p.ru.len p.ru.cap) ∧ w'.cell? ⟨g1, k, none⟩ = some (.int .i64 b2) ∧ w'.cell? ⟨g2, k, none⟩ = some (.int .i64 ((k : Int) + 1)))
              (first | (refine ⟨?_, ?_, ?_, ?_, ?_, ?_, ?_, ?_, ?_, ?_, ?_, ?_, ?_⟩ <;> with_reducible assumption) | go_keep)
              ((go_at_call 36; have hZ := rdomains_any HRd.out.mb.inn ((k : Int) + 1); unfold mdlVal at hZ; rw [HDe.out] at hZ; (with_reducible refine Calls.mono hZ ?_); clear hZ; rintro e W2 ⟨rfl, hs⟩; have HR3 := Lib.hid (HRd.out.keep hs); obtain ⟨c0, c1, c2', c3, c4, c5, c6, c7, c8, c9, c10⟩ := HR3.out.mb.all; have e1 := hs.cell (a := ⟨g1, k, none⟩) e1 (fun x => x); have e2 := hs.cell (a := ⟨g2, k, none⟩) e2 (fun x => x); clear hs))
            all_goals
              go_wp2_with fail
              go_roundg (ok - 1)
              case measure => have h1 := HK.out; omega
              case rel => exact ⟨k + 1, A2, c2, n2, by omega, by show _ = _; have h1 := HK.out; omega, by go_num, rfl, by show RA _ _ _ _ _ _ _ _ _ _ _; rw [← HZ.out]; exact HR3.out⟩
          · have hbq : (bits BinOp.and IntKind.i64 m.failures b2 == 0) = false := by rw [HB.out, hb]; rfl
            have HPY := Lib.hid (partL_yes hb t)
            have hn : n2 ≤ 4000000 := by
              have h1 := (pre_decl m (k := k) (t := t) hlt (by rw [HDe.out]; omega)).length_le
              have h2 := HL.out
              have h3 := HR2.out.len
              omega
            clear hb HB
            go_wp2_with fail
            go_region_held3 (fun w' => w'.cell? ⟨M, 0, none⟩ = some (.slice p.s.addr p.s.len p.s.cap) ∧ w'.cell? ⟨M, 1, none⟩ = some (.slice p.f.addr p.f.len p.f.cap) ∧ w'.cell? ⟨M, 2, none⟩ = some (.slice p.r.addr p.r.len p.r.cap) ∧ w'.cell? ⟨M, 3, none⟩ = some (.slice p.mc.addr p.mc.len p.mc.cap) ∧ w'.cell? ⟨M, 4, none⟩ = some (.slice p.l.addr p.l.len p.l.cap) ∧ w'.cell? ⟨M, 5, none⟩ = some (.slice p.i.addr p.i.len p.i.cap) ∧ w'.cell? ⟨M, 6, none⟩ = some (.int .i64 m.dark) ∧ w'.cell? ⟨M, 7, none⟩ = some (.int .i64 m.slots) ∧ w'.cell? ⟨M, 8, none⟩ = some (.int .i64 m.reserve) ∧ w'.cell? ⟨M, 9, none⟩ = some (.int .i64 m.failures) ∧ w'.cell? ⟨M, 10, none⟩ = some (.slice p.ru.addr p.ru.len p.ru.cap) ∧ w'.cell? ⟨g1, k, none⟩ = some (.int .i64 b2) ∧ w'.cell? ⟨g2, k, none⟩ = some (.int .i64 ((k : Int) + 1)))
              (first | (refine ⟨?_, ?_, ?_, ?_, ?_, ?_, ?_, ?_, ?_, ?_, ?_, ?_, ?_⟩ <;> with_reducible assumption) | go_keep)
              ((go_at_call 36; have hZ := rdomains_any HRd.out.mb.inn ((k : Int) + 1); unfold mdlVal at hZ; rw [HDe.out] at hZ; (with_reducible refine Calls.mono hZ ?_); clear hZ; rintro e W2 ⟨rfl, hs⟩; have HR3 := Lib.hid (HRd.out.keep hs); obtain ⟨c0, c1, c2', c3, c4, c5, c6, c7, c8, c9, c10⟩ := HR3.out.mb.all; have e1 := hs.cell (a := ⟨g1, k, none⟩) e1 (fun x => x); have e2 := hs.cell (a := ⟨g2, k, none⟩) e2 (fun x => x); clear hs))
            all_goals
              go_wp2_with (at_builtin; refine wpL_app slFl rfl _ _ rfl rfl ((HR3.out.keep ((Same.refl noB _).alloc _)).app.own) rfl (bad := noB) (Rd.of_blk (Blk.new W2 31 [Value.int .i64 ((k : Int) + 1), Value.int .i64 ((t : Int) + 1)].toArray) (fun x => x) (by rfl) (by omega) (by simp [maxLen])) (fl_one ⟨(k : Int) + 1, (t : Int) + 1⟩) (by omega) (Nat.zero_le _) ?_; intro A6 c6' W6 hown6 hgrow6 hat6 _; have HR6 := Lib.hid (RA.next (x := ⟨(k : Int) + 1, (t : Int) + 1⟩) (HR3.out.keep ((Same.refl noB W2).alloc (.cells #[.int .i64 ((k : Int) + 1), .int .i64 ((t : Int) + 1)] 31))) hown6 hgrow6 hat6); clear hown6 hgrow6 hat6)
              go_roundg (gk - 1)
              case measure => have h1 := HT.out; omega
              case rel => exact ⟨t + 1, A6, c6', n2 + 1, by omega, by show _ = _; have h1 := HT.out; omega, by go_num, rfl, by show RA _ _ _ _ _ _ _ _ _ _ _; rw [HPY.out, ← List.append_assoc]; exact HR6.out⟩
        · obtain rfl : t = D := by omega
          have d1 : decide ((t : Int) + 1 ≤ (t : Int)) = false := decide_eq_false (by omega)
          have HZ : Hid (uptoL m k ++ partL m k t = uptoL m (k + 1)) := by
            show _ = _
            rw [uptoL_step, ← partL_all, HDe.out]
          clear HB
          go_wp2_with fail
          refine wp_region_held_drew (S := RaS M p m g2 k) (by kernel_rfl) ?_ (fun hHeld => ?_)
          · exact ⟨c0, c1, c2', c3, c4, c5, c6, c7, c8, c9, c10, e2⟩
          refine wpAnyH_take (i := 0) (v := ?va0) rfl (by kernel_rfl) (by kernel_rfl) (by kernel_rfl) (fun _ _ _ h => h) (Or.inl ⟨?_, ?_⟩) (by assumption) ?_
          rotate_left 1
          · rfl
          · (intro w hSw; unfold RaS at hSw; go_simp; (try with_reducible rfl))
          go_simp
          refine wpAnyH_take (i := 1) (v := ?va1) rfl (by kernel_rfl) (by kernel_rfl) (by kernel_rfl) (fun _ _ _ h => h) (Or.inl ⟨?_, ?_⟩) (by assumption) ?_
          rotate_left 1
          · rfl
          · (intro w hSw; unfold RaS at hSw; go_simp; (try with_reducible rfl))
          go_simp
          refine wpAnyH_take (i := 2) (v := ?va2) rfl (by kernel_rfl) (by kernel_rfl) (by kernel_rfl) (fun _ _ _ h => h) (Or.inl ⟨?_, ?_⟩) (by assumption) ?_
          rotate_left 1
          · rfl
          · (intro w hSw; unfold RaS at hSw; go_simp; (try with_reducible rfl))
          go_simp
          refine wpAnyH_take (i := 3) (v := ?va3) rfl (by kernel_rfl) (by kernel_rfl) (by kernel_rfl) (fun _ _ _ h => h) (Or.inl ⟨?_, ?_⟩) (by assumption) ?_
          rotate_left 1
          · rfl
          · (intro w hSw; unfold RaS at hSw; go_simp; (try with_reducible rfl))
          go_simp
          refine wpAnyH_take (i := 4) (v := ?va4) rfl (by kernel_rfl) (by kernel_rfl) (by kernel_rfl) (fun _ _ _ h => h) (Or.inl ⟨?_, ?_⟩) (by assumption) ?_
          rotate_left 1
          · rfl
          · (intro w hSw; unfold RaS at hSw; go_simp; (try with_reducible rfl))
          go_simp
          refine wpAnyH_take (i := 5) (v := ?va5) rfl (by kernel_rfl) (by kernel_rfl) (by kernel_rfl) (fun _ _ _ h => h) (Or.inl ⟨?_, ?_⟩) (by assumption) ?_
          rotate_left 1
          · rfl
          · (intro w hSw; unfold RaS at hSw; go_simp; (try with_reducible rfl))
          go_simp
          refine wpAnyH_ready (rs := [6]) (by kernel_rfl) (by simp) ?_
          refine AllReadyH.cons rfl (fun K hK => ?_) AllReadyH.nil
          go_simp
          have hZ := rdomains_any HRd.out.mb.inn ((k : Int) + 1)
          unfold mdlVal at hZ
          rw [HDe.out] at hZ
          (with_reducible refine Calls.mono hZ ?_)
          clear hZ
          rintro e W2 ⟨rfl, hs⟩
          have HR3 := Lib.hid (HRd.out.keep hs)
          obtain ⟨c0, c1, c2', c3, c4, c5, c6, c7, c8, c9, c10⟩ := HR3.out.mb.all
          have e2 := hs.cell (a := ⟨g2, k, none⟩) e2 (fun x => x)
          clear hHeld hs
          go_wp2_with fail
          refine hK.out _ _ ?_ (fun hHeld => ?_)
          · exact ⟨c0, c1, c2', c3, c4, c5, c6, c7, c8, c9, c10, e2⟩
          clear hK K
          refine wpAnyH_take (i := 7) (v := ?va7) rfl (by kernel_rfl) (by kernel_rfl) (by kernel_rfl) (fun _ _ _ h => h) (Or.inl ⟨?_, ?_⟩) (by assumption) ?_
          rotate_left 1
          · rfl
          · (intro w hSw; unfold RaS at hSw; go_simp; (try with_reducible rfl))
          go_simp
          refine wpAnyH_take (i := 8) (v := ?va8) rfl (by kernel_rfl) (by kernel_rfl) (by kernel_rfl) (fun _ _ _ h => h) (Or.inl ⟨?_, ?_⟩) (by assumption) ?_
          rotate_left 1
          · rfl
          · (intro w hSw; unfold RaS at hSw; go_simp; (try with_reducible rfl))
          go_simp
          refine wpAnyH_take (i := 9) (v := undef) rfl (by kernel_rfl) (by kernel_rfl) (by kernel_rfl) (fun _ _ _ h => h) (Or.inr ⟨?_, rfl⟩) (by assumption) ?_
          · rfl
          go_simp
          refine wpAnyH_take (i := 10) (v := undef) rfl (by kernel_rfl) (by kernel_rfl) (by kernel_rfl) (fun _ _ _ h => h) (Or.inr ⟨?_, rfl⟩) (by assumption) ?_
          · rfl
          go_simp
          refine wpAnyH_take (i := 11) (v := undef) rfl (by kernel_rfl) (by kernel_rfl) (by kernel_rfl) (fun _ _ _ h => h) (Or.inr ⟨?_, rfl⟩) (by assumption) ?_
          · rfl
          go_simp
          refine wpAnyH_take (i := 12) (v := undef) rfl (by kernel_rfl) (by kernel_rfl) (by kernel_rfl) (fun _ _ _ h => h) (Or.inr ⟨?_, rfl⟩) (by assumption) ?_
          · rfl
          go_simp
          refine wpAnyH_take (i := 13) (v := undef) rfl (by kernel_rfl) (by kernel_rfl) (by kernel_rfl) (fun _ _ _ h => h) (Or.inr ⟨?_, rfl⟩) (by assumption) ?_
          · rfl
          go_simp
          refine wpAnyH_take (i := 14) (v := undef) rfl (by kernel_rfl) (by kernel_rfl) (by kernel_rfl) (fun _ _ _ h => h) (Or.inr ⟨?_, rfl⟩) (by assumption) ?_
          · rfl
          go_simp
          refine wpAnyH_take (i := 15) (v := undef) rfl (by kernel_rfl) (by kernel_rfl) (by kernel_rfl) (fun _ _ _ h => h) (Or.inr ⟨?_, rfl⟩) (by assumption) ?_
          · rfl
          go_simp
          refine wpAnyH_take (i := 16) (v := undef) rfl (by kernel_rfl) (by kernel_rfl) (by kernel_rfl) (fun _ _ _ h => h) (Or.inr ⟨?_, rfl⟩) (by assumption) ?_
          · rfl
          go_simp
          refine wpAnyH_take (i := 17) (v := ?va17) rfl (by kernel_rfl) (by kernel_rfl) (by kernel_rfl) (fun _ _ _ h => h) (Or.inl ⟨?_, ?_⟩) (by assumption) ?_
          rotate_left 1
          · rfl
          · (intro w hSw; unfold RaS at hSw; go_simp; (try with_reducible rfl))
          go_simp
          refine wpAnyH_done (by kernel_rfl) ?_ _
          go_wp2_with fail
          go_roundg (ok - 1)
          case measure => have h1 := HK.out; omega
          case rel => exact ⟨k + 1, A2, c2, n2, by omega, by show _ = _; have h1 := HK.out; omega, by go_num, rfl, by show RA _ _ _ _ _ _ _ _ _ _ _; rw [← HZ.out]; exact HR3.out⟩
    · obtain rfl : k = 3 := by omega
      go_wp2_with fail
      go_ret
      exact ⟨_, rfl, by have h1 := HR.out.len; subst h1; exact HR.out.app⟩
end Go.Proofs.Ytpngmodgnkjhnaa
