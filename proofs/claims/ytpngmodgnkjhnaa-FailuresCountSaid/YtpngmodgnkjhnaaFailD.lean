/- Layer 21: placements; the units of an item; machines with units in a state, of the program and of the reference. -/
import Derived.Test.YtpngmodgnkjhnaaSiteF
import Derived.Deep.LoopGhost
namespace Go.Proofs.Ytpngmodgnkjhnaa
open Go Go.RowKit Go.Maps
set_option maxRecDepth 100000

structure Un where
  mach : Int
  state : Int
def Un.val (u : Un) : Value := .agg #[.int .i64 u.mach, .int .i64 u.state]
def Un.cells (u : Un) : List Value := [.int .i64 u.mach, .int .i64 u.state]
def uncells (l : List Un) : List Value := l.flatMap Un.cells
theorem uncells_snoc (l : List Un) (x : Un) : uncells (l ++ [x]) = uncells l ++ x.cells := by unfold uncells; simp
theorem un_at {w : World} {bad : Nat → Prop} {b o i : Nat} {l : List Un} {x : Un} (r : RdAt w bad b o (uncells l)) (h : l[i]? = some x) :
    w.cell? ⟨b, o + i * 2, none⟩ = some (.int .i64 x.mach) ∧ w.cell? ⟨b, o + i * 2 + 1, none⟩ = some (.int .i64 x.state) := by
  have c0 := r.cell (i * 2 + 0) _ ((flat_at Un.cells 2 (fun _ => rfl) h 0 (by omega)).trans rfl)
  have c1 := r.cell (i * 2 + 1) _ ((flat_at Un.cells 2 (fun _ => rfl) h 1 (by omega)).trans rfl)
  simp only [← Nat.add_assoc, Nat.add_zero] at c0 c1
  exact ⟨c0, c1⟩
/-- A placement as it lies in a world: a slice of slices of units. -/
structure PlIn (w : World) (s : Sl) (P : List (List Un)) : Prop where
  n : s.len = P.length
  rows : ∃ rs : List Sl, rs.length = P.length ∧ Rd w noB 1 (.slice s.addr s.len s.cap) s.len (rs.map Sl.val) ∧ ∀ (i : Nat) (sl : Sl) (us : List Un), rs[i]? = some sl → P[i]? = some us → Rd w noB 2 (.slice sl.addr sl.len sl.cap) sl.len (uncells us) ∧ sl.len = us.length
  ok : ∀ us ∈ P, ∀ u ∈ us, inI64 u.mach ∧ inI64 u.state
theorem PlIn.keep {w w' : World} {s : Sl} {P : List (List Un)} (h : PlIn w s P) (hs : Same noB w w') : PlIn w' s P := by
  obtain ⟨rs, h1, h2, h3⟩ := h.rows
  exact ⟨h.n, ⟨rs, h1, h2.keep hs, fun i sl us hi hu => ⟨(h3 i sl us hi hu).1.keep hs, (h3 i sl us hi hu).2⟩⟩, h.ok⟩
def plVal (s : Sl) : Value := .agg #[.slice s.addr s.len s.cap]
def unitsOf (P : List (List Un)) (item : Int) : List Un := if 1 ≤ item ∧ item ≤ (P.length : Int) then (P[(item - 1).toNat]?).getD [] else []
/-- The row of an item. -/
theorem PlIn.at_ {w : World} {s : Sl} {P : List (List Un)} (h : PlIn w s P) {item : Int} (h1 : 1 ≤ item) (h2 : item ≤ (s.len : Int)) :
    ∃ (k : Nat) (b o : Nat) (sl : Sl), item = (k : Int) + 1 ∧ k < s.len ∧ s.addr = some ⟨b, o, none⟩ ∧ w.cell? ⟨b, o + k, none⟩ = some (.slice sl.addr sl.len sl.cap) ∧ sl.len = (unitsOf P item).length ∧ Rd w noB 2 (.slice sl.addr sl.len sl.cap) sl.len (uncells (unitsOf P item)) := by
  obtain ⟨rs, hl, hr, hi⟩ := h.rows
  obtain ⟨b, o, ha, r⟩ := hr.at_ (by omega)
  have hn := h.n
  obtain ⟨k, rfl⟩ : ∃ k : Nat, item = (k : Int) + 1 := ⟨(item - 1).toNat, by omega⟩
  obtain ⟨sl, hsl⟩ : ∃ sl, rs[k]? = some sl := ⟨_, List.getElem?_eq_getElem (by omega)⟩
  obtain ⟨us, hus⟩ : ∃ us, P[k]? = some us := ⟨_, List.getElem?_eq_getElem (by omega)⟩
  have hu : unitsOf P ((k : Int) + 1) = us := by
    unfold unitsOf
    rw [if_pos ⟨by omega, by omega⟩, show ((k : Int) + 1 - 1).toNat = k from by omega, hus]
    rfl
  obtain ⟨q1, q2⟩ := hi k sl us hsl hus
  exact ⟨k, b, o, sl, rfl, by omega, ha, r.cell k _ (by rw [List.getElem?_map, hsl]; rfl), by rw [hu]; exact q2, by rw [hu]; exact q1⟩
theorem units_none {P : List (List Un)} {item : Int} (h : ¬ (1 ≤ item ∧ item ≤ (P.length : Int))) : unitsOf P item = [] := by unfold unitsOf; rw [if_neg h]
/-- A slice of the units of an item, and the world. -/
def UnR (w : World) (us : List Un) (e : Ending) (w' : World) : Prop := ∃ A c, e = .returned (.slice A us.length c) ∧ Rd w' noB 2 (.slice A us.length c) us.length (uncells us) ∧ Same noB w w'
theorem runits_any {w : World} {s : Sl} {P : List (List Un)} (h : PlIn w s P) (item : Int) : Calls Try.prog 42 #[plVal s, .int .i64 item] w (UnR w (unitsOf P item)) := by
  have hp := h.keep ((Same.refl _ _).alloc (.cells #[.slice s.addr s.len s.cap] 41))
  have HS : Hid (Same noB w (w.alloc (.cells #[.slice s.addr s.len s.cap] 41))) := (Same.refl _ _).alloc _
  have hln := h.n
  have hbd : s.len ≤ 9223372036854775807 := by obtain ⟨rs, _, hr, _⟩ := h.rows; have := hr.caps; omega
  by_cases hi : 1 ≤ item ∧ item ≤ (s.len : Int)
  · obtain ⟨k, b, o, sl, rfl, hk, ha, hc, hl, hr⟩ := hp.at_ hi.1 hi.2
    have HE : Hid (exB ((k : Int) + 1) s.len = true) := exB_iff.2 hi
    have HF : Hid (sl.len = (unitsOf P ((k : Int) + 1)).length ∧ Rd (w.alloc (.cells #[.slice s.addr s.len s.cap] 41)) noB 2 (.slice sl.addr sl.len sl.cap) sl.len (uncells (unitsOf P ((k : Int) + 1)))) := ⟨hl, hr⟩
    obtain ⟨sa, sn, sc⟩ := s
    simp only at *
    subst ha
    generalize unitsOf P ((k : Int) + 1) = us at *
    clear hp hr hl h hi hln
    unfold plVal
    go_enter Try.func42, Try.ntmps42
    go_wp2_with fail
    refine (rexists_any ((k : Int) + 1) sn _).mono ?_
    rintro e w2 ⟨rfl, rfl⟩
    rw [HE.out]
    go_wp2_with fail
    go_ret
    exact ⟨sl.addr, sl.cap, by rw [← HF.out.1] <;> rfl, by rw [← HF.out.1]; exact HF.out.2, HS.out⟩
  · have HE : Hid (exB item s.len = false) := by
      show exB _ _ = false
      cases he : exB item s.len
      · rfl
      · exact absurd (exB_iff.1 he) hi
    have HU : Hid (unitsOf P item = []) := units_none (by rw [← hln]; exact hi)
    generalize unitsOf P item = us at *
    clear hp h hi hln
    unfold plVal
    go_enter Try.func42, Try.ntmps42
    go_wp2_with fail
    refine (rexists_any item s.len _).mono ?_
    rintro e w2 ⟨rfl, rfl⟩
    rw [HE.out]
    go_wp2_with fail
    go_ret
    exact ⟨none, 0, by rw [HU.out] <;> rfl, by rw [HU.out]; exact Rd.nil_ _ _ _, HS.out⟩
theorem units_any {w : World} {s : Sl} {P : List (List Un)} (h : PlIn w s P) (item : Int) : Calls Try.prog 56 #[plVal s, .int .i64 item] w (UnR w (unitsOf P item)) := by
  have hp := h.keep ((Same.refl _ _).alloc (.cells #[.slice s.addr s.len s.cap] 41))
  have HS : Hid (Same noB w (w.alloc (.cells #[.slice s.addr s.len s.cap] 41))) := (Same.refl _ _).alloc _
  have hln := h.n
  have hbd : s.len ≤ 9223372036854775807 := by obtain ⟨rs, _, hr, _⟩ := h.rows; have := hr.caps; omega
  by_cases hi : 1 ≤ item ∧ item ≤ (s.len : Int)
  · obtain ⟨k, b, o, sl, rfl, hk, ha, hc, hl, hr⟩ := hp.at_ hi.1 hi.2
    have HF : Hid (sl.len = (unitsOf P ((k : Int) + 1)).length ∧ Rd (w.alloc (.cells #[.slice s.addr s.len s.cap] 41)) noB 2 (.slice sl.addr sl.len sl.cap) sl.len (uncells (unitsOf P ((k : Int) + 1)))) := ⟨hl, hr⟩
    obtain ⟨sa, sn, sc⟩ := s
    simp only at *
    subst ha
    have hk1 := hi.1
    have hk2 := hi.2
    generalize unitsOf P ((k : Int) + 1) = us at *
    clear hp hr hl h hi hln
    unfold plVal
    go_enter Try.func56, Try.ntmps56
    go_wp2_with fail
    go_ret
    exact ⟨sl.addr, sl.cap, by rw [← HF.out.1] <;> rfl, by rw [← HF.out.1]; exact HF.out.2, HS.out⟩
  · have HU : Hid (unitsOf P item = []) := units_none (by rw [← hln]; exact hi)
    generalize unitsOf P item = us at *
    clear hp h hln
    by_cases h1 : item < 1
    · unfold plVal
      clear hi
      go_enter Try.func56, Try.ntmps56
      go_wp2_with fail
      go_ret
      exact ⟨none, 0, by rw [HU.out] <;> rfl, by rw [HU.out]; exact Rd.nil_ _ _ _, HS.out⟩
    · have h2 : (s.len : Int) < item := by omega
      have h3 : 1 ≤ item := by omega
      unfold plVal
      clear hi h1
      go_enter Try.func56, Try.ntmps56
      go_wp2_with fail
      go_ret
      exact ⟨none, 0, by rw [HU.out] <;> rfl, by rw [HU.out]; exact Rd.nil_ _ _ _, HS.out⟩

/-! ### Machines with units in a state -/
def machs (P : List (List Un)) (item st : Int) : List Int := ((unitsOf P item).filter (fun u => u.state == st)).map Un.mach
theorem slU : SlT Try.prog 75 77 2 16 := SlT.mk_ (z := .agg #[.int .i64 0, .int .i64 0]) Try.underlying75 (by kernel_rfl) rfl (by decide) (by decide)
theorem un_one (u : Un) : ∀ x ∈ u.cells, x.oneCell' = true := by
  intro x hx
  simp [Un.cells] at hx
  rcases hx with rfl | rfl <;> rfl
theorem filt_step {us : List Un} {st : Int} {k : Nat} {u : Un} (h : us[k]? = some u) : (us.take (k + 1)).filter (fun u => u.state == st) = (us.take k).filter (fun u => u.state == st) ++ (if u.state == st then [u] else []) := by
  rw [List.take_add_one, h, List.filter_append]
  congr 1
  simp only [Option.toList_some, List.filter_cons, List.filter_nil]
theorem filt_len (us : List Un) (st : Int) (k : Nat) : ((us.take k).filter (fun u => u.state == st)).length ≤ k := Nat.le_trans (List.length_filter_le _ _) (List.length_take_le _ _)
/-- The closure of Machines. -/
theorem c57 {w : World} {g : Nat} {st : Int} (hb : Blk w g 3 #[.int .i64 st]) (u : Un) : Calls Try.prog 57 #[u.val, .pointer (some ⟨g, 0, none⟩)] w fun e w' => e = .returned (.bool (u.state == st)) ∧ Same noB w w' := by
  have hb2 := hb.alloc (.cells #[.int .i64 u.mach, .int .i64 u.state] 77)
  have c0 : (w.alloc (.cells #[.int .i64 u.mach, .int .i64 u.state] 77)).cell? ⟨g, 0, none⟩ = some (.int .i64 st) := hb2.cell 0
  have HS : Hid (Same noB w (w.alloc (.cells #[.int .i64 u.mach, .int .i64 u.state] 77))) := (Same.refl _ _).alloc _
  clear hb hb2
  unfold Un.val
  go_enter Try.func57, Try.ntmps57
  go_wp2_with fail
  go_ret
  exact ⟨rfl, HS.out⟩
theorem c59 {w : World} (u : Un) : Calls Try.prog 59 #[u.val] w fun e w' => e = .returned (.int .i64 u.mach) ∧ Same noB w w' := by
  have HS : Hid (Same noB w (w.alloc (.cells #[.int .i64 u.mach, .int .i64 u.state] 77))) := (Same.refl _ _).alloc _
  unfold Un.val
  go_enter Try.func59, Try.ntmps59
  go_wp2_with fail
  go_ret
  exact ⟨rfl, HS.out⟩
set_option maxHeartbeats 4000000 in
theorem filtered_any {w : World} {A : Option Addr} {c g : Nat} {us : List Un} {st : Int} (hr : Rd w noB 2 (.slice A us.length c) us.length (uncells us)) (hg : Blk w g 3 #[.int .i64 st]) (hlen : us.length ≤ 1000000) :
    Calls Try.prog 55 #[.slice A us.length c, .func (.func 57) #[] #[.pointer (some ⟨g, 0, none⟩)]] w fun e w' => ∃ v', e = .returned v' ∧ AppAt w w' v' (us.filter (fun u => u.state == st)).length 77 2 (uncells (us.filter (fun u => u.state == st))) := by
  have HR := Lib.hid hr
  have HG := Lib.hid hg
  clear hr hg
  go_enter Try.func55, Try.ntmps55
  go_wp2_with fail
  go_loopg [5, 10] (us.length) (fun gk o i wr => ∃ (k : Nat) (A2 : Option Addr) (c2 n : Nat), k ≤ us.length ∧ Hid (gk + k = us.length) ∧ i = .int .i64 k ∧ o = .slice A2 n c2 ∧ Hid (n = ((us.take k).filter (fun u => u.state == st)).length) ∧ Hid (AppAt w wr (.slice A2 n c2) n 77 2 (uncells ((us.take k).filter (fun u => u.state == st)))))
  case atStart => exact ⟨0, none, 0, 0, Nat.zero_le _, rfl, rfl, rfl, rfl, AppAt.nil_ _ _ _⟩
  case round =>
    obtain ⟨k, A2, c2, n, hk, HK, rfl, rfl, HN, HA⟩ := hrel
    have hn : n ≤ 1000000 := by rw [HN.out]; exact Nat.le_trans (filt_len us st k) (by omega)
    by_cases hlt : k < us.length
    · obtain ⟨b, o, rfl, r⟩ := HR.out.at_ (by omega)
      obtain ⟨u, hu⟩ : ∃ u, us[k]? = some u := ⟨_, List.getElem?_eq_getElem hlt⟩
      obtain ⟨q0, q1⟩ := un_at r hu
      have p0 := HA.out.since.cell q0 (fun x => x)
      have p1 := HA.out.since.cell q1 (fun x => x)
      have HF := Lib.hid (filt_step (st := st) hu)
      clear r q0 q1 hu
      have HL := Lib.hid (HA.out.keep ((Same.refl _ _).alloc (.cells #[.int .i64 u.mach, .int .i64 u.state] 77)))
      have hz2 : wr.heap.size < (wr.alloc (.cells #[.int .i64 u.mach, .int .i64 u.state] 77)).heap.size := by simp
      have HU : Hid (Blk (wr.alloc (.cells #[.int .i64 u.mach, .int .i64 u.state] 77)) wr.heap.size 77 #[.int .i64 u.mach, .int .i64 u.state]) := Blk.new _ _ _
      have HG1 : Hid (Blk (wr.alloc (.cells #[.int .i64 u.mach, .int .i64 u.state] 77)) g 3 #[.int .i64 st]) := HG.out.same (HL.out.since) (fun x => x)
      clear hz2
      go_wp2_with fail
      have hZ := c57 HG1.out u
      unfold Un.val at hZ
      (with_reducible refine Calls.mono hZ ?_)
      clear hZ
      rintro e W5 ⟨rfl, hs⟩
      have HA5 := Lib.hid (HL.out.keep hs)
      have HU5 := Lib.hid (HU.out.same hs (fun x => x))
      have u0 : W5.cell? ⟨wr.heap.size, 0, none⟩ = some (.int .i64 u.mach) := HU5.out.cell 0
      have u1 : W5.cell? ⟨wr.heap.size, 1, none⟩ = some (.int .i64 u.state) := HU5.out.cell 1
      clear hs HA HL HU HG1 p0 p1
      cases hst : (u.state == st)
      · have HA6 : Hid (AppAt w W5 (.slice A2 n c2) n 77 2 (uncells ((us.take (k + 1)).filter (fun u => u.state == st)))) := by
          show AppAt _ _ _ _ _ _ _
          rw [HF.out, hst, if_neg (by decide), List.append_nil]
          exact HA5.out
        have HN6 : Hid (n = ((us.take (k + 1)).filter (fun u => u.state == st)).length) := by
          show n = _
          rw [HF.out, hst, if_neg (by decide), List.append_nil]
          exact HN.out
        clear hst
        go_wp2_with fail
        go_roundg (gk - 1)
        case measure => have h1 := HK.out; omega
        case rel => exact ⟨k + 1, A2, c2, n, by omega, by show _ = _; have h1 := HK.out; omega, by go_num, rfl, HN6.out, HA6.out⟩
      · have HF2 : Hid ((us.take (k + 1)).filter (fun u => u.state == st) = (us.take k).filter (fun u => u.state == st) ++ [u]) := by
          show _ = _
          rw [HF.out, hst, if_pos rfl]
        clear hst
        go_wp2_with (at_builtin; refine wpL_app slU rfl _ _ rfl rfl ((HA5.out.keep ((Same.refl _ _).alloc _)).own) rfl (bad := noB) (Rd.of_blk (Blk.new W5 77 [Value.int .i64 u.mach, Value.int .i64 u.state].toArray) (fun x => x) (by rfl) (by omega) (by simp [maxLen])) (un_one u) (by omega) (Nat.zero_le _) ?_; intro A6 c6' W6 hown6 hgrow6 hat6 _; have HA6 := Lib.hid (AppAt.next (HA5.out.keep ((Same.refl _ _).alloc (.cells #[.int .i64 u.mach, .int .i64 u.state] 77))) hgrow6 hat6 hown6); clear hown6 hgrow6 hat6)
        go_roundg (gk - 1)
        case measure => have h1 := HK.out; omega
        case rel => exact ⟨k + 1, A6, c6', n + 1, by omega, by show _ = _; have h1 := HK.out; omega, by go_num, rfl, by show _ = _; rw [HF2.out, List.length_append, HN.out]; rfl, by show AppAt _ _ _ _ _ _ _; rw [HF2.out, uncells_snoc]; exact HA6.out⟩
    · obtain rfl : k = us.length := by omega
      have HA4 : Hid (AppAt w wr (.slice A2 n c2) (us.filter (fun u => u.state == st)).length 77 2 (uncells (us.filter (fun u => u.state == st)))) := by
        have h1 := HA.out
        have h2 := HN.out
        rw [List.take_length] at h1 h2
        show AppAt _ _ _ _ _ _ _
        rw [← h2]
        exact h1
      go_wp2_with fail
      go_ret
      exact ⟨_, rfl, HA4.out⟩
set_option maxHeartbeats 4000000 in
theorem mapped_any {w : World} {bad : Nat → Prop} {A : Option Addr} {c : Nat} {us : List Un} (hr : Rd w bad 2 (.slice A us.length c) us.length (uncells us)) (hlen : us.length ≤ 1000000) :
    Calls Try.prog 58 #[.slice A us.length c, .func (.func 59) #[] #[]] w fun e w' => ∃ v', e = .returned v' ∧ AppAt w w' v' (us.map Un.mach).length 3 1 (icells (us.map Un.mach)) := by
  have HR := Lib.hid hr
  clear hr
  go_enter Try.func58, Try.ntmps58
  go_wp2_with fail
  go_loopg [5, 10] (us.length) (fun gk o i wr => ∃ (k : Nat) (A2 : Option Addr) (c2 n : Nat), k ≤ us.length ∧ Hid (gk + k = us.length) ∧ i = .int .i64 k ∧ o = .slice A2 n c2 ∧ Hid (n = k) ∧ Hid (AppAt w wr (.slice A2 n c2) n 3 1 (icells ((us.take k).map Un.mach))))
  case atStart => exact ⟨0, none, 0, 0, Nat.zero_le _, rfl, rfl, rfl, rfl, AppAt.nil_ _ _ _⟩
  case round =>
    obtain ⟨k, A2, c2, n, hk, HK, rfl, rfl, HN, HA⟩ := hrel
    have hn : n ≤ 1000000 := by rw [HN.out]; omega
    by_cases hlt : k < us.length
    · obtain ⟨b, o, rfl, r⟩ := HR.out.at_ (by omega)
      obtain ⟨u, hu⟩ : ∃ u, us[k]? = some u := ⟨_, List.getElem?_eq_getElem hlt⟩
      obtain ⟨q0, q1⟩ := un_at r hu
      have p0 := HA.out.since.cell q0 (fun x => x)
      have p1 := HA.out.since.cell q1 (fun x => x)
      have HF2 : Hid ((us.take (k + 1)).map Un.mach = (us.take k).map Un.mach ++ [u.mach]) := by
        show _ = _
        rw [List.take_add_one, hu, List.map_append]
        rfl
      have HL := Lib.hid (HA.out.keep ((Same.refl _ _).alloc (.cells #[.int .i64 u.mach, .int .i64 u.state] 77)))
      clear r q0 q1 hu
      go_wp2_with fail
      have hZ := c59 (w := wr.alloc (.cells #[.int .i64 u.mach, .int .i64 u.state] 77)) u
      unfold Un.val at hZ
      (with_reducible refine Calls.mono hZ ?_)
      clear hZ
      rintro e W5 ⟨rfl, hs⟩
      have HA5 := Lib.hid (HL.out.keep hs)
      clear hs HA HL p0 p1
      go_wp2_with (at_builtin; refine wpL_app slI rfl _ _ rfl rfl ((HA5.out.keep ((Same.refl _ _).alloc _)).own) rfl (bad := noB) (Rd.of_blk (Blk.new W5 3 [Value.int .i64 u.mach].toArray) (fun x => x) (by rfl) (by omega) (by simp [maxLen])) (int_one u.mach) (by omega) (Nat.zero_le _) ?_; intro A6 c6' W6 hown6 hgrow6 hat6 _; have HA6 := Lib.hid (AppAt.next (HA5.out.keep ((Same.refl _ _).alloc (.cells #[.int .i64 u.mach] 3))) hgrow6 hat6 hown6); clear hown6 hgrow6 hat6)
      go_roundg (gk - 1)
      case measure => have h1 := HK.out; omega
      case rel => exact ⟨k + 1, A6, c6', n + 1, by omega, by show _ = _; have h1 := HK.out; omega, by go_num, rfl, by show _ = _; rw [HN.out], by show AppAt _ _ _ _ _ _ _; rw [HF2.out, icells_snoc]; exact HA6.out⟩
    · obtain rfl : k = us.length := by omega
      have HA4 : Hid (AppAt w wr (.slice A2 n c2) (us.map Un.mach).length 3 1 (icells (us.map Un.mach))) := by
        have h1 := HA.out
        have h2 := HN.out
        rw [List.take_length] at h1
        show AppAt _ _ _ _ _ _ _
        rw [List.length_map, ← h2]
        exact h1
      go_wp2_with fail
      go_ret
      exact ⟨_, rfl, HA4.out⟩
/-- Machines of package placement. -/
theorem pmachines_any {w : World} {s : Sl} {P : List (List Un)} (h : PlIn w s P) (item st : Int) (hlen : (unitsOf P item).length ≤ 1000000) :
    Calls Try.prog 40 #[plVal s, .int .i64 item, .int .i64 st] w fun e w' => ∃ v', e = .returned v' ∧ AppAt w w' v' (machs P item st).length 3 1 (icells (machs P item st)) := by
  have HP : Hid (PlIn ((w.alloc (.cells #[.slice s.addr s.len s.cap] 41)).alloc (.cells #[.int .i64 st] 3)) s P) := h.keep (((Same.refl _ _).alloc _).alloc _)
  have HS : Hid (Same noB w ((w.alloc (.cells #[.slice s.addr s.len s.cap] 41)).alloc (.cells #[.int .i64 st] 3))) := ((Same.refl _ _).alloc _).alloc _
  have hz : (w.alloc (.cells #[.slice s.addr s.len s.cap] 41)).heap.size = w.heap.size + 1 := by simp
  have hg := Blk.new (w.alloc (.cells #[.slice s.addr s.len s.cap] 41)) 3 #[.int .i64 st]
  rw [hz] at hg
  have HG := Lib.hid hg
  have HL := Lib.hid hlen
  clear h hz hg hlen
  unfold plVal
  go_enter Try.func40, Try.ntmps40
  go_wp2_with fail
  have hZ := units_any HP.out item
  unfold plVal at hZ
  (with_reducible refine Calls.mono hZ ?_)
  clear hZ
  rintro e W3 ⟨A3, c3, rfl, hr3, hs3⟩
  have HR3 := Lib.hid hr3
  have HG3 := Lib.hid (HG.out.same hs3 (fun x => x))
  have HS3 := Lib.hid (HS.out.trans' hs3)
  clear hr3 hs3
  go_wp2_with fail
  have hZ := filtered_any HR3.out HG3.out HL.out
  (with_reducible refine Calls.mono hZ ?_)
  clear hZ
  rintro e W4 ⟨v4, rfl, ha⟩
  obtain ⟨A4, c4, rfl, hc41, hc42, hr4⟩ := (ha.rd (bad := noB) (fun b e => e.elim)).form
  have HR4 := Lib.hid hr4
  have HS4 := Lib.hid (HS3.out.trans' ha.since)
  clear ha hr4 hc41 hc42
  go_wp2_with fail
  have hZ := mapped_any HR4.out (Nat.le_trans (List.length_filter_le _ _) HL.out)
  (with_reducible refine Calls.mono hZ ?_)
  clear hZ
  rintro e W5 ⟨v5, rfl, ha⟩
  have HF : Hid (AppAt w W5 v5 (machs P item st).length 3 1 (icells (machs P item st))) := ha.before HS4.out
  clear ha
  go_wp2_with fail
  go_ret
  exact ⟨_, rfl, HF.out⟩
set_option maxHeartbeats 4000000 in
theorem rmachs_any {w : World} {s : Sl} {P : List (List Un)} (h : PlIn w s P) (item st : Int) (hlen : (unitsOf P item).length ≤ 1000000) :
    Calls Try.prog 22 #[plVal s, .int .i64 item, .int .i64 st] w fun e w' => ∃ v', e = .returned v' ∧ AppAt w w' v' (machs P item st).length 3 1 (icells (machs P item st)) := by
  have HP : Hid (PlIn (w.alloc (.cells #[.slice s.addr s.len s.cap] 41)) s P) := h.keep ((Same.refl _ _).alloc _)
  have HS : Hid (Same noB w (w.alloc (.cells #[.slice s.addr s.len s.cap] 41))) := (Same.refl _ _).alloc _
  have HL := Lib.hid hlen
  have hlen2 := hlen
  have HM : Hid (machs P item st = ((unitsOf P item).filter (fun u => u.state == st)).map Un.mach) := rfl
  generalize machs P item st = ms at *
  clear h hlen
  unfold plVal
  go_enter Try.func22, Try.ntmps22
  go_wp2_with fail
  have hZ := runits_any HP.out item
  unfold plVal at hZ
  (with_reducible refine Calls.mono hZ ?_)
  clear hZ
  rintro e W3 ⟨A3, c3, rfl, hr3, hs3⟩
  have HR3 := Lib.hid hr3
  have HS3 := Lib.hid (HS.out.trans' hs3)
  clear hr3 hs3
  generalize unitsOf P item = us at *
  go_wp2_with fail
  refine wp_abs (fun W => Hid (Same noB W3 W ∧ AppAt W3 W (.slice (some ⟨W3.heap.size, 0, none⟩) 0 0) 0 3 1 [])) ⟨(Same.refl _ _).alloc _, AppAt.lit W3 3 1⟩ ?_
  generalize W3.heap.size = g0 at *
  intro W HX
  go_loopg [8, 9] (us.length) (fun gk o i wr => ∃ (k : Nat) (A2 : Option Addr) (c2 n : Nat), k ≤ us.length ∧ Hid (gk + k = us.length) ∧ i = .int .i64 k ∧ o = .slice A2 n c2 ∧ Hid (n = ((us.take k).filter (fun u => u.state == st)).length) ∧ Hid (AppAt W3 wr (.slice A2 n c2) n 3 1 (icells (((us.take k).filter (fun u => u.state == st)).map Un.mach))))
  case atStart => exact ⟨0, _, _, 0, Nat.zero_le _, rfl, rfl, rfl, rfl, HX.out.2⟩
  case round =>
    obtain ⟨k, A2, c2, n, hk, HK, rfl, rfl, HN, HA⟩ := hrel
    clear HX
    have hn : n ≤ 1000000 := by rw [HN.out]; exact Nat.le_trans (filt_len us st k) (by omega)
    by_cases hlt : k < us.length
    · obtain ⟨b, o, rfl, r⟩ := HR3.out.at_ (by omega)
      obtain ⟨u, hu⟩ : ∃ u, us[k]? = some u := ⟨_, List.getElem?_eq_getElem hlt⟩
      obtain ⟨q0, q1⟩ := un_at r hu
      have p0 := HA.out.since.cell q0 (fun x => x)
      have p1 := HA.out.since.cell q1 (fun x => x)
      have HF := Lib.hid (filt_step (st := st) hu)
      clear r q0 q1 hu
      cases hst : (u.state == st)
      · have HA6 : Hid (AppAt W3 wr (.slice A2 n c2) n 3 1 (icells (((us.take (k + 1)).filter (fun u => u.state == st)).map Un.mach))) := by
          show AppAt _ _ _ _ _ _ _
          rw [HF.out, hst, if_neg (by decide), List.append_nil]
          exact HA.out
        have HN6 : Hid (n = ((us.take (k + 1)).filter (fun u => u.state == st)).length) := by
          show n = _
          rw [HF.out, hst, if_neg (by decide), List.append_nil]
          exact HN.out
        go_wp2_with fail
        go_roundg (gk - 1)
        case measure => have h1 := HK.out; omega
        case rel => exact ⟨k + 1, A2, c2, n, by omega, by show _ = _; have h1 := HK.out; omega, by go_num, rfl, HN6.out, HA6.out⟩
      · have HF2 : Hid ((us.take (k + 1)).filter (fun u => u.state == st) = (us.take k).filter (fun u => u.state == st) ++ [u]) := by
          show _ = _
          rw [HF.out, hst, if_pos rfl]
        go_wp2_with (at_builtin; refine wpL_app slI rfl _ _ rfl rfl ((HA.out.keep ((Same.refl _ _).alloc _)).own) rfl (bad := noB) (Rd.of_blk (Blk.new wr 3 [Value.int .i64 u.mach].toArray) (fun x => x) (by rfl) (by omega) (by simp [maxLen])) (int_one u.mach) (by omega) (Nat.zero_le _) ?_; intro A6 c6' W6 hown6 hgrow6 hat6 _; have HA6 := Lib.hid (AppAt.next (HA.out.keep ((Same.refl _ _).alloc (.cells #[.int .i64 u.mach] 3))) hgrow6 hat6 hown6); clear hown6 hgrow6 hat6)
        go_roundg (gk - 1)
        case measure => have h1 := HK.out; omega
        case rel => exact ⟨k + 1, A6, c6', n + 1, by omega, by show _ = _; have h1 := HK.out; omega, by go_num, rfl, by show _ = _; rw [HF2.out, List.length_append, HN.out]; rfl, by show AppAt _ _ _ _ _ _ _; rw [HF2.out, List.map_append]; exact (icells_snoc _ u.mach) ▸ HA6.out⟩
    · obtain rfl : k = us.length := by omega
      have HA4 : Hid (AppAt w wr (.slice A2 n c2) ms.length 3 1 (icells ms)) := by
        have h1 := HA.out
        have h2 := HN.out
        rw [List.take_length] at h1 h2
        show AppAt _ _ _ _ _ _ _
        rw [HM.out, List.length_map, ← h2]
        exact h1.before HS3.out
      go_wp2_with fail
      go_ret
      exact ⟨_, rfl, HA4.out⟩
end Go.Proofs.Ytpngmodgnkjhnaa
