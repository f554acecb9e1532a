/- Layer 10: walk of the program. -/
import Derived.Test.YtpalacfgpcpppaaFloV
import Derived.Test.YtpalacfgpcpppaaFloH
namespace Go.Proofs.Ytpalacfgpcpppaa
open Go Go.RowKit Go.Maps
set_option maxRecDepth 100000

/-- A map of rows, to read. -/
def OutR (w : World) (v : Value) (adj : Int → List Int) : Prop := ∃ B nm f, v = .map (some B) ∧ MapF eI w B nm f ∧ ∀ x, ∃ A c, rowOf f x = .slice A (adj x).length c ∧ Rd w noB 1 (rowOf f x) (adj x).length (icells (adj x))
theorem OutR.keep {w w' : World} {v : Value} {adj : Int → List Int} (h : OutR w v adj) (hs : Same noB w w') : OutR w' v adj := by
  obtain ⟨B, nm, f, h1, h2, h3⟩ := h
  refine ⟨B, nm, f, h1, h2.same hs (fun x => x), fun x => ?_⟩
  obtain ⟨A, c, h4, h5⟩ := h3 x
  exact ⟨A, c, h4, h5.keep hs⟩
def posB (am : List Int) (i : Int) : Bool := match am[i.toNat]? with | some x => decide (0 < x) | none => false
set_option maxHeartbeats 4000000 in
theorem pos47 {w : World} {D : Nat} {sa : Sl} {am : List Int} (c0 : w.cell? ⟨D, 0, none⟩ = some (.slice sa.addr sa.len sa.cap)) (h : IsI w noB sa am) {j : Nat} {x : Int} (hx : am[j]? = some x) :
    Calls Try.prog 47 #[.int .i64 (j : Int), .pointer (some ⟨D, 0, none⟩)] w fun r w' => r = .returned (.bool (posB am (j : Int))) ∧ Same noB w w' := by
  have HF : Hid (posB am (j : Int) = decide (0 < x)) := by show _ = _; unfold posB; rw [Int.toNat_natCast, hx]
  rw [HF.out]
  obtain ⟨A, m, c⟩ := sa
  obtain ⟨hl, hr⟩ := h
  simp only at hl hr c0
  have hcaps := hr.caps
  have hj := (List.getElem?_eq_some_iff.1 hx).1
  obtain ⟨b, o, rfl, r⟩ := hr.at_ (by omega)
  have a0 := r.cell j _ (icells_at hx)
  have hi0 : (0 : Int) ≤ (j : Int) := by omega
  have hi1 : (j : Int) < (m : Int) := by omega
  clear r hr hl hx
  go_enter Try.func47, Try.ntmps47
  go_wp2_with fail
  go_ret
  exact ⟨rfl, Same.refl _ _⟩
set_option maxHeartbeats 4000000 in
theorem idx46 {w : World} {D : Nat} {sa s : Sl} {am l : List Int} (c0 : w.cell? ⟨D, 0, none⟩ = some (.slice sa.addr sa.len sa.cap)) (h : IsI w noB sa am) (hl : IsI w noB s l) (hin : ∀ i ∈ l, ∃ (j : Nat) (x : Int), i = (j : Int) ∧ am[j]? = some x) :
    Calls Try.prog 46 #[.slice s.addr s.len s.cap, .func (.func 47) #[] #[.pointer (some ⟨D, 0, none⟩)]] w fun r w' => r = .returned (.int .i64 (fidx (posB am) l)) ∧ Same noB w w' := by
  have HI := Lib.hid h
  have HC := Lib.hid c0
  have HIN := Lib.hid hin
  obtain ⟨A, m, c⟩ := s
  obtain ⟨hln, hr⟩ := hl
  simp only at hln hr
  have hcaps := hr.caps
  have HR := Lib.hid hr
  have HL := Lib.hid hln
  clear h c0 hin hr hln
  dsimp only
  go_enter Try.func46, Try.ntmps46
  go_wp2_with fail
  go_loopw [8] (fun i wr => ∃ k : Nat, k ≤ m ∧ i = .int .i64 k ∧ Hid ((∀ (j : Nat) (z : Int), j < k → l[j]? = some z → posB am z = false) ∧ Same noB w wr)) (fun i _ => m - (intOf i).toNat)
  case atStart => exact ⟨0, Nat.zero_le _, rfl, ⟨fun j z hj => by omega, Same.refl _ _⟩⟩
  case round =>
    obtain ⟨k, hk, rfl, HS⟩ := hrel
    by_cases hlt : k < m
    · obtain ⟨i, hi⟩ : ∃ e, l[k]? = some e := ⟨_, List.getElem?_eq_getElem (by have := HL.out; omega)⟩
      obtain ⟨j, x, rfl, hx⟩ := HIN.out i (List.mem_of_getElem? hi)
      obtain ⟨b, o, rfl, r⟩ := (HR.out.keep HS.out.2).at_ (by omega)
      have a0 := r.cell k _ (icells_at hi)
      have hC := pos47 (HS.out.2.cell HC.out (fun x => x)) (HI.out.keep HS.out.2) hx
      have hi0 : (0 : Int) ≤ (k : Int) := by omega
      have hi1 : (k : Int) < (m : Int) := by omega
      have HY := Lib.hid hi
      cases hp : posB am (j : Int)
      · rw [hp] at hC
        have HC2 := Lib.hid hC
        have HP := Lib.hid hp
        clear hC hp hi hx r
        go_wp2_with fail
        have hZ := HC2.out
        (with_reducible refine Calls.mono hZ ?_)
        clear hZ HC2
        rintro e3 w3 ⟨rfl, hs⟩
        have HS3 : Hid (Same noB w w3) := HS.out.2.trans' hs
        clear hs a0
        go_wp2_with fail
        go_roundw
        case rel => exact ⟨k + 1, by omega, by go_num, ⟨fun j' z hj hz => by
          by_cases e : j' = k
          · subst e
            have := hz.symm.trans HY.out
            injection this with this
            rw [this]
            exact HP.out
          · exact HS.out.1 j' z (by omega) hz, HS3.out⟩⟩
        case measure => simp [intOf]; omega
      · rw [hp] at hC
        have HC2 := Lib.hid hC
        have HF := Lib.hid (fidx_some (p := posB am) hi hp HS.out.1)
        clear hC hp hi hx r
        go_wp2_with fail
        have hZ := HC2.out
        (with_reducible refine Calls.mono hZ ?_)
        clear hZ HC2
        rintro e3 w3 ⟨rfl, hs⟩
        have HS3 : Hid (Same noB w w3) := HS.out.2.trans' hs
        clear hs a0
        go_wp2_with fail
        go_ret
        exact ⟨by rw [HF.out] <;> rfl, HS3.out⟩
    · obtain rfl : k = m := by omega
      have HF := Lib.hid (fidx_none (p := posB am) (l := l) (fun j z hz => HS.out.1 j z (by have := HL.out; have := (List.getElem?_eq_some_iff.1 hz).1; omega) hz))
      go_wp2_with fail
      go_ret
      exact ⟨by rw [HF.out] <;> rfl, HS.out.2⟩
theorem fidx_pos {α : Type} {p : α → Bool} {l : List α} (h : ∃ z ∈ l, p z = true) : ∃ (k : Nat) (z : α), fidx p l = (k : Int) ∧ l[k]? = some z ∧ p z = true := by
  obtain ⟨z, hz, hp⟩ := h
  unfold fidx
  cases hf : l.findIdx? p with
  | none =>
    rw [List.findIdx?_eq_none_iff] at hf
    rw [hf z hz] at hp
    cases hp
  | some k =>
    rw [List.findIdx?_eq_some_iff_getElem] at hf
    obtain ⟨hk, h1, _⟩ := hf
    exact ⟨k, _, rfl, List.getElem?_eq_getElem hk, h1⟩
theorem zero3 (w : World) : (zeroValue 3).run Try.prog w = .ok (.int .i64 0) w := by kernel_rfl
/-- The places of the nodes of a walk. -/
def placeF (q : List Int) (x : Int) : Option Value := if x ∈ q then some (.int .i64 ((q.idxOf x : Nat) : Int)) else none
theorem placeF_new {q : List Int} {x : Int} (h : x ∉ q) : placeF (q ++ [x]) = upd (placeF q) x (.int .i64 (q.length : Int)) := by
  funext y
  unfold placeF upd
  by_cases e : y = x
  · subst e
    rw [if_pos rfl, if_pos (by simp), List.idxOf_append, if_neg h]
    simp
  · rw [if_neg e]
    show _ = if y ∈ q then some (Value.int .i64 ((q.idxOf y : Nat) : Int)) else none
    by_cases hm : y ∈ q
    · rw [if_pos hm, if_pos (by simp [hm]), List.idxOf_append, if_pos hm]
    · rw [if_neg hm, if_neg (by simp [hm, e])]
theorem slice50 {g n c a : Nat} (ha : a ≤ n) (wx : World) : (Instr.slice 50 (.slice (some ⟨g, 0, none⟩) n c) (some (.int .i64 a)) none none).run Try.prog wx = .ok (.slice (if c = a then some ⟨g, 0, none⟩ else some ⟨g, a * 1, none⟩) (n - a) (c - a)) wx := by
  rw [run_slice_l (P := Try.prog) (h0 := by omega) (h1 := by omega) (ht := rfl)]
  simp [sliced, go_sem, Addr.add]
  by_cases h0 : a = 0
  · subst h0; simp
  · simp [h0]
def jI (l : List Nat) : List Int := l.map Int.ofNat
/-- walk's memory: the boxes of the network and of the amounts, the map of places, the row of the arcs. -/
structure WkM (w W : World) (n : NetV) (sa : Sl) (N D B nm : Nat) (q : List Int) (R : Value) (l : List Nat) : Prop where
  since : Same noB w W
  nb : Blk W N 24 #[.int .i64 n.nodes, .int .i64 n.source, .int .i64 n.sink, .slice n.sl.addr n.sl.len n.sl.cap, .int .i64 n.hold]
  db : Blk W D 26 #[.slice sa.addr sa.len sa.cap]
  map : MapF eI W B nm (placeF q)
  row : W.ownsRow 0 3 1 R l.length (icells (jI l))
  new : ∀ g, R.ownBlock = some g → w.heap.size ≤ g
  lo : w.heap.size ≤ B
section
variable {w W W' : World} {n : NetV} {sa : Sl} {N D B nm : Nat} {q : List Int} {R : Value} {l : List Nat}
theorem WkM.keep (h : WkM w W n sa N D B nm q R l) (hs : Same noB W W') : WkM w W' n sa N D B nm q R l :=
  ⟨h.since.trans' hs, h.nb.same hs (fun x => x), h.db.same hs (fun x => x), h.map.same hs (fun x => x), own_same h.row hs (fun _ _ x => x), h.new, h.lo⟩
theorem WkM.push (h : WkM w W n sa N D B nm q R l) {R' : Value} {j : Nat} (hown : W'.ownsRow 0 3 1 R' (l.length + 1) (icells (jI l) ++ [.int .i64 (j : Int)])) (hg : W.grownBy W' R.ownBlock) (hat : R'.ownBlock = R.ownBlock ∨ R'.ownBlock = some W.heap.size) : WkM w W' n sa N D B nm q R' (l ++ [j]) := by
  have hs := Same.of_grown hg
  have hr : ∀ b t cs, Blk W b t cs → t ≠ 3 → ¬ R.ownBlock = some b := fun b t cs hb ht e => by
    obtain ⟨cs', hc⟩ := own_blk h.row e
    exact hb.ne_ hc ht rfl
  refine ⟨h.since.trans hs (fun b hb e => ?_), h.nb.same hs (fun e => hr _ _ _ h.nb (by decide) e.symm), h.db.same hs (fun e => hr _ _ _ h.db (by decide) e.symm), h.map.same hs (fun e => ?_), ?_, fun g hg' => ?_, h.lo⟩
  · have := h.new b e.symm
    omega
  · obtain ⟨cs', hc⟩ := own_blk h.row e.symm
    exact h.map.ne_blk hc rfl
  · rw [List.length_append, List.length_singleton]
    unfold jI at hown ⊢
    rw [List.map_append]
    have : icells (List.map Int.ofNat l ++ List.map Int.ofNat [j]) = icells (List.map Int.ofNat l) ++ [.int .i64 (j : Int)] := by unfold icells; rw [List.map_append]; rfl
    rw [this]
    exact hown
  · rcases hat with ha | ha
    · exact h.new g (ha.symm.trans hg')
    · rw [ha] at hg'
      injection hg' with hg'
      have := h.since.size
      omega
theorem WkM.placed (h : WkM w W n sa N D B nm q R l) {x : Int} {nm' : Nat} (hx : x ∉ q) (hM : MapF eI W' B nm' (upd (placeF q) x (.int .i64 (q.length : Int)))) (hg : W.grownBy W' (some B)) : WkM w W' n sa N D B nm' (q ++ [x]) R l := by
  have hs := Same.of_grown hg
  have hb : ∀ b, some B = some b → b = B := fun b e => by injection e with e; exact e.symm
  have hlo := h.lo
  refine ⟨h.since.trans hs (fun b hb' e => by have := hb b e.symm; omega), h.nb.same hs (fun e => h.map.ne_blk h.nb (hb _ e.symm).symm), h.db.same hs (fun e => h.map.ne_blk h.db (hb _ e.symm).symm), by rw [placeF_new hx]; exact hM, own_same h.row hs (fun g hg' e => ?_), h.new, h.lo⟩
  obtain ⟨cs', hc⟩ := own_blk h.row hg'
  exact h.map.ne_blk hc (hb _ e.symm).symm
end
end Go.Proofs.Ytpalacfgpcpppaa
