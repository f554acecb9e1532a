/- Layer 10: walk of the program. -/
import Derived.Test.YtpalacfgpcpppaaFloW
namespace Go.Proofs.Ytpalacfgpcpppaa
open Go Go.RowKit Go.Maps
set_option maxRecDepth 100000

/-- The blocks that a world has. -/
def oldB (w : World) : Nat → Prop := fun b => b < w.heap.size
theorem jI_at {l : List Nat} {i j : Nat} (h : l[i]? = some j) : (jI l)[i]? = some (j : Int) := by unfold jI; rw [List.getElem?_map, h]; rfl
theorem jI_len (l : List Nat) : (jI l).length = l.length := by unfold jI; simp
theorem nodesOf_len (n : NetV) (l : List Nat) : (nodesOf n l).length = l.length + 1 := by unfold nodesOf; simp
theorem nodesOf_snoc {n : NetV} {l : List Nat} {j : Nat} {a : ArcV} (h : n.arcs[j]? = some a) : nodesOf n (l ++ [j]) = nodesOf n l ++ [a.t] := by unfold nodesOf; rw [List.map_append, List.map_singleton, tgt_eq h]; rfl
/-- A walk has no more arcs than there are nodes. -/
theorem WalkI.len {n : NetV} (hok : n.Ok) {am : List Int} {l : List Nat} {v : Int} (h : WalkI n am l v) : l.length + 1 ≤ n.nodes.toNat := by
  have h1 : ∀ x ∈ nodesOf n l, 0 ≤ x ∧ x < n.nodes := fun x hx => by
    unfold nodesOf at hx
    rcases List.mem_cons.1 hx with rfl | hx
    · exact hok.source
    · obtain ⟨j, hj, rfl⟩ := List.mem_map.1 hx
      obtain ⟨a, _, ha, _⟩ := h.trail.mem j hj
      rw [tgt_eq ha]
      exact (hok.arcs a (List.mem_of_getElem? ha)).t
  have h2 := nodup_le n.nodes.toNat (nodesOf n l) h.nd (fun x hx => by have := h1 x hx; omega)
  rw [nodesOf_len] at h2
  exact h2
set_option maxHeartbeats 16000000 in
theorem walk_any {w : World} {n : NetV} {av : Value} {sa : Sl} {am : List Int} {left : Int} (h : NetIs w n) (hok : n.Ok) (ha : OutR w av (outK n.arcs n.arcs.length)) (hm : IsI w noB sa am) (hf : IsFl n am left) (hl : 0 < left) :
    Calls Try.prog 41 #[n.val, av, .slice sa.addr sa.len sa.cap] w fun r w' => ∃ s circle l, r = .returned (.tuple #[.slice s.addr s.len s.cap, .bool circle]) ∧ IsI w' (oldB w) s (jI l) ∧ WalkR n am l circle ∧ Same noB w w' := by
  have HB := Lib.hid h
  have HOK := Lib.hid hok
  have HAM := Lib.hid hm
  have HFL := Lib.hid hf
  have HLF := Lib.hid hl
  obtain ⟨B0, nm0, f0, rfl, hM0, hrows⟩ := ha
  have HM0 := Lib.hid hM0
  have HRW := Lib.hid hrows
  have hsrc : inI64 n.source := inI64_node hok hok.source
  have HSR := Lib.hid hsrc
  have HR : Hid (Rd w noB 4 (.slice n.sl.addr n.sl.len n.sl.cap) n.sl.len (acells n.arcs)) := h.rd
  have HLN := Lib.hid h.len
  have hcaps := h.rd.caps
  obtain ⟨A, hA⟩ : ∃ A, n.sl.addr = A := ⟨_, rfl⟩
  obtain ⟨m, hmm⟩ : ∃ m, n.sl.len = m := ⟨_, rfl⟩
  obtain ⟨c, hcc⟩ : ∃ c, n.sl.cap = c := ⟨_, rfl⟩
  have hmb : m ≤ 4000 := by have := hok.len; have := h.len; omega
  have HAL := Lib.hid (And.intro hA (And.intro hmm hcc))
  unfold NetV.val
  rw [hA, hmm, hcc]
  rw [hA, hmm, hcc] at HR
  rw [hmm, hcc] at hcaps
  rw [hmm] at HLN
  clear h hok hm hf hl hM0 hrows hsrc hA hmm hcc
  go_enter Try.func41, Try.ntmps41
  go_upto_region 1 with (fail)
  have HN0 := Lib.hid (Blk.new w 24 #[.int .i64 n.nodes, .int .i64 n.source, .int .i64 n.sink, .slice A m c, .int .i64 n.hold])
  have HD0 := Lib.hid (Blk.new (w.alloc (.cells #[.int .i64 n.nodes, .int .i64 n.source, .int .i64 n.sink, .slice A m c, .int .i64 n.hold] 24)) 26 #[.slice sa.addr sa.len sa.cap])
  rw [World.size_alloc] at HD0
  refine wp_abs (fun W => Hid (Blk W w.heap.size 24 #[.int .i64 n.nodes, .int .i64 n.source, .int .i64 n.sink, .slice A m c, .int .i64 n.hold]) ∧ Hid (Blk W (w.heap.size + 1) 26 #[.slice sa.addr sa.len sa.cap]) ∧ Hid (Same noB w W)) ⟨HN0.out.alloc _, HD0.out, ((Same.refl _ _).alloc _).alloc _⟩ ?_
  clear HN0 HD0
  rintro W0 ⟨HN, HD, HS⟩
  obtain ⟨N, hN⟩ : ∃ N, w.heap.size = N := ⟨_, rfl⟩
  obtain ⟨D, hD⟩ : ∃ D, N + 1 = D := ⟨_, rfl⟩
  rw [hN] at HN HD ⊢
  rw [hD] at HD ⊢
  have HNZ := Lib.hid hN
  clear hN hD
  have hMM := MapF.made eI W0
  obtain ⟨W1, r1, hM1, g1⟩ := hMM.store Try.underlying82 (k := n.source) HSR.out (.int .i64 0)
  have r2 : (Instr.mapUpdate 82 (.map (some W0.heap.size)) (.int .i64 n.source) (.int .i64 0)).run Try.prog (W0.alloc (.map #[] 0)) = .ok () W1 := r1
  have hs1 : Same noB W0 W1 := ((Same.refl noB W0).alloc _).grown g1 (fun k hk hlt => by injection hk with hk; omega)
  have HWM : Hid (WkM w W1 n sa N D W0.heap.size 1 (nodesOf n []) (.slice none 0 0) []) := by
    refine ⟨HS.out.trans' hs1, ?_, HD.out.same hs1 (fun x => x), ?_, ⟨by simp [jI, icells], .inl ⟨rfl, rfl⟩⟩, fun g hg => by simp [Value.ownBlock] at hg, HS.out.size⟩
    · have := HN.out.same hs1 (fun x => x)
      rw [← HAL.out.1, ← HAL.out.2.1, ← HAL.out.2.2] at this
      exact this
    · have e : placeF (nodesOf n []) = upd (fun _ => none) n.source (.int .i64 0) := by
        have := placeF_new (q := []) (x := n.source) (by simp)
        exact this
      rw [e]
      exact hM1
  have n1 : W0.cell? ⟨N, 1, none⟩ = some (.int .i64 n.source) := HN.out.cell 1
  have n1' : (W0.alloc (.map #[] 0)).cell? ⟨N, 1, none⟩ = some (.int .i64 n.source) := (HN.out.alloc _).cell 1
  have hmk := @run_makeMap Try.prog
  clear hMM r1 hM1 g1 hs1
  go_upto_region 3 with (fail)
  obtain ⟨B, hB⟩ : ∃ B, W0.heap.size = B := ⟨_, rfl⟩
  rw [hB] at HWM ⊢
  refine wp_abs (fun W => Hid (WkM w W n sa N D B 1 (nodesOf n []) (.slice none 0 0) [])) HWM.out ?_
  clear r2 n1 n1' hmk HWM HN HD HS hB
  rintro W2 HWM
  have n1 : W2.cell? ⟨N, 1, none⟩ = some (.int .i64 n.source) := HWM.out.nb.cell 1
  obtain ⟨K, hK⟩ : ∃ K : Nat, n.nodes.toNat = K := ⟨_, rfl⟩
  have HKN := Lib.hid hK
  clear hK
  go_wp2_with fail
  go_loopg [8, 10] (K) (fun gk s q wr => ∃ (l : List Nat) (v : Int) (RA : Option Addr) (RC nm : Nat), s = .slice RA l.length RC ∧ q = .int .i64 v ∧ Hid (gk + l.length = K) ∧ Hid (WalkI n am l v) ∧ Hid (WkM w wr n sa N D B nm (nodesOf n l) (.slice RA l.length RC) l))
  case atStart => exact ⟨[], n.source, none, 0, 1, rfl, rfl, rfl, WalkI.start n am, HWM.out⟩
  case round =>
    clear HWM n1
    obtain ⟨l, v, RA, RC, nm, rfl, rfl, HK, HW, HM⟩ := hrel
    have n2 : wr.cell? ⟨N, 2, none⟩ = some (.int .i64 n.sink) := HM.out.nb.cell 2
    have n3 : wr.cell? ⟨N, 3, none⟩ = some (.slice A m c) := by rw [← HAL.out.1, ← HAL.out.2.1, ← HAL.out.2.2]; exact HM.out.nb.cell 3
    by_cases hvs : v = n.sink
    · have HWD : Hid (WalkR n am l false) := WalkI.done HOK.out (by rw [← hvs]; exact HW.out)
      subst hvs
      go_wp2_with fail
      go_ret2
      refine ⟨⟨RA, l.length, RC⟩, false, l, rfl, ⟨(jI_len l).symm, ?_⟩, HWD.out, HM.out.since⟩
      exact Rd.of_own HM.out.row (fun g hg x => by have h1 := HM.out.new g hg; have h2 : g < w.heap.size := x; omega)
    · have hvr : 0 ≤ v ∧ v < n.nodes := by
        have h1 := HW.out.trail.end_
        rcases List.mem_cons.1 h1 with e | h1
        · rw [e]; exact HOK.out.source
        · obtain ⟨j, hj, e⟩ := List.mem_map.1 h1
          obtain ⟨a, _, ha, _⟩ := HW.out.trail.mem j hj
          rw [tgt_eq ha] at e
          rw [← e]
          exact (HOK.out.arcs a (List.mem_of_getElem? ha)).t
      obtain ⟨j0, a0, x0, hj0, hx0, hp0, hf0⟩ := HW.out.more HOK.out HFL.out HLF.out hvs hvr
      obtain ⟨RA0, rc0, hrow, hrd⟩ := HRW.out v
      have hin : ∀ i ∈ outK n.arcs n.arcs.length v, ∃ (j : Nat) (x : Int), i = (j : Int) ∧ am[j]? = some x := fun i hi => by
        obtain ⟨j, a, e, h1, _⟩ := outK_mem.1 hi
        exact ⟨j, _, e, List.getElem?_eq_getElem (by rw [HFL.out.cap.1]; exact (List.getElem?_eq_some_iff.1 h1).1)⟩
      obtain ⟨k, z, hk1, hk2, hk3⟩ := fidx_pos (p := posB am) (l := outK n.arcs n.arcs.length v) ⟨(j0 : Int), outK_mem.2 ⟨j0, a0, rfl, hj0, hf0⟩, by unfold posB; rw [Int.toNat_natCast, hx0]; exact decide_eq_true hp0⟩
      obtain ⟨j, a, rfl, hj, hfa⟩ := outK_mem.1 (List.mem_of_getElem? hk2)
      obtain ⟨x, hx, hxp⟩ : ∃ x, am[j]? = some x ∧ 0 < x := by
        unfold posB at hk3
        rw [Int.toNat_natCast] at hk3
        cases hq : am[j]? with
        | none => rw [hq] at hk3; cases hk3
        | some x => rw [hq] at hk3; exact ⟨x, rfl, of_decide_eq_true hk3⟩
      have hinv : inI64 v := inI64_node HOK.out hvr
      have HIV := Lib.hid hinv
      have hlk := (HM0.out.same HM.out.since (fun x => x)).lookup Try.underlying58 (zero50 wr) (k := v) hinv false
      have hlk' : (Instr.lookup 58 (.map (some B0)) (.int .i64 v) false).run Try.prog wr = .ok (.slice RA0 (outK n.arcs n.arcs.length v).length rc0) wr := by rw [← hrow]; exact hlk
      obtain ⟨rl, hrl⟩ : ∃ rl, (outK n.arcs n.arcs.length v).length = rl := ⟨_, rfl⟩
      have hkl : k < rl := by rw [← hrl]; exact (List.getElem?_eq_some_iff.1 hk2).1
      have hrd2 : Rd w noB 1 (.slice RA0 rl rc0) rl (icells (outK n.arcs n.arcs.length v)) := by rw [← hrl, ← hrow]; exact hrd
      have hZ := idx46 (w := wr) (D := D) (s := ⟨RA0, rl, rc0⟩) (HM.out.db.cell 0) (HAM.out.keep HM.out.since) ⟨hrl.symm, hrd2.keep HM.out.since⟩ hin
      rw [hk1] at hZ
      rw [hrl] at hlk'
      have HZ := Lib.hid hZ
      have HRD := Lib.hid hrd2
      have hcp := hrd2.caps
      have HKK := Lib.hid hk2
      have HJ := Lib.hid hj
      have HX := Lib.hid hx
      have HXP := Lib.hid hxp
      have HFA := Lib.hid hfa
      have HROW := Lib.hid hrow
      have HRL := Lib.hid hrl
      have hvs' : v ≠ n.sink := hvs
      clear hvs hvr hj0 hx0 hp0 hf0 hrow hrd hin hk1 hk2 hk3 hj hfa hx hxp hinv hlk hrl hrd2 hZ
      go_wp2_with fail
      (with_reducible refine Calls.mono HZ.out ?_)
      clear HZ hlk' n2 n3
      rintro r W3 ⟨rfl, hs⟩
      replace HM := Lib.hid (HM.out.keep hs)
      clear hs
      obtain ⟨b, o, rfl, r⟩ := (HRD.out.keep HM.out.since).at_ (by omega)
      have c0 := r.cell k _ (icells_at HKK.out)
      have hlk := (HM0.out.same HM.out.since (fun x => x)).lookup Try.underlying58 (zero50 W3) (k := v) HIV.out false
      have hlk' : (Instr.lookup 58 (.map (some B0)) (.int .i64 v) false).run Try.prog W3 = .ok (.slice (some ⟨b, o, none⟩) rl rc0) W3 := by rw [← HRL.out, ← HROW.out]; exact hlk
      have hi0 : (0 : Int) ≤ (k : Int) := by omega
      have hi1 : (k : Int) < (rl : Int) := by omega
      clear r hlk
      have HLEN : Hid (l.length ≤ 400) := by
        show _ ≤ _
        have h1 := HW.out.len HOK.out
        have h2 := HOK.out.nodes
        omega
      go_upto_region 7 with (fail)
      refine wp_abs (fun W => Hid (WkM w W n sa N D B nm (nodesOf n l) (.slice RA l.length RC) l)) HM.out ?_
      clear HM c0 hlk'
      rintro W4 HM
      go_upto_region 8 with (at_builtin; refine wpL_app sl50 rfl _ _ rfl rfl (own_same HM.out.row ((Same.refl noB W4).alloc _) (fun _ _ x => x)) rfl (Rd.of_blk (bad := noB) (Blk.new W4 3 #[.int .i64 (j : Int)]) (fun x => x) rfl (by omega) (by simp [maxLen])) (int_one (j : Int)) (by have := HLEN.out; omega) (Nat.zero_le _) ?_; intro A7 c7 W7 hown7 hgrow7 hat7 _)
      have HPU := Lib.hid ((HM.out.keep ((Same.refl noB W4).alloc _)).push hown7 hgrow7 hat7)
      have hll : l.length + 1 = (l ++ [j]).length := by rw [List.length_append, List.length_singleton]
      refine wp_abs (fun W => Hid (WkM w W n sa N D B nm (nodesOf n l) (.slice A7 (l ++ [j]).length c7) (l ++ [j]))) (by rw [← hll]; exact HPU.out) ?_
      rw [hll]
      clear hown7 hgrow7 hat7 HPU HM hll
      rintro W5 HM
      obtain ⟨RL, hRL⟩ : ∃ RL, (l ++ [j]).length = RL := ⟨_, rfl⟩
      have n3 : W5.cell? ⟨N, 3, none⟩ = some (.slice A m c) := by rw [← HAL.out.1, ← HAL.out.2.1, ← HAL.out.2.2]; exact HM.out.nb.cell 3
      have hjm : j < m := by have := (List.getElem?_eq_some_iff.1 HJ.out).1; have := HLN.out; omega
      obtain ⟨b2, o2, hb2, r⟩ := (HR.out.keep HM.out.since).at_ (by omega)
      subst hb2
      obtain ⟨p0, p1, p2, p3⟩ := arc_at r HJ.out
      have hj0 : (0 : Int) ≤ (j : Int) := by omega
      have hj1 : (j : Int) < (m : Int) := by omega
      have hto : 0 ≤ a.t ∧ a.t < n.nodes := (HOK.out.arcs a (List.mem_of_getElem? HJ.out)).t
      have hint : inI64 a.t := inI64_node HOK.out hto
      have hl2 := HM.out.map.lookup Try.underlying82 (zero3 W5) (k := a.t) hint true
      have HINT := Lib.hid hint
      clear r hto hint
      by_cases hq : a.t ∈ nodesOf n l
      · obtain ⟨p, hp⟩ : ∃ p, (nodesOf n l).idxOf a.t = p := ⟨_, rfl⟩
        have hpl : p < (nodesOf n l).length := by rw [← hp]; exact List.idxOf_lt_length_of_mem hq
        have hpq : (nodesOf n l)[p]? = some a.t := by
          rw [List.getElem?_eq_getElem hpl]
          congr 1
          subst hp
          exact List.getElem_idxOf hpl
        have hl3 : (Instr.lookup 82 (.map (some B)) (.int .i64 a.t) true).run Try.prog W5 = .ok (.tuple #[.int .i64 (p : Int), .bool true]) W5 := by
          have e : placeF (nodesOf n l) a.t = some (.int .i64 (p : Int)) := by unfold placeF; rw [if_pos hq, hp]
          rw [e] at hl2
          exact hl2
        have HWR := Lib.hid (HW.out.round HJ.out HX.out HXP.out HFA.out hpq)
        have hple : p ≤ RL := by rw [nodesOf_len] at hpl; rw [← hRL, List.length_append]; omega
        have hrow := HM.out.row
        obtain ⟨g7, rfl⟩ : ∃ g7, A7 = some ⟨g7, 0, none⟩ := by
          rcases hrow.2 with ⟨_, e⟩ | ⟨g, cap, cur, e, _⟩
          · rw [List.length_append, List.length_singleton] at e; omega
          · injection e with e; exact ⟨g, e⟩
        have hsl := fun wx => slice50 (g := g7) (n := RL) (c := c7) hple wx
        have hct := own_cut (bad := oldB w) hrow (k := p) (by rw [hRL]; exact hple) (fun x => by have h1 := HM.out.new g7 rfl; have h2 : g7 < w.heap.size := x; omega)
        rw [hRL] at hct
        obtain ⟨A8, hA8⟩ : ∃ A8, (if c7 = p then some (⟨g7, 0, none⟩ : Addr) else some ⟨g7, p * 1, none⟩) = A8 := ⟨_, rfl⟩
        rw [hA8] at hsl hct
        have HCT := Lib.hid hct
        have hRLb := hRL
        rw [hRL]
        clear hA8 hrow hl2 hp hpl hpq hq hct hRL
        go_wp2_with fail
        go_ret2
        refine ⟨⟨A8, RL - p, c7 - p⟩, true, (l ++ [j]).drop p, rfl, ⟨?_, ?_⟩, HWR.out, HM.out.since⟩
        · rw [jI_len, List.length_drop, hRLb]
        · have h9 := HCT.out
          have e9 : icells (jI ((l ++ [j]).drop p)) = (icells (jI (l ++ [j]))).drop (p * 1) := by unfold icells jI; rw [Nat.mul_one, List.map_drop, List.map_drop]
          rw [e9]
          exact h9
      · have hl3 : (Instr.lookup 82 (.map (some B)) (.int .i64 a.t) true).run Try.prog W5 = .ok (.tuple #[.int .i64 0, .bool false]) W5 := by
          have e : placeF (nodesOf n l) a.t = none := by unfold placeF; rw [if_neg hq]
          rw [e] at hl2
          exact hl2
        obtain ⟨W8, r8, hM8, hg8⟩ := HM.out.map.store Try.underlying82 (k := a.t) HINT.out (.int .i64 ((nodesOf n l).length : Int))
        have hnl : (nodesOf n l).length = RL := by rw [nodesOf_len, ← hRL, List.length_append, List.length_singleton]
        have hPL := HM.out.placed hq hM8 hg8
        rw [← nodesOf_snoc HJ.out] at hPL
        have HPL := Lib.hid hPL
        have HWN := Lib.hid (HW.out.new HJ.out HX.out HXP.out HFA.out hq)
        have r9 : (Instr.mapUpdate 82 (.map (some B)) (.int .i64 a.t) (.int .i64 (RL : Int))).run Try.prog W5 = .ok () W8 := by rw [← hnl]; exact r8
        have HRL2 := Lib.hid hRL
        rw [hRL]
        clear hl2 hM8 hg8 r8 hnl hq hRL hPL
        go_wp2_with fail
        go_roundg (gk - 1)
        case measure =>
          have h1 := HK.out
          have h2 := HW.out.len HOK.out
          have h3 := HKN.out
          omega
        case rel =>
          refine ⟨l ++ [j], a.t, A7, c7, _, by rw [HRL2.out], rfl, ?_, HWN.out, HPL.out⟩
          show _ = _
          have h1 := HK.out
          have h2 := HW.out.len HOK.out
          have h3 := HKN.out
          rw [List.length_append, List.length_singleton]
          omega
end Go.Proofs.Ytpalacfgpcpppaa
