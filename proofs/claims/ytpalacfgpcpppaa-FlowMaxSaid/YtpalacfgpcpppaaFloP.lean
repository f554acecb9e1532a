/- Layer 10: follow of Max, with each of its visitors. (printed by genFloP.py) -/
import Derived.Test.YtpalacfgpcpppaaFloO
namespace Go.Proofs.Ytpalacfgpcpppaa
open Go Go.RowKit Go.Maps
set_option maxRecDepth 100000

set_option maxHeartbeats 8000000 in
theorem follow_min {w0 w : World} {n : NetV} {N M F R Ga B nm : Nat} {val r : Int} {sv : Value} {am am0 : List Int} {l : List StV} (hN : NetIs w0 n) (hok : n.Ok) (h : MxM w0 w n N M F R Ga B nm (search n am0) val r sv am) (hp : PathTo n (search n am0) n.sink l) :
    Calls Try.prog 29 #[.func (.func 30) #[] #[.pointer (some ⟨R, 0, none⟩)], .pointer (some ⟨N, 0, none⟩), .pointer (some ⟨M, 0, none⟩)] w fun e w' => (∃ v, e = .returned v) ∧ MxM w0 w' n N M F R Ga B nm (search n am0) val (minR r l) sv am ∧ Same (oneB R) w w' := by
  have HB := Lib.hid hN
  have HOK := Lib.hid hok
  have HI := Lib.hid h
  have HP := Lib.hid hp
  have x2 : w.cell? ⟨N, 2, none⟩ = some (.int .i64 n.sink) := h.nb.cell 2
  have hcaps := hN.rd.caps
  have HNL : Hid (n.sl.len = n.arcs.length) := hN.len
  clear hN hok h hp
  go_enter Try.func29, Try.ntmps29
  go_wp2_with fail
  go_loopg [4] (l.length) (fun gk q wr => ∃ (v : Int) (t : List StV) (u : Int), Hid (gk = t.length) ∧ q = .int .i64 v ∧ Hid (PathTo n (search n am0) v t) ∧ Hid (MxM w0 wr n N M F R Ga B nm (search n am0) val u sv am) ∧ Hid (Same (oneB R) w wr) ∧ Hid (minR u t = minR r l))
  case atStart => exact ⟨n.sink, l, r, rfl, rfl, HP.out, HI.out, Same.refl _ _, rfl⟩
  case round =>
    clear HI HP
    obtain ⟨v, t, u, HK, rfl, HP, HI, HS, HM⟩ := hrel
    have y1 : wr.cell? ⟨N, 1, none⟩ = some (.int .i64 n.source) := HI.out.nb.cell 1
    cases t with
    | nil =>
      obtain rfl : v = n.source := HP.out
      have HFI : Hid (MxM w0 wr n N M F R Ga B nm (search n am0) val (minR r l) sv am) := by
        have h1 := HM.out
        have h2 := HI.out
        rw [show minR u [] = u from rfl] at h1
        rw [h1] at h2
        exact h2
      go_wp2_with fail
      go_end0
      exact ⟨⟨_, rfl⟩, HFI.out, HS.out⟩
    | cons s t =>
      have hp := HP.out
      have hne : v ≠ n.source := hp.1
      have hsv := hp.2.1
      have HPT : Hid (PathTo n (search n am0) (predOf n.arcs s) t) := hp.2.2
      have HVI : Hid (inI64 v) := inI64_node HOK.out (search_rng HOK.out am0 (by rw [hsv]; simp))
      have hse : ∃ (j : Nat) (a : ArcV), s.arc = (j : Int) ∧ n.arcs[j]? = some a ∧ predOf n.arcs s = if s.back then a.t else a.f := by
        obtain ⟨_, bf, H, _, he⟩ := search_inv HOK.out am0
        rw [he] at hsv
        obtain ⟨_, h2, _⟩ := H.tree v s hne hsv
        obtain ⟨j, a, a1, a2, a3⟩ := stepsL_edge h2
        refine ⟨j, a, a1, a2, ?_⟩
        unfold predOf arcAt
        rw [a1, Int.toNat_natCast, a2]
        rfl
      obtain ⟨j, a, hj, ha, hpd⟩ := hse
      obtain ⟨sa, sb, sd, sr⟩ := s
      dsimp only at hj hpd
      subst hj
      have HA := Lib.hid ha
      have HPD := Lib.hid hpd
      have hjm := (List.getElem?_eq_some_iff.1 ha).1
      have hj0 : (0 : Int) ≤ (j : Int) := by omega
      have hj1 : (j : Int) < (n.sl.len : Int) := by have := HNL.out; omega
      have m0 : wr.cell? ⟨M, 0, none⟩ = some (.map (some B)) := HI.out.mb.cell 0
      have hl1 : (Instr.lookup 60 (.map (some B)) (.int .i64 v) false).run Try.prog wr = .ok (.agg #[.int .i64 (j : Int), .bool sb, .int .i64 sd, .int .i64 sr]) wr := by
        have h1 := HI.out.map.lookup Try.underlying60 (zero63 wr) (k := v) HVI.out false
        unfold pv at h1
        rw [hsv] at h1
        exact h1
      clear hp hsv ha hpd hjm
      go_upto_region 3 with (fail)
      refine wp_abs (fun W => Hid (Blk W wr.heap.size 63 #[.int .i64 (j : Int), .bool sb, .int .i64 sd, .int .i64 sr]) ∧ Hid (MxM w0 W n N M F R Ga B nm (search n am0) val u sv am) ∧ Hid (Same (oneB R) w W)) ⟨Blk.new wr 63 _, HI.out.keep ((Same.refl noB wr).alloc _), HS.out.alloc _⟩ ?_
      clear HI HS m0 hl1 y1
      rintro W1 ⟨HE, HI, HS⟩
      obtain ⟨E, hE⟩ : ∃ E, wr.heap.size = E := ⟨_, rfl⟩
      rw [hE] at HE ⊢
      clear hE
      have e0 : W1.cell? ⟨E, 0, none⟩ = some (.int .i64 (j : Int)) := HE.out.cell 0
      have e1 : W1.cell? ⟨E, 1, none⟩ = some (.bool sb) := HE.out.cell 1
      have e2 : W1.cell? ⟨E, 2, none⟩ = some (.int .i64 sd) := HE.out.cell 2
      have e3 : W1.cell? ⟨E, 3, none⟩ = some (.int .i64 sr) := HE.out.cell 3
      have hZ := min30 ⟨(j : Int), sb, sd, sr⟩ HI.out.rb
      unfold StV.val at hZ
      have HZ := Lib.hid hZ
      clear hZ
      go_wp2_with fail
      (with_reducible refine Calls.mono HZ.out ?_)
      clear HZ e0 e1 e2 e3
      rintro e W2 ⟨⟨rv, rfl⟩, hb2, hs2⟩
      have HI2 := Lib.hid (HI.out.room hs2 hb2)
      have HE2 : Hid (Blk W2 E 63 #[.int .i64 (j : Int), .bool sb, .int .i64 sd, .int .i64 sr]) := HE.out.same hs2 (fun e => HE.out.ne_ HI.out.rb (by decide) e)
      have HS2 := Lib.hid (HS.out.trans' hs2)
      clear hb2 hs2 HI HS HE
      have x3 : W2.cell? ⟨N, 3, none⟩ = some (.slice n.sl.addr n.sl.len n.sl.cap) := HI2.out.nb.cell 3
      have e0 : W2.cell? ⟨E, 0, none⟩ = some (.int .i64 (j : Int)) := HE2.out.cell 0
      have e1 : W2.cell? ⟨E, 1, none⟩ = some (.bool sb) := HE2.out.cell 1
      obtain ⟨b, o, hb, rr⟩ := (HB.out.rd.keep HI2.out.since).at_ (by have := HNL.out; omega)
      obtain ⟨p0, p1, p2, p3⟩ := arc_at rr HA.out
      rw [hb] at x3
      clear rr hb
      have HE3 := Lib.hid (row_stored (Blk.new W2 43 #[.int .i64 0, .int .i64 0, .int .i64 0, .int .i64 0]) #[.int .i64 a.f, .int .i64 a.t, .int .i64 a.c, .int .i64 a.d])
      go_upto_region 5 with (refine wpList_store_row rfl 43 _ _ rfl W2.heap.size #[.int .i64 a.f, .int .i64 a.t, .int .i64 a.c, .int .i64 a.d] rfl rfl 43 _ (Blk.new W2 43 #[.int .i64 0, .int .i64 0, .int .i64 0, .int .i64 0]) (by kernel_rfl) rfl (by kernel_rfl) ?_)
      have hs3 : Same noB W2 ((W2.alloc (.cells #[.int .i64 0, .int .i64 0, .int .i64 0, .int .i64 0] 43)).setRow W2.heap.size #[.int .i64 a.f, .int .i64 a.t, .int .i64 a.c, .int .i64 a.d]) := ((Same.refl noB W2).alloc _).trans HE3.out.2 (fun b hb hx => by have h3 : b = W2.heap.size := hx; omega)
      refine wp_abs (fun W => Hid (Blk W W2.heap.size 43 #[.int .i64 a.f, .int .i64 a.t, .int .i64 a.c, .int .i64 a.d]) ∧ Hid (W.cell? ⟨E, 1, none⟩ = some (.bool sb)) ∧ Hid (MxM w0 W n N M F R Ga B nm (search n am0) val (min u sr) sv am) ∧ Hid (Same (oneB R) w W)) ⟨HE3.out.1, hs3.cell e1 (fun x => x), HI2.out.keep hs3, HS2.out.trans' hs3.of_no⟩ ?_
      clear hs3 HE3 HI2 HS2 HE2 e0 e1 x3 p0 p1 p2 p3
      rintro W3 ⟨HX, HE1, HI, HS⟩
      obtain ⟨X, hX⟩ : ∃ X, W2.heap.size = X := ⟨_, rfl⟩
      rw [hX] at HX ⊢
      clear hX
      have q0 : W3.cell? ⟨X, 0, none⟩ = some (.int .i64 a.f) := HX.out.cell 0
      have q1 : W3.cell? ⟨X, 1, none⟩ = some (.int .i64 a.t) := HX.out.cell 1
      have e1 := HE1.out
      cases sb with
      | true =>
        have HPN : Hid (PathTo n (search n am0) a.t t) := by have h1 := HPT.out; rw [HPD.out] at h1; exact h1
        go_wp2_with fail
        go_roundg (gk - 1)
        case measure => have h1 := HK.out; rw [List.length_cons] at h1; omega
        case rel => exact ⟨a.t, t, min u sr, by show _ = _; have h1 := HK.out; rw [List.length_cons] at h1; omega, rfl, HPN.out, HI.out, HS.out, HM.out⟩
      | false =>
        have HPN : Hid (PathTo n (search n am0) a.f t) := by have h1 := HPT.out; rw [HPD.out] at h1; exact h1
        go_wp2_with fail
        go_roundg (gk - 1)
        case measure => have h1 := HK.out; rw [List.length_cons] at h1; omega
        case rel => exact ⟨a.f, t, min u sr, by show _ = _; have h1 := HK.out; rw [List.length_cons] at h1; omega, rfl, HPN.out, HI.out, HS.out, HM.out⟩
set_option maxHeartbeats 8000000 in
theorem follow_aug {w0 w : World} {n : NetV} {N M F R Ga B nm : Nat} {val r : Int} {sv : Value} {am am0 : List Int} {l : List StV} (hN : NetIs w0 n) (hok : n.Ok) (h : MxM w0 w n N M F R Ga B nm (search n am0) val r sv am) (hp : PathTo n (search n am0) n.sink l) (hcap : InCap n.arcs am) (hr : 0 ≤ r ∧ r ≤ 1099511627776) (hs : ∀ s ∈ l, (∃ u, s ∈ stepsL n.arcs am u) ∧ r ≤ s.room) (hpw : l.Pairwise (fun s t => s.arc ≠ t.arc)) :
    Calls Try.prog 29 #[.func (.func 31) #[] #[.pointer (some ⟨F, 0, none⟩), .pointer (some ⟨R, 0, none⟩)], .pointer (some ⟨N, 0, none⟩), .pointer (some ⟨M, 0, none⟩)] w fun e w' => (∃ v, e = .returned v) ∧ MxM w0 w' n N M F R Ga B nm (search n am0) val r sv (augL am r l) ∧ Same (oneB Ga) w w' := by
  have HB := Lib.hid hN
  have HOK := Lib.hid hok
  have HI := Lib.hid h
  have HP := Lib.hid hp
  have HCP : Hid (∀ d t, d ++ t = l → InCap n.arcs (augL am r d)) := fun d t e => by
    subst e
    exact aug_cap hcap hr.1 (fun s hm => hs s (List.mem_append_left _ hm)) (List.pairwise_append.1 hpw).1
  have hr0 := hr.1
  have hr1 := hr.2
  have x2 : w.cell? ⟨N, 2, none⟩ = some (.int .i64 n.sink) := h.nb.cell 2
  have hcaps := hN.rd.caps
  have HNL : Hid (n.sl.len = n.arcs.length) := hN.len
  clear hN hok h hp
  go_enter Try.func29, Try.ntmps29
  go_wp2_with fail
  go_loopg [4] (l.length) (fun gk q wr => ∃ (v : Int) (t : List StV) (d : List StV), Hid (gk = t.length) ∧ q = .int .i64 v ∧ Hid (PathTo n (search n am0) v t) ∧ Hid (MxM w0 wr n N M F R Ga B nm (search n am0) val r sv (augL am r d)) ∧ Hid (Same (oneB Ga) w wr) ∧ Hid (d ++ t = l))
  case atStart => exact ⟨n.sink, l, [], rfl, rfl, HP.out, HI.out, Same.refl _ _, rfl⟩
  case round =>
    clear HI HP
    obtain ⟨v, t, d, HK, rfl, HP, HI, HS, HM⟩ := hrel
    have y1 : wr.cell? ⟨N, 1, none⟩ = some (.int .i64 n.source) := HI.out.nb.cell 1
    cases t with
    | nil =>
      obtain rfl : v = n.source := HP.out
      have HFI : Hid (MxM w0 wr n N M F R Ga B nm (search n am0) val r sv (augL am r l)) := by
        have h1 := HM.out
        have h2 := HI.out
        rw [List.append_nil] at h1
        rw [h1] at h2
        exact h2
      go_wp2_with fail
      go_end0
      exact ⟨⟨_, rfl⟩, HFI.out, HS.out⟩
    | cons s t =>
      have hp := HP.out
      have hne : v ≠ n.source := hp.1
      have hsv := hp.2.1
      have HPT : Hid (PathTo n (search n am0) (predOf n.arcs s) t) := hp.2.2
      have HVI : Hid (inI64 v) := inI64_node HOK.out (search_rng HOK.out am0 (by rw [hsv]; simp))
      have hse : ∃ (j : Nat) (a : ArcV), s.arc = (j : Int) ∧ n.arcs[j]? = some a ∧ predOf n.arcs s = if s.back then a.t else a.f := by
        obtain ⟨_, bf, H, _, he⟩ := search_inv HOK.out am0
        rw [he] at hsv
        obtain ⟨_, h2, _⟩ := H.tree v s hne hsv
        obtain ⟨j, a, a1, a2, a3⟩ := stepsL_edge h2
        refine ⟨j, a, a1, a2, ?_⟩
        unfold predOf arcAt
        rw [a1, Int.toNat_natCast, a2]
        rfl
      obtain ⟨j, a, hj, ha, hpd⟩ := hse
      obtain ⟨sa, sb, sd, sr⟩ := s
      dsimp only at hj hpd
      subst hj
      have HA := Lib.hid ha
      have HPD := Lib.hid hpd
      have hjm := (List.getElem?_eq_some_iff.1 ha).1
      have hj0 : (0 : Int) ≤ (j : Int) := by omega
      have hj1 : (j : Int) < (n.sl.len : Int) := by have := HNL.out; omega
      have m0 : wr.cell? ⟨M, 0, none⟩ = some (.map (some B)) := HI.out.mb.cell 0
      have hl1 : (Instr.lookup 60 (.map (some B)) (.int .i64 v) false).run Try.prog wr = .ok (.agg #[.int .i64 (j : Int), .bool sb, .int .i64 sd, .int .i64 sr]) wr := by
        have h1 := HI.out.map.lookup Try.underlying60 (zero63 wr) (k := v) HVI.out false
        unfold pv at h1
        rw [hsv] at h1
        exact h1
      clear hp hsv ha hpd hjm
      go_upto_region 3 with (fail)
      refine wp_abs (fun W => Hid (Blk W wr.heap.size 63 #[.int .i64 (j : Int), .bool sb, .int .i64 sd, .int .i64 sr]) ∧ Hid (MxM w0 W n N M F R Ga B nm (search n am0) val r sv (augL am r d)) ∧ Hid (Same (oneB Ga) w W)) ⟨Blk.new wr 63 _, HI.out.keep ((Same.refl noB wr).alloc _), HS.out.alloc _⟩ ?_
      clear HI HS m0 hl1 y1
      rintro W1 ⟨HE, HI, HS⟩
      obtain ⟨E, hE⟩ : ∃ E, wr.heap.size = E := ⟨_, rfl⟩
      rw [hE] at HE ⊢
      clear hE
      have e0 : W1.cell? ⟨E, 0, none⟩ = some (.int .i64 (j : Int)) := HE.out.cell 0
      have e1 : W1.cell? ⟨E, 1, none⟩ = some (.bool sb) := HE.out.cell 1
      have e2 : W1.cell? ⟨E, 2, none⟩ = some (.int .i64 sd) := HE.out.cell 2
      have e3 : W1.cell? ⟨E, 3, none⟩ = some (.int .i64 sr) := HE.out.cell 3
      have hcp := HCP.out d _ HM.out
      obtain ⟨x, hx⟩ : ∃ x, (augL am r d)[j]? = some x := ⟨_, List.getElem?_eq_getElem (by rw [hcp.1]; have := HNL.out; omega)⟩
      have hZ := aug31 (j := j) (sb := sb) (sd := sd) (sr := sr) HI.out.fb HI.out.ga HI.out.rb hx (hcp.small HOK.out x (List.mem_of_getElem? hx)) ⟨hr0, hr1⟩
      unfold StV.val at hZ
      clear hcp hx
      have HZ := Lib.hid hZ
      clear hZ
      go_wp2_with fail
      (with_reducible refine Calls.mono HZ.out ?_)
      clear HZ e0 e1 e2 e3
      rintro e W2 ⟨⟨rv, rfl⟩, hb2, hs2⟩
      have HI2 : Hid (MxM w0 W2 n N M F R Ga B nm (search n am0) val r sv (augL am r (d ++ [StV.mk (j : Int) sb sd sr]))) := by
        show MxM _ _ _ _ _ _ _ _ _ _ _ _ _ _ _
        rw [augL_snoc]
        exact HI.out.amounts (by unfold augS; rw [List.length_set]) hs2 hb2
      have HE2 : Hid (Blk W2 E 63 #[.int .i64 (j : Int), .bool sb, .int .i64 sd, .int .i64 sr]) := HE.out.same hs2 (fun e => HE.out.ne_ HI.out.ga (by decide) e)
      have HS2 := Lib.hid (HS.out.trans' hs2)
      clear hb2 hs2 HI HS HE
      have x3 : W2.cell? ⟨N, 3, none⟩ = some (.slice n.sl.addr n.sl.len n.sl.cap) := HI2.out.nb.cell 3
      have e0 : W2.cell? ⟨E, 0, none⟩ = some (.int .i64 (j : Int)) := HE2.out.cell 0
      have e1 : W2.cell? ⟨E, 1, none⟩ = some (.bool sb) := HE2.out.cell 1
      obtain ⟨b, o, hb, rr⟩ := (HB.out.rd.keep HI2.out.since).at_ (by have := HNL.out; omega)
      obtain ⟨p0, p1, p2, p3⟩ := arc_at rr HA.out
      rw [hb] at x3
      clear rr hb
      have HE3 := Lib.hid (row_stored (Blk.new W2 43 #[.int .i64 0, .int .i64 0, .int .i64 0, .int .i64 0]) #[.int .i64 a.f, .int .i64 a.t, .int .i64 a.c, .int .i64 a.d])
      go_upto_region 5 with (refine wpList_store_row rfl 43 _ _ rfl W2.heap.size #[.int .i64 a.f, .int .i64 a.t, .int .i64 a.c, .int .i64 a.d] rfl rfl 43 _ (Blk.new W2 43 #[.int .i64 0, .int .i64 0, .int .i64 0, .int .i64 0]) (by kernel_rfl) rfl (by kernel_rfl) ?_)
      have hs3 : Same noB W2 ((W2.alloc (.cells #[.int .i64 0, .int .i64 0, .int .i64 0, .int .i64 0] 43)).setRow W2.heap.size #[.int .i64 a.f, .int .i64 a.t, .int .i64 a.c, .int .i64 a.d]) := ((Same.refl noB W2).alloc _).trans HE3.out.2 (fun b hb hx => by have h3 : b = W2.heap.size := hx; omega)
      refine wp_abs (fun W => Hid (Blk W W2.heap.size 43 #[.int .i64 a.f, .int .i64 a.t, .int .i64 a.c, .int .i64 a.d]) ∧ Hid (W.cell? ⟨E, 1, none⟩ = some (.bool sb)) ∧ Hid (MxM w0 W n N M F R Ga B nm (search n am0) val r sv (augL am r (d ++ [StV.mk (j : Int) sb sd sr]))) ∧ Hid (Same (oneB Ga) w W)) ⟨HE3.out.1, hs3.cell e1 (fun x => x), HI2.out.keep hs3, HS2.out.trans' hs3.of_no⟩ ?_
      clear hs3 HE3 HI2 HS2 HE2 e0 e1 x3 p0 p1 p2 p3
      rintro W3 ⟨HX, HE1, HI, HS⟩
      obtain ⟨X, hX⟩ : ∃ X, W2.heap.size = X := ⟨_, rfl⟩
      rw [hX] at HX ⊢
      clear hX
      have q0 : W3.cell? ⟨X, 0, none⟩ = some (.int .i64 a.f) := HX.out.cell 0
      have q1 : W3.cell? ⟨X, 1, none⟩ = some (.int .i64 a.t) := HX.out.cell 1
      have e1 := HE1.out
      cases sb with
      | true =>
        have HPN : Hid (PathTo n (search n am0) a.t t) := by have h1 := HPT.out; rw [HPD.out] at h1; exact h1
        go_wp2_with fail
        go_roundg (gk - 1)
        case measure => have h1 := HK.out; rw [List.length_cons] at h1; omega
        case rel => exact ⟨a.t, t, d ++ [StV.mk (j : Int) true sd sr], by show _ = _; have h1 := HK.out; rw [List.length_cons] at h1; omega, rfl, HPN.out, HI.out, HS.out, (show _ = _ by rw [List.append_assoc]; exact HM.out)⟩
      | false =>
        have HPN : Hid (PathTo n (search n am0) a.f t) := by have h1 := HPT.out; rw [HPD.out] at h1; exact h1
        go_wp2_with fail
        go_roundg (gk - 1)
        case measure => have h1 := HK.out; rw [List.length_cons] at h1; omega
        case rel => exact ⟨a.f, t, d ++ [StV.mk (j : Int) false sd sr], by show _ = _; have h1 := HK.out; rw [List.length_cons] at h1; omega, rfl, HPN.out, HI.out, HS.out, (show _ = _ by rw [List.append_assoc]; exact HM.out)⟩
end Go.Proofs.Ytpalacfgpcpppaa
