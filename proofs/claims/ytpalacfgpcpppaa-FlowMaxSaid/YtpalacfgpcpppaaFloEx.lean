/- Layer 10: the example of the chapter: its greatest flow. -/
import Derived.Test.YtpalacfgpcpppaaPatD
namespace Go.Proofs.Ytpalacfgpcpppaa
open Go Go.RowKit Go.Maps
set_option maxRecDepth 100000

def exArcs : List ArcV := [⟨0, 1, 3, 0⟩, ⟨0, 2, 2, 0⟩, ⟨1, 2, 5, 0⟩, ⟨1, 3, 1, 0⟩, ⟨2, 3, 3, 0⟩]
def exN (s : Sl) : NetV := ⟨4, 0, 3, exArcs, 0, s⟩
theorem exN_valid (s : Sl) : (exN s).validB = true := by
  show ((exN s).headB && !exArcs.any (arcBad 4)) = true
  have h1 : (exN s).headB = true := rfl
  rw [h1]
  decide
theorem ex_max {s : Sl} {am : List Int} {val : Int} (h : MaxIs (exN s) am val) : val = 4 ∧ sideL (exN s) am = [true, true, true, false] := by
  have hok := NetV.validB_ok (exN_valid s)
  have h1 := max_cut hok h.flow h.stop
  have h2 : val ≤ 4 := by
    have := flow_weak hok h.flow [true, true, true, false] rfl rfl
    exact this
  have h3 : inB (sideL (exN s) am) 0 = true := by
    have := sideL_in hok am hok.source.1
    show inB (sideL (exN s) am) (exN s).source = true
    rw [this]
    exact Option.isSome_iff_ne_none.2 (search_src hok am)
  have h4 : inB (sideL (exN s) am) 3 = false := by
    show inB (sideL (exN s) am) (exN s).sink = false
    rw [sideL_in hok am hok.sink.1, h.stop]
    rfl
  have hl : (sideL (exN s) am).length = 4 := sideL_len _ _
  obtain ⟨L, hL⟩ : ∃ L, sideL (exN s) am = L := ⟨_, rfl⟩
  rw [hL] at h1 h3 h4 hl ⊢
  match L, hl with
  | [a, b, c, d], _ =>
    simp [inB] at h3 h4
    subst h3 h4
    cases b <;> cases c <;> simp [capSum, inB, exN, exArcs] at h1 <;> first | omega | exact ⟨by omega, rfl⟩
theorem res_c24 {fn : Func} {i : Nat} (hres : fn.results = #[.cell i 24]) {tmps : Array Value} {w : World} {g : Nat} {a b c d e : Value} (hb : Blk w g 24 #[a, b, c, d, e]) (h4 : tmps.getD i undef = .pointer (some ⟨g, 0, none⟩)) :
    (results fn tmps).run Try.prog w = .ok (.agg #[a, b, c, d, e]) w := by
  have c0 : w.cell? ⟨g, 0, none⟩ = some a := hb.cell 0
  have c1 : w.cell? ⟨g, 1, none⟩ = some b := hb.cell 1
  have c2 : w.cell? ⟨g, 2, none⟩ = some c := hb.cell 2
  have c3 : w.cell? ⟨g, 3, none⟩ = some d := hb.cell 3
  have c4 : w.cell? ⟨g, 4, none⟩ = some e := hb.cell 4
  simp only [Array.getD_eq_getD_getElem?] at h4
  simp [results, hres, go_sem, h4, c0, c1, c2, c3, c4]
set_option maxHeartbeats 4000000 in
theorem example_any (w : World) : Calls Try.prog 25 #[] w fun r w' => ∃ s : Sl, r = .returned (.agg #[.int .i64 4, .int .i64 0, .int .i64 3, .slice s.addr s.len s.cap, .int .i64 0]) ∧ NetIs w' (exN s) ∧ Same noB w w' := by
  have HN := Lib.hid (Blk.new (w.alloc (.cells #[.int .i64 0, .int .i64 0, .int .i64 0, .slice none 0 0, .int .i64 0] 24)) 43 (acells exArcs).toArray)
  rw [World.size_alloc] at HN
  have HS := Lib.hid (row_stored ((Blk.new w 24 #[.int .i64 0, .int .i64 0, .int .i64 0, .slice none 0 0, .int .i64 0]).alloc (.cells (acells exArcs).toArray 43)) #[.int .i64 4, .int .i64 0, .int .i64 3, .slice (some ⟨w.heap.size + 1, 0, none⟩) 5 5, .int .i64 0])
  go_enter Try.func25, Try.ntmps25
  go_wp2_with (refine wpList_store_row rfl 24 _ _ rfl w.heap.size #[.int .i64 4, .int .i64 0, .int .i64 3, .slice (some ⟨w.heap.size + 1, 0, none⟩) 5 5, .int .i64 0] rfl rfl 24 _ ((Blk.new w 24 #[.int .i64 0, .int .i64 0, .int .i64 0, .slice none 0 0, .int .i64 0]).alloc _) (by kernel_rfl) rfl (by kernel_rfl) ?_)
  refine bodyPost_ret (res_c24 rfl HS.out.1 rfl) rfl ?_
  refine ⟨⟨some ⟨w.heap.size + 1, 0, none⟩, 5, 5⟩, rfl, ⟨rfl, Rd.of_blk (HN.out.same HS.out.2 (fun e => ?_)) (fun x => x) rfl (Nat.le_refl _) (by show 5 ≤ maxLen; simp [maxLen])⟩, ?_⟩
  · have h3 : w.heap.size + 1 = w.heap.size := e
    omega
  · exact (((Same.refl noB w).alloc _).alloc _).trans HS.out.2 (fun b hb e => by have h3 : b = w.heap.size := e; omega)
set_option maxHeartbeats 16000000 in
theorem awake_any (w : World) : Calls Try.prog 9 #[] w fun r w' => r = .returned (.bool true) ∧ Same noB w w' := by
  have hE := example_any w
  go_enter Try.func9, Try.ntmps9
  go_wp2_with fail
  (with_reducible refine Calls.mono hE ?_)
  clear hE
  rintro r W0 ⟨s, rfl, hn, hs⟩
  have HN := Lib.hid hn
  have HS := Lib.hid hs
  have HV := Lib.hid (exN_valid s)
  have HE0 := Lib.hid (row_stored (Blk.new W0 24 #[.int .i64 0, .int .i64 0, .int .i64 0, .slice none 0 0, .int .i64 0]) #[.int .i64 4, .int .i64 0, .int .i64 3, .slice s.addr s.len s.cap, .int .i64 0])
  clear hn hs
  go_upto_region 2 with (refine wpList_store_row rfl 24 _ _ rfl W0.heap.size #[.int .i64 4, .int .i64 0, .int .i64 3, .slice s.addr s.len s.cap, .int .i64 0] rfl rfl 24 _ (Blk.new W0 24 #[.int .i64 0, .int .i64 0, .int .i64 0, .slice none 0 0, .int .i64 0]) (by kernel_rfl) rfl (by kernel_rfl) ?_)
  have hs0 : Same noB W0 ((W0.alloc (.cells #[.int .i64 0, .int .i64 0, .int .i64 0, .slice none 0 0, .int .i64 0] 24)).setRow W0.heap.size #[.int .i64 4, .int .i64 0, .int .i64 3, .slice s.addr s.len s.cap, .int .i64 0]) := ((Same.refl noB W0).alloc _).trans HE0.out.2 (fun b hb hx => by have h3 : b = W0.heap.size := hx; omega)
  refine wp_abs (fun W => Hid (Blk W W0.heap.size 24 #[.int .i64 4, .int .i64 0, .int .i64 3, .slice s.addr s.len s.cap, .int .i64 0]) ∧ Hid (NetIs W (exN s)) ∧ Hid (Same noB w W)) ⟨HE0.out.1, HN.out.keep hs0, HS.out.trans' hs0⟩ ?_
  clear hs0 HE0 HS HN
  rintro W1 ⟨HB, HN, HS⟩
  obtain ⟨N, hN⟩ : ∃ N, W0.heap.size = N := ⟨_, rfl⟩
  rw [hN] at HB ⊢
  clear hN
  have x0 : W1.cell? ⟨N, 0, none⟩ = some (.int .i64 4) := HB.out.cell 0
  have x1 : W1.cell? ⟨N, 1, none⟩ = some (.int .i64 0) := HB.out.cell 1
  have x2 : W1.cell? ⟨N, 2, none⟩ = some (.int .i64 3) := HB.out.cell 2
  have x3 : W1.cell? ⟨N, 3, none⟩ = some (.slice s.addr s.len s.cap) := HB.out.cell 3
  have x4 : W1.cell? ⟨N, 4, none⟩ = some (.int .i64 0) := HB.out.cell 4
  have hM := max_ok HN.out HV.out
  unfold NetV.val at hM
  have HM : Hid (Calls Try.prog 10 #[.agg #[.int .i64 4, .int .i64 0, .int .i64 3, .slice s.addr s.len s.cap, .int .i64 0]] W1 fun e w' => ∃ f : FlowV, e = .returned (.tuple #[f.val, .int .i64 0]) ∧ FlowIs w' f ∧ MaxIs (exN s) f.am f.value ∧ f.side = sideL (exN s) f.am ∧ Same noB W1 w') := hM
  clear hM
  go_wp2_with fail
  (with_reducible refine Calls.mono HM.out ?_)
  clear HM x0 x1 x2 x3 x4
  rintro r W2 ⟨f, rfl, hf, hmx, hsd, hs⟩
  have hex := ex_max hmx
  have hval := hex.1
  have hside := hsd.trans hex.2
  have HFL : Hid (IsFl (exN s) f.am f.value) := hmx.flow
  replace HB := Lib.hid (HB.out.same hs (fun x => x))
  replace HN := Lib.hid (HN.out.keep hs)
  replace HS := Lib.hid (HS.out.trans' hs)
  have HF := Lib.hid hf
  have HSD := Lib.hid hside
  have HVL := Lib.hid hval
  unfold FlowV.val
  rw [hval]
  have HG0 := Lib.hid (row_stored (Blk.new W2 29 #[.int .i64 0, .slice none 0 0, .slice none 0 0]) #[.int .i64 4, .slice f.sa.addr f.sa.len f.sa.cap, .slice f.ss.addr f.ss.len f.ss.cap])
  clear hs hmx hsd hex hside hval hf
  go_upto_region 3 with (refine wpList_store_row rfl 29 _ _ rfl W2.heap.size #[.int .i64 4, .slice f.sa.addr f.sa.len f.sa.cap, .slice f.ss.addr f.ss.len f.ss.cap] rfl rfl 29 _ (Blk.new W2 29 #[.int .i64 0, .slice none 0 0, .slice none 0 0]) (by kernel_rfl) rfl (by kernel_rfl) ?_)
  have hs0 : Same noB W2 ((W2.alloc (.cells #[.int .i64 0, .slice none 0 0, .slice none 0 0] 29)).setRow W2.heap.size #[.int .i64 4, .slice f.sa.addr f.sa.len f.sa.cap, .slice f.ss.addr f.ss.len f.ss.cap]) := ((Same.refl noB W2).alloc _).trans HG0.out.2 (fun b hb hx => by have h3 : b = W2.heap.size := hx; omega)
  refine wp_abs (fun W => Hid (Blk W N 24 #[.int .i64 4, .int .i64 0, .int .i64 3, .slice s.addr s.len s.cap, .int .i64 0]) ∧ Hid (Blk W W2.heap.size 29 #[.int .i64 4, .slice f.sa.addr f.sa.len f.sa.cap, .slice f.ss.addr f.ss.len f.ss.cap]) ∧ Hid (NetIs W (exN s)) ∧ Hid (FlowIs W f) ∧ Hid (Same noB w W)) ⟨HB.out.same hs0 (fun x => x), HG0.out.1, HN.out.keep hs0, HF.out.keep hs0, HS.out.trans' hs0⟩ ?_
  clear hs0 HG0 HS HN HF HB
  rintro W3 ⟨HB, HFB, HN, HF, HS⟩
  obtain ⟨F, hF⟩ : ∃ F, W2.heap.size = F := ⟨_, rfl⟩
  rw [hF] at HFB ⊢
  clear hF
  have x0 : W3.cell? ⟨N, 0, none⟩ = some (.int .i64 4) := HB.out.cell 0
  have x1 : W3.cell? ⟨N, 1, none⟩ = some (.int .i64 0) := HB.out.cell 1
  have x2 : W3.cell? ⟨N, 2, none⟩ = some (.int .i64 3) := HB.out.cell 2
  have x3 : W3.cell? ⟨N, 3, none⟩ = some (.slice s.addr s.len s.cap) := HB.out.cell 3
  have x4 : W3.cell? ⟨N, 4, none⟩ = some (.int .i64 0) := HB.out.cell 4
  have f0 : W3.cell? ⟨F, 0, none⟩ = some (.int .i64 4) := HFB.out.cell 0
  have f1 : W3.cell? ⟨F, 1, none⟩ = some (.slice f.sa.addr f.sa.len f.sa.cap) := HFB.out.cell 1
  have f2 : W3.cell? ⟨F, 2, none⟩ = some (.slice f.ss.addr f.ss.len f.ss.cap) := HFB.out.cell 2
  have hP := paths_ok HN.out HV.out HF.out HFL.out (by rw [HVL.out]; decide)
  unfold NetV.val FlowV.val at hP
  rw [HVL.out] at hP
  have HP : Hid (Calls Try.prog 19 #[.agg #[.int .i64 4, .int .i64 0, .int .i64 3, .slice s.addr s.len s.cap, .int .i64 0], .agg #[.int .i64 4, .slice f.sa.addr f.sa.len f.sa.cap, .slice f.ss.addr f.ss.len f.ss.cap]] W3 fun r w' => ∃ PR ZR P Z am', r = .returned (.tuple #[PR, .slice (Sl.addr ZR) (Sl.len ZR) (Sl.cap ZR), .int .i64 0]) ∧ PtI (exN s) f.am 4 P Z am' 0 ∧ PathsIs w' PR P ∧ IsI w' noB ZR Z ∧ Same noB W3 w') := hP
  clear hP
  go_wp2_with fail
  (with_reducible refine Calls.mono HP.out ?_)
  clear HP x0 x1 x2 x3 x4 f0 f1 f2
  rintro r W4 ⟨PR, ZR, P, Z, am', rfl, hpt, hpi, hzi, hs⟩
  have hlen : 0 < P.length ∧ ZR.len = P.length := by
    have h1 := hpt.sum
    have h2 := hpt.len
    have h3 := hzi.1
    refine ⟨?_, by omega⟩
    rw [h2]
    cases Z with
    | nil => simp at h1
    | cons => simp
  obtain ⟨vs, _, hrd, _⟩ := hpi
  obtain ⟨PA, pc, rfl, hpc1, hpc2, _⟩ := hrd.form
  replace HB := Lib.hid (HB.out.same hs (fun x => x))
  replace HFB := Lib.hid (HFB.out.same hs (fun x => x))
  replace HN := Lib.hid (HN.out.keep hs)
  replace HF := Lib.hid (HF.out.keep hs)
  replace HS := Lib.hid (HS.out.trans' hs)
  obtain ⟨pl, hpl⟩ : ∃ pl, P.length = pl := ⟨_, rfl⟩
  rw [hpl] at hlen ⊢
  obtain ⟨hl1, hl2⟩ := hlen
  rw [hl2]
  have hp1 : (0 : Int) < (pl : Int) := by omega
  have hzc := hzi.2.caps
  rw [hl2] at hzc
  have hsl := HF.out.s.1
  rw [HSD.out] at hsl
  simp at hsl
  have hsr := HF.out.s.2
  have hsc := hsr.caps
  obtain ⟨b, o, hb, r⟩ := hsr.at_ (by omega)
  rw [HSD.out] at r
  have s0 := r.cell 0 _ rfl
  have s1 := r.cell 1 _ rfl
  have s2 := r.cell 2 _ rfl
  have s3 := r.cell 3 _ rfl
  rw [Nat.add_zero] at s0
  have hC := check_ok HN.out HV.out HF.out HFL.out (by rw [HSD.out]; rfl) (by rw [HSD.out]; rfl) (by rw [HSD.out]; rfl) (by rw [HSD.out, HVL.out]; rfl)
  unfold NetV.val FlowV.val at hC
  rw [HVL.out, hb, hsl] at hC
  have HC : Hid (Calls Try.prog 26 #[.agg #[.int .i64 4, .int .i64 0, .int .i64 3, .slice s.addr s.len s.cap, .int .i64 0], .agg #[.int .i64 4, .slice f.sa.addr f.sa.len f.sa.cap, .slice (some ⟨b, o, none⟩) 4 f.ss.cap]] W4 fun r w' => r = .returned (.int .i64 0) ∧ Same noB W4 w') := hC
  have x0 : W4.cell? ⟨N, 0, none⟩ = some (.int .i64 4) := HB.out.cell 0
  have x1 : W4.cell? ⟨N, 1, none⟩ = some (.int .i64 0) := HB.out.cell 1
  have x2 : W4.cell? ⟨N, 2, none⟩ = some (.int .i64 3) := HB.out.cell 2
  have x3 : W4.cell? ⟨N, 3, none⟩ = some (.slice s.addr s.len s.cap) := HB.out.cell 3
  have x4 : W4.cell? ⟨N, 4, none⟩ = some (.int .i64 0) := HB.out.cell 4
  have f0 : W4.cell? ⟨F, 0, none⟩ = some (.int .i64 4) := HFB.out.cell 0
  have f1 : W4.cell? ⟨F, 1, none⟩ = some (.slice f.sa.addr f.sa.len f.sa.cap) := HFB.out.cell 1
  have f2 : W4.cell? ⟨F, 2, none⟩ = some (.slice (some ⟨b, o, none⟩) 4 f.ss.cap) := by rw [← hb, ← hsl]; exact HFB.out.cell 2
  have S0 := Lib.hid s0
  have S1 := Lib.hid s1
  have S2 := Lib.hid s2
  have S3 := Lib.hid s3
  rw [hsl] at hsc
  have HF2 := Lib.hid f2
  clear hC hb r hsr hsl hl1 hl2 hpl hrd hzi hpt hs s0 s1 s2 s3
  go_wp2_with fail
  (with_reducible refine Calls.mono HC.out ?_)
  clear HC x0 x1 x2 x3 x4 f0 f1 f2
  rintro r W5 ⟨rfl, hs⟩
  have f2 : W5.cell? ⟨F, 2, none⟩ = some (.slice (some ⟨b, o, none⟩) 4 f.ss.cap) := hs.cell HF2.out (fun x => x)
  have s0 := hs.cell S0.out (fun x => x)
  have s1 := hs.cell S1.out (fun x => x)
  have s2 := hs.cell S2.out (fun x => x)
  have s3 := hs.cell S3.out (fun x => x)
  replace HS := Lib.hid (HS.out.trans' hs)
  clear hs
  go_wp2_with fail
  go_ret
  exact ⟨rfl, HS.out⟩
end Go.Proofs.Ytpalacfgpcpppaa
