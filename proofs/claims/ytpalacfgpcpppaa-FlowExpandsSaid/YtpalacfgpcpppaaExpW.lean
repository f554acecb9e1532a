/- Layer 10: Expand of the program. (printed by genExpW.py p) -/
import Derived.Test.YtpalacfgpcpppaaExpM
import Derived.Test.YtpalacfgpcpppaaFloB
namespace Go.Proofs.Ytpalacfgpcpppaa
open Go Go.RowKit
set_option maxRecDepth 100000

def noNet : Value := .agg #[.int .i64 0, .int .i64 0, .int .i64 0, .slice none 0 0, .int .i64 0]
theorem res_ct24 {fn : Func} {i j : Nat} (hres : fn.results = #[.cell i 24, .tmp j]) {tmps : Array Value} {w : World} {g : Nat} {a b c d e v : Value} (hb : Blk w g 24 #[a, b, c, d, e]) (h4 : tmps.getD i undef = .pointer (some ⟨g, 0, none⟩)) (h5 : tmps.getD j undef = v) :
    (results fn tmps).run Try.prog w = .ok (.tuple #[.agg #[a, b, c, d, e], v]) w := by
  have c0 : w.cell? ⟨g, 0, none⟩ = some a := hb.cell 0
  have c1 : w.cell? ⟨g, 1, none⟩ = some b := hb.cell 1
  have c2 : w.cell? ⟨g, 2, none⟩ = some c := hb.cell 2
  have c3 : w.cell? ⟨g, 3, none⟩ = some d := hb.cell 3
  have c4 : w.cell? ⟨g, 4, none⟩ = some e := hb.cell 4
  simp only [Array.getD_eq_getD_getElem?] at h4 h5
  simp [results, hres, go_sem, h4, h5, c0, c1, c2, c3, c4]
theorem exp_short {n : NetV} (hok : n.Ok) {S : Int} {t : Nat} (ht : t ≤ 16) {l r : List ArcV} (hl : l.length ≤ n.arcs.length) (hr : r.length ≤ n.nodes.toNat) : (expL n S t ++ l ++ r).length ≤ 80000 := by
  have h1 := expL_len n S t
  have h2 := hok.len
  have h3 := hok.nodes
  have h4 : t * (n.arcs.length + n.nodes.toNat) ≤ 16 * 4400 := Nat.mul_le_mul ht (by omega)
  rw [List.length_append, List.length_append]
  omega
theorem lay_bd {n : NetV} (hok : n.Ok) {t x : Int} (ht : 0 ≤ t ∧ t ≤ 33) (hx : 0 ≤ x ∧ x ≤ 400) : 0 ≤ t * n.nodes ∧ t * n.nodes ≤ 13200 ∧ 0 ≤ t * n.nodes + x ∧ t * n.nodes + x ≤ 13600 := by
  have hn := hok.nodes
  have h1 := Int.mul_nonneg ht.1 (show 0 ≤ n.nodes by omega)
  have h2 : t * n.nodes ≤ 33 * n.nodes := Int.mul_le_mul_of_nonneg_right ht.2 (by omega)
  omega
set_option maxHeartbeats 16000000 in
theorem expand_ok {w : World} {n : NetV} {S : Nat} (h : NetIs w n) (hv : n.validB = true) (hS : S ≤ 16) :
    Calls Try.prog 22 #[n.val, .int .i64 (S : Int)] w fun r w' => ((n.fits S ∧ ∃ s : Sl, r = .returned (.tuple #[(n.exp S s).val, .int .i64 0]) ∧ NetIs w' (n.exp S s)) ∨ (¬ n.fits S ∧ r = .returned (.tuple #[noNet, .int .i64 8]))) ∧ Same noB w w' := by
  have hok := NetV.validB_ok hv
  have HOK := Lib.hid hok
  have hZ := fun (W : World) (hs : Same noB w W) => valid_any (h.keep hs)
  rw [hv] at hZ
  have hcaps := h.rd.caps
  have hlen := h.len
  have hlen2 := hok.len
  have HLN := Lib.hid hlen
  have HR : Hid (Rd w noB 4 (.slice n.sl.addr n.sl.len n.sl.cap) n.sl.len (acells n.arcs)) := h.rd
  unfold NetV.val noNet at *
  have HZ := Lib.hid hZ
  have hw1 : IntKind.i64.wrap (n.nodes * ((S : Int) + 1)) = n.nodes * ((S : Int) + 1) := IntWalk.i64_in _ (by have := lay_bd hok (t := (S : Int) + 1) (x := 0) ⟨by omega, by omega⟩ ⟨by omega, by omega⟩; rw [Int.mul_comm]; omega)
  have hw2 : IntKind.i64.wrap ((S : Int) * n.nodes) = (S : Int) * n.nodes := IntWalk.i64_in _ (by have := lay_bd hok (t := (S : Int)) (x := 0) ⟨by omega, by omega⟩ ⟨by omega, by omega⟩; omega)
  have hw3 : IntKind.i64.wrap ((S : Int) * n.nodes + n.sink) = (S : Int) * n.nodes + n.sink := IntWalk.i64_in _ (by have := hok.sink; have := hok.nodes; have := lay_bd hok (t := (S : Int)) (x := n.sink) ⟨by omega, by omega⟩ ⟨by omega, by omega⟩; omega)
  have hw4 : IntKind.i64.wrap ((S : Int) + 1) = (S : Int) + 1 := IntWalk.i64_in _ (by omega)
  have hS1 : ¬ ((S : Int) < 0) := by omega
  have hS2 : ¬ (16 < (S : Int)) := by omega
  have hnb := hok.nodes
  clear h hv hok hZ hlen hlen2
  go_enter Try.func22, Try.ntmps22
  go_upto_region 1 with (fail)
  have HN0 := Lib.hid ((Blk.new w 24 #[.int .i64 n.nodes, .int .i64 n.source, .int .i64 n.sink, .slice n.sl.addr n.sl.len n.sl.cap, .int .i64 n.hold]).alloc (.cells #[.int .i64 0, .int .i64 0, .int .i64 0, .slice none 0 0, .int .i64 0] 24))
  have HR0 := Lib.hid (Blk.new (w.alloc (.cells #[.int .i64 n.nodes, .int .i64 n.source, .int .i64 n.sink, .slice n.sl.addr n.sl.len n.sl.cap, .int .i64 n.hold] 24)) 24 #[.int .i64 0, .int .i64 0, .int .i64 0, .slice none 0 0, .int .i64 0])
  rw [World.size_alloc] at HR0
  refine wp_abs (fun W => Hid (Blk W w.heap.size 24 #[.int .i64 n.nodes, .int .i64 n.source, .int .i64 n.sink, .slice n.sl.addr n.sl.len n.sl.cap, .int .i64 n.hold]) ∧ Hid (Blk W (w.heap.size + 1) 24 #[.int .i64 0, .int .i64 0, .int .i64 0, .slice none 0 0, .int .i64 0]) ∧ Hid (Same noB w W)) ⟨HN0.out, HR0.out, ((Same.refl _ _).alloc _).alloc _⟩ ?_
  clear HN0 HR0
  rintro W0 ⟨HN, HRB, HS⟩
  obtain ⟨N, hN⟩ : ∃ N, w.heap.size = N := ⟨_, rfl⟩
  obtain ⟨R, hR⟩ : ∃ R, N + 1 = R := ⟨_, rfl⟩
  rw [hN] at HN HRB ⊢
  rw [hR] at HRB ⊢
  have HNR : Hid (w.heap.size = N ∧ N + 1 = R) := ⟨hN, hR⟩
  clear hN hR
  have x0 : W0.cell? ⟨N, 0, none⟩ = some (.int .i64 n.nodes) := HN.out.cell 0
  have x1 : W0.cell? ⟨N, 1, none⟩ = some (.int .i64 n.source) := HN.out.cell 1
  have x2 : W0.cell? ⟨N, 2, none⟩ = some (.int .i64 n.sink) := HN.out.cell 2
  have x3 : W0.cell? ⟨N, 3, none⟩ = some (.slice n.sl.addr n.sl.len n.sl.cap) := HN.out.cell 3
  have x4 : W0.cell? ⟨N, 4, none⟩ = some (.int .i64 n.hold) := HN.out.cell 4
  go_wp2_with fail
  (with_reducible refine Calls.mono (HZ.out W0 HS.out) ?_)
  clear HZ x0 x1 x2 x3 x4
  rintro r W1 ⟨rfl, hs1⟩
  replace HN := Lib.hid (HN.out.same hs1 (fun x => x))
  replace HRB := Lib.hid (HRB.out.same hs1 (fun x => x))
  replace HS := Lib.hid (HS.out.trans' hs1)
  clear hs1
  have x0 : W1.cell? ⟨N, 0, none⟩ = some (.int .i64 n.nodes) := HN.out.cell 0
  have x1 : W1.cell? ⟨N, 1, none⟩ = some (.int .i64 n.source) := HN.out.cell 1
  have x2 : W1.cell? ⟨N, 2, none⟩ = some (.int .i64 n.sink) := HN.out.cell 2
  have x3 : W1.cell? ⟨N, 3, none⟩ = some (.slice n.sl.addr n.sl.len n.sl.cap) := HN.out.cell 3
  have x4 : W1.cell? ⟨N, 4, none⟩ = some (.int .i64 n.hold) := HN.out.cell 4
  have HO0 := Lib.hid (row_stored (Blk.new W1 24 #[.int .i64 0, .int .i64 0, .int .i64 0, .slice none 0 0, .int .i64 0]) #[.int .i64 (n.nodes * ((S : Int) + 1)), .int .i64 n.source, .int .i64 ((S : Int) * n.nodes + n.sink), .slice none 0 0, .int .i64 0])
  go_upto_region 4 with (refine wpList_store_row rfl 24 _ _ rfl W1.heap.size #[.int .i64 (n.nodes * ((S : Int) + 1)), .int .i64 n.source, .int .i64 ((S : Int) * n.nodes + n.sink), .slice none 0 0, .int .i64 0] rfl rfl 24 _ (Blk.new W1 24 #[.int .i64 0, .int .i64 0, .int .i64 0, .slice none 0 0, .int .i64 0]) (by kernel_rfl) rfl (by kernel_rfl) ?_)
  have hs0 : Same noB W1 ((W1.alloc (.cells #[.int .i64 0, .int .i64 0, .int .i64 0, .slice none 0 0, .int .i64 0] 24)).setRow W1.heap.size #[.int .i64 (n.nodes * ((S : Int) + 1)), .int .i64 n.source, .int .i64 ((S : Int) * n.nodes + n.sink), .slice none 0 0, .int .i64 0]) := ((Same.refl noB W1).alloc _).trans HO0.out.2 (fun b hb hx => by have h3 : b = W1.heap.size := hx; omega)
  have hne : N ≠ W1.heap.size ∧ R ≠ W1.heap.size ∧ w.heap.size ≤ W1.heap.size := ⟨by have := HN.out.lt; omega, by have := HRB.out.lt; omega, HS.out.size⟩
  refine wp_abs (fun W => Hid (ExS w W n N R W1.heap.size (n.nodes * ((S : Int) + 1), n.source, (S : Int) * n.nodes + n.sink) [])) (ExS.start (HN.out.same hs0 (fun x => x)) (HRB.out.same hs0 (fun x => x)) HO0.out.1 (HS.out.trans' hs0) hne) ?_
  clear hs0 HO0 HN HRB HS x0 x1 x2 x3 x4 hne
  rintro W2 HE
  obtain ⟨O, hO⟩ : ∃ O, W1.heap.size = O := ⟨_, rfl⟩
  rw [hO] at HE ⊢
  clear hO
  have HE : Hid (ExS w W2 n N R O (n.nodes * ((S : Int) + 1), n.source, (S : Int) * n.nodes + n.sink) (expL n (S : Int) 0)) := HE
  obtain ⟨K, hK⟩ : ∃ K : Nat, n.nodes = (K : Int) := ⟨n.nodes.toNat, by omega⟩
  have HK := Lib.hid hK
  have hKb : K ≤ 400 := by omega
  clear hK hw1 hw2 hw3
  go_wp2_with fail
  go_loopg [40] (S + 1) (fun gt q wr => ∃ (t : Nat), t ≤ S + 1 ∧ Hid (gt + t = S + 1) ∧ q = .int .i64 (t : Int) ∧ Hid (ExS w wr n N R O (n.nodes * ((S : Int) + 1), n.source, (S : Int) * n.nodes + n.sink) (expL n (S : Int) t)))
  case atStart => exact ⟨0, by omega, rfl, rfl, HE.out⟩
  case round =>
    clear HE
    obtain ⟨t, ht, HGT, rfl, HE⟩ := hrel
    by_cases hlt : t < S + 1
    · have hlt2 : (t : Int) < (S : Int) + 1 := by omega
      have hlt3 : (t : Int) ≤ (S : Int) := by omega
      have hwt : IntKind.i64.wrap ((t : Int) + 1) = (t : Int) + 1 := IntWalk.i64_in _ (by omega)
      have hwtn : IntKind.i64.wrap ((t : Int) * n.nodes) = (t : Int) * n.nodes := IntWalk.i64_in _ (by have := lay_bd HOK.out (t := (t : Int)) (x := 0) ⟨by omega, by omega⟩ ⟨by omega, by omega⟩; omega)
      obtain ⟨ot, rfl⟩ : ∃ ot : Nat, ot = gk := ⟨_, rfl⟩
      have x0 : wr.cell? ⟨N, 0, none⟩ = some (.int .i64 n.nodes) := HE.out.nb.cell 0
      have x1 : wr.cell? ⟨N, 1, none⟩ = some (.int .i64 n.source) := HE.out.nb.cell 1
      have x2 : wr.cell? ⟨N, 2, none⟩ = some (.int .i64 n.sink) := HE.out.nb.cell 2
      have x3 : wr.cell? ⟨N, 3, none⟩ = some (.slice n.sl.addr n.sl.len n.sl.cap) := HE.out.nb.cell 3
      have x4 : wr.cell? ⟨N, 4, none⟩ = some (.int .i64 n.hold) := HE.out.nb.cell 4
      have HE : Hid (ExS w wr n N R O (n.nodes * ((S : Int) + 1), n.source, (S : Int) * n.nodes + n.sink) ((expL n (S : Int) t ++ layA n (S : Int) (t : Int) (0)))) := by show ExS _ _ _ _ _ _ _ _; rw [layA_zero, List.append_nil]; exact HE.out
      go_wp2_with fail
      go_loopg [46] (n.sl.len) (fun ga q wr => ∃ (k : Nat), k ≤ n.sl.len ∧ Hid (ga + k = n.sl.len) ∧ q = .int .i64 (k : Int) ∧ Hid (ExS w wr n N R O (n.nodes * ((S : Int) + 1), n.source, (S : Int) * n.nodes + n.sink) ((expL n (S : Int) t ++ layA n (S : Int) (t : Int) (k)))))
      case atStart => exact ⟨0, by omega, rfl, rfl, HE.out⟩
      case round =>
        clear HE x0 x1 x2 x3 x4
        obtain ⟨k, hk, HGA, rfl, HE⟩ := hrel
        have x0 : wr.cell? ⟨N, 0, none⟩ = some (.int .i64 n.nodes) := HE.out.nb.cell 0
        have x1 : wr.cell? ⟨N, 1, none⟩ = some (.int .i64 n.source) := HE.out.nb.cell 1
        have x2 : wr.cell? ⟨N, 2, none⟩ = some (.int .i64 n.sink) := HE.out.nb.cell 2
        have x3 : wr.cell? ⟨N, 3, none⟩ = some (.slice n.sl.addr n.sl.len n.sl.cap) := HE.out.nb.cell 3
        have x4 : wr.cell? ⟨N, 4, none⟩ = some (.int .i64 n.hold) := HE.out.nb.cell 4
        by_cases hka : k < n.sl.len
        · obtain ⟨x, hx⟩ : ∃ e, n.arcs[k]? = some e := ⟨_, List.getElem?_eq_getElem (by have := HLN.out; omega)⟩
          have hxo := HOK.out.arcs x (List.mem_of_getElem? hx)
          obtain ⟨b, o, hb, r⟩ := (HR.out.keep HE.out.since).at_ (by omega)
          obtain ⟨p0, p1, p2, p3⟩ := arc_at r hx
          rw [hb] at x3
          have HB := Lib.hid hb
          have hk0 : (0 : Int) ≤ (k : Int) := by omega
          have hk1 : (k : Int) < (n.sl.len : Int) := by omega
          have HX := Lib.hid (layA_next (S := (S : Int)) (t := (t : Int)) hx)
          have hwa : IntKind.i64.wrap ((t : Int) * n.nodes + x.f) = (t : Int) * n.nodes + x.f := IntWalk.i64_in _ (by have := hxo.f; have := lay_bd HOK.out (t := (t : Int)) (x := x.f) ⟨by omega, by omega⟩ ⟨by omega, by omega⟩; omega)
          have hwb : IntKind.i64.wrap ((t : Int) + x.d) = (t : Int) + x.d := IntWalk.i64_in _ (by have := hxo.d; omega)
          have hwc : IntKind.i64.wrap (((t : Int) + x.d) * n.nodes) = ((t : Int) + x.d) * n.nodes := IntWalk.i64_in _ (by have := hxo.d; have := lay_bd HOK.out (t := (t : Int) + x.d) (x := 0) ⟨by omega, by omega⟩ ⟨by omega, by omega⟩; omega)
          have hwd : IntKind.i64.wrap (((t : Int) + x.d) * n.nodes + x.t) = ((t : Int) + x.d) * n.nodes + x.t := IntWalk.i64_in _ (by have := hxo.t; have := hxo.d; have := lay_bd HOK.out (t := (t : Int) + x.d) (x := x.t) ⟨by omega, by omega⟩ ⟨by omega, by omega⟩; omega)
          have HA0 := Lib.hid (row_stored (Blk.new wr 43 #[.int .i64 0, .int .i64 0, .int .i64 0, .int .i64 0]) #[.int .i64 x.f, .int .i64 x.t, .int .i64 x.c, .int .i64 x.d])
          clear r hx hxo
          rw [hb]
          go_upto_region 10 with (refine wpList_store_row rfl 43 _ _ rfl wr.heap.size #[.int .i64 x.f, .int .i64 x.t, .int .i64 x.c, .int .i64 x.d] rfl rfl 43 _ (Blk.new wr 43 #[.int .i64 0, .int .i64 0, .int .i64 0, .int .i64 0]) (by kernel_rfl) rfl (by kernel_rfl) ?_)
          have hs0 : Same noB wr ((wr.alloc (.cells #[.int .i64 0, .int .i64 0, .int .i64 0, .int .i64 0] 43)).setRow wr.heap.size #[.int .i64 x.f, .int .i64 x.t, .int .i64 x.c, .int .i64 x.d]) := ((Same.refl noB wr).alloc _).trans HA0.out.2 (fun b hb hx => by have h3 : b = wr.heap.size := hx; omega)
          rw [← hb]
          refine wp_abs (fun W => Hid (Blk W wr.heap.size 43 #[.int .i64 x.f, .int .i64 x.t, .int .i64 x.c, .int .i64 x.d]) ∧ Hid (ExS w W n N R O (n.nodes * ((S : Int) + 1), n.source, (S : Int) * n.nodes + n.sink) ((expL n (S : Int) t ++ layA n (S : Int) (t : Int) (k))))) ⟨HA0.out.1, HE.out.keep hs0⟩ ?_
          clear hs0 HA0 HE p0 p1 p2 p3 x0 x1 x2 x3 x4 hb
          rintro W3 ⟨HA, HE⟩
          obtain ⟨E, hE⟩ : ∃ E, wr.heap.size = E := ⟨_, rfl⟩
          rw [hE] at HA ⊢
          clear hE
          have p0 : W3.cell? ⟨E, 0, none⟩ = some (.int .i64 x.f) := HA.out.cell 0
          have p1 : W3.cell? ⟨E, 1, none⟩ = some (.int .i64 x.t) := HA.out.cell 1
          have p2 : W3.cell? ⟨E, 2, none⟩ = some (.int .i64 x.c) := HA.out.cell 2
          have p3 : W3.cell? ⟨E, 3, none⟩ = some (.int .i64 x.d) := HA.out.cell 3
          have x0 : W3.cell? ⟨N, 0, none⟩ = some (.int .i64 n.nodes) := HE.out.nb.cell 0
          by_cases hd : (t : Int) + x.d ≤ (S : Int)
          · rw [if_pos hd] at HX
            obtain ⟨A, c, hob, hap⟩ := HE.out.row
            have o3 : W3.cell? ⟨O, 3, none⟩ = some (.slice A ((expL n (S : Int) t ++ layA n (S : Int) (t : Int) (k))).length c) := hob.cell 3
            have HOB := Lib.hid hob
            have HAP := Lib.hid hap
            have HLE : Hid (((expL n (S : Int) t ++ layA n (S : Int) (t : Int) (k))).length ≤ 80000) := by
              have := exp_short HOK.out (S := (S : Int)) (t := t) (by omega) (layA_len n (S : Int) (t : Int) k) (r := []) (by simp)
              rwa [List.append_nil] at this
            have HLL : Hid ((expL n (S : Int) t ++ layA n (S : Int) (t : Int) (k + 1)) = ((expL n (S : Int) t ++ layA n (S : Int) (t : Int) (k))) ++ [expArc n (t : Int) x]) := by show _ = _; rw [HX.out, List.append_assoc]
            clear hob hap
            obtain ⟨l, hl⟩ : ∃ l, (expL n (S : Int) t ++ layA n (S : Int) (t : Int) (k)) = l := ⟨_, rfl⟩
            rw [hl] at HE HOB HAP HLE HLL o3
            clear hl HX
            go_upto_region 12 with (at_builtin; refine wpL_app sl22x rfl _ _ rfl rfl (own_same HAP.out.own ((Same.refl noB W3).alloc _) (fun _ _ x => x)) rfl (Rd.of_blk (bad := noB) (cs := [.int .i64 ((t : Int) * n.nodes + x.f), .int .i64 (((t : Int) + x.d) * n.nodes + x.t), .int .i64 x.c, .int .i64 0]) (Blk.new W3 43 #[.int .i64 ((t : Int) * n.nodes + x.f), .int .i64 (((t : Int) + x.d) * n.nodes + x.t), .int .i64 x.c, .int .i64 0]) (fun x => x) rfl (by omega) (by simp [maxLen])) (arc_one (expArc n (t : Int) x)) (by have := HLE.out; omega) (Nat.zero_le _) ?_; intro A7 c7 W7 hown7 hgrow7 hat7 _; have HMD := Lib.hid (HE.out.mid (x := expArc n (t : Int) x) HOB.out HAP.out hown7 hgrow7 hat7); have HPU := Lib.hid (HE.out.push (x := expArc n (t : Int) x) HOB.out HAP.out hown7 hgrow7 hat7); have z3 := HMD.out.2.2.1.frozen 3; have l3 := HMD.out.2.2.1.lt; have o3' : W7.cell? ⟨O, 3, none⟩ = some (.slice A l.length c) := HMD.out.2.2.1.cell 3; clear hown7 hgrow7 hat7)
            refine wp_abs (fun W => Hid (ExS w W n N R O (n.nodes * ((S : Int) + 1), n.source, (S : Int) * n.nodes + n.sink) ((expL n (S : Int) t ++ layA n (S : Int) (t : Int) (k + 1))))) (by rw [HLL.out]; exact HPU.out) ?_
            clear HMD HPU z3 l3 o3' o3 HE HOB HAP HLE HLL HA p0 p1 p2 p3 x0
            rintro W4 HE
            go_wp2_with fail
            go_roundg (gk - 1)
            case measure => have h1 := HGA.out; omega
            case rel => exact ⟨k + 1, by omega, by show _ = _; have h1 := HGA.out; omega, by go_num, HE.out⟩
          · rw [if_neg hd, List.append_nil] at HX
            have HE : Hid (ExS w W3 n N R O (n.nodes * ((S : Int) + 1), n.source, (S : Int) * n.nodes + n.sink) ((expL n (S : Int) t ++ layA n (S : Int) (t : Int) (k + 1)))) := by show ExS _ _ _ _ _ _ _ _; rw [HX.out]; exact HE.out
            clear HX HA
            go_wp2_with fail
            go_roundg (gk - 1)
            case measure => have h1 := HGA.out; omega
            case rel => exact ⟨k + 1, by omega, by show _ = _; have h1 := HGA.out; omega, by go_num, HE.out⟩
        · have HE : Hid (ExS w wr n N R O (n.nodes * ((S : Int) + 1), n.source, (S : Int) * n.nodes + n.sink) ((expL n (S : Int) t ++ layA n (S : Int) (t : Int) n.arcs.length ++ if holdB n (S : Int) (t : Int) = true then layH n (t : Int) (0) else []))) := by
            show ExS _ _ _ _ _ _ _ _
            have h1 := HE.out
            rw [show k = n.arcs.length by have := HLN.out; omega] at h1
            have h2 : (if holdB n (S : Int) (t : Int) = true then layH n (t : Int) 0 else []) = [] := by split <;> rfl
            rw [h2, List.append_nil]
            exact h1
          have hka2 : ¬ ((k : Int) < (n.sl.len : Int)) := by omega
          clear hka HGA
          rw [HK.out] at x0
          go_wp2_with fail
          go_loopg [84] (K) (fun gh q wr => ∃ (v : Nat), v ≤ K ∧ Hid (gh + v = K) ∧ q = .int .i64 (v : Int) ∧ Hid (ExS w wr n N R O (n.nodes * ((S : Int) + 1), n.source, (S : Int) * n.nodes + n.sink) ((expL n (S : Int) t ++ layA n (S : Int) (t : Int) n.arcs.length ++ if holdB n (S : Int) (t : Int) = true then layH n (t : Int) (v) else []))))
          case atStart => exact ⟨0, by omega, rfl, rfl, HE.out⟩
          case round =>
            clear HE x0 x1 x2 x3 x4
            obtain ⟨v, hv, HGH, rfl, HE⟩ := hrel
            have x0 : wr.cell? ⟨N, 0, none⟩ = some (.int .i64 n.nodes) := HE.out.nb.cell 0
            have x1 : wr.cell? ⟨N, 1, none⟩ = some (.int .i64 n.source) := HE.out.nb.cell 1
            have x2 : wr.cell? ⟨N, 2, none⟩ = some (.int .i64 n.sink) := HE.out.nb.cell 2
            have x3 : wr.cell? ⟨N, 3, none⟩ = some (.slice n.sl.addr n.sl.len n.sl.cap) := HE.out.nb.cell 3
            have x4 : wr.cell? ⟨N, 4, none⟩ = some (.int .i64 n.hold) := HE.out.nb.cell 4
            by_cases hvk : v < K
            · have hvk2 : (v : Int) < (K : Int) := by omega
              by_cases hts : (t : Int) < (S : Int)
              · by_cases hh : 0 < n.hold
                · have HHB : Hid (holdB n (S : Int) (t : Int) = true) := holdB_iff.2 ⟨hts, hh⟩
                  have d1 : decide (0 < n.hold) = true := decide_eq_true hh
                  obtain ⟨A, c, hob, hap⟩ := HE.out.row
                  have o3 : wr.cell? ⟨O, 3, none⟩ = some (.slice A ((expL n (S : Int) t ++ layA n (S : Int) (t : Int) n.arcs.length ++ if holdB n (S : Int) (t : Int) = true then layH n (t : Int) (v) else [])).length c) := hob.cell 3
                  have HOB := Lib.hid hob
                  have HAP := Lib.hid hap
                  have HLE : Hid (((expL n (S : Int) t ++ layA n (S : Int) (t : Int) n.arcs.length ++ if holdB n (S : Int) (t : Int) = true then layH n (t : Int) (v) else [])).length ≤ 80000) := exp_short HOK.out (S := (S : Int)) (t := t) (by omega) (layA_len n (S : Int) (t : Int) _) (by split; rw [layH_len]; (have := HK.out; omega); simp)
                  have HLL : Hid ((expL n (S : Int) t ++ layA n (S : Int) (t : Int) n.arcs.length ++ if holdB n (S : Int) (t : Int) = true then layH n (t : Int) (v + 1) else []) = ((expL n (S : Int) t ++ layA n (S : Int) (t : Int) n.arcs.length ++ if holdB n (S : Int) (t : Int) = true then layH n (t : Int) (v) else [])) ++ [holdArc n (t : Int) (v : Int)]) := by show _ = _; rw [if_pos HHB.out, if_pos HHB.out, layH_next, List.append_assoc, List.append_assoc, List.append_assoc]
                  have hwv : IntKind.i64.wrap ((t : Int) * n.nodes + (v : Int)) = (t : Int) * n.nodes + (v : Int) := IntWalk.i64_in _ (by have := lay_bd HOK.out (t := (t : Int)) (x := (v : Int)) ⟨by omega, by omega⟩ ⟨by omega, by omega⟩; omega)
                  have hwu : IntKind.i64.wrap (((t : Int) + 1) * n.nodes) = ((t : Int) + 1) * n.nodes := IntWalk.i64_in _ (by have := lay_bd HOK.out (t := (t : Int) + 1) (x := 0) ⟨by omega, by omega⟩ ⟨by omega, by omega⟩; omega)
                  have hwx : IntKind.i64.wrap (((t : Int) + 1) * n.nodes + (v : Int)) = ((t : Int) + 1) * n.nodes + (v : Int) := IntWalk.i64_in _ (by have := lay_bd HOK.out (t := (t : Int) + 1) (x := (v : Int)) ⟨by omega, by omega⟩ ⟨by omega, by omega⟩; omega)
                  have HKK := HK
                  clear hob hap
                  obtain ⟨l, hl⟩ : ∃ l, (expL n (S : Int) t ++ layA n (S : Int) (t : Int) n.arcs.length ++ if holdB n (S : Int) (t : Int) = true then layH n (t : Int) (v) else []) = l := ⟨_, rfl⟩
                  rw [hl] at HE HOB HAP HLE HLL o3
                  clear hl
                  go_upto_region 18 with (at_builtin; refine wpL_app sl22x rfl _ _ rfl rfl (own_same HAP.out.own ((Same.refl noB wr).alloc _) (fun _ _ x => x)) rfl (Rd.of_blk (bad := noB) (cs := [.int .i64 ((t : Int) * n.nodes + (v : Int)), .int .i64 (((t : Int) + 1) * n.nodes + (v : Int)), .int .i64 n.hold, .int .i64 0]) (Blk.new wr 43 #[.int .i64 ((t : Int) * n.nodes + (v : Int)), .int .i64 (((t : Int) + 1) * n.nodes + (v : Int)), .int .i64 n.hold, .int .i64 0]) (fun x => x) rfl (by omega) (by simp [maxLen])) (arc_one (holdArc n (t : Int) (v : Int))) (by have := HLE.out; omega) (Nat.zero_le _) ?_; intro A7 c7 W7 hown7 hgrow7 hat7 _; have HMD := Lib.hid (HE.out.mid (x := holdArc n (t : Int) (v : Int)) HOB.out HAP.out hown7 hgrow7 hat7); have HPU := Lib.hid (HE.out.push (x := holdArc n (t : Int) (v : Int)) HOB.out HAP.out hown7 hgrow7 hat7); have z3 := HMD.out.2.2.1.frozen 3; have l3 := HMD.out.2.2.1.lt; have o3' : W7.cell? ⟨O, 3, none⟩ = some (.slice A l.length c) := HMD.out.2.2.1.cell 3; clear hown7 hgrow7 hat7)
                  refine wp_abs (fun W => Hid (ExS w W n N R O (n.nodes * ((S : Int) + 1), n.source, (S : Int) * n.nodes + n.sink) ((expL n (S : Int) t ++ layA n (S : Int) (t : Int) n.arcs.length ++ if holdB n (S : Int) (t : Int) = true then layH n (t : Int) (v + 1) else [])))) (by rw [HLL.out]; exact HPU.out) ?_
                  clear HMD HPU z3 l3 o3' o3 HE HOB HAP HLE HLL hwv hwu hwx
                  rintro W4 HE
                  go_wp2_with fail
                  go_roundg (gk - 1)
                  case measure => have h1 := HGH.out; omega
                  case rel => exact ⟨v + 1, by omega, by show _ = _; have h1 := HGH.out; omega, by go_num, HE.out⟩
                · have HHB : Hid (holdB n (S : Int) (t : Int) = false) := by show _ = _; unfold holdB; rw [decide_eq_false hh, Bool.and_false]
                  have d1 : decide (0 < n.hold) = false := decide_eq_false hh
                  have HE : Hid (ExS w wr n N R O (n.nodes * ((S : Int) + 1), n.source, (S : Int) * n.nodes + n.sink) ((expL n (S : Int) t ++ layA n (S : Int) (t : Int) n.arcs.length ++ if holdB n (S : Int) (t : Int) = true then layH n (t : Int) (v + 1) else []))) := by
                    have h1 := HE.out
                    have h2 := HHB.out
                    show ExS _ _ _ _ _ _ _ _
                    rw [h2] at h1 ⊢
                    exact h1
                  go_wp2_with fail
                  go_roundg (gk - 1)
                  case measure => have h1 := HGH.out; omega
                  case rel => exact ⟨v + 1, by omega, by show _ = _; have h1 := HGH.out; omega, by go_num, HE.out⟩
              · have HHB : Hid (holdB n (S : Int) (t : Int) = false) := by show _ = _; unfold holdB; rw [decide_eq_false hts, Bool.false_and]
                have HE : Hid (ExS w wr n N R O (n.nodes * ((S : Int) + 1), n.source, (S : Int) * n.nodes + n.sink) ((expL n (S : Int) t ++ layA n (S : Int) (t : Int) n.arcs.length ++ if holdB n (S : Int) (t : Int) = true then layH n (t : Int) (v + 1) else []))) := by
                  have h1 := HE.out
                  have h2 := HHB.out
                  show ExS _ _ _ _ _ _ _ _
                  rw [h2] at h1 ⊢
                  exact h1
                go_wp2_with fail
                go_roundg (gk - 1)
                case measure => have h1 := HGH.out; omega
                case rel => exact ⟨v + 1, by omega, by show _ = _; have h1 := HGH.out; omega, by go_num, HE.out⟩
            · have hvk2 : ¬ ((v : Int) < (K : Int)) := by omega
              have HE : Hid (ExS w wr n N R O (n.nodes * ((S : Int) + 1), n.source, (S : Int) * n.nodes + n.sink) (expL n (S : Int) (t + 1))) := by
                show ExS _ _ _ _ _ _ _ _
                have h1 := HE.out
                rw [expL]
                unfold layer
                rw [← List.append_assoc]
                rw [show n.nodes.toNat = v by have := HK.out; omega]; exact h1
              go_wp2_with fail
              go_roundg (ot - 1)
              case measure => have h1 := HGT.out; omega
              case rel => exact ⟨t + 1, by omega, by show _ = _; have h1 := HGT.out; omega, by go_num, HE.out⟩
    · have hte : ¬ ((t : Int) < (S : Int) + 1) := by omega
      have hte2 : ¬ ((t : Int) ≤ (S : Int)) := by omega
      obtain rfl : t = S + 1 := by omega
      obtain ⟨A, c, hob, hap⟩ := HE.out.row
      obtain ⟨L, hL⟩ : ∃ L, (expL n (S : Int) (S + 1)).length = L := ⟨_, rfl⟩
      rw [hL] at hob hap
      have o0 : wr.cell? ⟨O, 0, none⟩ = some (.int .i64 (n.nodes * ((S : Int) + 1))) := hob.cell 0
      have o1 : wr.cell? ⟨O, 1, none⟩ = some (.int .i64 n.source) := hob.cell 1
      have o2 : wr.cell? ⟨O, 2, none⟩ = some (.int .i64 ((S : Int) * n.nodes + n.sink)) := hob.cell 2
      have o3 : wr.cell? ⟨O, 3, none⟩ = some (.slice A L c) := hob.cell 3
      have o4 : wr.cell? ⟨O, 4, none⟩ = some (.int .i64 0) := hob.cell 4
      have HLE := Lib.hid hL
      have HOB := Lib.hid hob
      have HAP := Lib.hid hap
      clear hob hap hL hlt
      by_cases hn4 : 400 < n.nodes * ((S : Int) + 1)
      · have d1 : decide (400 < n.nodes * ((S : Int) + 1)) = true := decide_eq_true hn4
        have HNF : Hid (¬ n.fits S) := fun hf => by have := hf.1; omega
        clear hn4
        have HST := Lib.hid (row_stored HE.out.rb #[.int .i64 0, .int .i64 0, .int .i64 0, .slice none 0 0, .int .i64 0])
        go_wp2_with (refine wpList_store_row rfl 24 _ _ rfl R #[.int .i64 0, .int .i64 0, .int .i64 0, .slice none 0 0, .int .i64 0] rfl rfl 24 _ HE.out.rb (by kernel_rfl) rfl (by kernel_rfl) ?_)
        (try simp only [Exit.inBlock, Exit.then])
        refine bodyPost_ret (res_ct24 rfl HST.out.1 rfl rfl) rfl ?_
        exact ⟨.inr ⟨HNF.out, rfl⟩, HE.out.since.trans HST.out.2 (fun b hb e => by have h3 : b = R := e; have := HNR.out; omega)⟩
      · have d1 : decide (400 < n.nodes * ((S : Int) + 1)) = false := decide_eq_false hn4
        by_cases hl4 : (4000 : Int) < (L : Int)
        · have d2 : decide ((4000 : Int) < (L : Int)) = true := decide_eq_true hl4
          have HNF : Hid (¬ n.fits S) := fun hf => by have := hf.2; have := HLE.out; omega
          clear hn4 hl4
          have HST := Lib.hid (row_stored HE.out.rb #[.int .i64 0, .int .i64 0, .int .i64 0, .slice none 0 0, .int .i64 0])
          go_wp2_with (refine wpList_store_row rfl 24 _ _ rfl R #[.int .i64 0, .int .i64 0, .int .i64 0, .slice none 0 0, .int .i64 0] rfl rfl 24 _ HE.out.rb (by kernel_rfl) rfl (by kernel_rfl) ?_)
          (try simp only [Exit.inBlock, Exit.then])
          refine bodyPost_ret (res_ct24 rfl HST.out.1 rfl rfl) rfl ?_
          exact ⟨.inr ⟨HNF.out, rfl⟩, HE.out.since.trans HST.out.2 (fun b hb e => by have h3 : b = R := e; have := HNR.out; omega)⟩
        · have d2 : decide ((4000 : Int) < (L : Int)) = false := decide_eq_false hl4
          have HFT : Hid (n.fits S) := ⟨by omega, by have := HLE.out; omega⟩
          clear hn4 hl4
          have HST := Lib.hid (row_stored HE.out.rb #[.int .i64 (n.nodes * ((S : Int) + 1)), .int .i64 n.source, .int .i64 ((S : Int) * n.nodes + n.sink), .slice A L c, .int .i64 0])
          go_wp2_with (refine wpList_store_row rfl 24 _ _ rfl R #[.int .i64 (n.nodes * ((S : Int) + 1)), .int .i64 n.source, .int .i64 ((S : Int) * n.nodes + n.sink), .slice A L c, .int .i64 0] rfl rfl 24 _ HE.out.rb (by kernel_rfl) rfl (by kernel_rfl) ?_)
          (try simp only [Exit.inBlock, Exit.then])
          refine bodyPost_ret (res_ct24 rfl HST.out.1 rfl rfl) rfl ?_
          refine ⟨.inl ⟨HFT.out, ⟨A, L, c⟩, rfl, ⟨HLE.out.symm, ?_⟩⟩, HE.out.since.trans HST.out.2 (fun b hb e => by have h3 : b = R := e; have := HNR.out; omega)⟩
          refine Rd.of_own (own_same HAP.out.own HST.out.2 (fun g hg e => ?_)) (fun g _ x => x)
          obtain ⟨ds, hds⟩ := own_blk HAP.out.own hg
          have e' : g = R := e
          rw [e'] at hds
          exact hds.ne_ HE.out.rb (by decide) rfl
set_option maxHeartbeats 4000000 in
theorem expand_no {w : World} {n : NetV} {S : Int} (h : NetIs w n) (hno : n.validB = false ∨ S < 0 ∨ 16 < S) :
    Calls Try.prog 22 #[n.val, .int .i64 S] w fun r w' => r = .returned (.tuple #[noNet, .int .i64 1]) ∧ Same noB w w' := by
  have hZ := fun (W : World) (hs : Same noB w W) => valid_any (h.keep hs)
  unfold NetV.val noNet at *
  have HZ := Lib.hid hZ
  clear h hZ
  go_enter Try.func22, Try.ntmps22
  go_upto_region 1 with (fail)
  have HN0 := Lib.hid ((Blk.new w 24 #[.int .i64 n.nodes, .int .i64 n.source, .int .i64 n.sink, .slice n.sl.addr n.sl.len n.sl.cap, .int .i64 n.hold]).alloc (.cells #[.int .i64 0, .int .i64 0, .int .i64 0, .slice none 0 0, .int .i64 0] 24))
  have HR0 := Lib.hid (Blk.new (w.alloc (.cells #[.int .i64 n.nodes, .int .i64 n.source, .int .i64 n.sink, .slice n.sl.addr n.sl.len n.sl.cap, .int .i64 n.hold] 24)) 24 #[.int .i64 0, .int .i64 0, .int .i64 0, .slice none 0 0, .int .i64 0])
  rw [World.size_alloc] at HR0
  refine wp_abs (fun W => Hid (Blk W w.heap.size 24 #[.int .i64 n.nodes, .int .i64 n.source, .int .i64 n.sink, .slice n.sl.addr n.sl.len n.sl.cap, .int .i64 n.hold]) ∧ Hid (Blk W (w.heap.size + 1) 24 #[.int .i64 0, .int .i64 0, .int .i64 0, .slice none 0 0, .int .i64 0]) ∧ Hid (Same noB w W)) ⟨HN0.out, HR0.out, ((Same.refl _ _).alloc _).alloc _⟩ ?_
  clear HN0 HR0
  rintro W0 ⟨HN, HRB, HS⟩
  obtain ⟨N, hN⟩ : ∃ N, w.heap.size = N := ⟨_, rfl⟩
  obtain ⟨R, hR⟩ : ∃ R, N + 1 = R := ⟨_, rfl⟩
  rw [hN] at HN HRB ⊢
  rw [hR] at HRB ⊢
  have HNR : Hid (w.heap.size = N ∧ N + 1 = R) := ⟨hN, hR⟩
  clear hN hR
  have x0 : W0.cell? ⟨N, 0, none⟩ = some (.int .i64 n.nodes) := HN.out.cell 0
  have x1 : W0.cell? ⟨N, 1, none⟩ = some (.int .i64 n.source) := HN.out.cell 1
  have x2 : W0.cell? ⟨N, 2, none⟩ = some (.int .i64 n.sink) := HN.out.cell 2
  have x3 : W0.cell? ⟨N, 3, none⟩ = some (.slice n.sl.addr n.sl.len n.sl.cap) := HN.out.cell 3
  have x4 : W0.cell? ⟨N, 4, none⟩ = some (.int .i64 n.hold) := HN.out.cell 4
  have HZ := Lib.hid (HZ.out W0 HS.out)
  cases hv : n.validB with
  | false =>
    rw [hv] at HZ
    clear hno hv
    go_wp2_with fail
    (with_reducible refine Calls.mono HZ.out ?_)
    clear HZ x0 x1 x2 x3 x4
    rintro r W1 ⟨rfl, hs1⟩
    replace HRB := Lib.hid (HRB.out.same hs1 (fun x => x))
    replace HS := Lib.hid (HS.out.trans' hs1)
    clear hs1
    have HST := Lib.hid (row_stored HRB.out #[.int .i64 0, .int .i64 0, .int .i64 0, .slice none 0 0, .int .i64 0])
    go_wp2_with (refine wpList_store_row rfl 24 _ _ rfl R #[.int .i64 0, .int .i64 0, .int .i64 0, .slice none 0 0, .int .i64 0] rfl rfl 24 _ HRB.out (by kernel_rfl) rfl (by kernel_rfl) ?_)
    (try simp only [Exit.inBlock, Exit.then])
    refine bodyPost_ret (res_ct24 rfl HST.out.1 rfl rfl) rfl ?_
    exact ⟨rfl, HS.out.trans HST.out.2 (fun b hb e => by have h3 : b = R := e; have := HNR.out; omega)⟩
  | true =>
    rw [hv] at HZ hno
    by_cases h1 : S < 0
    · have d1 : decide (S < 0) = true := decide_eq_true h1
      clear hno hv h1
      go_wp2_with fail
      (with_reducible refine Calls.mono HZ.out ?_)
      clear HZ x0 x1 x2 x3 x4
      rintro r W1 ⟨rfl, hs1⟩
      replace HRB := Lib.hid (HRB.out.same hs1 (fun x => x))
      replace HS := Lib.hid (HS.out.trans' hs1)
      clear hs1
      have HST := Lib.hid (row_stored HRB.out #[.int .i64 0, .int .i64 0, .int .i64 0, .slice none 0 0, .int .i64 0])
      go_wp2_with (refine wpList_store_row rfl 24 _ _ rfl R #[.int .i64 0, .int .i64 0, .int .i64 0, .slice none 0 0, .int .i64 0] rfl rfl 24 _ HRB.out (by kernel_rfl) rfl (by kernel_rfl) ?_)
      (try simp only [Exit.inBlock, Exit.then])
      refine bodyPost_ret (res_ct24 rfl HST.out.1 rfl rfl) rfl ?_
      exact ⟨rfl, HS.out.trans HST.out.2 (fun b hb e => by have h3 : b = R := e; have := HNR.out; omega)⟩
    · have h2 : 16 < S := by
        rcases hno with h | h | h
        · cases h
        · exact absurd h h1
        · exact h
      have d1 : decide (S < 0) = false := decide_eq_false h1
      have d2 : decide (16 < S) = true := decide_eq_true h2
      clear hno hv h1 h2
      go_wp2_with fail
      (with_reducible refine Calls.mono HZ.out ?_)
      clear HZ x0 x1 x2 x3 x4
      rintro r W1 ⟨rfl, hs1⟩
      replace HRB := Lib.hid (HRB.out.same hs1 (fun x => x))
      replace HS := Lib.hid (HS.out.trans' hs1)
      clear hs1
      have HST := Lib.hid (row_stored HRB.out #[.int .i64 0, .int .i64 0, .int .i64 0, .slice none 0 0, .int .i64 0])
      go_wp2_with (refine wpList_store_row rfl 24 _ _ rfl R #[.int .i64 0, .int .i64 0, .int .i64 0, .slice none 0 0, .int .i64 0] rfl rfl 24 _ HRB.out (by kernel_rfl) rfl (by kernel_rfl) ?_)
      (try simp only [Exit.inBlock, Exit.then])
      refine bodyPost_ret (res_ct24 rfl HST.out.1 rfl rfl) rfl ?_
      exact ⟨rfl, HS.out.trans HST.out.2 (fun b hb e => by have h3 : b = R := e; have := HNR.out; omega)⟩
end Go.Proofs.Ytpalacfgpcpppaa
