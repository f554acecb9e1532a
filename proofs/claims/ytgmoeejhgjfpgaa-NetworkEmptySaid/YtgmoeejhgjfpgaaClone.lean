/- maps.Clone; the network's Clone. -/
import Derived.Test.YtgmoeejhgjfpgaaRefG
import Derived.Shelf.SlMaps.Clone
import Derived.Laws.Externs
namespace Go.Proofs.Ytgmoeejhgjfpgaa
open Go Go.RowKit Go.Maps

theorem mapclone_any {w : World} {b k : Nat} {l : List Int} (h : MapB w b k l) :
    Calls Try.prog 34 #[.map (some b)] w fun e w' => e = .returned (.map (some w.heap.size)) ∧ MapB w' w.heap.size k l ∧ Same noB w w' := by
  obtain ⟨D, ⟨es, cl, hb, F, hs, hD⟩, hl⟩ := h
  have hq := fun w => run_eql_map_nil_sl (P := Try.prog) w 28 _ _ (some b) Try.underlying28
  have HF : Hid (MapB (w.alloc (.map es cl)) w.heap.size k l ∧ Same noB w (w.alloc (.map es cl))) := ⟨⟨D, ⟨es, cl, heap_alloc_new w _, F, hs, hD⟩, hl⟩, (Same.refl _ _).alloc _⟩
  have HB := Lib.hid hb
  clear hb F hs hD hl
  have hf : Try.prog.funcs[43]? = some (Try.prog.funcs[43]'(by decide +kernel)) := Array.getElem?_eq_getElem _
  go_enter Try.func34, Try.ntmps34
  go_wp2
  rw [run_callFunc_extern hf (by kernel_rfl) (by kernel_rfl) (by kernel_rfl) (e := Extern.MapsClone.clone) (by kernel_rfl), run_maps_clone_sl w 28 HB.out]
  simp only [Result.andThen]
  rw [Oper.upon_value]
  go_wp2
  rw [run_typeAssert_map_sl _ 28 20 _ _ _ Try.underlying28]
  simp only [Result.andThen]
  rw [Oper.upon_value]
  go_wp2
  go_ret
  exact ⟨rfl, HF.out⟩

theorem cl_row {w W : World} {S : Nat → Prop} {n : Nat} {st : NetSt} {v : Value} {bm k : Nat} (h : Hid (NetParts w S n st v bm k)) (hn : Hid (st.ps.length ≤ 1000000)) (hs : Hid (Same noB w W)) :
    Calls Try.prog 33 #[v] W fun e w' => ∃ A' c', e = .returned (.slice A' st.ps.length c') ∧ AppAt w w' (.slice A' st.ps.length c') st.ps.length 34 4 (pcells st.ps) ∧ Same noB W w' := by
  have hn' := hn.out
  refine (clone_any (own_same h.out.own hs.out (fun _ _ x => x)) (pcells_one _) (by omega)).mono fun _ _ ⟨v', a, b⟩ => ?_
  obtain ⟨A', c', rfl, _⟩ := (Rd.of_own (bad := noB) b.own (fun _ _ x => x)).form
  exact ⟨A', c', a, b.before hs.out, b.since⟩
theorem cl_map {w W : World} {S : Nat → Prop} {n : Nat} {st : NetSt} {v : Value} {bm k : Nat} (h : Hid (NetParts w S n st v bm k)) (hs : Hid (Same noB w W)) :
    Calls Try.prog 34 #[.map (some bm)] W fun e w' => ∃ b', e = .returned (.map (some b')) ∧ (MapB w' b' k st.iso ∧ w.heap.size ≤ b') ∧ Same noB W w' :=
  (mapclone_any (h.out.map.same hs.out (fun x => x))).mono fun _ _ ⟨a, b, c⟩ => ⟨_, a, ⟨b, hs.out.size⟩, c⟩
theorem cl_fin {w W : World} {st : NetSt} {v' : Value} {b' k : Nat} (hA : AppAt w W v' st.ps.length 34 4 (pcells st.ps)) (hM : MapB W b' k st.iso ∧ w.heap.size ≤ b') :
    NetNew w (W.alloc (.cells #[v', .map (some b'), .int .i64 st.last] 54)) W.heap.size st k := by
  have hs := hA.since
  have hsz := hs.size
  have hk : Same noB W (W.alloc (.cells #[v', .map (some b'), .int .i64 st.last] 54)) := (Same.refl _ _).alloc _
  have hz : (W.alloc (.cells #[v', .map (some b'), .int .i64 st.last] 54)).heap.size = W.heap.size + 1 := by simp
  refine ⟨fun b => w.heap.size ≤ b ∧ b < W.heap.size + 1, ⟨v', b', Blk.new _ _ _, own_same hA.own hk (fun _ _ x => x), hM.1.same hk (fun x => x), ⟨hsz, by omega⟩, ⟨hM.2, by have := hM.1.lt; omega⟩, fun g hg => ⟨hA.new g hg, by have := own_lt hA.own hg; omega⟩, fun b hb => by rw [hz]; exact hb.2⟩, fun b hb => hb.1, hs.trans' hk⟩

set_option maxHeartbeats 1000000 in
theorem netclone_any {T : Nat → Prop} {w : World} {n k : Nat} {st : NetSt} (h : NetOn T w n st k) (hs : st.ps.length ≤ 1000000) :
    Calls Try.prog 25 #[.pointer (some ⟨n, 0, none⟩)] w fun e w' => ∃ n', e = .returned (.pointer (some ⟨n', 0, none⟩)) ∧ NetNew w w' n' st k := by
  obtain ⟨_, S, ⟨v, bm, hp⟩, _⟩ := h
  have H := Lib.hid hp
  have HN := Lib.hid hs
  have n0 : w.cell? ⟨n, 0, none⟩ = some v := hp.blk.cell 0
  have n1 : w.cell? ⟨n, 1, none⟩ = some (.map (some bm)) := hp.blk.cell 1
  have n2 : w.cell? ⟨n, 2, none⟩ = some (.int .i64 st.last) := hp.blk.cell 2
  have HS : Hid (Same noB w w.drew) := (Same.refl _ _).drew
  clear hp hs
  go_enter Try.func25, Try.ntmps25
  go_wp2_with fail
  go_region_held3 (fun w' => w'.cell? ⟨n, 0, none⟩ = some v ∧ w'.cell? ⟨n, 1, none⟩ = some (.map (some bm)) ∧ w'.cell? ⟨n, 2, none⟩ = some (.int .i64 st.last))
    (first | (refine ⟨?_, ?_, ?_⟩ <;> with_reducible assumption) | go_keep)
    (first
      | (go_at_call 33; have hZ := cl_row H HN HS; (with_reducible refine Calls.mono hZ ?_); clear hZ; rintro e W3 ⟨A3, c3, rfl, hA, hk⟩; have HA := Lib.hid hA; (try have HM := Lib.hid (And.intro (HM.out.1.same hk (fun x => x)) HM.out.2)); have HS : Hid (Same noB w W3) := HS.out.trans' hk; have x0 := HS.out.cell n0 (fun x => x); have x1 := HS.out.cell n1 (fun x => x); have x2 := HS.out.cell n2 (fun x => x); clear hA hk)
      | (go_at_call 34; have hZ := cl_map H HS; (with_reducible refine Calls.mono hZ ?_); clear hZ; rintro e W3 ⟨b', rfl, hM, hk⟩; have HM := Lib.hid hM; (try have HA := Lib.hid (AppAt.keep HA.out hk)); have HS : Hid (Same noB w W3) := HS.out.trans' hk; have x0 := HS.out.cell n0 (fun x => x); have x1 := HS.out.cell n1 (fun x => x); have x2 := HS.out.cell n2 (fun x => x); clear hM hk))
  all_goals go_wp2_with fail
  all_goals
    go_ret
    exact ⟨_, rfl, cl_fin HA.out HM.out⟩
end Go.Proofs.Ytgmoeejhgjfpgaa
