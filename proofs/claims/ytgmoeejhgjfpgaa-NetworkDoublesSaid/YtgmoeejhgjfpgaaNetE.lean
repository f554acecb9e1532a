/- The network's methods Drop, Deliver, Double, Pending, Clone. -/
import Derived.Test.YtgmoeejhgjfpgaaNetD
namespace Go.Proofs.Ytgmoeejhgjfpgaa
open Go Go.RowKit Go.Maps

/-- The position of the packet with index i. -/
def NetSt.at_ (st : NetSt) (i : Int) : Nat := (i % st.ps.length).toNat
def NetSt.drop (st : NetSt) (i : Int) : NetSt := ⟨st.ps.eraseIdx (st.at_ i), st.last, st.iso⟩
theorem NetSt.at_lt (st : NetSt) (i : Int) (h : 0 < st.ps.length) : st.at_ i < st.ps.length := by
  have h1 := Int.emod_nonneg i (b := (st.ps.length : Int)) (by omega)
  have h2 := Int.emod_lt_of_pos i (show (0 : Int) < st.ps.length by omega)
  unfold NetSt.at_
  omega
theorem NetSt.drop_nil (st : NetSt) (i : Int) (h : st.ps.length = 0) : st.drop i = st := by
  obtain ⟨ps, last, iso⟩ := st
  cases ps with
  | nil => rfl
  | cons p ps => cases h
def noPk : Value := .agg #[.int .i64 0, .int .i64 0, .int .i64 0, .string .empty]

theorem drop_any {w : World} {S : Nat → Prop} {n : Nat} {st : NetSt} {k : Nat} (h : NetAt w S n st k) {i : Int} (hi : inI64 i) (hs : st.ps.length ≤ 1000000) :
    Calls Try.prog 16 #[.pointer (some ⟨n, 0, none⟩), .int .i64 i] w fun e w' => e = .returned (.bool (decide (0 < st.ps.length))) ∧ NetStep S n w w' (st.drop i) k := by
  by_cases hp : 0 < st.ps.length
  · obtain ⟨p, hpk⟩ : ∃ p, st.ps[st.at_ i]? = some p := ⟨_, List.getElem?_eq_getElem (st.at_lt i hp)⟩
    have H := Lib.hid (take_some h hi hp hs hpk)
    rw [decide_eq_true hp]
    obtain ⟨a, b, c, d⟩ := p
    clear h hi hp hs hpk
    simp only [Pk.val] at H
    go_enter Try.func16, Try.ntmps16
    go_wp2_with fail
    refine H.out.mono ?_
    rintro e w' ⟨rfl, hst⟩
    have Hst := Lib.hid hst
    clear hst
    go_wp2_with fail
    go_ret
    exact ⟨rfl, Hst.out.then_ ((Same.refl _ _).alloc _)⟩
  · have H := Lib.hid (take_none h (i := i) (by omega))
    rw [decide_eq_false hp, st.drop_nil i (by omega)]
    clear h hi hp hs
    go_enter Try.func16, Try.ntmps16
    go_wp2_with fail
    refine H.out.mono ?_
    rintro e w' ⟨rfl, hst⟩
    have Hst := Lib.hid hst
    clear hst
    go_wp2_with fail
    go_ret
    exact ⟨rfl, Hst.out.then_ ((Same.refl _ _).alloc _)⟩

/-- The four cells of a block of a packet. -/
theorem blk4 {w : World} {g : Nat} {a b c d : Value} (h : Blk w g 34 #[a, b, c, d]) : (w.cell? ⟨g, 0, none⟩ = some a ∧ w.cell? ⟨g, 1, none⟩ = some b ∧ w.cell? ⟨g, 2, none⟩ = some c ∧ w.cell? ⟨g, 3, none⟩ = some d) ∧
    w.frozen? ⟨g, 0, none⟩ = false ∧ w.frozen? ⟨g, 1, none⟩ = false ∧ w.frozen? ⟨g, 2, none⟩ = false ∧ w.frozen? ⟨g, 3, none⟩ = false :=
  ⟨⟨h.cell 0, h.cell 1, h.cell 2, h.cell 3⟩, h.frozen 0, h.frozen 1, h.frozen 2, h.frozen 3⟩
theorem set4 (w : World) (g : Nat) (a b c d : Value) : Same (oneB g) w ((((w.setCell ⟨g, 0, none⟩ a).setCell ⟨g, 1, none⟩ b).setCell ⟨g, 2, none⟩ c).setCell ⟨g, 3, none⟩ d) :=
  ((((Same.refl _ _).set1 0 _).set1 1 _).set1 2 _).set1 3 _

theorem blk_set4 {w : World} {g : Nat} {a b c d : Value} (h : Blk w g 34 #[a, b, c, d]) (a' b' c' d' : Value) : Blk ((((w.setCell ⟨g, 0, none⟩ a').setCell ⟨g, 1, none⟩ b').setCell ⟨g, 2, none⟩ c').setCell ⟨g, 3, none⟩ d') g 34 #[a', b', c', d'] := by
  have := (((h.set_ 0 a').set_ 1 b').set_ 2 c').set_ 3 d'
  simpa using this
/-- A result that is a packet in memory, and a Bool. -/
theorem res_pk {fn : Func} (hres : fn.results = #[.cell 4 34, .tmp 5]) {tmps : Array Value} {w : World} {g : Nat} {a b c d v : Value} (hb : Blk w g 34 #[a, b, c, d]) (h4 : tmps.getD 4 undef = .pointer (some ⟨g, 0, none⟩)) (h5 : tmps.getD 5 undef = v) :
    (results fn tmps).run Try.prog w = .ok (.tuple #[.agg #[a, b, c, d], v]) w := by
  obtain ⟨⟨c0, c1, c2, c3⟩, _⟩ := blk4 hb
  simp only [Array.getD_eq_getD_getElem?] at h4 h5
  simp [results, hres, go_sem, h4, h5, c0, c1, c2, c3]

theorem deliver_none {w : World} {S : Nat → Prop} {n : Nat} {st : NetSt} {k : Nat} (h : NetAt w S n st k) {i : Int} (hp : st.ps.length = 0) :
    Calls Try.prog 15 #[.pointer (some ⟨n, 0, none⟩), .int .i64 i] w fun e w' => e = .returned (.tuple #[noPk, .bool false]) ∧ NetStep S n w w' st k := by
  have hS : Same noB w (w.alloc (.cells #[.int .i64 0, .int .i64 0, .int .i64 0, .string .empty] 34)) := (Same.refl _ _).alloc _
  have H := Lib.hid (take_none (h.same hS (fun _ _ x => x)) (i := i) hp)
  have hbd := h.bd
  have HC := Lib.hid (fun w1 w2 h1 h2 => NetStep.local_ (w1 := w1) (w2 := w2) (st := st) (n := n) (k := k) (L := oneB w.heap.size) hbd hS h1 h2 (fun b (hb : b = w.heap.size) => by simp; omega))
  have HB := Lib.hid (fun w1 (h1 : NetStep S n _ w1 st k) => h1.bd (Blk.new w 34 #[.int .i64 0, .int .i64 0, .int .i64 0, .string .empty]) (fun x => Nat.lt_irrefl _ (hbd _ x)))
  clear h hS hp hbd
  go_enter Try.func15, Try.ntmps15
  go_wp2_with fail
  refine H.out.mono ?_
  rintro e w1 ⟨rfl, hst⟩
  obtain ⟨⟨c0, c1, c2, c3⟩, f0, f1, f2, f3⟩ := blk4 (HB.out w1 hst)
  have hlt : w.heap.size < w1.heap.size := by have := hst.size; simp at this; omega
  have Hst := Lib.hid hst
  clear hst
  go_wp2_with fail
  refine bodyPost_ret (res_pk rfl ((blk_set4 (HB.out w1 Hst.out) _ _ _ _).alloc _) rfl rfl) rfl ⟨rfl, HC.out w1 _ Hst.out ((set4 _ _ _ _ _ _).alloc _)⟩

theorem deliver_some {w : World} {S : Nat → Prop} {n : Nat} {st : NetSt} {k : Nat} (h : NetAt w S n st k) {i : Int} (hi : inI64 i) (hp : 0 < st.ps.length) (hs : st.ps.length ≤ 1000000) {p : Pk} (hpk : st.ps[st.at_ i]? = some p) (hpf : inI64 p.frm) (hpt : inI64 p.to) :
    Calls Try.prog 15 #[.pointer (some ⟨n, 0, none⟩), .int .i64 i] w fun e w' => e = .returned (.tuple #[if st.cut p.frm p.to then noPk else p.val, .bool (!st.cut p.frm p.to)]) ∧ NetStep S n w w' (st.drop i) k := by
  have hS : Same noB w (w.alloc (.cells #[.int .i64 0, .int .i64 0, .int .i64 0, .string .empty] 34)) := (Same.refl _ _).alloc _
  have H := Lib.hid (take_some (h.same hS (fun _ _ x => x)) hi hp hs hpk)
  have hbd := h.bd
  have HC := Lib.hid (fun w1 w2 h1 h2 => NetStep.local_ (w1 := w1) (w2 := w2) (st := st.drop i) (n := n) (k := k) (L := oneB w.heap.size) hbd hS h1 h2 (fun b (hb : b = w.heap.size) => by simp; omega))
  have HB := Lib.hid (fun w1 (h1 : NetStep S n _ w1 (st.drop i) k) => h1.bd (Blk.new w 34 #[.int .i64 0, .int .i64 0, .int .i64 0, .string .empty]) (fun x => Nat.lt_irrefl _ (hbd _ x)))
  have HN := Lib.hid (fun w1 (h1 : NetStep S n (w.alloc (.cells #[.int .i64 0, .int .i64 0, .int .i64 0, .string .empty] 34)) w1 (st.drop i) k) => h1)
  clear h hS hp hbd hi hs hpk
  obtain ⟨q, hq⟩ : ∃ q, q = st.cut p.frm p.to := ⟨_, rfl⟩
  have HQ := Lib.hid hq
  rw [← hq]
  clear hq
  simp only [Pk.val] at H ⊢
  change Hid (Calls Try.prog 30 _ _ fun e w' => _ ∧ NetStep S n _ w' (st.drop i) k) at H
  generalize hdr : st.drop i = sd at *
  have hiso : sd.iso = st.iso := by rw [← hdr]; rfl
  have HI := Lib.hid hiso
  clear hdr hiso
  go_enter Try.func15, Try.ntmps15
  go_wp2_with fail
  refine H.out.mono ?_
  rintro e w1 ⟨rfl, hst⟩
  obtain ⟨⟨c0, c1, c2, c3⟩, f0, f1, f2, f3⟩ := blk4 (HB.out w1 hst)
  have hlt : w.heap.size < w1.heap.size := by have := hst.size; simp at this; omega
  have Hst := Lib.hid hst
  clear hst
  go_wp2_with fail
  have hcall : Calls Try.prog 28 #[.slice (some ⟨w1.heap.size + 1, 0, none⟩) 2 2, .func (.func 26) #[.pointer (some ⟨n, 0, none⟩)] #[]] ((w1.alloc (.cells #[.int .i64 p.num, .int .i64 p.frm, .int .i64 p.to, .string p.data] 34)).alloc (.cells #[.int .i64 p.frm, .int .i64 p.to] 3))
      fun e w' => e = .returned (.bool q) ∧ w' = (w1.alloc (.cells #[.int .i64 p.num, .int .i64 p.frm, .int .i64 p.to, .string p.data] 34)).alloc (.cells #[.int .i64 p.frm, .int .i64 p.to] 3) := by
    obtain ⟨S', ⟨v', bm', hp1⟩, _, _⟩ := Hst.out
    have hb := Blk.new (w1.alloc (.cells #[.int .i64 p.num, .int .i64 p.frm, .int .i64 p.to, .string p.data] 34)) 3 #[.int .i64 p.frm, .int .i64 p.to]
    have hcc := contains_two (hp1.of_same (((Same.refl noB w1).alloc (.cells #[.int .i64 p.num, .int .i64 p.frm, .int .i64 p.to, .string p.data] 34)).alloc (.cells #[.int .i64 p.frm, .int .i64 p.to] 3))) hpf hpt (by simpa using hb)
    rw [HI.out] at hcc
    rw [HQ.out]
    exact hcc
  have HK := Lib.hid hcall
  clear hcall
  cases q
  · refine HK.out.mono ?_
    rintro e w2 ⟨rfl, rfl⟩
    go_wp2_with fail
    refine bodyPost_ret (res_pk rfl (((blk_set4 (HB.out w1 Hst.out) _ _ _ _).alloc _).alloc _) rfl rfl) rfl ⟨rfl, HC.out w1 _ Hst.out ?_⟩
    exact ((set4 _ _ _ _ _ _).alloc _).alloc _
  · refine HK.out.mono ?_
    rintro e w2 ⟨rfl, rfl⟩
    go_wp2_with fail
    refine bodyPost_ret (res_pk rfl (((blk_set4 (HB.out w1 Hst.out) _ _ _ _).alloc _).alloc _) rfl rfl) rfl ⟨rfl, HC.out w1 _ Hst.out ?_⟩
    exact ((set4 _ _ _ _ _ _).alloc _).alloc _

def NetSt.double (st : NetSt) (i : Int) : NetSt :=
  match st.ps[st.at_ i]? with
  | some p => ⟨st.ps ++ [⟨st.last + 1, p.frm, p.to, p.data⟩], st.last + 1, st.iso⟩
  | none => st
theorem double_any {w : World} {S : Nat → Prop} {n : Nat} {st : NetSt} {k : Nat} (h : NetAt w S n st k) {i : Int} (hi : inI64 i) (hs : st.ps.length ≤ 1000000) (hl : 0 ≤ st.last ∧ st.last ≤ 1000000) :
    Calls Try.prog 17 #[.pointer (some ⟨n, 0, none⟩), .int .i64 i] w fun e w' => e = .returned (.bool (decide (0 < st.ps.length))) ∧ NetStep S n w w' (st.double i) k := by
  obtain ⟨v, bm, hp'⟩ := h
  by_cases hp : 0 < st.ps.length
  · obtain ⟨p, hpk⟩ : ∃ p, st.ps[st.at_ i]? = some p := ⟨_, List.getElem?_eq_getElem (st.at_lt i hp)⟩
    have H0 := Lib.hid (index_some hp' hi hp hs)
    have H1 := Lib.hid (add_any ⟨v, bm, hp'⟩ p hs hl)
    obtain ⟨j, hj⟩ : ∃ j : Nat, i % st.ps.length = (j : Int) := ⟨(i % st.ps.length).toNat, by have := Int.emod_nonneg i (b := (st.ps.length : Int)) (by omega); omega⟩
    have hat : st.at_ i = j := by unfold NetSt.at_; omega
    unfold NetSt.double
    rw [decide_eq_true hp, hpk]
    rw [hj] at H0
    rw [hat] at hpk
    have hjl : j < st.ps.length := (List.getElem?_eq_some_iff.1 hpk).1
    obtain ⟨g, c, rfl, _, hgl⟩ := hp'.own.form hp
    have n0 : w.cell? ⟨n, 0, none⟩ = some (.slice (some ⟨g, 0, none⟩) st.ps.length c) := hp'.blk.cell 0
    have hcj : ∀ t u, p.cells[t]? = some u → t < 4 → w.cell? ⟨g, j * 4 + t, none⟩ = some u := fun t u hu ht => by
      obtain ⟨b, o, e, r⟩ := (Rd.of_own (bad := noB) hp'.own (fun _ _ x => x)).at_ hp
      injection e with e
      injection e with e1 e2
      subst e1 e2
      have := r.cell (j * 4 + t) u (by rw [pcells_at hpk t ht]; exact hu)
      rwa [Nat.zero_add] at this
    have c0 := hcj 0 _ rfl (by decide)
    have c1 := hcj 1 _ rfl (by decide)
    have c2 := hcj 2 _ rfl (by decide)
    have c3 := hcj 3 _ rfl (by decide)
    rw [Nat.add_zero] at c0
    clear hcj hp' hj hat hpk hi
    simp only [Pk.val] at H1
    go_enter Try.func17, Try.ntmps17
    go_wp2_with fail
    refine H0.out.mono ?_
    rintro e w' ⟨rfl, rfl⟩
    go_wp2_with fail
    refine H1.out.mono ?_
    rintro e w1 ⟨rfl, hst⟩
    have Hst := Lib.hid hst
    clear hst
    go_wp2_with fail
    go_ret
    exact ⟨rfl, Hst.out⟩
  · have H0 := Lib.hid (index_none hp' (i := i) (by omega))
    have hd : st.double i = st := by
      unfold NetSt.double
      rw [List.getElem?_eq_none (by omega)]
    rw [decide_eq_false hp, hd]
    have H := Lib.hid hp'
    clear hp' hd hi hp
    go_enter Try.func17, Try.ntmps17
    go_wp2_with fail
    refine H0.out.mono ?_
    rintro e w' ⟨rfl, rfl⟩
    go_wp2_with fail
    go_ret
    exact ⟨rfl, NetStep.refl_ ⟨v, bm, H.out⟩ (Same.refl _ _)⟩
end Go.Proofs.Ytgmoeejhgjfpgaa
