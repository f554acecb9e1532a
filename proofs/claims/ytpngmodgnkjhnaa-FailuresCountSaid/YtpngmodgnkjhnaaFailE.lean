/- Layer 21: DeleteFunc over a row of ints with Survivors' closure; Survivors of the program and of the reference. -/
import Derived.Test.YtpngmodgnkjhnaaFailC
import Derived.Test.YtpngmodgnkjhnaaFailD
namespace Go.Proofs.Ytpngmodgnkjhnaa
open Go Go.RowKit Go.Maps
set_option maxRecDepth 100000

def fidx {α : Type} (p : α → Bool) (l : List α) : Int := match l.findIdx? p with | some i => (i : Int) | none => -1
theorem fidx_some {α : Type} {p : α → Bool} {l : List α} {k : Nat} {y : α} (h : l[k]? = some y) (hp : p y = true) (hn : ∀ (j : Nat) (z : α), j < k → l[j]? = some z → p z = false) : fidx p l = (k : Int) := by
  have hk : k < l.length := (List.getElem?_eq_some_iff.1 h).1
  have hy : l[k] = y := (List.getElem?_eq_some_iff.1 h).2
  have : l.findIdx? p = some k := by
    rw [List.findIdx?_eq_some_iff_getElem]
    exact ⟨hk, by rw [hy]; exact hp, fun j hj => by rw [hn j _ hj (List.getElem?_eq_getElem (by omega))]; simp⟩
  unfold fidx
  rw [this]
theorem fidx_none {α : Type} {p : α → Bool} {l : List α} (hn : ∀ (j : Nat) (z : α), l[j]? = some z → p z = false) : fidx p l = -1 := by
  have : l.findIdx? p = none := by
    rw [List.findIdx?_eq_none_iff]
    intro x hx
    obtain ⟨j, hj, rfl⟩ := List.getElem_of_mem hx
    exact hn j _ (List.getElem?_eq_getElem hj)
  unfold fidx
  rw [this]
theorem fidx_cases {α : Type} (p : α → Bool) (l : List α) : (fidx p l = -1 ∧ ∀ x ∈ l, p x = false) ∨ ∃ (k : Nat) (y : α), fidx p l = (k : Int) ∧ l[k]? = some y ∧ p y = true ∧ ∀ x ∈ l.take k, p x = false := by
  unfold fidx
  cases h : l.findIdx? p with
  | none =>
    rw [List.findIdx?_eq_none_iff] at h
    exact .inl ⟨rfl, h⟩
  | some i =>
    rw [List.findIdx?_eq_some_iff_getElem] at h
    obtain ⟨hi, h1, h2⟩ := h
    refine .inr ⟨i, l[i], rfl, List.getElem?_eq_getElem hi, h1, fun x hx => ?_⟩
    obtain ⟨j, hj, e⟩ := List.getElem_of_mem hx
    rw [List.length_take] at hj
    rw [List.getElem_take] at e
    have := h2 j (by omega)
    rw [e] at this
    simpa using this
theorem own_set {w : World} {g n c i : Nat} {xs : List Value} (h : w.ownsRow 0 3 1 (.slice (some ⟨g, 0, none⟩) n c) n xs) (u : Value) :
    (w.setCell ⟨g, i, none⟩ u).ownsRow 0 3 1 (.slice (some ⟨g, 0, none⟩) n c) n (xs.set i u) := by
  obtain ⟨hl, hr⟩ := h
  refine ⟨by rw [List.length_set]; exact hl, ?_⟩
  rcases hr with ⟨e, _⟩ | ⟨g', cap, cur, e, hb, hg, hnc, hcm, hcs, ht⟩
  · cases e
  · simp only [Value.slice.injEq, Option.some.injEq, Addr.mk.injEq, and_true, true_and] at e
    obtain ⟨rfl, rfl⟩ := e
    have hB : Blk w g 3 cur := hg
    refine .inr ⟨g, c, cur.setIfInBounds i u, rfl, hb, hB.set_ i u, hnc, hcm, by simpa using hcs, ?_⟩
    rw [← ht, Array.toList_setIfInBounds, List.take_set]
theorem own_at {w : World} {g n c i : Nat} {xs : List Value} {u : Value} (h : w.ownsRow 0 3 1 (.slice (some ⟨g, 0, none⟩) n c) n xs) (hi : xs[i]? = some u) : w.cell? ⟨g, i, none⟩ = some u ∧ w.frozen? ⟨g, i, none⟩ = false ∧ g < w.heap.size := by
  obtain ⟨hl, hr⟩ := h
  rcases hr with ⟨e, _⟩ | ⟨g', cap, cur, e, hb, hg, hnc, hcm, hcs, ht⟩
  · cases e
  · simp only [Value.slice.injEq, Option.some.injEq, Addr.mk.injEq, and_true, true_and] at e
    obtain ⟨rfl, rfl⟩ := e
    have hB : Blk w g 3 cur := hg
    refine ⟨?_, hB.frozen i, hB.lt⟩
    rw [hB.cell]
    rw [← ht, List.getElem?_take] at hi
    split at hi
    · simpa using hi
    · cases hi
theorem own_addr {w : World} {A : Option Addr} {n c : Nat} {xs : List Value} (h : w.ownsRow 0 3 1 (.slice A n c) n xs) (hn : 0 < n) : ∃ g, A = some ⟨g, 0, none⟩ ∧ n ≤ c ∧ c ≤ maxLen ∧ ∀ j u, xs[j]? = some u → w.cell? ⟨g, j, none⟩ = some u := by
  rcases h.2 with ⟨e, _⟩ | ⟨g, cap, cur, e, hb, hg, hnc, hcm, hcs, ht⟩
  · injection e with e1 e2 e3
    omega
  · injection e with e1 e2 e3
    subst e1 e3
    refine ⟨g, rfl, hnc, hcm, fun j u hu => ?_⟩
    rw [cell_of_row w g j cur 3 (0, 0) hg]
    rw [← ht, List.getElem?_take] at hu
    split at hu
    · simpa using hu
    · cases hu
theorem zero3 (w : World) : (zeroValue 3).run Try.prog w = .ok (.int .i64 0) w := by kernel_rfl
theorem MF.row {w0 W W' : World} {p : MPl} {m : Mdl} {f : Fl} {M G g : Nat} {cs : Array Value} (h : MF w0 W p m f M G) (hin : MdlIn w0 p m) (hs : Same (oneB g) W W') (hb : Blk W g 3 cs) (hg : w0.heap.size ≤ g) : MF w0 W' p m f M G := by
  have hsince : Same noB w0 W' := h.mb.since.trans hs (fun b hb e => by
    rw [show b = g from e] at hb
    omega)
  exact ⟨⟨hin.keep hsince, h.mb.box.same hs (fun e => h.mb.box.ne_ hb (by decide) e), hsince⟩, h.fb.same hs (fun e => h.fb.ne_ hb (by decide) e)⟩
def keepL (p : Int → Bool) (l : List Int) : List Int := l.filter (fun n => !p n)
theorem keepL_step {p : Int → Bool} {l : List Int} {j : Nat} {y : Int} (h : l[j]? = some y) : keepL p (l.take (j + 1)) = keepL p (l.take j) ++ (if p y then [] else [y]) := by
  unfold keepL
  rw [List.take_add_one, h, List.filter_append]
  congr 1
  simp only [Option.toList_some, List.filter_cons, List.filter_nil]
  cases p y <;> rfl
theorem keepL_all {p : Int → Bool} {l : List Int} (h : ∀ x ∈ l, p x = false) : keepL p l = l := by
  unfold keepL
  rw [List.filter_eq_self]
  intro x hx
  rw [h x hx]
  rfl
/-- The closure of Survivors. -/
theorem c41 {w0 w : World} {p : MPl} {m : Mdl} {f : Fl} {M G : Nat} (h : MF w0 w p m f M G) (hb : inI64 f.by_) (n : Int) :
    Calls Try.prog 41 #[.int .i64 n, .pointer (some ⟨M, 0, none⟩), .pointer (some ⟨G, 0, none⟩)] w fun e w' => e = .returned (.bool (hitB m f n)) ∧ Same noB w w' := by
  obtain ⟨c0, c1, c2, c3, c4, c5, c6, c7, c8, c9, c10⟩ := h.mb.all
  obtain ⟨f0, f1⟩ := h.all
  have HZ := Lib.hid (hits_any h.mb.inn f hb n)
  clear h hb
  obtain ⟨fb, fn⟩ := f
  simp only at *
  go_enter Try.func41, Try.ntmps41
  go_wp2_with fail
  have hZ := HZ.out
  unfold mdlVal Fl.val at hZ
  simp only at hZ
  (with_reducible refine Calls.mono hZ ?_)
  clear hZ HZ
  rintro e w' ⟨rfl, hs⟩
  have HS := Lib.hid hs
  clear hs
  go_wp2_with fail
  go_ret
  exact ⟨rfl, HS.out⟩
set_option maxHeartbeats 2000000 in
theorem idxf41 {w0 w : World} {p : MPl} {m : Mdl} {f : Fl} {M G : Nat} (h : MF w0 w p m f M G) (hb : inI64 f.by_) {bad : Nat → Prop} {A : Option Addr} {c : Nat} {l : List Int} (hr : Rd w bad 1 (.slice A l.length c) l.length (icells l)) (hlen : l.length ≤ 1000000) :
    Calls Try.prog 54 #[.slice A l.length c, .func (.func 41) #[] #[.pointer (some ⟨M, 0, none⟩), .pointer (some ⟨G, 0, none⟩)]] w fun e w' => e = .returned (.int .i64 (fidx (hitB m f) l)) ∧ Same noB w w' := by
  have HR := Lib.hid hr
  have HM := Lib.hid h
  have Hb := Lib.hid hb
  clear h hr hb
  go_enter Try.func54, Try.ntmps54
  go_wp2_with fail
  go_loopw [8] (fun i wr => ∃ k : Nat, k ≤ l.length ∧ i = .int .i64 k ∧ Hid ((∀ (j : Nat) z, j < k → l[j]? = some z → (hitB m f) z = false) ∧ Same noB w wr)) (fun i _ => l.length - (intOf i).toNat)
  case atStart => exact ⟨0, Nat.zero_le _, rfl, ⟨fun j z hj => by omega, Same.refl _ _⟩⟩
  case round =>
    obtain ⟨k, hk, rfl, HS⟩ := hrel
    by_cases hlt : k < l.length
    · obtain ⟨b, o, rfl, r⟩ := HR.out.at_ (by omega)
      obtain ⟨y, hy⟩ : ∃ y, l[k]? = some y := ⟨_, List.getElem?_eq_getElem hlt⟩
      have d0 := HS.out.2.cell (r.cell k _ (icells_at hy)) (fun x => x)
      have hC := c41 (HM.out.keep HS.out.2) Hb.out y
      cases hp : (hitB m f) y
      · rw [hp] at hC
        have HC := Lib.hid hC
        have HP := Lib.hid hp
        have HY := Lib.hid hy
        clear hC hp hy r
        go_wp2_with fail
        have hZ := HC.out
        (with_reducible refine Calls.mono hZ ?_)
        clear hZ HC
        rintro e w3 ⟨rfl, hs⟩
        have HS3 : Hid (Same noB w w3) := HS.out.2.trans' hs
        clear hs
        go_wp2_with fail
        go_roundw
        case rel => exact ⟨k + 1, by omega, by go_num, ⟨fun j z hj hz => by
          by_cases e : j = k
          · subst e
            have := hz.symm.trans HY.out
            injection this with this
            rw [this]
            exact HP.out
          · exact HS.out.1 j z (by omega) hz, HS3.out⟩⟩
        case measure => simp [intOf]; omega
      · rw [hp] at hC
        have HC := Lib.hid hC
        have HF := Lib.hid (fidx_some hy hp HS.out.1)
        clear hC hp hy r
        go_wp2_with fail
        have hZ := HC.out
        (with_reducible refine Calls.mono hZ ?_)
        clear hZ HC
        rintro e w3 ⟨rfl, hs⟩
        have HS3 : Hid (Same noB w w3) := HS.out.2.trans' hs
        clear hs
        go_wp2_with fail
        go_ret
        exact ⟨by rw [HF.out] <;> rfl, HS3.out⟩
    · obtain rfl : k = l.length := by omega
      have HF := Lib.hid (fidx_none (p := (hitB m f)) (l := l) (fun j z hz => HS.out.1 j z (List.getElem?_eq_some_iff.1 hz).1 hz))
      go_wp2_with fail
      go_ret
      exact ⟨by rw [HF.out] <;> rfl, HS.out.2⟩

/-- What DeleteFunc's loop keeps: the row at g, its first i what is left of the first j. -/
structure DlI (w0 w W : World) (p : MPl) (m : Mdl) (f : Fl) (M G g c : Nat) (l xs : List Int) (i j : Nat) : Prop where
  len : xs.length = l.length
  head : xs.take i = keepL (hitB m f) (l.take j)
  tail : ∀ t, j ≤ t → xs[t]? = l[t]?
  own : W.ownsRow 0 3 1 (.slice (some ⟨g, 0, none⟩) l.length c) l.length (icells xs)
  mf : MF w0 W p m f M G
  same : Same (oneB g) w W
theorem DlI.keep {w0 w W W' : World} {p : MPl} {m : Mdl} {f : Fl} {M G g c : Nat} {l xs : List Int} {i j : Nat} (h : DlI w0 w W p m f M G g c l xs i j) (hs : Same noB W W') : DlI w0 w W' p m f M G g c l xs i j :=
  ⟨h.len, h.head, h.tail, own_same h.own hs (fun _ _ x => x), h.mf.keep hs, h.same.trans' hs.of_no⟩
theorem DlI.drop {w0 w W : World} {p : MPl} {m : Mdl} {f : Fl} {M G g c : Nat} {l xs : List Int} {i j : Nat} {y : Int} (h : DlI w0 w W p m f M G g c l xs i j) (hy : l[j]? = some y) (hp : hitB m f y = true) : DlI w0 w W p m f M G g c l xs i (j + 1) :=
  ⟨h.len, by rw [keepL_step hy, hp, if_pos rfl, List.append_nil]; exact h.head, fun t ht => h.tail t (by omega), h.own, h.mf, h.same⟩
theorem DlI.set_ {w0 w W : World} {p : MPl} {m : Mdl} {f : Fl} {M G g c : Nat} {l xs : List Int} {i j : Nat} {y : Int} (h : DlI w0 w W p m f M G g c l xs i j) (hin : MdlIn w0 p m) (hg : w0.heap.size ≤ g) (hij : i < j) (hjl : j < l.length) (hy : l[j]? = some y) (hp : hitB m f y = false) :
    DlI w0 w (W.setCell ⟨g, i, none⟩ (.int .i64 y)) p m f M G g c l (xs.set i y) (i + 1) (j + 1) := by
  have hl := h.len
  have hs : Same (oneB g) W (W.setCell ⟨g, i, none⟩ (.int .i64 y)) := (Same.refl _ _).set1 _ _
  obtain ⟨cs, hc⟩ := own_blk h.own rfl
  refine ⟨by rw [List.length_set]; exact hl, ?_, fun t ht => ?_, ?_, h.mf.row hin hs hc hg, h.same.trans' hs⟩
  · rw [keepL_step hy, hp, if_neg (by decide), ← h.head, List.take_add_one, List.getElem?_set_self (by omega), List.take_set_of_le (Nat.le_refl i)]
    rfl
  · rw [List.getElem?_set_ne (by omega)]
    exact h.tail t (by omega)
  · have h1 := own_set (i := i) h.own (.int .i64 y)
    have h2 : (icells xs).set i (.int .i64 y) = icells (xs.set i y) := by unfold icells; rw [List.map_set]
    rw [h2] at h1
    exact h1
def DlPost (m : Mdl) (f : Fl) (w : World) (v : Value) (l : List Int) (e : Ending) (w' : World) : Prop :=
  ∃ v', e = .returned v' ∧ w'.ownsRow 0 3 1 v' (keepL (hitB m f) l).length (icells (keepL (hitB m f) l)) ∧ v'.ownBlock = v.ownBlock ∧ Same (rowB v.ownBlock) w w'
set_option maxHeartbeats 4000000 in
theorem delf_any {w0 w : World} {p : MPl} {m : Mdl} {f : Fl} {M G : Nat} (hin : MdlIn w0 p m) (h : MF w0 w p m f M G) (hb : inI64 f.by_) {A : Option Addr} {c : Nat} {l : List Int} (ho : w.ownsRow 0 3 1 (.slice A l.length c) l.length (icells l)) (hlen : l.length ≤ 1000000)
    (hnew : ∀ g, (Value.slice A l.length c).ownBlock = some g → w0.heap.size ≤ g) :
    Calls Try.prog 39 #[.slice A l.length c, .func (.func 41) #[] #[.pointer (some ⟨M, 0, none⟩), .pointer (some ⟨G, 0, none⟩)]] w (DlPost m f w (.slice A l.length c) l) := by
  have HI := Lib.hid (idxf41 h hb (Rd.of_own (bad := noB) ho (fun _ _ x => x)) hlen)
  have HO := Lib.hid ho
  have HM := Lib.hid h
  have Hb := Lib.hid hb
  have HIN := Lib.hid hin
  rcases fidx_cases (hitB m f) l with ⟨hf, hall⟩ | ⟨k, y, hf, hk, hy, hbef⟩
  · have HF := Lib.hid hf
    have HK : Hid (keepL (hitB m f) l = l) := keepL_all hall
    clear h hb ho hin hf hall hnew
    go_enter Try.func39, Try.ntmps39
    go_wp2_with fail
    have hZ := HI.out
    rw [HF.out] at hZ
    (with_reducible refine Calls.mono hZ ?_)
    clear hZ HI
    rintro e w1 ⟨rfl, hs⟩
    have HR : Hid (w1.ownsRow 0 3 1 (.slice A l.length c) l.length (icells l) ∧ Same noB w w1) := ⟨own_same HO.out hs (fun _ _ x => x), hs⟩
    clear hs
    go_wp2_with fail
    go_ret
    exact ⟨_, rfl, by rw [HK.out]; exact HR.out.1, rfl, HR.out.2.of_no⟩
  · have hkl := (List.getElem?_eq_some_iff.1 hk).1
    obtain ⟨g, rfl, hnc, hcm, _⟩ := own_addr ho (by omega)
    unfold maxLen at hcm
    have HG : Hid (w0.heap.size ≤ g) := hnew g rfl
    have HF := Lib.hid hf
    have HD : Hid (DlI w0 w w p m f M G g c l l k (k + 1)) := by
      refine ⟨rfl, ?_, fun t _ => rfl, ho, h, Same.refl _ _⟩
      rw [keepL_step hk, hy, if_pos rfl, List.append_nil]
      exact (keepL_all hbef).symm
    clear h hb ho hin hf hbef hy hk hnew
    go_enter Try.func39, Try.ntmps39
    go_wp2_with fail
    have hZ := HI.out
    rw [HF.out] at hZ
    (with_reducible refine Calls.mono hZ ?_)
    clear hZ HI
    rintro e w1 ⟨rfl, hs⟩
    have HD1 := Lib.hid (HD.out.keep hs)
    clear hs HD
    go_wp2_with fail
    go_loopg [5, 6] (l.length - (k + 1)) (fun gk a b wr => ∃ (i j : Nat) (xs : List Int), i < j ∧ j ≤ l.length ∧ Hid (gk + j = l.length) ∧ a = .int .i64 i ∧ b = .int .i64 j ∧ Hid (DlI w0 w wr p m f M G g c l xs i j))
    case atStart => exact ⟨k, k + 1, l, by omega, by omega, by show _ = _; omega, rfl, by go_num, HD1.out⟩
    case round =>
      obtain ⟨i, j, xs, hij, hjl, HK, rfl, rfl, HX⟩ := hrel
      clear HD1
      by_cases hlt : j < l.length
      · obtain ⟨y, hy⟩ : ∃ y, l[j]? = some y := ⟨_, List.getElem?_eq_getElem hlt⟩
        have p0 := (own_at HX.out.own (icells_at ((HX.out.tail j (Nat.le_refl _)).trans hy))).1
        have HY := Lib.hid hy
        clear hy
        go_wp2_with fail
        have hZ := c41 HX.out.mf Hb.out y
        (with_reducible refine Calls.mono hZ ?_)
        clear hZ
        rintro e w3 ⟨rfl, hs⟩
        have HX3 := Lib.hid (HX.out.keep hs)
        clear hs HX p0
        cases hp : hitB m f y
        · have hset := HX3.out.set_ HIN.out HG.out hij hlt HY.out hp
          obtain ⟨u, hu⟩ : ∃ u, xs[i]? = some u := ⟨_, List.getElem?_eq_getElem (by rw [HX3.out.len]; omega)⟩
          obtain ⟨f1, f2, f3⟩ := own_at HX3.out.own (icells_at hu)
          have HSET := Lib.hid hset
          clear hset hu hp
          go_wp2_with fail
          go_roundg (gk - 1)
          case measure => have h1 := HK.out; omega
          case rel => exact ⟨i + 1, j + 1, xs.set i y, by omega, by omega, by show _ = _; have h1 := HK.out; omega, by go_num, by go_num, HSET.out⟩
        · have HDR := Lib.hid (HX3.out.drop HY.out hp)
          clear hp
          go_wp2_with fail
          go_roundg (gk - 1)
          case measure => have h1 := HK.out; omega
          case rel => exact ⟨i, j + 1, xs, by omega, by omega, by show _ = _; have h1 := HK.out; omega, rfl, by go_num, HDR.out⟩
      · obtain rfl : j = l.length := by omega
        have hpre := own_prefix HX.out.own (i := i) (by omega)
        obtain ⟨w2, hcl, hown2, hgrow2⟩ := run_clear_behind slI zero3 rfl (by intro u hu; simp [Value.cells] at hu; subst hu; rfl) hpre i (l.length - i) (c - i) (by omega) (by omega) 0
        have hhd := HX.out.head
        rw [List.take_length] at hhd
        have hil : i = (keepL (hitB m f) l).length := by rw [← hhd, List.length_take, HX.out.len]; omega
        have HF2 : Hid (w2.ownsRow 0 3 1 (.slice (some ⟨g, 0, none⟩) i c) (keepL (hitB m f) l).length (icells (keepL (hitB m f) l)) ∧ Same (rowB (some g)) w w2) := by
          refine ⟨?_, (HX.out.same.mono (fun b _ e => by rw [show b = g from e]; rfl)).trans' (Same.of_grown hgrow2)⟩
          have h1 : (icells xs).take (i * 1) = icells (keepL (hitB m f) l) := by rw [← hhd]; unfold icells; rw [Nat.mul_one, List.map_take]
          rw [← h1, ← hil]
          exact hown2
        have hic : ¬ c = i := by omega
        have hic2 : (i : Int) ≤ (c : Int) := by omega
        have hic3 : (i : Int) ≤ (l.length : Int) := by omega
        have hi0 : (0 : Int) ≤ (i : Int) := by omega
        clear hpre hown2 hgrow2 hhd hil
        go_wp2_with fail
        go_ret
        exact ⟨_, rfl, HF2.out.1, rfl, HF2.out.2⟩

/-! ### Survivors -/
def survs (m : Mdl) (P : List (List Un)) (f : Fl) (item : Int) : List Int := keepL (hitB m f) (machs P item 0)
set_option maxHeartbeats 4000000 in
theorem surv_any {w : World} {p : MPl} {m : Mdl} {s : Sl} {P : List (List Un)} (h : MdlIn w p m) (hP : PlIn w s P) (f : Fl) (hb : inI64 f.by_) (item : Int) (hlen : (unitsOf P item).length ≤ 1000000) :
    Calls Try.prog 20 #[mdlVal p m, plVal s, f.val, .int .i64 item] w fun e w' => ∃ v', e = .returned v' ∧ AppAt w w' v' (survs m P f item).length 3 1 (icells (survs m P f item)) := by
  have hmb := MB.start h
  have hz : (w.alloc (.cells (mdlCells p m) 29)).heap.size = w.heap.size + 1 := by simp
  have hz2 : ((w.alloc (.cells (mdlCells p m) 29)).alloc (.cells #[.slice s.addr s.len s.cap] 41)).heap.size = w.heap.size + 1 + 1 := by simp
  have hpb := Blk.new (w.alloc (.cells (mdlCells p m) 29)) 41 #[.slice s.addr s.len s.cap]
  have hfb := Blk.new ((w.alloc (.cells (mdlCells p m) 29)).alloc (.cells #[.slice s.addr s.len s.cap] 41)) 31 #[.int .i64 f.by_, .int .i64 f.num]
  rw [hz] at hpb
  rw [hz2] at hfb
  have HMF : Hid (MF w (((w.alloc (.cells (mdlCells p m) 29)).alloc (.cells #[.slice s.addr s.len s.cap] 41)).alloc (.cells #[.int .i64 f.by_, .int .i64 f.num] 31)) p m f w.heap.size (w.heap.size + 1 + 1) ∧
    Blk (((w.alloc (.cells (mdlCells p m) 29)).alloc (.cells #[.slice s.addr s.len s.cap] 41)).alloc (.cells #[.int .i64 f.by_, .int .i64 f.num] 31)) (w.heap.size + 1) 41 #[.slice s.addr s.len s.cap]) :=
    ⟨⟨hmb.keep (((Same.refl _ _).alloc _).alloc _), hfb⟩, hpb.alloc _⟩
  have HIN := Lib.hid h
  have HPL := Lib.hid hP
  have Hb := Lib.hid hb
  have HL := Lib.hid hlen
  have HQ : Hid (survs m P f item = keepL (hitB m f) (machs P item 0)) := rfl
  have hml : (machs P item 0).length ≤ 1000000 := by unfold machs; rw [List.length_map]; exact Nat.le_trans (List.length_filter_le _ _) hlen
  generalize survs m P f item = q at *
  clear h hP hb hlen hmb hpb hfb hz hz2
  obtain ⟨fb, fn⟩ := f
  unfold mdlVal plVal Fl.val
  unfold mdlCells at HMF
  simp only at *
  go_enter Try.func20, Try.ntmps20
  go_wp2_with fail
  refine calls_abs (fun W => Hid (MF w W p m ⟨fb, fn⟩ w.heap.size (w.heap.size + 1 + 1) ∧ Blk W (w.heap.size + 1) 41 #[.slice s.addr s.len s.cap])) HMF ?_
  clear HMF
  generalize w.heap.size = M at *
  generalize hG1 : M + 1 = G1 at *
  clear hG1
  generalize hG : G1 + 1 = G at *
  clear hG
  intro W HM
  have hZ := pmachines_any (HPL.out.keep HM.out.1.mb.since) item 0 HL.out
  unfold plVal at hZ
  (with_reducible refine Calls.mono hZ ?_)
  clear hZ
  rintro e W3 ⟨v3, rfl, ha⟩
  obtain ⟨A3, n3, rfl⟩ := own_form ha.own
  have HA := Lib.hid ha
  have HM3 := Lib.hid (HM.out.1.keep ha.since)
  clear ha
  go_wp2_with fail
  have hZ := delf_any HIN.out HM3.out Hb.out HA.out.own hml (fun g hg => Nat.le_trans HM.out.1.mb.since.size (HA.out.new g hg))
  (with_reducible refine Calls.mono hZ ?_)
  clear hZ
  rintro e W4 ⟨v4, rfl, hown4, hblk4, hs4⟩
  have HF : Hid (AppAt w W4 v4 q.length 3 1 (icells q)) := by
    show AppAt _ _ _ _ _ _ _
    rw [HQ.out]
    refine ⟨hown4, fun g hg => Nat.le_trans HM.out.1.mb.since.size (HA.out.new g (hblk4.symm.trans hg)), HM3.out.mb.since.trans hs4 (fun b hb e => ?_)⟩
    have h1 := HA.out.new b e.symm
    have h2 := HM.out.1.mb.since.size
    omega
  clear hown4 hblk4 hs4
  go_wp2_with fail
  go_ret
  exact ⟨_, rfl, HF.out⟩
set_option maxHeartbeats 4000000 in
theorem rsurv_any {w : World} {p : MPl} {m : Mdl} {s : Sl} {P : List (List Un)} (h : MdlIn w p m) (hP : PlIn w s P) (f : Fl) (hb : inI64 f.by_) (item : Int) (hlen : (unitsOf P item).length ≤ 1000000) :
    Calls Try.prog 28 #[mdlVal p m, plVal s, f.val, .int .i64 item] w fun e w' => ∃ v', e = .returned v' ∧ AppAt w w' v' (survs m P f item).length 3 1 (icells (survs m P f item)) := by
  have hmb := MB.start h
  have hz : (w.alloc (.cells (mdlCells p m) 29)).heap.size = w.heap.size + 1 := by simp
  have hz2 : ((w.alloc (.cells (mdlCells p m) 29)).alloc (.cells #[.slice s.addr s.len s.cap] 41)).heap.size = w.heap.size + 1 + 1 := by simp
  have hpb := Blk.new (w.alloc (.cells (mdlCells p m) 29)) 41 #[.slice s.addr s.len s.cap]
  have hfb := Blk.new ((w.alloc (.cells (mdlCells p m) 29)).alloc (.cells #[.slice s.addr s.len s.cap] 41)) 31 #[.int .i64 f.by_, .int .i64 f.num]
  rw [hz] at hpb
  rw [hz2] at hfb
  have HMF : Hid (MF w (((w.alloc (.cells (mdlCells p m) 29)).alloc (.cells #[.slice s.addr s.len s.cap] 41)).alloc (.cells #[.int .i64 f.by_, .int .i64 f.num] 31)) p m f w.heap.size (w.heap.size + 1 + 1) ∧
    Blk (((w.alloc (.cells (mdlCells p m) 29)).alloc (.cells #[.slice s.addr s.len s.cap] 41)).alloc (.cells #[.int .i64 f.by_, .int .i64 f.num] 31)) (w.heap.size + 1) 41 #[.slice s.addr s.len s.cap]) :=
    ⟨⟨hmb.keep (((Same.refl _ _).alloc _).alloc _), hfb⟩, hpb.alloc _⟩
  have HIN := Lib.hid h
  have HPL := Lib.hid hP
  have Hb := Lib.hid hb
  have HL := Lib.hid hlen
  have HQ : Hid (survs m P f item = keepL (hitB m f) (machs P item 0)) := rfl
  have hml : (machs P item 0).length ≤ 1000000 := by unfold machs; rw [List.length_map]; exact Nat.le_trans (List.length_filter_le _ _) hlen
  generalize survs m P f item = q at *
  clear h hP hb hlen hmb hpb hfb hz hz2
  obtain ⟨fb, fn⟩ := f
  unfold mdlVal plVal Fl.val
  unfold mdlCells at HMF
  simp only at *
  go_enter Try.func28, Try.ntmps28
  go_wp2_with fail
  refine calls_abs (fun W => Hid (MF w W p m ⟨fb, fn⟩ w.heap.size (w.heap.size + 1 + 1) ∧ Blk W (w.heap.size + 1) 41 #[.slice s.addr s.len s.cap])) HMF ?_
  clear HMF
  generalize w.heap.size = M at *
  generalize hG1 : M + 1 = G1 at *
  clear hG1
  generalize hG : G1 + 1 = G at *
  clear hG
  intro W HM
  have hZ := rmachs_any (HPL.out.keep HM.out.1.mb.since) item 0 HL.out
  unfold plVal at hZ
  (with_reducible refine Calls.mono hZ ?_)
  clear hZ
  rintro e W3 ⟨v3, rfl, ha⟩
  obtain ⟨A3, n3, rfl, hn31, hn32, hr3⟩ := (ha.rd (bad := noB) (fun b e => e.elim)).form
  have HR := Lib.hid hr3
  have HM3 := Lib.hid (HM.out.1.keep ha.since)
  clear ha hr3 HM
  generalize machs P item 0 = ms at *
  go_wp2_with fail
  refine wp_abs (fun W => Hid (Same noB W3 W ∧ AppAt W3 W (.slice (some ⟨W3.heap.size, 0, none⟩) 0 0) 0 3 1 [])) ⟨(Same.refl _ _).alloc _, AppAt.lit W3 3 1⟩ ?_
  generalize W3.heap.size = g0 at *
  intro W HX
  go_loopg [10, 11] (ms.length) (fun gk o i wr => ∃ (k : Nat) (A2 : Option Addr) (c2 n : Nat), k ≤ ms.length ∧ Hid (gk + k = ms.length) ∧ i = .int .i64 k ∧ o = .slice A2 n c2 ∧ Hid (n = (keepL (hitB m ⟨fb, fn⟩) (ms.take k)).length) ∧ Hid (AppAt W3 wr (.slice A2 n c2) n 3 1 (icells (keepL (hitB m ⟨fb, fn⟩) (ms.take k)))))
  case atStart => exact ⟨0, _, _, 0, Nat.zero_le _, rfl, rfl, rfl, rfl, HX.out.2⟩
  case round =>
    obtain ⟨k, A2, c2, n, hk, HK, rfl, rfl, HN, HA⟩ := hrel
    clear HX
    have hn : n ≤ 1000000 := by
      rw [HN.out]
      unfold keepL
      exact Nat.le_trans (List.length_filter_le _ _) (Nat.le_trans (List.length_take_le _ _) (by omega))
    by_cases hlt : k < ms.length
    · obtain ⟨b, o, rfl, r⟩ := HR.out.at_ (by omega)
      obtain ⟨y, hy⟩ : ∃ y, ms[k]? = some y := ⟨_, List.getElem?_eq_getElem hlt⟩
      have p0 : wr.drew.cell? ⟨b, o + k, none⟩ = some (.int .i64 y) := HA.out.since.cell (r.cell k _ (icells_at hy)) (fun x => x)
      have HST := Lib.hid (keepL_step (p := hitB m ⟨fb, fn⟩) hy)
      have HMd := Lib.hid ((HM3.out.keep HA.out.since).keep ((Same.refl noB wr).drew))
      have HAd := Lib.hid (HA.out.keep ((Same.refl noB wr).drew))
      obtain ⟨c0, c1, c2', c3, c4, c5, c6, c7, c8, c9, c10⟩ := HMd.out.mb.all
      obtain ⟨f0, f1⟩ := HMd.out.all
      obtain ⟨hh, hhe⟩ : ∃ hh, hitB m ⟨fb, fn⟩ y = hh := ⟨_, rfl⟩
      have HH := Lib.hid hhe
      clear r hy hhe HA
      go_wp2_with fail
      go_region_held3 (fun w' => w'.cell? ⟨M, 0, none⟩ = some (.slice p.s.addr p.s.len p.s.cap) ∧ w'.cell? ⟨M, 1, none⟩ = some (.slice p.f.addr p.f.len p.f.cap) ∧ w'.cell? ⟨M, 2, none⟩ = some (.slice p.r.addr p.r.len p.r.cap) ∧ w'.cell? ⟨M, 3, none⟩ = some (.slice p.mc.addr p.mc.len p.mc.cap) ∧ w'.cell? ⟨M, 4, none⟩ = some (.slice p.l.addr p.l.len p.l.cap) ∧ w'.cell? ⟨M, 5, none⟩ = some (.slice p.i.addr p.i.len p.i.cap) ∧ w'.cell? ⟨M, 6, none⟩ = some (.int .i64 m.dark) ∧ w'.cell? ⟨M, 7, none⟩ = some (.int .i64 m.slots) ∧ w'.cell? ⟨M, 8, none⟩ = some (.int .i64 m.reserve) ∧ w'.cell? ⟨M, 9, none⟩ = some (.int .i64 m.failures) ∧ w'.cell? ⟨M, 10, none⟩ = some (.slice p.ru.addr p.ru.len p.ru.cap) ∧ w'.cell? ⟨G, 0, none⟩ = some (.int .i64 fb) ∧ w'.cell? ⟨G, 1, none⟩ = some (.int .i64 fn) ∧ w'.cell? ⟨b, o + k, none⟩ = some (.int .i64 y))
        (first | (refine ⟨?_, ?_, ?_, ?_, ?_, ?_, ?_, ?_, ?_, ?_, ?_, ?_, ?_, ?_⟩ <;> with_reducible assumption) | go_keep)
        ((go_at_call 25; have hZ := rhits_any HMd.out.mb.inn ⟨fb, fn⟩ Hb.out y; rw [HH.out] at hZ; unfold mdlVal Fl.val at hZ; simp only at hZ; (with_reducible refine Calls.mono hZ ?_); clear hZ; rintro e W5 ⟨rfl, hs⟩; have HA5 := Lib.hid (HAd.out.keep hs); have HM5 := Lib.hid (HMd.out.keep hs); have p0 := hs.cell p0 (fun x => x); obtain ⟨c0, c1, c2', c3, c4, c5, c6, c7, c8, c9, c10⟩ := HM5.out.mb.all; obtain ⟨f0, f1⟩ := HM5.out.all; clear hs))
      clear c0 c1 c2' c3 c4 c5 c6 c7 c8 c9 c10 f0 f1
      cases hh
      · have HF2 : Hid (keepL (hitB m ⟨fb, fn⟩) (ms.take (k + 1)) = keepL (hitB m ⟨fb, fn⟩) (ms.take k) ++ [y]) := by
          show _ = _
          rw [HST.out, HH.out]
          rfl
        go_wp2_with (at_builtin; refine wpL_app slI rfl _ _ rfl rfl ((HA5.out.keep ((Same.refl _ _).alloc _)).own) rfl (bad := noB) (Rd.of_blk (Blk.new W5 3 [Value.int .i64 y].toArray) (fun x => x) (by rfl) (by omega) (by simp [maxLen])) (int_one y) (by omega) (Nat.zero_le _) ?_; intro A6 c6' W6 hown6 hgrow6 hat6 _; have HA6 := Lib.hid (AppAt.next (HA5.out.keep ((Same.refl _ _).alloc (.cells #[.int .i64 y] 3))) hgrow6 hat6 hown6); clear hown6 hgrow6 hat6)
        go_roundg (gk - 1)
        case measure => have h1 := HK.out; omega
        case rel => exact ⟨k + 1, A6, c6', n + 1, by omega, by show _ = _; have h1 := HK.out; omega, by go_num, rfl, by show _ = _; rw [HF2.out, List.length_append, HN.out]; rfl, by show AppAt _ _ _ _ _ _ _; rw [HF2.out, icells_snoc]; exact HA6.out⟩
      · have HF2 : Hid (keepL (hitB m ⟨fb, fn⟩) (ms.take (k + 1)) = keepL (hitB m ⟨fb, fn⟩) (ms.take k)) := by
          show _ = _
          rw [HST.out, HH.out, if_pos rfl, List.append_nil]
        go_wp2_with fail
        go_roundg (gk - 1)
        case measure => have h1 := HK.out; omega
        case rel => exact ⟨k + 1, A2, c2, n, by omega, by show _ = _; have h1 := HK.out; omega, by go_num, rfl, by show _ = _; rw [HF2.out]; exact HN.out, by show AppAt _ _ _ _ _ _ _; rw [HF2.out]; exact HA5.out⟩
    · obtain rfl : k = ms.length := by omega
      have HA4 : Hid (AppAt w wr (.slice A2 n c2) q.length 3 1 (icells q)) := by
        have h1 := HA.out
        have h2 := HN.out
        rw [List.take_length] at h1 h2
        show AppAt _ _ _ _ _ _ _
        rw [HQ.out, ← h2]
        exact h1.before HM3.out.mb.since
      go_wp2_with fail
      go_ret
      exact ⟨_, rfl, HA4.out⟩
end Go.Proofs.Ytpngmodgnkjhnaa
