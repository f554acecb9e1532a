/- Layer 10: a map that counts by pairs of nodes; what the paths use, step by step. -/
import Derived.Test.YtpalacfgpcpppaaPatA
import Derived.Test.YtpalacfgpcpppaaFloL
import Derived.Test.YtpalacfgpcpppaaFloF
import Derived.DeepKeys4
namespace Go.Proofs.Ytpalacfgpcpppaa
open Go Go.RowKit Go.Maps
set_option maxRecDepth 100000

theorem laidOutK : laidOutB Try.prog = true := by kernel_rfl
theorem law51 : Keyed Try.prog 51 := Keyed.of_law (deep_law_laid laidOutK (m := 2) (by omega) (of_decide_eq_true (by kernel_rfl)) (by kernel_rfl) (by kernel_rfl))
def pairV (q : Int × Int) : Value := .agg #[.int .i64 q.1, .int .i64 q.2]
theorem keyLits3 (d : Nat) {x : Int} (h : inI64 x) : Try.prog.keyLits (d + 1) 3 [.int .i64 x] = some [.int .i64 x] := by
  have hw := h.wf
  simp [Program.keyLits, Try.underlying3, hw]
theorem cells51 : Try.prog.cellsOf 51 = 2 := by kernel_rfl
theorem cells3 : Try.prog.cellsOf 3 = 1 := by kernel_rfl
theorem keyLits_array {P : Program} {t e : TypeId} {n : Nat} (hu : P.underlying t = some (.array n e)) (d : Nat) (cs : List Value) : P.keyLits (d + 1) t cs =
    if cs.length = P.cellsOf t then ((List.range n).mapM fun i => P.keyLits d e ((cs.drop (i * P.cellsOf e)).take (P.cellsOf e))).map List.flatten else none := by
  simp only [Program.keyLits, hu]
theorem keyLits51 (d : Nat) {q : Int × Int} (h1 : inI64 q.1) (h2 : inI64 q.2) : Try.prog.keyLits (d + 1 + 1) 51 (pairV q).cells.toList = some [.int .i64 q.1, .int .i64 q.2] := by
  rw [keyLits_array Try.underlying51]
  simp only [pairV, Value.cells]
  refine (if_pos (by rw [cells51]; rfl)).trans ?_
  rw [show List.range 2 = [0, 1] from rfl]
  simp only [cells3, List.mapM_cons, List.mapM_nil, Nat.zero_mul, Nat.one_mul, List.drop_zero, List.drop_succ_cons, List.take_succ_cons, List.take_zero, keyLits3 _ h1, keyLits3 _ h2]
  rfl
theorem pair_key (q : Int × Int) (h : inI64 q.1 ∧ inI64 q.2) : ∃ l, keyOf Try.prog 51 (pairV q) = some l := by
  have hk : Try.prog.keyType 51 = true := by kernel_rfl
  have hf : (pairV q).formed Try.prog 51 = true := by simp [pairV, Value.formed, Try.underlying51, cells51]
  obtain ⟨z, hz⟩ : ∃ z, Try.prog.types.size = z + 1 := ⟨Try.prog.types.size - 1, by have : 0 < Try.prog.types.size := of_decide_eq_true (by kernel_rfl); omega⟩
  have hl := keyLits51 z h.1 h.2
  rw [← hz] at hl
  unfold keyOf
  rw [Try.underlying51]
  dsimp only
  rw [hk, hf, hl]
  exact ⟨_, rfl⟩
/-- A pair of nodes as a key. -/
def eP : KeyEnc Try.prog 51 (Int × Int) where
  enc := pairV
  ok := fun q => inI64 q.1 ∧ inI64 q.2
  law := law51
  key := pair_key
  inj := fun p q h => by
    obtain ⟨a, b⟩ := p
    obtain ⟨a', b'⟩ := q
    simp [pairV] at h
    obtain ⟨rfl, rfl⟩ := h
    rfl
theorem zero2 (w : World) : (zeroValue 2).run Try.prog w = .ok (.int .i64 0) w := by kernel_rfl
/-- Block b is a map that counts c. -/
def CntIs (w : World) (b : Nat) (c : Int → Int → Int) : Prop := ∃ n f, MapF eP w b n f ∧ ∀ u v, (f (u, v)).getD (.int .i64 0) = .int .i64 (c u v)
theorem CntIs.made (w : World) : CntIs (w.alloc (.map #[] 0)) w.heap.size (fun _ _ => 0) := ⟨0, _, MapF.made eP w, fun _ _ => rfl⟩
theorem CntIs.same {w w' : World} {b : Nat} {c : Int → Int → Int} {S : Nat → Prop} (h : CntIs w b c) (hs : Same S w w') (hb : ¬ S b) : CntIs w' b c := by
  obtain ⟨n, f, h1, h2⟩ := h
  exact ⟨n, f, h1.same hs hb, h2⟩
theorem CntIs.lt {w : World} {b : Nat} {c : Int → Int → Int} (h : CntIs w b c) : b < w.heap.size := by
  obtain ⟨n, f, ⟨es, cl, hb, _⟩, _⟩ := h
  exact lt_of_heap hb
theorem CntIs.lookup {w : World} {b : Nat} {c : Int → Int → Int} (h : CntIs w b c) {u v : Int} (hu : inI64 u) (hv : inI64 v) : (Instr.lookup 48 (.map (some b)) (.agg #[.int .i64 u, .int .i64 v]) false).run Try.prog w = .ok (.int .i64 (c u v)) w := by
  obtain ⟨n, f, h1, h2⟩ := h
  have := h1.lookup Try.underlying48 (zero2 w) (k := (u, v)) ⟨hu, hv⟩ false
  rw [← h2 u v]
  exact this
def bump2 (c : Int → Int → Int) (u v z : Int) : Int → Int → Int := fun x y => c x y + if u = x ∧ v = y then z else 0
theorem CntIs.incr {w : World} {b : Nat} {c : Int → Int → Int} (h : CntIs w b c) {u v : Int} (hu : inI64 u) (hv : inI64 v) (z : Int) :
    ∃ (s : Nat) (w1 w2 : World), (Instr.mapEntry 48 (.map (some b)) (.agg #[.int .i64 u, .int .i64 v])).run Try.prog w = .ok (.tuple #[.int .i64 (c u v), .int .i64 s]) w1 ∧ (Instr.lookup 48 (.map (some b)) (.agg #[.int .i64 u, .int .i64 v]) false).run Try.prog w1 = .ok (.int .i64 (c u v)) w1 ∧
      (Instr.entryStore 48 (.map (some b)) (.int .i64 s) (.int .i64 (c u v + z))).run Try.prog w1 = .ok () w2 ∧ CntIs w2 b (bump2 c u v z) ∧ Same (oneB b) w w2 ∧ Same (oneB b) w w1 := by
  obtain ⟨n, f, h1, h2⟩ := h
  obtain ⟨s, w1, r1, g1, m1, r2⟩ := h1.entry Try.underlying48 (zero2 w) (k := (u, v)) ⟨hu, hv⟩
  obtain ⟨w2, r3, m2, g2⟩ := r2 (.int .i64 (c u v + z))
  refine ⟨s, w1, w2, ?_, ?_, r3, ⟨_, _, m2, fun x y => ?_⟩, (Same.of_grown g2).mono (fun x _ e => by injection e), (Same.of_grown g1).mono (fun x _ e => by injection e)⟩
  · rw [← h2 u v]
    exact r1
  · have := m1.lookup Try.underlying48 (zero2 w1) (k := (u, v)) ⟨hu, hv⟩ false
    have e : upd f (u, v) ((f (u, v)).getD (.int .i64 0)) (u, v) = some ((f (u, v)).getD (.int .i64 0)) := by simp [upd]
    rw [e] at this
    rw [← h2 u v]
    exact this
  · unfold upd bump2
    by_cases e : u = x ∧ v = y
    · obtain ⟨rfl, rfl⟩ := e
      simp
    · rw [if_neg (fun e' => e (by injection e' with a b; exact ⟨a.symm, b.symm⟩)), if_neg e, Int.add_zero]
      exact h2 x y
/-- Steps of a beginning of a path. -/
theorem steps_two (u v a b : Int) : ∀ p : List Int, stepsIn u v (p ++ [a] ++ [b]) = stepsIn u v (p ++ [a]) + if a = u ∧ b = v then 1 else 0
  | [] => by simp [stepsIn]
  | [x] => by simp only [List.cons_append, List.nil_append, stepsIn]; omega
  | x :: y :: p => by
    have ih := steps_two u v a b (y :: p)
    simp only [List.cons_append, stepsIn] at ih ⊢
    omega
theorem steps_next {p : List Int} {j : Nat} {a b : Int} (ha : p[j]? = some a) (hb : p[j + 1]? = some b) (u v : Int) : stepsIn u v (p.take (j + 2)) = stepsIn u v (p.take (j + 1)) + if a = u ∧ b = v then 1 else 0 := by
  rw [take_snoc hb, take_snoc ha, steps_two]
theorem steps_one (u v : Int) (p : List Int) : stepsIn u v (p.take 1) = 0 := by
  cases p with
  | nil => rfl
  | cons a p => rfl
theorem steps_le (u v : Int) (p : List Int) : ∀ (d j : Nat), j + d = p.length → stepsIn u v (p.take j) ≤ stepsIn u v p
  | 0, j, h => by rw [List.take_of_length_le (by omega)]; exact Int.le_refl _
  | d + 1, 0, _ => by
    have := stepsIn_nonneg u v p
    simpa [stepsIn] using this
  | d + 1, 1, h => by
    rw [steps_one]
    exact stepsIn_nonneg u v p
  | d + 1, j + 2, h => by
    have ih := steps_le u v p d (j + 3) (by omega)
    have h1 : j + 1 < p.length := by omega
    have h2 : j + 2 < p.length := by omega
    have := steps_next (j := j + 1) (List.getElem?_eq_getElem h1) (List.getElem?_eq_getElem h2) u v
    rw [this] at ih
    have e : stepsIn u v (p.take (j + 1 + 1)) = stepsIn u v (p.take (j + 2)) := rfl
    rw [e] at ih
    split at ih <;> omega
theorem used_next {P : List (List Int)} {Z : List Int} {i : Nat} {p : List Int} {z : Int} (hl : P.length = Z.length) (hp : P[i]? = some p) (hz : Z[i]? = some z) (u v : Int) : usedS u v (P.take (i + 1)) (Z.take (i + 1)) = usedS u v (P.take i) (Z.take i) + z * stepsIn u v p := by
  rw [take_snoc hp, take_snoc hz, usedS_snoc]
  rw [List.length_take, List.length_take, hl]
theorem used_nonneg (u v : Int) : ∀ (P : List (List Int)) (Z : List Int), (∀ z ∈ Z, 0 < z) → 0 ≤ usedS u v P Z
  | [], _, _ => by simp [usedS]
  | _ :: _, [], _ => by simp [usedS]
  | p :: P, z :: Z, h => by
    have ih := used_nonneg u v P Z (fun y hy => h y (List.mem_cons_of_mem _ hy))
    have h1 := stepsIn_nonneg u v p
    have h2 := h z List.mem_cons_self
    have := Int.mul_nonneg (Int.le_of_lt h2) h1
    simp only [usedS]
    omega
theorem used_le {P : List (List Int)} {Z : List Int} (hl : P.length = Z.length) (hz : ∀ z ∈ Z, 0 < z) (u v : Int) : ∀ (d i : Nat), i + d = P.length → usedS u v (P.take i) (Z.take i) ≤ usedS u v P Z
  | 0, i, h => by rw [List.take_of_length_le (by omega), List.take_of_length_le (by omega)]; exact Int.le_refl _
  | d + 1, i, h => by
    have ih := used_le hl hz u v d (i + 1) (by omega)
    have h1 : i < P.length := by omega
    have h2 : i < Z.length := by omega
    rw [used_next hl (List.getElem?_eq_getElem h1) (List.getElem?_eq_getElem h2)] at ih
    have h3 := stepsIn_nonneg u v P[i]
    have h4 := hz Z[i] (List.getElem_mem h2)
    have := Int.mul_nonneg (Int.le_of_lt h4) h3
    omega
/-- How far the count has come: i paths whole, j nodes of the next one. -/
def cntAt (P : List (List Int)) (Z : List Int) (i j : Nat) : Int → Int → Int := fun u v => usedS u v (P.take i) (Z.take i) + ((Z[i]?).getD 0) * stepsIn u v (((P[i]?).getD []).take j)
theorem cnt_zero {P : List (List Int)} {Z : List Int} : cntAt P Z 0 0 = fun _ _ => 0 := by
  funext u v
  simp [cntAt, usedS, stepsIn]
theorem cnt_one (P : List (List Int)) (Z : List Int) (i : Nat) : cntAt P Z i 1 = cntAt P Z i 0 := by
  funext u v
  unfold cntAt
  rw [steps_one, List.take_zero]
  rfl
theorem cnt_step {P : List (List Int)} {Z : List Int} {i j : Nat} {p : List Int} {z a b : Int} (hp : P[i]? = some p) (hz : Z[i]? = some z) (ha : p[j]? = some a) (hb : p[j + 1]? = some b) : cntAt P Z i (j + 2) = bump2 (cntAt P Z i (j + 1)) a b z := by
  funext u v
  unfold cntAt bump2
  rw [hp, hz]
  show _ + z * _ = _ + z * _ + _
  rw [show (some p).getD [] = p from rfl, steps_next ha hb, Int.mul_add]
  split <;> omega
theorem cnt_done {P : List (List Int)} {Z : List Int} {i : Nat} {p : List Int} (hl : P.length = Z.length) (hp : P[i]? = some p) : cntAt P Z i p.length = cntAt P Z (i + 1) 0 := by
  funext u v
  have h1 := (List.getElem?_eq_some_iff.1 hp).1
  obtain ⟨z, hz⟩ : ∃ z, Z[i]? = some z := ⟨_, List.getElem?_eq_getElem (by omega)⟩
  unfold cntAt
  rw [used_next hl hp hz, hp, hz, List.take_zero]
  show _ + z * stepsIn u v (p.take p.length) = _ + _ * 0
  rw [List.take_of_length_le (Nat.le_refl _)]
  omega
theorem cnt_bound {P : List (List Int)} {Z : List Int} {i : Nat} {p : List Int} (hl : P.length = Z.length) (hz : ∀ z ∈ Z, 0 < z) (hp : P[i]? = some p) {j : Nat} (hj : j ≤ p.length) (u v : Int) : 0 ≤ cntAt P Z i j u v ∧ cntAt P Z i j u v ≤ usedS u v P Z := by
  have h1 := (List.getElem?_eq_some_iff.1 hp).1
  obtain ⟨z, hzi⟩ : ∃ z, Z[i]? = some z := ⟨_, List.getElem?_eq_getElem (by omega)⟩
  have hzp := hz z (List.mem_of_getElem? hzi)
  have h2 := used_le hl hz u v (P.length - (i + 1)) (i + 1) (by omega)
  rw [used_next hl hp hzi] at h2
  have h3 := steps_le u v p (p.length - j) j (by omega)
  have h4 := Int.mul_le_mul_of_nonneg_left h3 (Int.le_of_lt hzp)
  have h5 := Int.mul_nonneg (Int.le_of_lt hzp) (stepsIn_nonneg u v (p.take j))
  have h6 := used_nonneg u v (P.take i) (Z.take i) (fun y hy => hz y (List.mem_of_mem_take hy))
  unfold cntAt
  rw [hp, hzi]
  show 0 ≤ _ + z * stepsIn u v (p.take j) ∧ _ + z * stepsIn u v (p.take j) ≤ _
  omega
theorem cnt_all {P : List (List Int)} {Z : List Int} (hl : P.length = Z.length) {k : Nat} (hk : P.length ≤ k) : cntAt P Z k 0 = fun u v => usedS u v P Z := by
  funext u v
  unfold cntAt
  rw [List.take_of_length_le hk, List.take_of_length_le (by omega), List.take_zero]
  show _ + _ * 0 = _
  omega
theorem sum_le : ∀ {Z : List Int}, (∀ z ∈ Z, 0 < z) → ∀ i, 0 ≤ (Z.take i).sum ∧ (Z.take i).sum ≤ Z.sum
  | [], _, i => by simp
  | z :: Z, h, 0 => by
    have := (sum_le (Z := Z) (fun y hy => h y (List.mem_cons_of_mem _ hy)) Z.length)
    rw [List.take_of_length_le (Nat.le_refl _)] at this
    have := h z List.mem_cons_self
    simp only [List.take_zero, List.sum_nil, List.sum_cons]
    omega
  | z :: Z, h, i + 1 => by
    have := (sum_le (Z := Z) (fun y hy => h y (List.mem_cons_of_mem _ hy)) i)
    have := h z List.mem_cons_self
    simp only [List.take_succ_cons, List.sum_cons]
    omega
theorem sum_next {Z : List Int} {i : Nat} {z : Int} (h : Z[i]? = some z) : (Z.take (i + 1)).sum = (Z.take i).sum + z := by
  rw [take_snoc h, List.sum_append]
  simp
end Go.Proofs.Ytpalacfgpcpppaa
