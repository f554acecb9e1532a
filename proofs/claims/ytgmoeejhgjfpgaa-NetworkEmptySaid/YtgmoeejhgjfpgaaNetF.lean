/- Operations as they come in; Few; awake. -/
import Derived.Test.YtgmoeejhgjfpgaaNetE
namespace Go.Proofs.Ytgmoeejhgjfpgaa
open Go Go.RowKit Go.Maps

structure Opn where
  kind : Int
  a : Int
  b : Int
  i : Int
  data : ByteArray
def Opn.cells (o : Opn) : List Value := [.int .i64 o.kind, .int .i64 o.a, .int .i64 o.b, .int .i64 o.i, .string o.data]
def ocells (l : List Opn) : List Value := l.flatMap Opn.cells
def Opn.ok (o : Opn) : Prop := inI64 o.kind ∧ inI64 o.a ∧ inI64 o.b ∧ inI64 o.i ∧ o.data.size ≤ maxLen
theorem ocells_len (l : List Opn) : (ocells l).length = l.length * 5 := by
  induction l with
  | nil => rfl
  | cons p l ih => simp [ocells, Opn.cells] at ih ⊢; omega
theorem ocells_at {l : List Opn} {i : Nat} {o : Opn} (h : l[i]? = some o) (j : Nat) (hj : j < 5) : (ocells l)[i * 5 + j]? = o.cells[j]? := by
  induction l generalizing i with
  | nil => simp at h
  | cons x l ih =>
    have h' : ocells (x :: l) = x.cells ++ ocells l := rfl
    have h5 : x.cells.length = 5 := rfl
    cases i with
    | zero =>
      simp at h
      subst h
      rw [h', List.getElem?_append_left (by rw [h5]; omega)]
      simp
    | succ i =>
      rw [h', List.getElem?_append_right (by rw [h5]; omega), h5, show (i + 1) * 5 + j - 5 = i * 5 + j from by omega]
      exact ih (by simpa using h)

def few (l : List Opn) (most : Int) : Bool := l.all (fun o => decide (o.data.size ≤ 1000)) && decide ((l.length : Int) ≤ most)

theorem few_no {l : List Opn} {most : Int} {x : Opn} (hx : x ∈ l) (h : ¬ x.data.size ≤ 1000) : few l most = false := by
  unfold few
  rw [List.all_eq_false.2 ⟨x, hx, by simpa using h⟩]
  rfl
theorem few_end {l : List Opn} {most : Int} (h : ∀ o ∈ l, o.data.size ≤ 1000) : few l most = decide ((l.length : Int) ≤ most) := by
  unfold few
  rw [List.all_eq_true.2 (fun o ho => by simpa using h o ho)]
  rfl

theorem few_any {w : World} {bad : Nat → Prop} {v : Value} {l : List Opn} (h : Rd w bad 5 v l.length (ocells l)) (most : Int) (hd : ∀ o ∈ l, o.data.size ≤ maxLen) :
    Calls Try.prog 10 #[v, .int .i64 most] w fun e w' => e = .returned (.bool (few l most)) ∧ w' = w := by
  obtain ⟨A, c, rfl, hnc, hcm, hr⟩ := h.form
  have HR := Lib.hid hr
  have HD := Lib.hid hd
  clear h hr hd
  unfold maxLen at hcm
  go_enter Try.func10, Try.ntmps10
  go_wp2_with fail
  go_loop [5] (fun i => ∃ k : Nat, k ≤ l.length ∧ i = .int .i64 k ∧ Hid (∀ o ∈ l.take k, o.data.size ≤ 1000)) (fun i => l.length - (intOf i).toNat)
  case atStart => exact ⟨0, Nat.zero_le _, rfl, by intro o ho; simp at ho⟩
  case round =>
    obtain ⟨k, hk, rfl, HP⟩ := hrel
    by_cases hlt : k < l.length
    · obtain ⟨b, o, rfl, r⟩ := HR.out.at_ (by omega)
      obtain ⟨x, hx⟩ : ∃ x, l[k]? = some x := ⟨_, List.getElem?_eq_getElem hlt⟩
      have c4 := r.cell (k * 5 + 4) (.string x.data) (by rw [ocells_at hx 4 (by omega)]; rfl)
      have hxm := HD.out x (List.mem_of_getElem? hx)
      unfold maxLen at hxm
      have HX := Lib.hid hx
      rw [← Nat.add_assoc] at c4
      clear r hx
      go_wp2_with fail
      · go_ret
        have hb : 1000 < (x.data.size : Int) := by assumption
        rw [few_no (List.mem_of_getElem? HX.out) (by omega)]
        exact ⟨rfl, rfl⟩
      · have hb : (x.data.size : Int) ≤ 1000 := by assumption
        go_round
        case rel =>
          refine ⟨k + 1, by omega, by go_num, fun y hy => ?_⟩
          rw [List.take_add_one, HX.out] at hy
          rcases List.mem_append.1 hy with hy | hy
          · exact HP.out y hy
          · simp at hy
            subst hy
            omega
        case measure => simp [intOf]; omega
    · obtain rfl : k = l.length := by omega
      go_wp2_with fail
      go_ret
      rw [few_end (by have := HP.out; rwa [List.take_length] at this)]
      exact ⟨rfl, rfl⟩
end Go.Proofs.Ytgmoeejhgjfpgaa
