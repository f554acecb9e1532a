/- NetworkNumbers: its plain law. The numbers rise strictly. -/
import Derived.Test.YtgmoeejhgjfpgaaLawOps
namespace Go.Proofs.Ytgmoeejhgjfpgaa
open Go Go.RowKit Go.Maps

def NetSt.Nums (st : NetSt) : Prop := 0 ≤ st.last ∧ (∀ p ∈ st.ps, 0 < p.num ∧ p.num ≤ st.last) ∧ st.ps.Pairwise (fun p q => p.num < q.num)
theorem NetSt.Nums.snoc {ps : List Pk} {last : Int} {iso iso' : List Int} (h : NetSt.Nums ⟨ps, last, iso⟩) (a b : Int) (d : ByteArray) : NetSt.Nums ⟨ps ++ [⟨last + 1, a, b, d⟩], last + 1, iso'⟩ := by
  obtain ⟨h0, h1, h2⟩ := h
  simp only at h0 h1 h2
  refine ⟨by simp only; omega, fun p hp => ?_, ?_⟩
  · simp only
    rcases List.mem_append.1 hp with hp | hp
    · have := h1 p hp
      omega
    · simp at hp
      subst hp
      exact ⟨by simp only; omega, Int.le_refl _⟩
  · refine List.pairwise_append.2 ⟨h2, by simp, fun p hp q hq => ?_⟩
    simp at hq
    subst hq
    have := h1 p hp
    simp only
    omega
theorem NetSt.Nums.act {st : NetSt} (h : st.Nums) (o : Opn) : (st.act o).Nums := by
  obtain ⟨ps, last, iso⟩ := st
  have hd : (NetSt.drop ⟨ps, last, iso⟩ o.i).Nums := ⟨h.1, fun p hp => h.2.1 p (List.mem_of_mem_eraseIdx hp), h.2.2.sublist (List.eraseIdx_sublist _ _)⟩
  unfold NetSt.act
  split
  · unfold NetSt.send
    split
    · exact h
    · exact h.snoc _ _ _
  split
  · exact hd
  split
  · exact hd
  split
  · unfold NetSt.double
    split
    · exact h.snoc _ _ _
    · exact h
  split
  · exact h
  split
  · exact h
  exact h
theorem acts_nums (l : List Opn) : (startSt.acts l).Nums := by
  have hg : ∀ (st : NetSt), st.Nums → (st.acts l).Nums := by
    induction l with
    | nil => exact fun _ h => h
    | cons o l ih => exact fun st h => ih _ (h.act o)
  exact hg _ ⟨Int.le_refl _, (fun p hp => by cases hp), List.Pairwise.nil⟩

/-- How many operations sent or copied. -/
def sentN (l : List Opn) : Nat := (l.filter (fun o => o.kind == 0 || o.kind == 3)).length
theorem sentN_le (l : List Opn) : sentN l ≤ l.length := List.length_filter_le _ _
theorem sentN_step {l : List Opn} {j : Nat} {x : Opn} (h : l[j]? = some x) : sentN (l.take (j + 1)) = sentN (l.take j) + if (x.kind == 0 || x.kind == 3) = true then 1 else 0 := by
  unfold sentN
  rw [List.take_add_one, h, List.filter_append, List.length_append]
  congr 1
  simp only [Option.toList_some, List.filter_cons, List.filter_nil]
  split <;> rfl
theorem act_last (st : NetSt) (o : Opn) : (st.act o).last ≤ st.last + if (o.kind == 0 || o.kind == 3) = true then 1 else 0 := by
  have hp : st.last ≤ st.last + if (o.kind == 0 || o.kind == 3) = true then 1 else 0 := by split <;> omega
  unfold NetSt.act
  split
  · rename_i h0
    unfold NetSt.send
    split
    · exact hp
    · simp [h0]
  split
  · exact hp
  split
  · exact hp
  split
  · rename_i h3
    unfold NetSt.double
    split
    · simp [h3]
    · exact hp
  split
  · exact hp
  split
  · exact hp
  exact hp
theorem acts_last (l : List Opn) : (startSt.acts l).last ≤ (sentN l : Int) := by
  have hg : ∀ (l : List Opn) (st : NetSt), (st.acts l).last ≤ st.last + (sentN l : Int) := by
    intro l
    induction l with
    | nil => intro st; simp [NetSt.acts, sentN]
    | cons o l ih =>
      intro st
      have h1 := ih (st.act o)
      have h2 := act_last st o
      have h3 : (sentN (o :: l) : Int) = (if (o.kind == 0 || o.kind == 3) = true then 1 else 0) + (sentN l : Int) := by
        unfold sentN
        rw [List.filter_cons]
        split
        · simp; omega
        · simp
      show ((st.act o).acts l).last ≤ _
      rw [h3]
      omega
  have := hg l startSt
  have e : startSt.last = 0 := rfl
  omega

/-- The number of the last packet; 0 without packets. -/
def lastNum (l : List Pk) : Int := match l.getLast? with | some p => p.num | none => 0
theorem lastNum_step {l : List Pk} {j : Nat} {p : Pk} (h : l[j]? = some p) : lastNum (l.take (j + 1)) = p.num := by
  unfold lastNum
  rw [List.take_add_one, h]
  simp
theorem lastNum_lt {st : NetSt} (hn : st.Nums) {j : Nat} {p : Pk} (h : st.ps[j]? = some p) : lastNum (st.ps.take j) < p.num := by
  obtain ⟨_, h1, h2⟩ := hn
  cases j with
  | zero => exact (h1 p (List.mem_of_getElem? h)).1
  | succ j =>
    have hl : j + 1 < st.ps.length := (List.getElem?_eq_some_iff.1 h).1
    have hq : st.ps[j]? = some st.ps[j] := List.getElem?_eq_getElem (by omega)
    rw [lastNum_step hq]
    have := List.pairwise_iff_getElem.1 h2 j (j + 1) (by omega) hl (by omega)
    rw [(List.getElem?_eq_some_iff.1 h).2] at this
    exact this
theorem lastNum_le {st : NetSt} (hn : st.Nums) (j : Nat) : lastNum (st.ps.take j) ≤ st.last := by
  unfold lastNum
  cases h : (st.ps.take j).getLast? with
  | none => exact hn.1
  | some p => exact (hn.2.1 p (List.mem_of_mem_take (List.mem_of_getLast? h))).2
theorem lastNum_ge {st : NetSt} (hn : st.Nums) (j : Nat) : 0 ≤ lastNum (st.ps.take j) := by
  unfold lastNum
  cases h : (st.ps.take j).getLast? with
  | none => exact Int.le_refl _
  | some p => exact Int.le_of_lt (hn.2.1 p (List.mem_of_mem_take (List.mem_of_getLast? h))).1
theorem sent_joined (st : NetSt) : ((st.join 1).join 2).sent 1 2 = st.last + 1 := by
  unfold NetSt.sent NetSt.cut
  rw [if_neg]
  · rfl
  · simp [NetSt.join]
theorem NetSt.ok.join {st : NetSt} (h : st.ok) (x : Int) : (st.join x).ok := h
end Go.Proofs.Ytgmoeejhgjfpgaa
