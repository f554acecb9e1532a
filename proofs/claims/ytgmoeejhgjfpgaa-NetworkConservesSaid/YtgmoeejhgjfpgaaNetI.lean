/- What NetworkConserves keeps true, without memory. -/
import Derived.Test.YtgmoeejhgjfpgaaNetH
namespace Go.Proofs.Ytgmoeejhgjfpgaa
open Go Go.RowKit

theorem inI64_zero : inI64 0 := ⟨by decide, by decide⟩
/-- The key under which a packet is counted. -/
def Pk.kin (p : Pk) : Pk := ⟨0, p.frm, p.to, p.data⟩
instance : DecidableEq ByteArray := inferInstance
instance : DecidableEq Pk := fun p q => by
  obtain ⟨a, b, c, d⟩ := p
  obtain ⟨a', b', c', d'⟩ := q
  rw [Pk.mk.injEq]
  exact inferInstance

def bump (c : Pk → Nat) (q : Pk) : Pk → Nat := fun p => if p = q then c q + 1 else c p
def setS (s : Int → Bool) (x : Int) (b : Bool) : Int → Bool := fun y => if y = x then b else s y

structure CInv (j : Nat) (st : NetSt) (kk : Nat) (c : Pk → Nat) (s : Int → Bool) (rm ad : Nat) : Prop where
  len : st.ps.length ≤ j
  last0 : 0 ≤ st.last
  lastj : st.last ≤ j
  kk : kk ≤ j
  nums : st.ps.Pairwise (fun p q => p.num ≠ q.num)
  numb : ∀ p ∈ st.ps, 1 ≤ p.num ∧ p.num ≤ st.last
  pok : ∀ p ∈ st.ps, inI64 p.frm ∧ inI64 p.to ∧ p.data.size ≤ maxLen
  sent : ∀ p ∈ st.ps, c p.kin ≠ 0
  cb : ∀ q, c q ≤ j
  seen : ∀ p ∈ st.ps, s p.num = false
  snew : ∀ x, s x = true → x ≤ st.last
  cnt : ad = rm + st.ps.length
  adb : ad ≤ j

theorem CInv.ok {j kk : Nat} {st : NetSt} {c : Pk → Nat} {s : Int → Bool} {rm ad : Nat} (h : CInv j st kk c s rm ad) (hj : j ≤ 40) : st.ok := by
  have h1 := h.len
  have h2 := h.lastj
  exact ⟨by omega, h.last0, by omega, fun p hp => ⟨(h.pok p hp).1, (h.pok p hp).2.1⟩⟩
theorem CInv.start : CInv 0 ⟨[], 0, []⟩ 0 (fun _ => 0) (fun _ => false) 0 0 :=
  ⟨by simp, by simp, by simp, by simp, by simp, by simp, by simp, by simp, by simp, by simp, by simp, by simp, by simp⟩
section
variable {j kk : Nat} {st : NetSt} {c : Pk → Nat} {s : Int → Bool} {rm ad : Nat}
theorem CInv.idle (h : CInv j st kk c s rm ad) : CInv (j + 1) st kk c s rm ad := by
  obtain ⟨h1, h2, h3, h4, h5, h6, h7, h8, h9, h10, h11, h12, h13⟩ := h
  exact ⟨by omega, h2, by omega, by omega, h5, h6, h7, h8, fun q => Nat.le_succ_of_le (h9 q), h10, h11, h12, by omega⟩
theorem CInv.isolate (h : CInv j st kk c s rm ad) (x : Int) : CInv (j + 1) (st.isolate x) (kk + 1) c s rm ad := by
  obtain ⟨h1, h2, h3, h4, h5, h6, h7, h8, h9, h10, h11, h12, h13⟩ := h
  exact ⟨Nat.le_succ_of_le h1, h2, by show st.last ≤ _; omega, by omega, h5, h6, h7, h8, fun q => Nat.le_succ_of_le (h9 q), h10, h11, h12, by omega⟩
theorem CInv.join (h : CInv j st kk c s rm ad) (x : Int) : CInv (j + 1) (st.join x) kk c s rm ad := by
  obtain ⟨h1, h2, h3, h4, h5, h6, h7, h8, h9, h10, h11, h12, h13⟩ := h
  exact ⟨Nat.le_succ_of_le h1, h2, by show st.last ≤ _; omega, by omega, h5, h6, h7, h8, fun q => Nat.le_succ_of_le (h9 q), h10, h11, h12, by omega⟩
/-- A packet is added. -/
theorem CInv.add (h : CInv j st kk c s rm ad) {x y : Int} {d : ByteArray} (hx : inI64 x) (hy : inI64 y) (hd : d.size ≤ maxLen) (c' : Pk → Nat) (hc : ∀ q, c q ≠ 0 → c' q ≠ 0) (hc' : c' ⟨0, x, y, d⟩ ≠ 0) (hcb : ∀ q, c' q ≤ j + 1) :
    CInv (j + 1) ⟨st.ps ++ [⟨st.last + 1, x, y, d⟩], st.last + 1, st.iso⟩ kk c' s rm (ad + 1) := by
  obtain ⟨h1, h2, h3, h4, h5, h6, h7, h8, h9, h10, h11, h12, h13⟩ := h
  have hmem : ∀ p, p ∈ st.ps ++ [(⟨st.last + 1, x, y, d⟩ : Pk)] → p ∈ st.ps ∨ p = ⟨st.last + 1, x, y, d⟩ := fun p hp => by simpa using hp
  refine ⟨by simp; omega, by simp; omega, by simp; omega, by omega, ?_, ?_, ?_, ?_, hcb, ?_, ?_, by simp; omega, by omega⟩
  · refine List.pairwise_append.2 ⟨h5, by simp, fun p hp q hq => ?_⟩
    simp at hq
    subst hq
    have := h6 p hp
    simp
    omega
  · intro p hp
    rcases hmem p hp with hp | rfl
    · have := h6 p hp
      simp
      omega
    · simp
      omega
  · intro p hp
    rcases hmem p hp with hp | rfl
    · exact h7 p hp
    · exact ⟨hx, hy, hd⟩
  · intro p hp
    rcases hmem p hp with hp | rfl
    · exact hc _ (h8 p hp)
    · exact hc'
  · intro p hp
    rcases hmem p hp with hp | rfl
    · exact h10 p hp
    · cases hs : s (st.last + 1) with
      | false => rfl
      | true =>
        have := h11 _ hs
        omega
  · intro x hx
    have := h11 x hx
    simp
    omega
theorem CInv.send (h : CInv j st kk c s rm ad) {x y : Int} {d : ByteArray} (hx : inI64 x) (hy : inI64 y) (hd : d.size ≤ maxLen) (hc : st.cut x y = false) :
    CInv (j + 1) (st.send x y d) kk (bump c ⟨0, x, y, d⟩) s rm (ad + 1) := by
  unfold NetSt.send
  rw [hc]
  refine h.add hx hy hd _ (fun q hq => ?_) ?_ (fun q => ?_)
  · unfold bump
    split
    · omega
    · exact hq
  · simp [bump]
  · have h1 := h.cb q
    have h2 := h.cb ⟨0, x, y, d⟩
    unfold bump
    split <;> omega
theorem CInv.sendNot (h : CInv j st kk c s rm ad) {x y : Int} {d : ByteArray} (hc : st.cut x y = true) : CInv (j + 1) (st.send x y d) kk c s rm ad := by
  unfold NetSt.send
  rw [hc]
  exact h.idle
theorem CInv.double (h : CInv j st kk c s rm ad) (i : Int) (hp : 0 < st.ps.length) : CInv (j + 1) (st.double i) kk c s rm (ad + 1) := by
  obtain ⟨p, hpk⟩ : ∃ p, st.ps[st.at_ i]? = some p := ⟨_, List.getElem?_eq_getElem (st.at_lt i hp)⟩
  have hm := List.mem_of_getElem? hpk
  unfold NetSt.double
  rw [hpk]
  obtain ⟨a, b, e⟩ := h.pok p hm
  exact h.add a b e c (fun _ h => h) (h.sent p hm) (fun q => Nat.le_succ_of_le (h.cb q))
theorem CInv.doubleNot (h : CInv j st kk c s rm ad) (i : Int) (hp : ¬ 0 < st.ps.length) : CInv (j + 1) (st.double i) kk c s rm ad := by
  unfold NetSt.double
  rw [List.getElem?_eq_none (by omega)]
  exact h.idle
/-- A packet is removed. -/
theorem CInv.remove (h : CInv j st kk c s rm ad) (i : Int) (hp : 0 < st.ps.length) (s' : Int → Bool) (hs : ∀ p ∈ st.ps.eraseIdx (st.at_ i), s' p.num = false) (hn : ∀ x, s' x = true → x ≤ st.last) : CInv (j + 1) (st.drop i) kk c s' (rm + 1) ad := by
  have hlt := st.at_lt i hp
  obtain ⟨h1, h2, h3, h4, h5, h6, h7, h8, h9, h10, h11, h12, h13⟩ := h
  have hmem : ∀ p, p ∈ (st.drop i).ps → p ∈ st.ps := fun p hp => (List.eraseIdx_sublist _ _).subset hp
  have hl : (st.drop i).ps.length = st.ps.length - 1 := List.length_eraseIdx_of_lt hlt
  refine ⟨by omega, h2, by show st.last ≤ _; omega, by omega, h5.sublist (List.eraseIdx_sublist _ _), fun p hp => h6 p (hmem p hp), fun p hp => h7 p (hmem p hp), fun p hp => h8 p (hmem p hp), fun q => Nat.le_succ_of_le (h9 q), hs, hn, by omega, by omega⟩
theorem CInv.drop (h : CInv j st kk c s rm ad) (i : Int) (hp : 0 < st.ps.length) : CInv (j + 1) (st.drop i) kk c s (rm + 1) ad :=
  h.remove i hp s (fun p hp => h.seen p ((List.eraseIdx_sublist _ _).subset hp)) h.snew
theorem CInv.dropNot (h : CInv j st kk c s rm ad) (i : Int) (hp : ¬ 0 < st.ps.length) : CInv (j + 1) (st.drop i) kk c s rm ad := by
  rw [st.drop_nil i (by omega)]
  exact h.idle
theorem NetSt.drop_len (st : NetSt) (i : Int) : (st.drop i).ps.length = st.ps.length - 1 := by
  by_cases hp : 0 < st.ps.length
  · exact List.length_eraseIdx_of_lt (st.at_lt i hp)
  · rw [st.drop_nil i (by omega)]
    omega
/-- A packet is delivered: its number is marked. -/
theorem CInv.deliver (h : CInv j st kk c s rm ad) {i : Int} {p : Pk} (hpk : st.ps[st.at_ i]? = some p) : CInv (j + 1) (st.drop i) kk c (setS s p.num true) (rm + 1) ad := by
  have hlt : st.at_ i < st.ps.length := (List.getElem?_eq_some_iff.1 hpk).1
  have hpe : st.ps[st.at_ i] = p := (List.getElem?_eq_some_iff.1 hpk).2
  refine h.remove i (by omega) _ (fun q hq => ?_) (fun x hx => ?_)
  · obtain ⟨i', hne, hi'⟩ := List.mem_eraseIdx_iff_getElem?.1 hq
    have hil : i' < st.ps.length := (List.getElem?_eq_some_iff.1 hi').1
    have hie : st.ps[i'] = q := (List.getElem?_eq_some_iff.1 hi').2
    have hqn : q.num ≠ p.num := by
      rcases Nat.lt_or_gt_of_ne hne with h' | h'
      · have := List.pairwise_iff_getElem.1 h.nums i' (st.at_ i) hil hlt h'
        rwa [hie, hpe] at this
      · have := List.pairwise_iff_getElem.1 h.nums (st.at_ i) i' hlt hil h'
        rw [hie, hpe] at this
        exact this.symm
    unfold setS
    rw [if_neg hqn]
    exact h.seen q (List.mem_of_getElem? hi')
  · unfold setS at hx
    split at hx
    · rename_i e
      rw [e]
      exact (h.numb p (List.mem_of_getElem? hpk)).2
    · exact h.snew x hx
/-- A packet is lost or there is none: number 0 is marked as not seen. -/
theorem CInv.mark0 (h : CInv j st kk c s rm ad) : CInv j st kk c (setS s 0 false) rm ad := by
  obtain ⟨h1, h2, h3, h4, h5, h6, h7, h8, h9, h10, h11, h12, h13⟩ := h
  refine ⟨h1, h2, h3, h4, h5, h6, h7, h8, h9, fun p hp => ?_, fun x hx => ?_, h12, h13⟩
  · unfold setS
    split
    · rfl
    · exact h10 p hp
  · unfold setS at hx
    split at hx
    · cases hx
    · exact h11 x hx
end
end Go.Proofs.Ytgmoeejhgjfpgaa
