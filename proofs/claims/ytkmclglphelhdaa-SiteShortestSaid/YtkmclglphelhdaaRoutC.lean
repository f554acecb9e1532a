/- Layer 14: Route of the program, for any model. (printed by genRoutC.py) -/
import Derived.Test.YtkmclglphelhdaaRoutB
import Derived.Test.YtkmclglphelhdaaRoutD
namespace Go.Proofs.Ytkmclglphelhdaa
open Go Go.RowKit Go.Maps

/-- before, as plain data. -/
def pf (par : Int → Option Int) : Int → Option Value := fun s => (par s).map (Value.int .i64)
theorem pf_new (par : Int → Option Int) (s v : Int) : pf (fun x => if x = s then some v else par x) = upd (pf par) s (.int .i64 v) := by
  funext x
  unfold pf upd
  by_cases e : x = s
  · simp [e]
  · simp [e]
theorem pf_start (a : Int) : pf (fun s => if s = a then some 0 else none) = upd (fun _ => none) a (.int .i64 0) := pf_new (fun _ => none) a 0
/-- Route's memory: the model's box at M, the map at B, the queue at o of g. -/
structure RqI (w W : World) (p : MPl) (m : Mdl) (M B nm : Nat) (f : Int → Option Value) (g o c : Nat) (l : List Int) : Prop where
  inn : MdlIn w p m
  since : Same noB w W
  box : Blk W M 29 (mdlCells p m)
  map : MapF eI W B nm f
  qu : Qu W g o c l
  qlo : w.heap.size ≤ g
  lb : w.heap.size ≤ B
section
variable {w W W' : World} {p : MPl} {m : Mdl} {M B nm nm' : Nat} {f f' : Int → Option Value} {g o c g' o' c' : Nat} {l l' : List Int}
theorem RqI.keep (h : RqI w W p m M B nm f g o c l) (hs : Same noB W W') : RqI w W' p m M B nm f g o c l :=
  ⟨h.inn, h.since.trans' hs, h.box.same hs (fun x => x), h.map.same hs (fun x => x), h.qu.same hs (fun x => x), h.qlo, h.lb⟩
theorem RqI.mb (h : RqI w W p m M B nm f g o c l) : MB w W p m M := ⟨h.inn.keep h.since, h.box, h.since⟩
theorem RqI.upd (h : RqI w W p m M B nm f g o c l) (hM : MapF eI W' B nm' f') (hg : W.grownBy W' (some B)) : RqI w W' p m M B nm' f' g o c l := by
  have hs : Same (oneB B) W W' := (Same.of_grown hg).mono (fun b _ e => by injection e)
  obtain ⟨cur, hb, _⟩ := h.qu.blk
  refine ⟨h.inn, h.since.trans hs (fun b hb e => ?_), h.box.same hs (fun e => h.map.ne_blk h.box (show M = B from e).symm), hM, h.qu.same hs (fun e => h.map.ne_blk hb (show g = B from e).symm), h.qlo, h.lb⟩
  have := h.lb
  rw [show b = B from e] at hb
  omega
theorem RqI.app (h : RqI w W p m M B nm f g o c l) (hq : Qu W' g' o' c' l') (hg : W.grownBy W' (some g)) (hat : g' = g ∨ W.heap.size ≤ g') : RqI w W' p m M B nm f g' o' c' l' := by
  have hs : Same (oneB g) W W' := (Same.of_grown hg).mono (fun b _ e => by injection e)
  obtain ⟨cur, hb, _⟩ := h.qu.blk
  have hsz := h.since.size
  have hql := h.qlo
  refine ⟨h.inn, h.since.trans hs (fun b hb e => ?_), h.box.same hs (fun e => h.qu.ne_blk h.box (by decide) (show M = g from e).symm), h.map.same hs (fun e => h.map.ne_blk hb (show B = g from e)), hq, by omega, h.lb⟩
  rw [show b = g from e] at hb
  omega
theorem RqI.row (h : RqI w W p m M B nm f g o c l) (hq : Qu W g' o' c' l') (hg : w.heap.size ≤ g') : RqI w W p m M B nm f g' o' c' l' := ⟨h.inn, h.since, h.box, h.map, hq, hg, h.lb⟩
end
theorem pf_dom {nb : Int → List Int} {n h k : Nat} {a : Int} {Q : List Int} {par : Int → Option Int} {J K : Nat → Nat} (H : BI nb n a Q par J K h k) : Q.length ≤ n ∧ (∀ s ∈ Q, 1 ≤ s ∧ s ≤ (n : Int)) := ⟨nodup_le n Q H.nd H.rng, H.rng⟩
/-- The search's state: Q, the first h rows read, k places of the next. -/
structure St (w W : World) (p : MPl) (m : Mdl) (M B : Nat) (a : Int) (h k : Nat) (Q : List Int) (par : Int → Option Int) (g o c n : Nat) : Prop where
  bi : ∃ J K, BI m.near m.sites.length a Q par J K h k
  rq : ∃ nm, RqI w W p m M B nm (pf par) g o c (Q.drop h)
  n : n = (Q.drop h).length
  hl : h ≤ Q.length
theorem St.keep {w W W' : World} {p : MPl} {m : Mdl} {M B : Nat} {a : Int} {h k : Nat} {Q : List Int} {par : Int → Option Int} {g o c n : Nat} (H : St w W p m M B a h k Q par g o c n) (hs : Same noB W W') : St w W' p m M B a h k Q par g o c n := by
  obtain ⟨nm, hr⟩ := H.rq
  exact ⟨H.bi, ⟨nm, hr.keep hs⟩, H.n, H.hl⟩
theorem St.bound {w W : World} {p : MPl} {m : Mdl} {M B : Nat} {a : Int} {h k : Nat} {Q : List Int} {par : Int → Option Int} {g o c n : Nat} (H : St w W p m M B a h k Q par g o c n) : Q.length ≤ m.sites.length ∧ n + h ≤ Q.length + h ∧ n ≤ c ∧ c ≤ maxLen ∧ (0 < n → n + h = Q.length) := by
  obtain ⟨J, K, hb⟩ := H.bi
  obtain ⟨nm, hr⟩ := H.rq
  have h1 := pf_dom hb
  have h2 := hr.qu.cap
  have h3 := hr.qu.max
  have h4 := H.n
  rw [List.length_drop] at h4
  rw [← H.n] at h2
  exact ⟨h1.1, by omega, h2, h3, fun h0 => by omega⟩
theorem St.head {w W : World} {p : MPl} {m : Mdl} {M B : Nat} {a : Int} {h k : Nat} {Q : List Int} {par : Int → Option Int} {g o c n : Nat} (H : St w W p m M B a h k Q par g o c n) (hn : 0 < n) : ∃ v, Q[h]? = some v ∧ W.cell? ⟨g, o, none⟩ = some (.int .i64 v) ∧ exB v m.sites.length = true ∧ inI64 v := by
  obtain ⟨J, K, hb⟩ := H.bi
  obtain ⟨nm, hr⟩ := H.rq
  have h4 := H.n
  rw [List.length_drop] at h4
  obtain ⟨v, hv⟩ : ∃ v, Q[h]? = some v := ⟨_, List.getElem?_eq_getElem (by omega)⟩
  have h5 := hr.qu.at_ (j := 0) (x := v) (by rw [List.getElem?_drop]; exact hv)
  have h6 := hb.rng v (List.mem_of_getElem? hv)
  have h7 : m.sites.length = m.sites.length := rfl
  refine ⟨v, hv, h5, exB_iff.2 h6, ?_⟩
  have hl := pf_dom hb
  obtain ⟨A, cc, e, h8, h9, _⟩ := hr.inn.s
  simp only [maxLen] at h9
  have := hr.inn.ls
  injection e with e1 e2 e3
  exact ⟨by omega, by omega⟩
/-- A neighbour that has been seen. -/
theorem St.old {w W : World} {p : MPl} {m : Mdl} {M B : Nat} {a v s : Int} {h k : Nat} {Q : List Int} {par : Int → Option Int} {g o c n : Nat} (H : St w W p m M B a h k Q par g o c n) (hv : Q[h]? = some v) (hs : (m.near v)[k]? = some s) (hp : par s ≠ none) : St w W p m M B a h (k + 1) Q par g o c n := by
  obtain ⟨J, K, hb⟩ := H.bi
  exact ⟨⟨J, K, hb.old hv hs hp⟩, H.rq, H.n, H.hl⟩
/-- A row has been read. -/
theorem St.next {w W : World} {p : MPl} {m : Mdl} {M B : Nat} {a v : Int} {h k : Nat} {Q : List Int} {par : Int → Option Int} {g o c n : Nat} (H : St w W p m M B a h k Q par g o c n) (hn : 0 < n) (hv : Q[h]? = some v) (hk : k = (m.near v).length) : St w W p m M B a (h + 1) 0 Q par g (if c = 1 then o else o + 1) (c - 1) (n - 1) := by
  obtain ⟨J, K, hb⟩ := H.bi
  obtain ⟨nm, hr⟩ := H.rq
  have h4 := H.n
  rw [List.length_drop] at h4
  have hd : Q.drop h = v :: Q.drop (h + 1) := by
    have hl := (List.getElem?_eq_some_iff.1 hv)
    rw [List.drop_eq_getElem_cons hl.1, hl.2]
  refine ⟨⟨J, K, hb.row hv hk⟩, ⟨nm, hr.row ?_ hr.qlo⟩, by rw [List.length_drop]; omega, by omega⟩
  have hq := hr.qu
  rw [hd] at hq
  exact hq.tail

/-- A new neighbour. -/
theorem St.new {w W W' : World} {p : MPl} {m : Mdl} {M B nm : Nat} {a v s : Int} {h k : Nat} {Q : List Int} {par : Int → Option Int} {g o c n g' o' c' : Nat} (H : St w W p m M B a h k Q par g o c n) (hv : Q[h]? = some v) (hs : (m.near v)[k]? = some s) (hp : par s = none)
    (hr : RqI w W' p m M B nm (upd (pf par) s (.int .i64 v)) g' o' c' (Q.drop h ++ [s])) : St w W' p m M B a h (k + 1) (Q ++ [s]) (fun x => if x = s then some v else par x) g' o' c' (n + 1) := by
  obtain ⟨J, K, hb⟩ := H.bi
  have hd : (Q ++ [s]).drop h = Q.drop h ++ [s] := List.drop_append_of_le_length H.hl
  refine ⟨⟨_, _, hb.new (near_gr m) hv hs hp⟩, ⟨nm, by rw [pf_new, hd]; exact hr⟩, by rw [hd, List.length_append, ← H.n]; rfl, by have := H.hl; rw [List.length_append]; omega⟩
def twoB (a b : Nat) : Nat → Prop := fun k => k = a ∨ k = b
/-- The row of neighbours stays as it is. -/
theorem rd_step {wr W3 W4 : World} {g g' B n : Nat} {o : Obj} {v : Value} {xs : List Value} (r : Rd wr (twoB g B) 1 v n xs) (h3 : wr.grownBy W3 (some B)) (h4 : (W3.alloc o).grownBy W4 (some g)) (hat : g' = g ∨ (W3.alloc o).heap.size ≤ g') : Rd W4 (twoB g' B) 1 v n xs := by
  have hsz := h3.size
  have hall : Same (twoB g B) wr W4 := ((((Same.of_grown h3).mono (fun b _ e => .inr (by injection e))) : Same (twoB g B) wr W3).alloc o).trans' ((Same.of_grown h4).mono (fun b _ e => .inl (by injection e)))
  refine r.same hall (fun b _ x => x) (fun b hb x => ?_)
  rcases x with x | x
  · rcases hat with e | e
    · exact .inl (x.trans e)
    · simp at e
      omega
  · exact .inr x

end Go.Proofs.Ytkmclglphelhdaa
