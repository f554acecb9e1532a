/- Layer 36: slices.Clone of ints and of entries. -/
import Derived.Test.YtlocfbjeljgblaaRepC
import Derived.Laws.OwnMore
namespace Go.Proofs.Ytlocfbjeljgblaa
open Go Go.RowKit
set_option maxRecDepth 100000

theorem slE : SlT Try.prog 27 57 15 208 := SlT.mk_ (z := .agg #[.int .i64 0, .int .i64 0, .int .i64 0, .int .i64 0, .int .i64 0, .string .empty, .int .i64 0, .int .i64 0, .int .i64 0, .int .i64 0, .slice none 0 0, .slice none 0 0, .slice none 0 0, .slice none 0 0, .slice none 0 0]) Try.underlying27 (by kernel_rfl) rfl (by decide) (by decide)
theorem slC : SlT Try.prog 84 55 13 192 := SlT.mk_ (z := .agg #[.int .i64 0, .int .i64 0, .int .i64 0, .string .empty, .int .i64 0, .int .i64 0, .int .i64 0, .int .i64 0, .slice none 0 0, .slice none 0 0, .slice none 0 0, .slice none 0 0, .slice none 0 0]) Try.underlying84 (by kernel_rfl) rfl (by decide) (by decide)
theorem ecells_one (l : List En) : ∀ u ∈ ecells l, u.oneCell' = true := by
  intro u hu
  unfold ecells at hu
  obtain ⟨e, _, he⟩ := List.mem_flatMap.1 hu
  unfold En.cells at he
  simp at he
  rcases he with h | h | h | h | h | h | h | h | h | h | h | h | h | h | h <;> (subst h; rfl)
theorem ccells_one (l : List Cm) : ∀ u ∈ ccells l, u.oneCell' = true := by
  intro u hu
  unfold ccells at hu
  obtain ⟨e, _, he⟩ := List.mem_flatMap.1 hu
  unfold Cm.cells at he
  simp at he
  rcases he with h | h | h | h | h | h | h | h | h | h | h | h | h <;> (subst h; rfl)
/-- A slice that a call has made, of ints. -/
structure NewI (w w' : World) (s : Sl) (l : List Int) : Prop where
  len : s.len = l.length
  app : AppAt w w' (.slice s.addr s.len s.cap) s.len 3 1 (icells l)
theorem NewI.keep {w w' w'' : World} {s : Sl} {l : List Int} (h : NewI w w' s l) (hs : Same noB w' w'') : NewI w w'' s l := ⟨h.len, h.app.keep hs⟩
theorem NewI.is {w w' : World} {s : Sl} {l : List Int} {bad : Nat → Prop} (h : NewI w w' s l) (hb : ∀ b, bad b → b < w.heap.size) : SlIs w' bad s l := ⟨h.len, h.app.rd hb⟩
theorem clone63_any {w : World} {bad : Nat → Prop} {s : Sl} {l : List Int} (h : SlIs w bad s l) (hlen : l.length ≤ 1000000) :
    Calls Try.prog 63 #[.slice s.addr s.len s.cap] w fun e w' => ∃ s' : Sl, e = .returned (.slice s'.addr s'.len s'.cap) ∧ NewI w w' s' l := by
  obtain ⟨A, n, c⟩ := s
  obtain ⟨hn, hr⟩ := h
  simp only at hn hr
  subst hn
  cases A with
  | none =>
    have hc : c = 0 ∧ l.length = 0 := by
      obtain ⟨A', c', e, h1, h2, h3, h4, h5⟩ := hr
      injection e with e1 e2 e3
      subst e1 e3
      have := h4 rfl
      omega
    obtain ⟨rfl, hl⟩ := hc
    obtain rfl : l = [] := List.eq_nil_of_length_eq_zero hl
    have he : ∀ w, (binOp .eql 49 (.slice none 0 0) (.slice none 0 0)).run Try.prog w = .ok (.bool true) w := fun _ => rfl
    clear hr hl
    go_enter Try.func63, Try.ntmps63
    go_wp2_with fail
    go_ret
    exact ⟨⟨none, 0, 0⟩, rfl, rfl, AppAt.nil_ _ _ _⟩
  | some a =>
    have he : ∀ w, (binOp .eql 49 (.slice (some a) l.length c) (.slice none 0 0)).run Try.prog w = .ok (.bool false) w := fun _ => rfl
    have HR := Lib.hid (hr.keep ((Same.refl noB w).alloc (.cells #[] 3)))
    clear hr
    go_enter Try.func63, Try.ntmps63
    go_wp2_with (at_builtin; refine wpL_app slI rfl _ _ rfl rfl (own_lit w 3 1) rfl HR.out (icells_one l) (by omega) (Nat.zero_le _) ?_; intro A4 c4 W4 hown4 hgrow4 hat4 _; have HA := Lib.hid ((AppAt.lit w 3 1).next hgrow4 hat4 hown4); clear hown4 hgrow4 hat4)
    go_ret
    have h1 := HA.out
    simp only [Nat.zero_add, List.nil_append] at h1
    exact ⟨⟨A4, l.length, c4⟩, rfl, rfl, h1⟩
theorem clone53_any {w : World} {bad : Nat → Prop} {v : Value} {es : List En} (h : Rd w bad 15 v es.length (ecells es)) (hlen : es.length ≤ 100000) :
    Calls Try.prog 53 #[v] w fun e w' => ∃ A c, e = .returned (.slice A es.length c) ∧ AppAt w w' (.slice A es.length c) es.length 57 15 (ecells es) := by
  obtain ⟨A, c, rfl, hc1, hc2, hr⟩ := h.form
  clear h
  cases A with
  | none =>
    have hc : c = 0 ∧ es.length = 0 := by
      obtain ⟨A', c', e, h1, h2, h3, h4, h5⟩ := hr
      injection e with e1 e2 e3
      subst e1 e3
      have := h4 rfl
      omega
    obtain ⟨rfl, hl⟩ := hc
    obtain rfl : es = [] := List.eq_nil_of_length_eq_zero hl
    have he : ∀ w, (binOp .eql 27 (.slice none 0 0) (.slice none 0 0)).run Try.prog w = .ok (.bool true) w := fun _ => rfl
    clear hr hl hc1 hc2
    go_enter Try.func53, Try.ntmps53
    go_wp2_with fail
    go_ret
    exact ⟨none, 0, rfl, AppAt.nil_ _ _ _⟩
  | some a =>
    have he : ∀ w, (binOp .eql 27 (.slice (some a) es.length c) (.slice none 0 0)).run Try.prog w = .ok (.bool false) w := fun _ => rfl
    have HR := Lib.hid (hr.keep ((Same.refl noB w).alloc (.cells #[] 57)))
    clear hr hc1 hc2
    go_enter Try.func53, Try.ntmps53
    go_wp2_with (at_builtin; refine wpL_app slE rfl _ _ rfl rfl (own_lit w 57 15) rfl HR.out (ecells_one es) (by omega) (Nat.zero_le _) ?_; intro A4 c4 W4 hown4 hgrow4 hat4 _; have HA := Lib.hid ((AppAt.lit w 57 15).next hgrow4 hat4 hown4); clear hown4 hgrow4 hat4)
    go_ret
    have h1 := HA.out
    simp only [Nat.zero_add, List.nil_append] at h1
    exact ⟨A4, c4, rfl, h1⟩
end Go.Proofs.Ytlocfbjeljgblaa
