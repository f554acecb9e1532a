/- Layer 14: exists, amount, the closures, IndexFunc, ContainsFunc. -/
import Derived.Test.YtkmclglphelhdaaRows
import Derived.Test.YtkmclglphelhdaaSiteM
namespace Go.Proofs.Ytkmclglphelhdaa
open Go Go.RowKit

def Rk.val (x : Rk) : Value := .agg #[.string x.name, .int .i64 x.site, .int .i64 x.feed]
def Mc.val (x : Mc) : Value := .agg #[.string x.name, .int .i64 x.rack, .int .i64 x.cap]
def Lk.val (x : Lk) : Value := .agg #[.int .i64 x.a, .int .i64 x.b, .int .i64 x.cap]

theorem exists_any (n : Int) (len : Nat) (w : World) : Calls Try.prog 31 #[.int .i64 n, .int .i64 len] w fun e w' => e = .returned (.bool (exB n len)) ∧ w' = w := by
  have HQ : Hid (exB n len = (decide (1 ≤ n) && decide (n ≤ (len : Int)))) := rfl
  generalize exB n len = q at *
  by_cases h1 : 1 ≤ n
  · by_cases h2 : n ≤ (len : Int)
    · go_enter Try.func31, Try.ntmps31
      go_wp2_with fail
      go_ret
      exact ⟨by rw [HQ.out]; simp [h1, h2], rfl⟩
    · go_enter Try.func31, Try.ntmps31
      go_wp2_with fail
      go_ret
      exact ⟨by rw [HQ.out]; simp [h1, h2], rfl⟩
  · go_enter Try.func31, Try.ntmps31
    go_wp2_with fail
    go_ret
    exact ⟨by rw [HQ.out]; simp; omega, rfl⟩
theorem rexists_any (n : Int) (len : Nat) (w : World) : Calls Try.prog 23 #[.int .i64 n, .int .i64 len] w fun e w' => e = .returned (.bool (exB n len)) ∧ w' = w := by
  have HQ : Hid (exB n len = (decide (1 ≤ n) && decide (n ≤ (len : Int)))) := rfl
  generalize exB n len = q at *
  by_cases h1 : 1 ≤ n
  · by_cases h2 : n ≤ (len : Int)
    · go_enter Try.func23, Try.ntmps23
      go_wp2_with fail
      go_ret
      exact ⟨by rw [HQ.out]; simp [h1, h2], rfl⟩
    · go_enter Try.func23, Try.ntmps23
      go_wp2_with fail
      go_ret
      exact ⟨by rw [HQ.out]; simp [h1, h2], rfl⟩
  · go_enter Try.func23, Try.ntmps23
    go_wp2_with fail
    go_ret
    exact ⟨by rw [HQ.out]; simp; omega, rfl⟩
theorem amount_any (n : Int) (w : World) : Calls Try.prog 38 #[.int .i64 n] w fun e w' => e = .returned (.bool (amtB n)) ∧ w' = w := by
  have HQ : Hid (amtB n = (decide (0 ≤ n) && decide (n ≤ 1048576))) := rfl
  generalize amtB n = q at *
  by_cases h1 : 0 ≤ n
  · by_cases h2 : n ≤ 1048576
    · go_enter Try.func38, Try.ntmps38
      go_wp2_with fail
      go_ret
      exact ⟨by rw [HQ.out]; simp [h1, h2], rfl⟩
    · go_enter Try.func38, Try.ntmps38
      go_wp2_with fail
      go_ret
      exact ⟨by rw [HQ.out]; simp [h1, h2], rfl⟩
  · go_enter Try.func38, Try.ntmps38
    go_wp2_with fail
    go_ret
    exact ⟨by rw [HQ.out]; simp; omega, rfl⟩
theorem rnumber_any (n : Int) (w : World) : Calls Try.prog 43 #[.int .i64 n] w fun e w' => e = .returned (.bool (amtB n)) ∧ w' = w := by
  have HQ : Hid (amtB n = (decide (0 ≤ n) && decide (n ≤ 1048576))) := rfl
  generalize amtB n = q at *
  by_cases h1 : 0 ≤ n
  · by_cases h2 : n ≤ 1048576
    · go_enter Try.func43, Try.ntmps43
      go_wp2_with fail
      go_ret
      exact ⟨by rw [HQ.out]; simp [h1, h2], rfl⟩
    · go_enter Try.func43, Try.ntmps43
      go_wp2_with fail
      go_ret
      exact ⟨by rw [HQ.out]; simp [h1, h2], rfl⟩
  · go_enter Try.func43, Try.ntmps43
    go_wp2_with fail
    go_ret
    exact ⟨by rw [HQ.out]; simp; omega, rfl⟩

def otherB (x y : Rk) : Bool := y.feed == x.feed && y.site != x.site
def sameB (x y : Lk) : Bool := y.a == x.a && y.b == x.b
theorem c34 {w : World} {g : Nat} {x : Rk} (hb : Blk w g 42 x.cells.toArray) (y : Rk) :
    Calls Try.prog 34 #[y.val, .pointer (some ⟨g, 0, none⟩)] w fun e w' => e = .returned (.bool (otherB x y)) ∧ Same noB w w' := by
  have HQ : Hid (otherB x y = (y.feed == x.feed && y.site != x.site)) := rfl
  generalize otherB x y = q at *
  have g1 : w.cell? ⟨g, 1, none⟩ = some (.int .i64 x.site) := hb.cell 1
  have g2 : w.cell? ⟨g, 2, none⟩ = some (.int .i64 x.feed) := hb.cell 2
  have gl := hb.lt
  clear hb
  unfold Rk.val
  cases hf : (y.feed == x.feed)
  · rw [hf] at HQ
    go_enter Try.func34, Try.ntmps34
    go_wp2_with fail
    go_ret
    exact ⟨by rw [HQ.out]; rfl, (Same.refl _ _).alloc _⟩
  · rw [hf] at HQ
    cases hs : (y.site != x.site)
    · rw [hs] at HQ
      go_enter Try.func34, Try.ntmps34
      go_wp2_with fail
      go_ret
      exact ⟨by rw [HQ.out]; rfl, (Same.refl _ _).alloc _⟩
    · rw [hs] at HQ
      go_enter Try.func34, Try.ntmps34
      go_wp2_with fail
      go_ret
      exact ⟨by rw [HQ.out]; rfl, (Same.refl _ _).alloc _⟩
theorem c41 {w : World} {g : Nat} {x : Lk} (hb : Blk w g 58 x.cells.toArray) (y : Lk) :
    Calls Try.prog 41 #[y.val, .pointer (some ⟨g, 0, none⟩)] w fun e w' => e = .returned (.bool (sameB x y)) ∧ Same noB w w' := by
  have HQ : Hid (sameB x y = (y.a == x.a && y.b == x.b)) := rfl
  generalize sameB x y = q at *
  have g1 : w.cell? ⟨g, 0, none⟩ = some (.int .i64 x.a) := hb.cell 0
  have g2 : w.cell? ⟨g, 1, none⟩ = some (.int .i64 x.b) := hb.cell 1
  have gl := hb.lt
  clear hb
  unfold Lk.val
  cases hf : (y.a == x.a)
  · rw [hf] at HQ
    go_enter Try.func41, Try.ntmps41
    go_wp2_with fail
    go_ret
    exact ⟨by rw [HQ.out]; rfl, (Same.refl _ _).alloc _⟩
  · rw [hf] at HQ
    cases hs : (y.b == x.b)
    · rw [hs] at HQ
      go_enter Try.func41, Try.ntmps41
      go_wp2_with fail
      go_ret
      exact ⟨by rw [HQ.out]; rfl, (Same.refl _ _).alloc _⟩
    · rw [hs] at HQ
      go_enter Try.func41, Try.ntmps41
      go_wp2_with fail
      go_ret
      exact ⟨by rw [HQ.out]; rfl, (Same.refl _ _).alloc _⟩
theorem c48 {w : World} {g g' : Nat} {a b : Int} (ha : Blk w g 3 #[.int .i64 a]) (hb : Blk w g' 3 #[.int .i64 b]) (y : Lk) :
    Calls Try.prog 48 #[y.val, .pointer (some ⟨g, 0, none⟩), .pointer (some ⟨g', 0, none⟩)] w fun e w' => e = .returned (.bool (Mdl.joins a b y)) ∧ Same noB w w' := by
  have HQ : Hid (Mdl.joins a b y = ((y.a == a && y.b == b) || (y.a == b && y.b == a))) := rfl
  generalize Mdl.joins a b y = q at *
  have g1 : w.cell? ⟨g, 0, none⟩ = some (.int .i64 a) := ha.cell 0
  have g2 : w.cell? ⟨g', 0, none⟩ = some (.int .i64 b) := hb.cell 0
  have gl := ha.lt
  have gl2 := hb.lt
  clear ha hb
  unfold Lk.val
  cases h1 : (y.a == a) <;> cases h2 : (y.b == b) <;> cases h3 : (y.a == b) <;> cases h4 : (y.b == a)
  all_goals
    rw [h1, h2, h3, h4] at HQ
    go_enter Try.func48, Try.ntmps48
    go_wp2_with fail
    go_ret
    exact ⟨by rw [HQ.out]; rfl, (Same.refl _ _).alloc _⟩
end Go.Proofs.Ytkmclglphelhdaa
