/- Layer 14: exists, amount, the closures, IndexFunc, ContainsFunc. -/
import Derived.Test.YtpngmodgnkjhnaaRows
import Derived.Test.YtpngmodgnkjhnaaSiteM
namespace Go.Proofs.Ytpngmodgnkjhnaa
open Go Go.RowKit
set_option maxRecDepth 100000

def Rk.val (x : Rk) : Value := .agg #[.string x.name, .int .i64 x.site, .int .i64 x.feed]
def Mc.val (x : Mc) : Value := .agg #[.string x.name, .int .i64 x.rack, .int .i64 x.cap]
def Lk.val (x : Lk) : Value := .agg #[.int .i64 x.a, .int .i64 x.b, .int .i64 x.cap]

theorem exists_any (n : Int) (len : Nat) (w : World) : Calls Try.prog 60 #[.int .i64 n, .int .i64 len] w fun e w' => e = .returned (.bool (exB n len)) ∧ w' = w := by
  have HQ : Hid (exB n len = (decide (1 ≤ n) && decide (n ≤ (len : Int)))) := rfl
  generalize exB n len = q at *
  by_cases h1 : 1 ≤ n
  · by_cases h2 : n ≤ (len : Int)
    · go_enter Try.func60, Try.ntmps60
      go_wp2_with fail
      go_ret
      exact ⟨by rw [HQ.out]; simp [h1, h2], rfl⟩
    · go_enter Try.func60, Try.ntmps60
      go_wp2_with fail
      go_ret
      exact ⟨by rw [HQ.out]; simp [h1, h2], rfl⟩
  · go_enter Try.func60, Try.ntmps60
    go_wp2_with fail
    go_ret
    exact ⟨by rw [HQ.out]; simp; omega, rfl⟩
theorem rexists_any (n : Int) (len : Nat) (w : World) : Calls Try.prog 29 #[.int .i64 n, .int .i64 len] w fun e w' => e = .returned (.bool (exB n len)) ∧ w' = w := by
  have HQ : Hid (exB n len = (decide (1 ≤ n) && decide (n ≤ (len : Int)))) := rfl
  generalize exB n len = q at *
  by_cases h1 : 1 ≤ n
  · by_cases h2 : n ≤ (len : Int)
    · go_enter Try.func29, Try.ntmps29
      go_wp2_with fail
      go_ret
      exact ⟨by rw [HQ.out]; simp [h1, h2], rfl⟩
    · go_enter Try.func29, Try.ntmps29
      go_wp2_with fail
      go_ret
      exact ⟨by rw [HQ.out]; simp [h1, h2], rfl⟩
  · go_enter Try.func29, Try.ntmps29
    go_wp2_with fail
    go_ret
    exact ⟨by rw [HQ.out]; simp; omega, rfl⟩
theorem rnumber_any (n : Int) (w : World) : Calls Try.prog 61 #[.int .i64 n] w fun e w' => e = .returned (.bool (amtB n)) ∧ w' = w := by
  have HQ : Hid (amtB n = (decide (0 ≤ n) && decide (n ≤ 1048576))) := rfl
  generalize amtB n = q at *
  by_cases h1 : 0 ≤ n
  · by_cases h2 : n ≤ 1048576
    · go_enter Try.func61, Try.ntmps61
      go_wp2_with fail
      go_ret
      exact ⟨by rw [HQ.out]; simp [h1, h2], rfl⟩
    · go_enter Try.func61, Try.ntmps61
      go_wp2_with fail
      go_ret
      exact ⟨by rw [HQ.out]; simp [h1, h2], rfl⟩
  · go_enter Try.func61, Try.ntmps61
    go_wp2_with fail
    go_ret
    exact ⟨by rw [HQ.out]; simp; omega, rfl⟩

def otherB (x y : Rk) : Bool := y.feed == x.feed && y.site != x.site
def sameB (x y : Lk) : Bool := y.a == x.a && y.b == x.b
end Go.Proofs.Ytpngmodgnkjhnaa
