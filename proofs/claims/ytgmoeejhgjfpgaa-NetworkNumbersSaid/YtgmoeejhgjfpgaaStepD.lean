/- A step of another kind; Deliver. -/
import Derived.Test.YtgmoeejhgjfpgaaStepC
namespace Go.Proofs.Ytgmoeejhgjfpgaa
open Go Go.RowKit Go.Maps

set_option maxHeartbeats 4000000 in
theorem step_none {T L : Nat → Prop} {w : World} {n k : Nat} {st : NetSt} {v : Value} (h : NR T L w n st k v) (o : Opn) (hk : ¬ (0 ≤ o.kind ∧ o.kind ≤ 5)) :
    Calls Try.prog 27 #[.pointer (some ⟨n, 0, none⟩), v, o.val] w fun e w' => ∃ v', e = .returned (.tuple #[v', .bool true]) ∧ NR T L w' n st k v' ∧ Same (notB T) w w' := by
  obtain ⟨hT, hLL, S, h1, h2, h3⟩ := h
  obtain ⟨A, c, A', c', rfl, _, _⟩ := id h3
  have HF := Lib.hid (And.intro hT (And.intro hLL (And.intro h1 (And.intro h2 h3))))
  clear h1 h2 h3 hT hLL
  unfold Opn.val
  have k0 : (o.kind == 0) = false := by simp; omega
  have k1 : (o.kind == 1) = false := by simp; omega
  have k2 : (o.kind == 2) = false := by simp; omega
  have k3 : (o.kind == 3) = false := by simp; omega
  have k4 : (o.kind == 4) = false := by simp; omega
  have k5 : (o.kind == 5) = false := by simp; omega
  clear hk
  go_enter Try.func27, Try.ntmps27
  go_wp2_with fail
  obtain ⟨hT, hLL, h1, h2, h3⟩ := HF.out
  have hs : Same noB w (((w.alloc (.cells #[.slice A st.ps.length c, .int .i64 st.last, .slice A' st.iso.length c'] 43)).alloc (.cells #[.int .i64 o.kind, .int .i64 o.a, .int .i64 o.b, .int .i64 o.i, .string o.data] 30)).alloc (.cells #[.slice A st.ps.length c, .int .i64 st.last, .slice A' st.iso.length c'] 43)) := (((Same.refl _ _).alloc _).alloc _).alloc _
  have hb := Blk.new ((w.alloc (.cells #[.slice A st.ps.length c, .int .i64 st.last, .slice A' st.iso.length c'] 43)).alloc (.cells #[.int .i64 o.kind, .int .i64 o.a, .int .i64 o.b, .int .i64 o.i, .string o.data] 30)) 43 #[.slice A st.ps.length c, .int .i64 st.last, .slice A' st.iso.length c']
  rw [show ((w.alloc (.cells #[.slice A st.ps.length c, .int .i64 st.last, .slice A' st.iso.length c'] 43)).alloc (.cells #[.int .i64 o.kind, .int .i64 o.a, .int .i64 o.b, .int .i64 o.i, .string o.data] 30)).heap.size = w.heap.size + 1 + 1 from by simp] at hb
  exact bodyPost_ret (res_ref rfl hb rfl rfl) rfl ⟨_, rfl, ⟨fun b hb => Nat.lt_of_lt_of_le (hT b hb) hs.size, fun b hb => Nat.lt_of_lt_of_le (hLL b hb) hs.size, S, h1.same hs (fun _ _ x => x), h2, h3.keep hs⟩, hs.of_no⟩
end Go.Proofs.Ytgmoeejhgjfpgaa
