/- NetworkOperations: its walk. -/
import Derived.Test.YtgmoeejhgjfpgaaSame
import Derived.Test.YtgmoeejhgjfpgaaNetG
namespace Go.Proofs.Ytgmoeejhgjfpgaa
open Go Go.RowKit Go.Maps

theorem few_len {l : List Opn} {most : Int} (h : few l most = true) : (l.length : Int) ≤ most := by
  unfold few at h
  rw [Bool.and_eq_true] at h
  exact of_decide_eq_true h.2
theorem NetSt.Upto.ps_len {st : NetSt} {j : Nat} (h : st.Upto j) (hj : j ≤ 1000) : st.ps.length ≤ 1000000 := by have := h.len; omega
theorem acts_upto {l : List Opn} (hok : ∀ o ∈ l, o.ok) : (startSt.acts l).Upto l.length := by
  have := (start_upto 0).acts l hok
  rwa [Nat.zero_add] at this

set_option maxHeartbeats 2000000 in
theorem operations_any {w : World} {v : Value} {l : List Opn} (h : Rd w noB 5 v l.length (ocells l)) (hok : ∀ o ∈ l, o.ok) :
    Calls Try.prog 4 #[v] w fun e w' => e = .returned (.bool true) ∧ Same noB w w' := by
  have H0 := Lib.hid (few_any h 40 (fun o ho => (hok o ho).2.2.2.2))
  by_cases hf : few l 40 = true
  · have hlen := few_len hf
    have hl : l.length ≤ 40 := by omega
    have HU := Lib.hid (acts_upto hok)
    have HR := Lib.hid (run_any h hok (by omega))
    have H := Lib.hid h
    have HO := Lib.hid hok
    rw [hf] at H0
    clear h hok hf hlen
    go_enter Try.func4, Try.ntmps4
    go_wp2_with fail
    have hZ := H0.out
    (with_reducible refine Calls.mono hZ ?_)
    clear hZ
    rintro e w1 ⟨rfl, rfl⟩
    go_wp2_with fail
    have hZ := HR.out
    (with_reducible refine Calls.mono hZ ?_)
    clear hZ
    rintro e w2 ⟨n, v', k, rfl, hn, hs, _⟩
    obtain ⟨A, c, A', c', rfl, _, _⟩ := id hn.ref
    have HN := Lib.hid hn
    have HS := Lib.hid hs
    clear hn hs
    go_wp2_with fail
    refine (same_any (HN.out.keep ((Same.refl _ _).alloc _)) (H.out.same (bad' := noB) (HS.out.alloc _) (fun _ _ x => x) (fun _ _ x => x)) HO.out (HU.out.ps_len (by omega))).mono ?_
    rintro e w3 ⟨rfl, hs⟩
    have HS3 := Lib.hid ((HS.out.alloc _).trans' hs)
    clear hs HS
    go_wp2_with fail
    refine (awake_any _).mono ?_
    rintro e w4 ⟨rfl, hs⟩
    have HS4 := Lib.hid (HS3.out.trans' hs)
    clear hs HS3
    go_wp2_with fail
    go_ret
    exact ⟨rfl, HS4.out⟩
  · rw [Bool.not_eq_true] at hf
    rw [hf] at H0
    clear h hok hf
    go_enter Try.func4, Try.ntmps4
    go_wp2_with fail
    have hZ := H0.out
    (with_reducible refine Calls.mono hZ ?_)
    clear hZ
    rintro e w1 ⟨rfl, rfl⟩
    go_wp2_with fail
    refine (awake_any _).mono ?_
    rintro e w4 ⟨rfl, hs⟩
    have HS := Lib.hid hs
    clear hs
    go_wp2_with fail
    go_ret
    exact ⟨rfl, HS.out⟩
end Go.Proofs.Ytgmoeejhgjfpgaa
