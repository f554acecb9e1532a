/-
  No cell of these rows narrows 'for every input' (looked for: loops, veiled, ifaces, maps, wideKeys, modest, calm, conditions, laid).
  DERIVED. THE GIVEN ROWS OF THIS SEAT. 7 by the template 'for every input the law returns true; each argument reads behind the call as it read before'; 0 by the template 'total and deterministic' (their statements: YtgmoeejhgjfpgaaTotals.lean).
  GIVEN WITH THE SEED: the statements are not yours to turn. If you find one false, say at which input.
  Laid BY PROGRAM, IN A SANDBOX (cutbox-rows.mjs): the forced cells as the released guide's own fill.sh prints them over the translation 0fb5cf960d3ddce0… (all of the seat's roots in one cut). By AI agents, Wed Nov 11 2026. No macro, syntax, notation, axiom, sorry.
-/
import Derived.Test.YtgmoeejhgjfpgaaChecked
import GoSem.Claim
import GoSem.ClaimJoined
import GoSem.ClaimMapViews
import Derived.JoinedTies
import Derived.KernelRfl
namespace Go.Proofs.Ytgmoeejhgjfpgaa
/- THE CELL 'sum', in the pinned program and in every row, IS THE sha256 OF THE DUMP (.gsa) THAT YtgmoeejhgjfpgaaProg.lean LOADS. Nothing in Lean hashes anything: it is a label: what it is worth is what the hold of that sum in a sandbox is worth. -/
noncomputable def Try.pinned : Pinned := { name := "ytgmoeejhgjfpgaa", sum := "0fb5cf960d3ddce0e5236390e63db75f61893d7ac53a1995432f51764170f3aa", checked := Try.checked }
namespace Rows
def none {H : Type} : Left H := { results := [], args := [] }

/-- 'exoduslaw46.NetworkConserves': WHATEVER THE INPUT: true; the input reads as it did. -/
def networkConservesSpec : ChangeSpec := { name := "networkConserves", fn := fun _ => fun
  | [d] => { results := [.lit (.bool true)], args := [d] }
  | _ => none }
def networkConservesRow : OpenClaim := { program := "ytgmoeejhgjfpgaa", sum := "0fb5cf960d3ddce0e5236390e63db75f61893d7ac53a1995432f51764170f3aa", func := "exodus/exoduslaw46.NetworkConserves", spec := "networkConserves", unfollowed := true, recurses := true, plainKeys := false, apart := false }
def NetworkConservesSaid : Prop := networkConservesRow.holds Try.pinned (OpenSpec.ofChange networkConservesSpec)

/-- ITS FALSE NEIGHBOUR: 'it returns false'. Refute it at one input. -/
def networkConservesWrong : ChangeSpec := { name := "networkConserves", fn := fun _ => fun
  | [d] => { results := [.lit (.bool false)], args := [d] }
  | _ => none }
def NetworkConservesWrongFalsely : Prop := networkConservesRow.holds Try.pinned (OpenSpec.ofChange networkConservesWrong)

/-- 'exoduslaw46.NetworkOperations': WHATEVER THE INPUT: true; the input reads as it did. -/
def networkOperationsSpec : ChangeSpec := { name := "networkOperations", fn := fun _ => fun
  | [d] => { results := [.lit (.bool true)], args := [d] }
  | _ => none }
def networkOperationsRow : OpenClaim := { program := "ytgmoeejhgjfpgaa", sum := "0fb5cf960d3ddce0e5236390e63db75f61893d7ac53a1995432f51764170f3aa", func := "exodus/exoduslaw46.NetworkOperations", spec := "networkOperations", unfollowed := true, recurses := true, plainKeys := false, apart := false }
def NetworkOperationsSaid : Prop := networkOperationsRow.holds Try.pinned (OpenSpec.ofChange networkOperationsSpec)

/-- ITS FALSE NEIGHBOUR: 'it returns false'. Refute it at one input. -/
def networkOperationsWrong : ChangeSpec := { name := "networkOperations", fn := fun _ => fun
  | [d] => { results := [.lit (.bool false)], args := [d] }
  | _ => none }
def NetworkOperationsWrongFalsely : Prop := networkOperationsRow.holds Try.pinned (OpenSpec.ofChange networkOperationsWrong)

/-- 'exoduslaw46.NetworkNumbers': WHATEVER THE INPUT: true; the input reads as it did. -/
def networkNumbersSpec : ChangeSpec := { name := "networkNumbers", fn := fun _ => fun
  | [d] => { results := [.lit (.bool true)], args := [d] }
  | _ => none }
def networkNumbersRow : OpenClaim := { program := "ytgmoeejhgjfpgaa", sum := "0fb5cf960d3ddce0e5236390e63db75f61893d7ac53a1995432f51764170f3aa", func := "exodus/exoduslaw46.NetworkNumbers", spec := "networkNumbers", unfollowed := true, recurses := true, plainKeys := false, apart := false }
def NetworkNumbersSaid : Prop := networkNumbersRow.holds Try.pinned (OpenSpec.ofChange networkNumbersSpec)

/-- ITS FALSE NEIGHBOUR: 'it returns false'. Refute it at one input. -/
def networkNumbersWrong : ChangeSpec := { name := "networkNumbers", fn := fun _ => fun
  | [d] => { results := [.lit (.bool false)], args := [d] }
  | _ => none }
def NetworkNumbersWrongFalsely : Prop := networkNumbersRow.holds Try.pinned (OpenSpec.ofChange networkNumbersWrong)

/-- 'exoduslaw46.NetworkDoubles': WHATEVER THE INPUT: true; the input reads as it did. -/
def networkDoublesSpec : ChangeSpec := { name := "networkDoubles", fn := fun _ => fun
  | [d1, d2] => { results := [.lit (.bool true)], args := [d1, d2] }
  | _ => none }
def networkDoublesRow : OpenClaim := { program := "ytgmoeejhgjfpgaa", sum := "0fb5cf960d3ddce0e5236390e63db75f61893d7ac53a1995432f51764170f3aa", func := "exodus/exoduslaw46.NetworkDoubles", spec := "networkDoubles", unfollowed := true, recurses := true, plainKeys := false, apart := false }
def NetworkDoublesSaid : Prop := networkDoublesRow.holds Try.pinned (OpenSpec.ofChange networkDoublesSpec)

/-- ITS FALSE NEIGHBOUR: 'it returns false'. Refute it at one input. -/
def networkDoublesWrong : ChangeSpec := { name := "networkDoubles", fn := fun _ => fun
  | [d1, d2] => { results := [.lit (.bool false)], args := [d1, d2] }
  | _ => none }
def NetworkDoublesWrongFalsely : Prop := networkDoublesRow.holds Try.pinned (OpenSpec.ofChange networkDoublesWrong)

/-- 'exoduslaw46.NetworkIsolates': WHATEVER THE INPUT: true; the input reads as it did. -/
def networkIsolatesSpec : ChangeSpec := { name := "networkIsolates", fn := fun _ => fun
  | [d1, d2] => { results := [.lit (.bool true)], args := [d1, d2] }
  | _ => none }
def networkIsolatesRow : OpenClaim := { program := "ytgmoeejhgjfpgaa", sum := "0fb5cf960d3ddce0e5236390e63db75f61893d7ac53a1995432f51764170f3aa", func := "exodus/exoduslaw46.NetworkIsolates", spec := "networkIsolates", inPlace := ["maps.clone"], unfollowed := true, recurses := true, plainKeys := false, apart := false }
def NetworkIsolatesSaid : Prop := networkIsolatesRow.holds Try.pinned (OpenSpec.ofChange networkIsolatesSpec)

/-- ITS FALSE NEIGHBOUR: 'it returns false'. Refute it at one input. -/
def networkIsolatesWrong : ChangeSpec := { name := "networkIsolates", fn := fun _ => fun
  | [d1, d2] => { results := [.lit (.bool false)], args := [d1, d2] }
  | _ => none }
def NetworkIsolatesWrongFalsely : Prop := networkIsolatesRow.holds Try.pinned (OpenSpec.ofChange networkIsolatesWrong)

/-- 'exoduslaw46.NetworkEmpty': WHATEVER THE INPUT: true; the input reads as it did. -/
def networkEmptySpec : ChangeSpec := { name := "networkEmpty", fn := fun _ => fun
  | [d1, d2] => { results := [.lit (.bool true)], args := [d1, d2] }
  | _ => none }
def networkEmptyRow : OpenClaim := { program := "ytgmoeejhgjfpgaa", sum := "0fb5cf960d3ddce0e5236390e63db75f61893d7ac53a1995432f51764170f3aa", func := "exodus/exoduslaw46.NetworkEmpty", spec := "networkEmpty", inPlace := ["maps.clone"], unfollowed := true, recurses := true, plainKeys := false, apart := false }
def NetworkEmptySaid : Prop := networkEmptyRow.holds Try.pinned (OpenSpec.ofChange networkEmptySpec)

/-- ITS FALSE NEIGHBOUR: 'it returns false'. Refute it at one input. -/
def networkEmptyWrong : ChangeSpec := { name := "networkEmpty", fn := fun _ => fun
  | [d1, d2] => { results := [.lit (.bool false)], args := [d1, d2] }
  | _ => none }
def NetworkEmptyWrongFalsely : Prop := networkEmptyRow.holds Try.pinned (OpenSpec.ofChange networkEmptyWrong)

/-- 'exoduslaw46.NetworkClones': WHATEVER THE INPUT: true; the input reads as it did. -/
def networkClonesSpec : ChangeSpec := { name := "networkClones", fn := fun _ => fun
  | [d1, d2] => { results := [.lit (.bool true)], args := [d1, d2] }
  | _ => none }
def networkClonesRow : OpenClaim := { program := "ytgmoeejhgjfpgaa", sum := "0fb5cf960d3ddce0e5236390e63db75f61893d7ac53a1995432f51764170f3aa", func := "exodus/exoduslaw46.NetworkClones", spec := "networkClones", inPlace := ["maps.clone"], unfollowed := true, recurses := true, plainKeys := false, apart := false }
def NetworkClonesSaid : Prop := networkClonesRow.holds Try.pinned (OpenSpec.ofChange networkClonesSpec)

/-- ITS FALSE NEIGHBOUR: 'it returns false'. Refute it at one input. -/
def networkClonesWrong : ChangeSpec := { name := "networkClones", fn := fun _ => fun
  | [d1, d2] => { results := [.lit (.bool false)], args := [d1, d2] }
  | _ => none }
def NetworkClonesWrongFalsely : Prop := networkClonesRow.holds Try.pinned (OpenSpec.ofChange networkClonesWrong)

/- THE SECOND FORM. 'bulk': how many values and letters a reading holds, each counted each time it is reached (what is shared counts as often as it is met; a slice's spare places count too). A statement '..UptoSaid' is the law's where the arguments, and the package variables that the reading takes, are together of bulk at most 1048576: NARROWER than '..Said'. Prove '..Said' where nothing that the law and all that it calls make is longer than what came in: it says more and counts as full. Else prove '..UptoSaid'. A law counts once. -/
mutual
def uptoBulk {H : Type} : DataW H → Nat
  | .lit (.string bytes) => bytes.length + 1
  | .lit _ => 1
  | .nil => 1
  | .ptr d => uptoBulk d + 1
  | .slice elems spare => uptoBulkAll elems + uptoBulkAll spare + 1
  | .agg parts => uptoBulkAll parts + 1
  | .iface _ d => uptoBulk d + 1
  | .map entries => uptoBulkEntries entries + 1
  | .held _ => 1
def uptoBulkAll {H : Type} : List (DataW H) → Nat
  | [] => 0
  | d :: r => uptoBulk d + uptoBulkAll r
def uptoBulkEntries {H : Type} : List (Lit × DataW H) → Nat
  | [] => 0
  | x :: r => uptoBulkEntry x + uptoBulkEntries r
def uptoBulkEntry {H : Type} : Lit × DataW H → Nat
  | (.string bytes, d) => bytes.length + uptoBulk d + 1
  | (_, d) => uptoBulk d + 1
 end
def uptoSmall : (H : Type) → List (DataW H) → Bool := fun _ ds => decide (uptoBulkAll ds ≤ 1048576)
def OpenSpec.upto (s : _root_.Go.ChangeSpec) : _root_.Go.OpenSpec := { _root_.Go.OpenSpec.ofChange s with cond := some uptoSmall }

/-- 'exoduslaw46.NetworkConserves', WHERE WHAT IT READS IS OF BULK AT MOST 1048576: true; the input reads as it did. -/
def networkConservesUptoRow : OpenClaim := { program := "ytgmoeejhgjfpgaa", sum := "0fb5cf960d3ddce0e5236390e63db75f61893d7ac53a1995432f51764170f3aa", func := "exodus/exoduslaw46.NetworkConserves", spec := "networkConserves", unfollowed := true, recurses := true, plainKeys := false, apart := false, narrowed := true }
def NetworkConservesUptoSaid : Prop := networkConservesUptoRow.holds Try.pinned (OpenSpec.upto networkConservesSpec)

/-- 'exoduslaw46.NetworkOperations', WHERE WHAT IT READS IS OF BULK AT MOST 1048576: true; the input reads as it did. -/
def networkOperationsUptoRow : OpenClaim := { program := "ytgmoeejhgjfpgaa", sum := "0fb5cf960d3ddce0e5236390e63db75f61893d7ac53a1995432f51764170f3aa", func := "exodus/exoduslaw46.NetworkOperations", spec := "networkOperations", unfollowed := true, recurses := true, plainKeys := false, apart := false, narrowed := true }
def NetworkOperationsUptoSaid : Prop := networkOperationsUptoRow.holds Try.pinned (OpenSpec.upto networkOperationsSpec)

/-- 'exoduslaw46.NetworkNumbers', WHERE WHAT IT READS IS OF BULK AT MOST 1048576: true; the input reads as it did. -/
def networkNumbersUptoRow : OpenClaim := { program := "ytgmoeejhgjfpgaa", sum := "0fb5cf960d3ddce0e5236390e63db75f61893d7ac53a1995432f51764170f3aa", func := "exodus/exoduslaw46.NetworkNumbers", spec := "networkNumbers", unfollowed := true, recurses := true, plainKeys := false, apart := false, narrowed := true }
def NetworkNumbersUptoSaid : Prop := networkNumbersUptoRow.holds Try.pinned (OpenSpec.upto networkNumbersSpec)

/-- 'exoduslaw46.NetworkDoubles', WHERE WHAT IT READS IS OF BULK AT MOST 1048576: true; the input reads as it did. -/
def networkDoublesUptoRow : OpenClaim := { program := "ytgmoeejhgjfpgaa", sum := "0fb5cf960d3ddce0e5236390e63db75f61893d7ac53a1995432f51764170f3aa", func := "exodus/exoduslaw46.NetworkDoubles", spec := "networkDoubles", unfollowed := true, recurses := true, plainKeys := false, apart := false, narrowed := true }
def NetworkDoublesUptoSaid : Prop := networkDoublesUptoRow.holds Try.pinned (OpenSpec.upto networkDoublesSpec)

/-- 'exoduslaw46.NetworkIsolates', WHERE WHAT IT READS IS OF BULK AT MOST 1048576: true; the input reads as it did. -/
def networkIsolatesUptoRow : OpenClaim := { program := "ytgmoeejhgjfpgaa", sum := "0fb5cf960d3ddce0e5236390e63db75f61893d7ac53a1995432f51764170f3aa", func := "exodus/exoduslaw46.NetworkIsolates", spec := "networkIsolates", inPlace := ["maps.clone"], unfollowed := true, recurses := true, plainKeys := false, apart := false, narrowed := true }
def NetworkIsolatesUptoSaid : Prop := networkIsolatesUptoRow.holds Try.pinned (OpenSpec.upto networkIsolatesSpec)

/-- 'exoduslaw46.NetworkEmpty', WHERE WHAT IT READS IS OF BULK AT MOST 1048576: true; the input reads as it did. -/
def networkEmptyUptoRow : OpenClaim := { program := "ytgmoeejhgjfpgaa", sum := "0fb5cf960d3ddce0e5236390e63db75f61893d7ac53a1995432f51764170f3aa", func := "exodus/exoduslaw46.NetworkEmpty", spec := "networkEmpty", inPlace := ["maps.clone"], unfollowed := true, recurses := true, plainKeys := false, apart := false, narrowed := true }
def NetworkEmptyUptoSaid : Prop := networkEmptyUptoRow.holds Try.pinned (OpenSpec.upto networkEmptySpec)

/-- 'exoduslaw46.NetworkClones', WHERE WHAT IT READS IS OF BULK AT MOST 1048576: true; the input reads as it did. -/
def networkClonesUptoRow : OpenClaim := { program := "ytgmoeejhgjfpgaa", sum := "0fb5cf960d3ddce0e5236390e63db75f61893d7ac53a1995432f51764170f3aa", func := "exodus/exoduslaw46.NetworkClones", spec := "networkClones", inPlace := ["maps.clone"], unfollowed := true, recurses := true, plainKeys := false, apart := false, narrowed := true }
def NetworkClonesUptoSaid : Prop := networkClonesUptoRow.holds Try.pinned (OpenSpec.upto networkClonesSpec)

end Rows
end Go.Proofs.Ytgmoeejhgjfpgaa
