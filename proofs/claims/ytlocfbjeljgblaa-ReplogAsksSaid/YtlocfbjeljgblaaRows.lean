/-
  No cell of these rows narrows 'for every input' (looked for: loops, veiled, ifaces, maps, wideKeys, modest, calm, conditions, laid).
  DERIVED. THE GIVEN ROWS OF THIS SEAT. 6 by the template 'for every input the law returns true; each argument reads behind the call as it read before'; 0 by the template 'total and deterministic' (their statements: YtlocfbjeljgblaaTotals.lean).
  GIVEN WITH THE SEED: the statements are not yours to turn. If you find one false, say at which input.
  Laid BY PROGRAM, IN A SANDBOX (cutbox-rows.mjs): the forced cells as the released guide's own fill.sh prints them over the translation 0f526075bd6c362f… (all of the seat's roots in one cut). By AI agents, Wed Nov 11 2026. No macro, syntax, notation, axiom, sorry.
-/
import Derived.Test.YtlocfbjeljgblaaChecked
import GoSem.Claim
import GoSem.ClaimJoined
import GoSem.ClaimMapViews
import Derived.JoinedTies
import Derived.KernelRfl
namespace Go.Proofs.Ytlocfbjeljgblaa
/- THE CELL 'sum', in the pinned program and in every row, IS THE sha256 OF THE DUMP (.gsa) THAT YtlocfbjeljgblaaProg.lean LOADS. Nothing in Lean hashes anything: it is a label: what it is worth is what the hold of that sum in a sandbox is worth. -/
noncomputable def Try.pinned : Pinned := { name := "ytlocfbjeljgblaa", sum := "0f526075bd6c362f9c6256acc172db4c15bf4c3b56608fd71f1381a9a2ef6b7c", checked := Try.checked }
namespace Rows
def none {H : Type} : Left H := { results := [], args := [] }

/-- 'exoduslaw36.ReplogCalls': WHATEVER THE INPUT: true; the input reads as it did. -/
def replogCallsSpec : ChangeSpec := { name := "replogCalls", fn := fun _ => fun
  | [d1, d2, d3] => { results := [.lit (.bool true)], args := [d1, d2, d3] }
  | _ => none }
def replogCallsRow : OpenClaim := { program := "ytlocfbjeljgblaa", sum := "0f526075bd6c362f9c6256acc172db4c15bf4c3b56608fd71f1381a9a2ef6b7c", func := "exodus/exoduslaw36.ReplogCalls", spec := "replogCalls", unfollowed := true, recurses := true, apart := false }
def ReplogCallsSaid : Prop := replogCallsRow.holds Try.pinned (OpenSpec.ofChange replogCallsSpec)

/-- ITS FALSE NEIGHBOUR: 'it returns false'. Refute it at one input. -/
def replogCallsWrong : ChangeSpec := { name := "replogCalls", fn := fun _ => fun
  | [d1, d2, d3] => { results := [.lit (.bool false)], args := [d1, d2, d3] }
  | _ => none }
def ReplogCallsWrongFalsely : Prop := replogCallsRow.holds Try.pinned (OpenSpec.ofChange replogCallsWrong)

/-- 'exoduslaw36.ReplogAgrees': WHATEVER THE INPUT: true; the input reads as it did. -/
def replogAgreesSpec : ChangeSpec := { name := "replogAgrees", fn := fun _ => fun
  | [d1, d2, d3] => { results := [.lit (.bool true)], args := [d1, d2, d3] }
  | _ => none }
def replogAgreesRow : OpenClaim := { program := "ytlocfbjeljgblaa", sum := "0f526075bd6c362f9c6256acc172db4c15bf4c3b56608fd71f1381a9a2ef6b7c", func := "exodus/exoduslaw36.ReplogAgrees", spec := "replogAgrees", unfollowed := true, recurses := true, apart := false }
def ReplogAgreesSaid : Prop := replogAgreesRow.holds Try.pinned (OpenSpec.ofChange replogAgreesSpec)

/-- ITS FALSE NEIGHBOUR: 'it returns false'. Refute it at one input. -/
def replogAgreesWrong : ChangeSpec := { name := "replogAgrees", fn := fun _ => fun
  | [d1, d2, d3] => { results := [.lit (.bool false)], args := [d1, d2, d3] }
  | _ => none }
def ReplogAgreesWrongFalsely : Prop := replogAgreesRow.holds Try.pinned (OpenSpec.ofChange replogAgreesWrong)

/-- 'exoduslaw36.ReplogKeeps': WHATEVER THE INPUT: true; the input reads as it did. -/
def replogKeepsSpec : ChangeSpec := { name := "replogKeeps", fn := fun _ => fun
  | [d1, d2] => { results := [.lit (.bool true)], args := [d1, d2] }
  | _ => none }
def replogKeepsRow : OpenClaim := { program := "ytlocfbjeljgblaa", sum := "0f526075bd6c362f9c6256acc172db4c15bf4c3b56608fd71f1381a9a2ef6b7c", func := "exodus/exoduslaw36.ReplogKeeps", spec := "replogKeeps", unfollowed := true, recurses := true, apart := false }
def ReplogKeepsSaid : Prop := replogKeepsRow.holds Try.pinned (OpenSpec.ofChange replogKeepsSpec)

/-- ITS FALSE NEIGHBOUR: 'it returns false'. Refute it at one input. -/
def replogKeepsWrong : ChangeSpec := { name := "replogKeeps", fn := fun _ => fun
  | [d1, d2] => { results := [.lit (.bool false)], args := [d1, d2] }
  | _ => none }
def ReplogKeepsWrongFalsely : Prop := replogKeepsRow.holds Try.pinned (OpenSpec.ofChange replogKeepsWrong)

/-- 'exoduslaw36.ReplogCompacts': WHATEVER THE INPUT: true; the input reads as it did. -/
def replogCompactsSpec : ChangeSpec := { name := "replogCompacts", fn := fun _ => fun
  | [d1, d2, d3, d4] => { results := [.lit (.bool true)], args := [d1, d2, d3, d4] }
  | _ => none }
def replogCompactsRow : OpenClaim := { program := "ytlocfbjeljgblaa", sum := "0f526075bd6c362f9c6256acc172db4c15bf4c3b56608fd71f1381a9a2ef6b7c", func := "exodus/exoduslaw36.ReplogCompacts", spec := "replogCompacts", unfollowed := true, recurses := true, apart := false }
def ReplogCompactsSaid : Prop := replogCompactsRow.holds Try.pinned (OpenSpec.ofChange replogCompactsSpec)

/-- ITS FALSE NEIGHBOUR: 'it returns false'. Refute it at one input. -/
def replogCompactsWrong : ChangeSpec := { name := "replogCompacts", fn := fun _ => fun
  | [d1, d2, d3, d4] => { results := [.lit (.bool false)], args := [d1, d2, d3, d4] }
  | _ => none }
def ReplogCompactsWrongFalsely : Prop := replogCompactsRow.holds Try.pinned (OpenSpec.ofChange replogCompactsWrong)

/-- 'exoduslaw36.ReplogMemory': WHATEVER THE INPUT: true; the input reads as it did. -/
def replogMemorySpec : ChangeSpec := { name := "replogMemory", fn := fun _ => fun
  | [d1, d2] => { results := [.lit (.bool true)], args := [d1, d2] }
  | _ => none }
def replogMemoryRow : OpenClaim := { program := "ytlocfbjeljgblaa", sum := "0f526075bd6c362f9c6256acc172db4c15bf4c3b56608fd71f1381a9a2ef6b7c", func := "exodus/exoduslaw36.ReplogMemory", spec := "replogMemory", unfollowed := true, recurses := true, apart := false }
def ReplogMemorySaid : Prop := replogMemoryRow.holds Try.pinned (OpenSpec.ofChange replogMemorySpec)

/-- ITS FALSE NEIGHBOUR: 'it returns false'. Refute it at one input. -/
def replogMemoryWrong : ChangeSpec := { name := "replogMemory", fn := fun _ => fun
  | [d1, d2] => { results := [.lit (.bool false)], args := [d1, d2] }
  | _ => none }
def ReplogMemoryWrongFalsely : Prop := replogMemoryRow.holds Try.pinned (OpenSpec.ofChange replogMemoryWrong)

/-- 'exoduslaw36.ReplogAsks': WHATEVER THE INPUT: true; the input reads as it did. -/
def replogAsksSpec : ChangeSpec := { name := "replogAsks", fn := fun _ => fun
  | [d1, d2, d3, d4] => { results := [.lit (.bool true)], args := [d1, d2, d3, d4] }
  | _ => none }
def replogAsksRow : OpenClaim := { program := "ytlocfbjeljgblaa", sum := "0f526075bd6c362f9c6256acc172db4c15bf4c3b56608fd71f1381a9a2ef6b7c", func := "exodus/exoduslaw36.ReplogAsks", spec := "replogAsks", unfollowed := true, recurses := true, apart := false }
def ReplogAsksSaid : Prop := replogAsksRow.holds Try.pinned (OpenSpec.ofChange replogAsksSpec)

/-- ITS FALSE NEIGHBOUR: 'it returns false'. Refute it at one input. -/
def replogAsksWrong : ChangeSpec := { name := "replogAsks", fn := fun _ => fun
  | [d1, d2, d3, d4] => { results := [.lit (.bool false)], args := [d1, d2, d3, d4] }
  | _ => none }
def ReplogAsksWrongFalsely : Prop := replogAsksRow.holds Try.pinned (OpenSpec.ofChange replogAsksWrong)

/- THE SECOND FORM. 'bulk': how many values and letters a reading holds, each counted each time it is reached (what is shared counts as often as it is met; a slice's spare places count too). A statement '..UptoSaid' is the law's where the arguments, and the package variables that the reading takes, are together of bulk at most 1048576: NARROWER than '..Said'. Prove '..Said' where nothing that the law and all that it calls make is longer than what came in: it says more and counts as full. Else prove '..UptoSaid'. A law counts once. -/
mutual
def uptoBulk {H : Type} : DataW H → Nat
  | .lit (.string bytes) => bytes.length + 1
  | .lit _ => 1
  | .nil => 1
  | .ptr d => uptoBulk d + 1
  | .slice elems spare => uptoBulkAll elems + uptoBulkAll spare + 1
  | .agg parts => uptoBulkAll parts + 1
  | .iface _ d => uptoBulk d + 1
  | .map entries => uptoBulkEntries entries + 1
  | .held _ => 1
def uptoBulkAll {H : Type} : List (DataW H) → Nat
  | [] => 0
  | d :: r => uptoBulk d + uptoBulkAll r
def uptoBulkEntries {H : Type} : List (Lit × DataW H) → Nat
  | [] => 0
  | x :: r => uptoBulkEntry x + uptoBulkEntries r
def uptoBulkEntry {H : Type} : Lit × DataW H → Nat
  | (.string bytes, d) => bytes.length + uptoBulk d + 1
  | (_, d) => uptoBulk d + 1
 end
def uptoSmall : (H : Type) → List (DataW H) → Bool := fun _ ds => decide (uptoBulkAll ds ≤ 1048576)
def OpenSpec.upto (s : _root_.Go.ChangeSpec) : _root_.Go.OpenSpec := { _root_.Go.OpenSpec.ofChange s with cond := some uptoSmall }

/-- 'exoduslaw36.ReplogCalls', WHERE WHAT IT READS IS OF BULK AT MOST 1048576: true; the input reads as it did. -/
def replogCallsUptoRow : OpenClaim := { program := "ytlocfbjeljgblaa", sum := "0f526075bd6c362f9c6256acc172db4c15bf4c3b56608fd71f1381a9a2ef6b7c", func := "exodus/exoduslaw36.ReplogCalls", spec := "replogCalls", unfollowed := true, recurses := true, apart := false, narrowed := true }
def ReplogCallsUptoSaid : Prop := replogCallsUptoRow.holds Try.pinned (OpenSpec.upto replogCallsSpec)

/-- 'exoduslaw36.ReplogAgrees', WHERE WHAT IT READS IS OF BULK AT MOST 1048576: true; the input reads as it did. -/
def replogAgreesUptoRow : OpenClaim := { program := "ytlocfbjeljgblaa", sum := "0f526075bd6c362f9c6256acc172db4c15bf4c3b56608fd71f1381a9a2ef6b7c", func := "exodus/exoduslaw36.ReplogAgrees", spec := "replogAgrees", unfollowed := true, recurses := true, apart := false, narrowed := true }
def ReplogAgreesUptoSaid : Prop := replogAgreesUptoRow.holds Try.pinned (OpenSpec.upto replogAgreesSpec)

/-- 'exoduslaw36.ReplogKeeps', WHERE WHAT IT READS IS OF BULK AT MOST 1048576: true; the input reads as it did. -/
def replogKeepsUptoRow : OpenClaim := { program := "ytlocfbjeljgblaa", sum := "0f526075bd6c362f9c6256acc172db4c15bf4c3b56608fd71f1381a9a2ef6b7c", func := "exodus/exoduslaw36.ReplogKeeps", spec := "replogKeeps", unfollowed := true, recurses := true, apart := false, narrowed := true }
def ReplogKeepsUptoSaid : Prop := replogKeepsUptoRow.holds Try.pinned (OpenSpec.upto replogKeepsSpec)

/-- 'exoduslaw36.ReplogCompacts', WHERE WHAT IT READS IS OF BULK AT MOST 1048576: true; the input reads as it did. -/
def replogCompactsUptoRow : OpenClaim := { program := "ytlocfbjeljgblaa", sum := "0f526075bd6c362f9c6256acc172db4c15bf4c3b56608fd71f1381a9a2ef6b7c", func := "exodus/exoduslaw36.ReplogCompacts", spec := "replogCompacts", unfollowed := true, recurses := true, apart := false, narrowed := true }
def ReplogCompactsUptoSaid : Prop := replogCompactsUptoRow.holds Try.pinned (OpenSpec.upto replogCompactsSpec)

/-- 'exoduslaw36.ReplogMemory', WHERE WHAT IT READS IS OF BULK AT MOST 1048576: true; the input reads as it did. -/
def replogMemoryUptoRow : OpenClaim := { program := "ytlocfbjeljgblaa", sum := "0f526075bd6c362f9c6256acc172db4c15bf4c3b56608fd71f1381a9a2ef6b7c", func := "exodus/exoduslaw36.ReplogMemory", spec := "replogMemory", unfollowed := true, recurses := true, apart := false, narrowed := true }
def ReplogMemoryUptoSaid : Prop := replogMemoryUptoRow.holds Try.pinned (OpenSpec.upto replogMemorySpec)

/-- 'exoduslaw36.ReplogAsks', WHERE WHAT IT READS IS OF BULK AT MOST 1048576: true; the input reads as it did. -/
def replogAsksUptoRow : OpenClaim := { program := "ytlocfbjeljgblaa", sum := "0f526075bd6c362f9c6256acc172db4c15bf4c3b56608fd71f1381a9a2ef6b7c", func := "exodus/exoduslaw36.ReplogAsks", spec := "replogAsks", unfollowed := true, recurses := true, apart := false, narrowed := true }
def ReplogAsksUptoSaid : Prop := replogAsksUptoRow.holds Try.pinned (OpenSpec.upto replogAsksSpec)

end Rows
end Go.Proofs.Ytlocfbjeljgblaa
