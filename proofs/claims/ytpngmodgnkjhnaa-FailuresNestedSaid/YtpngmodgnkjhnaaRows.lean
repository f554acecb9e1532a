/-
  No cell of these rows narrows 'for every input' (looked for: loops, veiled, ifaces, maps, wideKeys, modest, calm, conditions, laid).
  DERIVED. THE GIVEN ROWS OF THIS SEAT. 7 by the template 'for every input the law returns true; each argument reads behind the call as it read before'; 0 by the template 'total and deterministic' (their statements: YtpngmodgnkjhnaaTotals.lean).
  GIVEN WITH THE SEED: the statements are not yours to turn. If you find one false, say at which input.
  Laid BY PROGRAM, IN A SANDBOX (cutbox-rows.mjs): the forced cells as the released guide's own fill.sh prints them over the translation 0207a14e9119b4e7… (all of the seat's roots in one cut). By AI agents, Wed Nov 11 2026. No macro, syntax, notation, axiom, sorry.
-/
import Derived.Test.YtpngmodgnkjhnaaChecked
import GoSem.Claim
import GoSem.ClaimJoined
import GoSem.ClaimMapViews
import Derived.JoinedTies
import Derived.KernelRfl
namespace Go.Proofs.Ytpngmodgnkjhnaa
/- THE CELL 'sum', in the pinned program and in every row, IS THE sha256 OF THE DUMP (.gsa) THAT YtpngmodgnkjhnaaProg.lean LOADS. Nothing in Lean hashes anything: it is a label: what it is worth is what the hold of that sum in a sandbox is worth. -/
noncomputable def Try.pinned : Pinned := { name := "ytpngmodgnkjhnaa", sum := "0207a14e9119b4e72fc52f7c1dbabe1e1212378eb370ab323255da47348f0194", checked := Try.checked }
namespace Rows
def none {H : Type} : Left H := { results := [], args := [] }

/-- 'exoduslaw21.FailuresAll': WHATEVER THE INPUT: true; the input reads as it did. -/
def failuresAllSpec : ChangeSpec := { name := "failuresAll", fn := fun _ => fun
  | [d1, d2] => { results := [.lit (.bool true)], args := [d1, d2] }
  | _ => none }
def failuresAllRow : OpenClaim := { program := "ytpngmodgnkjhnaa", sum := "0207a14e9119b4e72fc52f7c1dbabe1e1212378eb370ab323255da47348f0194", func := "exodus/exoduslaw21.FailuresAll", spec := "failuresAll", unfollowed := true, recurses := true, apart := false }
def FailuresAllSaid : Prop := failuresAllRow.holds Try.pinned (OpenSpec.ofChange failuresAllSpec)

/-- ITS FALSE NEIGHBOUR: 'it returns false'. Refute it at one input. -/
def failuresAllWrong : ChangeSpec := { name := "failuresAll", fn := fun _ => fun
  | [d1, d2] => { results := [.lit (.bool false)], args := [d1, d2] }
  | _ => none }
def FailuresAllWrongFalsely : Prop := failuresAllRow.holds Try.pinned (OpenSpec.ofChange failuresAllWrong)

/-- 'exoduslaw21.FailuresWorst': WHATEVER THE INPUT: true; the input reads as it did. -/
def failuresWorstSpec : ChangeSpec := { name := "failuresWorst", fn := fun _ => fun
  | [d1, d2, d3] => { results := [.lit (.bool true)], args := [d1, d2, d3] }
  | _ => none }
def failuresWorstRow : OpenClaim := { program := "ytpngmodgnkjhnaa", sum := "0207a14e9119b4e72fc52f7c1dbabe1e1212378eb370ab323255da47348f0194", func := "exodus/exoduslaw21.FailuresWorst", spec := "failuresWorst", unfollowed := true, recurses := true, apart := false }
def FailuresWorstSaid : Prop := failuresWorstRow.holds Try.pinned (OpenSpec.ofChange failuresWorstSpec)

/-- ITS FALSE NEIGHBOUR: 'it returns false'. Refute it at one input. -/
def failuresWorstWrong : ChangeSpec := { name := "failuresWorst", fn := fun _ => fun
  | [d1, d2, d3] => { results := [.lit (.bool false)], args := [d1, d2, d3] }
  | _ => none }
def FailuresWorstWrongFalsely : Prop := failuresWorstRow.holds Try.pinned (OpenSpec.ofChange failuresWorstWrong)

/-- 'exoduslaw21.FailuresLeast': WHATEVER THE INPUT: true; the input reads as it did. -/
def failuresLeastSpec : ChangeSpec := { name := "failuresLeast", fn := fun _ => fun
  | [d1, d2, d3] => { results := [.lit (.bool true)], args := [d1, d2, d3] }
  | _ => none }
def failuresLeastRow : OpenClaim := { program := "ytpngmodgnkjhnaa", sum := "0207a14e9119b4e72fc52f7c1dbabe1e1212378eb370ab323255da47348f0194", func := "exodus/exoduslaw21.FailuresLeast", spec := "failuresLeast", unfollowed := true, recurses := true, apart := false }
def FailuresLeastSaid : Prop := failuresLeastRow.holds Try.pinned (OpenSpec.ofChange failuresLeastSpec)

/-- ITS FALSE NEIGHBOUR: 'it returns false'. Refute it at one input. -/
def failuresLeastWrong : ChangeSpec := { name := "failuresLeast", fn := fun _ => fun
  | [d1, d2, d3] => { results := [.lit (.bool false)], args := [d1, d2, d3] }
  | _ => none }
def FailuresLeastWrongFalsely : Prop := failuresLeastRow.holds Try.pinned (OpenSpec.ofChange failuresLeastWrong)

/-- 'exoduslaw21.FailuresCount': WHATEVER THE INPUT: true; the input reads as it did. -/
def failuresCountSpec : ChangeSpec := { name := "failuresCount", fn := fun _ => fun
  | [d1, d2, d3, d4] => { results := [.lit (.bool true)], args := [d1, d2, d3, d4] }
  | _ => none }
def failuresCountRow : OpenClaim := { program := "ytpngmodgnkjhnaa", sum := "0207a14e9119b4e72fc52f7c1dbabe1e1212378eb370ab323255da47348f0194", func := "exodus/exoduslaw21.FailuresCount", spec := "failuresCount", unfollowed := true, recurses := true, apart := false }
def FailuresCountSaid : Prop := failuresCountRow.holds Try.pinned (OpenSpec.ofChange failuresCountSpec)

/-- ITS FALSE NEIGHBOUR: 'it returns false'. Refute it at one input. -/
def failuresCountWrong : ChangeSpec := { name := "failuresCount", fn := fun _ => fun
  | [d1, d2, d3, d4] => { results := [.lit (.bool false)], args := [d1, d2, d3, d4] }
  | _ => none }
def FailuresCountWrongFalsely : Prop := failuresCountRow.holds Try.pinned (OpenSpec.ofChange failuresCountWrong)

/-- 'exoduslaw21.FailuresHits': WHATEVER THE INPUT: true; the input reads as it did. -/
def failuresHitsSpec : ChangeSpec := { name := "failuresHits", fn := fun _ => fun
  | [d1, d2, d3, d4, d5] => { results := [.lit (.bool true)], args := [d1, d2, d3, d4, d5] }
  | _ => none }
def failuresHitsRow : OpenClaim := { program := "ytpngmodgnkjhnaa", sum := "0207a14e9119b4e72fc52f7c1dbabe1e1212378eb370ab323255da47348f0194", func := "exodus/exoduslaw21.FailuresHits", spec := "failuresHits", unfollowed := true, recurses := true, apart := false }
def FailuresHitsSaid : Prop := failuresHitsRow.holds Try.pinned (OpenSpec.ofChange failuresHitsSpec)

/-- ITS FALSE NEIGHBOUR: 'it returns false'. Refute it at one input. -/
def failuresHitsWrong : ChangeSpec := { name := "failuresHits", fn := fun _ => fun
  | [d1, d2, d3, d4, d5] => { results := [.lit (.bool false)], args := [d1, d2, d3, d4, d5] }
  | _ => none }
def FailuresHitsWrongFalsely : Prop := failuresHitsRow.holds Try.pinned (OpenSpec.ofChange failuresHitsWrong)

/-- 'exoduslaw21.FailuresCovers': WHATEVER THE INPUT: true; the input reads as it did. -/
def failuresCoversSpec : ChangeSpec := { name := "failuresCovers", fn := fun _ => fun
  | [d1, d2, d3, d4, d5] => { results := [.lit (.bool true)], args := [d1, d2, d3, d4, d5] }
  | _ => none }
def failuresCoversRow : OpenClaim := { program := "ytpngmodgnkjhnaa", sum := "0207a14e9119b4e72fc52f7c1dbabe1e1212378eb370ab323255da47348f0194", func := "exodus/exoduslaw21.FailuresCovers", spec := "failuresCovers", unfollowed := true, recurses := true, apart := false }
def FailuresCoversSaid : Prop := failuresCoversRow.holds Try.pinned (OpenSpec.ofChange failuresCoversSpec)

/-- ITS FALSE NEIGHBOUR: 'it returns false'. Refute it at one input. -/
def failuresCoversWrong : ChangeSpec := { name := "failuresCovers", fn := fun _ => fun
  | [d1, d2, d3, d4, d5] => { results := [.lit (.bool false)], args := [d1, d2, d3, d4, d5] }
  | _ => none }
def FailuresCoversWrongFalsely : Prop := failuresCoversRow.holds Try.pinned (OpenSpec.ofChange failuresCoversWrong)

/-- 'exoduslaw21.FailuresNested': WHATEVER THE INPUT: true; the input reads as it did. -/
def failuresNestedSpec : ChangeSpec := { name := "failuresNested", fn := fun _ => fun
  | [d1, d2] => { results := [.lit (.bool true)], args := [d1, d2] }
  | _ => none }
def failuresNestedRow : OpenClaim := { program := "ytpngmodgnkjhnaa", sum := "0207a14e9119b4e72fc52f7c1dbabe1e1212378eb370ab323255da47348f0194", func := "exodus/exoduslaw21.FailuresNested", spec := "failuresNested", unfollowed := true, recurses := true, apart := false }
def FailuresNestedSaid : Prop := failuresNestedRow.holds Try.pinned (OpenSpec.ofChange failuresNestedSpec)

/-- ITS FALSE NEIGHBOUR: 'it returns false'. Refute it at one input. -/
def failuresNestedWrong : ChangeSpec := { name := "failuresNested", fn := fun _ => fun
  | [d1, d2] => { results := [.lit (.bool false)], args := [d1, d2] }
  | _ => none }
def FailuresNestedWrongFalsely : Prop := failuresNestedRow.holds Try.pinned (OpenSpec.ofChange failuresNestedWrong)

/- THE SECOND FORM. 'bulk': how many values and letters a reading holds, each counted each time it is reached (what is shared counts as often as it is met; a slice's spare places count too). A statement '..UptoSaid' is the law's where the arguments, and the package variables that the reading takes, are together of bulk at most 1048576: NARROWER than '..Said'. Prove '..Said' where nothing that the law and all that it calls make is longer than what came in: it says more and counts as full. Else prove '..UptoSaid'. A law counts once. -/
mutual
def uptoBulk {H : Type} : DataW H → Nat
  | .lit (.string bytes) => bytes.length + 1
  | .lit _ => 1
  | .nil => 1
  | .ptr d => uptoBulk d + 1
  | .slice elems spare => uptoBulkAll elems + uptoBulkAll spare + 1
  | .agg parts => uptoBulkAll parts + 1
  | .iface _ d => uptoBulk d + 1
  | .map entries => uptoBulkEntries entries + 1
  | .held _ => 1
def uptoBulkAll {H : Type} : List (DataW H) → Nat
  | [] => 0
  | d :: r => uptoBulk d + uptoBulkAll r
def uptoBulkEntries {H : Type} : List (Lit × DataW H) → Nat
  | [] => 0
  | x :: r => uptoBulkEntry x + uptoBulkEntries r
def uptoBulkEntry {H : Type} : Lit × DataW H → Nat
  | (.string bytes, d) => bytes.length + uptoBulk d + 1
  | (_, d) => uptoBulk d + 1
 end
def uptoSmall : (H : Type) → List (DataW H) → Bool := fun _ ds => decide (uptoBulkAll ds ≤ 1048576)
def OpenSpec.upto (s : _root_.Go.ChangeSpec) : _root_.Go.OpenSpec := { _root_.Go.OpenSpec.ofChange s with cond := some uptoSmall }

/-- 'exoduslaw21.FailuresAll', WHERE WHAT IT READS IS OF BULK AT MOST 1048576: true; the input reads as it did. -/
def failuresAllUptoRow : OpenClaim := { program := "ytpngmodgnkjhnaa", sum := "0207a14e9119b4e72fc52f7c1dbabe1e1212378eb370ab323255da47348f0194", func := "exodus/exoduslaw21.FailuresAll", spec := "failuresAll", unfollowed := true, recurses := true, apart := false, narrowed := true }
def FailuresAllUptoSaid : Prop := failuresAllUptoRow.holds Try.pinned (OpenSpec.upto failuresAllSpec)

/-- 'exoduslaw21.FailuresWorst', WHERE WHAT IT READS IS OF BULK AT MOST 1048576: true; the input reads as it did. -/
def failuresWorstUptoRow : OpenClaim := { program := "ytpngmodgnkjhnaa", sum := "0207a14e9119b4e72fc52f7c1dbabe1e1212378eb370ab323255da47348f0194", func := "exodus/exoduslaw21.FailuresWorst", spec := "failuresWorst", unfollowed := true, recurses := true, apart := false, narrowed := true }
def FailuresWorstUptoSaid : Prop := failuresWorstUptoRow.holds Try.pinned (OpenSpec.upto failuresWorstSpec)

/-- 'exoduslaw21.FailuresLeast', WHERE WHAT IT READS IS OF BULK AT MOST 1048576: true; the input reads as it did. -/
def failuresLeastUptoRow : OpenClaim := { program := "ytpngmodgnkjhnaa", sum := "0207a14e9119b4e72fc52f7c1dbabe1e1212378eb370ab323255da47348f0194", func := "exodus/exoduslaw21.FailuresLeast", spec := "failuresLeast", unfollowed := true, recurses := true, apart := false, narrowed := true }
def FailuresLeastUptoSaid : Prop := failuresLeastUptoRow.holds Try.pinned (OpenSpec.upto failuresLeastSpec)

/-- 'exoduslaw21.FailuresCount', WHERE WHAT IT READS IS OF BULK AT MOST 1048576: true; the input reads as it did. -/
def failuresCountUptoRow : OpenClaim := { program := "ytpngmodgnkjhnaa", sum := "0207a14e9119b4e72fc52f7c1dbabe1e1212378eb370ab323255da47348f0194", func := "exodus/exoduslaw21.FailuresCount", spec := "failuresCount", unfollowed := true, recurses := true, apart := false, narrowed := true }
def FailuresCountUptoSaid : Prop := failuresCountUptoRow.holds Try.pinned (OpenSpec.upto failuresCountSpec)

/-- 'exoduslaw21.FailuresHits', WHERE WHAT IT READS IS OF BULK AT MOST 1048576: true; the input reads as it did. -/
def failuresHitsUptoRow : OpenClaim := { program := "ytpngmodgnkjhnaa", sum := "0207a14e9119b4e72fc52f7c1dbabe1e1212378eb370ab323255da47348f0194", func := "exodus/exoduslaw21.FailuresHits", spec := "failuresHits", unfollowed := true, recurses := true, apart := false, narrowed := true }
def FailuresHitsUptoSaid : Prop := failuresHitsUptoRow.holds Try.pinned (OpenSpec.upto failuresHitsSpec)

/-- 'exoduslaw21.FailuresCovers', WHERE WHAT IT READS IS OF BULK AT MOST 1048576: true; the input reads as it did. -/
def failuresCoversUptoRow : OpenClaim := { program := "ytpngmodgnkjhnaa", sum := "0207a14e9119b4e72fc52f7c1dbabe1e1212378eb370ab323255da47348f0194", func := "exodus/exoduslaw21.FailuresCovers", spec := "failuresCovers", unfollowed := true, recurses := true, apart := false, narrowed := true }
def FailuresCoversUptoSaid : Prop := failuresCoversUptoRow.holds Try.pinned (OpenSpec.upto failuresCoversSpec)

/-- 'exoduslaw21.FailuresNested', WHERE WHAT IT READS IS OF BULK AT MOST 1048576: true; the input reads as it did. -/
def failuresNestedUptoRow : OpenClaim := { program := "ytpngmodgnkjhnaa", sum := "0207a14e9119b4e72fc52f7c1dbabe1e1212378eb370ab323255da47348f0194", func := "exodus/exoduslaw21.FailuresNested", spec := "failuresNested", unfollowed := true, recurses := true, apart := false, narrowed := true }
def FailuresNestedUptoSaid : Prop := failuresNestedUptoRow.holds Try.pinned (OpenSpec.upto failuresNestedSpec)

end Rows
end Go.Proofs.Ytpngmodgnkjhnaa
