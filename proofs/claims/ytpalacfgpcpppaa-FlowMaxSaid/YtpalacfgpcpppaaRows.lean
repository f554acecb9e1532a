/-
  No cell of these rows narrows 'for every input' (looked for: loops, veiled, ifaces, maps, wideKeys, modest, calm, conditions, laid).
  DERIVED. THE GIVEN ROWS OF THIS SEAT. 6 by the template 'for every input the law returns true; each argument reads behind the call as it read before'; 0 by the template 'total and deterministic' (their statements: YtpalacfgpcpppaaTotals.lean).
  GIVEN WITH THE SEED: the statements are not yours to turn. If you find one false, say at which input.
  Laid BY PROGRAM, IN A SANDBOX (cutbox-rows.mjs): the forced cells as the released guide's own fill.sh prints them over the translation cc861ed81eb4438f… (all of the seat's roots in one cut). By AI agents, Wed Nov 11 2026. No macro, syntax, notation, axiom, sorry.
-/
import Derived.Test.YtpalacfgpcpppaaChecked
import GoSem.Claim
import GoSem.ClaimJoined
import GoSem.ClaimMapViews
import Derived.JoinedTies
import Derived.KernelRfl
namespace Go.Proofs.Ytpalacfgpcpppaa
/- THE CELL 'sum', in the pinned program and in every row, IS THE sha256 OF THE DUMP (.gsa) THAT YtpalacfgpcpppaaProg.lean LOADS. Nothing in Lean hashes anything: it is a label: what it is worth is what the hold of that sum in a sandbox is worth. -/
noncomputable def Try.pinned : Pinned := { name := "ytpalacfgpcpppaa", sum := "cc861ed81eb4438f96389b416f3db1e7db0057e5ccb70e2184c0f17dfd626a25", checked := Try.checked }
namespace Rows
def none {H : Type} : Left H := { results := [], args := [] }

/-- 'exoduslaw10.FlowMax': WHATEVER THE INPUT: true; the input reads as it did. -/
def flowMaxSpec : ChangeSpec := { name := "flowMax", fn := fun _ => fun
  | [d] => { results := [.lit (.bool true)], args := [d] }
  | _ => none }
def flowMaxRow : OpenClaim := { program := "ytpalacfgpcpppaa", sum := "cc861ed81eb4438f96389b416f3db1e7db0057e5ccb70e2184c0f17dfd626a25", func := "exodus/exoduslaw10.FlowMax", spec := "flowMax", unfollowed := true, recurses := true, plainKeys := false, apart := false }
def FlowMaxSaid : Prop := flowMaxRow.holds Try.pinned (OpenSpec.ofChange flowMaxSpec)

/-- ITS FALSE NEIGHBOUR: 'it returns false'. Refute it at one input. -/
def flowMaxWrong : ChangeSpec := { name := "flowMax", fn := fun _ => fun
  | [d] => { results := [.lit (.bool false)], args := [d] }
  | _ => none }
def FlowMaxWrongFalsely : Prop := flowMaxRow.holds Try.pinned (OpenSpec.ofChange flowMaxWrong)

/-- 'exoduslaw10.FlowLeast': WHATEVER THE INPUT: true; the input reads as it did. -/
def flowLeastSpec : ChangeSpec := { name := "flowLeast", fn := fun _ => fun
  | [d] => { results := [.lit (.bool true)], args := [d] }
  | _ => none }
def flowLeastRow : OpenClaim := { program := "ytpalacfgpcpppaa", sum := "cc861ed81eb4438f96389b416f3db1e7db0057e5ccb70e2184c0f17dfd626a25", func := "exodus/exoduslaw10.FlowLeast", spec := "flowLeast", unfollowed := true, recurses := true, plainKeys := false, apart := false }
def FlowLeastSaid : Prop := flowLeastRow.holds Try.pinned (OpenSpec.ofChange flowLeastSpec)

/-- ITS FALSE NEIGHBOUR: 'it returns false'. Refute it at one input. -/
def flowLeastWrong : ChangeSpec := { name := "flowLeast", fn := fun _ => fun
  | [d] => { results := [.lit (.bool false)], args := [d] }
  | _ => none }
def FlowLeastWrongFalsely : Prop := flowLeastRow.holds Try.pinned (OpenSpec.ofChange flowLeastWrong)

/-- 'exoduslaw10.FlowWeak': WHATEVER THE INPUT: true; the input reads as it did. -/
def flowWeakSpec : ChangeSpec := { name := "flowWeak", fn := fun _ => fun
  | [d1, d2, d3] => { results := [.lit (.bool true)], args := [d1, d2, d3] }
  | _ => none }
def flowWeakRow : OpenClaim := { program := "ytpalacfgpcpppaa", sum := "cc861ed81eb4438f96389b416f3db1e7db0057e5ccb70e2184c0f17dfd626a25", func := "exodus/exoduslaw10.FlowWeak", spec := "flowWeak", unfollowed := true, recurses := true, plainKeys := false, apart := false }
def FlowWeakSaid : Prop := flowWeakRow.holds Try.pinned (OpenSpec.ofChange flowWeakSpec)

/-- ITS FALSE NEIGHBOUR: 'it returns false'. Refute it at one input. -/
def flowWeakWrong : ChangeSpec := { name := "flowWeak", fn := fun _ => fun
  | [d1, d2, d3] => { results := [.lit (.bool false)], args := [d1, d2, d3] }
  | _ => none }
def FlowWeakWrongFalsely : Prop := flowWeakRow.holds Try.pinned (OpenSpec.ofChange flowWeakWrong)

/-- 'exoduslaw10.FlowGrows': WHATEVER THE INPUT: true; the input reads as it did. -/
def flowGrowsSpec : ChangeSpec := { name := "flowGrows", fn := fun _ => fun
  | [d1, d2, d3] => { results := [.lit (.bool true)], args := [d1, d2, d3] }
  | _ => none }
def flowGrowsRow : OpenClaim := { program := "ytpalacfgpcpppaa", sum := "cc861ed81eb4438f96389b416f3db1e7db0057e5ccb70e2184c0f17dfd626a25", func := "exodus/exoduslaw10.FlowGrows", spec := "flowGrows", unfollowed := true, recurses := true, plainKeys := false, apart := false }
def FlowGrowsSaid : Prop := flowGrowsRow.holds Try.pinned (OpenSpec.ofChange flowGrowsSpec)

/-- ITS FALSE NEIGHBOUR: 'it returns false'. Refute it at one input. -/
def flowGrowsWrong : ChangeSpec := { name := "flowGrows", fn := fun _ => fun
  | [d1, d2, d3] => { results := [.lit (.bool false)], args := [d1, d2, d3] }
  | _ => none }
def FlowGrowsWrongFalsely : Prop := flowGrowsRow.holds Try.pinned (OpenSpec.ofChange flowGrowsWrong)

/-- 'exoduslaw10.FlowPaths': WHATEVER THE INPUT: true; the input reads as it did. -/
def flowPathsSpec : ChangeSpec := { name := "flowPaths", fn := fun _ => fun
  | [d1, d2] => { results := [.lit (.bool true)], args := [d1, d2] }
  | _ => none }
def flowPathsRow : OpenClaim := { program := "ytpalacfgpcpppaa", sum := "cc861ed81eb4438f96389b416f3db1e7db0057e5ccb70e2184c0f17dfd626a25", func := "exodus/exoduslaw10.FlowPaths", spec := "flowPaths", unfollowed := true, recurses := true, plainKeys := false, apart := false }
def FlowPathsSaid : Prop := flowPathsRow.holds Try.pinned (OpenSpec.ofChange flowPathsSpec)

/-- ITS FALSE NEIGHBOUR: 'it returns false'. Refute it at one input. -/
def flowPathsWrong : ChangeSpec := { name := "flowPaths", fn := fun _ => fun
  | [d1, d2] => { results := [.lit (.bool false)], args := [d1, d2] }
  | _ => none }
def FlowPathsWrongFalsely : Prop := flowPathsRow.holds Try.pinned (OpenSpec.ofChange flowPathsWrong)

/-- 'exoduslaw10.FlowExpands': WHATEVER THE INPUT: true; the input reads as it did. -/
def flowExpandsSpec : ChangeSpec := { name := "flowExpands", fn := fun _ => fun
  | [d1, d2] => { results := [.lit (.bool true)], args := [d1, d2] }
  | _ => none }
def flowExpandsRow : OpenClaim := { program := "ytpalacfgpcpppaa", sum := "cc861ed81eb4438f96389b416f3db1e7db0057e5ccb70e2184c0f17dfd626a25", func := "exodus/exoduslaw10.FlowExpands", spec := "flowExpands", unfollowed := true, recurses := true, plainKeys := false, apart := false }
def FlowExpandsSaid : Prop := flowExpandsRow.holds Try.pinned (OpenSpec.ofChange flowExpandsSpec)

/-- ITS FALSE NEIGHBOUR: 'it returns false'. Refute it at one input. -/
def flowExpandsWrong : ChangeSpec := { name := "flowExpands", fn := fun _ => fun
  | [d1, d2] => { results := [.lit (.bool false)], args := [d1, d2] }
  | _ => none }
def FlowExpandsWrongFalsely : Prop := flowExpandsRow.holds Try.pinned (OpenSpec.ofChange flowExpandsWrong)

/- THE SECOND FORM. 'bulk': how many values and letters a reading holds, each counted each time it is reached (what is shared counts as often as it is met; a slice's spare places count too). A statement '..UptoSaid' is the law's where the arguments, and the package variables that the reading takes, are together of bulk at most 1048576: NARROWER than '..Said'. Prove '..Said' where nothing that the law and all that it calls make is longer than what came in: it says more and counts as full. Else prove '..UptoSaid'. A law counts once. -/
mutual
def uptoBulk {H : Type} : DataW H → Nat
  | .lit (.string bytes) => bytes.length + 1
  | .lit _ => 1
  | .nil => 1
  | .ptr d => uptoBulk d + 1
  | .slice elems spare => uptoBulkAll elems + uptoBulkAll spare + 1
  | .agg parts => uptoBulkAll parts + 1
  | .iface _ d => uptoBulk d + 1
  | .map entries => uptoBulkEntries entries + 1
  | .held _ => 1
def uptoBulkAll {H : Type} : List (DataW H) → Nat
  | [] => 0
  | d :: r => uptoBulk d + uptoBulkAll r
def uptoBulkEntries {H : Type} : List (Lit × DataW H) → Nat
  | [] => 0
  | x :: r => uptoBulkEntry x + uptoBulkEntries r
def uptoBulkEntry {H : Type} : Lit × DataW H → Nat
  | (.string bytes, d) => bytes.length + uptoBulk d + 1
  | (_, d) => uptoBulk d + 1
 end
def uptoSmall : (H : Type) → List (DataW H) → Bool := fun _ ds => decide (uptoBulkAll ds ≤ 1048576)
def OpenSpec.upto (s : _root_.Go.ChangeSpec) : _root_.Go.OpenSpec := { _root_.Go.OpenSpec.ofChange s with cond := some uptoSmall }

/-- 'exoduslaw10.FlowMax', WHERE WHAT IT READS IS OF BULK AT MOST 1048576: true; the input reads as it did. -/
def flowMaxUptoRow : OpenClaim := { program := "ytpalacfgpcpppaa", sum := "cc861ed81eb4438f96389b416f3db1e7db0057e5ccb70e2184c0f17dfd626a25", func := "exodus/exoduslaw10.FlowMax", spec := "flowMax", unfollowed := true, recurses := true, plainKeys := false, apart := false, narrowed := true }
def FlowMaxUptoSaid : Prop := flowMaxUptoRow.holds Try.pinned (OpenSpec.upto flowMaxSpec)

/-- 'exoduslaw10.FlowLeast', WHERE WHAT IT READS IS OF BULK AT MOST 1048576: true; the input reads as it did. -/
def flowLeastUptoRow : OpenClaim := { program := "ytpalacfgpcpppaa", sum := "cc861ed81eb4438f96389b416f3db1e7db0057e5ccb70e2184c0f17dfd626a25", func := "exodus/exoduslaw10.FlowLeast", spec := "flowLeast", unfollowed := true, recurses := true, plainKeys := false, apart := false, narrowed := true }
def FlowLeastUptoSaid : Prop := flowLeastUptoRow.holds Try.pinned (OpenSpec.upto flowLeastSpec)

/-- 'exoduslaw10.FlowWeak', WHERE WHAT IT READS IS OF BULK AT MOST 1048576: true; the input reads as it did. -/
def flowWeakUptoRow : OpenClaim := { program := "ytpalacfgpcpppaa", sum := "cc861ed81eb4438f96389b416f3db1e7db0057e5ccb70e2184c0f17dfd626a25", func := "exodus/exoduslaw10.FlowWeak", spec := "flowWeak", unfollowed := true, recurses := true, plainKeys := false, apart := false, narrowed := true }
def FlowWeakUptoSaid : Prop := flowWeakUptoRow.holds Try.pinned (OpenSpec.upto flowWeakSpec)

/-- 'exoduslaw10.FlowGrows', WHERE WHAT IT READS IS OF BULK AT MOST 1048576: true; the input reads as it did. -/
def flowGrowsUptoRow : OpenClaim := { program := "ytpalacfgpcpppaa", sum := "cc861ed81eb4438f96389b416f3db1e7db0057e5ccb70e2184c0f17dfd626a25", func := "exodus/exoduslaw10.FlowGrows", spec := "flowGrows", unfollowed := true, recurses := true, plainKeys := false, apart := false, narrowed := true }
def FlowGrowsUptoSaid : Prop := flowGrowsUptoRow.holds Try.pinned (OpenSpec.upto flowGrowsSpec)

/-- 'exoduslaw10.FlowPaths', WHERE WHAT IT READS IS OF BULK AT MOST 1048576: true; the input reads as it did. -/
def flowPathsUptoRow : OpenClaim := { program := "ytpalacfgpcpppaa", sum := "cc861ed81eb4438f96389b416f3db1e7db0057e5ccb70e2184c0f17dfd626a25", func := "exodus/exoduslaw10.FlowPaths", spec := "flowPaths", unfollowed := true, recurses := true, plainKeys := false, apart := false, narrowed := true }
def FlowPathsUptoSaid : Prop := flowPathsUptoRow.holds Try.pinned (OpenSpec.upto flowPathsSpec)

/-- 'exoduslaw10.FlowExpands', WHERE WHAT IT READS IS OF BULK AT MOST 1048576: true; the input reads as it did. -/
def flowExpandsUptoRow : OpenClaim := { program := "ytpalacfgpcpppaa", sum := "cc861ed81eb4438f96389b416f3db1e7db0057e5ccb70e2184c0f17dfd626a25", func := "exodus/exoduslaw10.FlowExpands", spec := "flowExpands", unfollowed := true, recurses := true, plainKeys := false, apart := false, narrowed := true }
def FlowExpandsUptoSaid : Prop := flowExpandsUptoRow.holds Try.pinned (OpenSpec.upto flowExpandsSpec)

end Rows
end Go.Proofs.Ytpalacfgpcpppaa
