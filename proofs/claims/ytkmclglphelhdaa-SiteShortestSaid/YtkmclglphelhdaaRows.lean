/-
  No cell of these rows narrows 'for every input' (looked for: loops, veiled, ifaces, maps, wideKeys, modest, calm, conditions, laid).
  DERIVED. THE GIVEN ROWS OF THIS SEAT. 7 by the template 'for every input the law returns true; each argument reads behind the call as it read before'; 0 by the template 'total and deterministic' (their statements: YtkmclglphelhdaaTotals.lean).
  GIVEN WITH THE SEED: the statements are not yours to turn. If you find one false, say at which input.
  Laid BY PROGRAM, IN A SANDBOX (cutbox-rows.mjs): the forced cells as the released guide's own fill.sh prints them over the translation 38488b0e2eff143f… (all of the seat's roots in one cut). By AI agents, Wed Nov 11 2026. No macro, syntax, notation, axiom, sorry.
-/
import Derived.Test.YtkmclglphelhdaaChecked
import GoSem.Claim
import GoSem.ClaimJoined
import GoSem.ClaimMapViews
import Derived.JoinedTies
import Derived.KernelRfl
namespace Go.Proofs.Ytkmclglphelhdaa
/- THE CELL 'sum', in the pinned program and in every row, IS THE sha256 OF THE DUMP (.gsa) THAT YtkmclglphelhdaaProg.lean LOADS. Nothing in Lean hashes anything: it is a label: what it is worth is what the hold of that sum in a sandbox is worth. -/
noncomputable def Try.pinned : Pinned := { name := "ytkmclglphelhdaa", sum := "38488b0e2eff143f6f6a55e6b99db2df52faca8326df5b66775f375478cd7f53", checked := Try.checked }
namespace Rows
def none {H : Type} : Left H := { results := [], args := [] }

/-- 'exoduslaw14.SiteValid': WHATEVER THE INPUT: true; the input reads as it did. -/
def siteValidSpec : ChangeSpec := { name := "siteValid", fn := fun _ => fun
  | [d] => { results := [.lit (.bool true)], args := [d] }
  | _ => none }
def siteValidRow : OpenClaim := { program := "ytkmclglphelhdaa", sum := "38488b0e2eff143f6f6a55e6b99db2df52faca8326df5b66775f375478cd7f53", func := "exodus/exoduslaw14.SiteValid", spec := "siteValid", unfollowed := true, recurses := true, apart := false }
def SiteValidSaid : Prop := siteValidRow.holds Try.pinned (OpenSpec.ofChange siteValidSpec)

/-- ITS FALSE NEIGHBOUR: 'it returns false'. Refute it at one input. -/
def siteValidWrong : ChangeSpec := { name := "siteValid", fn := fun _ => fun
  | [d] => { results := [.lit (.bool false)], args := [d] }
  | _ => none }
def SiteValidWrongFalsely : Prop := siteValidRow.holds Try.pinned (OpenSpec.ofChange siteValidWrong)

/-- 'exoduslaw14.SiteDomains': WHATEVER THE INPUT: true; the input reads as it did. -/
def siteDomainsSpec : ChangeSpec := { name := "siteDomains", fn := fun _ => fun
  | [d1, d2, d3] => { results := [.lit (.bool true)], args := [d1, d2, d3] }
  | _ => none }
def siteDomainsRow : OpenClaim := { program := "ytkmclglphelhdaa", sum := "38488b0e2eff143f6f6a55e6b99db2df52faca8326df5b66775f375478cd7f53", func := "exodus/exoduslaw14.SiteDomains", spec := "siteDomains", unfollowed := true, recurses := true, apart := false }
def SiteDomainsSaid : Prop := siteDomainsRow.holds Try.pinned (OpenSpec.ofChange siteDomainsSpec)

/-- ITS FALSE NEIGHBOUR: 'it returns false'. Refute it at one input. -/
def siteDomainsWrong : ChangeSpec := { name := "siteDomains", fn := fun _ => fun
  | [d1, d2, d3] => { results := [.lit (.bool false)], args := [d1, d2, d3] }
  | _ => none }
def SiteDomainsWrongFalsely : Prop := siteDomainsRow.holds Try.pinned (OpenSpec.ofChange siteDomainsWrong)

/-- 'exoduslaw14.SitePartition': WHATEVER THE INPUT: true; the input reads as it did. -/
def sitePartitionSpec : ChangeSpec := { name := "sitePartition", fn := fun _ => fun
  | [d] => { results := [.lit (.bool true)], args := [d] }
  | _ => none }
def sitePartitionRow : OpenClaim := { program := "ytkmclglphelhdaa", sum := "38488b0e2eff143f6f6a55e6b99db2df52faca8326df5b66775f375478cd7f53", func := "exodus/exoduslaw14.SitePartition", spec := "sitePartition", unfollowed := true, recurses := true, apart := false }
def SitePartitionSaid : Prop := sitePartitionRow.holds Try.pinned (OpenSpec.ofChange sitePartitionSpec)

/-- ITS FALSE NEIGHBOUR: 'it returns false'. Refute it at one input. -/
def sitePartitionWrong : ChangeSpec := { name := "sitePartition", fn := fun _ => fun
  | [d] => { results := [.lit (.bool false)], args := [d] }
  | _ => none }
def SitePartitionWrongFalsely : Prop := sitePartitionRow.holds Try.pinned (OpenSpec.ofChange sitePartitionWrong)

/-- 'exoduslaw14.SiteNested': WHATEVER THE INPUT: true; the input reads as it did. -/
def siteNestedSpec : ChangeSpec := { name := "siteNested", fn := fun _ => fun
  | [d1, d2, d3] => { results := [.lit (.bool true)], args := [d1, d2, d3] }
  | _ => none }
def siteNestedRow : OpenClaim := { program := "ytkmclglphelhdaa", sum := "38488b0e2eff143f6f6a55e6b99db2df52faca8326df5b66775f375478cd7f53", func := "exodus/exoduslaw14.SiteNested", spec := "siteNested", unfollowed := true, recurses := true, apart := false }
def SiteNestedSaid : Prop := siteNestedRow.holds Try.pinned (OpenSpec.ofChange siteNestedSpec)

/-- ITS FALSE NEIGHBOUR: 'it returns false'. Refute it at one input. -/
def siteNestedWrong : ChangeSpec := { name := "siteNested", fn := fun _ => fun
  | [d1, d2, d3] => { results := [.lit (.bool false)], args := [d1, d2, d3] }
  | _ => none }
def SiteNestedWrongFalsely : Prop := siteNestedRow.holds Try.pinned (OpenSpec.ofChange siteNestedWrong)

/-- 'exoduslaw14.SiteLinks': WHATEVER THE INPUT: true; the input reads as it did. -/
def siteLinksSpec : ChangeSpec := { name := "siteLinks", fn := fun _ => fun
  | [d1, d2, d3] => { results := [.lit (.bool true)], args := [d1, d2, d3] }
  | _ => none }
def siteLinksRow : OpenClaim := { program := "ytkmclglphelhdaa", sum := "38488b0e2eff143f6f6a55e6b99db2df52faca8326df5b66775f375478cd7f53", func := "exodus/exoduslaw14.SiteLinks", spec := "siteLinks", unfollowed := true, recurses := true, apart := false }
def SiteLinksSaid : Prop := siteLinksRow.holds Try.pinned (OpenSpec.ofChange siteLinksSpec)

/-- ITS FALSE NEIGHBOUR: 'it returns false'. Refute it at one input. -/
def siteLinksWrong : ChangeSpec := { name := "siteLinks", fn := fun _ => fun
  | [d1, d2, d3] => { results := [.lit (.bool false)], args := [d1, d2, d3] }
  | _ => none }
def SiteLinksWrongFalsely : Prop := siteLinksRow.holds Try.pinned (OpenSpec.ofChange siteLinksWrong)

/-- 'exoduslaw14.SiteRoutes': WHATEVER THE INPUT: true; the input reads as it did. -/
def siteRoutesSpec : ChangeSpec := { name := "siteRoutes", fn := fun _ => fun
  | [d1, d2, d3] => { results := [.lit (.bool true)], args := [d1, d2, d3] }
  | _ => none }
def siteRoutesRow : OpenClaim := { program := "ytkmclglphelhdaa", sum := "38488b0e2eff143f6f6a55e6b99db2df52faca8326df5b66775f375478cd7f53", func := "exodus/exoduslaw14.SiteRoutes", spec := "siteRoutes", unfollowed := true, recurses := true, apart := false }
def SiteRoutesSaid : Prop := siteRoutesRow.holds Try.pinned (OpenSpec.ofChange siteRoutesSpec)

/-- ITS FALSE NEIGHBOUR: 'it returns false'. Refute it at one input. -/
def siteRoutesWrong : ChangeSpec := { name := "siteRoutes", fn := fun _ => fun
  | [d1, d2, d3] => { results := [.lit (.bool false)], args := [d1, d2, d3] }
  | _ => none }
def SiteRoutesWrongFalsely : Prop := siteRoutesRow.holds Try.pinned (OpenSpec.ofChange siteRoutesWrong)

/-- 'exoduslaw14.SiteShortest': WHATEVER THE INPUT: true; the input reads as it did. -/
def siteShortestSpec : ChangeSpec := { name := "siteShortest", fn := fun _ => fun
  | [d1, d2, d3] => { results := [.lit (.bool true)], args := [d1, d2, d3] }
  | _ => none }
def siteShortestRow : OpenClaim := { program := "ytkmclglphelhdaa", sum := "38488b0e2eff143f6f6a55e6b99db2df52faca8326df5b66775f375478cd7f53", func := "exodus/exoduslaw14.SiteShortest", spec := "siteShortest", unfollowed := true, recurses := true, apart := false }
def SiteShortestSaid : Prop := siteShortestRow.holds Try.pinned (OpenSpec.ofChange siteShortestSpec)

/-- ITS FALSE NEIGHBOUR: 'it returns false'. Refute it at one input. -/
def siteShortestWrong : ChangeSpec := { name := "siteShortest", fn := fun _ => fun
  | [d1, d2, d3] => { results := [.lit (.bool false)], args := [d1, d2, d3] }
  | _ => none }
def SiteShortestWrongFalsely : Prop := siteShortestRow.holds Try.pinned (OpenSpec.ofChange siteShortestWrong)

/- THE SECOND FORM. 'bulk': how many values and letters a reading holds, each counted each time it is reached (what is shared counts as often as it is met; a slice's spare places count too). A statement '..UptoSaid' is the law's where the arguments, and the package variables that the reading takes, are together of bulk at most 1048576: NARROWER than '..Said'. Prove '..Said' where nothing that the law and all that it calls make is longer than what came in: it says more and counts as full. Else prove '..UptoSaid'. A law counts once. -/
mutual
def uptoBulk {H : Type} : DataW H → Nat
  | .lit (.string bytes) => bytes.length + 1
  | .lit _ => 1
  | .nil => 1
  | .ptr d => uptoBulk d + 1
  | .slice elems spare => uptoBulkAll elems + uptoBulkAll spare + 1
  | .agg parts => uptoBulkAll parts + 1
  | .iface _ d => uptoBulk d + 1
  | .map entries => uptoBulkEntries entries + 1
  | .held _ => 1
def uptoBulkAll {H : Type} : List (DataW H) → Nat
  | [] => 0
  | d :: r => uptoBulk d + uptoBulkAll r
def uptoBulkEntries {H : Type} : List (Lit × DataW H) → Nat
  | [] => 0
  | x :: r => uptoBulkEntry x + uptoBulkEntries r
def uptoBulkEntry {H : Type} : Lit × DataW H → Nat
  | (.string bytes, d) => bytes.length + uptoBulk d + 1
  | (_, d) => uptoBulk d + 1
 end
def uptoSmall : (H : Type) → List (DataW H) → Bool := fun _ ds => decide (uptoBulkAll ds ≤ 1048576)
def OpenSpec.upto (s : _root_.Go.ChangeSpec) : _root_.Go.OpenSpec := { _root_.Go.OpenSpec.ofChange s with cond := some uptoSmall }

/-- 'exoduslaw14.SiteValid', WHERE WHAT IT READS IS OF BULK AT MOST 1048576: true; the input reads as it did. -/
def siteValidUptoRow : OpenClaim := { program := "ytkmclglphelhdaa", sum := "38488b0e2eff143f6f6a55e6b99db2df52faca8326df5b66775f375478cd7f53", func := "exodus/exoduslaw14.SiteValid", spec := "siteValid", unfollowed := true, recurses := true, apart := false, narrowed := true }
def SiteValidUptoSaid : Prop := siteValidUptoRow.holds Try.pinned (OpenSpec.upto siteValidSpec)

/-- 'exoduslaw14.SiteDomains', WHERE WHAT IT READS IS OF BULK AT MOST 1048576: true; the input reads as it did. -/
def siteDomainsUptoRow : OpenClaim := { program := "ytkmclglphelhdaa", sum := "38488b0e2eff143f6f6a55e6b99db2df52faca8326df5b66775f375478cd7f53", func := "exodus/exoduslaw14.SiteDomains", spec := "siteDomains", unfollowed := true, recurses := true, apart := false, narrowed := true }
def SiteDomainsUptoSaid : Prop := siteDomainsUptoRow.holds Try.pinned (OpenSpec.upto siteDomainsSpec)

/-- 'exoduslaw14.SitePartition', WHERE WHAT IT READS IS OF BULK AT MOST 1048576: true; the input reads as it did. -/
def sitePartitionUptoRow : OpenClaim := { program := "ytkmclglphelhdaa", sum := "38488b0e2eff143f6f6a55e6b99db2df52faca8326df5b66775f375478cd7f53", func := "exodus/exoduslaw14.SitePartition", spec := "sitePartition", unfollowed := true, recurses := true, apart := false, narrowed := true }
def SitePartitionUptoSaid : Prop := sitePartitionUptoRow.holds Try.pinned (OpenSpec.upto sitePartitionSpec)

/-- 'exoduslaw14.SiteNested', WHERE WHAT IT READS IS OF BULK AT MOST 1048576: true; the input reads as it did. -/
def siteNestedUptoRow : OpenClaim := { program := "ytkmclglphelhdaa", sum := "38488b0e2eff143f6f6a55e6b99db2df52faca8326df5b66775f375478cd7f53", func := "exodus/exoduslaw14.SiteNested", spec := "siteNested", unfollowed := true, recurses := true, apart := false, narrowed := true }
def SiteNestedUptoSaid : Prop := siteNestedUptoRow.holds Try.pinned (OpenSpec.upto siteNestedSpec)

/-- 'exoduslaw14.SiteLinks', WHERE WHAT IT READS IS OF BULK AT MOST 1048576: true; the input reads as it did. -/
def siteLinksUptoRow : OpenClaim := { program := "ytkmclglphelhdaa", sum := "38488b0e2eff143f6f6a55e6b99db2df52faca8326df5b66775f375478cd7f53", func := "exodus/exoduslaw14.SiteLinks", spec := "siteLinks", unfollowed := true, recurses := true, apart := false, narrowed := true }
def SiteLinksUptoSaid : Prop := siteLinksUptoRow.holds Try.pinned (OpenSpec.upto siteLinksSpec)

/-- 'exoduslaw14.SiteRoutes', WHERE WHAT IT READS IS OF BULK AT MOST 1048576: true; the input reads as it did. -/
def siteRoutesUptoRow : OpenClaim := { program := "ytkmclglphelhdaa", sum := "38488b0e2eff143f6f6a55e6b99db2df52faca8326df5b66775f375478cd7f53", func := "exodus/exoduslaw14.SiteRoutes", spec := "siteRoutes", unfollowed := true, recurses := true, apart := false, narrowed := true }
def SiteRoutesUptoSaid : Prop := siteRoutesUptoRow.holds Try.pinned (OpenSpec.upto siteRoutesSpec)

/-- 'exoduslaw14.SiteShortest', WHERE WHAT IT READS IS OF BULK AT MOST 1048576: true; the input reads as it did. -/
def siteShortestUptoRow : OpenClaim := { program := "ytkmclglphelhdaa", sum := "38488b0e2eff143f6f6a55e6b99db2df52faca8326df5b66775f375478cd7f53", func := "exodus/exoduslaw14.SiteShortest", spec := "siteShortest", unfollowed := true, recurses := true, apart := false, narrowed := true }
def SiteShortestUptoSaid : Prop := siteShortestUptoRow.holds Try.pinned (OpenSpec.upto siteShortestSpec)

end Rows
end Go.Proofs.Ytkmclglphelhdaa
