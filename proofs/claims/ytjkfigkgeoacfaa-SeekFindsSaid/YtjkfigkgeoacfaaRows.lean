/-
  No cell of these rows narrows 'for every input' (looked for: loops, veiled, ifaces, maps, wideKeys, modest, calm, conditions, laid).
  DERIVED. THE GIVEN ROWS OF THIS SEAT. 4 by the template 'for every input the law returns true; each argument reads behind the call as it read before'; 0 by the template 'total and deterministic' (their statements: YtjkfigkgeoacfaaTotals.lean).
  GIVEN WITH THE SEED: the statements are not yours to turn. If you find one false, say at which input.
  Laid BY PROGRAM, IN A SANDBOX (cutbox-rows.mjs): the forced cells as the released guide's own fill.sh prints them over the translation 679501e0a1916867… (all of the seat's roots in one cut). By AI agents, Wed Nov 11 2026. No macro, syntax, notation, axiom, sorry.
-/
import Derived.Test.YtjkfigkgeoacfaaChecked
import GoSem.Claim
import GoSem.ClaimJoined
import GoSem.ClaimMapViews
import Derived.JoinedTies
import Derived.KernelRfl
namespace Go.Proofs.Ytjkfigkgeoacfaa
/- THE CELL 'sum', in the pinned program and in every row, IS THE sha256 OF THE DUMP (.gsa) THAT YtjkfigkgeoacfaaProg.lean LOADS. Nothing in Lean hashes anything: it is a label: what it is worth is what the hold of that sum in a sandbox is worth. -/
noncomputable def Try.pinned : Pinned := { name := "ytjkfigkgeoacfaa", sum := "679501e0a191686725b6f7087b3a6bbe2889a95b0f126135e7d3c2c7d4c2ef39", checked := Try.checked }
namespace Rows
def none {H : Type} : Left H := { results := [], args := [] }

/-- 'boscagelaw11.SeekPaths': WHATEVER THE INPUT: true; the input reads as it did. -/
def seekPathsSpec : ChangeSpec := { name := "seekPaths", fn := fun _ => fun
  | [d1, d2, d3] => { results := [.lit (.bool true)], args := [d1, d2, d3] }
  | _ => none }
def seekPathsRow : OpenClaim := { program := "ytjkfigkgeoacfaa", sum := "679501e0a191686725b6f7087b3a6bbe2889a95b0f126135e7d3c2c7d4c2ef39", func := "boscage/boscagelaw11.SeekPaths", spec := "seekPaths", unfollowed := true, recurses := true, apart := false }
def SeekPathsSaid : Prop := seekPathsRow.holds Try.pinned (OpenSpec.ofChange seekPathsSpec)

/-- ITS FALSE NEIGHBOUR: 'it returns false'. Refute it at one input. -/
def seekPathsWrong : ChangeSpec := { name := "seekPaths", fn := fun _ => fun
  | [d1, d2, d3] => { results := [.lit (.bool false)], args := [d1, d2, d3] }
  | _ => none }
def SeekPathsWrongFalsely : Prop := seekPathsRow.holds Try.pinned (OpenSpec.ofChange seekPathsWrong)

/-- 'boscagelaw21.AuditReads': WHATEVER THE INPUT: true; the input reads as it did. -/
def auditReadsSpec : ChangeSpec := { name := "auditReads", fn := fun _ => fun
  | [d1, d2, d3] => { results := [.lit (.bool true)], args := [d1, d2, d3] }
  | _ => none }
def auditReadsRow : OpenClaim := { program := "ytjkfigkgeoacfaa", sum := "679501e0a191686725b6f7087b3a6bbe2889a95b0f126135e7d3c2c7d4c2ef39", func := "boscage/boscagelaw21.AuditReads", spec := "auditReads", recurses := true, apart := false }
def AuditReadsSaid : Prop := auditReadsRow.holds Try.pinned (OpenSpec.ofChange auditReadsSpec)

/-- ITS FALSE NEIGHBOUR: 'it returns false'. Refute it at one input. -/
def auditReadsWrong : ChangeSpec := { name := "auditReads", fn := fun _ => fun
  | [d1, d2, d3] => { results := [.lit (.bool false)], args := [d1, d2, d3] }
  | _ => none }
def AuditReadsWrongFalsely : Prop := auditReadsRow.holds Try.pinned (OpenSpec.ofChange auditReadsWrong)

/-- 'boscagelaw11.SeekFinds': WHATEVER THE INPUT: true; the input reads as it did. -/
def seekFindsSpec : ChangeSpec := { name := "seekFinds", fn := fun _ => fun
  | [d1, d2] => { results := [.lit (.bool true)], args := [d1, d2] }
  | _ => none }
def seekFindsRow : OpenClaim := { program := "ytjkfigkgeoacfaa", sum := "679501e0a191686725b6f7087b3a6bbe2889a95b0f126135e7d3c2c7d4c2ef39", func := "boscage/boscagelaw11.SeekFinds", spec := "seekFinds", unfollowed := true, recurses := true, apart := false }
def SeekFindsSaid : Prop := seekFindsRow.holds Try.pinned (OpenSpec.ofChange seekFindsSpec)

/-- ITS FALSE NEIGHBOUR: 'it returns false'. Refute it at one input. -/
def seekFindsWrong : ChangeSpec := { name := "seekFinds", fn := fun _ => fun
  | [d1, d2] => { results := [.lit (.bool false)], args := [d1, d2] }
  | _ => none }
def SeekFindsWrongFalsely : Prop := seekFindsRow.holds Try.pinned (OpenSpec.ofChange seekFindsWrong)

/-- 'boscagelaw11.SeekLeaf': WHATEVER THE INPUT: true; the input reads as it did. -/
def seekLeafSpec : ChangeSpec := { name := "seekLeaf", fn := fun _ => fun
  | [d1, d2, d3] => { results := [.lit (.bool true)], args := [d1, d2, d3] }
  | _ => none }
def seekLeafRow : OpenClaim := { program := "ytjkfigkgeoacfaa", sum := "679501e0a191686725b6f7087b3a6bbe2889a95b0f126135e7d3c2c7d4c2ef39", func := "boscage/boscagelaw11.SeekLeaf", spec := "seekLeaf", unfollowed := true, recurses := true, apart := false }
def SeekLeafSaid : Prop := seekLeafRow.holds Try.pinned (OpenSpec.ofChange seekLeafSpec)

/-- ITS FALSE NEIGHBOUR: 'it returns false'. Refute it at one input. -/
def seekLeafWrong : ChangeSpec := { name := "seekLeaf", fn := fun _ => fun
  | [d1, d2, d3] => { results := [.lit (.bool false)], args := [d1, d2, d3] }
  | _ => none }
def SeekLeafWrongFalsely : Prop := seekLeafRow.holds Try.pinned (OpenSpec.ofChange seekLeafWrong)

/- THE SECOND FORM. 'bulk': how many values and letters a reading holds, each counted each time it is reached (what is shared counts as often as it is met; a slice's spare places count too). A statement '..UptoSaid' is the law's where the arguments, and the package variables that the reading takes, are together of bulk at most 1048576: NARROWER than '..Said'. Prove '..Said' where nothing that the law and all that it calls make is longer than what came in: it says more and counts as full. Else prove '..UptoSaid'. A law counts once. -/
mutual
def uptoBulk {H : Type} : DataW H → Nat
  | .lit (.string bytes) => bytes.length + 1
  | .lit _ => 1
  | .nil => 1
  | .ptr d => uptoBulk d + 1
  | .slice elems spare => uptoBulkAll elems + uptoBulkAll spare + 1
  | .agg parts => uptoBulkAll parts + 1
  | .iface _ d => uptoBulk d + 1
  | .map entries => uptoBulkEntries entries + 1
  | .held _ => 1
def uptoBulkAll {H : Type} : List (DataW H) → Nat
  | [] => 0
  | d :: r => uptoBulk d + uptoBulkAll r
def uptoBulkEntries {H : Type} : List (Lit × DataW H) → Nat
  | [] => 0
  | x :: r => uptoBulkEntry x + uptoBulkEntries r
def uptoBulkEntry {H : Type} : Lit × DataW H → Nat
  | (.string bytes, d) => bytes.length + uptoBulk d + 1
  | (_, d) => uptoBulk d + 1
 end
def uptoSmall : (H : Type) → List (DataW H) → Bool := fun _ ds => decide (uptoBulkAll ds ≤ 1048576)
def OpenSpec.upto (s : _root_.Go.ChangeSpec) : _root_.Go.OpenSpec := { _root_.Go.OpenSpec.ofChange s with cond := some uptoSmall }

/-- 'boscagelaw11.SeekPaths', WHERE WHAT IT READS IS OF BULK AT MOST 1048576: true; the input reads as it did. -/
def seekPathsUptoRow : OpenClaim := { program := "ytjkfigkgeoacfaa", sum := "679501e0a191686725b6f7087b3a6bbe2889a95b0f126135e7d3c2c7d4c2ef39", func := "boscage/boscagelaw11.SeekPaths", spec := "seekPaths", unfollowed := true, recurses := true, apart := false, narrowed := true }
def SeekPathsUptoSaid : Prop := seekPathsUptoRow.holds Try.pinned (OpenSpec.upto seekPathsSpec)

/-- 'boscagelaw21.AuditReads', WHERE WHAT IT READS IS OF BULK AT MOST 1048576: true; the input reads as it did. -/
def auditReadsUptoRow : OpenClaim := { program := "ytjkfigkgeoacfaa", sum := "679501e0a191686725b6f7087b3a6bbe2889a95b0f126135e7d3c2c7d4c2ef39", func := "boscage/boscagelaw21.AuditReads", spec := "auditReads", recurses := true, apart := false, narrowed := true }
def AuditReadsUptoSaid : Prop := auditReadsUptoRow.holds Try.pinned (OpenSpec.upto auditReadsSpec)

/-- 'boscagelaw11.SeekFinds', WHERE WHAT IT READS IS OF BULK AT MOST 1048576: true; the input reads as it did. -/
def seekFindsUptoRow : OpenClaim := { program := "ytjkfigkgeoacfaa", sum := "679501e0a191686725b6f7087b3a6bbe2889a95b0f126135e7d3c2c7d4c2ef39", func := "boscage/boscagelaw11.SeekFinds", spec := "seekFinds", unfollowed := true, recurses := true, apart := false, narrowed := true }
def SeekFindsUptoSaid : Prop := seekFindsUptoRow.holds Try.pinned (OpenSpec.upto seekFindsSpec)

/-- 'boscagelaw11.SeekLeaf', WHERE WHAT IT READS IS OF BULK AT MOST 1048576: true; the input reads as it did. -/
def seekLeafUptoRow : OpenClaim := { program := "ytjkfigkgeoacfaa", sum := "679501e0a191686725b6f7087b3a6bbe2889a95b0f126135e7d3c2c7d4c2ef39", func := "boscage/boscagelaw11.SeekLeaf", spec := "seekLeaf", unfollowed := true, recurses := true, apart := false, narrowed := true }
def SeekLeafUptoSaid : Prop := seekLeafUptoRow.holds Try.pinned (OpenSpec.upto seekLeafSpec)

end Rows
end Go.Proofs.Ytjkfigkgeoacfaa
