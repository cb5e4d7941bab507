/-
  No cell of these rows narrows 'for every input' (looked for: loops, veiled, ifaces, maps, wideKeys, modest, calm, conditions, laid).
  DERIVED. THE GIVEN ROWS OF THIS SEAT. 5 by the template 'for every input the law returns true; each argument reads behind the call as it read before'; 0 by the template 'total and deterministic' (their statements: YtallcianhjejiaaTotals.lean).
  GIVEN WITH THE SEED: the statements are not yours to turn. If you find one false, say at which input.
  Laid BY PROGRAM, IN A SANDBOX (cutbox-rows.mjs): the forced cells as the released guide's own fill.sh prints them over the translation 07d01ba26244a37f… (all of the seat's roots in one cut). By AI agents, Wed Nov 11 2026. No macro, syntax, notation, axiom, sorry.
-/
import Derived.Test.YtallcianhjejiaaChecked
import GoSem.Claim
import GoSem.ClaimJoined
import GoSem.ClaimMapViews
import Derived.JoinedTies
import Derived.KernelRfl
namespace Go.Proofs.Ytallcianhjejiaa
/- THE CELL 'sum', in the pinned program and in every row, IS THE sha256 OF THE DUMP (.gsa) THAT YtallcianhjejiaaProg.lean LOADS. Nothing in Lean hashes anything: it is a label: what it is worth is what the hold of that sum in a sandbox is worth. -/
noncomputable def Try.pinned : Pinned := { name := "ytallcianhjejiaa", sum := "07d01ba26244a37fb969177a207527f8fd47df49e692dc8238918a03c82b2ce7", checked := Try.checked }
namespace Rows
def none {H : Type} : Left H := { results := [], args := [] }

/-- 'estoverslaw24.RmapChecks': WHATEVER THE INPUT: true; the input reads as it did. -/
def rmapChecksSpec : ChangeSpec := { name := "rmapChecks", fn := fun _ => fun
  | [d1, d2] => { results := [.lit (.bool true)], args := [d1, d2] }
  | _ => none }
def rmapChecksRow : OpenClaim := { program := "ytallcianhjejiaa", sum := "07d01ba26244a37fb969177a207527f8fd47df49e692dc8238918a03c82b2ce7", func := "estovers/estoverslaw24.RmapChecks", spec := "rmapChecks", inPlace := ["slices.overlaps[estovers/api.Mapping]"], unfollowed := true, recurses := true, apart := false }
def RmapChecksSaid : Prop := rmapChecksRow.holds Try.pinned (OpenSpec.ofChange rmapChecksSpec)

/-- ITS FALSE NEIGHBOUR: 'it returns false'. Refute it at one input. -/
def rmapChecksWrong : ChangeSpec := { name := "rmapChecks", fn := fun _ => fun
  | [d1, d2] => { results := [.lit (.bool false)], args := [d1, d2] }
  | _ => none }
def RmapChecksWrongFalsely : Prop := rmapChecksRow.holds Try.pinned (OpenSpec.ofChange rmapChecksWrong)

/-- 'estoverslaw24.RmapCopies': WHATEVER THE INPUT: true; the input reads as it did. -/
def rmapCopiesSpec : ChangeSpec := { name := "rmapCopies", fn := fun _ => fun
  | [d1, d2, d3] => { results := [.lit (.bool true)], args := [d1, d2, d3] }
  | _ => none }
def rmapCopiesRow : OpenClaim := { program := "ytallcianhjejiaa", sum := "07d01ba26244a37fb969177a207527f8fd47df49e692dc8238918a03c82b2ce7", func := "estovers/estoverslaw24.RmapCopies", spec := "rmapCopies", inPlace := ["slices.overlaps[estovers/api.Mapping]"], unfollowed := true, recurses := true, apart := false }
def RmapCopiesSaid : Prop := rmapCopiesRow.holds Try.pinned (OpenSpec.ofChange rmapCopiesSpec)

/-- ITS FALSE NEIGHBOUR: 'it returns false'. Refute it at one input. -/
def rmapCopiesWrong : ChangeSpec := { name := "rmapCopies", fn := fun _ => fun
  | [d1, d2, d3] => { results := [.lit (.bool false)], args := [d1, d2, d3] }
  | _ => none }
def RmapCopiesWrongFalsely : Prop := rmapCopiesRow.holds Try.pinned (OpenSpec.ofChange rmapCopiesWrong)

/-- 'estoverslaw24.RmapForks': WHATEVER THE INPUT: true; the input reads as it did. -/
def rmapForksSpec : ChangeSpec := { name := "rmapForks", fn := fun _ => fun
  | [d1, d2, d3] => { results := [.lit (.bool true)], args := [d1, d2, d3] }
  | _ => none }
def rmapForksRow : OpenClaim := { program := "ytallcianhjejiaa", sum := "07d01ba26244a37fb969177a207527f8fd47df49e692dc8238918a03c82b2ce7", func := "estovers/estoverslaw24.RmapForks", spec := "rmapForks", inPlace := ["slices.overlaps[estovers/api.Mapping]"], unfollowed := true, recurses := true, apart := false }
def RmapForksSaid : Prop := rmapForksRow.holds Try.pinned (OpenSpec.ofChange rmapForksSpec)

/-- ITS FALSE NEIGHBOUR: 'it returns false'. Refute it at one input. -/
def rmapForksWrong : ChangeSpec := { name := "rmapForks", fn := fun _ => fun
  | [d1, d2, d3] => { results := [.lit (.bool false)], args := [d1, d2, d3] }
  | _ => none }
def RmapForksWrongFalsely : Prop := rmapForksRow.holds Try.pinned (OpenSpec.ofChange rmapForksWrong)

/-- 'estoverslaw24.RmapSteps': WHATEVER THE INPUT: true; the input reads as it did. -/
def rmapStepsSpec : ChangeSpec := { name := "rmapSteps", fn := fun _ => fun
  | [d1, d2] => { results := [.lit (.bool true)], args := [d1, d2] }
  | _ => none }
def rmapStepsRow : OpenClaim := { program := "ytallcianhjejiaa", sum := "07d01ba26244a37fb969177a207527f8fd47df49e692dc8238918a03c82b2ce7", func := "estovers/estoverslaw24.RmapSteps", spec := "rmapSteps", inPlace := ["slices.overlaps[estovers/api.Mapping]"], unfollowed := true, recurses := true, apart := false }
def RmapStepsSaid : Prop := rmapStepsRow.holds Try.pinned (OpenSpec.ofChange rmapStepsSpec)

/-- ITS FALSE NEIGHBOUR: 'it returns false'. Refute it at one input. -/
def rmapStepsWrong : ChangeSpec := { name := "rmapSteps", fn := fun _ => fun
  | [d1, d2] => { results := [.lit (.bool false)], args := [d1, d2] }
  | _ => none }
def RmapStepsWrongFalsely : Prop := rmapStepsRow.holds Try.pinned (OpenSpec.ofChange rmapStepsWrong)

/-- 'estoverslaw24.RmapSet': WHATEVER THE INPUT: true; the input reads as it did. -/
def rmapSetSpec : ChangeSpec := { name := "rmapSet", fn := fun _ => fun
  | [d] => { results := [.lit (.bool true)], args := [d] }
  | _ => none }
def rmapSetRow : OpenClaim := { program := "ytallcianhjejiaa", sum := "07d01ba26244a37fb969177a207527f8fd47df49e692dc8238918a03c82b2ce7", func := "estovers/estoverslaw24.RmapSet", spec := "rmapSet", inPlace := ["slices.overlaps[estovers/api.Mapping]"], unfollowed := true, recurses := true, apart := false }
def RmapSetSaid : Prop := rmapSetRow.holds Try.pinned (OpenSpec.ofChange rmapSetSpec)

/-- ITS FALSE NEIGHBOUR: 'it returns false'. Refute it at one input. -/
def rmapSetWrong : ChangeSpec := { name := "rmapSet", fn := fun _ => fun
  | [d] => { results := [.lit (.bool false)], args := [d] }
  | _ => none }
def RmapSetWrongFalsely : Prop := rmapSetRow.holds Try.pinned (OpenSpec.ofChange rmapSetWrong)

/- THE SECOND FORM. 'bulk': how many values and letters a reading holds, each counted each time it is reached (what is shared counts as often as it is met; a slice's spare places count too). A statement '..UptoSaid' is the law's where the arguments, and the package variables that the reading takes, are together of bulk at most 1048576: NARROWER than '..Said'. Prove '..Said' where nothing that the law and all that it calls make is longer than what came in: it says more and counts as full. Else prove '..UptoSaid'. A law counts once. -/
mutual
def uptoBulk {H : Type} : DataW H → Nat
  | .lit (.string bytes) => bytes.length + 1
  | .lit _ => 1
  | .nil => 1
  | .ptr d => uptoBulk d + 1
  | .slice elems spare => uptoBulkAll elems + uptoBulkAll spare + 1
  | .agg parts => uptoBulkAll parts + 1
  | .iface _ d => uptoBulk d + 1
  | .map entries => uptoBulkEntries entries + 1
  | .held _ => 1
def uptoBulkAll {H : Type} : List (DataW H) → Nat
  | [] => 0
  | d :: r => uptoBulk d + uptoBulkAll r
def uptoBulkEntries {H : Type} : List (Lit × DataW H) → Nat
  | [] => 0
  | x :: r => uptoBulkEntry x + uptoBulkEntries r
def uptoBulkEntry {H : Type} : Lit × DataW H → Nat
  | (.string bytes, d) => bytes.length + uptoBulk d + 1
  | (_, d) => uptoBulk d + 1
 end
def uptoSmall : (H : Type) → List (DataW H) → Bool := fun _ ds => decide (uptoBulkAll ds ≤ 1048576)
def OpenSpec.upto (s : _root_.Go.ChangeSpec) : _root_.Go.OpenSpec := { _root_.Go.OpenSpec.ofChange s with cond := some uptoSmall }

/-- 'estoverslaw24.RmapChecks', WHERE WHAT IT READS IS OF BULK AT MOST 1048576: true; the input reads as it did. -/
def rmapChecksUptoRow : OpenClaim := { program := "ytallcianhjejiaa", sum := "07d01ba26244a37fb969177a207527f8fd47df49e692dc8238918a03c82b2ce7", func := "estovers/estoverslaw24.RmapChecks", spec := "rmapChecks", inPlace := ["slices.overlaps[estovers/api.Mapping]"], unfollowed := true, recurses := true, apart := false, narrowed := true }
def RmapChecksUptoSaid : Prop := rmapChecksUptoRow.holds Try.pinned (OpenSpec.upto rmapChecksSpec)

/-- 'estoverslaw24.RmapCopies', WHERE WHAT IT READS IS OF BULK AT MOST 1048576: true; the input reads as it did. -/
def rmapCopiesUptoRow : OpenClaim := { program := "ytallcianhjejiaa", sum := "07d01ba26244a37fb969177a207527f8fd47df49e692dc8238918a03c82b2ce7", func := "estovers/estoverslaw24.RmapCopies", spec := "rmapCopies", inPlace := ["slices.overlaps[estovers/api.Mapping]"], unfollowed := true, recurses := true, apart := false, narrowed := true }
def RmapCopiesUptoSaid : Prop := rmapCopiesUptoRow.holds Try.pinned (OpenSpec.upto rmapCopiesSpec)

/-- 'estoverslaw24.RmapForks', WHERE WHAT IT READS IS OF BULK AT MOST 1048576: true; the input reads as it did. -/
def rmapForksUptoRow : OpenClaim := { program := "ytallcianhjejiaa", sum := "07d01ba26244a37fb969177a207527f8fd47df49e692dc8238918a03c82b2ce7", func := "estovers/estoverslaw24.RmapForks", spec := "rmapForks", inPlace := ["slices.overlaps[estovers/api.Mapping]"], unfollowed := true, recurses := true, apart := false, narrowed := true }
def RmapForksUptoSaid : Prop := rmapForksUptoRow.holds Try.pinned (OpenSpec.upto rmapForksSpec)

/-- 'estoverslaw24.RmapSteps', WHERE WHAT IT READS IS OF BULK AT MOST 1048576: true; the input reads as it did. -/
def rmapStepsUptoRow : OpenClaim := { program := "ytallcianhjejiaa", sum := "07d01ba26244a37fb969177a207527f8fd47df49e692dc8238918a03c82b2ce7", func := "estovers/estoverslaw24.RmapSteps", spec := "rmapSteps", inPlace := ["slices.overlaps[estovers/api.Mapping]"], unfollowed := true, recurses := true, apart := false, narrowed := true }
def RmapStepsUptoSaid : Prop := rmapStepsUptoRow.holds Try.pinned (OpenSpec.upto rmapStepsSpec)

/-- 'estoverslaw24.RmapSet', WHERE WHAT IT READS IS OF BULK AT MOST 1048576: true; the input reads as it did. -/
def rmapSetUptoRow : OpenClaim := { program := "ytallcianhjejiaa", sum := "07d01ba26244a37fb969177a207527f8fd47df49e692dc8238918a03c82b2ce7", func := "estovers/estoverslaw24.RmapSet", spec := "rmapSet", inPlace := ["slices.overlaps[estovers/api.Mapping]"], unfollowed := true, recurses := true, apart := false, narrowed := true }
def RmapSetUptoSaid : Prop := rmapSetUptoRow.holds Try.pinned (OpenSpec.upto rmapSetSpec)

end Rows
end Go.Proofs.Ytallcianhjejiaa
