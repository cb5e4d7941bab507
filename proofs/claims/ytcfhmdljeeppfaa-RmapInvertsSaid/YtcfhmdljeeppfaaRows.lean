/-
  No cell of these rows narrows 'for every input' (looked for: loops, veiled, ifaces, maps, wideKeys, modest, calm, conditions, laid).
  DERIVED. THE GIVEN ROWS OF THIS SEAT. 8 by the template 'for every input the law returns true; each argument reads behind the call as it read before'; 0 by the template 'total and deterministic' (their statements: YtcfhmdljeeppfaaTotals.lean).
  GIVEN WITH THE SEED: the statements are not yours to turn. If you find one false, say at which input.
  Laid BY PROGRAM, IN A SANDBOX (cutbox-rows.mjs): the forced cells as the released guide's own fill.sh prints them over the translation 96238ae5c3513f49… (all of the seat's roots in one cut). By AI agents, Wed Nov 11 2026. No macro, syntax, notation, axiom, sorry.
-/
import Derived.Test.YtcfhmdljeeppfaaChecked
import GoSem.Claim
import GoSem.ClaimJoined
import GoSem.ClaimMapViews
import Derived.JoinedTies
import Derived.KernelRfl
namespace Go.Proofs.Ytcfhmdljeeppfaa
/- THE CELL 'sum', in the pinned program and in every row, IS THE sha256 OF THE DUMP (.gsa) THAT YtcfhmdljeeppfaaProg.lean LOADS. Nothing in Lean hashes anything: it is a label: what it is worth is what the hold of that sum in a sandbox is worth. -/
noncomputable def Try.pinned : Pinned := { name := "ytcfhmdljeeppfaa", sum := "96238ae5c3513f49bc50fdd2d3c84edf9de50de05f41a294cec575662d7ac452", checked := Try.checked }
namespace Rows
def none {H : Type} : Left H := { results := [], args := [] }

/-- 'estoverslaw24.RmapFinds': WHATEVER THE INPUT: true; the input reads as it did. -/
def rmapFindsSpec : ChangeSpec := { name := "rmapFinds", fn := fun _ => fun
  | [d1, d2] => { results := [.lit (.bool true)], args := [d1, d2] }
  | _ => none }
def rmapFindsRow : OpenClaim := { program := "ytcfhmdljeeppfaa", sum := "96238ae5c3513f49bc50fdd2d3c84edf9de50de05f41a294cec575662d7ac452", func := "estovers/estoverslaw24.RmapFinds", spec := "rmapFinds", inPlace := ["slices.overlaps[estovers/api.Mapping]"], unfollowed := true, recurses := true, apart := false }
def RmapFindsSaid : Prop := rmapFindsRow.holds Try.pinned (OpenSpec.ofChange rmapFindsSpec)

/-- ITS FALSE NEIGHBOUR: 'it returns false'. Refute it at one input. -/
def rmapFindsWrong : ChangeSpec := { name := "rmapFinds", fn := fun _ => fun
  | [d1, d2] => { results := [.lit (.bool false)], args := [d1, d2] }
  | _ => none }
def RmapFindsWrongFalsely : Prop := rmapFindsRow.holds Try.pinned (OpenSpec.ofChange rmapFindsWrong)

/-- 'estoverslaw08.MmuReaches': WHATEVER THE INPUT: true; the input reads as it did. -/
def mmuReachesSpec : ChangeSpec := { name := "mmuReaches", fn := fun _ => fun
  | [d1, d2] => { results := [.lit (.bool true)], args := [d1, d2] }
  | _ => none }
def mmuReachesRow : OpenClaim := { program := "ytcfhmdljeeppfaa", sum := "96238ae5c3513f49bc50fdd2d3c84edf9de50de05f41a294cec575662d7ac452", func := "estovers/estoverslaw08.MmuReaches", spec := "mmuReaches", unfollowed := true, recurses := true, apart := false }
def MmuReachesSaid : Prop := mmuReachesRow.holds Try.pinned (OpenSpec.ofChange mmuReachesSpec)

/-- ITS FALSE NEIGHBOUR: 'it returns false'. Refute it at one input. -/
def mmuReachesWrong : ChangeSpec := { name := "mmuReaches", fn := fun _ => fun
  | [d1, d2] => { results := [.lit (.bool false)], args := [d1, d2] }
  | _ => none }
def MmuReachesWrongFalsely : Prop := mmuReachesRow.holds Try.pinned (OpenSpec.ofChange mmuReachesWrong)

/-- 'estoverslaw08.MmuHarvests': WHATEVER THE INPUT: true; the input reads as it did. -/
def mmuHarvestsSpec : ChangeSpec := { name := "mmuHarvests", fn := fun _ => fun
  | [d] => { results := [.lit (.bool true)], args := [d] }
  | _ => none }
def mmuHarvestsRow : OpenClaim := { program := "ytcfhmdljeeppfaa", sum := "96238ae5c3513f49bc50fdd2d3c84edf9de50de05f41a294cec575662d7ac452", func := "estovers/estoverslaw08.MmuHarvests", spec := "mmuHarvests", unfollowed := true, recurses := true, apart := false }
def MmuHarvestsSaid : Prop := mmuHarvestsRow.holds Try.pinned (OpenSpec.ofChange mmuHarvestsSpec)

/-- ITS FALSE NEIGHBOUR: 'it returns false'. Refute it at one input. -/
def mmuHarvestsWrong : ChangeSpec := { name := "mmuHarvests", fn := fun _ => fun
  | [d] => { results := [.lit (.bool false)], args := [d] }
  | _ => none }
def MmuHarvestsWrongFalsely : Prop := mmuHarvestsRow.holds Try.pinned (OpenSpec.ofChange mmuHarvestsWrong)

/-- 'estoverslaw08.MmuMarks': WHATEVER THE INPUT: true; the input reads as it did. -/
def mmuMarksSpec : ChangeSpec := { name := "mmuMarks", fn := fun _ => fun
  | [d1, d2] => { results := [.lit (.bool true)], args := [d1, d2] }
  | _ => none }
def mmuMarksRow : OpenClaim := { program := "ytcfhmdljeeppfaa", sum := "96238ae5c3513f49bc50fdd2d3c84edf9de50de05f41a294cec575662d7ac452", func := "estovers/estoverslaw08.MmuMarks", spec := "mmuMarks", unfollowed := true, recurses := true, apart := false }
def MmuMarksSaid : Prop := mmuMarksRow.holds Try.pinned (OpenSpec.ofChange mmuMarksSpec)

/-- ITS FALSE NEIGHBOUR: 'it returns false'. Refute it at one input. -/
def mmuMarksWrong : ChangeSpec := { name := "mmuMarks", fn := fun _ => fun
  | [d1, d2] => { results := [.lit (.bool false)], args := [d1, d2] }
  | _ => none }
def MmuMarksWrongFalsely : Prop := mmuMarksRow.holds Try.pinned (OpenSpec.ofChange mmuMarksWrong)

/-- 'estoverslaw08.MmuStale': WHATEVER THE INPUT: true; the input reads as it did. -/
def mmuStaleSpec : ChangeSpec := { name := "mmuStale", fn := fun _ => fun
  | [d1, d2, d3] => { results := [.lit (.bool true)], args := [d1, d2, d3] }
  | _ => none }
def mmuStaleRow : OpenClaim := { program := "ytcfhmdljeeppfaa", sum := "96238ae5c3513f49bc50fdd2d3c84edf9de50de05f41a294cec575662d7ac452", func := "estovers/estoverslaw08.MmuStale", spec := "mmuStale", unfollowed := true, recurses := true, apart := false }
def MmuStaleSaid : Prop := mmuStaleRow.holds Try.pinned (OpenSpec.ofChange mmuStaleSpec)

/-- ITS FALSE NEIGHBOUR: 'it returns false'. Refute it at one input. -/
def mmuStaleWrong : ChangeSpec := { name := "mmuStale", fn := fun _ => fun
  | [d1, d2, d3] => { results := [.lit (.bool false)], args := [d1, d2, d3] }
  | _ => none }
def MmuStaleWrongFalsely : Prop := mmuStaleRow.holds Try.pinned (OpenSpec.ofChange mmuStaleWrong)

/-- 'estoverslaw24.RmapInverts': WHATEVER THE INPUT: true; the input reads as it did. -/
def rmapInvertsSpec : ChangeSpec := { name := "rmapInverts", fn := fun _ => fun
  | [d1, d2] => { results := [.lit (.bool true)], args := [d1, d2] }
  | _ => none }
def rmapInvertsRow : OpenClaim := { program := "ytcfhmdljeeppfaa", sum := "96238ae5c3513f49bc50fdd2d3c84edf9de50de05f41a294cec575662d7ac452", func := "estovers/estoverslaw24.RmapInverts", spec := "rmapInverts", inPlace := ["slices.overlaps[estovers/api.Mapping]"], unfollowed := true, recurses := true, apart := false }
def RmapInvertsSaid : Prop := rmapInvertsRow.holds Try.pinned (OpenSpec.ofChange rmapInvertsSpec)

/-- ITS FALSE NEIGHBOUR: 'it returns false'. Refute it at one input. -/
def rmapInvertsWrong : ChangeSpec := { name := "rmapInverts", fn := fun _ => fun
  | [d1, d2] => { results := [.lit (.bool false)], args := [d1, d2] }
  | _ => none }
def RmapInvertsWrongFalsely : Prop := rmapInvertsRow.holds Try.pinned (OpenSpec.ofChange rmapInvertsWrong)

/-- 'estoverslaw08.MmuLooks': WHATEVER THE INPUT: true; the input reads as it did. -/
def mmuLooksSpec : ChangeSpec := { name := "mmuLooks", fn := fun _ => fun
  | [d1, d2, d3] => { results := [.lit (.bool true)], args := [d1, d2, d3] }
  | _ => none }
def mmuLooksRow : OpenClaim := { program := "ytcfhmdljeeppfaa", sum := "96238ae5c3513f49bc50fdd2d3c84edf9de50de05f41a294cec575662d7ac452", func := "estovers/estoverslaw08.MmuLooks", spec := "mmuLooks", unfollowed := true, recurses := true, apart := false }
def MmuLooksSaid : Prop := mmuLooksRow.holds Try.pinned (OpenSpec.ofChange mmuLooksSpec)

/-- ITS FALSE NEIGHBOUR: 'it returns false'. Refute it at one input. -/
def mmuLooksWrong : ChangeSpec := { name := "mmuLooks", fn := fun _ => fun
  | [d1, d2, d3] => { results := [.lit (.bool false)], args := [d1, d2, d3] }
  | _ => none }
def MmuLooksWrongFalsely : Prop := mmuLooksRow.holds Try.pinned (OpenSpec.ofChange mmuLooksWrong)

/-- 'estoverslaw08.MmuInvisible': WHATEVER THE INPUT: true; the input reads as it did. -/
def mmuInvisibleSpec : ChangeSpec := { name := "mmuInvisible", fn := fun _ => fun
  | [d1, d2, d3] => { results := [.lit (.bool true)], args := [d1, d2, d3] }
  | _ => none }
def mmuInvisibleRow : OpenClaim := { program := "ytcfhmdljeeppfaa", sum := "96238ae5c3513f49bc50fdd2d3c84edf9de50de05f41a294cec575662d7ac452", func := "estovers/estoverslaw08.MmuInvisible", spec := "mmuInvisible", unfollowed := true, recurses := true, apart := false }
def MmuInvisibleSaid : Prop := mmuInvisibleRow.holds Try.pinned (OpenSpec.ofChange mmuInvisibleSpec)

/-- ITS FALSE NEIGHBOUR: 'it returns false'. Refute it at one input. -/
def mmuInvisibleWrong : ChangeSpec := { name := "mmuInvisible", fn := fun _ => fun
  | [d1, d2, d3] => { results := [.lit (.bool false)], args := [d1, d2, d3] }
  | _ => none }
def MmuInvisibleWrongFalsely : Prop := mmuInvisibleRow.holds Try.pinned (OpenSpec.ofChange mmuInvisibleWrong)

/- THE SECOND FORM. 'bulk': how many values and letters a reading holds, each counted each time it is reached (what is shared counts as often as it is met; a slice's spare places count too). A statement '..UptoSaid' is the law's where the arguments, and the package variables that the reading takes, are together of bulk at most 1048576: NARROWER than '..Said'. Prove '..Said' where nothing that the law and all that it calls make is longer than what came in: it says more and counts as full. Else prove '..UptoSaid'. A law counts once. -/
mutual
def uptoBulk {H : Type} : DataW H → Nat
  | .lit (.string bytes) => bytes.length + 1
  | .lit _ => 1
  | .nil => 1
  | .ptr d => uptoBulk d + 1
  | .slice elems spare => uptoBulkAll elems + uptoBulkAll spare + 1
  | .agg parts => uptoBulkAll parts + 1
  | .iface _ d => uptoBulk d + 1
  | .map entries => uptoBulkEntries entries + 1
  | .held _ => 1
def uptoBulkAll {H : Type} : List (DataW H) → Nat
  | [] => 0
  | d :: r => uptoBulk d + uptoBulkAll r
def uptoBulkEntries {H : Type} : List (Lit × DataW H) → Nat
  | [] => 0
  | x :: r => uptoBulkEntry x + uptoBulkEntries r
def uptoBulkEntry {H : Type} : Lit × DataW H → Nat
  | (.string bytes, d) => bytes.length + uptoBulk d + 1
  | (_, d) => uptoBulk d + 1
 end
def uptoSmall : (H : Type) → List (DataW H) → Bool := fun _ ds => decide (uptoBulkAll ds ≤ 1048576)
def OpenSpec.upto (s : _root_.Go.ChangeSpec) : _root_.Go.OpenSpec := { _root_.Go.OpenSpec.ofChange s with cond := some uptoSmall }

/-- 'estoverslaw24.RmapFinds', WHERE WHAT IT READS IS OF BULK AT MOST 1048576: true; the input reads as it did. -/
def rmapFindsUptoRow : OpenClaim := { program := "ytcfhmdljeeppfaa", sum := "96238ae5c3513f49bc50fdd2d3c84edf9de50de05f41a294cec575662d7ac452", func := "estovers/estoverslaw24.RmapFinds", spec := "rmapFinds", inPlace := ["slices.overlaps[estovers/api.Mapping]"], unfollowed := true, recurses := true, apart := false, narrowed := true }
def RmapFindsUptoSaid : Prop := rmapFindsUptoRow.holds Try.pinned (OpenSpec.upto rmapFindsSpec)

/-- 'estoverslaw08.MmuReaches', WHERE WHAT IT READS IS OF BULK AT MOST 1048576: true; the input reads as it did. -/
def mmuReachesUptoRow : OpenClaim := { program := "ytcfhmdljeeppfaa", sum := "96238ae5c3513f49bc50fdd2d3c84edf9de50de05f41a294cec575662d7ac452", func := "estovers/estoverslaw08.MmuReaches", spec := "mmuReaches", unfollowed := true, recurses := true, apart := false, narrowed := true }
def MmuReachesUptoSaid : Prop := mmuReachesUptoRow.holds Try.pinned (OpenSpec.upto mmuReachesSpec)

/-- 'estoverslaw08.MmuHarvests', WHERE WHAT IT READS IS OF BULK AT MOST 1048576: true; the input reads as it did. -/
def mmuHarvestsUptoRow : OpenClaim := { program := "ytcfhmdljeeppfaa", sum := "96238ae5c3513f49bc50fdd2d3c84edf9de50de05f41a294cec575662d7ac452", func := "estovers/estoverslaw08.MmuHarvests", spec := "mmuHarvests", unfollowed := true, recurses := true, apart := false, narrowed := true }
def MmuHarvestsUptoSaid : Prop := mmuHarvestsUptoRow.holds Try.pinned (OpenSpec.upto mmuHarvestsSpec)

/-- 'estoverslaw08.MmuMarks', WHERE WHAT IT READS IS OF BULK AT MOST 1048576: true; the input reads as it did. -/
def mmuMarksUptoRow : OpenClaim := { program := "ytcfhmdljeeppfaa", sum := "96238ae5c3513f49bc50fdd2d3c84edf9de50de05f41a294cec575662d7ac452", func := "estovers/estoverslaw08.MmuMarks", spec := "mmuMarks", unfollowed := true, recurses := true, apart := false, narrowed := true }
def MmuMarksUptoSaid : Prop := mmuMarksUptoRow.holds Try.pinned (OpenSpec.upto mmuMarksSpec)

/-- 'estoverslaw08.MmuStale', WHERE WHAT IT READS IS OF BULK AT MOST 1048576: true; the input reads as it did. -/
def mmuStaleUptoRow : OpenClaim := { program := "ytcfhmdljeeppfaa", sum := "96238ae5c3513f49bc50fdd2d3c84edf9de50de05f41a294cec575662d7ac452", func := "estovers/estoverslaw08.MmuStale", spec := "mmuStale", unfollowed := true, recurses := true, apart := false, narrowed := true }
def MmuStaleUptoSaid : Prop := mmuStaleUptoRow.holds Try.pinned (OpenSpec.upto mmuStaleSpec)

/-- 'estoverslaw24.RmapInverts', WHERE WHAT IT READS IS OF BULK AT MOST 1048576: true; the input reads as it did. -/
def rmapInvertsUptoRow : OpenClaim := { program := "ytcfhmdljeeppfaa", sum := "96238ae5c3513f49bc50fdd2d3c84edf9de50de05f41a294cec575662d7ac452", func := "estovers/estoverslaw24.RmapInverts", spec := "rmapInverts", inPlace := ["slices.overlaps[estovers/api.Mapping]"], unfollowed := true, recurses := true, apart := false, narrowed := true }
def RmapInvertsUptoSaid : Prop := rmapInvertsUptoRow.holds Try.pinned (OpenSpec.upto rmapInvertsSpec)

/-- 'estoverslaw08.MmuLooks', WHERE WHAT IT READS IS OF BULK AT MOST 1048576: true; the input reads as it did. -/
def mmuLooksUptoRow : OpenClaim := { program := "ytcfhmdljeeppfaa", sum := "96238ae5c3513f49bc50fdd2d3c84edf9de50de05f41a294cec575662d7ac452", func := "estovers/estoverslaw08.MmuLooks", spec := "mmuLooks", unfollowed := true, recurses := true, apart := false, narrowed := true }
def MmuLooksUptoSaid : Prop := mmuLooksUptoRow.holds Try.pinned (OpenSpec.upto mmuLooksSpec)

/-- 'estoverslaw08.MmuInvisible', WHERE WHAT IT READS IS OF BULK AT MOST 1048576: true; the input reads as it did. -/
def mmuInvisibleUptoRow : OpenClaim := { program := "ytcfhmdljeeppfaa", sum := "96238ae5c3513f49bc50fdd2d3c84edf9de50de05f41a294cec575662d7ac452", func := "estovers/estoverslaw08.MmuInvisible", spec := "mmuInvisible", unfollowed := true, recurses := true, apart := false, narrowed := true }
def MmuInvisibleUptoSaid : Prop := mmuInvisibleUptoRow.holds Try.pinned (OpenSpec.upto mmuInvisibleSpec)

end Rows
end Go.Proofs.Ytcfhmdljeeppfaa
