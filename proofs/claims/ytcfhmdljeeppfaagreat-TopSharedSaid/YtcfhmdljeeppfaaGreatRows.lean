/-
  No cell of these rows narrows 'for every input' (looked for: loops, veiled, ifaces, maps, wideKeys, modest, calm, conditions, laid).
  DERIVED. THE GIVEN ROWS OF THIS SEAT. 11 by the template 'for every input the law returns true; each argument reads behind the call as it read before'; 0 by the template 'total and deterministic' (their statements: YtcfhmdljeeppfaaGreatTotals.lean).
  GIVEN WITH THE SEED: the statements are not yours to turn. If you find one false, say at which input.
  Laid BY PROGRAM, IN A SANDBOX (cutbox-rows.mjs): the forced cells as the released guide's own fill.sh prints them over the translation 3a9f729b2661326b… (all of the seat's roots in one cut). By AI agents, Wed Nov 11 2026. No macro, syntax, notation, axiom, sorry.
-/
import Derived.Test.YtcfhmdljeeppfaaGreatChecked
import GoSem.Claim
import GoSem.ClaimJoined
import GoSem.ClaimMapViews
import Derived.JoinedTies
import Derived.KernelRfl
namespace Go.Proofs.YtcfhmdljeeppfaaGreat
/- THE CELL 'sum', in the pinned program and in every row, IS THE sha256 OF THE DUMP (.gsa) THAT YtcfhmdljeeppfaaGreatProg.lean LOADS. Nothing in Lean hashes anything: it is a label: what it is worth is what the hold of that sum in a sandbox is worth. -/
noncomputable def Tryz.pinned : Pinned := { name := "ytcfhmdljeeppfaagreat", sum := "3a9f729b2661326bc1f1cc344f1c71dfe018cd76ae51a89a748d01c88c290cc6", checked := Tryz.checked }
namespace Rows
def none {H : Type} : Left H := { results := [], args := [] }

/-- 'estoverstop.TopCaches': WHATEVER THE INPUT: true; the input reads as it did. -/
def topCachesSpec : ChangeSpec := { name := "topCaches", fn := fun _ => fun
  | [d1, d2] => { results := [.lit (.bool true)], args := [d1, d2] }
  | _ => none }
def topCachesRow : OpenClaim := { program := "ytcfhmdljeeppfaagreat", sum := "3a9f729b2661326bc1f1cc344f1c71dfe018cd76ae51a89a748d01c88c290cc6", func := "estovers/estoverstop.TopCaches", spec := "topCaches", inPlace := ["internal/reflectlite.ValueOf", "internal/reflectlite.Swapper", "(internal/reflectlite.Value).Len", "slices.overlaps[estovers/api.Deposit]"], unfollowed := true, recurses := true, apart := false }
def TopCachesSaid : Prop := topCachesRow.holds Tryz.pinned (OpenSpec.ofChange topCachesSpec)

/-- ITS FALSE NEIGHBOUR: 'it returns false'. Refute it at one input. -/
def topCachesWrong : ChangeSpec := { name := "topCaches", fn := fun _ => fun
  | [d1, d2] => { results := [.lit (.bool false)], args := [d1, d2] }
  | _ => none }
def TopCachesWrongFalsely : Prop := topCachesRow.holds Tryz.pinned (OpenSpec.ofChange topCachesWrong)

/-- 'estoverstop.TopShared': WHATEVER THE INPUT: true; the input reads as it did. -/
def topSharedSpec : ChangeSpec := { name := "topShared", fn := fun _ => fun
  | [d] => { results := [.lit (.bool true)], args := [d] }
  | _ => none }
def topSharedRow : OpenClaim := { program := "ytcfhmdljeeppfaagreat", sum := "3a9f729b2661326bc1f1cc344f1c71dfe018cd76ae51a89a748d01c88c290cc6", func := "estovers/estoverstop.TopShared", spec := "topShared", inPlace := ["internal/reflectlite.ValueOf", "internal/reflectlite.Swapper", "(internal/reflectlite.Value).Len", "slices.overlaps[estovers/api.Mapping]"], unfollowed := true, recurses := true, apart := false }
def TopSharedSaid : Prop := topSharedRow.holds Tryz.pinned (OpenSpec.ofChange topSharedSpec)

/-- ITS FALSE NEIGHBOUR: 'it returns false'. Refute it at one input. -/
def topSharedWrong : ChangeSpec := { name := "topShared", fn := fun _ => fun
  | [d] => { results := [.lit (.bool false)], args := [d] }
  | _ => none }
def TopSharedWrongFalsely : Prop := topSharedRow.holds Tryz.pinned (OpenSpec.ofChange topSharedWrong)

/-- 'estoverslaw08.MmuAccesses': WHATEVER THE INPUT: true; the input reads as it did. -/
def mmuAccessesSpec : ChangeSpec := { name := "mmuAccesses", fn := fun _ => fun
  | [d1, d2, d3] => { results := [.lit (.bool true)], args := [d1, d2, d3] }
  | _ => none }
def mmuAccessesRow : OpenClaim := { program := "ytcfhmdljeeppfaagreat", sum := "3a9f729b2661326bc1f1cc344f1c71dfe018cd76ae51a89a748d01c88c290cc6", func := "estovers/estoverslaw08.MmuAccesses", spec := "mmuAccesses", unfollowed := true, recurses := true, apart := false }
def MmuAccessesSaid : Prop := mmuAccessesRow.holds Tryz.pinned (OpenSpec.ofChange mmuAccessesSpec)

/-- ITS FALSE NEIGHBOUR: 'it returns false'. Refute it at one input. -/
def mmuAccessesWrong : ChangeSpec := { name := "mmuAccesses", fn := fun _ => fun
  | [d1, d2, d3] => { results := [.lit (.bool false)], args := [d1, d2, d3] }
  | _ => none }
def MmuAccessesWrongFalsely : Prop := mmuAccessesRow.holds Tryz.pinned (OpenSpec.ofChange mmuAccessesWrong)

/-- 'estoverslaw06.PagetableChecks': WHATEVER THE INPUT: true; the input reads as it did. -/
def pagetableChecksSpec : ChangeSpec := { name := "pagetableChecks", fn := fun _ => fun
  | [d1, d2] => { results := [.lit (.bool true)], args := [d1, d2] }
  | _ => none }
def pagetableChecksRow : OpenClaim := { program := "ytcfhmdljeeppfaagreat", sum := "3a9f729b2661326bc1f1cc344f1c71dfe018cd76ae51a89a748d01c88c290cc6", func := "estovers/estoverslaw06.PagetableChecks", spec := "pagetableChecks", inPlace := ["internal/reflectlite.ValueOf", "internal/reflectlite.Swapper", "(internal/reflectlite.Value).Len", "slices.overlaps[estovers/api.Deposit]"], unfollowed := true, recurses := true, apart := false }
def PagetableChecksSaid : Prop := pagetableChecksRow.holds Tryz.pinned (OpenSpec.ofChange pagetableChecksSpec)

/-- ITS FALSE NEIGHBOUR: 'it returns false'. Refute it at one input. -/
def pagetableChecksWrong : ChangeSpec := { name := "pagetableChecks", fn := fun _ => fun
  | [d1, d2] => { results := [.lit (.bool false)], args := [d1, d2] }
  | _ => none }
def PagetableChecksWrongFalsely : Prop := pagetableChecksRow.holds Tryz.pinned (OpenSpec.ofChange pagetableChecksWrong)

/-- 'estoverslaw06.PagetableNews': WHATEVER THE INPUT: true; the input reads as it did. -/
def pagetableNewsSpec : ChangeSpec := { name := "pagetableNews", fn := fun _ => fun
  | [d] => { results := [.lit (.bool true)], args := [d] }
  | _ => none }
def pagetableNewsRow : OpenClaim := { program := "ytcfhmdljeeppfaagreat", sum := "3a9f729b2661326bc1f1cc344f1c71dfe018cd76ae51a89a748d01c88c290cc6", func := "estovers/estoverslaw06.PagetableNews", spec := "pagetableNews", inPlace := ["internal/reflectlite.ValueOf", "internal/reflectlite.Swapper", "(internal/reflectlite.Value).Len", "slices.overlaps[estovers/api.Deposit]"], unfollowed := true, recurses := true, apart := false }
def PagetableNewsSaid : Prop := pagetableNewsRow.holds Tryz.pinned (OpenSpec.ofChange pagetableNewsSpec)

/-- ITS FALSE NEIGHBOUR: 'it returns false'. Refute it at one input. -/
def pagetableNewsWrong : ChangeSpec := { name := "pagetableNews", fn := fun _ => fun
  | [d] => { results := [.lit (.bool false)], args := [d] }
  | _ => none }
def PagetableNewsWrongFalsely : Prop := pagetableNewsRow.holds Tryz.pinned (OpenSpec.ofChange pagetableNewsWrong)

/-- 'estoverslaw06.PagetableSets': WHATEVER THE INPUT: true; the input reads as it did. -/
def pagetableSetsSpec : ChangeSpec := { name := "pagetableSets", fn := fun _ => fun
  | [d1, d2] => { results := [.lit (.bool true)], args := [d1, d2] }
  | _ => none }
def pagetableSetsRow : OpenClaim := { program := "ytcfhmdljeeppfaagreat", sum := "3a9f729b2661326bc1f1cc344f1c71dfe018cd76ae51a89a748d01c88c290cc6", func := "estovers/estoverslaw06.PagetableSets", spec := "pagetableSets", inPlace := ["internal/reflectlite.ValueOf", "internal/reflectlite.Swapper", "(internal/reflectlite.Value).Len", "slices.overlaps[estovers/api.Deposit]"], unfollowed := true, recurses := true, apart := false }
def PagetableSetsSaid : Prop := pagetableSetsRow.holds Tryz.pinned (OpenSpec.ofChange pagetableSetsSpec)

/-- ITS FALSE NEIGHBOUR: 'it returns false'. Refute it at one input. -/
def pagetableSetsWrong : ChangeSpec := { name := "pagetableSets", fn := fun _ => fun
  | [d1, d2] => { results := [.lit (.bool false)], args := [d1, d2] }
  | _ => none }
def PagetableSetsWrongFalsely : Prop := pagetableSetsRow.holds Tryz.pinned (OpenSpec.ofChange pagetableSetsWrong)

/-- 'estoverslaw06.PagetableMap': WHATEVER THE INPUT: true; the input reads as it did. -/
def pagetableMapSpec : ChangeSpec := { name := "pagetableMap", fn := fun _ => fun
  | [d] => { results := [.lit (.bool true)], args := [d] }
  | _ => none }
def pagetableMapRow : OpenClaim := { program := "ytcfhmdljeeppfaagreat", sum := "3a9f729b2661326bc1f1cc344f1c71dfe018cd76ae51a89a748d01c88c290cc6", func := "estovers/estoverslaw06.PagetableMap", spec := "pagetableMap", inPlace := ["internal/reflectlite.ValueOf", "internal/reflectlite.Swapper", "(internal/reflectlite.Value).Len", "slices.overlaps[estovers/api.Deposit]"], unfollowed := true, recurses := true, apart := false }
def PagetableMapSaid : Prop := pagetableMapRow.holds Tryz.pinned (OpenSpec.ofChange pagetableMapSpec)

/-- ITS FALSE NEIGHBOUR: 'it returns false'. Refute it at one input. -/
def pagetableMapWrong : ChangeSpec := { name := "pagetableMap", fn := fun _ => fun
  | [d] => { results := [.lit (.bool false)], args := [d] }
  | _ => none }
def PagetableMapWrongFalsely : Prop := pagetableMapRow.holds Tryz.pinned (OpenSpec.ofChange pagetableMapWrong)

/-- 'estoverslaw06.PagetableUndo': WHATEVER THE INPUT: true; the input reads as it did. -/
def pagetableUndoSpec : ChangeSpec := { name := "pagetableUndo", fn := fun _ => fun
  | [d1, d2] => { results := [.lit (.bool true)], args := [d1, d2] }
  | _ => none }
def pagetableUndoRow : OpenClaim := { program := "ytcfhmdljeeppfaagreat", sum := "3a9f729b2661326bc1f1cc344f1c71dfe018cd76ae51a89a748d01c88c290cc6", func := "estovers/estoverslaw06.PagetableUndo", spec := "pagetableUndo", inPlace := ["internal/reflectlite.ValueOf", "internal/reflectlite.Swapper", "(internal/reflectlite.Value).Len", "slices.overlaps[estovers/api.Deposit]"], unfollowed := true, recurses := true, apart := false }
def PagetableUndoSaid : Prop := pagetableUndoRow.holds Tryz.pinned (OpenSpec.ofChange pagetableUndoSpec)

/-- ITS FALSE NEIGHBOUR: 'it returns false'. Refute it at one input. -/
def pagetableUndoWrong : ChangeSpec := { name := "pagetableUndo", fn := fun _ => fun
  | [d1, d2] => { results := [.lit (.bool false)], args := [d1, d2] }
  | _ => none }
def PagetableUndoWrongFalsely : Prop := pagetableUndoRow.holds Tryz.pinned (OpenSpec.ofChange pagetableUndoWrong)

/-- 'estoverslaw06.PagetableClears': WHATEVER THE INPUT: true; the input reads as it did. -/
def pagetableClearsSpec : ChangeSpec := { name := "pagetableClears", fn := fun _ => fun
  | [d1, d2, d3] => { results := [.lit (.bool true)], args := [d1, d2, d3] }
  | _ => none }
def pagetableClearsRow : OpenClaim := { program := "ytcfhmdljeeppfaagreat", sum := "3a9f729b2661326bc1f1cc344f1c71dfe018cd76ae51a89a748d01c88c290cc6", func := "estovers/estoverslaw06.PagetableClears", spec := "pagetableClears", inPlace := ["internal/reflectlite.ValueOf", "internal/reflectlite.Swapper", "(internal/reflectlite.Value).Len", "slices.overlaps[estovers/api.Deposit]"], unfollowed := true, recurses := true, apart := false }
def PagetableClearsSaid : Prop := pagetableClearsRow.holds Tryz.pinned (OpenSpec.ofChange pagetableClearsSpec)

/-- ITS FALSE NEIGHBOUR: 'it returns false'. Refute it at one input. -/
def pagetableClearsWrong : ChangeSpec := { name := "pagetableClears", fn := fun _ => fun
  | [d1, d2, d3] => { results := [.lit (.bool false)], args := [d1, d2, d3] }
  | _ => none }
def PagetableClearsWrongFalsely : Prop := pagetableClearsRow.holds Tryz.pinned (OpenSpec.ofChange pagetableClearsWrong)

/-- 'estoverslaw06.PagetableHuge': WHATEVER THE INPUT: true; the input reads as it did. -/
def pagetableHugeSpec : ChangeSpec := { name := "pagetableHuge", fn := fun _ => fun
  | [d1, d2] => { results := [.lit (.bool true)], args := [d1, d2] }
  | _ => none }
def pagetableHugeRow : OpenClaim := { program := "ytcfhmdljeeppfaagreat", sum := "3a9f729b2661326bc1f1cc344f1c71dfe018cd76ae51a89a748d01c88c290cc6", func := "estovers/estoverslaw06.PagetableHuge", spec := "pagetableHuge", inPlace := ["internal/reflectlite.ValueOf", "internal/reflectlite.Swapper", "(internal/reflectlite.Value).Len", "slices.overlaps[estovers/api.Deposit]"], unfollowed := true, recurses := true, apart := false }
def PagetableHugeSaid : Prop := pagetableHugeRow.holds Tryz.pinned (OpenSpec.ofChange pagetableHugeSpec)

/-- ITS FALSE NEIGHBOUR: 'it returns false'. Refute it at one input. -/
def pagetableHugeWrong : ChangeSpec := { name := "pagetableHuge", fn := fun _ => fun
  | [d1, d2] => { results := [.lit (.bool false)], args := [d1, d2] }
  | _ => none }
def PagetableHugeWrongFalsely : Prop := pagetableHugeRow.holds Tryz.pinned (OpenSpec.ofChange pagetableHugeWrong)

/-- 'estoverslaw06.PagetableSplits': WHATEVER THE INPUT: true; the input reads as it did. -/
def pagetableSplitsSpec : ChangeSpec := { name := "pagetableSplits", fn := fun _ => fun
  | [d1, d2] => { results := [.lit (.bool true)], args := [d1, d2] }
  | _ => none }
def pagetableSplitsRow : OpenClaim := { program := "ytcfhmdljeeppfaagreat", sum := "3a9f729b2661326bc1f1cc344f1c71dfe018cd76ae51a89a748d01c88c290cc6", func := "estovers/estoverslaw06.PagetableSplits", spec := "pagetableSplits", inPlace := ["internal/reflectlite.ValueOf", "internal/reflectlite.Swapper", "(internal/reflectlite.Value).Len", "slices.overlaps[estovers/api.Deposit]"], unfollowed := true, recurses := true, apart := false }
def PagetableSplitsSaid : Prop := pagetableSplitsRow.holds Tryz.pinned (OpenSpec.ofChange pagetableSplitsSpec)

/-- ITS FALSE NEIGHBOUR: 'it returns false'. Refute it at one input. -/
def pagetableSplitsWrong : ChangeSpec := { name := "pagetableSplits", fn := fun _ => fun
  | [d1, d2] => { results := [.lit (.bool false)], args := [d1, d2] }
  | _ => none }
def PagetableSplitsWrongFalsely : Prop := pagetableSplitsRow.holds Tryz.pinned (OpenSpec.ofChange pagetableSplitsWrong)

/- THE SECOND FORM. 'bulk': how many values and letters a reading holds, each counted each time it is reached (what is shared counts as often as it is met; a slice's spare places count too). A statement '..UptoSaid' is the law's where the arguments, and the package variables that the reading takes, are together of bulk at most 1048576: NARROWER than '..Said'. Prove '..Said' where nothing that the law and all that it calls make is longer than what came in: it says more and counts as full. Else prove '..UptoSaid'. A law counts once. -/
mutual
def uptoBulk {H : Type} : DataW H → Nat
  | .lit (.string bytes) => bytes.length + 1
  | .lit _ => 1
  | .nil => 1
  | .ptr d => uptoBulk d + 1
  | .slice elems spare => uptoBulkAll elems + uptoBulkAll spare + 1
  | .agg parts => uptoBulkAll parts + 1
  | .iface _ d => uptoBulk d + 1
  | .map entries => uptoBulkEntries entries + 1
  | .held _ => 1
def uptoBulkAll {H : Type} : List (DataW H) → Nat
  | [] => 0
  | d :: r => uptoBulk d + uptoBulkAll r
def uptoBulkEntries {H : Type} : List (Lit × DataW H) → Nat
  | [] => 0
  | x :: r => uptoBulkEntry x + uptoBulkEntries r
def uptoBulkEntry {H : Type} : Lit × DataW H → Nat
  | (.string bytes, d) => bytes.length + uptoBulk d + 1
  | (_, d) => uptoBulk d + 1
 end
def uptoSmall : (H : Type) → List (DataW H) → Bool := fun _ ds => decide (uptoBulkAll ds ≤ 1048576)
def OpenSpec.upto (s : _root_.Go.ChangeSpec) : _root_.Go.OpenSpec := { _root_.Go.OpenSpec.ofChange s with cond := some uptoSmall }

/-- 'estoverstop.TopCaches', WHERE WHAT IT READS IS OF BULK AT MOST 1048576: true; the input reads as it did. -/
def topCachesUptoRow : OpenClaim := { program := "ytcfhmdljeeppfaagreat", sum := "3a9f729b2661326bc1f1cc344f1c71dfe018cd76ae51a89a748d01c88c290cc6", func := "estovers/estoverstop.TopCaches", spec := "topCaches", inPlace := ["internal/reflectlite.ValueOf", "internal/reflectlite.Swapper", "(internal/reflectlite.Value).Len", "slices.overlaps[estovers/api.Deposit]"], unfollowed := true, recurses := true, apart := false, narrowed := true }
def TopCachesUptoSaid : Prop := topCachesUptoRow.holds Tryz.pinned (OpenSpec.upto topCachesSpec)

/-- 'estoverstop.TopShared', WHERE WHAT IT READS IS OF BULK AT MOST 1048576: true; the input reads as it did. -/
def topSharedUptoRow : OpenClaim := { program := "ytcfhmdljeeppfaagreat", sum := "3a9f729b2661326bc1f1cc344f1c71dfe018cd76ae51a89a748d01c88c290cc6", func := "estovers/estoverstop.TopShared", spec := "topShared", inPlace := ["internal/reflectlite.ValueOf", "internal/reflectlite.Swapper", "(internal/reflectlite.Value).Len", "slices.overlaps[estovers/api.Mapping]"], unfollowed := true, recurses := true, apart := false, narrowed := true }
def TopSharedUptoSaid : Prop := topSharedUptoRow.holds Tryz.pinned (OpenSpec.upto topSharedSpec)

/-- 'estoverslaw08.MmuAccesses', WHERE WHAT IT READS IS OF BULK AT MOST 1048576: true; the input reads as it did. -/
def mmuAccessesUptoRow : OpenClaim := { program := "ytcfhmdljeeppfaagreat", sum := "3a9f729b2661326bc1f1cc344f1c71dfe018cd76ae51a89a748d01c88c290cc6", func := "estovers/estoverslaw08.MmuAccesses", spec := "mmuAccesses", unfollowed := true, recurses := true, apart := false, narrowed := true }
def MmuAccessesUptoSaid : Prop := mmuAccessesUptoRow.holds Tryz.pinned (OpenSpec.upto mmuAccessesSpec)

/-- 'estoverslaw06.PagetableChecks', WHERE WHAT IT READS IS OF BULK AT MOST 1048576: true; the input reads as it did. -/
def pagetableChecksUptoRow : OpenClaim := { program := "ytcfhmdljeeppfaagreat", sum := "3a9f729b2661326bc1f1cc344f1c71dfe018cd76ae51a89a748d01c88c290cc6", func := "estovers/estoverslaw06.PagetableChecks", spec := "pagetableChecks", inPlace := ["internal/reflectlite.ValueOf", "internal/reflectlite.Swapper", "(internal/reflectlite.Value).Len", "slices.overlaps[estovers/api.Deposit]"], unfollowed := true, recurses := true, apart := false, narrowed := true }
def PagetableChecksUptoSaid : Prop := pagetableChecksUptoRow.holds Tryz.pinned (OpenSpec.upto pagetableChecksSpec)

/-- 'estoverslaw06.PagetableNews', WHERE WHAT IT READS IS OF BULK AT MOST 1048576: true; the input reads as it did. -/
def pagetableNewsUptoRow : OpenClaim := { program := "ytcfhmdljeeppfaagreat", sum := "3a9f729b2661326bc1f1cc344f1c71dfe018cd76ae51a89a748d01c88c290cc6", func := "estovers/estoverslaw06.PagetableNews", spec := "pagetableNews", inPlace := ["internal/reflectlite.ValueOf", "internal/reflectlite.Swapper", "(internal/reflectlite.Value).Len", "slices.overlaps[estovers/api.Deposit]"], unfollowed := true, recurses := true, apart := false, narrowed := true }
def PagetableNewsUptoSaid : Prop := pagetableNewsUptoRow.holds Tryz.pinned (OpenSpec.upto pagetableNewsSpec)

/-- 'estoverslaw06.PagetableSets', WHERE WHAT IT READS IS OF BULK AT MOST 1048576: true; the input reads as it did. -/
def pagetableSetsUptoRow : OpenClaim := { program := "ytcfhmdljeeppfaagreat", sum := "3a9f729b2661326bc1f1cc344f1c71dfe018cd76ae51a89a748d01c88c290cc6", func := "estovers/estoverslaw06.PagetableSets", spec := "pagetableSets", inPlace := ["internal/reflectlite.ValueOf", "internal/reflectlite.Swapper", "(internal/reflectlite.Value).Len", "slices.overlaps[estovers/api.Deposit]"], unfollowed := true, recurses := true, apart := false, narrowed := true }
def PagetableSetsUptoSaid : Prop := pagetableSetsUptoRow.holds Tryz.pinned (OpenSpec.upto pagetableSetsSpec)

/-- 'estoverslaw06.PagetableMap', WHERE WHAT IT READS IS OF BULK AT MOST 1048576: true; the input reads as it did. -/
def pagetableMapUptoRow : OpenClaim := { program := "ytcfhmdljeeppfaagreat", sum := "3a9f729b2661326bc1f1cc344f1c71dfe018cd76ae51a89a748d01c88c290cc6", func := "estovers/estoverslaw06.PagetableMap", spec := "pagetableMap", inPlace := ["internal/reflectlite.ValueOf", "internal/reflectlite.Swapper", "(internal/reflectlite.Value).Len", "slices.overlaps[estovers/api.Deposit]"], unfollowed := true, recurses := true, apart := false, narrowed := true }
def PagetableMapUptoSaid : Prop := pagetableMapUptoRow.holds Tryz.pinned (OpenSpec.upto pagetableMapSpec)

/-- 'estoverslaw06.PagetableUndo', WHERE WHAT IT READS IS OF BULK AT MOST 1048576: true; the input reads as it did. -/
def pagetableUndoUptoRow : OpenClaim := { program := "ytcfhmdljeeppfaagreat", sum := "3a9f729b2661326bc1f1cc344f1c71dfe018cd76ae51a89a748d01c88c290cc6", func := "estovers/estoverslaw06.PagetableUndo", spec := "pagetableUndo", inPlace := ["internal/reflectlite.ValueOf", "internal/reflectlite.Swapper", "(internal/reflectlite.Value).Len", "slices.overlaps[estovers/api.Deposit]"], unfollowed := true, recurses := true, apart := false, narrowed := true }
def PagetableUndoUptoSaid : Prop := pagetableUndoUptoRow.holds Tryz.pinned (OpenSpec.upto pagetableUndoSpec)

/-- 'estoverslaw06.PagetableClears', WHERE WHAT IT READS IS OF BULK AT MOST 1048576: true; the input reads as it did. -/
def pagetableClearsUptoRow : OpenClaim := { program := "ytcfhmdljeeppfaagreat", sum := "3a9f729b2661326bc1f1cc344f1c71dfe018cd76ae51a89a748d01c88c290cc6", func := "estovers/estoverslaw06.PagetableClears", spec := "pagetableClears", inPlace := ["internal/reflectlite.ValueOf", "internal/reflectlite.Swapper", "(internal/reflectlite.Value).Len", "slices.overlaps[estovers/api.Deposit]"], unfollowed := true, recurses := true, apart := false, narrowed := true }
def PagetableClearsUptoSaid : Prop := pagetableClearsUptoRow.holds Tryz.pinned (OpenSpec.upto pagetableClearsSpec)

/-- 'estoverslaw06.PagetableHuge', WHERE WHAT IT READS IS OF BULK AT MOST 1048576: true; the input reads as it did. -/
def pagetableHugeUptoRow : OpenClaim := { program := "ytcfhmdljeeppfaagreat", sum := "3a9f729b2661326bc1f1cc344f1c71dfe018cd76ae51a89a748d01c88c290cc6", func := "estovers/estoverslaw06.PagetableHuge", spec := "pagetableHuge", inPlace := ["internal/reflectlite.ValueOf", "internal/reflectlite.Swapper", "(internal/reflectlite.Value).Len", "slices.overlaps[estovers/api.Deposit]"], unfollowed := true, recurses := true, apart := false, narrowed := true }
def PagetableHugeUptoSaid : Prop := pagetableHugeUptoRow.holds Tryz.pinned (OpenSpec.upto pagetableHugeSpec)

/-- 'estoverslaw06.PagetableSplits', WHERE WHAT IT READS IS OF BULK AT MOST 1048576: true; the input reads as it did. -/
def pagetableSplitsUptoRow : OpenClaim := { program := "ytcfhmdljeeppfaagreat", sum := "3a9f729b2661326bc1f1cc344f1c71dfe018cd76ae51a89a748d01c88c290cc6", func := "estovers/estoverslaw06.PagetableSplits", spec := "pagetableSplits", inPlace := ["internal/reflectlite.ValueOf", "internal/reflectlite.Swapper", "(internal/reflectlite.Value).Len", "slices.overlaps[estovers/api.Deposit]"], unfollowed := true, recurses := true, apart := false, narrowed := true }
def PagetableSplitsUptoSaid : Prop := pagetableSplitsUptoRow.holds Tryz.pinned (OpenSpec.upto pagetableSplitsSpec)

end Rows
end Go.Proofs.YtcfhmdljeeppfaaGreat
