/-
  No cell of these rows narrows 'for every input' (looked for: loops, veiled, ifaces, maps, wideKeys, modest, calm, conditions, laid).
  DERIVED. THE GIVEN ROWS OF THIS SEAT. 11 by the template 'for every input the law returns true; each argument reads behind the call as it read before'; 0 by the template 'total and deterministic' (their statements: YtjdahonmgfhpgaaTotals.lean).
  GIVEN WITH THE SEED: the statements are not yours to turn. If you find one false, say at which input.
  Laid BY PROGRAM, IN A SANDBOX (cutbox-rows.mjs): the forced cells as the released guide's own fill.sh prints them over the translation f7b31a46d18c3fea… (all of the seat's roots in one cut). By AI agents, Wed Nov 11 2026. No macro, syntax, notation, axiom, sorry.
-/
import Derived.Test.YtjdahonmgfhpgaaChecked
import GoSem.Claim
import GoSem.ClaimJoined
import GoSem.ClaimMapViews
import Derived.JoinedTies
import Derived.KernelRfl
namespace Go.Proofs.Ytjdahonmgfhpgaa
/- THE CELL 'sum', in the pinned program and in every row, IS THE sha256 OF THE DUMP (.gsa) THAT YtjdahonmgfhpgaaProg.lean LOADS. Nothing in Lean hashes anything: it is a label: what it is worth is what the hold of that sum in a sandbox is worth. -/
noncomputable def Try.pinned : Pinned := { name := "ytjdahonmgfhpgaa", sum := "f7b31a46d18c3fea4253393a64b03422884cdc0596871ad0b6c91657b8d17ee2", checked := Try.checked }
namespace Rows
def none {H : Type} : Left H := { results := [], args := [] }

/-- 'estoverslaw12.BuddyChecks': WHATEVER THE INPUT: true; the input reads as it did. -/
def buddyChecksSpec : ChangeSpec := { name := "buddyChecks", fn := fun _ => fun
  | [d] => { results := [.lit (.bool true)], args := [d] }
  | _ => none }
def buddyChecksRow : OpenClaim := { program := "ytjdahonmgfhpgaa", sum := "f7b31a46d18c3fea4253393a64b03422884cdc0596871ad0b6c91657b8d17ee2", func := "estovers/estoverslaw12.BuddyChecks", spec := "buddyChecks", inPlace := ["slices.overlaps[int]"], apart := false }
def BuddyChecksSaid : Prop := buddyChecksRow.holds Try.pinned (OpenSpec.ofChange buddyChecksSpec)

/-- ITS FALSE NEIGHBOUR: 'it returns false'. Refute it at one input. -/
def buddyChecksWrong : ChangeSpec := { name := "buddyChecks", fn := fun _ => fun
  | [d] => { results := [.lit (.bool false)], args := [d] }
  | _ => none }
def BuddyChecksWrongFalsely : Prop := buddyChecksRow.holds Try.pinned (OpenSpec.ofChange buddyChecksWrong)

/-- 'estoverslaw12.BuddyBegins': WHATEVER THE INPUT: true; the input reads as it did. -/
def buddyBeginsSpec : ChangeSpec := { name := "buddyBegins", fn := fun _ => fun
  | [d1, d2, d3] => { results := [.lit (.bool true)], args := [d1, d2, d3] }
  | _ => none }
def buddyBeginsRow : OpenClaim := { program := "ytjdahonmgfhpgaa", sum := "f7b31a46d18c3fea4253393a64b03422884cdc0596871ad0b6c91657b8d17ee2", func := "estovers/estoverslaw12.BuddyBegins", spec := "buddyBegins", inPlace := ["slices.overlaps[int]"], apart := false }
def BuddyBeginsSaid : Prop := buddyBeginsRow.holds Try.pinned (OpenSpec.ofChange buddyBeginsSpec)

/-- ITS FALSE NEIGHBOUR: 'it returns false'. Refute it at one input. -/
def buddyBeginsWrong : ChangeSpec := { name := "buddyBegins", fn := fun _ => fun
  | [d1, d2, d3] => { results := [.lit (.bool false)], args := [d1, d2, d3] }
  | _ => none }
def BuddyBeginsWrongFalsely : Prop := buddyBeginsRow.holds Try.pinned (OpenSpec.ofChange buddyBeginsWrong)

/-- 'estoverslaw12.BuddyAllocs': WHATEVER THE INPUT: true; the input reads as it did. -/
def buddyAllocsSpec : ChangeSpec := { name := "buddyAllocs", fn := fun _ => fun
  | [d1, d2] => { results := [.lit (.bool true)], args := [d1, d2] }
  | _ => none }
def buddyAllocsRow : OpenClaim := { program := "ytjdahonmgfhpgaa", sum := "f7b31a46d18c3fea4253393a64b03422884cdc0596871ad0b6c91657b8d17ee2", func := "estovers/estoverslaw12.BuddyAllocs", spec := "buddyAllocs", inPlace := ["slices.overlaps[int]"], apart := false }
def BuddyAllocsSaid : Prop := buddyAllocsRow.holds Try.pinned (OpenSpec.ofChange buddyAllocsSpec)

/-- ITS FALSE NEIGHBOUR: 'it returns false'. Refute it at one input. -/
def buddyAllocsWrong : ChangeSpec := { name := "buddyAllocs", fn := fun _ => fun
  | [d1, d2] => { results := [.lit (.bool false)], args := [d1, d2] }
  | _ => none }
def BuddyAllocsWrongFalsely : Prop := buddyAllocsRow.holds Try.pinned (OpenSpec.ofChange buddyAllocsWrong)

/-- 'estoverslaw12.BuddyFrees': WHATEVER THE INPUT: true; the input reads as it did. -/
def buddyFreesSpec : ChangeSpec := { name := "buddyFrees", fn := fun _ => fun
  | [d1, d2, d3] => { results := [.lit (.bool true)], args := [d1, d2, d3] }
  | _ => none }
def buddyFreesRow : OpenClaim := { program := "ytjdahonmgfhpgaa", sum := "f7b31a46d18c3fea4253393a64b03422884cdc0596871ad0b6c91657b8d17ee2", func := "estovers/estoverslaw12.BuddyFrees", spec := "buddyFrees", inPlace := ["slices.overlaps[int]"], apart := false }
def BuddyFreesSaid : Prop := buddyFreesRow.holds Try.pinned (OpenSpec.ofChange buddyFreesSpec)

/-- ITS FALSE NEIGHBOUR: 'it returns false'. Refute it at one input. -/
def buddyFreesWrong : ChangeSpec := { name := "buddyFrees", fn := fun _ => fun
  | [d1, d2, d3] => { results := [.lit (.bool false)], args := [d1, d2, d3] }
  | _ => none }
def BuddyFreesWrongFalsely : Prop := buddyFreesRow.holds Try.pinned (OpenSpec.ofChange buddyFreesWrong)

/-- 'estoverslaw12.BuddyServes': WHATEVER THE INPUT: true; the input reads as it did. -/
def buddyServesSpec : ChangeSpec := { name := "buddyServes", fn := fun _ => fun
  | [d1, d2, d3] => { results := [.lit (.bool true)], args := [d1, d2, d3] }
  | _ => none }
def buddyServesRow : OpenClaim := { program := "ytjdahonmgfhpgaa", sum := "f7b31a46d18c3fea4253393a64b03422884cdc0596871ad0b6c91657b8d17ee2", func := "estovers/estoverslaw12.BuddyServes", spec := "buddyServes", inPlace := ["slices.overlaps[int]"], apart := false }
def BuddyServesSaid : Prop := buddyServesRow.holds Try.pinned (OpenSpec.ofChange buddyServesSpec)

/-- ITS FALSE NEIGHBOUR: 'it returns false'. Refute it at one input. -/
def buddyServesWrong : ChangeSpec := { name := "buddyServes", fn := fun _ => fun
  | [d1, d2, d3] => { results := [.lit (.bool false)], args := [d1, d2, d3] }
  | _ => none }
def BuddyServesWrongFalsely : Prop := buddyServesRow.holds Try.pinned (OpenSpec.ofChange buddyServesWrong)

/-- 'estoverslaw12.BuddyApart': WHATEVER THE INPUT: true; the input reads as it did. -/
def buddyApartSpec : ChangeSpec := { name := "buddyApart", fn := fun _ => fun
  | [d1, d2, d3] => { results := [.lit (.bool true)], args := [d1, d2, d3] }
  | _ => none }
def buddyApartRow : OpenClaim := { program := "ytjdahonmgfhpgaa", sum := "f7b31a46d18c3fea4253393a64b03422884cdc0596871ad0b6c91657b8d17ee2", func := "estovers/estoverslaw12.BuddyApart", spec := "buddyApart", inPlace := ["slices.overlaps[int]"], apart := false }
def BuddyApartSaid : Prop := buddyApartRow.holds Try.pinned (OpenSpec.ofChange buddyApartSpec)

/-- ITS FALSE NEIGHBOUR: 'it returns false'. Refute it at one input. -/
def buddyApartWrong : ChangeSpec := { name := "buddyApart", fn := fun _ => fun
  | [d1, d2, d3] => { results := [.lit (.bool false)], args := [d1, d2, d3] }
  | _ => none }
def BuddyApartWrongFalsely : Prop := buddyApartRow.holds Try.pinned (OpenSpec.ofChange buddyApartWrong)

/-- 'estoverslaw12.BuddyBack': WHATEVER THE INPUT: true; the input reads as it did. -/
def buddyBackSpec : ChangeSpec := { name := "buddyBack", fn := fun _ => fun
  | [d1, d2, d3] => { results := [.lit (.bool true)], args := [d1, d2, d3] }
  | _ => none }
def buddyBackRow : OpenClaim := { program := "ytjdahonmgfhpgaa", sum := "f7b31a46d18c3fea4253393a64b03422884cdc0596871ad0b6c91657b8d17ee2", func := "estovers/estoverslaw12.BuddyBack", spec := "buddyBack", inPlace := ["slices.overlaps[int]"], apart := false }
def BuddyBackSaid : Prop := buddyBackRow.holds Try.pinned (OpenSpec.ofChange buddyBackSpec)

/-- ITS FALSE NEIGHBOUR: 'it returns false'. Refute it at one input. -/
def buddyBackWrong : ChangeSpec := { name := "buddyBack", fn := fun _ => fun
  | [d1, d2, d3] => { results := [.lit (.bool false)], args := [d1, d2, d3] }
  | _ => none }
def BuddyBackWrongFalsely : Prop := buddyBackRow.holds Try.pinned (OpenSpec.ofChange buddyBackWrong)

/-- 'estoverslaw12.BuddyBuilds': WHATEVER THE INPUT: true; the input reads as it did. -/
def buddyBuildsSpec : ChangeSpec := { name := "buddyBuilds", fn := fun _ => fun
  | [d1, d2] => { results := [.lit (.bool true)], args := [d1, d2] }
  | _ => none }
def buddyBuildsRow : OpenClaim := { program := "ytjdahonmgfhpgaa", sum := "f7b31a46d18c3fea4253393a64b03422884cdc0596871ad0b6c91657b8d17ee2", func := "estovers/estoverslaw12.BuddyBuilds", spec := "buddyBuilds", inPlace := ["slices.overlaps[int]"], apart := false }
def BuddyBuildsSaid : Prop := buddyBuildsRow.holds Try.pinned (OpenSpec.ofChange buddyBuildsSpec)

/-- ITS FALSE NEIGHBOUR: 'it returns false'. Refute it at one input. -/
def buddyBuildsWrong : ChangeSpec := { name := "buddyBuilds", fn := fun _ => fun
  | [d1, d2] => { results := [.lit (.bool false)], args := [d1, d2] }
  | _ => none }
def BuddyBuildsWrongFalsely : Prop := buddyBuildsRow.holds Try.pinned (OpenSpec.ofChange buddyBuildsWrong)

/-- 'estoverslaw12.BuddyTakes': WHATEVER THE INPUT: true; the input reads as it did. -/
def buddyTakesSpec : ChangeSpec := { name := "buddyTakes", fn := fun _ => fun
  | [d1, d2] => { results := [.lit (.bool true)], args := [d1, d2] }
  | _ => none }
def buddyTakesRow : OpenClaim := { program := "ytjdahonmgfhpgaa", sum := "f7b31a46d18c3fea4253393a64b03422884cdc0596871ad0b6c91657b8d17ee2", func := "estovers/estoverslaw12.BuddyTakes", spec := "buddyTakes", inPlace := ["slices.overlaps[int]"], apart := false }
def BuddyTakesSaid : Prop := buddyTakesRow.holds Try.pinned (OpenSpec.ofChange buddyTakesSpec)

/-- ITS FALSE NEIGHBOUR: 'it returns false'. Refute it at one input. -/
def buddyTakesWrong : ChangeSpec := { name := "buddyTakes", fn := fun _ => fun
  | [d1, d2] => { results := [.lit (.bool false)], args := [d1, d2] }
  | _ => none }
def BuddyTakesWrongFalsely : Prop := buddyTakesRow.holds Try.pinned (OpenSpec.ofChange buddyTakesWrong)

/-- 'estoverslaw12.BuddyCounts': WHATEVER THE INPUT: true; the input reads as it did. -/
def buddyCountsSpec : ChangeSpec := { name := "buddyCounts", fn := fun _ => fun
  | [d1, d2] => { results := [.lit (.bool true)], args := [d1, d2] }
  | _ => none }
def buddyCountsRow : OpenClaim := { program := "ytjdahonmgfhpgaa", sum := "f7b31a46d18c3fea4253393a64b03422884cdc0596871ad0b6c91657b8d17ee2", func := "estovers/estoverslaw12.BuddyCounts", spec := "buddyCounts", inPlace := ["slices.overlaps[int]"], recurses := true, apart := false }
def BuddyCountsSaid : Prop := buddyCountsRow.holds Try.pinned (OpenSpec.ofChange buddyCountsSpec)

/-- ITS FALSE NEIGHBOUR: 'it returns false'. Refute it at one input. -/
def buddyCountsWrong : ChangeSpec := { name := "buddyCounts", fn := fun _ => fun
  | [d1, d2] => { results := [.lit (.bool false)], args := [d1, d2] }
  | _ => none }
def BuddyCountsWrongFalsely : Prop := buddyCountsRow.holds Try.pinned (OpenSpec.ofChange buddyCountsWrong)

/-- 'estoverslaw12.BuddyCanonical': WHATEVER THE INPUT: true; the input reads as it did. -/
def buddyCanonicalSpec : ChangeSpec := { name := "buddyCanonical", fn := fun _ => fun
  | [d1, d2, d3] => { results := [.lit (.bool true)], args := [d1, d2, d3] }
  | _ => none }
def buddyCanonicalRow : OpenClaim := { program := "ytjdahonmgfhpgaa", sum := "f7b31a46d18c3fea4253393a64b03422884cdc0596871ad0b6c91657b8d17ee2", func := "estovers/estoverslaw12.BuddyCanonical", spec := "buddyCanonical", inPlace := ["slices.overlaps[int]"], recurses := true, apart := false }
def BuddyCanonicalSaid : Prop := buddyCanonicalRow.holds Try.pinned (OpenSpec.ofChange buddyCanonicalSpec)

/-- ITS FALSE NEIGHBOUR: 'it returns false'. Refute it at one input. -/
def buddyCanonicalWrong : ChangeSpec := { name := "buddyCanonical", fn := fun _ => fun
  | [d1, d2, d3] => { results := [.lit (.bool false)], args := [d1, d2, d3] }
  | _ => none }
def BuddyCanonicalWrongFalsely : Prop := buddyCanonicalRow.holds Try.pinned (OpenSpec.ofChange buddyCanonicalWrong)

/- THE SECOND FORM. 'bulk': how many values and letters a reading holds, each counted each time it is reached (what is shared counts as often as it is met; a slice's spare places count too). A statement '..UptoSaid' is the law's where the arguments, and the package variables that the reading takes, are together of bulk at most 1048576: NARROWER than '..Said'. Prove '..Said' where nothing that the law and all that it calls make is longer than what came in: it says more and counts as full. Else prove '..UptoSaid'. A law counts once. -/
mutual
def uptoBulk {H : Type} : DataW H → Nat
  | .lit (.string bytes) => bytes.length + 1
  | .lit _ => 1
  | .nil => 1
  | .ptr d => uptoBulk d + 1
  | .slice elems spare => uptoBulkAll elems + uptoBulkAll spare + 1
  | .agg parts => uptoBulkAll parts + 1
  | .iface _ d => uptoBulk d + 1
  | .map entries => uptoBulkEntries entries + 1
  | .held _ => 1
def uptoBulkAll {H : Type} : List (DataW H) → Nat
  | [] => 0
  | d :: r => uptoBulk d + uptoBulkAll r
def uptoBulkEntries {H : Type} : List (Lit × DataW H) → Nat
  | [] => 0
  | x :: r => uptoBulkEntry x + uptoBulkEntries r
def uptoBulkEntry {H : Type} : Lit × DataW H → Nat
  | (.string bytes, d) => bytes.length + uptoBulk d + 1
  | (_, d) => uptoBulk d + 1
 end
def uptoSmall : (H : Type) → List (DataW H) → Bool := fun _ ds => decide (uptoBulkAll ds ≤ 1048576)
def OpenSpec.upto (s : _root_.Go.ChangeSpec) : _root_.Go.OpenSpec := { _root_.Go.OpenSpec.ofChange s with cond := some uptoSmall }

/-- 'estoverslaw12.BuddyChecks', WHERE WHAT IT READS IS OF BULK AT MOST 1048576: true; the input reads as it did. -/
def buddyChecksUptoRow : OpenClaim := { program := "ytjdahonmgfhpgaa", sum := "f7b31a46d18c3fea4253393a64b03422884cdc0596871ad0b6c91657b8d17ee2", func := "estovers/estoverslaw12.BuddyChecks", spec := "buddyChecks", inPlace := ["slices.overlaps[int]"], apart := false, narrowed := true }
def BuddyChecksUptoSaid : Prop := buddyChecksUptoRow.holds Try.pinned (OpenSpec.upto buddyChecksSpec)

/-- 'estoverslaw12.BuddyBegins', WHERE WHAT IT READS IS OF BULK AT MOST 1048576: true; the input reads as it did. -/
def buddyBeginsUptoRow : OpenClaim := { program := "ytjdahonmgfhpgaa", sum := "f7b31a46d18c3fea4253393a64b03422884cdc0596871ad0b6c91657b8d17ee2", func := "estovers/estoverslaw12.BuddyBegins", spec := "buddyBegins", inPlace := ["slices.overlaps[int]"], apart := false, narrowed := true }
def BuddyBeginsUptoSaid : Prop := buddyBeginsUptoRow.holds Try.pinned (OpenSpec.upto buddyBeginsSpec)

/-- 'estoverslaw12.BuddyAllocs', WHERE WHAT IT READS IS OF BULK AT MOST 1048576: true; the input reads as it did. -/
def buddyAllocsUptoRow : OpenClaim := { program := "ytjdahonmgfhpgaa", sum := "f7b31a46d18c3fea4253393a64b03422884cdc0596871ad0b6c91657b8d17ee2", func := "estovers/estoverslaw12.BuddyAllocs", spec := "buddyAllocs", inPlace := ["slices.overlaps[int]"], apart := false, narrowed := true }
def BuddyAllocsUptoSaid : Prop := buddyAllocsUptoRow.holds Try.pinned (OpenSpec.upto buddyAllocsSpec)

/-- 'estoverslaw12.BuddyFrees', WHERE WHAT IT READS IS OF BULK AT MOST 1048576: true; the input reads as it did. -/
def buddyFreesUptoRow : OpenClaim := { program := "ytjdahonmgfhpgaa", sum := "f7b31a46d18c3fea4253393a64b03422884cdc0596871ad0b6c91657b8d17ee2", func := "estovers/estoverslaw12.BuddyFrees", spec := "buddyFrees", inPlace := ["slices.overlaps[int]"], apart := false, narrowed := true }
def BuddyFreesUptoSaid : Prop := buddyFreesUptoRow.holds Try.pinned (OpenSpec.upto buddyFreesSpec)

/-- 'estoverslaw12.BuddyServes', WHERE WHAT IT READS IS OF BULK AT MOST 1048576: true; the input reads as it did. -/
def buddyServesUptoRow : OpenClaim := { program := "ytjdahonmgfhpgaa", sum := "f7b31a46d18c3fea4253393a64b03422884cdc0596871ad0b6c91657b8d17ee2", func := "estovers/estoverslaw12.BuddyServes", spec := "buddyServes", inPlace := ["slices.overlaps[int]"], apart := false, narrowed := true }
def BuddyServesUptoSaid : Prop := buddyServesUptoRow.holds Try.pinned (OpenSpec.upto buddyServesSpec)

/-- 'estoverslaw12.BuddyApart', WHERE WHAT IT READS IS OF BULK AT MOST 1048576: true; the input reads as it did. -/
def buddyApartUptoRow : OpenClaim := { program := "ytjdahonmgfhpgaa", sum := "f7b31a46d18c3fea4253393a64b03422884cdc0596871ad0b6c91657b8d17ee2", func := "estovers/estoverslaw12.BuddyApart", spec := "buddyApart", inPlace := ["slices.overlaps[int]"], apart := false, narrowed := true }
def BuddyApartUptoSaid : Prop := buddyApartUptoRow.holds Try.pinned (OpenSpec.upto buddyApartSpec)

/-- 'estoverslaw12.BuddyBack', WHERE WHAT IT READS IS OF BULK AT MOST 1048576: true; the input reads as it did. -/
def buddyBackUptoRow : OpenClaim := { program := "ytjdahonmgfhpgaa", sum := "f7b31a46d18c3fea4253393a64b03422884cdc0596871ad0b6c91657b8d17ee2", func := "estovers/estoverslaw12.BuddyBack", spec := "buddyBack", inPlace := ["slices.overlaps[int]"], apart := false, narrowed := true }
def BuddyBackUptoSaid : Prop := buddyBackUptoRow.holds Try.pinned (OpenSpec.upto buddyBackSpec)

/-- 'estoverslaw12.BuddyBuilds', WHERE WHAT IT READS IS OF BULK AT MOST 1048576: true; the input reads as it did. -/
def buddyBuildsUptoRow : OpenClaim := { program := "ytjdahonmgfhpgaa", sum := "f7b31a46d18c3fea4253393a64b03422884cdc0596871ad0b6c91657b8d17ee2", func := "estovers/estoverslaw12.BuddyBuilds", spec := "buddyBuilds", inPlace := ["slices.overlaps[int]"], apart := false, narrowed := true }
def BuddyBuildsUptoSaid : Prop := buddyBuildsUptoRow.holds Try.pinned (OpenSpec.upto buddyBuildsSpec)

/-- 'estoverslaw12.BuddyTakes', WHERE WHAT IT READS IS OF BULK AT MOST 1048576: true; the input reads as it did. -/
def buddyTakesUptoRow : OpenClaim := { program := "ytjdahonmgfhpgaa", sum := "f7b31a46d18c3fea4253393a64b03422884cdc0596871ad0b6c91657b8d17ee2", func := "estovers/estoverslaw12.BuddyTakes", spec := "buddyTakes", inPlace := ["slices.overlaps[int]"], apart := false, narrowed := true }
def BuddyTakesUptoSaid : Prop := buddyTakesUptoRow.holds Try.pinned (OpenSpec.upto buddyTakesSpec)

/-- 'estoverslaw12.BuddyCounts', WHERE WHAT IT READS IS OF BULK AT MOST 1048576: true; the input reads as it did. -/
def buddyCountsUptoRow : OpenClaim := { program := "ytjdahonmgfhpgaa", sum := "f7b31a46d18c3fea4253393a64b03422884cdc0596871ad0b6c91657b8d17ee2", func := "estovers/estoverslaw12.BuddyCounts", spec := "buddyCounts", inPlace := ["slices.overlaps[int]"], recurses := true, apart := false, narrowed := true }
def BuddyCountsUptoSaid : Prop := buddyCountsUptoRow.holds Try.pinned (OpenSpec.upto buddyCountsSpec)

/-- 'estoverslaw12.BuddyCanonical', WHERE WHAT IT READS IS OF BULK AT MOST 1048576: true; the input reads as it did. -/
def buddyCanonicalUptoRow : OpenClaim := { program := "ytjdahonmgfhpgaa", sum := "f7b31a46d18c3fea4253393a64b03422884cdc0596871ad0b6c91657b8d17ee2", func := "estovers/estoverslaw12.BuddyCanonical", spec := "buddyCanonical", inPlace := ["slices.overlaps[int]"], recurses := true, apart := false, narrowed := true }
def BuddyCanonicalUptoSaid : Prop := buddyCanonicalUptoRow.holds Try.pinned (OpenSpec.upto buddyCanonicalSpec)

end Rows
end Go.Proofs.Ytjdahonmgfhpgaa
