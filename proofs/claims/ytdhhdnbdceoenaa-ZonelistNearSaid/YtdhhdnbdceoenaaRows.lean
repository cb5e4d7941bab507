/-
  No cell of these rows narrows 'for every input' (looked for: loops, veiled, ifaces, maps, wideKeys, modest, calm, conditions, laid).
  DERIVED. THE GIVEN ROWS OF THIS SEAT. 8 by the template 'for every input the law returns true; each argument reads behind the call as it read before'; 0 by the template 'total and deterministic' (their statements: YtdhhdnbdceoenaaTotals.lean).
  GIVEN WITH THE SEED: the statements are not yours to turn. If you find one false, say at which input.
  Laid BY PROGRAM, IN A SANDBOX (cutbox-rows.mjs): the forced cells as the released guide's own fill.sh prints them over the translation 218be1efdba56796… (all of the seat's roots in one cut). By AI agents, Wed Nov 11 2026. No macro, syntax, notation, axiom, sorry.
-/
import Derived.Test.YtdhhdnbdceoenaaChecked
import GoSem.Claim
import GoSem.ClaimJoined
import GoSem.ClaimMapViews
import Derived.JoinedTies
import Derived.KernelRfl
namespace Go.Proofs.Ytdhhdnbdceoenaa
/- THE CELL 'sum', in the pinned program and in every row, IS THE sha256 OF THE DUMP (.gsa) THAT YtdhhdnbdceoenaaProg.lean LOADS. Nothing in Lean hashes anything: it is a label: what it is worth is what the hold of that sum in a sandbox is worth. -/
noncomputable def Try.pinned : Pinned := { name := "ytdhhdnbdceoenaa", sum := "218be1efdba56796e0963e0d344f2ab29ceb876dfa0b8f03634bbe5118d858e3", checked := Try.checked }
namespace Rows
def none {H : Type} : Left H := { results := [], args := [] }

/-- 'estoverslaw16.ZonelistChecks': WHATEVER THE INPUT: true; the input reads as it did. -/
def zonelistChecksSpec : ChangeSpec := { name := "zonelistChecks", fn := fun _ => fun
  | [d] => { results := [.lit (.bool true)], args := [d] }
  | _ => none }
def zonelistChecksRow : OpenClaim := { program := "ytdhhdnbdceoenaa", sum := "218be1efdba56796e0963e0d344f2ab29ceb876dfa0b8f03634bbe5118d858e3", func := "estovers/estoverslaw16.ZonelistChecks", spec := "zonelistChecks", unfollowed := true, recurses := true, apart := false }
def ZonelistChecksSaid : Prop := zonelistChecksRow.holds Try.pinned (OpenSpec.ofChange zonelistChecksSpec)

/-- ITS FALSE NEIGHBOUR: 'it returns false'. Refute it at one input. -/
def zonelistChecksWrong : ChangeSpec := { name := "zonelistChecks", fn := fun _ => fun
  | [d] => { results := [.lit (.bool false)], args := [d] }
  | _ => none }
def ZonelistChecksWrongFalsely : Prop := zonelistChecksRow.holds Try.pinned (OpenSpec.ofChange zonelistChecksWrong)

/-- 'estoverslaw16.ZonelistOrders': WHATEVER THE INPUT: true; the input reads as it did. -/
def zonelistOrdersSpec : ChangeSpec := { name := "zonelistOrders", fn := fun _ => fun
  | [d1, d2, d3] => { results := [.lit (.bool true)], args := [d1, d2, d3] }
  | _ => none }
def zonelistOrdersRow : OpenClaim := { program := "ytdhhdnbdceoenaa", sum := "218be1efdba56796e0963e0d344f2ab29ceb876dfa0b8f03634bbe5118d858e3", func := "estovers/estoverslaw16.ZonelistOrders", spec := "zonelistOrders", unfollowed := true, recurses := true, apart := false }
def ZonelistOrdersSaid : Prop := zonelistOrdersRow.holds Try.pinned (OpenSpec.ofChange zonelistOrdersSpec)

/-- ITS FALSE NEIGHBOUR: 'it returns false'. Refute it at one input. -/
def zonelistOrdersWrong : ChangeSpec := { name := "zonelistOrders", fn := fun _ => fun
  | [d1, d2, d3] => { results := [.lit (.bool false)], args := [d1, d2, d3] }
  | _ => none }
def ZonelistOrdersWrongFalsely : Prop := zonelistOrdersRow.holds Try.pinned (OpenSpec.ofChange zonelistOrdersWrong)

/-- 'estoverslaw16.ZonelistPicks': WHATEVER THE INPUT: true; the input reads as it did. -/
def zonelistPicksSpec : ChangeSpec := { name := "zonelistPicks", fn := fun _ => fun
  | [d1, d2, d3] => { results := [.lit (.bool true)], args := [d1, d2, d3] }
  | _ => none }
def zonelistPicksRow : OpenClaim := { program := "ytdhhdnbdceoenaa", sum := "218be1efdba56796e0963e0d344f2ab29ceb876dfa0b8f03634bbe5118d858e3", func := "estovers/estoverslaw16.ZonelistPicks", spec := "zonelistPicks", unfollowed := true, recurses := true, apart := false }
def ZonelistPicksSaid : Prop := zonelistPicksRow.holds Try.pinned (OpenSpec.ofChange zonelistPicksSpec)

/-- ITS FALSE NEIGHBOUR: 'it returns false'. Refute it at one input. -/
def zonelistPicksWrong : ChangeSpec := { name := "zonelistPicks", fn := fun _ => fun
  | [d1, d2, d3] => { results := [.lit (.bool false)], args := [d1, d2, d3] }
  | _ => none }
def ZonelistPicksWrongFalsely : Prop := zonelistPicksRow.holds Try.pinned (OpenSpec.ofChange zonelistPicksWrong)

/-- 'estoverslaw16.ZonelistComplete': WHATEVER THE INPUT: true; the input reads as it did. -/
def zonelistCompleteSpec : ChangeSpec := { name := "zonelistComplete", fn := fun _ => fun
  | [d1, d2, d3] => { results := [.lit (.bool true)], args := [d1, d2, d3] }
  | _ => none }
def zonelistCompleteRow : OpenClaim := { program := "ytdhhdnbdceoenaa", sum := "218be1efdba56796e0963e0d344f2ab29ceb876dfa0b8f03634bbe5118d858e3", func := "estovers/estoverslaw16.ZonelistComplete", spec := "zonelistComplete", unfollowed := true, recurses := true, apart := false }
def ZonelistCompleteSaid : Prop := zonelistCompleteRow.holds Try.pinned (OpenSpec.ofChange zonelistCompleteSpec)

/-- ITS FALSE NEIGHBOUR: 'it returns false'. Refute it at one input. -/
def zonelistCompleteWrong : ChangeSpec := { name := "zonelistComplete", fn := fun _ => fun
  | [d1, d2, d3] => { results := [.lit (.bool false)], args := [d1, d2, d3] }
  | _ => none }
def ZonelistCompleteWrongFalsely : Prop := zonelistCompleteRow.holds Try.pinned (OpenSpec.ofChange zonelistCompleteWrong)

/-- 'estoverslaw16.ZonelistNear': WHATEVER THE INPUT: true; the input reads as it did. -/
def zonelistNearSpec : ChangeSpec := { name := "zonelistNear", fn := fun _ => fun
  | [d1, d2, d3] => { results := [.lit (.bool true)], args := [d1, d2, d3] }
  | _ => none }
def zonelistNearRow : OpenClaim := { program := "ytdhhdnbdceoenaa", sum := "218be1efdba56796e0963e0d344f2ab29ceb876dfa0b8f03634bbe5118d858e3", func := "estovers/estoverslaw16.ZonelistNear", spec := "zonelistNear", unfollowed := true, recurses := true, apart := false }
def ZonelistNearSaid : Prop := zonelistNearRow.holds Try.pinned (OpenSpec.ofChange zonelistNearSpec)

/-- ITS FALSE NEIGHBOUR: 'it returns false'. Refute it at one input. -/
def zonelistNearWrong : ChangeSpec := { name := "zonelistNear", fn := fun _ => fun
  | [d1, d2, d3] => { results := [.lit (.bool false)], args := [d1, d2, d3] }
  | _ => none }
def ZonelistNearWrongFalsely : Prop := zonelistNearRow.holds Try.pinned (OpenSpec.ofChange zonelistNearWrong)

/-- 'estoverslaw16.ZonelistBinds': WHATEVER THE INPUT: true; the input reads as it did. -/
def zonelistBindsSpec : ChangeSpec := { name := "zonelistBinds", fn := fun _ => fun
  | [d1, d2, d3] => { results := [.lit (.bool true)], args := [d1, d2, d3] }
  | _ => none }
def zonelistBindsRow : OpenClaim := { program := "ytdhhdnbdceoenaa", sum := "218be1efdba56796e0963e0d344f2ab29ceb876dfa0b8f03634bbe5118d858e3", func := "estovers/estoverslaw16.ZonelistBinds", spec := "zonelistBinds", unfollowed := true, recurses := true, apart := false }
def ZonelistBindsSaid : Prop := zonelistBindsRow.holds Try.pinned (OpenSpec.ofChange zonelistBindsSpec)

/-- ITS FALSE NEIGHBOUR: 'it returns false'. Refute it at one input. -/
def zonelistBindsWrong : ChangeSpec := { name := "zonelistBinds", fn := fun _ => fun
  | [d1, d2, d3] => { results := [.lit (.bool false)], args := [d1, d2, d3] }
  | _ => none }
def ZonelistBindsWrongFalsely : Prop := zonelistBindsRow.holds Try.pinned (OpenSpec.ofChange zonelistBindsWrong)

/-- 'estoverslaw16.ZonelistInterleaves': WHATEVER THE INPUT: true; the input reads as it did. -/
def zonelistInterleavesSpec : ChangeSpec := { name := "zonelistInterleaves", fn := fun _ => fun
  | [d1, d2, d3] => { results := [.lit (.bool true)], args := [d1, d2, d3] }
  | _ => none }
def zonelistInterleavesRow : OpenClaim := { program := "ytdhhdnbdceoenaa", sum := "218be1efdba56796e0963e0d344f2ab29ceb876dfa0b8f03634bbe5118d858e3", func := "estovers/estoverslaw16.ZonelistInterleaves", spec := "zonelistInterleaves", unfollowed := true, recurses := true, apart := false }
def ZonelistInterleavesSaid : Prop := zonelistInterleavesRow.holds Try.pinned (OpenSpec.ofChange zonelistInterleavesSpec)

/-- ITS FALSE NEIGHBOUR: 'it returns false'. Refute it at one input. -/
def zonelistInterleavesWrong : ChangeSpec := { name := "zonelistInterleaves", fn := fun _ => fun
  | [d1, d2, d3] => { results := [.lit (.bool false)], args := [d1, d2, d3] }
  | _ => none }
def ZonelistInterleavesWrongFalsely : Prop := zonelistInterleavesRow.holds Try.pinned (OpenSpec.ofChange zonelistInterleavesWrong)

/-- 'estoverslaw16.ZonelistKeeps': WHATEVER THE INPUT: true; the input reads as it did. -/
def zonelistKeepsSpec : ChangeSpec := { name := "zonelistKeeps", fn := fun _ => fun
  | [d1, d2, d3] => { results := [.lit (.bool true)], args := [d1, d2, d3] }
  | _ => none }
def zonelistKeepsRow : OpenClaim := { program := "ytdhhdnbdceoenaa", sum := "218be1efdba56796e0963e0d344f2ab29ceb876dfa0b8f03634bbe5118d858e3", func := "estovers/estoverslaw16.ZonelistKeeps", spec := "zonelistKeeps", unfollowed := true, recurses := true, apart := false }
def ZonelistKeepsSaid : Prop := zonelistKeepsRow.holds Try.pinned (OpenSpec.ofChange zonelistKeepsSpec)

/-- ITS FALSE NEIGHBOUR: 'it returns false'. Refute it at one input. -/
def zonelistKeepsWrong : ChangeSpec := { name := "zonelistKeeps", fn := fun _ => fun
  | [d1, d2, d3] => { results := [.lit (.bool false)], args := [d1, d2, d3] }
  | _ => none }
def ZonelistKeepsWrongFalsely : Prop := zonelistKeepsRow.holds Try.pinned (OpenSpec.ofChange zonelistKeepsWrong)

/- THE SECOND FORM. 'bulk': how many values and letters a reading holds, each counted each time it is reached (what is shared counts as often as it is met; a slice's spare places count too). A statement '..UptoSaid' is the law's where the arguments, and the package variables that the reading takes, are together of bulk at most 1048576: NARROWER than '..Said'. Prove '..Said' where nothing that the law and all that it calls make is longer than what came in: it says more and counts as full. Else prove '..UptoSaid'. A law counts once. -/
mutual
def uptoBulk {H : Type} : DataW H → Nat
  | .lit (.string bytes) => bytes.length + 1
  | .lit _ => 1
  | .nil => 1
  | .ptr d => uptoBulk d + 1
  | .slice elems spare => uptoBulkAll elems + uptoBulkAll spare + 1
  | .agg parts => uptoBulkAll parts + 1
  | .iface _ d => uptoBulk d + 1
  | .map entries => uptoBulkEntries entries + 1
  | .held _ => 1
def uptoBulkAll {H : Type} : List (DataW H) → Nat
  | [] => 0
  | d :: r => uptoBulk d + uptoBulkAll r
def uptoBulkEntries {H : Type} : List (Lit × DataW H) → Nat
  | [] => 0
  | x :: r => uptoBulkEntry x + uptoBulkEntries r
def uptoBulkEntry {H : Type} : Lit × DataW H → Nat
  | (.string bytes, d) => bytes.length + uptoBulk d + 1
  | (_, d) => uptoBulk d + 1
 end
def uptoSmall : (H : Type) → List (DataW H) → Bool := fun _ ds => decide (uptoBulkAll ds ≤ 1048576)
def OpenSpec.upto (s : _root_.Go.ChangeSpec) : _root_.Go.OpenSpec := { _root_.Go.OpenSpec.ofChange s with cond := some uptoSmall }

/-- 'estoverslaw16.ZonelistChecks', WHERE WHAT IT READS IS OF BULK AT MOST 1048576: true; the input reads as it did. -/
def zonelistChecksUptoRow : OpenClaim := { program := "ytdhhdnbdceoenaa", sum := "218be1efdba56796e0963e0d344f2ab29ceb876dfa0b8f03634bbe5118d858e3", func := "estovers/estoverslaw16.ZonelistChecks", spec := "zonelistChecks", unfollowed := true, recurses := true, apart := false, narrowed := true }
def ZonelistChecksUptoSaid : Prop := zonelistChecksUptoRow.holds Try.pinned (OpenSpec.upto zonelistChecksSpec)

/-- 'estoverslaw16.ZonelistOrders', WHERE WHAT IT READS IS OF BULK AT MOST 1048576: true; the input reads as it did. -/
def zonelistOrdersUptoRow : OpenClaim := { program := "ytdhhdnbdceoenaa", sum := "218be1efdba56796e0963e0d344f2ab29ceb876dfa0b8f03634bbe5118d858e3", func := "estovers/estoverslaw16.ZonelistOrders", spec := "zonelistOrders", unfollowed := true, recurses := true, apart := false, narrowed := true }
def ZonelistOrdersUptoSaid : Prop := zonelistOrdersUptoRow.holds Try.pinned (OpenSpec.upto zonelistOrdersSpec)

/-- 'estoverslaw16.ZonelistPicks', WHERE WHAT IT READS IS OF BULK AT MOST 1048576: true; the input reads as it did. -/
def zonelistPicksUptoRow : OpenClaim := { program := "ytdhhdnbdceoenaa", sum := "218be1efdba56796e0963e0d344f2ab29ceb876dfa0b8f03634bbe5118d858e3", func := "estovers/estoverslaw16.ZonelistPicks", spec := "zonelistPicks", unfollowed := true, recurses := true, apart := false, narrowed := true }
def ZonelistPicksUptoSaid : Prop := zonelistPicksUptoRow.holds Try.pinned (OpenSpec.upto zonelistPicksSpec)

/-- 'estoverslaw16.ZonelistComplete', WHERE WHAT IT READS IS OF BULK AT MOST 1048576: true; the input reads as it did. -/
def zonelistCompleteUptoRow : OpenClaim := { program := "ytdhhdnbdceoenaa", sum := "218be1efdba56796e0963e0d344f2ab29ceb876dfa0b8f03634bbe5118d858e3", func := "estovers/estoverslaw16.ZonelistComplete", spec := "zonelistComplete", unfollowed := true, recurses := true, apart := false, narrowed := true }
def ZonelistCompleteUptoSaid : Prop := zonelistCompleteUptoRow.holds Try.pinned (OpenSpec.upto zonelistCompleteSpec)

/-- 'estoverslaw16.ZonelistNear', WHERE WHAT IT READS IS OF BULK AT MOST 1048576: true; the input reads as it did. -/
def zonelistNearUptoRow : OpenClaim := { program := "ytdhhdnbdceoenaa", sum := "218be1efdba56796e0963e0d344f2ab29ceb876dfa0b8f03634bbe5118d858e3", func := "estovers/estoverslaw16.ZonelistNear", spec := "zonelistNear", unfollowed := true, recurses := true, apart := false, narrowed := true }
def ZonelistNearUptoSaid : Prop := zonelistNearUptoRow.holds Try.pinned (OpenSpec.upto zonelistNearSpec)

/-- 'estoverslaw16.ZonelistBinds', WHERE WHAT IT READS IS OF BULK AT MOST 1048576: true; the input reads as it did. -/
def zonelistBindsUptoRow : OpenClaim := { program := "ytdhhdnbdceoenaa", sum := "218be1efdba56796e0963e0d344f2ab29ceb876dfa0b8f03634bbe5118d858e3", func := "estovers/estoverslaw16.ZonelistBinds", spec := "zonelistBinds", unfollowed := true, recurses := true, apart := false, narrowed := true }
def ZonelistBindsUptoSaid : Prop := zonelistBindsUptoRow.holds Try.pinned (OpenSpec.upto zonelistBindsSpec)

/-- 'estoverslaw16.ZonelistInterleaves', WHERE WHAT IT READS IS OF BULK AT MOST 1048576: true; the input reads as it did. -/
def zonelistInterleavesUptoRow : OpenClaim := { program := "ytdhhdnbdceoenaa", sum := "218be1efdba56796e0963e0d344f2ab29ceb876dfa0b8f03634bbe5118d858e3", func := "estovers/estoverslaw16.ZonelistInterleaves", spec := "zonelistInterleaves", unfollowed := true, recurses := true, apart := false, narrowed := true }
def ZonelistInterleavesUptoSaid : Prop := zonelistInterleavesUptoRow.holds Try.pinned (OpenSpec.upto zonelistInterleavesSpec)

/-- 'estoverslaw16.ZonelistKeeps', WHERE WHAT IT READS IS OF BULK AT MOST 1048576: true; the input reads as it did. -/
def zonelistKeepsUptoRow : OpenClaim := { program := "ytdhhdnbdceoenaa", sum := "218be1efdba56796e0963e0d344f2ab29ceb876dfa0b8f03634bbe5118d858e3", func := "estovers/estoverslaw16.ZonelistKeeps", spec := "zonelistKeeps", unfollowed := true, recurses := true, apart := false, narrowed := true }
def ZonelistKeepsUptoSaid : Prop := zonelistKeepsUptoRow.holds Try.pinned (OpenSpec.upto zonelistKeepsSpec)

end Rows
end Go.Proofs.Ytdhhdnbdceoenaa
