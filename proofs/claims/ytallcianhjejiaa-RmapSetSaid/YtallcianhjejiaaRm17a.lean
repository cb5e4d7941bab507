/- Rmap: where slices.SortFunc and cmp.Compare lie. -/
import Derived.Shelf.SlSortCmp.NoneTotal
import Derived.Shelf.SlicesG.Cmp
import Derived.Test.YtallcianhjejiaaRm1
set_option linter.all false

namespace Go.AM
open Go Go.Proofs

def sortRen : Go.Shelf.Ren :=
  { f := fun x => match x with
      | 6 => 35
      | 15 => 45
      | 14 => 44
      | 28 => 56
      | 29 => 57
      | 20 => 48
      | 21 => 49
      | 22 => 50
      | 23 => 51
      | 24 => 52
      | 25 => 53
      | 26 => 54
      | 27 => 55
      | 46 => 59
      | 47 => 60
      | 48 => 61
      | 49 => 62
      | 50 => 63
      | 57 => 64
      | n => n
    t := fun x => match x with
      | 22 => 22
      | 24 => 24
      | 25 => 43
      | 3 => 3
      | 39 => 57
      | 0 => 0
      | 53 => 70
      | 55 => 72
      | 4 => 4
      | 46 => 64
      | 45 => 63
      | 50 => 44
      | 5 => 5
      | 9 => 9
      | 66 => 74
      | 70 => 78
      | 76 => 80
      | 77 => 81
      | n => n
    g := fun n => n }
theorem laySort : Go.Proofs.SlLaysF0.n6 Try.prog sortRen :=
  { mixed := mixed
    f6 := ⟨ "slices.SortFunc[[]estovers/api.Mapping,estovers/api.Mapping]", by decide, Try.func35.trans (congrArg some (by kernel_rfl))⟩
    f14 := ⟨ "slices.pdqsortCmpFunc[estovers/api.Mapping]", by decide, Try.func44.trans (congrArg some (by kernel_rfl))⟩
    f15 := Try.func45.trans (congrArg some (by kernel_rfl))
    f20 := ⟨ "slices.insertionSortCmpFunc[estovers/api.Mapping]", by decide, Try.func48.trans (congrArg some (by kernel_rfl))⟩
    f21 := ⟨ "slices.heapSortCmpFunc[estovers/api.Mapping]", by decide, Try.func49.trans (congrArg some (by kernel_rfl))⟩
    f22 := ⟨ "slices.breakPatternsCmpFunc[estovers/api.Mapping]", by decide, Try.func50.trans (congrArg some (by kernel_rfl))⟩
    f23 := ⟨ "slices.choosePivotCmpFunc[estovers/api.Mapping]", by decide, Try.func51.trans (congrArg some (by kernel_rfl))⟩
    f24 := ⟨ "slices.reverseRangeCmpFunc[estovers/api.Mapping]", by decide, Try.func52.trans (congrArg some (by kernel_rfl))⟩
    f25 := ⟨ "slices.partialInsertionSortCmpFunc[estovers/api.Mapping]", by decide, Try.func53.trans (congrArg some (by kernel_rfl))⟩
    f26 := ⟨ "slices.partitionEqualCmpFunc[estovers/api.Mapping]", by decide, Try.func54.trans (congrArg some (by kernel_rfl))⟩
    f27 := ⟨ "slices.partitionCmpFunc[estovers/api.Mapping]", by decide, Try.func55.trans (congrArg some (by kernel_rfl))⟩
    f28 := Try.func56.trans (congrArg some (by kernel_rfl))
    f29 := Try.func57.trans (congrArg some (by kernel_rfl))
    f46 := ⟨ "slices.siftDownCmpFunc[estovers/api.Mapping]", by decide, Try.func59.trans (congrArg some (by kernel_rfl))⟩
    f47 := Try.func60.trans (congrArg some (by kernel_rfl))
    f48 := Try.func61.trans (congrArg some (by kernel_rfl))
    f49 := ⟨ "slices.medianAdjacentCmpFunc[estovers/api.Mapping]", by decide, Try.func62.trans (congrArg some (by kernel_rfl))⟩
    f50 := ⟨ "slices.medianCmpFunc[estovers/api.Mapping]", by decide, Try.func63.trans (congrArg some (by kernel_rfl))⟩
    f57 := ⟨ "slices.order2CmpFunc[estovers/api.Mapping]", by decide, Try.func64.trans (congrArg some (by kernel_rfl))⟩
    t0 := Try.underlying0
    a0 := Try.isAgg0
    z0 := Try.sizeOf0
    v0 := Try.zeroValue0
    t3 := Try.underlying3
    a3 := Try.isAgg3
    z3 := Try.sizeOf3
    v3 := Try.zeroValue3
    t4 := Try.underlying4
    a4 := Try.isAgg4
    z4 := Try.sizeOf4
    v4 := Try.zeroValue4
    t5 := Try.underlying5
    a5 := Try.isAgg5
    z5 := Try.sizeOf5
    v5 := Try.zeroValue5
    t9 := Try.underlying9
    a9 := Try.isAgg9
    z9 := Try.sizeOf9
    v9 := Try.zeroValue9
    t22 := Try.underlying22
    a22 := Try.isAgg22
    z22 := Try.sizeOf22
    v22 := Try.zeroValue22
    t25 := Try.underlying43
    a25 := Try.isAgg43
    z25 := Try.sizeOf43
    v25 := Try.zeroValue43
    t39 := Try.underlying57
    a39 := Try.isAgg57
    z39 := Try.sizeOf57
    v39 := Try.zeroValue57
    t45 := Try.underlying63
    a45 := Try.isAgg63
    z45 := Try.sizeOf63
    v45 := Try.zeroValue63
    t46 := Try.underlying64
    a46 := Try.isAgg64
    z46 := Try.sizeOf64
    v46 := Try.zeroValue64
    t50 := Try.underlying44
    a50 := Try.isAgg44
    z50 := Try.sizeOf44
    v50 := Try.zeroValue44
    t53 := Try.underlying70
    a53 := Try.isAgg70
    z53 := Try.sizeOf70
    v53 := Try.zeroValue70
    t55 := Try.underlying72
    a55 := Try.isAgg72
    z55 := Try.sizeOf72
    v55 := Try.zeroValue72
    t66 := Try.underlying74
    a66 := Try.isAgg74
    z66 := Try.sizeOf74
    v66 := Try.zeroValue74
    t70 := Try.underlying78
    a70 := Try.isAgg78
    z70 := Try.sizeOf78
    v70 := Try.zeroValue78
    t76 := Try.underlying80
    a76 := Try.isAgg80
    z76 := Try.sizeOf80
    v76 := Try.zeroValue80
    t77 := Try.underlying81
    a77 := Try.isAgg81
    z77 := Try.sizeOf81
    v77 := Try.zeroValue81 }

def cmpRen : Go.Shelf.Ren :=
  { f := fun x => match x with
      | 5 => 40
      | 7 => 46
      | n => n
    t := fun x => match x with
      | 22 => 3
      | 3 => 3
      | 4 => 4
      | n => n
    g := fun n => n }
theorem layCmp : Go.Proofs.SlLaysC2.n5 Try.prog cmpRen :=
  { mixed := mixed
    f5 := ⟨ "cmp.Compare[int]", by decide, Try.func40.trans (congrArg some (by kernel_rfl))⟩
    f7 := ⟨ "cmp.isNaN[int]", by decide, Try.func46.trans (congrArg some (by kernel_rfl))⟩
    t3 := Try.underlying3
    a3 := Try.isAgg3
    z3 := Try.sizeOf3
    v3 := Try.zeroValue3
    t4 := Try.underlying4
    a4 := Try.isAgg4
    z4 := Try.sizeOf4
    v4 := Try.zeroValue4
    t22 := Try.underlying3
    a22 := Try.isAgg3
    z22 := Try.sizeOf3
    v22 := Try.zeroValue3 }

end Go.AM
