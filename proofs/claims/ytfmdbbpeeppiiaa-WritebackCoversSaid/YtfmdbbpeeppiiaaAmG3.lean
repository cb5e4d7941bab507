/- What simp needs for functions that are given a part of the memory. -/
import Derived.Test.YtfmdbbpeeppiiaaAmG2
import Derived.Test.YtfmdbbpeeppiiaaAmZb
set_option linter.all false

namespace Go.AM
attribute [simp] CallG RetG gat AV.nms nmsL AO.nms Led notDead AV.curB curBL AO.curB verOf renL AV.ren posN canO shN updN AO.ren rng getL idx
@[simp] theorem nmN_hit {σ : List Nat} {nid i : Nat} (h : i < σ.length) : nmN σ nid i = σ[i] := by unfold nmN; rw [dif_pos h]
theorem nmN_new {σ : List Nat} {nid i : Nat} (h : ¬ i < σ.length) : nmN σ nid i = nid + (i - σ.length) := nmN_ge h
end Go.AM
