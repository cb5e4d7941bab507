/- Rmap: order, as slices.SortFunc asks for it. -/
import Derived.Test.YtallcianhjejiaaRm17a
import Derived.Deep.RegionHeld3
import Derived.LoopN
import Derived.WalkKit
set_option linter.all false

namespace Go.Proofs
open Go Go.Shelf Go.RowKit Go.Lib Go.Sort

def orI (a b : Int) : Int := if a = 0 then b else a

set_option maxRecDepth 100000 in
set_option maxHeartbeats 2000000 in
theorem Rmo.or39 (blk cap : Nat) (a b : Int) (W : World) (h0 : W.cell? ⟨blk, 0, none⟩ = some (.int .i64 a)) (h1 : W.cell? ⟨blk, 1, none⟩ = some (.int .i64 b)) :
    Calls Try.prog 39 #[.slice (some ⟨blk, 0, none⟩) 2 cap] W fun e w' => e = .returned (.int .i64 (orI a b)) ∧ w' = W := by
  have mixed := AM.mixed; have t3 := Try.underlying3; have a3 := Try.isAgg3; have z3 := Try.sizeOf3; have v3 := Try.zeroValue3
  have t61 := Try.underlying61; have a61 := Try.isAgg61; have z61 := Try.sizeOf61; have v61 := Try.zeroValue61
  unfold orI
  by_cases ha : a = 0
  · subst ha
    by_cases hb : b = 0
    · subst hb
      go_enter Try.func39, Try.ntmps39
      go_wp2
      refine wp_loop_rounds 3 ?_
      rw [rounds_succ]
      go_wp2
      rw [rounds_succ]
      go_wp2
      rw [rounds_succ]
      go_wp2
      go_ret
      exact ⟨by simp, rfl⟩
    · go_enter Try.func39, Try.ntmps39
      go_wp2
      refine wp_loop_rounds 3 ?_
      rw [rounds_succ]
      go_wp2
      rw [rounds_succ]
      go_wp2
      go_ret
      exact ⟨by simp, rfl⟩
  · go_enter Try.func39, Try.ntmps39
    go_wp2
    refine wp_loop_rounds 3 ?_
    rw [rounds_succ]
    go_wp2
    go_ret
    exact ⟨by simp [ha], rfl⟩

theorem Rmo.cmp40 (a b : Int) (W : World) : Calls Try.prog 40 #[.int .i64 a, .int .i64 b] W fun e w' => e = .returned (.int .i64 (Lib.compareInt a b)) ∧ w' = W :=
  AnyG.cmp_Compare_int AM.layCmp a b W

theorem Rmo.cell_new (W : World) (cs : Array Value) (t n off : Nat) (h : n = W.heap.size) : (W.alloc (Obj.cells cs t)).drew.cell? ⟨n, off, none⟩ = cs[off]? := by
  subst h
  have e : (W.alloc (Obj.cells cs t)).drew.heap[W.heap.size]? = some (Obj.cells cs t) := by
    show (W.heap.push _)[W.heap.size]? = _
    simp
  unfold World.cell?
  rw [e]
  rfl

set_option maxRecDepth 100000 in
set_option maxHeartbeats 4000000 in
/-- order, in whatever world: some blocks are laid. -/
theorem Rmo.order27 (x y : Int × Int) (W : World) : Calls Try.prog 27 #[.agg #[.int .i64 x.1, .int .i64 x.2], .agg #[.int .i64 y.1, .int .i64 y.2]] W fun e w' => e = .returned (.int .i64 (orI (Lib.compareInt x.1 y.1) (Lib.compareInt x.2 y.2))) ∧ ∃ q os', w' = grow (W.drewN q) os' := by
  have mixed := AM.mixed; have t3 := Try.underlying3; have a3 := Try.isAgg3; have z3 := Try.sizeOf3; have v3 := Try.zeroValue3
  have t61 := Try.underlying61; have a61 := Try.isAgg61; have z61 := Try.sizeOf61; have v61 := Try.zeroValue61
  have t24 := Try.underlying24; have a24 := Try.isAgg24; have z24 := Try.sizeOf24; have v24 := Try.zeroValue24
  have hcmp := Rmo.cmp40
  have hor := Rmo.or39
  go_enter Try.func27, Try.ntmps27
  go_wp2
  go_region_held3 (fun w' => w'.cell? ⟨W.heap.size, 0, none⟩ = some (.int .i64 x.1) ∧ w'.cell? ⟨W.heap.size, 1, none⟩ = some (.int .i64 x.2) ∧ w'.cell? ⟨W.heap.size + 1, 0, none⟩ = some (.int .i64 y.1) ∧ w'.cell? ⟨W.heap.size + 1, 1, none⟩ = some (.int .i64 y.2)) (go_keep)
    (first
      | (go_at_call 40; refine (hcmp _ _ _).mono ?_; rintro e w' ⟨rfl, rfl⟩)
      | (go_at_call 39; refine (hor _ _ (Lib.compareInt x.1 y.1) (Lib.compareInt x.2 y.2) _ (by rw [Rmo.cell_new _ _ _ _ _ (by simp)]; rfl) (by rw [Rmo.cell_new _ _ _ _ _ (by simp)]; rfl)).mono ?_; rintro e w' ⟨rfl, rfl⟩))
  all_goals
    go_wp2
    go_ret
    exact ⟨rfl, 1, _, by rw [alloc_eq_grow, alloc_eq_grow, alloc_eq_grow, grow_grow, grow_grow]; rfl⟩

theorem Rmo.cmpLays (blk off size : Nat) (w : World) : CmpLays Try.prog 27 #[] (fun x : Int × Int => [.int .i64 x.1, .int .i64 x.2]) 2 (fun x y => orI (Lib.compareInt x.1 y.1) (Lib.compareInt x.2 y.2)) blk off size w :=
  fun _ _ _ _ x y => Rmo.order27 x y _
end Go.Proofs
