/- Writeback: the comparing functions as slices.SortFunc asks for them; slices.SortFunc at pages and at places. -/
import Derived.Test.YtfmdbbpeeppiiaaWbL
import Derived.Test.YtfmdbbpeeppiiaaWbP
import Derived.Test.YtfmdbbpeeppiiaaWb5
import Derived.Test.YtfmdbbpeeppiiaaAmZc
import Derived.Deep.RegionHeld3
import Derived.LoopN
import Derived.WalkKit
set_option linter.all false

namespace Go.Proofs
open Go Go.Shelf Go.RowKit Go.Lib Go.Sort

set_option maxRecDepth 100000 in
set_option maxHeartbeats 4000000 in
theorem Wbo.or3 (blk cap : Nat) (a b c : Int) (W : World) (h0 : W.cell? ⟨blk, 0, none⟩ = some (.int .i64 a)) (h1 : W.cell? ⟨blk, 1, none⟩ = some (.int .i64 b)) (h2 : W.cell? ⟨blk, 2, none⟩ = some (.int .i64 c)) :
    Calls Try.prog 41 #[.slice (some ⟨blk, 0, none⟩) 3 cap] W fun e w' => e = .returned (.int .i64 (AM.orL [a, b, c])) ∧ w' = W := by
  have mixed := AM.mixed; have t3 := Try.underlying3; have a3 := Try.isAgg3; have z3 := Try.sizeOf3; have v3 := Try.zeroValue3
  have t77 := Try.underlying77; have a77 := Try.isAgg77; have z77 := Try.sizeOf77; have v77 := Try.zeroValue77
  simp only [AM.orL]
  by_cases ha : a = 0
  case neg =>
    go_enter Try.func41, Try.ntmps41
    go_wp2
    refine wp_loop_rounds 4 ?_
    rw [rounds_succ]
    go_wp2
    go_ret
    exact ⟨by simp [ha], rfl⟩
  subst ha
  by_cases hb : b = 0
  case neg =>
    go_enter Try.func41, Try.ntmps41
    go_wp2
    refine wp_loop_rounds 4 ?_
    rw [rounds_succ]
    go_wp2
    rw [rounds_succ]
    go_wp2
    go_ret
    exact ⟨by simp [hb], rfl⟩
  subst hb
  by_cases hc : c = 0
  case neg =>
    go_enter Try.func41, Try.ntmps41
    go_wp2
    refine wp_loop_rounds 4 ?_
    rw [rounds_succ]
    go_wp2
    rw [rounds_succ]
    go_wp2
    rw [rounds_succ]
    go_wp2
    go_ret
    exact ⟨by simp [hc], rfl⟩
  subst hc
  go_enter Try.func41, Try.ntmps41
  go_wp2
  refine wp_loop_rounds 4 ?_
  rw [rounds_succ]
  go_wp2
  rw [rounds_succ]
  go_wp2
  rw [rounds_succ]
  go_wp2
  rw [rounds_succ]
  go_wp2
  go_ret
  exact ⟨by simp, rfl⟩

set_option maxRecDepth 100000 in
set_option maxHeartbeats 4000000 in
theorem Wbo.or2 (blk cap : Nat) (a b : Int) (W : World) (h0 : W.cell? ⟨blk, 0, none⟩ = some (.int .i64 a)) (h1 : W.cell? ⟨blk, 1, none⟩ = some (.int .i64 b)) :
    Calls Try.prog 41 #[.slice (some ⟨blk, 0, none⟩) 2 cap] W fun e w' => e = .returned (.int .i64 (AM.orL [a, b])) ∧ w' = W := by
  have mixed := AM.mixed; have t3 := Try.underlying3; have a3 := Try.isAgg3; have z3 := Try.sizeOf3; have v3 := Try.zeroValue3
  have t77 := Try.underlying77; have a77 := Try.isAgg77; have z77 := Try.sizeOf77; have v77 := Try.zeroValue77
  simp only [AM.orL]
  by_cases ha : a = 0
  case neg =>
    go_enter Try.func41, Try.ntmps41
    go_wp2
    refine wp_loop_rounds 4 ?_
    rw [rounds_succ]
    go_wp2
    go_ret
    exact ⟨by simp [ha], rfl⟩
  subst ha
  by_cases hb : b = 0
  case neg =>
    go_enter Try.func41, Try.ntmps41
    go_wp2
    refine wp_loop_rounds 4 ?_
    rw [rounds_succ]
    go_wp2
    rw [rounds_succ]
    go_wp2
    go_ret
    exact ⟨by simp [hb], rfl⟩
  subst hb
  go_enter Try.func41, Try.ntmps41
  go_wp2
  refine wp_loop_rounds 4 ?_
  rw [rounds_succ]
  go_wp2
  rw [rounds_succ]
  go_wp2
  rw [rounds_succ]
  go_wp2
  go_ret
  exact ⟨by simp, rfl⟩

theorem Wbo.cmp42 (a b : Int) (W : World) : Calls Try.prog 42 #[.int .i64 a, .int .i64 b] W fun e w' => e = .returned (.int .i64 (Lib.compareInt a b)) ∧ w' = W :=
  AnyG.cmp_Compare_int AM.layCmp a b W
theorem Wbo.cell_new (W : World) (cs : Array Value) (t n off : Nat) (h : n = W.heap.size) : (W.alloc (Obj.cells cs t)).drew.cell? ⟨n, off, none⟩ = cs[off]? := by
  subst h
  have e : (W.alloc (Obj.cells cs t)).drew.heap[W.heap.size]? = some (Obj.cells cs t) := by
    show (W.heap.push _)[W.heap.size]? = _
    simp
  unfold World.cell?
  rw [e]
  rfl

set_option maxRecDepth 100000 in
set_option maxHeartbeats 8000000 in
theorem Wbo.compare31 (x y : Int × Int × Int) (W : World) : Calls Try.prog 31 #[.agg #[.int .i64 x.1, .int .i64 x.2.1, .int .i64 x.2.2], .agg #[.int .i64 y.1, .int .i64 y.2.1, .int .i64 y.2.2]] W fun e w' => e = .returned (.int .i64 (AM.orL [Lib.compareInt x.2.2 y.2.2, Lib.compareInt x.1 y.1, Lib.compareInt x.2.1 y.2.1])) ∧ ∃ q os', w' = grow (W.drewN q) os' := by
  have mixed := AM.mixed; have t3 := Try.underlying3; have a3 := Try.isAgg3; have z3 := Try.sizeOf3; have v3 := Try.zeroValue3
  have t77 := Try.underlying77; have a77 := Try.isAgg77; have z77 := Try.sizeOf77; have v77 := Try.zeroValue77
  have te := Try.underlying30; have ae := Try.isAgg30; have ze := Try.sizeOf30; have ve := Try.zeroValue30
  have hcmp := Wbo.cmp42
  have hor := Wbo.or3
  go_enter Try.func31, Try.ntmps31
  go_wp2
  go_region_held3 (fun w' => w'.cell? ⟨W.heap.size, 0, none⟩ = some (.int .i64 x.1) ∧ w'.cell? ⟨W.heap.size, 1, none⟩ = some (.int .i64 x.2.1) ∧ w'.cell? ⟨W.heap.size, 2, none⟩ = some (.int .i64 x.2.2) ∧ w'.cell? ⟨W.heap.size + 1, 0, none⟩ = some (.int .i64 y.1) ∧ w'.cell? ⟨W.heap.size + 1, 1, none⟩ = some (.int .i64 y.2.1) ∧ w'.cell? ⟨W.heap.size + 1, 2, none⟩ = some (.int .i64 y.2.2)) (go_keep)
    (first
      | (go_at_call 42; refine (hcmp _ _ _).mono ?_; rintro e w' ⟨rfl, rfl⟩)
      | (go_at_call 41; refine (hor _ _ (Lib.compareInt x.2.2 y.2.2) (Lib.compareInt x.1 y.1) (Lib.compareInt x.2.1 y.2.1) _ (by rw [Wbo.cell_new _ _ _ _ _ (by simp)]; rfl) (by rw [Wbo.cell_new _ _ _ _ _ (by simp)]; rfl) (by rw [Wbo.cell_new _ _ _ _ _ (by simp)]; rfl)).mono ?_; rintro e w' ⟨rfl, rfl⟩))
  all_goals
    go_wp2
    go_ret
    exact ⟨rfl, 1, _, by rw [alloc_eq_grow, alloc_eq_grow, alloc_eq_grow, grow_grow, grow_grow]; rfl⟩
theorem Wbo.cmpLays31 (blk off size : Nat) (w : World) : CmpLays Try.prog 31 #[] (fun x : Int × Int × Int => [.int .i64 x.1, .int .i64 x.2.1, .int .i64 x.2.2]) 3 (fun x y => AM.orL [Lib.compareInt x.2.2 y.2.2, Lib.compareInt x.1 y.1, Lib.compareInt x.2.1 y.2.1]) blk off size w :=
  fun _ _ _ _ x y => Wbo.compare31 x y _

set_option maxRecDepth 100000 in
set_option maxHeartbeats 8000000 in
theorem Wbo.compare40 (x y : Int × Int) (W : World) : Calls Try.prog 40 #[.agg #[.int .i64 x.1, .int .i64 x.2], .agg #[.int .i64 y.1, .int .i64 y.2]] W fun e w' => e = .returned (.int .i64 (AM.orL [Lib.compareInt x.1 y.1, Lib.compareInt x.2 y.2])) ∧ ∃ q os', w' = grow (W.drewN q) os' := by
  have mixed := AM.mixed; have t3 := Try.underlying3; have a3 := Try.isAgg3; have z3 := Try.sizeOf3; have v3 := Try.zeroValue3
  have t77 := Try.underlying77; have a77 := Try.isAgg77; have z77 := Try.sizeOf77; have v77 := Try.zeroValue77
  have te := Try.underlying55; have ae := Try.isAgg55; have ze := Try.sizeOf55; have ve := Try.zeroValue55
  have hcmp := Wbo.cmp42
  have hor := Wbo.or2
  go_enter Try.func40, Try.ntmps40
  go_wp2
  go_region_held3 (fun w' => w'.cell? ⟨W.heap.size, 0, none⟩ = some (.int .i64 x.1) ∧ w'.cell? ⟨W.heap.size, 1, none⟩ = some (.int .i64 x.2) ∧ w'.cell? ⟨W.heap.size + 1, 0, none⟩ = some (.int .i64 y.1) ∧ w'.cell? ⟨W.heap.size + 1, 1, none⟩ = some (.int .i64 y.2)) (go_keep)
    (first
      | (go_at_call 42; refine (hcmp _ _ _).mono ?_; rintro e w' ⟨rfl, rfl⟩)
      | (go_at_call 41; refine (hor _ _ (Lib.compareInt x.1 y.1) (Lib.compareInt x.2 y.2) _ (by rw [Wbo.cell_new _ _ _ _ _ (by simp)]; rfl) (by rw [Wbo.cell_new _ _ _ _ _ (by simp)]; rfl)).mono ?_; rintro e w' ⟨rfl, rfl⟩))
  all_goals
    go_wp2
    go_ret
    exact ⟨rfl, 1, _, by rw [alloc_eq_grow, alloc_eq_grow, alloc_eq_grow, grow_grow, grow_grow]; rfl⟩
theorem Wbo.cmpLays40 (blk off size : Nat) (w : World) : CmpLays Try.prog 40 #[] (fun x : Int × Int => [.int .i64 x.1, .int .i64 x.2]) 2 (fun x y => AM.orL [Lib.compareInt x.1 y.1, Lib.compareInt x.2 y.2]) blk off size w :=
  fun _ _ _ _ x y => Wbo.compare40 x y _
end Go.Proofs

namespace Go.AM
open Go Go.Proofs Go.Sort
def unD : List (List AV) → Option (List Tp)
  | [] => some []
  | [.v (.int .i64 x), .v (.int .i64 y), .v (.int .i64 z)] :: r => match unD r with
    | some l => some ((x, y, z) :: l)
    | none => none
  | _ => none
theorem unD_eq : ∀ {xs : List (List AV)} {l : List Tp}, unD xs = some l → xs = drows l
  | [], l, h => by simp only [unD, Option.some.injEq] at h; subst h; rfl
  | e :: r, l, h => by
    unfold unD at h
    split at h
    · simp at *
    · rename_i x y z r' heq
      simp only [List.cons.injEq] at heq
      obtain ⟨rfl, rfl⟩ := heq
      cases hr : unD r <;> simp only [hr, reduceCtorEq, Option.some.injEq] at h
      subst h
      rw [unD_eq hr]; rfl
    · simp at h
theorem unD_rows : ∀ l : List Tp, unD (drows l) = some l
  | [] => rfl
  | x :: r => by
    have : drows (x :: r) = [I x.1, I x.2.1, I x.2.2] :: drows r := rfl
    rw [this]
    simp only [I, unD, unD_rows r]
def sortD (avs : List AV) (M : Nat → AO) (_nid : Nat) : Option (AV × List (Nat × AO)) :=
  match avs with
  | [.sl b m s o n, .fn 31 []] => match M b with
    | .vec m' s' f xs => match unD xs with
      | some l => if m = m' ∧ s = 3 ∧ s' = 3 ∧ o = 0 ∧ n = l.length ∧ n < 4611686018427387904 then some (.tup [], [(b, .vec m 3 f (drows (sortG ltD l)))]) else none
      | none => none
    | _ => none
  | _ => none
def encD (x : Tp) : List Value := [.int .i64 x.1, .int .i64 x.2.1, .int .i64 x.2.2]
def cfD (x y : Tp) : Int := AM.orL [Lib.compareInt x.2.2 y.2.2, Lib.compareInt x.1 y.1, Lib.compareInt x.2.1 y.2.1]
theorem cmpLib (a b : Int) : Lib.compareInt a b = cmpI a b := by
  unfold Lib.compareInt cmpI
  rfl
theorem cfD_lt (x y : Tp) : Go.Proofs.ltOf cfD x y = decide (ltD x y) := by
  unfold Go.Proofs.ltOf cfD
  simp only [cmpLib]
  exact decide_eq_decide.2 (cmpD_neg (a := x) (b := y))
theorem swoD : SWO (Go.Proofs.ltOf cfD) where
  irrefl x := by rw [cfD_lt]; simpa using stoD.irr x
  trans x y z h1 h2 := by
    rw [cfD_lt] at *
    simp only [decide_eq_true_eq] at *
    exact stoD.trans h1 h2
  ntrans x y z h1 h2 := by
    rw [cfD_lt] at *
    simp only [decide_eq_false_iff_not] at *
    exact stoD.le_trans (lt := ltD) (x := z) (y := y) (z := x) h2 h1
theorem totD (x y : Tp) (h1 : Go.Proofs.ltOf cfD x y = false) (h2 : Go.Proofs.ltOf cfD y x = false) : x = y := by
  rw [cfD_lt, decide_eq_false_iff_not] at h1 h2
  exact stoD.le_anti h2 h1
theorem sortD_eq (l : List Tp) : (l.mergeSort fun x y => !(Go.Proofs.ltOf cfD) y x) = sortG ltD l := by
  unfold sortG
  congr 1
  funext x y
  rw [cfD_lt]

theorem sortD_ok : CallOK Try.prog 30 sortD := by
  intro avs M nid av u hc w0 bl E w args hr hM hI _
  have htup : ∀ (E' : Env) (w' : World), Rep E' w' (.tup []) (.tuple #[]) := fun E' w' => by simp only [Rep]; exact ⟨[], rfl, by simp [RepL]⟩
  unfold sortD at hc
  split at hc
  case h_2 => simp at hc
  case h_1 b m s o n =>
    split at hc
    case h_2 => simp at hc
    rename_i m' s' f xs hMb
    split at hc
    case h_2 => simp at hc
    rename_i l hl
    split at hc
    case isFalse => simp at hc
    rename_i hcond
    obtain ⟨rfl, rfl, rfl, rfl, rfl, hlt⟩ := hcond
    simp only [Option.some.injEq, Prod.mk.injEq] at hc
    obtain ⟨rfl, rfl⟩ := hc
    obtain ⟨x, rfl, hx⟩ : ∃ x, args = #[x, .func (.func 31) #[] #[]] ∧ Rep E w (.sl b m 3 0 l.length) x := by
      cases hargs : args.toList with
      | nil => rw [hargs] at hr; simp [RepL] at hr
      | cons x r =>
        rw [hargs] at hr
        simp only [RepL] at hr
        cases r with
        | nil => simp [RepL] at hr
        | cons y r =>
          simp only [RepL] at hr
          cases r with
          | cons z r => simp [RepL] at hr
          | nil =>
            obtain ⟨h1, h2, _⟩ := hr
            simp only [Rep] at h2
            obtain ⟨vs, rfl, h3⟩ := h2
            cases vs with
            | cons v r => simp [RepL] at h3
            | nil => exact ⟨x, by rw [← Array.toArray_toList (xs := args), hargs], h1⟩
    simp only [Rep] at hx
    obtain ⟨hal, h1, h2, p, c, rfl, hnc, hpn, hsl⟩ := hx
    have hxs := unD_eq hl
    subst hxs
    have ho := hM b hal
    rw [hMb] at ho
    by_cases hl0 : l = []
    · subst hl0
      have := AnyF.slices_SortFunc_none laySortD p c (.func (.func 31) #[] #[]) w
      refine Calls.mono (this : Calls Try.prog 30 _ _ _) fun e w' ⟨he, hw⟩ => ?_
      subst hw
      exact ⟨_, E, he, StepTo.retell hI hal (by simpa [sortG] using ho), htup _ _⟩
    · have hpos : 0 < l.length := by
        rcases Nat.eq_zero_or_pos l.length with e | e
        · exact absurd (List.eq_nil_of_length_eq_zero e) hl0
        · exact e
      simp only [ObjRep] at ho
      obtain ⟨hv, hm1, ho⟩ := ho
      cases hlc : E.loc b with
      | none =>
        simp only [hlc] at ho
        exact absurd (by simpa [drows] using ho) hl0
      | some L =>
        obtain ⟨blk, base, sz⟩ := L
        simp only [hlc] at ho
        obtain ⟨ca, t, hheap, hszc, honec, hfit, hff, hrows⟩ := ho
        have hs2 := hsl hv.symm
        simp only [hlc, SlAt] at hs2
        obtain ⟨a, rfl, ha, hcs⟩ := hs2
        have ha := ha.resolve_left (by omega)
        simp only [Nat.zero_mul, Nat.add_zero] at ha
        subst ha
        have hblk : blk < w.heap.size := (Array.getElem?_eq_some_iff.1 hheap).1
        have hcell : ∀ i, i < l.length → ∀ c', c' < 3 → w.cell? ⟨blk, base + i * 3 + c', none⟩ = some ((encD (l[i]!))[c']!) := fun i hi c' hc' => by
          have h3 := hrows.get (i := i) (e := [I (l[i]).1, I (l[i]).2.1, I (l[i]).2.2]) (by simp [drows, hi])
          rw [getElem!_pos l i hi]
          have h01 : c' = 0 ∨ c' = 1 ∨ c' = 2 := by omega
          rcases h01 with rfl | rfl | rfl
          · obtain ⟨x, h4, _, h5⟩ := h3.2.get (j := 0) (a := I (l[i]).1) rfl
            simp only [CRep] at h5
            subst h5
            exact h4
          · obtain ⟨x, h4, _, h5⟩ := h3.2.get (j := 1) (a := I (l[i]).2.1) rfl
            simp only [CRep] at h5
            subst h5
            exact h4
          · obtain ⟨x, h4, _, h5⟩ := h3.2.get (j := 2) (a := I (l[i]).2.2) rfl
            simp only [CRep] at h5
            subst h5
            exact h4
        have hfz : ∀ j, w.frozen? ⟨blk, base + j, none⟩ = false := fun j => by
          unfold World.frozen?
          rw [hheap]
          simp
        have hH : HoldsK encD 3 w blk base l.toArray := fun j hj => ⟨by
          have hj2 : j < l.toArray.size * 3 := by simpa using hj
          have hjl : j < l.length * 3 := by simpa using hj
          rw [get_flatK _ _ _ _ hj2]
          have := hcell (j / 3) (by omega) (j % 3) (by omega)
          rw [show base + j / 3 * 3 + j % 3 = base + j by omega] at this
          rw [this]
          simp, hfz j⟩
        have eg : ∀ args w, (callFunc 31 args).run Try.prog w = .ok (.enter 31 args) w := enters_of Try.func31 (by kernel_rfl) rfl
        have := AnyQ.slices_SortFunc_total laySortD 3 Try.isAgg30 Try.sizeOf30 encD (fun _ => rfl) (fun x v hv => by simp [encD] at hv; rcases hv with rfl | rfl | rfl <;> rfl) cfD swoD 31 #[] blk base c l.toArray w eg (Wbo.cmpLays31 blk base l.toArray.size w) hH hblk (by simpa using hlt) totD
        refine Calls.mono (this : Calls Try.prog 30 _ _ _) fun e w' ⟨he, n, os, hw⟩ => ?_
        simp only [sortD_eq] at hw
        have hsz1 : (sortG ltD l).toArray.size = l.toArray.size := by simp
        have hH2 : HoldsK encD 3 w' blk base (sortG ltD l).toArray := by
          rw [hw]
          exact holdsK_sortWorldK_c encD 3 w blk base l.toArray _ n os hH hblk hsz1
        have hsize : w.heap.size ≤ w'.heap.size := by
          rw [hw]; exact size_sortWorldK_c encD 3 w blk base n _ os
        have hother : ∀ k, k < w.heap.size → k ≠ blk → w'.heap[k]? = w.heap[k]? := fun k hk hne => by
          rw [hw]
          unfold sortWorldK putRowK
          rw [heap_grow_old _ _ (by simpa [ahead] using hk)]
          simp only [putRow, mapBlock, Array.getElem?_modify]
          rw [if_neg (fun e => hne e.symm)]
          rfl
        have hown : w'.heap[blk]? = some (.cells (putCells id base (flatK encD 3 (sortG ltD l).toArray) ca) t (0, 0)) := by
          rw [hw]
          unfold sortWorldK putRowK
          rw [heap_grow_old _ _ (by simpa [ahead] using hblk)]
          simp only [putRow, mapBlock, Array.getElem?_modify, if_true]
          have e : ∀ n, (Sort.ahead w n).heap = w.heap := fun n => rfl
          rw [e, hheap]
          rfl
        refine ⟨_, E.upd b m (some (blk, base, sz)), he, ?_, htup _ _⟩
        refine StepTo.one hI b _ m _ (fun _ => .inl ⟨hv.symm, hlc.symm⟩) (fun blk' base' sz' e => ?_) hsize (by rw [hw]; rfl) (by rw [hw]; rfl) (fun k hk hn => hother k hk fun e => ?_) ?_
        · simp only [Option.some.injEq, Prod.mk.injEq] at e
          exact .inl ⟨base, sz, hal, by rw [hlc, e.1]⟩
        · subst e; exact hn base sz hal hlc
        · simp only [ObjRep, Env.upd, if_true]
          refine ⟨trivial, hm1, _, t, hown, by simpa [putCells] using hszc, fun y hy => ?_, by simpa using hfit, fun hf => by simpa using hff hf, CRows.of_get fun i e hi => ?_⟩
          · rw [Array.mem_toList_iff] at hy
            obtain ⟨q, hk, rfl⟩ := Array.mem_iff_getElem.1 hy
            simp only [putCells, Array.getElem_mapIdx]
            split
            · rename_i hcond
              have hk2 : q - base < (sortG ltD l).toArray.size * 3 := by
                have := hcond.2
                rw [size_flatK] at this
                omega
              rw [get_flatK _ _ _ _ hk2]
              have h01 : (q - base) % 3 = 0 ∨ (q - base) % 3 = 1 ∨ (q - base) % 3 = 2 := by omega
              rcases h01 with h01 | h01 | h01 <;> rw [h01] <;> rfl
            · exact honec _ (by rw [Array.mem_toList_iff]; exact Array.getElem_mem _)
          · have hil : i < (sortG ltD l).length := by
              have := (List.getElem?_eq_some_iff.1 hi).1
              simpa using this
            simp only [drows, List.getElem?_map, List.getElem?_eq_getElem hil, Option.map_some, Option.some.injEq] at hi
            subst hi
            refine ⟨rfl, ?_⟩
            have hA0 := (hH2.cell (i := i) (c := 0) (by simpa using hil) (by omega)).1
            have hA1 := (hH2.cell (i := i) (c := 1) (by simpa using hil) (by omega)).1
            have hA2 := (hH2.cell (i := i) (c := 2) (by simpa using hil) (by omega)).1
            simp only [List.getElem!_toArray] at hA0 hA1 hA2
            rw [getElem!_pos (sortG ltD l) i hil] at hA0
            rw [getElem!_pos (sortG ltD l) i hil] at hA1
            rw [getElem!_pos (sortG ltD l) i hil] at hA2
            simp only [CCells]
            refine ⟨⟨_, hA0, rfl, ?_⟩, ⟨_, hA1, rfl, ?_⟩, ⟨_, hA2, rfl, ?_⟩, trivial⟩
            · simp only [CRep]; rfl
            · simp only [CRep]; rfl
            · simp only [CRep]; rfl

theorem sortD_keys {avs : List AV} {M : Nat → AO} {nid : Nat} {r : AV × List (Nat × AO)} (h : sortD avs M nid = some r) : ∀ b ∈ r.2.map (·.1), (nid ≤ b ∧ b < nid + 16) ∨ M b ≠ .dead := by
  unfold sortD at h
  split at h
  case h_2 => simp at h
  split at h
  case h_2 => simp at h
  rename_i hMb
  split at h
  case h_2 => simp at h
  split at h
  case isFalse => simp at h
  simp only [Option.some.injEq] at h
  subst h
  intro b hb
  simp at hb
  subst hb
  exact .inr (by rw [hMb]; simp)
end Go.AM

namespace Go.AM
open Go Go.Proofs Go.Sort
def unP : List (List AV) → Option (List Mp)
  | [] => some []
  | [.v (.int .i64 x), .v (.int .i64 y)] :: r => match unP r with
    | some l => some ((x, y) :: l)
    | none => none
  | _ => none
theorem unP_eq : ∀ {xs : List (List AV)} {l : List Mp}, unP xs = some l → xs = prows l
  | [], l, h => by simp only [unP, Option.some.injEq] at h; subst h; rfl
  | e :: r, l, h => by
    unfold unP at h
    split at h
    · simp at *
    · rename_i x y r' heq
      simp only [List.cons.injEq] at heq
      obtain ⟨rfl, rfl⟩ := heq
      cases hr : unP r <;> simp only [hr, reduceCtorEq, Option.some.injEq] at h
      subst h
      rw [unP_eq hr]; rfl
    · simp at h
theorem unP_rows : ∀ l : List Mp, unP (prows l) = some l
  | [] => rfl
  | x :: r => by
    have : prows (x :: r) = [I x.1, I x.2] :: prows r := rfl
    rw [this]
    simp only [I, unP, unP_rows r]
def sortP (avs : List AV) (M : Nat → AO) (_nid : Nat) : Option (AV × List (Nat × AO)) :=
  match avs with
  | [.sl b m s o n, .fn 40 []] => match M b with
    | .vec m' s' f xs => match unP xs with
      | some l => if m = m' ∧ s = 2 ∧ s' = 2 ∧ o = 0 ∧ n = l.length ∧ n < 4611686018427387904 then some (.tup [], [(b, .vec m 2 f (prows (sortG ltP l)))]) else none
      | none => none
    | _ => none
  | _ => none
def encP (x : Mp) : List Value := [.int .i64 x.1, .int .i64 x.2]
def cfP (x y : Mp) : Int := AM.orL [Lib.compareInt x.1 y.1, Lib.compareInt x.2 y.2]
theorem cfP_lt (x y : Mp) : Go.Proofs.ltOf cfP x y = decide (ltP x y) := by
  unfold Go.Proofs.ltOf cfP
  simp only [cmpLib]
  exact decide_eq_decide.2 (cmpP_neg (a := x) (b := y))
theorem swoP : SWO (Go.Proofs.ltOf cfP) where
  irrefl x := by rw [cfP_lt]; simpa using stoP.irr x
  trans x y z h1 h2 := by
    rw [cfP_lt] at *
    simp only [decide_eq_true_eq] at *
    exact stoP.trans h1 h2
  ntrans x y z h1 h2 := by
    rw [cfP_lt] at *
    simp only [decide_eq_false_iff_not] at *
    exact stoP.le_trans (lt := ltP) (x := z) (y := y) (z := x) h2 h1
theorem totP (x y : Mp) (h1 : Go.Proofs.ltOf cfP x y = false) (h2 : Go.Proofs.ltOf cfP y x = false) : x = y := by
  rw [cfP_lt, decide_eq_false_iff_not] at h1 h2
  exact stoP.le_anti h2 h1
theorem sortP_eq (l : List Mp) : (l.mergeSort fun x y => !(Go.Proofs.ltOf cfP) y x) = sortG ltP l := by
  unfold sortG
  congr 1
  funext x y
  rw [cfP_lt]

theorem sortP_ok : CallOK Try.prog 39 sortP := by
  intro avs M nid av u hc w0 bl E w args hr hM hI _
  have htup : ∀ (E' : Env) (w' : World), Rep E' w' (.tup []) (.tuple #[]) := fun E' w' => by simp only [Rep]; exact ⟨[], rfl, by simp [RepL]⟩
  unfold sortP at hc
  split at hc
  case h_2 => simp at hc
  case h_1 b m s o n =>
    split at hc
    case h_2 => simp at hc
    rename_i m' s' f xs hMb
    split at hc
    case h_2 => simp at hc
    rename_i l hl
    split at hc
    case isFalse => simp at hc
    rename_i hcond
    obtain ⟨rfl, rfl, rfl, rfl, rfl, hlt⟩ := hcond
    simp only [Option.some.injEq, Prod.mk.injEq] at hc
    obtain ⟨rfl, rfl⟩ := hc
    obtain ⟨x, rfl, hx⟩ : ∃ x, args = #[x, .func (.func 40) #[] #[]] ∧ Rep E w (.sl b m 2 0 l.length) x := by
      cases hargs : args.toList with
      | nil => rw [hargs] at hr; simp [RepL] at hr
      | cons x r =>
        rw [hargs] at hr
        simp only [RepL] at hr
        cases r with
        | nil => simp [RepL] at hr
        | cons y r =>
          simp only [RepL] at hr
          cases r with
          | cons z r => simp [RepL] at hr
          | nil =>
            obtain ⟨h1, h2, _⟩ := hr
            simp only [Rep] at h2
            obtain ⟨vs, rfl, h3⟩ := h2
            cases vs with
            | cons v r => simp [RepL] at h3
            | nil => exact ⟨x, by rw [← Array.toArray_toList (xs := args), hargs], h1⟩
    simp only [Rep] at hx
    obtain ⟨hal, h1, h2, p, c, rfl, hnc, hpn, hsl⟩ := hx
    have hxs := unP_eq hl
    subst hxs
    have ho := hM b hal
    rw [hMb] at ho
    by_cases hl0 : l = []
    · subst hl0
      have := AnyF.slices_SortFunc_none laySortP p c (.func (.func 40) #[] #[]) w
      refine Calls.mono (this : Calls Try.prog 39 _ _ _) fun e w' ⟨he, hw⟩ => ?_
      subst hw
      exact ⟨_, E, he, StepTo.retell hI hal (by simpa [sortG] using ho), htup _ _⟩
    · have hpos : 0 < l.length := by
        rcases Nat.eq_zero_or_pos l.length with e | e
        · exact absurd (List.eq_nil_of_length_eq_zero e) hl0
        · exact e
      simp only [ObjRep] at ho
      obtain ⟨hv, hm1, ho⟩ := ho
      cases hlc : E.loc b with
      | none =>
        simp only [hlc] at ho
        exact absurd (by simpa [prows] using ho) hl0
      | some L =>
        obtain ⟨blk, base, sz⟩ := L
        simp only [hlc] at ho
        obtain ⟨ca, t, hheap, hszc, honec, hfit, hff, hrows⟩ := ho
        have hs2 := hsl hv.symm
        simp only [hlc, SlAt] at hs2
        obtain ⟨a, rfl, ha, hcs⟩ := hs2
        have ha := ha.resolve_left (by omega)
        simp only [Nat.zero_mul, Nat.add_zero] at ha
        subst ha
        have hblk : blk < w.heap.size := (Array.getElem?_eq_some_iff.1 hheap).1
        have hcell : ∀ i, i < l.length → ∀ c', c' < 2 → w.cell? ⟨blk, base + i * 2 + c', none⟩ = some ((encP (l[i]!))[c']!) := fun i hi c' hc' => by
          have h3 := hrows.get (i := i) (e := [I (l[i]).1, I (l[i]).2]) (by simp [prows, hi])
          rw [getElem!_pos l i hi]
          have h01 : c' = 0 ∨ c' = 1 := by omega
          rcases h01 with rfl | rfl
          · obtain ⟨x, h4, _, h5⟩ := h3.2.get (j := 0) (a := I (l[i]).1) rfl
            simp only [CRep] at h5
            subst h5
            exact h4
          · obtain ⟨x, h4, _, h5⟩ := h3.2.get (j := 1) (a := I (l[i]).2) rfl
            simp only [CRep] at h5
            subst h5
            exact h4
        have hfz : ∀ j, w.frozen? ⟨blk, base + j, none⟩ = false := fun j => by
          unfold World.frozen?
          rw [hheap]
          simp
        have hH : HoldsK encP 2 w blk base l.toArray := fun j hj => ⟨by
          have hj2 : j < l.toArray.size * 2 := by simpa using hj
          have hjl : j < l.length * 2 := by simpa using hj
          rw [get_flatK _ _ _ _ hj2]
          have := hcell (j / 2) (by omega) (j % 2) (by omega)
          rw [show base + j / 2 * 2 + j % 2 = base + j by omega] at this
          rw [this]
          simp, hfz j⟩
        have eg : ∀ args w, (callFunc 40 args).run Try.prog w = .ok (.enter 40 args) w := enters_of Try.func40 (by kernel_rfl) rfl
        have := AnyQ.slices_SortFunc_total laySortP 2 Try.isAgg55 Try.sizeOf55 encP (fun _ => rfl) (fun x v hv => by simp [encP] at hv; rcases hv with rfl | rfl <;> rfl) cfP swoP 40 #[] blk base c l.toArray w eg (Wbo.cmpLays40 blk base l.toArray.size w) hH hblk (by simpa using hlt) totP
        refine Calls.mono (this : Calls Try.prog 39 _ _ _) fun e w' ⟨he, n, os, hw⟩ => ?_
        simp only [sortP_eq] at hw
        have hsz1 : (sortG ltP l).toArray.size = l.toArray.size := by simp
        have hH2 : HoldsK encP 2 w' blk base (sortG ltP l).toArray := by
          rw [hw]
          exact holdsK_sortWorldK_c encP 2 w blk base l.toArray _ n os hH hblk hsz1
        have hsize : w.heap.size ≤ w'.heap.size := by
          rw [hw]; exact size_sortWorldK_c encP 2 w blk base n _ os
        have hother : ∀ k, k < w.heap.size → k ≠ blk → w'.heap[k]? = w.heap[k]? := fun k hk hne => by
          rw [hw]
          unfold sortWorldK putRowK
          rw [heap_grow_old _ _ (by simpa [ahead] using hk)]
          simp only [putRow, mapBlock, Array.getElem?_modify]
          rw [if_neg (fun e => hne e.symm)]
          rfl
        have hown : w'.heap[blk]? = some (.cells (putCells id base (flatK encP 2 (sortG ltP l).toArray) ca) t (0, 0)) := by
          rw [hw]
          unfold sortWorldK putRowK
          rw [heap_grow_old _ _ (by simpa [ahead] using hblk)]
          simp only [putRow, mapBlock, Array.getElem?_modify, if_true]
          have e : ∀ n, (Sort.ahead w n).heap = w.heap := fun n => rfl
          rw [e, hheap]
          rfl
        refine ⟨_, E.upd b m (some (blk, base, sz)), he, ?_, htup _ _⟩
        refine StepTo.one hI b _ m _ (fun _ => .inl ⟨hv.symm, hlc.symm⟩) (fun blk' base' sz' e => ?_) hsize (by rw [hw]; rfl) (by rw [hw]; rfl) (fun k hk hn => hother k hk fun e => ?_) ?_
        · simp only [Option.some.injEq, Prod.mk.injEq] at e
          exact .inl ⟨base, sz, hal, by rw [hlc, e.1]⟩
        · subst e; exact hn base sz hal hlc
        · simp only [ObjRep, Env.upd, if_true]
          refine ⟨trivial, hm1, _, t, hown, by simpa [putCells] using hszc, fun y hy => ?_, by simpa using hfit, fun hf => by simpa using hff hf, CRows.of_get fun i e hi => ?_⟩
          · rw [Array.mem_toList_iff] at hy
            obtain ⟨q, hk, rfl⟩ := Array.mem_iff_getElem.1 hy
            simp only [putCells, Array.getElem_mapIdx]
            split
            · rename_i hcond
              have hk2 : q - base < (sortG ltP l).toArray.size * 2 := by
                have := hcond.2
                rw [size_flatK] at this
                omega
              rw [get_flatK _ _ _ _ hk2]
              have h01 : (q - base) % 2 = 0 ∨ (q - base) % 2 = 1 := by omega
              rcases h01 with h01 | h01 <;> rw [h01] <;> rfl
            · exact honec _ (by rw [Array.mem_toList_iff]; exact Array.getElem_mem _)
          · have hil : i < (sortG ltP l).length := by
              have := (List.getElem?_eq_some_iff.1 hi).1
              simpa using this
            simp only [prows, List.getElem?_map, List.getElem?_eq_getElem hil, Option.map_some, Option.some.injEq] at hi
            subst hi
            refine ⟨rfl, ?_⟩
            have hA0 := (hH2.cell (i := i) (c := 0) (by simpa using hil) (by omega)).1
            have hA1 := (hH2.cell (i := i) (c := 1) (by simpa using hil) (by omega)).1
            simp only [List.getElem!_toArray] at hA0 hA1
            rw [getElem!_pos (sortG ltP l) i hil] at hA0
            rw [getElem!_pos (sortG ltP l) i hil] at hA1
            simp only [CCells]
            refine ⟨⟨_, hA0, rfl, ?_⟩, ⟨_, hA1, rfl, ?_⟩, trivial⟩
            · simp only [CRep]; rfl
            · simp only [CRep]; rfl

theorem sortP_keys {avs : List AV} {M : Nat → AO} {nid : Nat} {r : AV × List (Nat × AO)} (h : sortP avs M nid = some r) : ∀ b ∈ r.2.map (·.1), (nid ≤ b ∧ b < nid + 16) ∨ M b ≠ .dead := by
  unfold sortP at h
  split at h
  case h_2 => simp at h
  split at h
  case h_2 => simp at h
  rename_i hMb
  split at h
  case h_2 => simp at h
  split at h
  case isFalse => simp at h
  simp only [Option.some.injEq] at h
  subst h
  intro b hb
  simp at hb
  subst hb
  exact .inr (by rw [hMb]; simp)
end Go.AM
