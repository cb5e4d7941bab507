/- slices.Sort is the library's own, as the shelf has walked it: a slice of numbers is put in order. -/
import Derived.Shelf.Sort.Plain
import Derived.Shelf.Slices.In.SortNone
import Derived.Test.YtpkbbmimfoakcaaWs9
import Derived.Test.YtpkbbmimfoakcaaAmZc
set_option linter.all false

namespace Go.AM
open Go Go.Proofs Go.Sort

def sortRen : Go.Shelf.Ren :=
  { f := fun x => match x with
      | 189 => 42
      | 125 => 46
      | 257 => 45
      | 128 => 56
      | 129 => 57
      | 294 => 47
      | 295 => 48
      | 296 => 49
      | 297 => 50
      | 298 => 51
      | 299 => 52
      | 216 => 53
      | 300 => 54
      | 301 => 55
      | 328 => 58
      | 329 => 59
      | 330 => 60
      | 331 => 61
      | 332 => 62
      | 215 => 63
      | 343 => 64
      | n => n
    t := fun x => match x with
      | 28 => 27
      | 3 => 3
      | 46 => 73
      | 0 => 0
      | 51 => 81
      | 53 => 83
      | 4 => 4
      | 183 => 76
      | 182 => 75
      | 131 => 67
      | 5 => 5
      | 9 => 9
      | 218 => 84
      | 222 => 88
      | 228 => 90
      | 229 => 23
      | n => n
    g := fun n => n }
theorem lay189 : Lays.n189 Try.prog sortRen :=
  { mixed := mixed
    f125 := Try.func46.trans (congrArg some (by kernel_rfl))
    f128 := Try.func56.trans (congrArg some (by kernel_rfl))
    f129 := Try.func57.trans (congrArg some (by kernel_rfl))
    f189 := Try.func42.trans (congrArg some (by kernel_rfl))
    f215 := Try.func63.trans (congrArg some (by kernel_rfl))
    f216 := Try.func53.trans (congrArg some (by kernel_rfl))
    f257 := Try.func45.trans (congrArg some (by kernel_rfl))
    f294 := Try.func47.trans (congrArg some (by kernel_rfl))
    f295 := Try.func48.trans (congrArg some (by kernel_rfl))
    f296 := Try.func49.trans (congrArg some (by kernel_rfl))
    f297 := Try.func50.trans (congrArg some (by kernel_rfl))
    f298 := Try.func51.trans (congrArg some (by kernel_rfl))
    f299 := Try.func52.trans (congrArg some (by kernel_rfl))
    f300 := Try.func54.trans (congrArg some (by kernel_rfl))
    f301 := Try.func55.trans (congrArg some (by kernel_rfl))
    f328 := Try.func58.trans (congrArg some (by kernel_rfl))
    f329 := Try.func59.trans (congrArg some (by kernel_rfl))
    f330 := Try.func60.trans (congrArg some (by kernel_rfl))
    f331 := Try.func61.trans (congrArg some (by kernel_rfl))
    f332 := Try.func62.trans (congrArg some (by kernel_rfl))
    f343 := Try.func64.trans (congrArg some (by kernel_rfl))
    t0 := Try.underlying0
    a0 := Try.isAgg0
    z0 := Try.sizeOf0
    v0 := Try.zeroValue0
    t3 := Try.underlying3
    a3 := Try.isAgg3
    z3 := Try.sizeOf3
    v3 := Try.zeroValue3
    t4 := Try.underlying4
    a4 := Try.isAgg4
    z4 := Try.sizeOf4
    v4 := Try.zeroValue4
    t5 := Try.underlying5
    a5 := Try.isAgg5
    z5 := Try.sizeOf5
    v5 := Try.zeroValue5
    t9 := Try.underlying9
    a9 := Try.isAgg9
    z9 := Try.sizeOf9
    v9 := Try.zeroValue9
    t28 := Try.underlying27
    a28 := Try.isAgg27
    z28 := Try.sizeOf27
    v28 := Try.zeroValue27
    t46 := Try.underlying73
    a46 := Try.isAgg73
    z46 := Try.sizeOf73
    v46 := Try.zeroValue73
    t51 := Try.underlying81
    a51 := Try.isAgg81
    z51 := Try.sizeOf81
    v51 := Try.zeroValue81
    t53 := Try.underlying83
    a53 := Try.isAgg83
    z53 := Try.sizeOf83
    v53 := Try.zeroValue83
    t131 := Try.underlying67
    a131 := Try.isAgg67
    z131 := Try.sizeOf67
    v131 := Try.zeroValue67
    t182 := Try.underlying75
    a182 := Try.isAgg75
    z182 := Try.sizeOf75
    v182 := Try.zeroValue75
    t183 := Try.underlying76
    a183 := Try.isAgg76
    z183 := Try.sizeOf76
    v183 := Try.zeroValue76
    t218 := Try.underlying84
    a218 := Try.isAgg84
    z218 := Try.sizeOf84
    v218 := Try.zeroValue84
    t222 := Try.underlying88
    a222 := Try.isAgg88
    z222 := Try.sizeOf88
    v222 := Try.zeroValue88
    t228 := Try.underlying90
    a228 := Try.isAgg90
    z228 := Try.sizeOf90
    v228 := Try.zeroValue90
    t229 := Try.underlying23
    a229 := Try.isAgg23
    z229 := Try.sizeOf23
    v229 := Try.zeroValue23 }

def sortL (l : List Int) : List Int := l.mergeSort fun x y => decide (x ≤ y)
@[simp] theorem sortL_len (l : List Int) : (sortL l).length = l.length := List.length_mergeSort _
theorem sortL_perm (l : List Int) : (sortL l).Perm l := List.mergeSort_perm _ _
theorem sortL_sorted (l : List Int) : (sortL l).Pairwise (· ≤ ·) := by
  have := List.pairwise_mergeSort (le := fun x y : Int => decide (x ≤ y)) (fun a b c h1 h2 => by simp at *; omega) (fun a b => by simp; omega) l
  simpa [sortL] using this

def sortC (avs : List AV) (M : Nat → AO) (_nid : Nat) : Option (AV × List (Nat × AO)) :=
  match avs with
  | [.sl b m s o n] => match M b with
    | .vec m' s' f xs => match unI xs with
      | some l => if m = m' ∧ s = 1 ∧ s' = 1 ∧ o = 0 ∧ n = l.length ∧ n < 4611686018427387904 then some (.tup [], [(b, .vec m 1 f (irows (sortL l)))]) else none
      | none => none
    | _ => none
  | [.v (.slice none 0 0)] => some (.tup [], [])
  | _ => none

theorem sort_ok : CallOK Try.prog 42 sortC := by
  intro avs M nid av u hc w0 bl E w args hr hM hI _
  have hone : ∀ {a : AV}, RepL E w [a] args.toList → ∃ x, args = #[x] ∧ Rep E w a x := fun {a} hr => by
    cases hargs : args.toList with
    | nil => rw [hargs] at hr; simp [RepL] at hr
    | cons x r =>
      rw [hargs] at hr
      simp only [RepL] at hr
      cases r with
      | nil => exact ⟨x, by rw [← Array.toArray_toList (xs := args), hargs], hr.1⟩
      | cons y r => simp [RepL] at hr
  have htup : ∀ (E' : Env) (w' : World), Rep E' w' (.tup []) (.tuple #[]) := fun E' w' => by simp only [Rep]; exact ⟨[], rfl, by simp [RepL]⟩
  unfold sortC at hc
  split at hc
  case h_3 => simp at hc
  case h_2 =>
    simp only [Option.some.injEq, Prod.mk.injEq] at hc
    obtain ⟨rfl, rfl⟩ := hc
    obtain ⟨x, rfl, hx⟩ := hone hr
    simp only [Rep, CRep] at hx
    subst hx
    have := Any.slices_Sort_int_none lay189 none 0 w
    refine Calls.mono (this : Calls Try.prog 42 _ _ _) fun e w' ⟨he, hw⟩ => ?_
    subst hw
    exact ⟨_, E, he, StepTo.refl hI rfl rfl rfl, htup _ _⟩
  case h_1 b m s o n =>
    split at hc
    case h_2 => simp at hc
    rename_i m' s' f xs hMb
    split at hc
    case h_2 => simp at hc
    rename_i l hl
    split at hc
    case isFalse => simp at hc
    rename_i hcond
    obtain ⟨rfl, rfl, rfl, rfl, rfl, hlt⟩ := hcond
    simp only [Option.some.injEq, Prod.mk.injEq] at hc
    obtain ⟨rfl, rfl⟩ := hc
    obtain ⟨x, rfl, hx⟩ := hone hr
    simp only [Rep] at hx
    obtain ⟨hal, h1, h2, p, c, rfl, hnc, hpn, hsl⟩ := hx
    have hxs := unI_eq hl
    subst hxs
    have ho := hM b hal
    rw [hMb] at ho
    by_cases hl0 : l = []
    · subst hl0
      have := Any.slices_Sort_int_none lay189 p c w
      refine Calls.mono (this : Calls Try.prog 42 _ _ _) fun e w' ⟨he, hw⟩ => ?_
      subst hw
      exact ⟨_, E, he, StepTo.retell hI hal (by simpa [sortL] using ho), htup _ _⟩
    · have hpos : 0 < l.length := by
        rcases Nat.eq_zero_or_pos l.length with e | e
        · exact absurd (List.eq_nil_of_length_eq_zero e) hl0
        · exact e
      simp only [ObjRep] at ho
      obtain ⟨hv, hm1, ho⟩ := ho
      cases hlc : E.loc b with
      | none =>
        simp only [hlc] at ho
        exact absurd (by simpa [irows] using ho) hl0
      | some L =>
        obtain ⟨blk, base, sz⟩ := L
        simp only [hlc] at ho
        obtain ⟨ca, t, hheap, hszc, honec, hfit, hff, hrows⟩ := ho
        have hs2 := hsl hv.symm
        simp only [hlc, SlAt] at hs2
        obtain ⟨a, rfl, ha, hcs⟩ := hs2
        have ha := ha.resolve_left (by omega)
        simp only [Nat.zero_mul, Nat.add_zero] at ha
        subst ha
        have hblk : blk < w.heap.size := (Array.getElem?_eq_some_iff.1 hheap).1
        have hcell : ∀ j, j < l.length → w.cell? ⟨blk, base + j, none⟩ = some (.int .i64 l[j]!) := fun j hj => by
          have h3 := hrows.get (i := j) (e := [I l[j]]) (by simp [irows, hj])
          obtain ⟨x, h4, _, h5⟩ := h3.2.get (j := 0) (a := I l[j]) rfl
          simp only [CRep] at h5
          subst h5
          simp only [Nat.mul_one, Nat.add_zero] at h4
          rw [h4, getElem!_pos l j hj]
        have hfz : ∀ j, w.frozen? ⟨blk, base + j, none⟩ = false := fun j => by
          unfold World.frozen?
          rw [hheap]
          simp
        have hH : Holds (Value.int .i64) w blk base l.toArray := fun j hj => ⟨by
          rw [hcell j (by simpa using hj)]
          simp, hfz j⟩
        have := Any.slices_Sort_int lay189 blk base c l w hH hblk hlt
        refine Calls.mono (this : Calls Try.prog 42 _ _ _) fun e w' ⟨he, n, os, hw⟩ => ?_
        have hH2 : Holds (Value.int .i64) w' blk base (sortL l).toArray := by
          rw [hw]
          refine holds_grow _ _ _ _ _ _ (by simpa [ahead] using hblk) ?_
          exact holds_putRow _ _ _ _ l.toArray _ (fun j hj => hH j hj) (by simp)
        have hsize : w.heap.size ≤ w'.heap.size := by rw [hw]; simp [ahead]
        have hother : ∀ k, k < w.heap.size → k ≠ blk → w'.heap[k]? = w.heap[k]? := fun k hk hne => by
          rw [hw, heap_grow_old _ _ (by simpa [ahead] using hk)]
          simp only [putRow, mapBlock, Array.getElem?_modify]
          rw [if_neg (fun e => hne e.symm)]
          rfl
        have hown : w'.heap[blk]? = some (.cells (putCells (Value.int .i64) base (sortL l).toArray ca) t (0, 0)) := by
          rw [hw, heap_grow_old _ _ (by simpa [ahead] using hblk)]
          simp only [putRow, mapBlock, Array.getElem?_modify, if_true]
          have e : ∀ n, (Sort.ahead w n).heap = w.heap := fun n => rfl
          rw [e, hheap]
          rfl
        refine ⟨_, E.upd b m (some (blk, base, sz)), he, ?_, htup _ _⟩
        refine StepTo.one hI b _ m _ (fun _ => .inl ⟨hv.symm, hlc.symm⟩) (fun blk' base' sz' e => ?_) hsize (by rw [hw]; rfl) (by rw [hw]; rfl) (fun k hk hn => hother k hk fun e => ?_) ?_
        · simp only [Option.some.injEq, Prod.mk.injEq] at e
          exact .inl ⟨base, sz, hal, by rw [hlc, e.1]⟩
        · subst e; exact hn base sz hal hlc
        · simp only [ObjRep, Env.upd, if_true]
          refine ⟨trivial, hm1, _, t, hown, by simpa [putCells] using hszc, fun y hy => ?_, by simpa using hfit, fun hf => by simpa using hff hf, CRows.of_get fun i e hi => ?_⟩
          · rw [Array.mem_toList_iff] at hy
            obtain ⟨k, hk, rfl⟩ := Array.mem_iff_getElem.1 hy
            simp only [putCells, Array.getElem_mapIdx]
            split
            · rfl
            · exact honec _ (by rw [Array.mem_toList_iff]; exact Array.getElem_mem _)
          · have hil : i < (sortL l).length := by
              have := (List.getElem?_eq_some_iff.1 hi).1
              simpa using this
            simp only [irows, List.getElem?_map, List.getElem?_eq_getElem hil, Option.map_some, Option.some.injEq] at hi
            subst hi
            refine ⟨rfl, ?_⟩
            simp only [CCells, Nat.mul_one]
            refine ⟨⟨_, (hH2 i (by simpa using hil)).1, rfl, ?_⟩, trivial⟩
            simp only [CRep]
            simp only [List.getElem!_toArray]
            rw [getElem!_pos (sortL l) i hil]

theorem sort_keys {avs : List AV} {M : Nat → AO} {nid : Nat} {r : AV × List (Nat × AO)} (h : sortC avs M nid = some r) : ∀ b ∈ r.2.map (·.1), (nid ≤ b ∧ b < nid + 16) ∨ M b ≠ .dead := by
  unfold sortC at h
  split at h
  case h_3 => simp at h
  case h_2 => simp only [Option.some.injEq] at h; subst h; simp
  split at h
  case h_2 => simp at h
  rename_i hMb
  split at h
  case h_2 => simp at h
  split at h
  case isFalse => simp at h
  simp only [Option.some.injEq] at h
  subst h
  intro b hb
  simp at hb
  subst hb
  exact .inr (by rw [hMb]; simp)
end Go.AM
