/- Rmap: slices.SortFunc is the library's own, as the shelf has walked it. -/
import Derived.Test.YtallcianhjejiaaRm17b
import Derived.Test.YtallcianhjejiaaRm11
import Derived.Test.YtallcianhjejiaaAmZc
set_option linter.all false

namespace Go.AM
open Go Go.Proofs Go.Sort

def encM (x : Mp) : List Value := [.int .i64 x.1, .int .i64 x.2]
def cfM (x y : Mp) : Int := Go.Proofs.orI (Lib.compareInt x.1 y.1) (Lib.compareInt x.2 y.2)
theorem cfM_lt (x y : Mp) : Go.Proofs.ltOf cfM x y = decide (ltM x y) := by
  unfold Go.Proofs.ltOf cfM Go.Proofs.orI ltM Lib.compareInt
  by_cases h1 : x.1 < y.1
  · simp [h1]
  · by_cases h2 : y.1 < x.1
    · have h3 : ¬ x.1 = y.1 := by omega
      simp [h1, h2, h3]
    · have h3 : x.1 = y.1 := by omega
      by_cases h4 : x.2 < y.2
      · simp [h3, h4]
      · by_cases h5 : y.2 < x.2
        · simp [h3, h4, h5]
        · simp [h3, h4, h5]
theorem swoM : SWO (Go.Proofs.ltOf cfM) where
  irrefl x := by rw [cfM_lt]; simpa using ltM_irr x
  trans x y z h1 h2 := by
    rw [cfM_lt] at *
    simp only [decide_eq_true_eq] at *
    exact ltM_trans h1 h2
  ntrans x y z h1 h2 := by
    rw [cfM_lt] at *
    simp only [decide_eq_false_iff_not] at *
    exact leM_trans (x := z) (y := y) (z := x) h2 h1
theorem totM (x y : Mp) (h1 : Go.Proofs.ltOf cfM x y = false) (h2 : Go.Proofs.ltOf cfM y x = false) : x = y := by
  rw [cfM_lt, decide_eq_false_iff_not] at h1 h2
  exact leM_anti h2 h1
theorem sortM_eq (l : List Mp) : (l.mergeSort fun x y => !(Go.Proofs.ltOf cfM) y x) = sortM l := by
  unfold sortM
  congr 1
  funext x y
  rw [cfM_lt]

theorem sort_ok : CallOK Try.prog 35 sortP := by
  intro avs M nid av u hc w0 bl E w args hr hM hI _
  have htup : ∀ (E' : Env) (w' : World), Rep E' w' (.tup []) (.tuple #[]) := fun E' w' => by simp only [Rep]; exact ⟨[], rfl, by simp [RepL]⟩
  unfold sortP at hc
  split at hc
  case h_2 => simp at hc
  case h_1 b m s o n =>
    split at hc
    case h_2 => simp at hc
    rename_i m' s' f xs hMb
    split at hc
    case h_2 => simp at hc
    rename_i l hl
    split at hc
    case isFalse => simp at hc
    rename_i hcond
    obtain ⟨rfl, rfl, rfl, rfl, rfl, hlt⟩ := hcond
    simp only [Option.some.injEq, Prod.mk.injEq] at hc
    obtain ⟨rfl, rfl⟩ := hc
    obtain ⟨x, rfl, hx⟩ : ∃ x, args = #[x, .func (.func 27) #[] #[]] ∧ Rep E w (.sl b m 2 0 l.length) x := by
      cases hargs : args.toList with
      | nil => rw [hargs] at hr; simp [RepL] at hr
      | cons x r =>
        rw [hargs] at hr
        simp only [RepL] at hr
        cases r with
        | nil => simp [RepL] at hr
        | cons y r =>
          simp only [RepL] at hr
          cases r with
          | cons z r => simp [RepL] at hr
          | nil =>
            obtain ⟨h1, h2, _⟩ := hr
            simp only [Rep] at h2
            obtain ⟨vs, rfl, h3⟩ := h2
            cases vs with
            | cons v r => simp [RepL] at h3
            | nil => exact ⟨x, by rw [← Array.toArray_toList (xs := args), hargs], h1⟩
    simp only [Rep] at hx
    obtain ⟨hal, h1, h2, p, c, rfl, hnc, hpn, hsl⟩ := hx
    have hxs := unM_eq hl
    subst hxs
    have ho := hM b hal
    rw [hMb] at ho
    by_cases hl0 : l = []
    · subst hl0
      have := AnyF.slices_SortFunc_none laySort p c (.func (.func 27) #[] #[]) w
      refine Calls.mono (this : Calls Try.prog 35 _ _ _) fun e w' ⟨he, hw⟩ => ?_
      subst hw
      exact ⟨_, E, he, StepTo.retell hI hal (by simpa [sortM] using ho), htup _ _⟩
    · have hpos : 0 < l.length := by
        rcases Nat.eq_zero_or_pos l.length with e | e
        · exact absurd (List.eq_nil_of_length_eq_zero e) hl0
        · exact e
      simp only [ObjRep] at ho
      obtain ⟨hv, hm1, ho⟩ := ho
      cases hlc : E.loc b with
      | none =>
        simp only [hlc] at ho
        exact absurd (by simpa [prows] using ho) hl0
      | some L =>
        obtain ⟨blk, base, sz⟩ := L
        simp only [hlc] at ho
        obtain ⟨ca, t, hheap, hszc, honec, hfit, hff, hrows⟩ := ho
        have hs2 := hsl hv.symm
        simp only [hlc, SlAt] at hs2
        obtain ⟨a, rfl, ha, hcs⟩ := hs2
        have ha := ha.resolve_left (by omega)
        simp only [Nat.zero_mul, Nat.add_zero] at ha
        subst ha
        have hblk : blk < w.heap.size := (Array.getElem?_eq_some_iff.1 hheap).1
        have hcell : ∀ i, i < l.length → ∀ c', c' < 2 → w.cell? ⟨blk, base + i * 2 + c', none⟩ = some ((encM (l[i]!))[c']!) := fun i hi c' hc' => by
          have h3 := hrows.get (i := i) (e := [I (l[i]).1, I (l[i]).2]) (by simp [prows, hi])
          rw [getElem!_pos l i hi]
          have h01 : c' = 0 ∨ c' = 1 := by omega
          rcases h01 with rfl | rfl
          · obtain ⟨x, h4, _, h5⟩ := h3.2.get (j := 0) (a := I (l[i]).1) rfl
            simp only [CRep] at h5
            subst h5
            exact h4
          · obtain ⟨x, h4, _, h5⟩ := h3.2.get (j := 1) (a := I (l[i]).2) rfl
            simp only [CRep] at h5
            subst h5
            exact h4
        have hfz : ∀ j, w.frozen? ⟨blk, base + j, none⟩ = false := fun j => by
          unfold World.frozen?
          rw [hheap]
          simp
        have hH : HoldsK encM 2 w blk base l.toArray := fun j hj => ⟨by
          have hj2 : j < l.toArray.size * 2 := by simpa using hj
          have hjl : j < l.length * 2 := by simpa using hj
          rw [get_flatK _ _ _ _ hj2]
          have := hcell (j / 2) (by omega) (j % 2) (by omega)
          rw [show base + j / 2 * 2 + j % 2 = base + j by omega] at this
          rw [this]
          simp, hfz j⟩
        have eg : ∀ args w, (callFunc 27 args).run Try.prog w = .ok (.enter 27 args) w := enters_of Try.func27 (by kernel_rfl) rfl
        have := AnyQ.slices_SortFunc_total laySort 2 Try.isAgg24 Try.sizeOf24 encM (fun _ => rfl) (fun x v hv => by simp [encM] at hv; rcases hv with rfl | rfl <;> rfl) cfM swoM 27 #[] blk base c l.toArray w eg (Rmo.cmpLays blk base l.toArray.size w) hH hblk (by simpa using hlt) totM
        refine Calls.mono (this : Calls Try.prog 35 _ _ _) fun e w' ⟨he, n, os, hw⟩ => ?_
        simp only [sortM_eq] at hw
        have hsz1 : (sortM l).toArray.size = l.toArray.size := by simp
        have hH2 : HoldsK encM 2 w' blk base (sortM l).toArray := by
          rw [hw]
          exact holdsK_sortWorldK_c encM 2 w blk base l.toArray _ n os hH hblk hsz1
        have hsize : w.heap.size ≤ w'.heap.size := by
          rw [hw]; exact size_sortWorldK_c encM 2 w blk base n _ os
        have hother : ∀ k, k < w.heap.size → k ≠ blk → w'.heap[k]? = w.heap[k]? := fun k hk hne => by
          rw [hw]
          unfold sortWorldK putRowK
          rw [heap_grow_old _ _ (by simpa [ahead] using hk)]
          simp only [putRow, mapBlock, Array.getElem?_modify]
          rw [if_neg (fun e => hne e.symm)]
          rfl
        have hown : w'.heap[blk]? = some (.cells (putCells id base (flatK encM 2 (sortM l).toArray) ca) t (0, 0)) := by
          rw [hw]
          unfold sortWorldK putRowK
          rw [heap_grow_old _ _ (by simpa [ahead] using hblk)]
          simp only [putRow, mapBlock, Array.getElem?_modify, if_true]
          have e : ∀ n, (Sort.ahead w n).heap = w.heap := fun n => rfl
          rw [e, hheap]
          rfl
        refine ⟨_, E.upd b m (some (blk, base, sz)), he, ?_, htup _ _⟩
        refine StepTo.one hI b _ m _ (fun _ => .inl ⟨hv.symm, hlc.symm⟩) (fun blk' base' sz' e => ?_) hsize (by rw [hw]; rfl) (by rw [hw]; rfl) (fun k hk hn => hother k hk fun e => ?_) ?_
        · simp only [Option.some.injEq, Prod.mk.injEq] at e
          exact .inl ⟨base, sz, hal, by rw [hlc, e.1]⟩
        · subst e; exact hn base sz hal hlc
        · simp only [ObjRep, Env.upd, if_true]
          refine ⟨trivial, hm1, _, t, hown, by simpa [putCells] using hszc, fun y hy => ?_, by simpa using hfit, fun hf => by simpa using hff hf, CRows.of_get fun i e hi => ?_⟩
          · rw [Array.mem_toList_iff] at hy
            obtain ⟨k, hk, rfl⟩ := Array.mem_iff_getElem.1 hy
            simp only [putCells, Array.getElem_mapIdx]
            split
            · rename_i hcond
              have hk2 : k - base < (sortM l).toArray.size * 2 := by
                have := hcond.2
                rw [size_flatK] at this
                omega
              rw [get_flatK _ _ _ _ hk2]
              have h01 : (k - base) % 2 = 0 ∨ (k - base) % 2 = 1 := by omega
              rcases h01 with h01 | h01 <;> rw [h01] <;> rfl
            · exact honec _ (by rw [Array.mem_toList_iff]; exact Array.getElem_mem _)
          · have hil : i < (sortM l).length := by
              have := (List.getElem?_eq_some_iff.1 hi).1
              simpa using this
            simp only [prows, List.getElem?_map, List.getElem?_eq_getElem hil, Option.map_some, Option.some.injEq] at hi
            subst hi
            refine ⟨rfl, ?_⟩
            have hA := (hH2.cell (i := i) (c := 0) (by simpa using hil) (by omega)).1
            have hB := (hH2.cell (i := i) (c := 1) (by simpa using hil) (by omega)).1
            simp only [List.getElem!_toArray] at hA hB
            rw [getElem!_pos (sortM l) i hil] at hA hB
            simp only [CCells]
            refine ⟨⟨_, hA, rfl, ?_⟩, ⟨_, hB, rfl, ?_⟩, trivial⟩
            · simp only [CRep]; rfl
            · simp only [CRep]; rfl

theorem sort_keys {avs : List AV} {M : Nat → AO} {nid : Nat} {r : AV × List (Nat × AO)} (h : sortP avs M nid = some r) : ∀ b ∈ r.2.map (·.1), (nid ≤ b ∧ b < nid + 16) ∨ M b ≠ .dead := by
  unfold sortP at h
  split at h
  case h_2 => simp at h
  split at h
  case h_2 => simp at h
  rename_i hMb
  split at h
  case h_2 => simp at h
  split at h
  case isFalse => simp at h
  simp only [Option.some.injEq] at h
  subst h
  intro b hb
  simp at hb
  subst hb
  exact .inr (by rw [hMb]; simp)
end Go.AM
