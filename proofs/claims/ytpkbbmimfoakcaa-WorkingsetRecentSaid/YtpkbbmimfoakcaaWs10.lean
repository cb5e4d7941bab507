/- Workingset: Estimate. -/
import Derived.Test.YtpkbbmimfoakcaaWsJ
set_option linter.all false

namespace Go.AM
open Go Go.Proofs Go.Sort

attribute [local go_sem] Oper.semAt_some

set_option maxHeartbeats 1000000 in
theorem values_in (F : Fence) (n : Nat) (h40 : F.fn 40) (hro : F.round = none) (a : Option Addr) (len cap : Nat) (w : World) :
    CallsIn F n Try.prog 40 #[.slice a len cap] w fun e w' => e = .returned (.func (.func 43) #[] #[.pointer (some ⟨w.heap.size, 0, none⟩)]) ∧ w' = w.alloc (.cells #[.slice a len cap] 27) := by
  refine callsIn_of_wp Try.func40 rfl h40 ?_ hro
  simp only [Try.ntmps40, List.size_toArray, List.length_cons, List.length_nil, Nat.reduceAdd, Nat.reduceSub, Array.replicate_succ, Array.replicate_zero, List.push_toArray, List.append_toArray, List.nil_append, List.cons_append]
  gi_wp2
  go_ret
  exact ⟨rfl, rfl⟩

noncomputable def F40 : List AV → Option AV := specF (ι := List Int) (fun l => [.rd 1 (irows l)]) fun l => .fn 43 [.rp [.rd 1 (irows l)]]
theorem F40_at (l : List Int) : F40 [.rd 1 (irows l)] = some (.fn 43 [.rp [.rd 1 (irows l)]]) :=
  specF_eq (A := fun l : List Int => [.rd 1 (irows l)]) (R := fun l => .fn 43 [.rp [.rd 1 (irows l)]]) l (by
    intro j e
    simp [irows_inj] at e
    subst e; rfl)
theorem s40 : PSound Try.prog 40 F40 := by
  intro w G args avs r hr hG ha
  unfold F40 specF at hr
  split at hr
  case isFalse => simp at hr
  rename_i hh
  obtain ⟨l, hl⟩ : ∃ l, l = hh.choose := ⟨_, rfl⟩
  have hc := hh.choose_spec
  rw [← hl] at hc
  simp only [Option.some.injEq] at hr
  rw [← hl] at hr
  subst hr hc
  obtain ⟨x, rfl, hx⟩ : ∃ x, args = #[x] ∧ CRep w G (.rd 1 (irows l)) x := by
    cases hargs : args.toList with
    | nil => rw [hargs] at ha; simp [CRepL] at ha
    | cons x r =>
      rw [hargs] at ha
      simp only [CRepL] at ha
      cases r with
      | nil => exact ⟨x, by rw [← Array.toArray_toList (xs := args), hargs], ha.1⟩
      | cons y r => simp [CRepL] at ha
  have hx' := hx
  simp only [CRep] at hx'
  obtain ⟨p, c, rfl, _⟩ := hx'
  refine ((callsIn_wide (n := 1)).1 (values_in Fence.wide 1 trivial rfl p _ c w)).mono fun e w' ⟨he, hw⟩ => ?_
  subst hw
  have hold : ∀ k, k < w.heap.size → (w.alloc (.cells #[.slice p (irows l).length c] 27)).heap[k]? = w.heap[k]? := fun k hk => heap_alloc_old w _ k hk
  refine ⟨_, fun k => G k ∨ k = w.heap.size, [], he, ⟨rfl, rfl, by simp, fun k hk _ => hold k hk⟩, fun k hk => .inl hk, fun k hk => ?_, ?_, by simp, by simp⟩
  · rcases hk with hk | rfl
    · exact ⟨by have := hG k hk; simp; omega, .inl hk⟩
    · exact ⟨by simp, .inr (Nat.le_refl _)⟩
  · simp only [ORet, OVal, OLeaf]
    refine ⟨trivial, ?_⟩
    simp only [CRep]
    refine ⟨[_], rfl, ?_⟩
    simp only [CRepL, CRep, and_true]
    refine ⟨w.heap.size, 0, rfl, .inr rfl, ?_⟩
    simp only [CCells, and_true]
    refine ⟨.slice p (irows l).length c, ?_, rfl, hx.mono (fun k hk => .inl hk) fun k hk => hold k (hG k hk)⟩
    rw [cell_of_row _ _ _ _ _ _ (heap_alloc_new w _)]
    rfl

noncomputable def F39 : List AV → Option AV := specF (ι := {l : List Int // l.length ≤ 1000000}) (fun l => [.fn 43 [.rp [.rd 1 (irows l.1)]]]) fun l => .rd 1 (irows (sortL l.1))
theorem F39_at (l : List Int) (h : l.length ≤ 1000000) : F39 [.fn 43 [.rp [.rd 1 (irows l)]]] = some (.rd 1 (irows (sortL l))) :=
  specF_eq (A := fun l : {l : List Int // l.length ≤ 1000000} => [.fn 43 [.rp [.rd 1 (irows l.1)]]]) (R := fun l => .rd 1 (irows (sortL l.1))) ⟨l, h⟩ (by
    rintro ⟨j, hj⟩ e
    simp [irows_inj] at e
    subst e; rfl)
theorem s39 : PSound Try.prog 39 F39 := by
  intro w G args avs r hr hG ha
  unfold F39 specF at hr
  split at hr
  case isFalse => simp at hr
  rename_i hh
  obtain ⟨⟨l, hlen⟩, hl⟩ : ∃ l, l = hh.choose := ⟨_, rfl⟩
  have hc := hh.choose_spec
  rw [← hl] at hc
  simp only [Option.some.injEq] at hr
  rw [← hl] at hr
  simp only at hr hc
  subst hr hc
  obtain ⟨x, rfl, hx⟩ : ∃ x, args = #[x] ∧ CRep w G (.fn 43 [.rp [.rd 1 (irows l)]]) x := by
    cases hargs : args.toList with
    | nil => rw [hargs] at ha; simp [CRepL] at ha
    | cons x r =>
      rw [hargs] at ha
      simp only [CRepL] at ha
      cases r with
      | nil => exact ⟨x, by rw [← Array.toArray_toList (xs := args), hargs], ha.1⟩
      | cons y r => simp [CRepL] at ha
  simp only [CRep] at hx
  obtain ⟨vs, rfl, hx⟩ := hx
  cases vs with
  | nil => simp [CRepL] at hx
  | cons v vs =>
  simp only [CRepL] at hx
  obtain ⟨hv, hvs⟩ := hx
  cases vs with
  | cons _ _ => simp [CRepL] at hvs
  | nil =>
  simp only [CRep] at hv
  obtain ⟨blk, off, rfl, hGb, hcl⟩ := hv
  simp only [CCells, and_true] at hcl
  obtain ⟨sv, hsv, _, hrd⟩ := hcl
  simp only [CRep] at hrd
  obtain ⟨p, c, rfl, hcc, hpc, hrows⟩ := hrd
  have hI : Wsi.Ints w.heap.size w (.slice p (irows l).length c) l := by
    rcases hrows with h0 | ⟨b', o', rfl, hGb', hr'⟩
    · have : l = [] := by simpa [irows] using h0
      subst this
      exact .inl ⟨rfl, p, c, rfl⟩
    · refine .inr ⟨b', o', c, by rw [irows_length], hG b' hGb', fun j hj => ?_⟩
      have h3 := hr'.get (i := j) (e := [I l[j]]) (by simp [irows, hj])
      obtain ⟨y, h4, _, h5⟩ := h3.2.get (j := 0) (a := I l[j]) rfl
      simp only [CRep] at h5
      subst h5
      simp only [Nat.mul_one, Nat.add_zero] at h4
      rw [h4]; simp [hj]
  have key := Wsi.sorted_in Fence.wide 4 trivial trivial trivial trivial trivial rfl (by omega)
    (fun blk off cap ss W hH hblk hsz => callsIn_wide.2 (Any.slices_Sort_int lay189 blk off cap ss W hH hblk hsz))
    (fun p cap W => callsIn_wide.2 (Any.slices_Sort_int_none lay189 p cap W)) blk off _ l hlen w (hG blk hGb) hsv hI
  refine ((callsIn_wide (n := 4)).1 key).mono fun e w' ⟨v, he, hrow, hB⟩ => ?_
  subst he
  have hfr : Frame w [] w' := ⟨hB.os, hB.output, hB.size, fun k hk _ => hB.block k hk⟩
  rcases hrow.2 with ⟨rfl, hz⟩ | ⟨g, cap, cur, rfl, hbase, hgb, r1, r2, r3, r4⟩
  · have hss : l = [] := List.eq_nil_of_length_eq_zero hz
    subst hss
    refine ⟨_, G, [], rfl, hfr, fun k hk => hk, fun k hk => ⟨Nat.lt_of_lt_of_le (hG k hk) hB.size, .inl hk⟩, ?_, by simp, by simp⟩
    simp only [ORet, OVal, OLeaf, CRep]
    exact ⟨trivial, none, 0, by simp [sortL, irows], by simp [sortL, irows], fun _ => rfl, .inl (by simp [sortL, irows])⟩
  · have hgl : g < w'.heap.size := (Array.getElem?_eq_some_iff.1 hgb).1
    refine ⟨_, fun k => G k ∨ k = g, [], rfl, hfr, fun k hk => .inl hk, fun k hk => ?_, ?_, by simp, by simp⟩
    · rcases hk with hk | rfl
      · exact ⟨Nat.lt_of_lt_of_le (hG k hk) hB.size, .inl hk⟩
      · exact ⟨hgl, .inr hbase⟩
    · simp only [ORet, OVal, OLeaf, CRep]
      refine ⟨trivial, _, cap, by rw [irows_length, sortL_len], by rw [irows_length, sortL_len]; exact r1, fun e => by simp at e, .inr ⟨g, 0, rfl, .inr rfl, CRows.of_get fun i e hi => ?_⟩⟩
      have hil : i < (sortL l).length := by
        have := (List.getElem?_eq_some_iff.1 hi).1
        simpa using this
      simp only [irows, List.getElem?_map, List.getElem?_eq_getElem hil, Option.map_some, Option.some.injEq] at hi
      subst hi
      refine ⟨rfl, ?_⟩
      simp only [CCells, Nat.mul_one, and_true]
      refine ⟨.int .i64 (sortL l)[i], ?_, rfl, by simp only [CRep]⟩
      rw [cell_of_row _ _ _ _ _ _ hgb]
      have h5 : (cur.toList.take (l.length * 1))[i]? = some (Value.int .i64 (sortL l)[i]) := by
        rw [r4]
        show ((sortL l).map (Value.int .i64))[i]? = _
        rw [List.getElem?_map, List.getElem?_eq_getElem hil]; rfl
      rw [List.getElem?_take] at h5
      split at h5
      · rw [Nat.zero_add]; simpa using h5
      · simp at h5
end Go.AM
