/- Writeback: Collect of the runs; Runs of the program. -/
import Derived.Test.YtfmdbbpeeppiiaaWb13
import Derived.Test.YtfmdbbpeeppiiaaWb12
set_option linter.all false

namespace Go.AM
open Go Go.Proofs Go.RowKit Go.Shelf

def colK (x : List Mp × Int) : Prop := x.1.length ≤ 64 ∧ ∀ j, j < x.1.length → 0 ≤ (gm x.1 j).2 ∧ (gm x.1 j).2 < 16
noncomputable def F43 : List AV → Option AV := specF (ι := {x : List Mp × Int // colK x}) (fun x => [.fn 53 [.rp [.rd 2 (prows x.1.1)], .rp [I x.1.2]]]) fun x => retOf [.ow 3 (drows (runL x.1.2 x.1.1))]
theorem F43_at (L : List Mp) (m : Int) (h : colK (L, m)) : F43 [.fn 53 [.rp [.rd 2 (prows L)], .rp [I m]]] = some (.ow 3 (drows (runL m L))) :=
  specF_eq (ι := {x : List Mp × Int // colK x}) (A := fun x => [.fn 53 [.rp [.rd 2 (prows x.1.1)], .rp [I x.1.2]]]) (R := fun x => retOf [.ow 3 (drows (runL x.1.2 x.1.1))]) ⟨(L, m), h⟩ (by
    rintro ⟨⟨k, c⟩, h⟩ e
    simp [prows_inj, I] at e
    obtain ⟨rfl, rfl⟩ := e; rfl)
theorem flat_len (ys : List Tp) : (Wbi.flat ys).length = ys.length * 3 := by
  unfold Wbi.flat
  induction ys with
  | nil => rfl
  | cons y r ih => simp only [List.flatMap_cons, List.length_append, ih, List.length_cons, List.length_nil]; omega
theorem flat_get (ys : List Tp) : ∀ (i : Nat) (h : i < ys.length), (Wbi.flat ys)[i * 3]? = some (.int .i64 ys[i].1) ∧ (Wbi.flat ys)[i * 3 + 1]? = some (.int .i64 ys[i].2.1) ∧ (Wbi.flat ys)[i * 3 + 2]? = some (.int .i64 ys[i].2.2) := by
  induction ys with
  | nil => intro i h; simp at h
  | cons y r ih =>
    intro i h
    unfold Wbi.flat
    simp only [List.flatMap_cons]
    cases i with
    | zero => simp
    | succ i =>
      have := ih i (by simpa using h)
      unfold Wbi.flat at this
      simp only [List.getElem_cons_succ]
      refine ⟨?_, ?_, ?_⟩
      · rw [List.getElem?_append_right (by simp; omega)]; simpa [show (i + 1) * 3 - 3 = i * 3 by omega] using this.1
      · rw [List.getElem?_append_right (by simp; omega)]; simpa [show (i + 1) * 3 + 1 - 3 = i * 3 + 1 by omega] using this.2.1
      · rw [List.getElem?_append_right (by simp; omega)]; simpa [show (i + 1) * 3 + 2 - 3 = i * 3 + 2 by omega] using this.2.2

theorem s43 : PSound Try.prog 43 F43 := by
  intro w G args avs r hr hG ha
  unfold F43 specF at hr
  split at hr
  case isFalse => simp at hr
  rename_i hh
  obtain ⟨⟨⟨L, m⟩, hL, hv⟩, hl⟩ : ∃ l, l = hh.choose := ⟨_, rfl⟩
  have hc := hh.choose_spec
  rw [← hl] at hc
  simp only [Option.some.injEq] at hr
  rw [← hl] at hr
  simp only [retOf] at hr hc
  subst hr hc
  simp only at hL hv
  obtain ⟨x, rfl, hx⟩ : ∃ x, args = #[x] ∧ CRep w G (.fn 53 [.rp [.rd 2 (prows L)], .rp [I m]]) x := by
    cases hargs : args.toList with
    | nil => rw [hargs] at ha; simp [CRepL] at ha
    | cons x r =>
      rw [hargs] at ha
      simp only [CRepL] at ha
      cases r with
      | nil => exact ⟨x, by rw [← Array.toArray_toList (xs := args), hargs], ha.1⟩
      | cons y r => simp [CRepL] at ha
  simp only [CRep] at hx
  obtain ⟨vs, rfl, hx⟩ := hx
  match vs, hx with
  | [v1, v2], hx =>
  simp only [CRepL, and_true] at hx
  obtain ⟨hv1, hv2⟩ := hx
  simp only [CRep] at hv1 hv2
  obtain ⟨Bs, Bo, rfl, hGs, hc1⟩ := hv1
  obtain ⟨Bm, Mo, rfl, hGm, hc2⟩ := hv2
  simp only [CCells, and_true] at hc1 hc2
  obtain ⟨sv, hsv, _, hrd⟩ := hc1
  obtain ⟨mv, hmv, _, hmd⟩ := hc2
  simp only [CRep] at hrd hmd
  subst hmd
  obtain ⟨p, c, rfl, hcc, hpc, hrows⟩ := hrd
  rw [prows_length] at hsv hcc
  have key : CallsIn Fence.wide 3 Try.prog 43 #[.func (.func 53) #[] #[.pointer (some ⟨Bs, Bo, none⟩), .pointer (some ⟨Bm, Mo, none⟩)]] w fun e W' => ∃ v, e = .returned v ∧ W'.ownsRow w.heap.size 38 3 v (runL m L).length (Wbi.flat (runL m L)) ∧ OneB W' v ∧ (v = .slice none 0 0 ↔ runL m L = []) ∧ Below w.heap.size w W' := by
    rcases hrows with h0 | ⟨b', o', rfl, hGb', hr'⟩
    · have : L = [] := by simpa [prows] using h0
      subst this
      exact Wbi.collect_nil_in 3 (by omega) Bs Bo Bm Mo p c m w (hG Bs hGs) hsv
    · refine Wbi.collect_in 3 (by omega) Bs Bo Bm Mo b' o' c L m hL hv w (hG b' hGb') (hG Bs hGs) (hG Bm hGm) hsv hmv (fun j hj => ?_) (fun j hj => ?_)
      · have h3 := hr'.get (i := j) (e := [I (gm L j).1, I (gm L j).2]) (prows_gi hj)
        obtain ⟨y, h4, _, h5⟩ := h3.2.get (j := 0) (a := I (gm L j).1) rfl
        simp only [CRep] at h5
        subst h5
        simpa using h4
      · have h3 := hr'.get (i := j) (e := [I (gm L j).1, I (gm L j).2]) (prows_gi hj)
        obtain ⟨y, h4, _, h5⟩ := h3.2.get (j := 1) (a := I (gm L j).2) rfl
        simp only [CRep] at h5
        subst h5
        simpa using h4
  refine ((callsIn_wide (n := 3)).1 key).mono fun e w' ⟨v, he, hrow, hone, hnil, hB⟩ => ?_
  subst he
  have hfr : Frame w [] w' := ⟨hB.os, hB.output, hB.size, fun k hk _ => hB.block k hk⟩
  obtain ⟨ys, hys⟩ : ∃ ys, ys = runL m L := ⟨_, rfl⟩
  rw [← hys] at hrow hnil ⊢
  rcases hrow.2 with ⟨rfl, hz⟩ | ⟨g, cap, cur, rfl, hbase, hgb, r1, r2, r3, r4⟩
  · have hss : ys = [] := List.eq_nil_of_length_eq_zero hz
    subst hss
    refine ⟨_, G, [], rfl, hfr, fun k hk => hk, fun k hk => ⟨Nat.lt_of_lt_of_le (hG k hk) hB.size, .inl hk⟩, ?_, by simp, by simp⟩
    simp only [ORet, OVal, OLeaf]
    exact ⟨none, 0, by simp [drows], by simp [drows], fun _ => rfl, .inl ⟨by simp, by simp⟩⟩
  · have hgl : g < w'.heap.size := (Array.getElem?_eq_some_iff.1 hgb).1
    refine ⟨_, G, [g], rfl, hfr, fun k hk => hk, fun k hk => ⟨Nat.lt_of_lt_of_le (hG k hk) hB.size, .inl hk⟩, ?_, by simp, fun k hk => ?_⟩
    rotate_left
    · obtain rfl : k = g := by simpa using hk
      exact ⟨hgl, fun h => by have := hG _ h; omega, hbase⟩
    · simp only [ORet, OVal, OLeaf]
      refine ⟨_, cap, by rw [drows_length], by rw [drows_length]; exact r1, fun e => by simp at e, .inr ⟨g, 0, cur, 38, rfl, rfl, hgb, by omega, hone g cur _ _ rfl hgb, CRows.of_get fun i e hi => ?_⟩⟩
      have hil : i < ys.length := by
        have := (List.getElem?_eq_some_iff.1 hi).1
        simpa using this
      rw [drows_gi hil, Option.some.injEq] at hi
      subst hi
      have hfg := flat_get ys i hil
      rw [← gd_eq hil] at hfg
      have hcur : ∀ j (x : Value), j < 3 → (Wbi.flat ys)[i * 3 + j]? = some x → w'.cell? ⟨g, 0 + i * 3 + j, none⟩ = some x := fun j x hj hx => by
        rw [cell_of_row _ _ _ _ _ _ hgb, Nat.zero_add]
        rw [← r4, List.getElem?_take] at hx
        split at hx
        · simpa using hx
        · simp at hx
      refine ⟨rfl, ?_⟩
      simp only [CCells, and_true]
      refine ⟨⟨_, hcur 0 _ (by omega) hfg.1, rfl, ?_⟩, ⟨_, hcur 1 _ (by omega) hfg.2.1, rfl, ?_⟩, ⟨_, hcur 2 _ (by omega) hfg.2.2, rfl, ?_⟩⟩ <;> simp only [CRep] <;> rfl
end Go.AM
