/- slices.IndexFunc and slices.DeleteFunc. -/
import Derived.Test.YtdhhdnbdceoenaaZl9
set_option linter.all false

namespace Go.AM
open Go Go.Proofs

/-- A closure that tells. -/
structure PredOK (Y : AX) (l : List Int) (g : FuncId) (caps : List AV) (p : Int → Bool) : Prop where
  und : ∀ n, AV.underL n caps
  peek : ∀ M, peekCaps M caps = some caps
  call : ∀ a M n, a ∈ l → Y.call g (I a :: caps) M n = some (B (p a), [])
theorem PredOK.same {Y : AX} {l : List Int} {g : FuncId} {caps : List AV} {p q : Int → Bool} (h1 : PredOK Y l g caps p) (h2 : PredOK Y l g caps q) : ∀ a ∈ l, p a = q a := fun a ha => by
  have e1 := h1.call a (fun _ => .dead) 0 ha
  rw [h2.call a (fun _ => .dead) 0 ha] at e1
  simpa using e1.symm
structure PA (Y : AX) where
  l : List Int
  g : FuncId
  caps : List AV
  p : Int → Bool
  hl : l.length ≤ 1000
  ok : PredOK Y l g caps p
theorem PA.inj {Y : AX} {x y : PA Y} (h : x.l = y.l) (hg : x.g = y.g) (hc : x.caps = y.caps) : ∀ a ∈ y.l, x.p a = y.p a := by
  have h1 := x.ok
  rw [h, hg, hc] at h1
  exact h1.same y.ok

def fIdx (p : Int → Bool) (l : List Int) : Int := if ∃ a ∈ l, p a = true then (l.findIdx p : Int) else -1
theorem fIdx_at {p : Int → Bool} {l : List Int} {i : Nat} (h : i < l.length) (e : p (gi l i) = true) (hb : ∀ j, j < i → p (gi l j) = false) : fIdx p l = i := by
  unfold fIdx
  rw [if_pos ⟨_, gi_mem h, e⟩]
  have : l.findIdx p = i := (List.findIdx_eq h).2 ⟨by rw [← gi_eq h]; exact e, fun j hj => by rw [← gi_eq (by omega)]; exact hb j hj⟩
  rw [this]
theorem fIdx_not {p : Int → Bool} {l : List Int} (hb : ∀ j, j < l.length → p (gi l j) = false) : fIdx p l = -1 := by
  unfold fIdx
  rw [if_neg]
  rintro ⟨a, ha, h⟩
  obtain ⟨j, hj, rfl⟩ := List.mem_iff_getElem.1 ha
  rw [← gi_eq hj, hb j hj] at h
  simp at h
theorem fIdx_congr {p q : Int → Bool} {l : List Int} (h : ∀ a ∈ l, p a = q a) : fIdx p l = fIdx q l := by
  by_cases hx : ∃ i, i < l.length ∧ p (gi l i) = true
  · have hd : ∃ i, (i < l.length ∧ p (gi l i) = true) ∧ ∀ j, j < i → ¬ (j < l.length ∧ p (gi l j) = true) := by
      obtain ⟨i, hi⟩ := hx
      induction i using Nat.strongRecOn with
      | ind i ih =>
        by_cases hj : ∃ j, j < i ∧ (j < l.length ∧ p (gi l j) = true)
        · obtain ⟨j, h1, h2⟩ := hj
          exact ih j h1 h2
        · exact ⟨i, hi, fun j h1 h2 => hj ⟨j, h1, h2⟩⟩
    obtain ⟨i, ⟨h1, h2⟩, h3⟩ := hd
    have hb : ∀ j, j < i → p (gi l j) = false := fun j hj => by
      have := h3 j hj
      cases hp : p (gi l j)
      · rfl
      · exact absurd ⟨by omega, hp⟩ this
    rw [fIdx_at h1 h2 hb, fIdx_at h1 (by rw [← h _ (gi_mem h1)]; exact h2) fun j hj => by rw [← h _ (gi_mem (by omega))]; exact hb j hj]
  · have hb : ∀ j, j < l.length → p (gi l j) = false := fun j hj => by
      cases hp : p (gi l j)
      · rfl
      · exact absurd ⟨j, hj, hp⟩ hx
    rw [fIdx_not hb, fIdx_not fun j hj => by rw [← h _ (gi_mem hj)]; exact hb j hj]

noncomputable def F45 (Y : AX) := specF (ι := PA Y) (fun x => [.rd 1 (irows x.l), .fn x.g x.caps]) fun x => retOf [I (fIdx x.p x.l)]
theorem F45_at {Y : AX} (x : PA Y) : F45 Y [.rd 1 (irows x.l), .fn x.g x.caps] = some (I (fIdx x.p x.l)) :=
  specF_eq (A := fun x : PA Y => [.rd 1 (irows x.l), .fn x.g x.caps]) (R := fun x => retOf [I (fIdx x.p x.l)]) x fun j hj => by
    simp [irows_inj] at hj
    rw [← fIdx_congr (PA.inj hj.1 hj.2.1 hj.2.2), hj.1]

theorem s45 (X : AX) (hX : XOK Try.prog X) (hw : X.W wT) : PSound Try.prog 45 (F45 X) := by
  unfold F45
  refine psound_spec hX mixed Try.func45 rfl fun x w0 G => ⟨by show 2 ≤ 19; decide, rfl, ?_⟩
  show AW ⟨Try.prog, X, 19, w0, .pure G⟩ _ _ _
  have hc : Cx.OK ⟨Try.prog, X, 19, w0, .pure G⟩ := ⟨hX, mixed⟩
  have hl := x.hl
  have hcu := x.ok.und
  repeat' (first | (apply aw_seq_k; intro K hK) | (refine aw_run hc (by first | exact aw_nod | (intro _; rw [ordB_w hw]; kernel_rfl) | (intro _; rw [ordB_w0 hw0]; kernel_rfl) | (intro _; kernel_rfl)) ?_; simp [List.zipIdx, -getM, getM_hit, getM_miss, getM_none]; (repeat (simp (disch := first | omega | assumption | fail) only [if_pos, if_neg, wrap64]; try simp [List.zipIdx, -getM, getM_hit, getM_miss, getM_none])); try (repeat' (refine guardQ_split (fun h => ?_) (fun h => ?_) <;> simp at h <;> (simp [List.zipIdx, -getM, getM_hit, getM_miss, getM_none]; (repeat (simp (disch := first | omega | assumption | fail) only [if_pos, if_neg, wrap64]; try simp [List.zipIdx, -getM, getM_hit, getM_miss, getM_none])))))) | (refine aw_cond (b := _) (by exact rfl) (fun h => ?_) (fun h => ?_) <;> (try simp at h)) | (refine aw_block ?_) | (refine aw_skip ?_; simp only [thenQ, blockQ, if_true]) | (refine aw_exit ?_; simp [thenQ, blockQ]) | (refine aw_ret ?_; simp only [thenQ, blockQ]) | (refine aw_round ?_) | (refine hK _ ?_; clear hK) | (clear hK; refine hK _ ?_; clear hK) | (clear hK; clear hK; refine hK _ ?_; clear hK) | (clear hK; clear hK; clear hK; refine hK _ ?_; clear hK))
  refine aw_loopK (s0 := ?lps1) (m0 := ?lpm1) (ι := {i : Nat // i ≤ x.l.length ∧ ∀ j, j < i → x.p (gi x.l j) = false}) [0, 1, 7] (fun i => [(8, I i.1)]) (fun _ => []) (fun i => x.l.length - i.1) ⟨0, by omega, by omega⟩ ?lhs1 ?lhm1 ?_ ?_
  case lhs1 => first | (simp [keepS]; done) | (simp [keepS]; rfl)
  case lhm1 => first | rfl | (simp; done) | (simp; rfl)
  · exact le_of2 (by simp) (by simp [AVle, AV.under, AV.underL, hcu] <;> omega) (by simp [AOle, AO.under, AV.underL, AV.under] <;> omega)
  · rintro ⟨i, hi, hinv⟩
    simp only
    rcases Decidable.em (i < x.l.length) with hil | hil
    · have hilI : (i : Int) < (x.l.length : Int) := by omega
      have hg := irows_gi hil
      have hcall := fun M n => x.ok.call (gi x.l i) M n (gi_mem hil)
      cases hp : x.p (gi x.l i)
      · rw [hp] at hcall
        repeat' (first | (apply aw_seq_k; intro K hK) | (refine aw_run hc (by first | exact aw_nod | (intro _; rw [ordB_w hw]; kernel_rfl) | (intro _; rw [ordB_w0 hw0]; kernel_rfl) | (intro _; kernel_rfl)) ?_; simp [List.zipIdx, hilI, hg, hcall, -getM, getM_hit, getM_miss, getM_none]; (repeat (simp (disch := first | omega | assumption | fail) only [if_pos, if_neg, wrap64]; try simp [List.zipIdx, hilI, hg, hcall, -getM, getM_hit, getM_miss, getM_none])); try (repeat' (refine guardQ_split (fun h => ?_) (fun h => ?_) <;> simp at h <;> (simp [List.zipIdx, hilI, hg, hcall, -getM, getM_hit, getM_miss, getM_none]; (repeat (simp (disch := first | omega | assumption | fail) only [if_pos, if_neg, wrap64]; try simp [List.zipIdx, hilI, hg, hcall, -getM, getM_hit, getM_miss, getM_none])))))) | (refine aw_cond (b := _) (by exact rfl) (fun h => ?_) (fun h => ?_) <;> (try simp at h)) | (refine aw_block ?_) | (refine aw_skip ?_; simp only [thenQ, blockQ, if_true]) | (refine aw_exit ?_; simp [thenQ, blockQ]) | (refine aw_ret ?_; simp only [thenQ, blockQ]) | (refine aw_round ?_) | (refine hK _ ?_; clear hK) | (clear hK; refine hK _ ?_; clear hK) | (clear hK; clear hK; refine hK _ ?_; clear hK) | (clear hK; clear hK; clear hK; refine hK _ ?_; clear hK))
        refine ⟨i + 1, ?_, ⟨by omega, fun j hj => ?_⟩, by omega⟩
        · exact le_of2 (by simp) (by simp [AVle, AV.under, AV.underL, hcu] <;> omega) (by simp [AOle, AO.under, AV.underL, AV.under] <;> omega)
        · rcases Nat.lt_succ_iff_lt_or_eq.1 hj with h | rfl
          · exact hinv j h
          · exact hp
      · rw [hp] at hcall
        repeat' (first | (apply aw_seq_k; intro K hK) | (refine aw_run hc (by first | exact aw_nod | (intro _; rw [ordB_w hw]; kernel_rfl) | (intro _; rw [ordB_w0 hw0]; kernel_rfl) | (intro _; kernel_rfl)) ?_; simp [List.zipIdx, hilI, hg, hcall, -getM, getM_hit, getM_miss, getM_none]; (repeat (simp (disch := first | omega | assumption | fail) only [if_pos, if_neg, wrap64]; try simp [List.zipIdx, hilI, hg, hcall, -getM, getM_hit, getM_miss, getM_none])); try (repeat' (refine guardQ_split (fun h => ?_) (fun h => ?_) <;> simp at h <;> (simp [List.zipIdx, hilI, hg, hcall, -getM, getM_hit, getM_miss, getM_none]; (repeat (simp (disch := first | omega | assumption | fail) only [if_pos, if_neg, wrap64]; try simp [List.zipIdx, hilI, hg, hcall, -getM, getM_hit, getM_miss, getM_none])))))) | (refine aw_cond (b := _) (by exact rfl) (fun h => ?_) (fun h => ?_) <;> (try simp at h)) | (refine aw_block ?_) | (refine aw_skip ?_; simp only [thenQ, blockQ, if_true]) | (refine aw_exit ?_; simp [thenQ, blockQ]) | (refine aw_ret ?_; simp only [thenQ, blockQ]) | (refine aw_round ?_) | (refine hK _ ?_; clear hK) | (clear hK; refine hK _ ?_; clear hK) | (clear hK; clear hK; refine hK _ ?_; clear hK) | (clear hK; clear hK; clear hK; refine hK _ ?_; clear hK))
        rw [fIdx_at hil hp hinv]
        refine ⟨by simp, ?_⟩
        simp [leaves_iff, Try.f45]
        try (first | omega | (refine decide_eq_decide.2 ?_; omega) | (refine decide_eq_false ?_; omega) | (refine decide_eq_true ?_; omega))
    · have hie : i = x.l.length := by omega
      subst hie
      repeat' (first | (apply aw_seq_k; intro K hK) | (refine aw_run hc (by first | exact aw_nod | (intro _; rw [ordB_w hw]; kernel_rfl) | (intro _; rw [ordB_w0 hw0]; kernel_rfl) | (intro _; kernel_rfl)) ?_; simp [List.zipIdx, -getM, getM_hit, getM_miss, getM_none]; (repeat (simp (disch := first | omega | assumption | fail) only [if_pos, if_neg, wrap64]; try simp [List.zipIdx, -getM, getM_hit, getM_miss, getM_none])); try (repeat' (refine guardQ_split (fun h => ?_) (fun h => ?_) <;> simp at h <;> (simp [List.zipIdx, -getM, getM_hit, getM_miss, getM_none]; (repeat (simp (disch := first | omega | assumption | fail) only [if_pos, if_neg, wrap64]; try simp [List.zipIdx, -getM, getM_hit, getM_miss, getM_none])))))) | (refine aw_cond (b := _) (by exact rfl) (fun h => ?_) (fun h => ?_) <;> (try simp at h)) | (refine aw_block ?_) | (refine aw_skip ?_; simp only [thenQ, blockQ, if_true]) | (refine aw_exit ?_; simp [thenQ, blockQ]) | (refine aw_ret ?_; simp only [thenQ, blockQ]) | (refine aw_round ?_) | (refine hK _ ?_; clear hK) | (clear hK; refine hK _ ?_; clear hK) | (clear hK; clear hK; refine hK _ ?_; clear hK) | (clear hK; clear hK; clear hK; refine hK _ ?_; clear hK))
      rw [fIdx_not hinv]
      refine ⟨by simp, ?_⟩
      simp [leaves_iff, Try.f45]
      try (first | omega | (refine decide_eq_decide.2 ?_; omega) | (refine decide_eq_false ?_; omega) | (refine decide_eq_true ?_; omega))

/-- The list that is left. -/
def keepL (p : Int → Bool) (l : List Int) : List Int := l.filter fun a => !p a
theorem keepL_all {p : Int → Bool} {l : List Int} (h : ∀ j, j < l.length → p (gi l j) = false) : keepL p l = l := by
  unfold keepL
  rw [List.filter_eq_self]
  intro a ha
  obtain ⟨j, hj, rfl⟩ := List.mem_iff_getElem.1 ha
  rw [← gi_eq hj, h j hj]; rfl
theorem keepL_yes {p : Int → Bool} {l : List Int} {j : Nat} (h : j < l.length) (hp : p (gi l j) = false) : keepL p (l.take (j + 1)) = keepL p (l.take j) ++ [gi l j] := by
  unfold keepL
  rw [List.take_succ_eq_append_getElem h, List.filter_append, ← gi_eq h]
  simp [hp]
theorem keepL_no {p : Int → Bool} {l : List Int} {j : Nat} (h : j < l.length) (hp : p (gi l j) = true) : keepL p (l.take (j + 1)) = keepL p (l.take j) := by
  unfold keepL
  rw [List.take_succ_eq_append_getElem h, List.filter_append, ← gi_eq h]
  simp [hp]
theorem keepL_len (p : Int → Bool) (l : List Int) : (keepL p l).length ≤ l.length := List.length_filter_le _ _
/-- What the list is before the j-th round: c. -/
structure DSt (p : Int → Bool) (l : List Int) where
  j : Nat
  c : List Int
  hj : j ≤ l.length
  hc : c.length = l.length
  ht : c.take (keepL p (l.take j)).length = keepL p (l.take j)
  hd : c.drop j = l.drop j
theorem DSt.lt {p : Int → Bool} {l : List Int} (s : DSt p l) : (keepL p (l.take s.j)).length ≤ s.j := by
  have := keepL_len p (l.take s.j)
  have h2 := s.hj
  simp at this; omega
theorem DSt.get {p : Int → Bool} {l : List Int} (s : DSt p l) (h : s.j < l.length) : gi s.c s.j = gi l s.j := by
  have h1 : s.c[s.j]? = l[s.j]? := by
    have := congrArg (fun k : List Int => k[0]?) s.hd
    simpa using this
  unfold gi
  rw [List.getD_eq_getElem?_getD, List.getD_eq_getElem?_getD, h1]
def DSt.skip {p : Int → Bool} {l : List Int} (s : DSt p l) (h : s.j < l.length) (hp : p (gi l s.j) = true) : DSt p l :=
  ⟨s.j + 1, s.c, h, s.hc, by rw [keepL_no h hp]; exact s.ht, by rw [← List.tail_drop, s.hd, List.tail_drop]⟩
def DSt.keep {p : Int → Bool} {l : List Int} (s : DSt p l) (h : s.j < l.length) (hp : p (gi l s.j) = false) : DSt p l :=
  ⟨s.j + 1, s.c.set (keepL p (l.take s.j)).length (gi l s.j), h, by rw [List.length_set]; exact s.hc, by
    have hlt := s.lt
    have hcl := s.hc
    rw [keepL_yes h hp, List.length_append, List.length_singleton, List.take_succ_eq_append_getElem (by rw [List.length_set]; omega), List.take_set_of_le (Nat.le_refl _), s.ht]
    simp, by
    have hlt := s.lt
    rw [List.drop_set_of_lt (by omega), ← List.tail_drop, s.hd, List.tail_drop]⟩
end Go.AM
