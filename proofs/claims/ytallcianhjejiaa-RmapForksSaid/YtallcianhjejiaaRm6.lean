/- Rmap: searches with a function handed in; Check, Contains, Has. -/
import Derived.Test.YtallcianhjejiaaRm5
set_option linter.all false

namespace Go.AM
open Go Go.Proofs

theorem cmpI_neg {a b : Int} : cmpI a b < 0 ↔ a < b := by
  unfold cmpI
  split
  · simp [*]
  · split <;> simp [*]
theorem cmpI_zero {a b : Int} : cmpI a b = 0 ↔ a = b := by
  unfold cmpI
  split
  · constructor
    · intro h; simp at h
    · intro h; omega
  · split
    · constructor
      · intro h; simp at h
      · intro h; omega
    · constructor
      · intro _; omega
      · intro _; rfl
theorem cmpM_neg {a b : Mp} : cmpM a b < 0 ↔ ltM a b := by
  unfold cmpM ltM
  split
  · rename_i h
    rw [cmpI_zero] at h
    rw [cmpI_neg]
    omega
  · rename_i h
    rw [cmpI_zero] at h
    rw [cmpI_neg]
    omega
theorem cmpM_zero {a b : Mp} : cmpM a b = 0 ↔ a = b := by
  obtain ⟨a1, a2⟩ := a
  obtain ⟨b1, b2⟩ := b
  unfold cmpM
  simp only
  split
  · rename_i h
    rw [cmpI_zero] at h ⊢
    simp [h]
  · rename_i h
    rw [cmpI_zero] at h
    rw [cmpI_zero]
    simp [h]
theorem ltM_irr (a : Mp) : ¬ ltM a a := by unfold ltM; omega
theorem ltM_trans {a b c : Mp} (h : ltM a b) (k : ltM b c) : ltM a c := by unfold ltM at *; omega
theorem ltM_tri (a b : Mp) : ltM a b ∨ a = b ∨ ltM b a := by
  obtain ⟨a1, a2⟩ := a
  obtain ⟨b1, b2⟩ := b
  unfold ltM
  simp only [Prod.mk.injEq]
  omega
theorem chkO_lt {l : List Mp} (h : chkO l) {i : Nat} : ∀ {j : Nat}, i < j → j < l.length → ltM (gm l i) (gm l j)
  | 0, hij, _ => by omega
  | j + 1, hij, hj => by
    rcases Nat.lt_succ_iff_lt_or_eq.1 hij with hh | rfl
    · exact ltM_trans (chkO_lt h hh (by omega)) (h j hj)
    · exact h i hj

/-! The function handed in: not valid, or in a space. -/
def fnA : Option Int → AV
  | none => .fn 25 []
  | some s => .fn 33 [.rp [I s]]
def fnP : Option Int → Mp → Bool
  | none, m => !decide (valM m)
  | some s, m => decide (m.1 = s)
def fstI (p : Mp → Bool) (l : List Mp) : Int := if l.findIdx p < l.length then (l.findIdx p : Int) else -1
theorem fstI_at {p : Mp → Bool} {l : List Mp} {i : Nat} (hi : i < l.length) (hp : p (gm l i) = true) (hn : ∀ j, j < i → p (gm l j) = false) : fstI p l = i := by
  have : l.findIdx p = i := by
    rw [List.findIdx_eq hi]
    refine ⟨by rw [← gm_eq hi]; exact hp, fun j hj => ?_⟩
    have := hn j hj
    rw [gm_eq (by omega)] at this
    exact this
  unfold fstI
  rw [this, if_pos hi]
theorem fstI_not {p : Mp → Bool} {l : List Mp} (hn : ∀ j, j < l.length → p (gm l j) = false) : fstI p l = -1 := by
  have : l.findIdx p = l.length := by
    rw [List.findIdx_eq_length]
    intro x hx
    obtain ⟨j, hj, rfl⟩ := List.getElem_of_mem hx
    have := hn j hj
    rw [gm_eq hj] at this
    exact this
  unfold fstI
  rw [this, if_neg (by omega)]
theorem fstI_cases (p : Mp → Bool) (l : List Mp) : (fstI p l = -1 ∧ ∀ j, j < l.length → p (gm l j) = false) ∨ ∃ i, i < l.length ∧ fstI p l = (i : Int) ∧ p (gm l i) = true ∧ ∀ j, j < i → p (gm l j) = false := by
  by_cases h : l.findIdx p < l.length
  · right
    refine ⟨l.findIdx p, h, by unfold fstI; rw [if_pos h], ?_, fun j hj => ?_⟩
    · rw [gm_eq h]; exact List.findIdx_getElem
    · rw [gm_eq (by omega)]
      have := List.not_of_lt_findIdx hj
      simpa using this
  · left
    have h2 : l.findIdx p = l.length := Nat.le_antisymm (List.findIdx_le_length) (by omega)
    refine ⟨by unfold fstI; rw [if_neg h], fun j hj => ?_⟩
    rw [gm_eq hj]
    exact (List.findIdx_eq_length.1 h2) _ (List.getElem_mem hj)

structure FnX (X : AX) : Prop where
  h25 : ∀ a b M n, X.call 25 [.agg [I a, I b]] M n = some (B (!decide (valM (a, b))), [])
  h33 : ∀ a b s M n, X.call 33 [.agg [I a, I b], .rp [I s]] M n = some (B (decide (a = s)), [])

theorem s38 (X : AX) (hX : XOK Try.prog X) (hw : X.W wT) (fx : FnX X) :
    PSound Try.prog 38 (specF (ι := {x : List Mp × Option Int // x.1.length ≤ 1000000}) (fun x => [.rd 2 (prows x.1.1), fnA x.1.2]) fun x => retOf [I (fstI (fnP x.1.2) x.1.1)]) := by
  refine psound_spec hX mixed Try.func38 rfl fun ⟨⟨l, o⟩, hl⟩ w0 G => ⟨by show 2 ≤ 19; decide, rfl, ?_⟩
  show AW ⟨Try.prog, X, 19, w0, .pure G⟩ _ _ _
  have hc : Cx.OK ⟨Try.prog, X, 19, w0, .pure G⟩ := ⟨hX, mixed⟩
  simp only at hl ⊢
  cases o with
  | none =>
    unfold fnA
    repeat' (first | (apply aw_seq_k; intro K hK) | (refine aw_run hc (by first | exact aw_nod | (intro _; rw [ordB_w hw]; kernel_rfl) | (intro _; rw [ordB_w0 hw0]; kernel_rfl) | (intro _; kernel_rfl)) ?_; simp [List.zipIdx, -getM, getM_hit, getM_miss, getM_none]; (repeat (simp (disch := first | omega | assumption | fail) only [if_pos, if_neg, wrap64]; try simp [List.zipIdx, -getM, getM_hit, getM_miss, getM_none])); try (repeat' (refine guardQ_split (fun h => ?_) (fun h => ?_) <;> simp at h <;> (simp [List.zipIdx, -getM, getM_hit, getM_miss, getM_none]; (repeat (simp (disch := first | omega | assumption | fail) only [if_pos, if_neg, wrap64]; try simp [List.zipIdx, -getM, getM_hit, getM_miss, getM_none])))))) | (refine aw_cond (b := _) (by exact rfl) (fun h => ?_) (fun h => ?_) <;> (try simp at h)) | (refine aw_block ?_) | (refine aw_skip ?_; simp only [thenQ, blockQ, if_true]) | (refine aw_exit ?_; simp [thenQ, blockQ]) | (refine aw_ret ?_; simp only [thenQ, blockQ]) | (refine aw_round ?_) | (refine hK _ ?_; clear hK) | (clear hK; refine hK _ ?_; clear hK) | (clear hK; clear hK; refine hK _ ?_; clear hK) | (clear hK; clear hK; clear hK; refine hK _ ?_; clear hK))
    refine aw_loopK (s0 := ?lps1) (m0 := ?lpm1) (ι := {i : Nat // i ≤ l.length ∧ ∀ j, j < i → fnP none (gm l j) = false}) [0, 1, 7] (fun i => [(8, I i.1)]) (fun _ => []) (fun i => l.length - i.1) ⟨0, by omega, by omega⟩ ?lhs1 ?lhm1 ?_ ?_
    case lhs1 => first | (simp [keepS]; done) | (simp [keepS]; rfl)
    case lhm1 => first | rfl | (simp; done) | (simp; rfl)
    · exact le_of2 (by simp) (by simp [AVle, AV.under, AV.underL] <;> omega) (by simp [AOle, AO.under, AV.underL, AV.under] <;> omega)
    · rintro ⟨i, hi, hinv⟩
      simp only
      rcases Decidable.em (i < l.length) with hil | hil
      · have hilI : (i : Int) < (l.length : Int) := by omega
        have hg := prows_gi hil
        have hgE := prows_gE hil
        obtain ⟨⟨x, y⟩, hm⟩ : ∃ m, m = gm l i := ⟨_, rfl⟩
        rw [← hm] at hg hgE
        simp only at hg hgE
        rcases Decidable.em (valM (x, y)) with hv | hv
        · repeat' (first | (apply aw_seq_k; intro K hK) | (refine aw_run hc (by first | exact aw_nod | (intro _; rw [ordB_w hw]; kernel_rfl) | (intro _; rw [ordB_w0 hw0]; kernel_rfl) | (intro _; kernel_rfl)) ?_; simp [List.zipIdx, hilI, hg, hgE, fx.h25, hv, -getM, getM_hit, getM_miss, getM_none]; (repeat (simp (disch := first | omega | assumption | fail) only [if_pos, if_neg, wrap64]; try simp [List.zipIdx, hilI, hg, hgE, fx.h25, hv, -getM, getM_hit, getM_miss, getM_none])); try (repeat' (refine guardQ_split (fun h => ?_) (fun h => ?_) <;> simp at h <;> (simp [List.zipIdx, hilI, hg, hgE, fx.h25, hv, -getM, getM_hit, getM_miss, getM_none]; (repeat (simp (disch := first | omega | assumption | fail) only [if_pos, if_neg, wrap64]; try simp [List.zipIdx, hilI, hg, hgE, fx.h25, hv, -getM, getM_hit, getM_miss, getM_none])))))) | (refine aw_cond (b := _) (by exact rfl) (fun h => ?_) (fun h => ?_) <;> (try simp at h)) | (refine aw_block ?_) | (refine aw_skip ?_; simp only [thenQ, blockQ, if_true]) | (refine aw_exit ?_; simp [thenQ, blockQ]) | (refine aw_ret ?_; simp only [thenQ, blockQ]) | (refine aw_round ?_) | (refine hK _ ?_; clear hK) | (clear hK; refine hK _ ?_; clear hK) | (clear hK; clear hK; refine hK _ ?_; clear hK) | (clear hK; clear hK; clear hK; refine hK _ ?_; clear hK))
          refine ⟨i + 1, ?_, ⟨by omega, fun j hj => ?_⟩, by omega⟩
          · exact le_of2 (by simp) (by simp [AVle, AV.under, AV.underL] <;> omega) (by simp [AOle, AO.under, AV.underL, AV.under] <;> omega)
          · rcases Nat.lt_succ_iff_lt_or_eq.1 hj with h | rfl
            · exact hinv j h
            · rw [← hm]; simp [fnP, hv]
        · repeat' (first | (apply aw_seq_k; intro K hK) | (refine aw_run hc (by first | exact aw_nod | (intro _; rw [ordB_w hw]; kernel_rfl) | (intro _; rw [ordB_w0 hw0]; kernel_rfl) | (intro _; kernel_rfl)) ?_; simp [List.zipIdx, hilI, hg, hgE, fx.h25, hv, -getM, getM_hit, getM_miss, getM_none]; (repeat (simp (disch := first | omega | assumption | fail) only [if_pos, if_neg, wrap64]; try simp [List.zipIdx, hilI, hg, hgE, fx.h25, hv, -getM, getM_hit, getM_miss, getM_none])); try (repeat' (refine guardQ_split (fun h => ?_) (fun h => ?_) <;> simp at h <;> (simp [List.zipIdx, hilI, hg, hgE, fx.h25, hv, -getM, getM_hit, getM_miss, getM_none]; (repeat (simp (disch := first | omega | assumption | fail) only [if_pos, if_neg, wrap64]; try simp [List.zipIdx, hilI, hg, hgE, fx.h25, hv, -getM, getM_hit, getM_miss, getM_none])))))) | (refine aw_cond (b := _) (by exact rfl) (fun h => ?_) (fun h => ?_) <;> (try simp at h)) | (refine aw_block ?_) | (refine aw_skip ?_; simp only [thenQ, blockQ, if_true]) | (refine aw_exit ?_; simp [thenQ, blockQ]) | (refine aw_ret ?_; simp only [thenQ, blockQ]) | (refine aw_round ?_) | (refine hK _ ?_; clear hK) | (clear hK; refine hK _ ?_; clear hK) | (clear hK; clear hK; refine hK _ ?_; clear hK) | (clear hK; clear hK; clear hK; refine hK _ ?_; clear hK))
          rw [fstI_at hil (by rw [← hm]; simp [fnP, hv]) hinv]
          refine ⟨by simp, ?_⟩
          simp [leaves_iff, Try.f38]
          try (first | omega | (refine decide_eq_decide.2 ?_; omega) | (refine decide_eq_false ?_; omega) | (refine decide_eq_true ?_; omega))
      · obtain rfl : i = l.length := by omega
        repeat' (first | (apply aw_seq_k; intro K hK) | (refine aw_run hc (by first | exact aw_nod | (intro _; rw [ordB_w hw]; kernel_rfl) | (intro _; rw [ordB_w0 hw0]; kernel_rfl) | (intro _; kernel_rfl)) ?_; simp [List.zipIdx, -getM, getM_hit, getM_miss, getM_none]; (repeat (simp (disch := first | omega | assumption | fail) only [if_pos, if_neg, wrap64]; try simp [List.zipIdx, -getM, getM_hit, getM_miss, getM_none])); try (repeat' (refine guardQ_split (fun h => ?_) (fun h => ?_) <;> simp at h <;> (simp [List.zipIdx, -getM, getM_hit, getM_miss, getM_none]; (repeat (simp (disch := first | omega | assumption | fail) only [if_pos, if_neg, wrap64]; try simp [List.zipIdx, -getM, getM_hit, getM_miss, getM_none])))))) | (refine aw_cond (b := _) (by exact rfl) (fun h => ?_) (fun h => ?_) <;> (try simp at h)) | (refine aw_block ?_) | (refine aw_skip ?_; simp only [thenQ, blockQ, if_true]) | (refine aw_exit ?_; simp [thenQ, blockQ]) | (refine aw_ret ?_; simp only [thenQ, blockQ]) | (refine aw_round ?_) | (refine hK _ ?_; clear hK) | (clear hK; refine hK _ ?_; clear hK) | (clear hK; clear hK; refine hK _ ?_; clear hK) | (clear hK; clear hK; clear hK; refine hK _ ?_; clear hK))
        rw [fstI_not hinv]
        refine ⟨by simp, ?_⟩
        simp [leaves_iff, Try.f38]
        try (first | omega | (refine decide_eq_decide.2 ?_; omega) | (refine decide_eq_false ?_; omega) | (refine decide_eq_true ?_; omega))
  | some s =>
    unfold fnA
    repeat' (first | (apply aw_seq_k; intro K hK) | (refine aw_run hc (by first | exact aw_nod | (intro _; rw [ordB_w hw]; kernel_rfl) | (intro _; rw [ordB_w0 hw0]; kernel_rfl) | (intro _; kernel_rfl)) ?_; simp [List.zipIdx, -getM, getM_hit, getM_miss, getM_none]; (repeat (simp (disch := first | omega | assumption | fail) only [if_pos, if_neg, wrap64]; try simp [List.zipIdx, -getM, getM_hit, getM_miss, getM_none])); try (repeat' (refine guardQ_split (fun h => ?_) (fun h => ?_) <;> simp at h <;> (simp [List.zipIdx, -getM, getM_hit, getM_miss, getM_none]; (repeat (simp (disch := first | omega | assumption | fail) only [if_pos, if_neg, wrap64]; try simp [List.zipIdx, -getM, getM_hit, getM_miss, getM_none])))))) | (refine aw_cond (b := _) (by exact rfl) (fun h => ?_) (fun h => ?_) <;> (try simp at h)) | (refine aw_block ?_) | (refine aw_skip ?_; simp only [thenQ, blockQ, if_true]) | (refine aw_exit ?_; simp [thenQ, blockQ]) | (refine aw_ret ?_; simp only [thenQ, blockQ]) | (refine aw_round ?_) | (refine hK _ ?_; clear hK) | (clear hK; refine hK _ ?_; clear hK) | (clear hK; clear hK; refine hK _ ?_; clear hK) | (clear hK; clear hK; clear hK; refine hK _ ?_; clear hK))
    refine aw_loopK (s0 := ?lps2) (m0 := ?lpm2) (ι := {i : Nat // i ≤ l.length ∧ ∀ j, j < i → fnP (some s) (gm l j) = false}) [0, 1, 7] (fun i => [(8, I i.1)]) (fun _ => []) (fun i => l.length - i.1) ⟨0, by omega, by omega⟩ ?lhs2 ?lhm2 ?_ ?_
    case lhs2 => first | (simp [keepS]; done) | (simp [keepS]; rfl)
    case lhm2 => first | rfl | (simp; done) | (simp; rfl)
    · exact le_of2 (by simp) (by simp [AVle, AV.under, AV.underL] <;> omega) (by simp [AOle, AO.under, AV.underL, AV.under] <;> omega)
    · rintro ⟨i, hi, hinv⟩
      simp only
      rcases Decidable.em (i < l.length) with hil | hil
      · have hilI : (i : Int) < (l.length : Int) := by omega
        have hg := prows_gi hil
        have hgE := prows_gE hil
        obtain ⟨⟨x, y⟩, hm⟩ : ∃ m, m = gm l i := ⟨_, rfl⟩
        rw [← hm] at hg hgE
        simp only at hg hgE
        rcases Decidable.em (x = s) with hv | hv
        · repeat' (first | (apply aw_seq_k; intro K hK) | (refine aw_run hc (by first | exact aw_nod | (intro _; rw [ordB_w hw]; kernel_rfl) | (intro _; rw [ordB_w0 hw0]; kernel_rfl) | (intro _; kernel_rfl)) ?_; simp [List.zipIdx, hilI, hg, hgE, fx.h33, hv, -getM, getM_hit, getM_miss, getM_none]; (repeat (simp (disch := first | omega | assumption | fail) only [if_pos, if_neg, wrap64]; try simp [List.zipIdx, hilI, hg, hgE, fx.h33, hv, -getM, getM_hit, getM_miss, getM_none])); try (repeat' (refine guardQ_split (fun h => ?_) (fun h => ?_) <;> simp at h <;> (simp [List.zipIdx, hilI, hg, hgE, fx.h33, hv, -getM, getM_hit, getM_miss, getM_none]; (repeat (simp (disch := first | omega | assumption | fail) only [if_pos, if_neg, wrap64]; try simp [List.zipIdx, hilI, hg, hgE, fx.h33, hv, -getM, getM_hit, getM_miss, getM_none])))))) | (refine aw_cond (b := _) (by exact rfl) (fun h => ?_) (fun h => ?_) <;> (try simp at h)) | (refine aw_block ?_) | (refine aw_skip ?_; simp only [thenQ, blockQ, if_true]) | (refine aw_exit ?_; simp [thenQ, blockQ]) | (refine aw_ret ?_; simp only [thenQ, blockQ]) | (refine aw_round ?_) | (refine hK _ ?_; clear hK) | (clear hK; refine hK _ ?_; clear hK) | (clear hK; clear hK; refine hK _ ?_; clear hK) | (clear hK; clear hK; clear hK; refine hK _ ?_; clear hK))
          rw [fstI_at hil (by rw [← hm]; simp [fnP, hv]) hinv]
          refine ⟨by simp, ?_⟩
          simp [leaves_iff, Try.f38]
          try (first | omega | (refine decide_eq_decide.2 ?_; omega) | (refine decide_eq_false ?_; omega) | (refine decide_eq_true ?_; omega))
        · repeat' (first | (apply aw_seq_k; intro K hK) | (refine aw_run hc (by first | exact aw_nod | (intro _; rw [ordB_w hw]; kernel_rfl) | (intro _; rw [ordB_w0 hw0]; kernel_rfl) | (intro _; kernel_rfl)) ?_; simp [List.zipIdx, hilI, hg, hgE, fx.h33, hv, -getM, getM_hit, getM_miss, getM_none]; (repeat (simp (disch := first | omega | assumption | fail) only [if_pos, if_neg, wrap64]; try simp [List.zipIdx, hilI, hg, hgE, fx.h33, hv, -getM, getM_hit, getM_miss, getM_none])); try (repeat' (refine guardQ_split (fun h => ?_) (fun h => ?_) <;> simp at h <;> (simp [List.zipIdx, hilI, hg, hgE, fx.h33, hv, -getM, getM_hit, getM_miss, getM_none]; (repeat (simp (disch := first | omega | assumption | fail) only [if_pos, if_neg, wrap64]; try simp [List.zipIdx, hilI, hg, hgE, fx.h33, hv, -getM, getM_hit, getM_miss, getM_none])))))) | (refine aw_cond (b := _) (by exact rfl) (fun h => ?_) (fun h => ?_) <;> (try simp at h)) | (refine aw_block ?_) | (refine aw_skip ?_; simp only [thenQ, blockQ, if_true]) | (refine aw_exit ?_; simp [thenQ, blockQ]) | (refine aw_ret ?_; simp only [thenQ, blockQ]) | (refine aw_round ?_) | (refine hK _ ?_; clear hK) | (clear hK; refine hK _ ?_; clear hK) | (clear hK; clear hK; refine hK _ ?_; clear hK) | (clear hK; clear hK; clear hK; refine hK _ ?_; clear hK))
          refine ⟨i + 1, ?_, ⟨by omega, fun j hj => ?_⟩, by omega⟩
          · exact le_of2 (by simp) (by simp [AVle, AV.under, AV.underL] <;> omega) (by simp [AOle, AO.under, AV.underL, AV.under] <;> omega)
          · rcases Nat.lt_succ_iff_lt_or_eq.1 hj with h | rfl
            · exact hinv j h
            · rw [← hm]; simp [fnP, hv]
      · obtain rfl : i = l.length := by omega
        repeat' (first | (apply aw_seq_k; intro K hK) | (refine aw_run hc (by first | exact aw_nod | (intro _; rw [ordB_w hw]; kernel_rfl) | (intro _; rw [ordB_w0 hw0]; kernel_rfl) | (intro _; kernel_rfl)) ?_; simp [List.zipIdx, -getM, getM_hit, getM_miss, getM_none]; (repeat (simp (disch := first | omega | assumption | fail) only [if_pos, if_neg, wrap64]; try simp [List.zipIdx, -getM, getM_hit, getM_miss, getM_none])); try (repeat' (refine guardQ_split (fun h => ?_) (fun h => ?_) <;> simp at h <;> (simp [List.zipIdx, -getM, getM_hit, getM_miss, getM_none]; (repeat (simp (disch := first | omega | assumption | fail) only [if_pos, if_neg, wrap64]; try simp [List.zipIdx, -getM, getM_hit, getM_miss, getM_none])))))) | (refine aw_cond (b := _) (by exact rfl) (fun h => ?_) (fun h => ?_) <;> (try simp at h)) | (refine aw_block ?_) | (refine aw_skip ?_; simp only [thenQ, blockQ, if_true]) | (refine aw_exit ?_; simp [thenQ, blockQ]) | (refine aw_ret ?_; simp only [thenQ, blockQ]) | (refine aw_round ?_) | (refine hK _ ?_; clear hK) | (clear hK; refine hK _ ?_; clear hK) | (clear hK; clear hK; refine hK _ ?_; clear hK) | (clear hK; clear hK; clear hK; refine hK _ ?_; clear hK))
        rw [fstI_not hinv]
        refine ⟨by simp, ?_⟩
        simp [leaves_iff, Try.f38]
        try (first | omega | (refine decide_eq_decide.2 ?_; omega) | (refine decide_eq_false ?_; omega) | (refine decide_eq_true ?_; omega))

noncomputable def F38 : List AV → Option AV := specF (ι := {x : List Mp × Option Int // x.1.length ≤ 1000000}) (fun x => [.rd 2 (prows x.1.1), fnA x.1.2]) fun x => retOf [I (fstI (fnP x.1.2) x.1.1)]
theorem fnA_inj {a b : Option Int} : fnA a = fnA b ↔ a = b := by
  cases a <;> cases b <;> simp [fnA, I]
theorem F38_at (l : List Mp) (o : Option Int) (h : l.length ≤ 1000000) : F38 [.rd 2 (prows l), fnA o] = some (I (fstI (fnP o) l)) :=
  specF_eq (ι := {x : List Mp × Option Int // x.1.length ≤ 1000000}) (A := fun x => [.rd 2 (prows x.1.1), fnA x.1.2]) (R := fun x => retOf [I (fstI (fnP x.1.2) x.1.1)]) ⟨(l, o), h⟩ (by
    rintro ⟨⟨k, c⟩, h⟩ e
    simp [prows_inj, fnA_inj] at e
    obtain ⟨rfl, rfl⟩ := e; rfl)
theorem s24 (X : AX) (hX : XOK Try.prog X) (hw : X.W wT) (h38 : X.call 38 = callP F38) :
    PSound Try.prog 24 (specF (ι := {x : List Mp // x.length ≤ 1000000}) (fun x => [.rd 2 (prows x.1), .fn 25 []]) fun x => retOf [B (decide (0 ≤ fstI (fnP none) x.1))]) := by
  refine psound_spec hX mixed Try.func24 rfl fun ⟨l, hl⟩ w0 G => ⟨by show 2 ≤ 9; decide, rfl, ?_⟩
  show AW ⟨Try.prog, X, 9, w0, .pure G⟩ _ _ _
  have hc : Cx.OK ⟨Try.prog, X, 9, w0, .pure G⟩ := ⟨hX, mixed⟩
  simp only at hl ⊢
  have hF := F38_at l none hl
  simp only [fnA] at hF
  repeat' (first | (apply aw_seq_k; intro K hK) | (refine aw_run hc (by first | exact aw_nod | (intro _; rw [ordB_w hw]; kernel_rfl) | (intro _; rw [ordB_w0 hw0]; kernel_rfl) | (intro _; kernel_rfl)) ?_; simp [List.zipIdx, h38, hF, -getM, getM_hit, getM_miss, getM_none]; (repeat (simp (disch := first | omega | assumption | fail) only [if_pos, if_neg, wrap64]; try simp [List.zipIdx, h38, hF, -getM, getM_hit, getM_miss, getM_none])); try (repeat' (refine guardQ_split (fun h => ?_) (fun h => ?_) <;> simp at h <;> (simp [List.zipIdx, h38, hF, -getM, getM_hit, getM_miss, getM_none]; (repeat (simp (disch := first | omega | assumption | fail) only [if_pos, if_neg, wrap64]; try simp [List.zipIdx, h38, hF, -getM, getM_hit, getM_miss, getM_none])))))) | (refine aw_cond (b := _) (by exact rfl) (fun h => ?_) (fun h => ?_) <;> (try simp at h)) | (refine aw_block ?_) | (refine aw_skip ?_; simp only [thenQ, blockQ, if_true]) | (refine aw_exit ?_; simp [thenQ, blockQ]) | (refine aw_ret ?_; simp only [thenQ, blockQ]) | (refine aw_round ?_) | (refine hK _ ?_; clear hK) | (clear hK; refine hK _ ?_; clear hK) | (clear hK; clear hK; refine hK _ ?_; clear hK) | (clear hK; clear hK; clear hK; refine hK _ ?_; clear hK))
  refine ⟨by simp, ?_⟩
  simp [leaves_iff, Try.f24]
  try (first | omega | (refine decide_eq_decide.2 ?_; omega) | (refine decide_eq_false ?_; omega) | (refine decide_eq_true ?_; omega))
noncomputable def F24 : List AV → Option AV := specF (ι := {x : List Mp // x.length ≤ 1000000}) (fun x => [.rd 2 (prows x.1), .fn 25 []]) fun x => retOf [B (decide (0 ≤ fstI (fnP none) x.1))]
theorem F24_at (l : List Mp) (h : l.length ≤ 1000000) : F24 [.rd 2 (prows l), .fn 25 []] = some (B (decide (0 ≤ fstI (fnP none) l))) :=
  specF_eq (ι := {x : List Mp // x.length ≤ 1000000}) (A := fun x => [.rd 2 (prows x.1), .fn 25 []]) (R := fun x => retOf [B (decide (0 ≤ fstI (fnP none) x.1))]) ⟨l, h⟩ (by
    rintro ⟨k, h⟩ e
    simp [prows_inj] at e
    subst e; rfl)
theorem fst_chkV {l : List Mp} : 0 ≤ fstI (fnP none) l ↔ ¬ chkV l := by
  rcases fstI_cases (fnP none) l with ⟨h1, h2⟩ | ⟨i, hi, h1, h2, _⟩
  · rw [h1]
    constructor
    · intro h; omega
    · intro h
      exact absurd (fun i hi => by have := h2 i hi; simpa [fnP] using this) h
  · rw [h1]
    constructor
    · intro _ h
      simp [fnP] at h2
      exact h2 (h i hi)
    · intro _; omega

theorem s10 (X : AX) (hX : XOK Try.prog X) (hw : X.W wT) (h24 : X.call 24 = callP F24)
    (h27 : ∀ a b c d M n, X.call 27 [.agg [I a, I b], .agg [I c, I d]] M n = some (I (cmpM (a, b) (c, d)), [])) :
    PSound Try.prog 10 (specF (ι := {l : List Mp // l.length ≤ 1000000}) (fun x => [.rd 2 (prows x.1)]) fun x => retOf [I (chk x.1)]) := by
  refine psound_spec hX mixed Try.func10 rfl fun ⟨l, hl⟩ w0 G => ⟨by show 1 ≤ 23; decide, rfl, ?_⟩
  show AW ⟨Try.prog, X, 23, w0, .pure G⟩ _ _ _
  have hc : Cx.OK ⟨Try.prog, X, 23, w0, .pure G⟩ := ⟨hX, mixed⟩
  simp only at hl ⊢
  have hF := F24_at l hl
  rcases Decidable.em (0 ≤ fstI (fnP none) l) with hc0 | hc0
  · simp only [hc0, decide_true] at hF
    repeat' (first | (apply aw_seq_k; intro K hK) | (refine aw_run hc (by first | exact aw_nod | (intro _; rw [ordB_w hw]; kernel_rfl) | (intro _; rw [ordB_w0 hw0]; kernel_rfl) | (intro _; kernel_rfl)) ?_; simp [List.zipIdx, h24, hF, -getM, getM_hit, getM_miss, getM_none]; (repeat (simp (disch := first | omega | assumption | fail) only [if_pos, if_neg, wrap64]; try simp [List.zipIdx, h24, hF, -getM, getM_hit, getM_miss, getM_none])); try (repeat' (refine guardQ_split (fun h => ?_) (fun h => ?_) <;> simp at h <;> (simp [List.zipIdx, h24, hF, -getM, getM_hit, getM_miss, getM_none]; (repeat (simp (disch := first | omega | assumption | fail) only [if_pos, if_neg, wrap64]; try simp [List.zipIdx, h24, hF, -getM, getM_hit, getM_miss, getM_none])))))) | (refine aw_cond (b := _) (by exact rfl) (fun h => ?_) (fun h => ?_) <;> (try simp at h)) | (refine aw_block ?_) | (refine aw_skip ?_; simp only [thenQ, blockQ, if_true]) | (refine aw_exit ?_; simp [thenQ, blockQ]) | (refine aw_ret ?_; simp only [thenQ, blockQ]) | (refine aw_round ?_) | (refine hK _ ?_; clear hK) | (clear hK; refine hK _ ?_; clear hK) | (clear hK; clear hK; refine hK _ ?_; clear hK) | (clear hK; clear hK; clear hK; refine hK _ ?_; clear hK))
    rw [chk_v (fst_chkV.1 hc0)]
    refine ⟨by simp, ?_⟩
    simp [leaves_iff, Try.f10]
    try (first | omega | (refine decide_eq_decide.2 ?_; omega) | (refine decide_eq_false ?_; omega) | (refine decide_eq_true ?_; omega))
  · simp only [hc0, decide_false] at hF
    have hV : chkV l := Classical.not_not.1 fun h => hc0 (fst_chkV.2 h)
    repeat' (first | (apply aw_seq_k; intro K hK) | (refine aw_run hc (by first | exact aw_nod | (intro _; rw [ordB_w hw]; kernel_rfl) | (intro _; rw [ordB_w0 hw0]; kernel_rfl) | (intro _; kernel_rfl)) ?_; simp [List.zipIdx, h24, hF, -getM, getM_hit, getM_miss, getM_none]; (repeat (simp (disch := first | omega | assumption | fail) only [if_pos, if_neg, wrap64]; try simp [List.zipIdx, h24, hF, -getM, getM_hit, getM_miss, getM_none])); try (repeat' (refine guardQ_split (fun h => ?_) (fun h => ?_) <;> simp at h <;> (simp [List.zipIdx, h24, hF, -getM, getM_hit, getM_miss, getM_none]; (repeat (simp (disch := first | omega | assumption | fail) only [if_pos, if_neg, wrap64]; try simp [List.zipIdx, h24, hF, -getM, getM_hit, getM_miss, getM_none])))))) | (refine aw_cond (b := _) (by exact rfl) (fun h => ?_) (fun h => ?_) <;> (try simp at h)) | (refine aw_block ?_) | (refine aw_skip ?_; simp only [thenQ, blockQ, if_true]) | (refine aw_exit ?_; simp [thenQ, blockQ]) | (refine aw_ret ?_; simp only [thenQ, blockQ]) | (refine aw_round ?_) | (refine hK _ ?_; clear hK) | (clear hK; refine hK _ ?_; clear hK) | (clear hK; clear hK; refine hK _ ?_; clear hK) | (clear hK; clear hK; clear hK; refine hK _ ?_; clear hK))
    refine aw_loopK (s0 := ?lps3) (m0 := ?lpm3) (ι := {k : Nat // ∀ j, j < k → j + 1 < l.length → ltM (gm l j) (gm l (j + 1))}) [0] (fun k => [(3, I ((k.1 + 1 : Nat) : Int))]) (fun _ => []) (fun k => l.length - k.1) ⟨0, by omega⟩ ?lhs3 ?lhm3 ?_ ?_
    case lhs3 => first | (simp [keepS]; done) | (simp [keepS]; rfl)
    case lhm3 => first | rfl | (simp; done) | (simp; rfl)
    · exact le_of2 (by simp) (by simp [AVle, AV.under, AV.underL] <;> omega) (by simp [AOle, AO.under, AV.underL, AV.under] <;> omega)
    · rintro ⟨k, hk⟩
      simp only
      rcases Decidable.em (k + 1 < l.length) with hil | hil
      · have hilI : (k : Int) + 1 < (l.length : Int) := by omega
        have hg := prows_gi hil
        have hgE := prows_gE hil
        have hk1 : k < l.length := by omega
        have hk1I : (k : Int) < (l.length : Int) := by omega
        have hg1 := prows_gi hk1
        have hg1E := prows_gE hk1
        obtain ⟨⟨x, y⟩, hm⟩ : ∃ m, m = gm l (k + 1) := ⟨_, rfl⟩
        obtain ⟨⟨u, v⟩, hm1⟩ : ∃ m, m = gm l k := ⟨_, rfl⟩
        rw [← hm] at hg hgE
        rw [← hm1] at hg1 hg1E
        simp only at hg hgE hg1 hg1E
        have e1 : ((k : Int) + 1).toNat = k + 1 := by omega
        have hcm := cmpM_neg (a := (u, v)) (b := (x, y))
        obtain ⟨q, hq⟩ : ∃ q, q = cmpM (u, v) (x, y) := ⟨_, rfl⟩
        have h27' := fun M n => h27 u v x y M n
        rw [← hq] at hcm h27'
        rcases Decidable.em (q < 0) with hv | hv
        · have hv' : ¬ 0 ≤ q := by omega
          repeat' (first | (apply aw_seq_k; intro K hK) | (refine aw_run hc (by first | exact aw_nod | (intro _; rw [ordB_w hw]; kernel_rfl) | (intro _; rw [ordB_w0 hw0]; kernel_rfl) | (intro _; kernel_rfl)) ?_; simp [List.zipIdx, hilI, hg, hgE, hg1, hg1E, hk1I, h27', hv', e1, -getM, getM_hit, getM_miss, getM_none]; (repeat (simp (disch := first | omega | assumption | fail) only [if_pos, if_neg, wrap64]; try simp [List.zipIdx, hilI, hg, hgE, hg1, hg1E, hk1I, h27', hv', e1, -getM, getM_hit, getM_miss, getM_none])); try (repeat' (refine guardQ_split (fun h => ?_) (fun h => ?_) <;> simp at h <;> (simp [List.zipIdx, hilI, hg, hgE, hg1, hg1E, hk1I, h27', hv', e1, -getM, getM_hit, getM_miss, getM_none]; (repeat (simp (disch := first | omega | assumption | fail) only [if_pos, if_neg, wrap64]; try simp [List.zipIdx, hilI, hg, hgE, hg1, hg1E, hk1I, h27', hv', e1, -getM, getM_hit, getM_miss, getM_none])))))) | (refine aw_cond (b := _) (by exact rfl) (fun h => ?_) (fun h => ?_) <;> (try simp at h)) | (refine aw_block ?_) | (refine aw_skip ?_; simp only [thenQ, blockQ, if_true]) | (refine aw_exit ?_; simp [thenQ, blockQ]) | (refine aw_ret ?_; simp only [thenQ, blockQ]) | (refine aw_round ?_) | (refine hK _ ?_; clear hK) | (clear hK; refine hK _ ?_; clear hK) | (clear hK; clear hK; refine hK _ ?_; clear hK) | (clear hK; clear hK; clear hK; refine hK _ ?_; clear hK))
          refine ⟨k + 1, ?_, fun j hj hj2 => ?_, by omega⟩
          · exact le_of2 (by simp) (by simp [AVle, AV.under, AV.underL] <;> omega) (by simp [AOle, AO.under, AV.underL, AV.under] <;> omega)
          · rcases Nat.lt_succ_iff_lt_or_eq.1 hj with h | rfl
            · exact hk j h hj2
            · rw [← hm, ← hm1]; exact hcm.1 hv
        · have hv' : 0 ≤ q := by omega
          repeat' (first | (apply aw_seq_k; intro K hK) | (refine aw_run hc (by first | exact aw_nod | (intro _; rw [ordB_w hw]; kernel_rfl) | (intro _; rw [ordB_w0 hw0]; kernel_rfl) | (intro _; kernel_rfl)) ?_; simp [List.zipIdx, hilI, hg, hgE, hg1, hg1E, hk1I, h27', hv', e1, -getM, getM_hit, getM_miss, getM_none]; (repeat (simp (disch := first | omega | assumption | fail) only [if_pos, if_neg, wrap64]; try simp [List.zipIdx, hilI, hg, hgE, hg1, hg1E, hk1I, h27', hv', e1, -getM, getM_hit, getM_miss, getM_none])); try (repeat' (refine guardQ_split (fun h => ?_) (fun h => ?_) <;> simp at h <;> (simp [List.zipIdx, hilI, hg, hgE, hg1, hg1E, hk1I, h27', hv', e1, -getM, getM_hit, getM_miss, getM_none]; (repeat (simp (disch := first | omega | assumption | fail) only [if_pos, if_neg, wrap64]; try simp [List.zipIdx, hilI, hg, hgE, hg1, hg1E, hk1I, h27', hv', e1, -getM, getM_hit, getM_miss, getM_none])))))) | (refine aw_cond (b := _) (by exact rfl) (fun h => ?_) (fun h => ?_) <;> (try simp at h)) | (refine aw_block ?_) | (refine aw_skip ?_; simp only [thenQ, blockQ, if_true]) | (refine aw_exit ?_; simp [thenQ, blockQ]) | (refine aw_ret ?_; simp only [thenQ, blockQ]) | (refine aw_round ?_) | (refine hK _ ?_; clear hK) | (clear hK; refine hK _ ?_; clear hK) | (clear hK; clear hK; refine hK _ ?_; clear hK) | (clear hK; clear hK; clear hK; refine hK _ ?_; clear hK))
          have e : ¬ chkO l := fun h => hv (hcm.2 (by rw [hm, hm1]; exact h k hil))
          rw [chk_o hV e]
          refine ⟨by simp, ?_⟩
          simp [leaves_iff, Try.f10]
          try (first | omega | (refine decide_eq_decide.2 ?_; omega) | (refine decide_eq_false ?_; omega) | (refine decide_eq_true ?_; omega))
      · have hilI : ¬ (k : Int) + 1 < (l.length : Int) := by omega
        repeat' (first | (apply aw_seq_k; intro K hK) | (refine aw_run hc (by first | exact aw_nod | (intro _; rw [ordB_w hw]; kernel_rfl) | (intro _; rw [ordB_w0 hw0]; kernel_rfl) | (intro _; kernel_rfl)) ?_; simp [List.zipIdx, hilI, -getM, getM_hit, getM_miss, getM_none]; (repeat (simp (disch := first | omega | assumption | fail) only [if_pos, if_neg, wrap64]; try simp [List.zipIdx, hilI, -getM, getM_hit, getM_miss, getM_none])); try (repeat' (refine guardQ_split (fun h => ?_) (fun h => ?_) <;> simp at h <;> (simp [List.zipIdx, hilI, -getM, getM_hit, getM_miss, getM_none]; (repeat (simp (disch := first | omega | assumption | fail) only [if_pos, if_neg, wrap64]; try simp [List.zipIdx, hilI, -getM, getM_hit, getM_miss, getM_none])))))) | (refine aw_cond (b := _) (by exact rfl) (fun h => ?_) (fun h => ?_) <;> (try simp at h)) | (refine aw_block ?_) | (refine aw_skip ?_; simp only [thenQ, blockQ, if_true]) | (refine aw_exit ?_; simp [thenQ, blockQ]) | (refine aw_ret ?_; simp only [thenQ, blockQ]) | (refine aw_round ?_) | (refine hK _ ?_; clear hK) | (clear hK; refine hK _ ?_; clear hK) | (clear hK; clear hK; refine hK _ ?_; clear hK) | (clear hK; clear hK; clear hK; refine hK _ ?_; clear hK))
        rw [chk_z hV fun i hi => hk i (by omega) hi]
        refine ⟨by simp, ?_⟩
        simp [leaves_iff, Try.f10]
        try (first | omega | (refine decide_eq_decide.2 ?_; omega) | (refine decide_eq_false ?_; omega) | (refine decide_eq_true ?_; omega))

def eqP (m : Mp) (x : Mp) : Bool := decide (x = m)
theorem s41 (X : AX) (hX : XOK Try.prog X) (hw : X.W wT) (he : X.eqs 24 = true) :
    PSound Try.prog 41 (specF (ι := {x : List Mp × Mp // x.1.length ≤ 1000000}) (fun x => [.rd 2 (prows x.1.1), Mv x.1.2]) fun x => retOf [I (fstI (eqP x.1.2) x.1.1)]) := by
  refine psound_spec hX mixed Try.func41 rfl fun ⟨⟨l, a, b⟩, hl⟩ w0 G => ⟨by show 2 ≤ 19; decide, rfl, ?_⟩
  show AW ⟨Try.prog, X, 19, w0, .pure G⟩ _ _ _
  have hc : Cx.OK ⟨Try.prog, X, 19, w0, .pure G⟩ := ⟨hX, mixed⟩
  simp only at hl ⊢
  unfold Mv
  simp only
  repeat' (first | (apply aw_seq_k; intro K hK) | (refine aw_run hc (by first | exact aw_nod | (intro _; rw [ordB_w hw]; kernel_rfl) | (intro _; rw [ordB_w0 hw0]; kernel_rfl) | (intro _; kernel_rfl)) ?_; simp [List.zipIdx, -getM, getM_hit, getM_miss, getM_none]; (repeat (simp (disch := first | omega | assumption | fail) only [if_pos, if_neg, wrap64]; try simp [List.zipIdx, -getM, getM_hit, getM_miss, getM_none])); try (repeat' (refine guardQ_split (fun h => ?_) (fun h => ?_) <;> simp at h <;> (simp [List.zipIdx, -getM, getM_hit, getM_miss, getM_none]; (repeat (simp (disch := first | omega | assumption | fail) only [if_pos, if_neg, wrap64]; try simp [List.zipIdx, -getM, getM_hit, getM_miss, getM_none])))))) | (refine aw_cond (b := _) (by exact rfl) (fun h => ?_) (fun h => ?_) <;> (try simp at h)) | (refine aw_block ?_) | (refine aw_skip ?_; simp only [thenQ, blockQ, if_true]) | (refine aw_exit ?_; simp [thenQ, blockQ]) | (refine aw_ret ?_; simp only [thenQ, blockQ]) | (refine aw_round ?_) | (refine hK _ ?_; clear hK) | (clear hK; refine hK _ ?_; clear hK) | (clear hK; clear hK; refine hK _ ?_; clear hK) | (clear hK; clear hK; clear hK; refine hK _ ?_; clear hK))
  refine aw_loopK (s0 := ?lps4) (m0 := ?lpm4) (ι := {i : Nat // i ≤ l.length ∧ ∀ j, j < i → eqP (a, b) (gm l j) = false}) [0, 3, 7] (fun i => [(8, I i.1)]) (fun _ => []) (fun i => l.length - i.1) ⟨0, by omega, by omega⟩ ?lhs4 ?lhm4 ?_ ?_
  case lhs4 => first | (simp [keepS]; done) | (simp [keepS]; rfl)
  case lhm4 => first | rfl | (simp; done) | (simp; rfl)
  · exact le_of2 (by simp) (by simp [AVle, AV.under, AV.underL] <;> omega) (by simp [AOle, AO.under, AV.underL, AV.under] <;> omega)
  · rintro ⟨i, hi, hinv⟩
    simp only
    rcases Decidable.em (i < l.length) with hil | hil
    · have hilI : (i : Int) < (l.length : Int) := by omega
      have hg := prows_gi hil
      have hgE := prows_gE hil
      obtain ⟨⟨x, y⟩, hm⟩ : ∃ m, m = gm l i := ⟨_, rfl⟩
      rw [← hm] at hg hgE
      simp only at hg hgE
      rcases Decidable.em (a = x ∧ b = y) with hv | hv
      · rw [fstI_at hil (by rw [← hm]; simp [eqP, hv.1, hv.2]) hinv]
        obtain ⟨rfl, rfl⟩ := hv
        repeat' (first | (apply aw_seq_k; intro K hK) | (refine aw_run hc (by first | exact aw_nod | (intro _; rw [ordB_w hw]; kernel_rfl) | (intro _; rw [ordB_w0 hw0]; kernel_rfl) | (intro _; kernel_rfl)) ?_; simp [List.zipIdx, hilI, hg, hgE, he, eqL, -getM, getM_hit, getM_miss, getM_none]; (repeat (simp (disch := first | omega | assumption | fail) only [if_pos, if_neg, wrap64]; try simp [List.zipIdx, hilI, hg, hgE, he, eqL, -getM, getM_hit, getM_miss, getM_none])); try (repeat' (refine guardQ_split (fun h => ?_) (fun h => ?_) <;> simp at h <;> (simp [List.zipIdx, hilI, hg, hgE, he, eqL, -getM, getM_hit, getM_miss, getM_none]; (repeat (simp (disch := first | omega | assumption | fail) only [if_pos, if_neg, wrap64]; try simp [List.zipIdx, hilI, hg, hgE, he, eqL, -getM, getM_hit, getM_miss, getM_none])))))) | (refine aw_cond (b := _) (by exact rfl) (fun h => ?_) (fun h => ?_) <;> (try simp at h)) | (refine aw_block ?_) | (refine aw_skip ?_; simp only [thenQ, blockQ, if_true]) | (refine aw_exit ?_; simp [thenQ, blockQ]) | (refine aw_ret ?_; simp only [thenQ, blockQ]) | (refine aw_round ?_) | (refine hK _ ?_; clear hK) | (clear hK; refine hK _ ?_; clear hK) | (clear hK; clear hK; refine hK _ ?_; clear hK) | (clear hK; clear hK; clear hK; refine hK _ ?_; clear hK))
        refine ⟨by simp, ?_⟩
        simp [leaves_iff, Try.f41]
        try (first | omega | (refine decide_eq_decide.2 ?_; omega) | (refine decide_eq_false ?_; omega) | (refine decide_eq_true ?_; omega))
      · have hv' : (decide (a = x) && decide (b = y)) = false := by simpa using hv
        repeat' (first | (apply aw_seq_k; intro K hK) | (refine aw_run hc (by first | exact aw_nod | (intro _; rw [ordB_w hw]; kernel_rfl) | (intro _; rw [ordB_w0 hw0]; kernel_rfl) | (intro _; kernel_rfl)) ?_; simp [List.zipIdx, hilI, hg, hgE, hv', he, eqL, -getM, getM_hit, getM_miss, getM_none]; (repeat (simp (disch := first | omega | assumption | fail) only [if_pos, if_neg, wrap64]; try simp [List.zipIdx, hilI, hg, hgE, hv', he, eqL, -getM, getM_hit, getM_miss, getM_none])); try (repeat' (refine guardQ_split (fun h => ?_) (fun h => ?_) <;> simp at h <;> (simp [List.zipIdx, hilI, hg, hgE, hv', he, eqL, -getM, getM_hit, getM_miss, getM_none]; (repeat (simp (disch := first | omega | assumption | fail) only [if_pos, if_neg, wrap64]; try simp [List.zipIdx, hilI, hg, hgE, hv', he, eqL, -getM, getM_hit, getM_miss, getM_none])))))) | (refine aw_cond (b := _) (by exact rfl) (fun h => ?_) (fun h => ?_) <;> (try simp at h)) | (refine aw_block ?_) | (refine aw_skip ?_; simp only [thenQ, blockQ, if_true]) | (refine aw_exit ?_; simp [thenQ, blockQ]) | (refine aw_ret ?_; simp only [thenQ, blockQ]) | (refine aw_round ?_) | (refine hK _ ?_; clear hK) | (clear hK; refine hK _ ?_; clear hK) | (clear hK; clear hK; refine hK _ ?_; clear hK) | (clear hK; clear hK; clear hK; refine hK _ ?_; clear hK))
        refine ⟨i + 1, ?_, ⟨by omega, fun j hj => ?_⟩, by omega⟩
        · exact le_of2 (by simp) (by simp [AVle, AV.under, AV.underL] <;> omega) (by simp [AOle, AO.under, AV.underL, AV.under] <;> omega)
        · rcases Nat.lt_succ_iff_lt_or_eq.1 hj with h | rfl
          · exact hinv j h
          · rw [← hm]
            simp only [eqP, Prod.mk.injEq, decide_eq_false_iff_not]
            rintro ⟨rfl, rfl⟩
            exact hv ⟨rfl, rfl⟩
    · obtain rfl : i = l.length := by omega
      repeat' (first | (apply aw_seq_k; intro K hK) | (refine aw_run hc (by first | exact aw_nod | (intro _; rw [ordB_w hw]; kernel_rfl) | (intro _; rw [ordB_w0 hw0]; kernel_rfl) | (intro _; kernel_rfl)) ?_; simp [List.zipIdx, -getM, getM_hit, getM_miss, getM_none]; (repeat (simp (disch := first | omega | assumption | fail) only [if_pos, if_neg, wrap64]; try simp [List.zipIdx, -getM, getM_hit, getM_miss, getM_none])); try (repeat' (refine guardQ_split (fun h => ?_) (fun h => ?_) <;> simp at h <;> (simp [List.zipIdx, -getM, getM_hit, getM_miss, getM_none]; (repeat (simp (disch := first | omega | assumption | fail) only [if_pos, if_neg, wrap64]; try simp [List.zipIdx, -getM, getM_hit, getM_miss, getM_none])))))) | (refine aw_cond (b := _) (by exact rfl) (fun h => ?_) (fun h => ?_) <;> (try simp at h)) | (refine aw_block ?_) | (refine aw_skip ?_; simp only [thenQ, blockQ, if_true]) | (refine aw_exit ?_; simp [thenQ, blockQ]) | (refine aw_ret ?_; simp only [thenQ, blockQ]) | (refine aw_round ?_) | (refine hK _ ?_; clear hK) | (clear hK; refine hK _ ?_; clear hK) | (clear hK; clear hK; refine hK _ ?_; clear hK) | (clear hK; clear hK; clear hK; refine hK _ ?_; clear hK))
      rw [fstI_not hinv]
      refine ⟨by simp, ?_⟩
      simp [leaves_iff, Try.f41]
      try (first | omega | (refine decide_eq_decide.2 ?_; omega) | (refine decide_eq_false ?_; omega) | (refine decide_eq_true ?_; omega))
theorem fst_eqP {l : List Mp} {m : Mp} : 0 ≤ fstI (eqP m) l ↔ m ∈ l := by
  rcases fstI_cases (eqP m) l with ⟨h1, h2⟩ | ⟨i, hi, h1, h2, _⟩
  · rw [h1]
    constructor
    · intro h; omega
    · intro h
      obtain ⟨j, hj, e⟩ := List.getElem_of_mem h
      have := h2 j hj
      rw [gm_eq hj, e] at this
      simp [eqP] at this
  · rw [h1]
    constructor
    · intro _
      simp only [eqP, decide_eq_true_eq] at h2
      rw [← h2]; exact gm_mem hi
    · intro _; omega
noncomputable def F41 : List AV → Option AV := specF (ι := {x : List Mp × Mp // x.1.length ≤ 1000000}) (fun x => [.rd 2 (prows x.1.1), Mv x.1.2]) fun x => retOf [I (fstI (eqP x.1.2) x.1.1)]
theorem F41_at (l : List Mp) (a b : Int) (h : l.length ≤ 1000000) : F41 [.rd 2 (prows l), .agg [I a, I b]] = some (I (fstI (eqP (a, b)) l)) :=
  specF_eq (ι := {x : List Mp × Mp // x.1.length ≤ 1000000}) (A := fun x => [.rd 2 (prows x.1.1), Mv x.1.2]) (R := fun x => retOf [I (fstI (eqP x.1.2) x.1.1)]) ⟨(l, (a, b)), h⟩ (by
    rintro ⟨⟨k, c⟩, h⟩ e
    simp [prows_inj, Mv_inj] at e
    obtain ⟨rfl, rfl⟩ := e; rfl)
theorem s28 (X : AX) (hX : XOK Try.prog X) (hw : X.W wT) (h41 : X.call 41 = callP F41) :
    PSound Try.prog 28 (specF (ι := {x : List Mp × Mp // x.1.length ≤ 1000000}) (fun x => [.rd 2 (prows x.1.1), Mv x.1.2]) fun x => retOf [B (decide (x.1.2 ∈ x.1.1))]) := by
  refine psound_spec hX mixed Try.func28 rfl fun ⟨⟨l, a, b⟩, hl⟩ w0 G => ⟨by show 2 ≤ 9; decide, rfl, ?_⟩
  show AW ⟨Try.prog, X, 9, w0, .pure G⟩ _ _ _
  have hc : Cx.OK ⟨Try.prog, X, 9, w0, .pure G⟩ := ⟨hX, mixed⟩
  simp only at hl ⊢
  unfold Mv
  simp only
  have hF := F41_at l a b hl
  have hm := fst_eqP (l := l) (m := (a, b))
  repeat' (first | (apply aw_seq_k; intro K hK) | (refine aw_run hc (by first | exact aw_nod | (intro _; rw [ordB_w hw]; kernel_rfl) | (intro _; rw [ordB_w0 hw0]; kernel_rfl) | (intro _; kernel_rfl)) ?_; simp [List.zipIdx, h41, hF, hm, -getM, getM_hit, getM_miss, getM_none]; (repeat (simp (disch := first | omega | assumption | fail) only [if_pos, if_neg, wrap64]; try simp [List.zipIdx, h41, hF, hm, -getM, getM_hit, getM_miss, getM_none])); try (repeat' (refine guardQ_split (fun h => ?_) (fun h => ?_) <;> simp at h <;> (simp [List.zipIdx, h41, hF, hm, -getM, getM_hit, getM_miss, getM_none]; (repeat (simp (disch := first | omega | assumption | fail) only [if_pos, if_neg, wrap64]; try simp [List.zipIdx, h41, hF, hm, -getM, getM_hit, getM_miss, getM_none])))))) | (refine aw_cond (b := _) (by exact rfl) (fun h => ?_) (fun h => ?_) <;> (try simp at h)) | (refine aw_block ?_) | (refine aw_skip ?_; simp only [thenQ, blockQ, if_true]) | (refine aw_exit ?_; simp [thenQ, blockQ]) | (refine aw_ret ?_; simp only [thenQ, blockQ]) | (refine aw_round ?_) | (refine hK _ ?_; clear hK) | (clear hK; refine hK _ ?_; clear hK) | (clear hK; clear hK; refine hK _ ?_; clear hK) | (clear hK; clear hK; clear hK; refine hK _ ?_; clear hK))
  refine ⟨by simp, ?_⟩
  simp [leaves_iff, Try.f28]
  try (first | omega | (refine decide_eq_decide.2 ?_; omega) | (refine decide_eq_false ?_; omega) | (refine decide_eq_true ?_; omega))
noncomputable def F28 : List AV → Option AV := specF (ι := {x : List Mp × Mp // x.1.length ≤ 1000000}) (fun x => [.rd 2 (prows x.1.1), Mv x.1.2]) fun x => retOf [B (decide (x.1.2 ∈ x.1.1))]
theorem F28_at (l : List Mp) (a b : Int) (h : l.length ≤ 1000000) : F28 [.rd 2 (prows l), .agg [I a, I b]] = some (B (decide ((a, b) ∈ l))) :=
  specF_eq (ι := {x : List Mp × Mp // x.1.length ≤ 1000000}) (A := fun x => [.rd 2 (prows x.1.1), Mv x.1.2]) (R := fun x => retOf [B (decide (x.1.2 ∈ x.1.1))]) ⟨(l, (a, b)), h⟩ (by
    rintro ⟨⟨k, c⟩, h⟩ e
    simp [prows_inj, Mv_inj] at e
    obtain ⟨rfl, rfl⟩ := e; rfl)
noncomputable def F9' : List AV → Option AV := F9
theorem F9_at (l : List Mp) (h : l.length ≤ 1000000) : F9 [.rd 2 (prows l)] = some (I (chk l)) :=
  specF_eq (ι := {l : List Mp // l.length ≤ 1000000}) (A := fun x => [.rd 2 (prows x.1)]) (R := fun x => retOf [I (chk x.1)]) ⟨l, h⟩ (by
    rintro ⟨k, h⟩ e
    simp [prows_inj] at e
    subst e; rfl)
theorem s11 (X : AX) (hX : XOK Try.prog X) (hw : X.W wT) (h10 : X.call 10 = callP F9) (h28 : X.call 28 = callP F28) :
    PSound Try.prog 11 (specF (ι := {x : List Mp × Mp // x.1.length ≤ 1000000}) (fun x => [.rd 2 (prows x.1.1), Mv x.1.2]) fun x => retOf [B (decide (chk x.1.1 = 0 ∧ x.1.2 ∈ x.1.1))]) := by
  refine psound_spec hX mixed Try.func11 rfl fun ⟨⟨l, a, b⟩, hl⟩ w0 G => ⟨by show 2 ≤ 13; decide, rfl, ?_⟩
  show AW ⟨Try.prog, X, 13, w0, .pure G⟩ _ _ _
  have hc : Cx.OK ⟨Try.prog, X, 13, w0, .pure G⟩ := ⟨hX, mixed⟩
  simp only at hl ⊢
  unfold Mv
  simp only
  have hF := F9_at l hl
  have hG := F28_at l a b hl
  obtain ⟨c, hcc⟩ : ∃ c, c = chk l := ⟨_, rfl⟩
  rw [← hcc] at hF ⊢
  rcases Decidable.em (c = 0) with h0 | h0
  · repeat' (first | (apply aw_seq_k; intro K hK) | (refine aw_run hc (by first | exact aw_nod | (intro _; rw [ordB_w hw]; kernel_rfl) | (intro _; rw [ordB_w0 hw0]; kernel_rfl) | (intro _; kernel_rfl)) ?_; simp [List.zipIdx, h10, hF, h28, hG, h0, -getM, getM_hit, getM_miss, getM_none]; (repeat (simp (disch := first | omega | assumption | fail) only [if_pos, if_neg, wrap64]; try simp [List.zipIdx, h10, hF, h28, hG, h0, -getM, getM_hit, getM_miss, getM_none])); try (repeat' (refine guardQ_split (fun h => ?_) (fun h => ?_) <;> simp at h <;> (simp [List.zipIdx, h10, hF, h28, hG, h0, -getM, getM_hit, getM_miss, getM_none]; (repeat (simp (disch := first | omega | assumption | fail) only [if_pos, if_neg, wrap64]; try simp [List.zipIdx, h10, hF, h28, hG, h0, -getM, getM_hit, getM_miss, getM_none])))))) | (refine aw_cond (b := _) (by exact rfl) (fun h => ?_) (fun h => ?_) <;> (try simp at h)) | (refine aw_block ?_) | (refine aw_skip ?_; simp only [thenQ, blockQ, if_true]) | (refine aw_exit ?_; simp [thenQ, blockQ]) | (refine aw_ret ?_; simp only [thenQ, blockQ]) | (refine aw_round ?_) | (refine hK _ ?_; clear hK) | (clear hK; refine hK _ ?_; clear hK) | (clear hK; clear hK; refine hK _ ?_; clear hK) | (clear hK; clear hK; clear hK; refine hK _ ?_; clear hK))
    refine ⟨by simp, ?_⟩
    simp [leaves_iff, Try.f11, h0]
    try (first | omega | (refine decide_eq_decide.2 ?_; omega) | (refine decide_eq_false ?_; omega) | (refine decide_eq_true ?_; omega))
  · repeat' (first | (apply aw_seq_k; intro K hK) | (refine aw_run hc (by first | exact aw_nod | (intro _; rw [ordB_w hw]; kernel_rfl) | (intro _; rw [ordB_w0 hw0]; kernel_rfl) | (intro _; kernel_rfl)) ?_; simp [List.zipIdx, h10, hF, h28, hG, h0, -getM, getM_hit, getM_miss, getM_none]; (repeat (simp (disch := first | omega | assumption | fail) only [if_pos, if_neg, wrap64]; try simp [List.zipIdx, h10, hF, h28, hG, h0, -getM, getM_hit, getM_miss, getM_none])); try (repeat' (refine guardQ_split (fun h => ?_) (fun h => ?_) <;> simp at h <;> (simp [List.zipIdx, h10, hF, h28, hG, h0, -getM, getM_hit, getM_miss, getM_none]; (repeat (simp (disch := first | omega | assumption | fail) only [if_pos, if_neg, wrap64]; try simp [List.zipIdx, h10, hF, h28, hG, h0, -getM, getM_hit, getM_miss, getM_none])))))) | (refine aw_cond (b := _) (by exact rfl) (fun h => ?_) (fun h => ?_) <;> (try simp at h)) | (refine aw_block ?_) | (refine aw_skip ?_; simp only [thenQ, blockQ, if_true]) | (refine aw_exit ?_; simp [thenQ, blockQ]) | (refine aw_ret ?_; simp only [thenQ, blockQ]) | (refine aw_round ?_) | (refine hK _ ?_; clear hK) | (clear hK; refine hK _ ?_; clear hK) | (clear hK; clear hK; refine hK _ ?_; clear hK) | (clear hK; clear hK; clear hK; refine hK _ ?_; clear hK))
    refine ⟨by simp, ?_⟩
    simp [leaves_iff, Try.f11, h0]
    try (first | omega | (refine decide_eq_decide.2 ?_; omega) | (refine decide_eq_false ?_; omega) | (refine decide_eq_true ?_; omega))
end Go.AM
