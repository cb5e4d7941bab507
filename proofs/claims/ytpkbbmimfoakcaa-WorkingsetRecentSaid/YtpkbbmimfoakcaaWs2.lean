/- Workingset: searches in lists; the history of evictions. -/
import Derived.Test.YtpkbbmimfoakcaaWs1
set_option linter.all false

namespace Go.AM
open Go Go.Proofs

def idxI (l : List Int) (x : Int) : Int := if x ∈ l then (l.findIdx (fun y => decide (y = x)) : Int) else -1
theorem idxI_at {l : List Int} {i : Nat} {x : Int} (h : i < l.length) (e : gi l i = x) (hb : ∀ j, j < i → gi l j ≠ x) : idxI l x = i := by
  unfold idxI
  rw [if_pos (e ▸ gi_mem h)]
  congr 1
  rw [List.findIdx_eq h]
  exact ⟨by rw [← gi_eq h]; simpa using e, fun j hj => by rw [← gi_eq (by omega)]; simpa using hb j hj⟩
theorem idxI_not {l : List Int} {x : Int} (hb : ∀ j, j < l.length → gi l j ≠ x) : idxI l x = -1 := by
  unfold idxI
  rw [if_neg fun h => ?_]
  obtain ⟨n, h1, h2⟩ := gi_of_mem h
  exact hb n h1 h2
theorem idxI_pos {l : List Int} {x : Int} : 0 ≤ idxI l x ↔ x ∈ l := by
  unfold idxI
  split <;> simp_all

def bigN : Nat := 1000000
theorem s31 (X : AX) (hX : XOK Try.prog X) : PSound Try.prog 31 (specF (ι := {x : List Int × Int // x.1.length ≤ bigN}) (fun x => [.rd 1 (irows x.1.1), I x.1.2]) fun x => retOf [I (idxI x.1.1 x.1.2)]) := by
  refine psound_spec hX mixed Try.func31 rfl fun ⟨⟨l, x⟩, hl⟩ w0 G => ⟨by show 2 ≤ 19; decide, rfl, ?_⟩
  show AW ⟨Try.prog, X, 19, w0, .pure G⟩ _ _ _
  have hc : Cx.OK ⟨Try.prog, X, 19, w0, .pure G⟩ := ⟨hX, mixed⟩
  unfold bigN at hl
  simp only at hl ⊢
  repeat' (first | (apply aw_seq_k; intro K hK) | (refine aw_run hc (by first | exact aw_nod | (intro _; rw [ordB_w hw]; kernel_rfl) | (intro _; rw [ordB_w0 hw0]; kernel_rfl) | (intro _; kernel_rfl)) ?_; simp [List.zipIdx, -getM, getM_hit, getM_miss, getM_none]; (repeat (simp (disch := first | omega | assumption | fail) only [if_pos, if_neg, wrap64]; try simp [List.zipIdx, -getM, getM_hit, getM_miss, getM_none])); try (repeat' (refine guardQ_split (fun h => ?_) (fun h => ?_) <;> simp at h <;> (simp [List.zipIdx, -getM, getM_hit, getM_miss, getM_none]; (repeat (simp (disch := first | omega | assumption | fail) only [if_pos, if_neg, wrap64]; try simp [List.zipIdx, -getM, getM_hit, getM_miss, getM_none])))))) | (refine aw_cond (b := _) (by exact rfl) (fun h => ?_) (fun h => ?_) <;> (try simp at h)) | (refine aw_block ?_) | (refine aw_skip ?_; simp only [thenQ, blockQ, if_true]) | (refine aw_exit ?_; simp [thenQ, blockQ]) | (refine aw_ret ?_; simp only [thenQ, blockQ]) | (refine aw_round ?_) | (refine hK _ ?_; clear hK) | (clear hK; refine hK _ ?_; clear hK) | (clear hK; clear hK; refine hK _ ?_; clear hK) | (clear hK; clear hK; clear hK; refine hK _ ?_; clear hK))
  refine aw_loopK (s0 := ?lps1) (m0 := ?lpm1) (ι := {i : Nat // i ≤ l.length ∧ ∀ j, j < i → gi l j ≠ x}) [0, 1, 7] (fun i => [(8, I i.1)]) (fun _ => []) (fun i => l.length - i.1) ⟨0, by omega, by omega⟩ ?lhs1 ?lhm1 ?_ ?_
  case lhs1 => first | (simp [keepS]; done) | (simp [keepS]; rfl)
  case lhm1 => first | rfl | (simp; done) | (simp; rfl)
  · exact le_of2 (by simp) (by simp [AVle, AV.under, AV.underL] <;> omega) (by simp [AOle, AO.under, AV.underL, AV.under] <;> omega)
  · rintro ⟨i, hi, hinv⟩
    simp only
    rcases Decidable.em (i < l.length) with hil | hil
    · have hilI : (i : Int) < (l.length : Int) := by omega
      have hg := irows_gi hil
      rcases Decidable.em (x = gi l i) with he | he
      · repeat' (first | (apply aw_seq_k; intro K hK) | (refine aw_run hc (by first | exact aw_nod | (intro _; rw [ordB_w hw]; kernel_rfl) | (intro _; rw [ordB_w0 hw0]; kernel_rfl) | (intro _; kernel_rfl)) ?_; simp [List.zipIdx, hilI, hg, he, -getM, getM_hit, getM_miss, getM_none]; (repeat (simp (disch := first | omega | assumption | fail) only [if_pos, if_neg, wrap64]; try simp [List.zipIdx, hilI, hg, he, -getM, getM_hit, getM_miss, getM_none])); try (repeat' (refine guardQ_split (fun h => ?_) (fun h => ?_) <;> simp at h <;> (simp [List.zipIdx, hilI, hg, he, -getM, getM_hit, getM_miss, getM_none]; (repeat (simp (disch := first | omega | assumption | fail) only [if_pos, if_neg, wrap64]; try simp [List.zipIdx, hilI, hg, he, -getM, getM_hit, getM_miss, getM_none])))))) | (refine aw_cond (b := _) (by exact rfl) (fun h => ?_) (fun h => ?_) <;> (try simp at h)) | (refine aw_block ?_) | (refine aw_skip ?_; simp only [thenQ, blockQ, if_true]) | (refine aw_exit ?_; simp [thenQ, blockQ]) | (refine aw_ret ?_; simp only [thenQ, blockQ]) | (refine aw_round ?_) | (refine hK _ ?_; clear hK) | (clear hK; refine hK _ ?_; clear hK) | (clear hK; clear hK; refine hK _ ?_; clear hK) | (clear hK; clear hK; clear hK; refine hK _ ?_; clear hK))
        rw [← he, idxI_at hil he.symm hinv]
        refine ⟨by simp, ?_⟩
        simp [leaves_iff, Try.f31]
        try (first | omega | (refine decide_eq_decide.2 ?_; omega) | (refine decide_eq_false ?_; omega) | (refine decide_eq_true ?_; omega))
      · repeat' (first | (apply aw_seq_k; intro K hK) | (refine aw_run hc (by first | exact aw_nod | (intro _; rw [ordB_w hw]; kernel_rfl) | (intro _; rw [ordB_w0 hw0]; kernel_rfl) | (intro _; kernel_rfl)) ?_; simp [List.zipIdx, hilI, hg, he, -getM, getM_hit, getM_miss, getM_none]; (repeat (simp (disch := first | omega | assumption | fail) only [if_pos, if_neg, wrap64]; try simp [List.zipIdx, hilI, hg, he, -getM, getM_hit, getM_miss, getM_none])); try (repeat' (refine guardQ_split (fun h => ?_) (fun h => ?_) <;> simp at h <;> (simp [List.zipIdx, hilI, hg, he, -getM, getM_hit, getM_miss, getM_none]; (repeat (simp (disch := first | omega | assumption | fail) only [if_pos, if_neg, wrap64]; try simp [List.zipIdx, hilI, hg, he, -getM, getM_hit, getM_miss, getM_none])))))) | (refine aw_cond (b := _) (by exact rfl) (fun h => ?_) (fun h => ?_) <;> (try simp at h)) | (refine aw_block ?_) | (refine aw_skip ?_; simp only [thenQ, blockQ, if_true]) | (refine aw_exit ?_; simp [thenQ, blockQ]) | (refine aw_ret ?_; simp only [thenQ, blockQ]) | (refine aw_round ?_) | (refine hK _ ?_; clear hK) | (clear hK; refine hK _ ?_; clear hK) | (clear hK; clear hK; refine hK _ ?_; clear hK) | (clear hK; clear hK; clear hK; refine hK _ ?_; clear hK))
        refine ⟨i + 1, ?_, ⟨by omega, fun j hj => ?_⟩, by omega⟩
        · exact le_of2 (by simp) (by simp [AVle, AV.under, AV.underL] <;> omega) (by simp [AOle, AO.under, AV.underL, AV.under] <;> omega)
        · rcases Nat.lt_succ_iff_lt_or_eq.1 hj with h | rfl
          · exact hinv j h
          · exact fun e => he e.symm
    · obtain rfl : i = l.length := by omega
      repeat' (first | (apply aw_seq_k; intro K hK) | (refine aw_run hc (by first | exact aw_nod | (intro _; rw [ordB_w hw]; kernel_rfl) | (intro _; rw [ordB_w0 hw0]; kernel_rfl) | (intro _; kernel_rfl)) ?_; simp [List.zipIdx, -getM, getM_hit, getM_miss, getM_none]; (repeat (simp (disch := first | omega | assumption | fail) only [if_pos, if_neg, wrap64]; try simp [List.zipIdx, -getM, getM_hit, getM_miss, getM_none])); try (repeat' (refine guardQ_split (fun h => ?_) (fun h => ?_) <;> simp at h <;> (simp [List.zipIdx, -getM, getM_hit, getM_miss, getM_none]; (repeat (simp (disch := first | omega | assumption | fail) only [if_pos, if_neg, wrap64]; try simp [List.zipIdx, -getM, getM_hit, getM_miss, getM_none])))))) | (refine aw_cond (b := _) (by exact rfl) (fun h => ?_) (fun h => ?_) <;> (try simp at h)) | (refine aw_block ?_) | (refine aw_skip ?_; simp only [thenQ, blockQ, if_true]) | (refine aw_exit ?_; simp [thenQ, blockQ]) | (refine aw_ret ?_; simp only [thenQ, blockQ]) | (refine aw_round ?_) | (refine hK _ ?_; clear hK) | (clear hK; refine hK _ ?_; clear hK) | (clear hK; clear hK; refine hK _ ?_; clear hK) | (clear hK; clear hK; clear hK; refine hK _ ?_; clear hK))
      rw [idxI_not hinv]
      refine ⟨by simp, ?_⟩
      simp [leaves_iff, Try.f31]
      try (first | omega | (refine decide_eq_decide.2 ?_; omega) | (refine decide_eq_false ?_; omega) | (refine decide_eq_true ?_; omega))

theorem s28 (X : AX) (hX : XOK Try.prog X) : PSound Try.prog 28 (specF (ι := {x : List Int × Int // x.1.length ≤ bigN}) (fun x => [.rd 1 (irows x.1.1), I x.1.2]) fun x => retOf [I (idxI x.1.1 x.1.2)]) := by
  refine psound_spec hX mixed Try.func28 rfl fun ⟨⟨l, x⟩, hl⟩ w0 G => ⟨by show 2 ≤ 19; decide, rfl, ?_⟩
  show AW ⟨Try.prog, X, 19, w0, .pure G⟩ _ _ _
  have hc : Cx.OK ⟨Try.prog, X, 19, w0, .pure G⟩ := ⟨hX, mixed⟩
  unfold bigN at hl
  simp only at hl ⊢
  repeat' (first | (apply aw_seq_k; intro K hK) | (refine aw_run hc (by first | exact aw_nod | (intro _; rw [ordB_w hw]; kernel_rfl) | (intro _; rw [ordB_w0 hw0]; kernel_rfl) | (intro _; kernel_rfl)) ?_; simp [List.zipIdx, -getM, getM_hit, getM_miss, getM_none]; (repeat (simp (disch := first | omega | assumption | fail) only [if_pos, if_neg, wrap64]; try simp [List.zipIdx, -getM, getM_hit, getM_miss, getM_none])); try (repeat' (refine guardQ_split (fun h => ?_) (fun h => ?_) <;> simp at h <;> (simp [List.zipIdx, -getM, getM_hit, getM_miss, getM_none]; (repeat (simp (disch := first | omega | assumption | fail) only [if_pos, if_neg, wrap64]; try simp [List.zipIdx, -getM, getM_hit, getM_miss, getM_none])))))) | (refine aw_cond (b := _) (by exact rfl) (fun h => ?_) (fun h => ?_) <;> (try simp at h)) | (refine aw_block ?_) | (refine aw_skip ?_; simp only [thenQ, blockQ, if_true]) | (refine aw_exit ?_; simp [thenQ, blockQ]) | (refine aw_ret ?_; simp only [thenQ, blockQ]) | (refine aw_round ?_) | (refine hK _ ?_; clear hK) | (clear hK; refine hK _ ?_; clear hK) | (clear hK; clear hK; refine hK _ ?_; clear hK) | (clear hK; clear hK; clear hK; refine hK _ ?_; clear hK))
  refine aw_loopK (s0 := ?lps2) (m0 := ?lpm2) (ι := {i : Nat // i ≤ l.length ∧ ∀ j, j < i → gi l j ≠ x}) [0, 1] (fun i => [(5, I i.1)]) (fun _ => []) (fun i => l.length - i.1) ⟨0, by omega, by omega⟩ ?lhs2 ?lhm2 ?_ ?_
  case lhs2 => first | (simp [keepS]; done) | (simp [keepS]; rfl)
  case lhm2 => first | rfl | (simp; done) | (simp; rfl)
  · exact le_of2 (by simp) (by simp [AVle, AV.under, AV.underL] <;> omega) (by simp [AOle, AO.under, AV.underL, AV.under] <;> omega)
  · rintro ⟨i, hi, hinv⟩
    simp only
    rcases Decidable.em (i < l.length) with hil | hil
    · have hilI : (i : Int) < (l.length : Int) := by omega
      have hg := irows_gi hil
      rcases Decidable.em (gi l i = x) with he | he
      · rw [he] at hg
        repeat' (first | (apply aw_seq_k; intro K hK) | (refine aw_run hc (by first | exact aw_nod | (intro _; rw [ordB_w hw]; kernel_rfl) | (intro _; rw [ordB_w0 hw0]; kernel_rfl) | (intro _; kernel_rfl)) ?_; simp [List.zipIdx, hilI, hg, -getM, getM_hit, getM_miss, getM_none]; (repeat (simp (disch := first | omega | assumption | fail) only [if_pos, if_neg, wrap64]; try simp [List.zipIdx, hilI, hg, -getM, getM_hit, getM_miss, getM_none])); try (repeat' (refine guardQ_split (fun h => ?_) (fun h => ?_) <;> simp at h <;> (simp [List.zipIdx, hilI, hg, -getM, getM_hit, getM_miss, getM_none]; (repeat (simp (disch := first | omega | assumption | fail) only [if_pos, if_neg, wrap64]; try simp [List.zipIdx, hilI, hg, -getM, getM_hit, getM_miss, getM_none])))))) | (refine aw_cond (b := _) (by exact rfl) (fun h => ?_) (fun h => ?_) <;> (try simp at h)) | (refine aw_block ?_) | (refine aw_skip ?_; simp only [thenQ, blockQ, if_true]) | (refine aw_exit ?_; simp [thenQ, blockQ]) | (refine aw_ret ?_; simp only [thenQ, blockQ]) | (refine aw_round ?_) | (refine hK _ ?_; clear hK) | (clear hK; refine hK _ ?_; clear hK) | (clear hK; clear hK; refine hK _ ?_; clear hK) | (clear hK; clear hK; clear hK; refine hK _ ?_; clear hK))
        rw [idxI_at hil he hinv]
        refine ⟨by simp, ?_⟩
        simp [leaves_iff, Try.f28]
        try (first | omega | (refine decide_eq_decide.2 ?_; omega) | (refine decide_eq_false ?_; omega) | (refine decide_eq_true ?_; omega))
      · repeat' (first | (apply aw_seq_k; intro K hK) | (refine aw_run hc (by first | exact aw_nod | (intro _; rw [ordB_w hw]; kernel_rfl) | (intro _; rw [ordB_w0 hw0]; kernel_rfl) | (intro _; kernel_rfl)) ?_; simp [List.zipIdx, hilI, hg, he, -getM, getM_hit, getM_miss, getM_none]; (repeat (simp (disch := first | omega | assumption | fail) only [if_pos, if_neg, wrap64]; try simp [List.zipIdx, hilI, hg, he, -getM, getM_hit, getM_miss, getM_none])); try (repeat' (refine guardQ_split (fun h => ?_) (fun h => ?_) <;> simp at h <;> (simp [List.zipIdx, hilI, hg, he, -getM, getM_hit, getM_miss, getM_none]; (repeat (simp (disch := first | omega | assumption | fail) only [if_pos, if_neg, wrap64]; try simp [List.zipIdx, hilI, hg, he, -getM, getM_hit, getM_miss, getM_none])))))) | (refine aw_cond (b := _) (by exact rfl) (fun h => ?_) (fun h => ?_) <;> (try simp at h)) | (refine aw_block ?_) | (refine aw_skip ?_; simp only [thenQ, blockQ, if_true]) | (refine aw_exit ?_; simp [thenQ, blockQ]) | (refine aw_ret ?_; simp only [thenQ, blockQ]) | (refine aw_round ?_) | (refine hK _ ?_; clear hK) | (clear hK; refine hK _ ?_; clear hK) | (clear hK; clear hK; refine hK _ ?_; clear hK) | (clear hK; clear hK; clear hK; refine hK _ ?_; clear hK))
        refine ⟨i + 1, ?_, ⟨by omega, fun j hj => ?_⟩, by omega⟩
        · exact le_of2 (by simp) (by simp [AVle, AV.under, AV.underL] <;> omega) (by simp [AOle, AO.under, AV.underL, AV.under] <;> omega)
        · rcases Nat.lt_succ_iff_lt_or_eq.1 hj with h | rfl
          · exact hinv j h
          · exact he
    · obtain rfl : i = l.length := by omega
      repeat' (first | (apply aw_seq_k; intro K hK) | (refine aw_run hc (by first | exact aw_nod | (intro _; rw [ordB_w hw]; kernel_rfl) | (intro _; rw [ordB_w0 hw0]; kernel_rfl) | (intro _; kernel_rfl)) ?_; simp [List.zipIdx, -getM, getM_hit, getM_miss, getM_none]; (repeat (simp (disch := first | omega | assumption | fail) only [if_pos, if_neg, wrap64]; try simp [List.zipIdx, -getM, getM_hit, getM_miss, getM_none])); try (repeat' (refine guardQ_split (fun h => ?_) (fun h => ?_) <;> simp at h <;> (simp [List.zipIdx, -getM, getM_hit, getM_miss, getM_none]; (repeat (simp (disch := first | omega | assumption | fail) only [if_pos, if_neg, wrap64]; try simp [List.zipIdx, -getM, getM_hit, getM_miss, getM_none])))))) | (refine aw_cond (b := _) (by exact rfl) (fun h => ?_) (fun h => ?_) <;> (try simp at h)) | (refine aw_block ?_) | (refine aw_skip ?_; simp only [thenQ, blockQ, if_true]) | (refine aw_exit ?_; simp [thenQ, blockQ]) | (refine aw_ret ?_; simp only [thenQ, blockQ]) | (refine aw_round ?_) | (refine hK _ ?_; clear hK) | (clear hK; refine hK _ ?_; clear hK) | (clear hK; clear hK; refine hK _ ?_; clear hK) | (clear hK; clear hK; clear hK; refine hK _ ?_; clear hK))
      rw [idxI_not hinv]
      refine ⟨by simp, ?_⟩
      simp [leaves_iff, Try.f28]
      try (first | omega | (refine decide_eq_decide.2 ?_; omega) | (refine decide_eq_false ?_; omega) | (refine decide_eq_true ?_; omega))

theorem s30 (X : AX) (hX : XOK Try.prog X) (h31 : ∀ l x M n, l.length ≤ bigN → X.call 31 [.rd 1 (irows l), I x] M n = some (I (idxI l x), [])) : PSound Try.prog 30 (specF (ι := {x : List Int × Int // x.1.length ≤ bigN}) (fun x => [.rd 1 (irows x.1.1), I x.1.2]) fun x => retOf [B (x.1.2 ∈ x.1.1)]) := by
  refine psound_spec hX mixed Try.func30 rfl fun ⟨⟨l, x⟩, hl⟩ w0 G => ⟨by show 2 ≤ 9; decide, rfl, ?_⟩
  show AW ⟨Try.prog, X, 9, w0, .pure G⟩ _ _ _
  have hc : Cx.OK ⟨Try.prog, X, 9, w0, .pure G⟩ := ⟨hX, mixed⟩
  simp only at hl ⊢
  have h := fun M n => h31 l x M n hl
  repeat' (first | (apply aw_seq_k; intro K hK) | (refine aw_run hc (by first | exact aw_nod | (intro _; rw [ordB_w hw]; kernel_rfl) | (intro _; rw [ordB_w0 hw0]; kernel_rfl) | (intro _; kernel_rfl)) ?_; simp [h, idxI_pos, -getM, getM_hit, getM_miss, getM_none]; (repeat (simp (disch := first | omega | assumption | fail) only [if_pos, if_neg, wrap64]; try simp [h, idxI_pos, -getM, getM_hit, getM_miss, getM_none])); try (repeat' (refine guardQ_split (fun h => ?_) (fun h => ?_) <;> simp at h <;> (simp [h, idxI_pos, -getM, getM_hit, getM_miss, getM_none]; (repeat (simp (disch := first | omega | assumption | fail) only [if_pos, if_neg, wrap64]; try simp [h, idxI_pos, -getM, getM_hit, getM_miss, getM_none])))))) | (refine aw_cond (b := _) (by exact rfl) (fun h => ?_) (fun h => ?_) <;> (try simp at h)) | (refine aw_block ?_) | (refine aw_skip ?_; simp only [thenQ, blockQ, if_true]) | (refine aw_exit ?_; simp [thenQ, blockQ]) | (refine aw_ret ?_; simp only [thenQ, blockQ]) | (refine aw_round ?_) | (refine hK _ ?_; clear hK) | (clear hK; refine hK _ ?_; clear hK) | (clear hK; clear hK; refine hK _ ?_; clear hK) | (clear hK; clear hK; clear hK; refine hK _ ?_; clear hK))
  refine ⟨by simp, ?_⟩
  simp [leaves_iff, Try.f30]
  try (first | omega | (refine decide_eq_decide.2 ?_; omega) | (refine decide_eq_false ?_; omega) | (refine decide_eq_true ?_; omega))

/-! Evictions: the distance to the last one of a page. -/
def dk (l : List Int) (p : Int) : Nat → Int
  | 0 => -2
  | k + 1 => if gi l k = p then (l.length : Int) - 1 - k else dk l p k
def distL (l : List Int) (p : Int) : Int := dk l p l.length
def wE (l : List Int) : Nat → List (List Int × AV)
  | 0 => []
  | k + 1 => mset (wE l k) [gi l k] (I (k + 1))
def whenE (l : List Int) : List (List Int × AV) := wE l l.length
def distM (c : Int) (es : List (List Int × AV)) (p : Int) : Int := match mget es [p] with
  | some (.v (.int .i64 a)) => c - a
  | _ => -2

theorem mget_mset {es : List (List Int × AV)} {q r : List Int} {a : AV} : mget (mset es q a) r = if r = q then some a else mget es r := by
  induction es with
  | nil =>
    simp only [mset, mget]
  | cons e es ih =>
    obtain ⟨k, b⟩ := e
    simp only [mset]
    split
    · rename_i h; subst h
      simp only [mget]
      split <;> simp_all
    · rename_i h
      simp only [mget, ih]
      by_cases h1 : r = k
      · subst h1
        rw [if_pos rfl, if_neg fun e => h e.symm]
        simp
      · rw [if_neg h1, if_neg h1]

theorem wE_get (l : List Int) (p : Int) : ∀ k, k ≤ l.length → (mget (wE l k) [p] = none ∧ dk l p k = -2) ∨ ∃ a : Nat, mget (wE l k) [p] = some (I (a : Int)) ∧ 1 ≤ a ∧ a ≤ k ∧ dk l p k = (l.length : Int) - a
  | 0, _ => .inl ⟨rfl, rfl⟩
  | k + 1, h => by
    simp only [wE, mget_mset, dk]
    by_cases e : gi l k = p
    · right
      refine ⟨k + 1, by simp [e], by omega, by omega, ?_⟩
      rw [if_pos e]; omega
    · have e' : ¬ [p] = [gi l k] := fun h => e (by simpa using h.symm)
      rw [if_neg e', if_neg e]
      rcases wE_get l p k (by omega) with h1 | ⟨a, h1, h2, h3, h4⟩
      · exact .inl h1
      · exact .inr ⟨a, h1, h2, by omega, h4⟩
theorem distM_eq (l : List Int) (p : Int) : distM l.length (whenE l) p = distL l p := by
  unfold distM whenE distL
  rcases wE_get l p l.length (Nat.le_refl _) with ⟨h1, h2⟩ | ⟨a, h1, _, _, h2⟩
  · rw [h1, h2]
  · rw [h1, h2]
theorem gi_app {l : List Int} {x : Int} {k : Nat} (h : k < l.length) : gi (l ++ [x]) k = gi l k := by
  unfold gi; simp [List.getD_eq_getElem?_getD, List.getElem?_append_left h]
theorem gi_last {l : List Int} {x : Int} : gi (l ++ [x]) l.length = x := by
  unfold gi; simp [List.getD_eq_getElem?_getD]
theorem wE_app (l : List Int) (x : Int) : ∀ k, k ≤ l.length → wE (l ++ [x]) k = wE l k
  | 0, _ => rfl
  | k + 1, h => by simp only [wE, wE_app l x k (by omega), gi_app (show k < l.length by omega)]
theorem whenE_app (l : List Int) (x : Int) : whenE (l ++ [x]) = mset (whenE l) [x] (I (l.length + 1)) := by
  unfold whenE
  rw [show (l ++ [x]).length = l.length + 1 by simp]
  simp only [wE, wE_app l x l.length (Nat.le_refl _), gi_last]
theorem wE_plain (l : List Int) : ∀ k, ∀ p ∈ wE l k, ∃ n, p.2 = I n
  | 0, p, h => by simp [wE] at h
  | k + 1, p, h => by
    have : ∀ (es : List (List Int × AV)) (q : List Int) (n : Int), (∀ p ∈ es, ∃ n, p.2 = I n) → ∀ p ∈ mset es q (I n), ∃ n, p.2 = I n := by
      intro es q n
      induction es with
      | nil => intro _ p hp; simp [mset] at hp; exact ⟨n, by rw [hp]⟩
      | cons e es ih =>
        obtain ⟨k, b⟩ := e
        intro h p hp
        simp only [mset] at hp
        split at hp
        · rcases List.mem_cons.1 hp with rfl | hp
          · exact ⟨n, rfl⟩
          · exact h p (by simp [hp])
        · rcases List.mem_cons.1 hp with rfl | hp
          · exact h _ (by simp)
          · exact ih (fun p hp => h p (by simp [hp])) p hp
    exact this _ _ _ (wE_plain l k) p h

theorem whenE_pl (l : List Int) : ∀ p ∈ whenE l, p.2.plain := fun p hp => by
  obtain ⟨n, h⟩ := wE_plain l _ p hp
  rw [h]; trivial
theorem mset_pl {es : List (List Int × AV)} {q : List Int} {a : AV} (ha : a.plain) (h : ∀ p ∈ es, p.2.plain) : ∀ p ∈ mset es q a, p.2.plain := by
  induction es with
  | nil => intro p hp; simp [mset] at hp; rw [hp]; exact ha
  | cons e es ih =>
    obtain ⟨k, b⟩ := e
    intro p hp
    simp only [mset] at hp
    split at hp
    · rcases List.mem_cons.1 hp with rfl | hp
      · exact ha
      · exact h p (by simp [hp])
    · rcases List.mem_cons.1 hp with rfl | hp
      · exact h _ (by simp)
      · exact ih (fun p hp => h p (by simp [hp])) p hp

theorem s29 (X : AX) (hX : XOK Try.prog X) : PSound Try.prog 29 (specF (ι := {x : List Int × Int // x.1.length ≤ bigN}) (fun x => [.rd 1 (irows x.1.1), I x.1.2]) fun x => retOf [I (distL x.1.1 x.1.2)]) := by
  refine psound_spec hX mixed Try.func29 rfl fun ⟨⟨l, p⟩, hl⟩ w0 G => ⟨by show 2 ≤ 25; decide, rfl, ?_⟩
  show AW ⟨Try.prog, X, 25, w0, .pure G⟩ _ _ _
  have hc : Cx.OK ⟨Try.prog, X, 25, w0, .pure G⟩ := ⟨hX, mixed⟩
  unfold bigN at hl
  simp only at hl ⊢
  repeat' (first | (apply aw_seq_k; intro K hK) | (refine aw_run hc (by first | exact aw_nod | (intro _; rw [ordB_w hw]; kernel_rfl) | (intro _; rw [ordB_w0 hw0]; kernel_rfl) | (intro _; kernel_rfl)) ?_; simp [List.zipIdx, -getM, getM_hit, getM_miss, getM_none]; (repeat (simp (disch := first | omega | assumption | fail) only [if_pos, if_neg, wrap64]; try simp [List.zipIdx, -getM, getM_hit, getM_miss, getM_none])); try (repeat' (refine guardQ_split (fun h => ?_) (fun h => ?_) <;> simp at h <;> (simp [List.zipIdx, -getM, getM_hit, getM_miss, getM_none]; (repeat (simp (disch := first | omega | assumption | fail) only [if_pos, if_neg, wrap64]; try simp [List.zipIdx, -getM, getM_hit, getM_miss, getM_none])))))) | (refine aw_cond (b := _) (by exact rfl) (fun h => ?_) (fun h => ?_) <;> (try simp at h)) | (refine aw_block ?_) | (refine aw_skip ?_; simp only [thenQ, blockQ, if_true]) | (refine aw_exit ?_; simp [thenQ, blockQ]) | (refine aw_ret ?_; simp only [thenQ, blockQ]) | (refine aw_round ?_) | (refine hK _ ?_; clear hK) | (clear hK; refine hK _ ?_; clear hK) | (clear hK; clear hK; refine hK _ ?_; clear hK) | (clear hK; clear hK; clear hK; refine hK _ ?_; clear hK))
  refine aw_loopK (s0 := ?lps3) (m0 := ?lpm3) (ι := {i : Nat // i ≤ l.length}) [0, 1] (fun i => [(6, I i.1), (5, I (dk l p i.1))]) (fun _ => []) (fun i => l.length - i.1) ⟨0, by omega⟩ ?lhs3 ?lhm3 ?_ ?_
  case lhs3 => first | (simp [keepS]; done) | (simp [keepS]; rfl)
  case lhm3 => first | rfl | (simp; done) | (simp; rfl)
  · simp only [dk]
    exact le_of2 (by simp) (by simp [AVle, AV.under, AV.underL] <;> omega) (by simp [AOle, AO.under, AV.underL, AV.under] <;> omega)
  · rintro ⟨i, hi⟩
    simp only
    rcases Decidable.em (i < l.length) with hil | hil
    · have hilI : (i : Int) < (l.length : Int) := by omega
      have hg := irows_gi hil
      rcases Decidable.em (gi l i = p) with he | he
      · rw [he] at hg
        have hd : dk l p (i + 1) = (l.length : Int) - 1 - i := by simp only [dk]; rw [if_pos he]
        repeat' (first | (apply aw_seq_k; intro K hK) | (refine aw_run hc (by first | exact aw_nod | (intro _; rw [ordB_w hw]; kernel_rfl) | (intro _; rw [ordB_w0 hw0]; kernel_rfl) | (intro _; kernel_rfl)) ?_; simp [List.zipIdx, hilI, hg, -getM, getM_hit, getM_miss, getM_none]; (repeat (simp (disch := first | omega | assumption | fail) only [if_pos, if_neg, wrap64]; try simp [List.zipIdx, hilI, hg, -getM, getM_hit, getM_miss, getM_none])); try (repeat' (refine guardQ_split (fun h => ?_) (fun h => ?_) <;> simp at h <;> (simp [List.zipIdx, hilI, hg, -getM, getM_hit, getM_miss, getM_none]; (repeat (simp (disch := first | omega | assumption | fail) only [if_pos, if_neg, wrap64]; try simp [List.zipIdx, hilI, hg, -getM, getM_hit, getM_miss, getM_none])))))) | (refine aw_cond (b := _) (by exact rfl) (fun h => ?_) (fun h => ?_) <;> (try simp at h)) | (refine aw_block ?_) | (refine aw_skip ?_; simp only [thenQ, blockQ, if_true]) | (refine aw_exit ?_; simp [thenQ, blockQ]) | (refine aw_ret ?_; simp only [thenQ, blockQ]) | (refine aw_round ?_) | (refine hK _ ?_; clear hK) | (clear hK; refine hK _ ?_; clear hK) | (clear hK; clear hK; refine hK _ ?_; clear hK) | (clear hK; clear hK; clear hK; refine hK _ ?_; clear hK))
        refine ⟨i + 1, ?_, by omega, by omega⟩
        simp only [hd]
        exact le_of2 (by simp) (by simp [AVle, AV.under, AV.underL] <;> omega) (by simp [AOle, AO.under, AV.underL, AV.under] <;> omega)
      · have hd : dk l p (i + 1) = dk l p i := by simp only [dk]; rw [if_neg he]
        repeat' (first | (apply aw_seq_k; intro K hK) | (refine aw_run hc (by first | exact aw_nod | (intro _; rw [ordB_w hw]; kernel_rfl) | (intro _; rw [ordB_w0 hw0]; kernel_rfl) | (intro _; kernel_rfl)) ?_; simp [List.zipIdx, hilI, hg, he, -getM, getM_hit, getM_miss, getM_none]; (repeat (simp (disch := first | omega | assumption | fail) only [if_pos, if_neg, wrap64]; try simp [List.zipIdx, hilI, hg, he, -getM, getM_hit, getM_miss, getM_none])); try (repeat' (refine guardQ_split (fun h => ?_) (fun h => ?_) <;> simp at h <;> (simp [List.zipIdx, hilI, hg, he, -getM, getM_hit, getM_miss, getM_none]; (repeat (simp (disch := first | omega | assumption | fail) only [if_pos, if_neg, wrap64]; try simp [List.zipIdx, hilI, hg, he, -getM, getM_hit, getM_miss, getM_none])))))) | (refine aw_cond (b := _) (by exact rfl) (fun h => ?_) (fun h => ?_) <;> (try simp at h)) | (refine aw_block ?_) | (refine aw_skip ?_; simp only [thenQ, blockQ, if_true]) | (refine aw_exit ?_; simp [thenQ, blockQ]) | (refine aw_ret ?_; simp only [thenQ, blockQ]) | (refine aw_round ?_) | (refine hK _ ?_; clear hK) | (clear hK; refine hK _ ?_; clear hK) | (clear hK; clear hK; refine hK _ ?_; clear hK) | (clear hK; clear hK; clear hK; refine hK _ ?_; clear hK))
        refine ⟨i + 1, ?_, by omega, by omega⟩
        simp only [hd]
        exact le_of2 (by simp) (by simp [AVle, AV.under, AV.underL] <;> omega) (by simp [AOle, AO.under, AV.underL, AV.under] <;> omega)
    · obtain rfl : i = l.length := by omega
      repeat' (first | (apply aw_seq_k; intro K hK) | (refine aw_run hc (by first | exact aw_nod | (intro _; rw [ordB_w hw]; kernel_rfl) | (intro _; rw [ordB_w0 hw0]; kernel_rfl) | (intro _; kernel_rfl)) ?_; simp [List.zipIdx, -getM, getM_hit, getM_miss, getM_none]; (repeat (simp (disch := first | omega | assumption | fail) only [if_pos, if_neg, wrap64]; try simp [List.zipIdx, -getM, getM_hit, getM_miss, getM_none])); try (repeat' (refine guardQ_split (fun h => ?_) (fun h => ?_) <;> simp at h <;> (simp [List.zipIdx, -getM, getM_hit, getM_miss, getM_none]; (repeat (simp (disch := first | omega | assumption | fail) only [if_pos, if_neg, wrap64]; try simp [List.zipIdx, -getM, getM_hit, getM_miss, getM_none])))))) | (refine aw_cond (b := _) (by exact rfl) (fun h => ?_) (fun h => ?_) <;> (try simp at h)) | (refine aw_block ?_) | (refine aw_skip ?_; simp only [thenQ, blockQ, if_true]) | (refine aw_exit ?_; simp [thenQ, blockQ]) | (refine aw_ret ?_; simp only [thenQ, blockQ]) | (refine aw_round ?_) | (refine hK _ ?_; clear hK) | (clear hK; refine hK _ ?_; clear hK) | (clear hK; clear hK; refine hK _ ?_; clear hK) | (clear hK; clear hK; clear hK; refine hK _ ?_; clear hK))
      refine ⟨by simp, ?_⟩
      simp [leaves_iff, Try.f29, distL]
      try (first | omega | (refine decide_eq_decide.2 ?_; omega) | (refine decide_eq_false ?_; omega) | (refine decide_eq_true ?_; omega))

theorem s25 (X : AX) (hX : XOK Try.prog X) : PSound Try.prog 25 (specF (ι := {x : List Int × Int // x.1.length ≤ bigN}) (fun x => [.rp [I x.1.1.length, .rm 1 (whenE x.1.1)], I x.1.2]) fun x => retOf [I (distM x.1.1.length (whenE x.1.1) x.1.2)]) := by
  refine psound_spec hX mixed Try.func25 rfl fun ⟨⟨l, p⟩, hl⟩ w0 G => ⟨by show 2 ≤ 23; decide, rfl, ?_⟩
  show AW ⟨Try.prog, X, 23, w0, .pure G⟩ _ _ _
  have hc : Cx.OK ⟨Try.prog, X, 23, w0, .pure G⟩ := ⟨hX, mixed⟩
  unfold bigN at hl
  simp only at hl ⊢
  have hdm := distM_eq l p
  unfold distM whenE
  unfold distM whenE at hdm
  rcases wE_get l p l.length (Nat.le_refl _) with ⟨h1, h2⟩ | ⟨a, h1, h3, h4, h2⟩
  · simp only [h1] at hdm ⊢
    repeat' (first | (apply aw_seq_k; intro K hK) | (refine aw_run hc (by first | exact aw_nod | (intro _; rw [ordB_w hw]; kernel_rfl) | (intro _; rw [ordB_w0 hw0]; kernel_rfl) | (intro _; kernel_rfl)) ?_; simp [h1, -getM, getM_hit, getM_miss, getM_none]; (repeat (simp (disch := first | omega | assumption | fail) only [if_pos, if_neg, wrap64]; try simp [h1, -getM, getM_hit, getM_miss, getM_none])); try (repeat' (refine guardQ_split (fun h => ?_) (fun h => ?_) <;> simp at h <;> (simp [h1, -getM, getM_hit, getM_miss, getM_none]; (repeat (simp (disch := first | omega | assumption | fail) only [if_pos, if_neg, wrap64]; try simp [h1, -getM, getM_hit, getM_miss, getM_none])))))) | (refine aw_cond (b := _) (by exact rfl) (fun h => ?_) (fun h => ?_) <;> (try simp at h)) | (refine aw_block ?_) | (refine aw_skip ?_; simp only [thenQ, blockQ, if_true]) | (refine aw_exit ?_; simp [thenQ, blockQ]) | (refine aw_ret ?_; simp only [thenQ, blockQ]) | (refine aw_round ?_) | (refine hK _ ?_; clear hK) | (clear hK; refine hK _ ?_; clear hK) | (clear hK; clear hK; refine hK _ ?_; clear hK) | (clear hK; clear hK; clear hK; refine hK _ ?_; clear hK))
    refine ⟨by simp, ?_⟩
    simp [leaves_iff, Try.f25]
    try (first | omega | (refine decide_eq_decide.2 ?_; omega) | (refine decide_eq_false ?_; omega) | (refine decide_eq_true ?_; omega))
  · simp only [h1] at hdm ⊢
    repeat' (first | (apply aw_seq_k; intro K hK) | (refine aw_run hc (by first | exact aw_nod | (intro _; rw [ordB_w hw]; kernel_rfl) | (intro _; rw [ordB_w0 hw0]; kernel_rfl) | (intro _; kernel_rfl)) ?_; simp [h1, -getM, getM_hit, getM_miss, getM_none]; (repeat (simp (disch := first | omega | assumption | fail) only [if_pos, if_neg, wrap64]; try simp [h1, -getM, getM_hit, getM_miss, getM_none])); try (repeat' (refine guardQ_split (fun h => ?_) (fun h => ?_) <;> simp at h <;> (simp [h1, -getM, getM_hit, getM_miss, getM_none]; (repeat (simp (disch := first | omega | assumption | fail) only [if_pos, if_neg, wrap64]; try simp [h1, -getM, getM_hit, getM_miss, getM_none])))))) | (refine aw_cond (b := _) (by exact rfl) (fun h => ?_) (fun h => ?_) <;> (try simp at h)) | (refine aw_block ?_) | (refine aw_skip ?_; simp only [thenQ, blockQ, if_true]) | (refine aw_exit ?_; simp [thenQ, blockQ]) | (refine aw_ret ?_; simp only [thenQ, blockQ]) | (refine aw_round ?_) | (refine hK _ ?_; clear hK) | (clear hK; refine hK _ ?_; clear hK) | (clear hK; clear hK; refine hK _ ?_; clear hK) | (clear hK; clear hK; clear hK; refine hK _ ?_; clear hK))
    refine ⟨by simp, ?_⟩
    simp [leaves_iff, Try.f25]
    try (first | omega | (refine decide_eq_decide.2 ?_; omega) | (refine decide_eq_false ?_; omega) | (refine decide_eq_true ?_; omega))
end Go.AM
