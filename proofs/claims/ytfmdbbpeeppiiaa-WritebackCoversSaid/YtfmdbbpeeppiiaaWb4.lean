/- Writeback: ref.Check. -/
import Derived.Test.YtfmdbbpeeppiiaaWb3
set_option linter.all false

namespace Go.AM
open Go Go.Proofs

/-- The cells of an array of truths. -/
def bcs (l : List Bool) : List AV := l.map B
def gb (l : List Bool) (n : Nat) : Bool := l.getD n false
@[simp] theorem bcs_len (l : List Bool) : (bcs l).length = l.length := by simp [bcs]
theorem bcs_get {l : List Bool} {n : Nat} (h : n < l.length) : (bcs l)[n]? = some (B (gb l n)) := by
  simp [bcs, gb, List.getD_eq_getElem?_getD, h]
theorem bcs_set (l : List Bool) (n : Nat) (v : Bool) : (bcs l).set n (B v) = bcs (l.set n v) := by
  simp [bcs, List.map_set]
@[simp] theorem bcs_under (n : Nat) (l : List Bool) : AV.underL n (bcs l) := by
  induction l with
  | nil => simp [bcs, AV.underL]
  | cons x l ih => simp only [bcs, List.map_cons, AV.underL]; exact ⟨by simp [AV.under], ih⟩
@[simp] theorem bcs_cur (M : Nat → AO) (l : List Bool) : curL M (bcs l) := by
  induction l with
  | nil => simp [bcs, curL]
  | cons x l ih => simp only [bcs, List.map_cons, curL]; exact ⟨by simp [AV.cur], ih⟩
@[simp] theorem bcs_iso (n : Nat) (σ : Nat → Nat) (l : List Bool) : isoL n σ (bcs l) = bcs l := by
  induction l with
  | nil => simp [bcs, isoL]
  | cons x l ih => simp only [bcs, List.map_cons, isoL] at ih ⊢; rw [ih]; simp [AV.iso]

def seenL (l : List Nat) : List Bool := (List.range 64).map fun k => decide (k ∈ l)
theorem seenL_len (l : List Nat) : (seenL l).length = 64 := by simp [seenL]
theorem seenL_gb (l : List Nat) {k : Nat} (h : k < 64) : gb (seenL l) k = decide (k ∈ l) := by
  unfold gb seenL
  simp [List.getD_eq_getElem?_getD, h]
theorem seenL_ext {l m : List Nat} (h : ∀ k, k ∈ l ↔ k ∈ m) : seenL l = seenL m := by
  unfold seenL
  refine List.map_congr_left fun k _ => ?_
  simp [h]
theorem seenL_set {l m : List Nat} {x : Nat} (hm : ∀ k, k ∈ m ↔ k ∈ l ∨ k = x) : (seenL l).set x true = seenL m := by
  refine List.ext_getElem (by simp [seenL]) fun k h1 h2 => ?_
  rw [List.getElem_set]
  simp only [seenL, List.getElem_map, List.getElem_range]
  by_cases e : x = k
  · subst e; simp [hm]
  · rw [if_neg e]
    have : k ≠ x := fun h => e h.symm
    simp [hm, this]
def z64 : List Value := List.replicate 64 (.bool false)
def o64 : List Bool := List.replicate 64 false
theorem ty58 : Types Try.prog 58 = some ⟨.array 4 57, 64, 64, z64⟩ := by kernel_rfl
theorem z64_one : ∀ x ∈ z64, x.oneCell' = true := by
  intro x hx
  rw [(List.mem_replicate.1 hx).2]; rfl
theorem z64_all : (∀ x : Value, x ∈ z64 → x.oneCell' = true) = True := eq_true z64_one
theorem z64_map : z64.map AV.v = bcs o64 := by
  unfold z64 bcs o64
  rw [List.map_replicate, List.map_replicate]
theorem seen0 : seenL [] = o64 := by decide +kernel

/-- The cell of a page. -/
def cix (p : Tp) : Nat := 16 * p.1.toNat + p.2.1.toNat
theorem cix_inj {p q : Tp} (hp : pgN p.1 p.2.1) (hq : pgN q.1 q.2.1) : cix p = cix q ↔ plc p = plc q := by
  obtain ⟨⟨a1, a2⟩, a3, a4⟩ := hp
  obtain ⟨⟨b1, b2⟩, b3, b4⟩ := hq
  obtain ⟨p1, p2, p3⟩ := p
  obtain ⟨q1, q2, q3⟩ := q
  simp only [cix, plc, Prod.mk.injEq] at *
  omega
theorem nodup_cix {l : List Tp} (h : chkV l) : ∀ {k : Nat}, k < l.length → (cix (gd l k) ∈ (l.take k).map cix ↔ plc (gd l k) ∈ (l.take k).map plc) := by
  intro k hk
  have hv : ∀ p ∈ l, pgN p.1 p.2.1 := fun p hp => by
    obtain ⟨j, hj, rfl⟩ := List.getElem_of_mem hp
    have := (h j hj).1
    rwa [gd_eq hj] at this
  simp only [List.mem_map]
  constructor
  · rintro ⟨p, hp, e⟩
    exact ⟨p, hp, (cix_inj (hv _ (List.mem_of_mem_take hp)) (hv _ (gd_mem hk))).1 e⟩
  · rintro ⟨p, hp, e⟩
    exact ⟨p, hp, (cix_inj (hv _ (List.mem_of_mem_take hp)) (hv _ (gd_mem hk))).2 e⟩
def seenT (l : List Tp) (i : Nat) : List Bool := seenL ((l.take i).map cix)
def ndT (l : List Tp) (i : Nat) : Prop := ((l.take i).map plc).Nodup
theorem s15 (X : AX) (hX : XOK Try.prog X) (hw : X.W wT) : PSound Try.prog 15 (specF (ι := {l : List Tp // l.length ≤ 9223372036854775807}) (fun x => [.rd 3 (drows x.1)]) fun x => retOf [I (chkD x.1)]) := by
  refine psound_spec hX mixed Try.func15 rfl fun ⟨l, hl⟩ w0 G => ⟨by show 1 ≤ 58; decide, rfl, ?_⟩
  show AW ⟨Try.prog, X, 58, w0, .pure G⟩ _ _ _
  have hc : Cx.OK ⟨Try.prog, X, 58, w0, .pure G⟩ := ⟨hX, mixed⟩
  simp only at hl ⊢
  repeat' (first | (apply aw_seq_k; intro K hK) | (refine aw_run hc (by first | exact aw_nod | (intro _; rw [ordB_w hw]; kernel_rfl) | (intro _; rw [ordB_w0 hw0]; kernel_rfl) | (intro _; kernel_rfl)) ?_; simp [List.zipIdx, -getM, getM_hit, getM_miss, getM_none]; (repeat (simp (disch := first | omega | assumption | fail) only [if_pos, if_neg, wrap64]; try simp [List.zipIdx, -getM, getM_hit, getM_miss, getM_none])); try (repeat' (refine guardQ_split (fun h => ?_) (fun h => ?_) <;> simp at h <;> (simp [List.zipIdx, -getM, getM_hit, getM_miss, getM_none]; (repeat (simp (disch := first | omega | assumption | fail) only [if_pos, if_neg, wrap64]; try simp [List.zipIdx, -getM, getM_hit, getM_miss, getM_none])))))) | (refine aw_cond (b := _) (by exact rfl) (fun h => ?_) (fun h => ?_) <;> (try simp at h)) | (refine aw_block ?_) | (refine aw_skip ?_; simp only [thenQ, blockQ, if_true]) | (refine aw_exit ?_; simp [thenQ, blockQ]) | (refine aw_ret ?_; simp only [thenQ, blockQ]) | (refine aw_round ?_) | (refine hK _ ?_; clear hK) | (clear hK; refine hK _ ?_; clear hK) | (clear hK; clear hK; refine hK _ ?_; clear hK) | (clear hK; clear hK; clear hK; refine hK _ ?_; clear hK))
  refine aw_loopK (s0 := ?lps1) (m0 := ?lpm1) (ι := {i : Nat // i ≤ l.length ∧ ∀ j, j < i → valD (gd l j)}) [0, 8, 9] (fun i => [(10, I i.1)]) (fun _ => []) (fun i => l.length - i.1) ⟨0, by omega, by omega⟩ ?lhs1 ?lhm1 ?_ ?_
  case lhs1 => first | (simp [keepS]; done) | (simp [keepS]; rfl)
  case lhm1 => first | rfl | (simp; done) | (simp; rfl)
  · exact le_of2 (by simp) (by simp [AVle, AV.under, AV.underL] <;> omega) (by simp [AOle, AO.under, AV.underL, AV.under] <;> omega)
  · rintro ⟨i, hi, hinv⟩
    simp only
    rcases Decidable.em (i < l.length) with hil | hil
    · have hilI : (i : Int) < (l.length : Int) := by omega
      have hg := drows_gi hil
      have hgE := drows_gE hil
      have hcv : ¬ valD (gd l i) → chkD l = 2 := fun h => chk_v fun h2 => h (h2 i hil)
      obtain ⟨⟨x, y, z⟩, hm⟩ : ∃ m, m = gd l i := ⟨_, rfl⟩
      rw [← hm] at hg hgE hcv
      simp only [valD, pgN] at hg hgE hcv
      rcases Decidable.em (x < 0) with h1 | h1
      · repeat' (first | (apply aw_seq_k; intro K hK) | (refine aw_run hc (by first | exact aw_nod | (intro _; rw [ordB_w hw]; kernel_rfl) | (intro _; rw [ordB_w0 hw0]; kernel_rfl) | (intro _; kernel_rfl)) ?_; simp [List.zipIdx, hilI, hg, hgE, h1, -getM, getM_hit, getM_miss, getM_none]; (repeat (simp (disch := first | omega | assumption | fail) only [if_pos, if_neg, wrap64]; try simp [List.zipIdx, hilI, hg, hgE, h1, -getM, getM_hit, getM_miss, getM_none])); try (repeat' (refine guardQ_split (fun h => ?_) (fun h => ?_) <;> simp at h <;> (simp [List.zipIdx, hilI, hg, hgE, h1, -getM, getM_hit, getM_miss, getM_none]; (repeat (simp (disch := first | omega | assumption | fail) only [if_pos, if_neg, wrap64]; try simp [List.zipIdx, hilI, hg, hgE, h1, -getM, getM_hit, getM_miss, getM_none])))))) | (refine aw_cond (b := _) (by exact rfl) (fun h => ?_) (fun h => ?_) <;> (try simp at h)) | (refine aw_block ?_) | (refine aw_skip ?_; simp only [thenQ, blockQ, if_true]) | (refine aw_exit ?_; simp [thenQ, blockQ]) | (refine aw_ret ?_; simp only [thenQ, blockQ]) | (refine aw_round ?_) | (refine hK _ ?_; clear hK) | (clear hK; refine hK _ ?_; clear hK) | (clear hK; clear hK; refine hK _ ?_; clear hK) | (clear hK; clear hK; clear hK; refine hK _ ?_; clear hK))
        refine ⟨by simp, ?_⟩
        simp [leaves_iff, Try.f15, hcv (by omega)]
        try (first | omega | (refine decide_eq_decide.2 ?_; omega) | (refine decide_eq_false ?_; omega) | (refine decide_eq_true ?_; omega))
      · rcases Decidable.em (4 ≤ x) with h2 | h2
        · repeat' (first | (apply aw_seq_k; intro K hK) | (refine aw_run hc (by first | exact aw_nod | (intro _; rw [ordB_w hw]; kernel_rfl) | (intro _; rw [ordB_w0 hw0]; kernel_rfl) | (intro _; kernel_rfl)) ?_; simp [List.zipIdx, hilI, hg, hgE, h1, h2, -getM, getM_hit, getM_miss, getM_none]; (repeat (simp (disch := first | omega | assumption | fail) only [if_pos, if_neg, wrap64]; try simp [List.zipIdx, hilI, hg, hgE, h1, h2, -getM, getM_hit, getM_miss, getM_none])); try (repeat' (refine guardQ_split (fun h => ?_) (fun h => ?_) <;> simp at h <;> (simp [List.zipIdx, hilI, hg, hgE, h1, h2, -getM, getM_hit, getM_miss, getM_none]; (repeat (simp (disch := first | omega | assumption | fail) only [if_pos, if_neg, wrap64]; try simp [List.zipIdx, hilI, hg, hgE, h1, h2, -getM, getM_hit, getM_miss, getM_none])))))) | (refine aw_cond (b := _) (by exact rfl) (fun h => ?_) (fun h => ?_) <;> (try simp at h)) | (refine aw_block ?_) | (refine aw_skip ?_; simp only [thenQ, blockQ, if_true]) | (refine aw_exit ?_; simp [thenQ, blockQ]) | (refine aw_ret ?_; simp only [thenQ, blockQ]) | (refine aw_round ?_) | (refine hK _ ?_; clear hK) | (clear hK; refine hK _ ?_; clear hK) | (clear hK; clear hK; refine hK _ ?_; clear hK) | (clear hK; clear hK; clear hK; refine hK _ ?_; clear hK))
          refine ⟨by simp, ?_⟩
          simp [leaves_iff, Try.f15, hcv (by omega)]
          try (first | omega | (refine decide_eq_decide.2 ?_; omega) | (refine decide_eq_false ?_; omega) | (refine decide_eq_true ?_; omega))
        · rcases Decidable.em (y < 0) with h3 | h3
          · repeat' (first | (apply aw_seq_k; intro K hK) | (refine aw_run hc (by first | exact aw_nod | (intro _; rw [ordB_w hw]; kernel_rfl) | (intro _; rw [ordB_w0 hw0]; kernel_rfl) | (intro _; kernel_rfl)) ?_; simp [List.zipIdx, hilI, hg, hgE, h1, h2, h3, -getM, getM_hit, getM_miss, getM_none]; (repeat (simp (disch := first | omega | assumption | fail) only [if_pos, if_neg, wrap64]; try simp [List.zipIdx, hilI, hg, hgE, h1, h2, h3, -getM, getM_hit, getM_miss, getM_none])); try (repeat' (refine guardQ_split (fun h => ?_) (fun h => ?_) <;> simp at h <;> (simp [List.zipIdx, hilI, hg, hgE, h1, h2, h3, -getM, getM_hit, getM_miss, getM_none]; (repeat (simp (disch := first | omega | assumption | fail) only [if_pos, if_neg, wrap64]; try simp [List.zipIdx, hilI, hg, hgE, h1, h2, h3, -getM, getM_hit, getM_miss, getM_none])))))) | (refine aw_cond (b := _) (by exact rfl) (fun h => ?_) (fun h => ?_) <;> (try simp at h)) | (refine aw_block ?_) | (refine aw_skip ?_; simp only [thenQ, blockQ, if_true]) | (refine aw_exit ?_; simp [thenQ, blockQ]) | (refine aw_ret ?_; simp only [thenQ, blockQ]) | (refine aw_round ?_) | (refine hK _ ?_; clear hK) | (clear hK; refine hK _ ?_; clear hK) | (clear hK; clear hK; refine hK _ ?_; clear hK) | (clear hK; clear hK; clear hK; refine hK _ ?_; clear hK))
            refine ⟨by simp, ?_⟩
            simp [leaves_iff, Try.f15, hcv (by omega)]
            try (first | omega | (refine decide_eq_decide.2 ?_; omega) | (refine decide_eq_false ?_; omega) | (refine decide_eq_true ?_; omega))
          · rcases Decidable.em (16 ≤ y) with h4 | h4
            · repeat' (first | (apply aw_seq_k; intro K hK) | (refine aw_run hc (by first | exact aw_nod | (intro _; rw [ordB_w hw]; kernel_rfl) | (intro _; rw [ordB_w0 hw0]; kernel_rfl) | (intro _; kernel_rfl)) ?_; simp [List.zipIdx, hilI, hg, hgE, h1, h2, h3, h4, -getM, getM_hit, getM_miss, getM_none]; (repeat (simp (disch := first | omega | assumption | fail) only [if_pos, if_neg, wrap64]; try simp [List.zipIdx, hilI, hg, hgE, h1, h2, h3, h4, -getM, getM_hit, getM_miss, getM_none])); try (repeat' (refine guardQ_split (fun h => ?_) (fun h => ?_) <;> simp at h <;> (simp [List.zipIdx, hilI, hg, hgE, h1, h2, h3, h4, -getM, getM_hit, getM_miss, getM_none]; (repeat (simp (disch := first | omega | assumption | fail) only [if_pos, if_neg, wrap64]; try simp [List.zipIdx, hilI, hg, hgE, h1, h2, h3, h4, -getM, getM_hit, getM_miss, getM_none])))))) | (refine aw_cond (b := _) (by exact rfl) (fun h => ?_) (fun h => ?_) <;> (try simp at h)) | (refine aw_block ?_) | (refine aw_skip ?_; simp only [thenQ, blockQ, if_true]) | (refine aw_exit ?_; simp [thenQ, blockQ]) | (refine aw_ret ?_; simp only [thenQ, blockQ]) | (refine aw_round ?_) | (refine hK _ ?_; clear hK) | (clear hK; refine hK _ ?_; clear hK) | (clear hK; clear hK; refine hK _ ?_; clear hK) | (clear hK; clear hK; clear hK; refine hK _ ?_; clear hK))
              refine ⟨by simp, ?_⟩
              simp [leaves_iff, Try.f15, hcv (by omega)]
              try (first | omega | (refine decide_eq_decide.2 ?_; omega) | (refine decide_eq_false ?_; omega) | (refine decide_eq_true ?_; omega))
            · rcases Decidable.em (z < 0) with h5 | h5
              · repeat' (first | (apply aw_seq_k; intro K hK) | (refine aw_run hc (by first | exact aw_nod | (intro _; rw [ordB_w hw]; kernel_rfl) | (intro _; rw [ordB_w0 hw0]; kernel_rfl) | (intro _; kernel_rfl)) ?_; simp [List.zipIdx, hilI, hg, hgE, h1, h2, h3, h4, h5, -getM, getM_hit, getM_miss, getM_none]; (repeat (simp (disch := first | omega | assumption | fail) only [if_pos, if_neg, wrap64]; try simp [List.zipIdx, hilI, hg, hgE, h1, h2, h3, h4, h5, -getM, getM_hit, getM_miss, getM_none])); try (repeat' (refine guardQ_split (fun h => ?_) (fun h => ?_) <;> simp at h <;> (simp [List.zipIdx, hilI, hg, hgE, h1, h2, h3, h4, h5, -getM, getM_hit, getM_miss, getM_none]; (repeat (simp (disch := first | omega | assumption | fail) only [if_pos, if_neg, wrap64]; try simp [List.zipIdx, hilI, hg, hgE, h1, h2, h3, h4, h5, -getM, getM_hit, getM_miss, getM_none])))))) | (refine aw_cond (b := _) (by exact rfl) (fun h => ?_) (fun h => ?_) <;> (try simp at h)) | (refine aw_block ?_) | (refine aw_skip ?_; simp only [thenQ, blockQ, if_true]) | (refine aw_exit ?_; simp [thenQ, blockQ]) | (refine aw_ret ?_; simp only [thenQ, blockQ]) | (refine aw_round ?_) | (refine hK _ ?_; clear hK) | (clear hK; refine hK _ ?_; clear hK) | (clear hK; clear hK; refine hK _ ?_; clear hK) | (clear hK; clear hK; clear hK; refine hK _ ?_; clear hK))
                refine ⟨by simp, ?_⟩
                simp [leaves_iff, Try.f15, hcv (by omega)]
                try (first | omega | (refine decide_eq_decide.2 ?_; omega) | (refine decide_eq_false ?_; omega) | (refine decide_eq_true ?_; omega))
              · repeat' (first | (apply aw_seq_k; intro K hK) | (refine aw_run hc (by first | exact aw_nod | (intro _; rw [ordB_w hw]; kernel_rfl) | (intro _; rw [ordB_w0 hw0]; kernel_rfl) | (intro _; kernel_rfl)) ?_; simp [List.zipIdx, hilI, hg, hgE, h1, h2, h3, h4, h5, -getM, getM_hit, getM_miss, getM_none]; (repeat (simp (disch := first | omega | assumption | fail) only [if_pos, if_neg, wrap64]; try simp [List.zipIdx, hilI, hg, hgE, h1, h2, h3, h4, h5, -getM, getM_hit, getM_miss, getM_none])); try (repeat' (refine guardQ_split (fun h => ?_) (fun h => ?_) <;> simp at h <;> (simp [List.zipIdx, hilI, hg, hgE, h1, h2, h3, h4, h5, -getM, getM_hit, getM_miss, getM_none]; (repeat (simp (disch := first | omega | assumption | fail) only [if_pos, if_neg, wrap64]; try simp [List.zipIdx, hilI, hg, hgE, h1, h2, h3, h4, h5, -getM, getM_hit, getM_miss, getM_none])))))) | (refine aw_cond (b := _) (by exact rfl) (fun h => ?_) (fun h => ?_) <;> (try simp at h)) | (refine aw_block ?_) | (refine aw_skip ?_; simp only [thenQ, blockQ, if_true]) | (refine aw_exit ?_; simp [thenQ, blockQ]) | (refine aw_ret ?_; simp only [thenQ, blockQ]) | (refine aw_round ?_) | (refine hK _ ?_; clear hK) | (clear hK; refine hK _ ?_; clear hK) | (clear hK; clear hK; refine hK _ ?_; clear hK) | (clear hK; clear hK; clear hK; refine hK _ ?_; clear hK))
                refine ⟨i + 1, ?_, ⟨by omega, fun j hj => ?_⟩, by omega⟩
                · exact le_of2 (by simp) (by simp [AVle, AV.under, AV.underL] <;> omega) (by simp [AOle, AO.under, AV.underL, AV.under] <;> omega)
                · rcases Nat.lt_succ_iff_lt_or_eq.1 hj with h | rfl
                  · exact hinv j h
                  · rw [← hm]; simp only [valD, pgN]; omega
    · obtain rfl : i = l.length := by omega
      have hV : chkV l := fun i hi => hinv i hi
      repeat' (first | (apply aw_seq_k; intro K hK) | (refine aw_run hc (by first | exact aw_nod | (intro _; rw [ordB_w hw]; kernel_rfl) | (intro _; rw [ordB_w0 hw0]; kernel_rfl) | (intro _; kernel_rfl)) ?_; simp [List.zipIdx, ty58, z64_all, z64_map, -getM, getM_hit, getM_miss, getM_none]; (repeat (simp (disch := first | omega | assumption | fail) only [if_pos, if_neg, wrap64]; try simp [List.zipIdx, ty58, z64_all, z64_map, -getM, getM_hit, getM_miss, getM_none])); try (repeat' (refine guardQ_split (fun h => ?_) (fun h => ?_) <;> simp at h <;> (simp [List.zipIdx, ty58, z64_all, z64_map, -getM, getM_hit, getM_miss, getM_none]; (repeat (simp (disch := first | omega | assumption | fail) only [if_pos, if_neg, wrap64]; try simp [List.zipIdx, ty58, z64_all, z64_map, -getM, getM_hit, getM_miss, getM_none])))))) | (refine aw_cond (b := _) (by exact rfl) (fun h => ?_) (fun h => ?_) <;> (try simp at h)) | (refine aw_block ?_) | (refine aw_skip ?_; simp only [thenQ, blockQ, if_true]) | (refine aw_exit ?_; simp [thenQ, blockQ]) | (refine aw_ret ?_; simp only [thenQ, blockQ]) | (refine aw_round ?_) | (refine hK _ ?_; clear hK) | (clear hK; refine hK _ ?_; clear hK) | (clear hK; clear hK; refine hK _ ?_; clear hK) | (clear hK; clear hK; clear hK; refine hK _ ?_; clear hK))
      refine aw_loopK (s0 := ?lps2) (m0 := ?lpm2) (ι := {i : Nat // i ≤ l.length ∧ ndT l i}) [5, 38, 39] (fun i => [(40, I i.1)]) (fun i => [(80, .box (bcs (seenT l i.1)))]) (fun i => l.length - i.1) ⟨0, by omega, by simp [ndT]⟩ ?lhs2 ?lhm2 ?_ ?_
      case lhs2 => first | (simp [keepS]; done) | (simp [keepS]; rfl)
      case lhm2 => first | rfl | (simp; done) | (simp; rfl)
      · simp only [seenT, List.take_zero, List.map_nil, seen0]
        exact le_of2 (by simp) (by simp [AVle, AV.under, AV.underL] <;> omega) (by simp [AOle, AO.under, AV.underL, AV.under] <;> omega)
      · rintro ⟨i, hi, hnd⟩
        simp only at hi hnd ⊢
        rcases Decidable.em (i < l.length) with hil | hil
        · have hilI : (i : Int) < (l.length : Int) := by omega
          have hg := drows_gi hil
          have hgE := drows_gE hil
          have hci := nodup_cix hV hil
          have hts := take_succ_gd hil
          have hpg := (hV i hil).1
          obtain ⟨S, hS⟩ : ∃ S, S = seenT l i := ⟨_, rfl⟩
          have hSl : S.length = 64 := by rw [hS, seenT, seenL_len]
          rw [← hS]
          obtain ⟨⟨x, y, z⟩, hm⟩ : ∃ m, m = gd l i := ⟨_, rfl⟩
          rw [← hm] at hg hgE hci hts hpg
          simp only [pgN] at hg hgE hpg
          obtain ⟨a, rfl⟩ : ∃ a : Nat, x = (a : Int) := ⟨x.toNat, by omega⟩
          obtain ⟨b, rfl⟩ : ∃ b : Nat, y = (b : Int) := ⟨y.toNat, by omega⟩
          have ha : a < 4 := by omega
          have hb : b < 16 := by omega
          have hcx : cix (a, b, z) = a * 16 + b := by simp [cix]; omega
          rw [hcx] at hci
          have hga := bcs_get (l := S) (n := a * 16 + b) (by omega)
          rw [hS, seenT, seenL_gb _ (by omega), ← seenT, ← hS] at hga
          have hgaE : ∀ h, (bcs S)[a * 16 + b]'h = B (decide (a * 16 + b ∈ (l.take i).map cix)) := fun h => by rw [List.getElem?_eq_getElem h] at hga; exact Option.some.inj hga
          rcases Decidable.em (a * 16 + b ∈ (l.take i).map cix) with hq | hq
          · simp only [hq, decide_true] at hga hgaE
            have e : chkD l = 7 := chk_d hV fun hh => by
              have h2 : (l.take (i + 1) |>.map plc).Nodup := hh.sublist ((List.take_sublist _ _).map _)
              rw [hts, List.map_append, List.nodup_append] at h2
              exact h2.2.2 _ (hci.1 hq) _ (by simp) rfl
            repeat' (first | (apply aw_seq_k; intro K hK) | (refine aw_run hc (by first | exact aw_nod | (intro _; rw [ordB_w hw]; kernel_rfl) | (intro _; rw [ordB_w0 hw0]; kernel_rfl) | (intro _; kernel_rfl)) ?_; simp [List.zipIdx, hilI, hg, hgE, hga, hgaE, hSl, ha, hb, ty58, -getM, getM_hit, getM_miss, getM_none]; (repeat (simp (disch := first | omega | assumption | fail) only [if_pos, if_neg, wrap64]; try simp [List.zipIdx, hilI, hg, hgE, hga, hgaE, hSl, ha, hb, ty58, -getM, getM_hit, getM_miss, getM_none])); try (repeat' (refine guardQ_split (fun h => ?_) (fun h => ?_) <;> simp at h <;> (simp [List.zipIdx, hilI, hg, hgE, hga, hgaE, hSl, ha, hb, ty58, -getM, getM_hit, getM_miss, getM_none]; (repeat (simp (disch := first | omega | assumption | fail) only [if_pos, if_neg, wrap64]; try simp [List.zipIdx, hilI, hg, hgE, hga, hgaE, hSl, ha, hb, ty58, -getM, getM_hit, getM_miss, getM_none])))))) | (refine aw_cond (b := _) (by exact rfl) (fun h => ?_) (fun h => ?_) <;> (try simp at h)) | (refine aw_block ?_) | (refine aw_skip ?_; simp only [thenQ, blockQ, if_true]) | (refine aw_exit ?_; simp [thenQ, blockQ]) | (refine aw_ret ?_; simp only [thenQ, blockQ]) | (refine aw_round ?_) | (refine hK _ ?_; clear hK) | (clear hK; refine hK _ ?_; clear hK) | (clear hK; clear hK; refine hK _ ?_; clear hK) | (clear hK; clear hK; clear hK; refine hK _ ?_; clear hK))
            refine ⟨by simp, ?_⟩
            simp [leaves_iff, Try.f15, e]
            try (first | omega | (refine decide_eq_decide.2 ?_; omega) | (refine decide_eq_false ?_; omega) | (refine decide_eq_true ?_; omega))
          · simp only [hq, decide_false] at hga hgaE
            have hse : S.set (a * 16 + b) true = seenT l (i + 1) := by
              rw [hS]; unfold seenT; refine seenL_set fun k => ?_
              rw [hts, List.map_append, List.mem_append]
              simp [hcx]
            repeat' (first | (apply aw_seq_k; intro K hK) | (refine aw_run hc (by first | exact aw_nod | (intro _; rw [ordB_w hw]; kernel_rfl) | (intro _; rw [ordB_w0 hw0]; kernel_rfl) | (intro _; kernel_rfl)) ?_; simp [List.zipIdx, hilI, hg, hgE, hga, hgaE, hSl, ha, hb, ty58, bcs_set, -getM, getM_hit, getM_miss, getM_none]; (repeat (simp (disch := first | omega | assumption | fail) only [if_pos, if_neg, wrap64]; try simp [List.zipIdx, hilI, hg, hgE, hga, hgaE, hSl, ha, hb, ty58, bcs_set, -getM, getM_hit, getM_miss, getM_none])); try (repeat' (refine guardQ_split (fun h => ?_) (fun h => ?_) <;> simp at h <;> (simp [List.zipIdx, hilI, hg, hgE, hga, hgaE, hSl, ha, hb, ty58, bcs_set, -getM, getM_hit, getM_miss, getM_none]; (repeat (simp (disch := first | omega | assumption | fail) only [if_pos, if_neg, wrap64]; try simp [List.zipIdx, hilI, hg, hgE, hga, hgaE, hSl, ha, hb, ty58, bcs_set, -getM, getM_hit, getM_miss, getM_none])))))) | (refine aw_cond (b := _) (by exact rfl) (fun h => ?_) (fun h => ?_) <;> (try simp at h)) | (refine aw_block ?_) | (refine aw_skip ?_; simp only [thenQ, blockQ, if_true]) | (refine aw_exit ?_; simp [thenQ, blockQ]) | (refine aw_ret ?_; simp only [thenQ, blockQ]) | (refine aw_round ?_) | (refine hK _ ?_; clear hK) | (clear hK; refine hK _ ?_; clear hK) | (clear hK; clear hK; refine hK _ ?_; clear hK) | (clear hK; clear hK; clear hK; refine hK _ ?_; clear hK))
            refine ⟨i + 1, ?_, ⟨by omega, ?_⟩, by omega⟩
            · simp only [← hse]
              refine le_turn (s1 := ?tus3) (m1 := ?tum3) [] [5, 38, 39, 40] [80] ?tua3 ?tub3 ?tuc3 ?tud3 ?tue3 ?tuf3 ?tug3
              case tua3 => first | (simp [keepS]; done) | (simp [keepS]; rfl)
              case tub3 => first | (simp; done) | (simp; rfl)
              case tuc3 => simp
              case tud3 => simp
              case tue3 => simp
              case tuf3 => simp
              case tug3 =>
                simp [swp, vr]
                exact le_of2 (by simp) (by simp [AVle, AV.under, AV.underL] <;> omega) (by simp [AOle, AO.under, AV.underL, AV.under] <;> omega)
            · unfold ndT at hnd ⊢
              rw [hts, List.map_append, List.nodup_append]
              refine ⟨hnd, by simp, fun c hc d hd e => ?_⟩
              simp only [List.map_cons, List.map_nil, List.mem_singleton] at hd
              subst hd; subst e
              exact hq (hci.2 hc)
        · obtain rfl : i = l.length := by omega
          rw [ndT, List.take_length] at hnd
          repeat' (first | (apply aw_seq_k; intro K hK) | (refine aw_run hc (by first | exact aw_nod | (intro _; rw [ordB_w hw]; kernel_rfl) | (intro _; rw [ordB_w0 hw0]; kernel_rfl) | (intro _; kernel_rfl)) ?_; simp [List.zipIdx, -getM, getM_hit, getM_miss, getM_none]; (repeat (simp (disch := first | omega | assumption | fail) only [if_pos, if_neg, wrap64]; try simp [List.zipIdx, -getM, getM_hit, getM_miss, getM_none])); try (repeat' (refine guardQ_split (fun h => ?_) (fun h => ?_) <;> simp at h <;> (simp [List.zipIdx, -getM, getM_hit, getM_miss, getM_none]; (repeat (simp (disch := first | omega | assumption | fail) only [if_pos, if_neg, wrap64]; try simp [List.zipIdx, -getM, getM_hit, getM_miss, getM_none])))))) | (refine aw_cond (b := _) (by exact rfl) (fun h => ?_) (fun h => ?_) <;> (try simp at h)) | (refine aw_block ?_) | (refine aw_skip ?_; simp only [thenQ, blockQ, if_true]) | (refine aw_exit ?_; simp [thenQ, blockQ]) | (refine aw_ret ?_; simp only [thenQ, blockQ]) | (refine aw_round ?_) | (refine hK _ ?_; clear hK) | (clear hK; refine hK _ ?_; clear hK) | (clear hK; clear hK; refine hK _ ?_; clear hK) | (clear hK; clear hK; clear hK; refine hK _ ?_; clear hK))
          refine ⟨by simp, ?_⟩
          simp [leaves_iff, Try.f15, chk_z hV hnd]
          try (first | omega | (refine decide_eq_decide.2 ?_; omega) | (refine decide_eq_false ?_; omega) | (refine decide_eq_true ?_; omega))
end Go.AM
