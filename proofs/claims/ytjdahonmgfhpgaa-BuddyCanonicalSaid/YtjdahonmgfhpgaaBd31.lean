/- ref.Build, buddy.Build. -/
import Derived.Test.YtjdahonmgfhpgaaBdR
import Derived.Test.YtjdahonmgfhpgaaBd22
import Derived.Test.YtjdahonmgfhpgaaBd25
set_option linter.all false

namespace Go.AM
open Go Go.Proofs

theorem F44n_at (z : Zn) : F44n [.agg z.cells] = some (B (rangesZ z)) := F41_at z
theorem F41n_at (z : Zn) : F41n [.agg z.cells] = some (B (rangesZ z)) := F41_at z

theorem s28 (X : AX) (hX : XOK Try.prog X) (hw : X.W wT) (h44 : X.call 44 = callP F44n) (h49 : X.call 49 = callP F49n) :
    PSound Try.prog 28 (specF (ι := {x : Zn × List Int // x.2.length ≤ 300}) (fun x => [.agg x.1.1.cells, .rd 1 (irows x.1.2)]) fun x => retOf [.agg (buildR x.1.1 x.1.2).1.ocells, I (buildR x.1.1 x.1.2).2]) := by
  refine psound_spec hX mixed Try.func28 rfl fun ⟨⟨z, l⟩, hl⟩ w0 G => ⟨by show 2 ≤ 63; decide, rfl, ?_⟩
  show AW ⟨Try.prog, X, 63, w0, .pure G⟩ _ _ _
  have hc : Cx.OK ⟨Try.prog, X, 63, w0, .pure G⟩ := ⟨hX, mixed⟩
  simp only at hl ⊢
  have h44z := F44n_at z
  have hrep : List.replicate 256 [AV.v (.int .i64 0)] = irows zs256 := repI 256
  rcases Decidable.em (rangesZ z) with hr | hr
  · rw [decide_eq_true hr] at h44z
    have hrr := hr
    unfold rangesZ at hrr
    repeat' (first | (apply aw_seq_k; intro K hK) | (refine aw_run hc (by first | exact aw_nod | (intro _; rw [ordB_w hw]; kernel_rfl) | (intro _; kernel_rfl)) ?_; simp [List.zipIdx, h44, h44z, hrep, -List.reduceReplicate, -getM, getM_hit, getM_miss, getM_none]; (repeat (simp (disch := first | omega | assumption | fail) only [if_pos, if_neg, wrap64]; try simp [List.zipIdx, h44, h44z, hrep, -List.reduceReplicate, -getM, getM_hit, getM_miss, getM_none])); try (repeat' (refine guardQ_split (fun h => ?_) (fun h => ?_) <;> simp at h <;> (simp [List.zipIdx, h44, h44z, hrep, -List.reduceReplicate, -getM, getM_hit, getM_miss, getM_none]; (repeat (simp (disch := first | omega | assumption | fail) only [if_pos, if_neg, wrap64]; try simp [List.zipIdx, h44, h44z, hrep, -List.reduceReplicate, -getM, getM_hit, getM_miss, getM_none])))))) | (refine aw_cond (b := _) (by exact rfl) (fun h => ?_) (fun h => ?_) <;> (try simp at h)) | (refine aw_block ?_) | (refine aw_skip ?_; simp only [thenQ, blockQ, if_true]) | (refine aw_exit ?_; simp [thenQ, blockQ]) | (refine aw_ret ?_; simp only [thenQ, blockQ]) | (refine aw_round ?_) | (refine hK _ ?_; clear hK) | (clear hK; refine hK _ ?_; clear hK) | (clear hK; clear hK; refine hK _ ?_; clear hK) | (clear hK; clear hK; clear hK; refine hK _ ?_; clear hK))
    refine aw_loopK (s0 := ?lps1) (m0 := ?lpm1) (ι := {i : Nat // i ≤ l.length ∧ ∀ j, j < i → badB z l j = 0}) [1, 2, 4, 6] (fun i => [(7, I i.1)]) (fun i => [(96, .vec 1 1 false (irows (upS zs256 (fun x => x ∈ l.take i.1) 1)))]) (fun i => l.length - i.1) ⟨0, by omega, by intro j hj; omega⟩ ?lhs1 ?lhm1 ?_ ?_
    case lhs1 => first | (simp [keepS]; done) | (simp [keepS]; rfl)
    case lhm1 => first | rfl | (simp; done) | (simp; rfl)
    · rw [upS_none zs_len (fun x hx => by simp at hx)]
      exact le_of2 (by simp) (by simp [AVle, AV.under, AV.underL] <;> omega) (by simp [AOle, AO.under, AV.underL, AV.under] <;> omega)
    · rintro ⟨i, hi, hgood⟩
      simp only
      rcases Decidable.em (i < l.length) with hil | hil
      · have hilI : (i : Int) < (l.length : Int) := by omega
        have hgl := irows_gi (l := l) (n := i) hil
        rcases Decidable.em (insideZ z (gi l i) 0) with hin | hin
        · have hbd := (inside0 hr).1 hin
          obtain ⟨f, hf⟩ := Int.eq_ofNat_of_zero_le (show 0 ≤ gi l i by omega)
          have hst := upS_take (s := zs256) hil hf
          have hg := irows_gi (l := upS zs256 (fun x => x ∈ l.take i) 1) (n := f) (by simp; omega)
          have hb1 : ¬ ((f : Int) < z.start) := by omega
          have hb2 : ¬ (z.start + z.count ≤ (f : Int)) := by omega
          rw [hf] at hgl
          rcases Decidable.em (0 < i) with hi0 | hi0
          · have hi0I : (0 : Int) < (i : Int) := by omega
            have hto : ((i : Int) - 1).toNat = i - 1 := by omega
            have hgp := irows_gi (l := l) (n := i - 1) (by omega)
            rcases Decidable.em (gi l i ≤ gi l (i - 1)) with ho | ho
            · have hbad := badB_order hin hi0 ho
              have hal := buildR_bad hr (l := l) (i := i) ⟨hil, by rw [hbad]; decide, hgood⟩
              rw [hbad] at hal
              rw [hf] at ho
              repeat' (first | (apply aw_seq_k; intro K hK) | (refine aw_run hc (by first | exact aw_nod | (intro _; rw [ordB_w hw]; kernel_rfl) | (intro _; kernel_rfl)) ?_; simp [List.zipIdx, hilI, hgl, hb1, hb2, hi0I, hi0, hto, hgp, ho, -List.reduceReplicate, -getM, getM_hit, getM_miss, getM_none]; (repeat (simp (disch := first | omega | assumption | fail) only [if_pos, if_neg, wrap64]; try simp [List.zipIdx, hilI, hgl, hb1, hb2, hi0I, hi0, hto, hgp, ho, -List.reduceReplicate, -getM, getM_hit, getM_miss, getM_none])); try (repeat' (refine guardQ_split (fun h => ?_) (fun h => ?_) <;> simp at h <;> (simp [List.zipIdx, hilI, hgl, hb1, hb2, hi0I, hi0, hto, hgp, ho, -List.reduceReplicate, -getM, getM_hit, getM_miss, getM_none]; (repeat (simp (disch := first | omega | assumption | fail) only [if_pos, if_neg, wrap64]; try simp [List.zipIdx, hilI, hgl, hb1, hb2, hi0I, hi0, hto, hgp, ho, -List.reduceReplicate, -getM, getM_hit, getM_miss, getM_none])))))) | (refine aw_cond (b := _) (by exact rfl) (fun h => ?_) (fun h => ?_) <;> (try simp at h)) | (refine aw_block ?_) | (refine aw_skip ?_; simp only [thenQ, blockQ, if_true]) | (refine aw_exit ?_; simp [thenQ, blockQ]) | (refine aw_ret ?_; simp only [thenQ, blockQ]) | (refine aw_round ?_) | (refine hK _ ?_; clear hK) | (clear hK; refine hK _ ?_; clear hK) | (clear hK; clear hK; refine hK _ ?_; clear hK) | (clear hK; clear hK; clear hK; refine hK _ ?_; clear hK))
              refine ⟨by simp, ?_⟩
              simp [leaves_iff, Try.f28, hal, zeroZ, Zn.ocells, irows]
              try (first | omega | (refine decide_eq_decide.2 ?_; omega) | (refine decide_eq_false ?_; omega) | (refine decide_eq_true ?_; omega))
            · have hok := badB_ok hin fun _ => by omega
              rw [hf] at ho
              repeat' (first | (apply aw_seq_k; intro K hK) | (refine aw_run hc (by first | exact aw_nod | (intro _; rw [ordB_w hw]; kernel_rfl) | (intro _; kernel_rfl)) ?_; simp [List.zipIdx, hilI, hgl, hb1, hb2, hi0I, hi0, hto, hgp, ho, hst, hg, -List.reduceReplicate, -getM, getM_hit, getM_miss, getM_none]; (repeat (simp (disch := first | omega | assumption | fail) only [if_pos, if_neg, wrap64]; try simp [List.zipIdx, hilI, hgl, hb1, hb2, hi0I, hi0, hto, hgp, ho, hst, hg, -List.reduceReplicate, -getM, getM_hit, getM_miss, getM_none])); try (repeat' (refine guardQ_split (fun h => ?_) (fun h => ?_) <;> simp at h <;> (simp [List.zipIdx, hilI, hgl, hb1, hb2, hi0I, hi0, hto, hgp, ho, hst, hg, -List.reduceReplicate, -getM, getM_hit, getM_miss, getM_none]; (repeat (simp (disch := first | omega | assumption | fail) only [if_pos, if_neg, wrap64]; try simp [List.zipIdx, hilI, hgl, hb1, hb2, hi0I, hi0, hto, hgp, ho, hst, hg, -List.reduceReplicate, -getM, getM_hit, getM_miss, getM_none])))))) | (refine aw_cond (b := _) (by exact rfl) (fun h => ?_) (fun h => ?_) <;> (try simp at h)) | (refine aw_block ?_) | (refine aw_skip ?_; simp only [thenQ, blockQ, if_true]) | (refine aw_exit ?_; simp [thenQ, blockQ]) | (refine aw_ret ?_; simp only [thenQ, blockQ]) | (refine aw_round ?_) | (refine hK _ ?_; clear hK) | (clear hK; refine hK _ ?_; clear hK) | (clear hK; clear hK; refine hK _ ?_; clear hK) | (clear hK; clear hK; clear hK; refine hK _ ?_; clear hK))
              refine ⟨i + 1, ?_, ⟨by omega, fun j hj => ?_⟩, by omega⟩
              · exact le_of2 (by simp) (by simp [AVle, AV.under, AV.underL] <;> omega) (by simp [AOle, AO.under, AV.underL, AV.under] <;> omega)
              · by_cases e : j = i
                · rw [e]; exact hok
                · exact hgood j (by omega)
          · have hok := badB_ok hin fun h => absurd h hi0
            have hi0I : ¬ (0 : Int) < (i : Int) := by omega
            repeat' (first | (apply aw_seq_k; intro K hK) | (refine aw_run hc (by first | exact aw_nod | (intro _; rw [ordB_w hw]; kernel_rfl) | (intro _; kernel_rfl)) ?_; simp [List.zipIdx, hilI, hgl, hb1, hb2, hi0I, hi0, hst, hg, -List.reduceReplicate, -getM, getM_hit, getM_miss, getM_none]; (repeat (simp (disch := first | omega | assumption | fail) only [if_pos, if_neg, wrap64]; try simp [List.zipIdx, hilI, hgl, hb1, hb2, hi0I, hi0, hst, hg, -List.reduceReplicate, -getM, getM_hit, getM_miss, getM_none])); try (repeat' (refine guardQ_split (fun h => ?_) (fun h => ?_) <;> simp at h <;> (simp [List.zipIdx, hilI, hgl, hb1, hb2, hi0I, hi0, hst, hg, -List.reduceReplicate, -getM, getM_hit, getM_miss, getM_none]; (repeat (simp (disch := first | omega | assumption | fail) only [if_pos, if_neg, wrap64]; try simp [List.zipIdx, hilI, hgl, hb1, hb2, hi0I, hi0, hst, hg, -List.reduceReplicate, -getM, getM_hit, getM_miss, getM_none])))))) | (refine aw_cond (b := _) (by exact rfl) (fun h => ?_) (fun h => ?_) <;> (try simp at h)) | (refine aw_block ?_) | (refine aw_skip ?_; simp only [thenQ, blockQ, if_true]) | (refine aw_exit ?_; simp [thenQ, blockQ]) | (refine aw_ret ?_; simp only [thenQ, blockQ]) | (refine aw_round ?_) | (refine hK _ ?_; clear hK) | (clear hK; refine hK _ ?_; clear hK) | (clear hK; clear hK; refine hK _ ?_; clear hK) | (clear hK; clear hK; clear hK; refine hK _ ?_; clear hK))
            refine ⟨i + 1, ?_, ⟨by omega, fun j hj => ?_⟩, by omega⟩
            · exact le_of2 (by simp) (by simp [AVle, AV.under, AV.underL] <;> omega) (by simp [AOle, AO.under, AV.underL, AV.under] <;> omega)
            · by_cases e : j = i
              · rw [e]; exact hok
              · exact hgood j (by omega)
        · have hbad := badB_out hin
          have hal := buildR_bad hr (l := l) (i := i) ⟨hil, by rw [hbad]; decide, hgood⟩
          rw [hbad] at hal
          have hbd := mt (inside0 hr).2 hin
          rcases Decidable.em (gi l i < z.start) with hb1 | hb1
          · repeat' (first | (apply aw_seq_k; intro K hK) | (refine aw_run hc (by first | exact aw_nod | (intro _; rw [ordB_w hw]; kernel_rfl) | (intro _; kernel_rfl)) ?_; simp [List.zipIdx, hilI, hgl, hb1, -List.reduceReplicate, -getM, getM_hit, getM_miss, getM_none]; (repeat (simp (disch := first | omega | assumption | fail) only [if_pos, if_neg, wrap64]; try simp [List.zipIdx, hilI, hgl, hb1, -List.reduceReplicate, -getM, getM_hit, getM_miss, getM_none])); try (repeat' (refine guardQ_split (fun h => ?_) (fun h => ?_) <;> simp at h <;> (simp [List.zipIdx, hilI, hgl, hb1, -List.reduceReplicate, -getM, getM_hit, getM_miss, getM_none]; (repeat (simp (disch := first | omega | assumption | fail) only [if_pos, if_neg, wrap64]; try simp [List.zipIdx, hilI, hgl, hb1, -List.reduceReplicate, -getM, getM_hit, getM_miss, getM_none])))))) | (refine aw_cond (b := _) (by exact rfl) (fun h => ?_) (fun h => ?_) <;> (try simp at h)) | (refine aw_block ?_) | (refine aw_skip ?_; simp only [thenQ, blockQ, if_true]) | (refine aw_exit ?_; simp [thenQ, blockQ]) | (refine aw_ret ?_; simp only [thenQ, blockQ]) | (refine aw_round ?_) | (refine hK _ ?_; clear hK) | (clear hK; refine hK _ ?_; clear hK) | (clear hK; clear hK; refine hK _ ?_; clear hK) | (clear hK; clear hK; clear hK; refine hK _ ?_; clear hK))
            refine ⟨by simp, ?_⟩
            simp [leaves_iff, Try.f28, hal, zeroZ, Zn.ocells, irows]
            try (first | omega | (refine decide_eq_decide.2 ?_; omega) | (refine decide_eq_false ?_; omega) | (refine decide_eq_true ?_; omega))
          · have hb2 : z.start + z.count ≤ gi l i := by omega
            repeat' (first | (apply aw_seq_k; intro K hK) | (refine aw_run hc (by first | exact aw_nod | (intro _; rw [ordB_w hw]; kernel_rfl) | (intro _; kernel_rfl)) ?_; simp [List.zipIdx, hilI, hgl, hb1, hb2, -List.reduceReplicate, -getM, getM_hit, getM_miss, getM_none]; (repeat (simp (disch := first | omega | assumption | fail) only [if_pos, if_neg, wrap64]; try simp [List.zipIdx, hilI, hgl, hb1, hb2, -List.reduceReplicate, -getM, getM_hit, getM_miss, getM_none])); try (repeat' (refine guardQ_split (fun h => ?_) (fun h => ?_) <;> simp at h <;> (simp [List.zipIdx, hilI, hgl, hb1, hb2, -List.reduceReplicate, -getM, getM_hit, getM_miss, getM_none]; (repeat (simp (disch := first | omega | assumption | fail) only [if_pos, if_neg, wrap64]; try simp [List.zipIdx, hilI, hgl, hb1, hb2, -List.reduceReplicate, -getM, getM_hit, getM_miss, getM_none])))))) | (refine aw_cond (b := _) (by exact rfl) (fun h => ?_) (fun h => ?_) <;> (try simp at h)) | (refine aw_block ?_) | (refine aw_skip ?_; simp only [thenQ, blockQ, if_true]) | (refine aw_exit ?_; simp [thenQ, blockQ]) | (refine aw_ret ?_; simp only [thenQ, blockQ]) | (refine aw_round ?_) | (refine hK _ ?_; clear hK) | (clear hK; refine hK _ ?_; clear hK) | (clear hK; clear hK; refine hK _ ?_; clear hK) | (clear hK; clear hK; clear hK; refine hK _ ?_; clear hK))
            refine ⟨by simp, ?_⟩
            simp [leaves_iff, Try.f28, hal, zeroZ, Zn.ocells, irows]
            try (first | omega | (refine decide_eq_decide.2 ?_; omega) | (refine decide_eq_false ?_; omega) | (refine decide_eq_true ?_; omega))
      · obtain rfl : i = l.length := by omega
        have hal := buildR_ok hr hgood
        obtain ⟨y, hy⟩ : ∃ y, y = canon z (· ∈ l) := ⟨_, rfl⟩
        have h49z := F49n_at hr (upS_len zs256 (· ∈ l) 1)
        rw [canon_list hr hgood, ← hy] at h49z
        rw [← hy] at hal
        have htk : List.take 256 (irows (upS zs256 (· ∈ l) 1)) = irows (upS zs256 (· ∈ l) 1) := List.take_of_length_le (by simp)
        simp only [List.take_length]
        repeat' (first | (apply aw_seq_k; intro K hK) | (refine aw_run hc (by first | exact aw_nod | (intro _; rw [ordB_w hw]; kernel_rfl) | (intro _; kernel_rfl)) ?_; simp [List.zipIdx, h49, h49z, htk, Zn.ocells, -List.reduceReplicate, -getM, getM_hit, getM_miss, getM_none]; (repeat (simp (disch := first | omega | assumption | fail) only [if_pos, if_neg, wrap64]; try simp [List.zipIdx, h49, h49z, htk, Zn.ocells, -List.reduceReplicate, -getM, getM_hit, getM_miss, getM_none])); try (repeat' (refine guardQ_split (fun h => ?_) (fun h => ?_) <;> simp at h <;> (simp [List.zipIdx, h49, h49z, htk, Zn.ocells, -List.reduceReplicate, -getM, getM_hit, getM_miss, getM_none]; (repeat (simp (disch := first | omega | assumption | fail) only [if_pos, if_neg, wrap64]; try simp [List.zipIdx, h49, h49z, htk, Zn.ocells, -List.reduceReplicate, -getM, getM_hit, getM_miss, getM_none])))))) | (refine aw_cond (b := _) (by exact rfl) (fun h => ?_) (fun h => ?_) <;> (try simp at h)) | (refine aw_block ?_) | (refine aw_skip ?_; simp only [thenQ, blockQ, if_true]) | (refine aw_exit ?_; simp [thenQ, blockQ]) | (refine aw_ret ?_; simp only [thenQ, blockQ]) | (refine aw_round ?_) | (refine hK _ ?_; clear hK) | (clear hK; refine hK _ ?_; clear hK) | (clear hK; clear hK; refine hK _ ?_; clear hK) | (clear hK; clear hK; clear hK; refine hK _ ?_; clear hK))
        refine ⟨by simp, ?_⟩
        simp [leaves_iff, Try.f28, hal, Zn.ocells, take_irows]
        try (first | omega | (refine decide_eq_decide.2 ?_; omega) | (refine decide_eq_false ?_; omega) | (refine decide_eq_true ?_; omega))
  · rw [decide_eq_false hr] at h44z
    have hal := buildR_range (l := l) hr
    repeat' (first | (apply aw_seq_k; intro K hK) | (refine aw_run hc (by first | exact aw_nod | (intro _; rw [ordB_w hw]; kernel_rfl) | (intro _; kernel_rfl)) ?_; simp [List.zipIdx, h44, h44z, -getM, getM_hit, getM_miss, getM_none]; (repeat (simp (disch := first | omega | assumption | fail) only [if_pos, if_neg, wrap64]; try simp [List.zipIdx, h44, h44z, -getM, getM_hit, getM_miss, getM_none])); try (repeat' (refine guardQ_split (fun h => ?_) (fun h => ?_) <;> simp at h <;> (simp [List.zipIdx, h44, h44z, -getM, getM_hit, getM_miss, getM_none]; (repeat (simp (disch := first | omega | assumption | fail) only [if_pos, if_neg, wrap64]; try simp [List.zipIdx, h44, h44z, -getM, getM_hit, getM_miss, getM_none])))))) | (refine aw_cond (b := _) (by exact rfl) (fun h => ?_) (fun h => ?_) <;> (try simp at h)) | (refine aw_block ?_) | (refine aw_skip ?_; simp only [thenQ, blockQ, if_true]) | (refine aw_exit ?_; simp [thenQ, blockQ]) | (refine aw_ret ?_; simp only [thenQ, blockQ]) | (refine aw_round ?_) | (refine hK _ ?_; clear hK) | (clear hK; refine hK _ ?_; clear hK) | (clear hK; clear hK; refine hK _ ?_; clear hK) | (clear hK; clear hK; clear hK; refine hK _ ?_; clear hK))
    refine ⟨by simp, ?_⟩
    simp [leaves_iff, Try.f28, hal, zeroZ, Zn.ocells, irows]
    try (first | omega | (refine decide_eq_decide.2 ?_; omega) | (refine decide_eq_false ?_; omega) | (refine decide_eq_true ?_; omega))
end Go.AM

/- buddy.Build. -/
namespace Go.AM
open Go Go.Proofs

theorem s27 (X : AX) (hX : XOK Try.prog X) (hw : X.W wT) (h41 : X.call 41 = callP F41n) (h42 : X.call 42 = callP F42) (h48 : X.call 48 = callM false one1 F48) :
    PSound Try.prog 27 (specF (ι := {x : Zn × List Int // x.2.length ≤ 300}) (fun x => [.agg x.1.1.cells, .rd 1 (irows x.1.2)]) fun x => retOf [.agg (buildR x.1.1 x.1.2).1.ocells, I (buildR x.1.1 x.1.2).2]) := by
  refine psound_spec hX mixed Try.func27 rfl fun ⟨⟨z, l⟩, hl⟩ w0 G => ⟨by show 2 ≤ 51; decide, rfl, ?_⟩
  show AW ⟨Try.prog, X, 51, w0, .pure G⟩ _ _ _
  have hc : Cx.OK ⟨Try.prog, X, 51, w0, .pure G⟩ := ⟨hX, mixed⟩
  simp only at hl ⊢
  have h41z := F41n_at z
  simp only [Zn.cells] at h41z ⊢
  rcases Decidable.em (rangesZ z) with hr | hr
  · rw [decide_eq_true hr] at h41z
    have hrr := hr
    unfold rangesZ at hrr
    have h42z : ∀ g, F42 [.agg [I z.node, I z.kind, I z.start, I z.count, I z.least, .rd 1 [], .rd 1 [], .rd 1 [], .rd 1 [], .rd 1 []], I g, I 0] = some (B (insideZ z g 0)) := fun g => F42_x hr (k := 0) (by omega) [] [] [] [] [] g
    repeat' (first | (apply aw_seq_k; intro K hK) | (refine aw_run hc (by first | exact aw_nod | (intro _; rw [ordB_w hw]; kernel_rfl) | (intro _; kernel_rfl)) ?_; simp [List.zipIdx, h41, h41z, -getM, getM_hit, getM_miss, getM_none]; (repeat (simp (disch := first | omega | assumption | fail) only [if_pos, if_neg, wrap64]; try simp [List.zipIdx, h41, h41z, -getM, getM_hit, getM_miss, getM_none])); try (repeat' (refine guardQ_split (fun h => ?_) (fun h => ?_) <;> simp at h <;> (simp [List.zipIdx, h41, h41z, -getM, getM_hit, getM_miss, getM_none]; (repeat (simp (disch := first | omega | assumption | fail) only [if_pos, if_neg, wrap64]; try simp [List.zipIdx, h41, h41z, -getM, getM_hit, getM_miss, getM_none])))))) | (refine aw_cond (b := _) (by exact rfl) (fun h => ?_) (fun h => ?_) <;> (try simp at h)) | (refine aw_block ?_) | (refine aw_skip ?_; simp only [thenQ, blockQ, if_true]) | (refine aw_exit ?_; simp [thenQ, blockQ]) | (refine aw_ret ?_; simp only [thenQ, blockQ]) | (refine aw_round ?_) | (refine hK _ ?_; clear hK) | (clear hK; refine hK _ ?_; clear hK) | (clear hK; clear hK; refine hK _ ?_; clear hK) | (clear hK; clear hK; clear hK; refine hK _ ?_; clear hK))
    refine aw_weaken (le_nilcell (b := 0) (i := 5) (sz := 1) rfl rfl) ?_
    refine aw_weaken (le_nilcell (b := 0) (i := 6) (sz := 1) rfl rfl) ?_
    refine aw_weaken (le_nilcell (b := 0) (i := 7) (sz := 1) rfl rfl) ?_
    refine aw_weaken (le_nilcell (b := 0) (i := 8) (sz := 1) rfl rfl) ?_
    refine aw_weaken (le_nilcell (b := 0) (i := 9) (sz := 1) rfl rfl) ?_
    refine aw_loopK (s0 := ?lps1) (m0 := ?lpm1) (ι := {i : Nat // i ≤ l.length ∧ ∀ j, j < i → badB z l j = 0}) [1, 2, 4, 16, 17] (fun i => [(18, I i.1)]) (fun _ => []) (fun i => l.length - i.1) ⟨0, by omega, by intro j hj; omega⟩ ?lhs1 ?lhm1 ?_ ?_
    case lhs1 => first | (simp [keepS]; done) | (simp [keepS]; rfl)
    case lhm1 => first | rfl | (simp; done) | (simp; rfl)
    · exact le_of2 (by simp) (by simp [AVle, AV.under, AV.underL] <;> omega) (by simp [AOle, AO.under, AV.underL, AV.under] <;> omega)
    · rintro ⟨i, hi, hgood⟩
      simp only
      rcases Decidable.em (i < l.length) with hil | hil
      · have hilI : (i : Int) < (l.length : Int) := by omega
        have hgl := irows_gi (l := l) (n := i) hil
        rcases Decidable.em (insideZ z (gi l i) 0) with hin | hin
        · rcases Decidable.em (0 < i) with hi0 | hi0
          · have hi0I : (0 : Int) < (i : Int) := by omega
            have hto : ((i : Int) - 1).toNat = i - 1 := by omega
            have hgp := irows_gi (l := l) (n := i - 1) (by omega)
            rcases Decidable.em (gi l i ≤ gi l (i - 1)) with ho | ho
            · have hbad := badB_order hin hi0 ho
              have hal := buildR_bad hr (l := l) (i := i) ⟨hil, by rw [hbad]; decide, hgood⟩
              rw [hbad] at hal
              repeat' (first | (apply aw_seq_k; intro K hK) | (refine aw_run hc (by first | exact aw_nod | (intro _; rw [ordB_w hw]; kernel_rfl) | (intro _; kernel_rfl)) ?_; simp [List.zipIdx, hilI, hgl, h42, h42z, hin, hi0I, hi0, hto, hgp, ho, -getM, getM_hit, getM_miss, getM_none]; (repeat (simp (disch := first | omega | assumption | fail) only [if_pos, if_neg, wrap64]; try simp [List.zipIdx, hilI, hgl, h42, h42z, hin, hi0I, hi0, hto, hgp, ho, -getM, getM_hit, getM_miss, getM_none])); try (repeat' (refine guardQ_split (fun h => ?_) (fun h => ?_) <;> simp at h <;> (simp [List.zipIdx, hilI, hgl, h42, h42z, hin, hi0I, hi0, hto, hgp, ho, -getM, getM_hit, getM_miss, getM_none]; (repeat (simp (disch := first | omega | assumption | fail) only [if_pos, if_neg, wrap64]; try simp [List.zipIdx, hilI, hgl, h42, h42z, hin, hi0I, hi0, hto, hgp, ho, -getM, getM_hit, getM_miss, getM_none])))))) | (refine aw_cond (b := _) (by exact rfl) (fun h => ?_) (fun h => ?_) <;> (try simp at h)) | (refine aw_block ?_) | (refine aw_skip ?_; simp only [thenQ, blockQ, if_true]) | (refine aw_exit ?_; simp [thenQ, blockQ]) | (refine aw_ret ?_; simp only [thenQ, blockQ]) | (refine aw_round ?_) | (refine hK _ ?_; clear hK) | (clear hK; refine hK _ ?_; clear hK) | (clear hK; clear hK; refine hK _ ?_; clear hK) | (clear hK; clear hK; clear hK; refine hK _ ?_; clear hK))
              refine ⟨by simp, ?_⟩
              simp [leaves_iff, Try.f27, hal, zeroZ, Zn.ocells, irows]
              try (first | omega | (refine decide_eq_decide.2 ?_; omega) | (refine decide_eq_false ?_; omega) | (refine decide_eq_true ?_; omega))
            · have hok := badB_ok hin fun _ => by omega
              repeat' (first | (apply aw_seq_k; intro K hK) | (refine aw_run hc (by first | exact aw_nod | (intro _; rw [ordB_w hw]; kernel_rfl) | (intro _; kernel_rfl)) ?_; simp [List.zipIdx, hilI, hgl, h42, h42z, hin, hi0I, hi0, hto, hgp, ho, -getM, getM_hit, getM_miss, getM_none]; (repeat (simp (disch := first | omega | assumption | fail) only [if_pos, if_neg, wrap64]; try simp [List.zipIdx, hilI, hgl, h42, h42z, hin, hi0I, hi0, hto, hgp, ho, -getM, getM_hit, getM_miss, getM_none])); try (repeat' (refine guardQ_split (fun h => ?_) (fun h => ?_) <;> simp at h <;> (simp [List.zipIdx, hilI, hgl, h42, h42z, hin, hi0I, hi0, hto, hgp, ho, -getM, getM_hit, getM_miss, getM_none]; (repeat (simp (disch := first | omega | assumption | fail) only [if_pos, if_neg, wrap64]; try simp [List.zipIdx, hilI, hgl, h42, h42z, hin, hi0I, hi0, hto, hgp, ho, -getM, getM_hit, getM_miss, getM_none])))))) | (refine aw_cond (b := _) (by exact rfl) (fun h => ?_) (fun h => ?_) <;> (try simp at h)) | (refine aw_block ?_) | (refine aw_skip ?_; simp only [thenQ, blockQ, if_true]) | (refine aw_exit ?_; simp [thenQ, blockQ]) | (refine aw_ret ?_; simp only [thenQ, blockQ]) | (refine aw_round ?_) | (refine hK _ ?_; clear hK) | (clear hK; refine hK _ ?_; clear hK) | (clear hK; clear hK; refine hK _ ?_; clear hK) | (clear hK; clear hK; clear hK; refine hK _ ?_; clear hK))
              refine ⟨i + 1, ?_, ⟨by omega, fun j hj => ?_⟩, by omega⟩
              · exact le_of2 (by simp) (by simp [AVle, AV.under, AV.underL] <;> omega) (by simp [AOle, AO.under, AV.underL, AV.under] <;> omega)
              · by_cases e : j = i
                · rw [e]; exact hok
                · exact hgood j (by omega)
          · have hok := badB_ok hin fun h => absurd h hi0
            have hi0I : ¬ (0 : Int) < (i : Int) := by omega
            repeat' (first | (apply aw_seq_k; intro K hK) | (refine aw_run hc (by first | exact aw_nod | (intro _; rw [ordB_w hw]; kernel_rfl) | (intro _; kernel_rfl)) ?_; simp [List.zipIdx, hilI, hgl, h42, h42z, hin, hi0I, hi0, -getM, getM_hit, getM_miss, getM_none]; (repeat (simp (disch := first | omega | assumption | fail) only [if_pos, if_neg, wrap64]; try simp [List.zipIdx, hilI, hgl, h42, h42z, hin, hi0I, hi0, -getM, getM_hit, getM_miss, getM_none])); try (repeat' (refine guardQ_split (fun h => ?_) (fun h => ?_) <;> simp at h <;> (simp [List.zipIdx, hilI, hgl, h42, h42z, hin, hi0I, hi0, -getM, getM_hit, getM_miss, getM_none]; (repeat (simp (disch := first | omega | assumption | fail) only [if_pos, if_neg, wrap64]; try simp [List.zipIdx, hilI, hgl, h42, h42z, hin, hi0I, hi0, -getM, getM_hit, getM_miss, getM_none])))))) | (refine aw_cond (b := _) (by exact rfl) (fun h => ?_) (fun h => ?_) <;> (try simp at h)) | (refine aw_block ?_) | (refine aw_skip ?_; simp only [thenQ, blockQ, if_true]) | (refine aw_exit ?_; simp [thenQ, blockQ]) | (refine aw_ret ?_; simp only [thenQ, blockQ]) | (refine aw_round ?_) | (refine hK _ ?_; clear hK) | (clear hK; refine hK _ ?_; clear hK) | (clear hK; clear hK; refine hK _ ?_; clear hK) | (clear hK; clear hK; clear hK; refine hK _ ?_; clear hK))
            refine ⟨i + 1, ?_, ⟨by omega, fun j hj => ?_⟩, by omega⟩
            · exact le_of2 (by simp) (by simp [AVle, AV.under, AV.underL] <;> omega) (by simp [AOle, AO.under, AV.underL, AV.under] <;> omega)
            · by_cases e : j = i
              · rw [e]; exact hok
              · exact hgood j (by omega)
        · have hbad := badB_out hin
          have hal := buildR_bad hr (l := l) (i := i) ⟨hil, by rw [hbad]; decide, hgood⟩
          rw [hbad] at hal
          repeat' (first | (apply aw_seq_k; intro K hK) | (refine aw_run hc (by first | exact aw_nod | (intro _; rw [ordB_w hw]; kernel_rfl) | (intro _; kernel_rfl)) ?_; simp [List.zipIdx, hilI, hgl, h42, h42z, hin, -getM, getM_hit, getM_miss, getM_none]; (repeat (simp (disch := first | omega | assumption | fail) only [if_pos, if_neg, wrap64]; try simp [List.zipIdx, hilI, hgl, h42, h42z, hin, -getM, getM_hit, getM_miss, getM_none])); try (repeat' (refine guardQ_split (fun h => ?_) (fun h => ?_) <;> simp at h <;> (simp [List.zipIdx, hilI, hgl, h42, h42z, hin, -getM, getM_hit, getM_miss, getM_none]; (repeat (simp (disch := first | omega | assumption | fail) only [if_pos, if_neg, wrap64]; try simp [List.zipIdx, hilI, hgl, h42, h42z, hin, -getM, getM_hit, getM_miss, getM_none])))))) | (refine aw_cond (b := _) (by exact rfl) (fun h => ?_) (fun h => ?_) <;> (try simp at h)) | (refine aw_block ?_) | (refine aw_skip ?_; simp only [thenQ, blockQ, if_true]) | (refine aw_exit ?_; simp [thenQ, blockQ]) | (refine aw_ret ?_; simp only [thenQ, blockQ]) | (refine aw_round ?_) | (refine hK _ ?_; clear hK) | (clear hK; refine hK _ ?_; clear hK) | (clear hK; clear hK; refine hK _ ?_; clear hK) | (clear hK; clear hK; clear hK; refine hK _ ?_; clear hK))
          refine ⟨by simp, ?_⟩
          simp [leaves_iff, Try.f27, hal, zeroZ, Zn.ocells, irows]
          try (first | omega | (refine decide_eq_decide.2 ?_; omega) | (refine decide_eq_false ?_; omega) | (refine decide_eq_true ?_; omega))
      · obtain rfl : i = l.length := by omega
        have hal := buildR_ok hr hgood
        repeat' (first | (apply aw_seq_k; intro K hK) | (refine aw_run hc (by first | exact aw_nod | (intro _; rw [ordB_w hw]; kernel_rfl) | (intro _; kernel_rfl)) ?_; simp [List.zipIdx, -getM, getM_hit, getM_miss, getM_none]; (repeat (simp (disch := first | omega | assumption | fail) only [if_pos, if_neg, wrap64]; try simp [List.zipIdx, -getM, getM_hit, getM_miss, getM_none])); try (repeat' (refine guardQ_split (fun h => ?_) (fun h => ?_) <;> simp at h <;> (simp [List.zipIdx, -getM, getM_hit, getM_miss, getM_none]; (repeat (simp (disch := first | omega | assumption | fail) only [if_pos, if_neg, wrap64]; try simp [List.zipIdx, -getM, getM_hit, getM_miss, getM_none])))))) | (refine aw_cond (b := _) (by exact rfl) (fun h => ?_) (fun h => ?_) <;> (try simp at h)) | (refine aw_block ?_) | (refine aw_skip ?_; simp only [thenQ, blockQ, if_true]) | (refine aw_exit ?_; simp [thenQ, blockQ]) | (refine aw_ret ?_; simp only [thenQ, blockQ]) | (refine aw_round ?_) | (refine hK _ ?_; clear hK) | (clear hK; refine hK _ ?_; clear hK) | (clear hK; clear hK; refine hK _ ?_; clear hK) | (clear hK; clear hK; clear hK; refine hK _ ?_; clear hK))
        refine aw_loopK (s0 := ?lps2) (m0 := ?lpm2) (ι := {i : Nat // i ≤ l.length}) [2, 4, 41, 42] (fun i => [(43, I i.1)]) (fun i => [(0, .box [I z.node, I z.kind, I z.start, I z.count, I z.least, .sl 192 1 1 0 (bz z l i.1).f0.length, .sl 193 1 1 0 (bz z l i.1).f1.length, .sl 194 1 1 0 (bz z l i.1).f2.length, .sl 195 1 1 0 (bz z l i.1).f3.length, .sl 196 1 1 0 (bz z l i.1).f4.length]), (192, .vec 1 1 false (irows (bz z l i.1).f0)), (193, .vec 1 1 false (irows (bz z l i.1).f1)), (194, .vec 1 1 false (irows (bz z l i.1).f2)), (195, .vec 1 1 false (irows (bz z l i.1).f3)), (196, .vec 1 1 false (irows (bz z l i.1).f4))]) (fun i => l.length - i.1) ⟨0, by omega⟩ ?lhs2 ?lhm2 ?_ ?_
        case lhs2 => first | (simp [keepS]; done) | (simp [keepS]; rfl)
        case lhm2 => first | rfl | (simp; done) | (simp; rfl)
        · simp only [bz_zero, noL]
          exact le_of2 (by simp) (by simp [AVle, AV.under, AV.underL] <;> omega) (by simp [AOle, AO.under, AV.underL, AV.under] <;> omega)
        · rintro ⟨i, hi2⟩
          simp only
          rcases Decidable.em (i < l.length) with hil2 | hil2
          · have hilI : (i : Int) < (l.length : Int) := by omega
            have hgl := irows_gi (l := l) (n := i) hil2
            have h48z := F48_bz hr hgood hil2
            repeat' (first | (apply aw_seq_k; intro K hK) | (refine aw_run hc (by first | exact aw_nod | (intro _; rw [ordB_w hw]; kernel_rfl) | (intro _; kernel_rfl)) ?_; simp [List.zipIdx, hilI, hgl, h48, h48z, callM, giveArg, takeArg, take_irows, one1, -getM, getM_hit, getM_miss, getM_none]; (repeat (simp (disch := first | omega | assumption | fail) only [if_pos, if_neg, wrap64]; try simp [List.zipIdx, hilI, hgl, h48, h48z, callM, giveArg, takeArg, take_irows, one1, -getM, getM_hit, getM_miss, getM_none])); try (repeat' (refine guardQ_split (fun h => ?_) (fun h => ?_) <;> simp at h <;> (simp [List.zipIdx, hilI, hgl, h48, h48z, callM, giveArg, takeArg, take_irows, one1, -getM, getM_hit, getM_miss, getM_none]; (repeat (simp (disch := first | omega | assumption | fail) only [if_pos, if_neg, wrap64]; try simp [List.zipIdx, hilI, hgl, h48, h48z, callM, giveArg, takeArg, take_irows, one1, -getM, getM_hit, getM_miss, getM_none])))))) | (refine aw_cond (b := _) (by exact rfl) (fun h => ?_) (fun h => ?_) <;> (try simp at h)) | (refine aw_block ?_) | (refine aw_skip ?_; simp only [thenQ, blockQ, if_true]) | (refine aw_exit ?_; simp [thenQ, blockQ]) | (refine aw_ret ?_; simp only [thenQ, blockQ]) | (refine aw_round ?_) | (refine hK _ ?_; clear hK) | (clear hK; refine hK _ ?_; clear hK) | (clear hK; clear hK; refine hK _ ?_; clear hK) | (clear hK; clear hK; clear hK; refine hK _ ?_; clear hK))
            refine ⟨i + 1, ?_, by omega, by omega⟩
            refine le_turn (s1 := ?tus3) (m1 := ?tum3) [(192, 341), (193, 342), (194, 343), (195, 344), (196, 345)] [43, 2, 4, 41, 42] [0, 16, 341, 342, 343, 344, 345] ?tua3 ?tub3 ?tuc3 ?tud3 ?tue3 ?tuf3 ?tug3
            case tua3 => first | (simp [keepS]; done) | (simp [keepS]; rfl)
            case tub3 => first | (simp; done) | (simp; rfl)
            case tuc3 => simp
            case tud3 => simp
            case tue3 => simp
            case tuf3 => simp
            case tug3 =>
              simp [swp, vr]
              exact le_of2 (by simp) (by simp [AVle, AV.under, AV.underL] <;> omega) (by simp [AOle, AO.under, AV.underL, AV.under] <;> omega)
          · obtain rfl : i = l.length := by omega
            repeat' (first | (apply aw_seq_k; intro K hK) | (refine aw_run hc (by first | exact aw_nod | (intro _; rw [ordB_w hw]; kernel_rfl) | (intro _; kernel_rfl)) ?_; simp [List.zipIdx, -getM, getM_hit, getM_miss, getM_none]; (repeat (simp (disch := first | omega | assumption | fail) only [if_pos, if_neg, wrap64]; try simp [List.zipIdx, -getM, getM_hit, getM_miss, getM_none])); try (repeat' (refine guardQ_split (fun h => ?_) (fun h => ?_) <;> simp at h <;> (simp [List.zipIdx, -getM, getM_hit, getM_miss, getM_none]; (repeat (simp (disch := first | omega | assumption | fail) only [if_pos, if_neg, wrap64]; try simp [List.zipIdx, -getM, getM_hit, getM_miss, getM_none])))))) | (refine aw_cond (b := _) (by exact rfl) (fun h => ?_) (fun h => ?_) <;> (try simp at h)) | (refine aw_block ?_) | (refine aw_skip ?_; simp only [thenQ, blockQ, if_true]) | (refine aw_exit ?_; simp [thenQ, blockQ]) | (refine aw_ret ?_; simp only [thenQ, blockQ]) | (refine aw_round ?_) | (refine hK _ ?_; clear hK) | (clear hK; refine hK _ ?_; clear hK) | (clear hK; clear hK; refine hK _ ?_; clear hK) | (clear hK; clear hK; clear hK; refine hK _ ?_; clear hK))
            rw [← bz_full] at hal
            have hbs := bz_same z l l.length
            unfold sameP at hbs
            refine ⟨by simp, ?_⟩
            simp [leaves_iff, Try.f27, hal, Zn.ocells, take_irows, hbs]
            try (first | omega | (refine decide_eq_decide.2 ?_; omega) | (refine decide_eq_false ?_; omega) | (refine decide_eq_true ?_; omega))
  · rw [decide_eq_false hr] at h41z
    have hal := buildR_range (l := l) hr
    repeat' (first | (apply aw_seq_k; intro K hK) | (refine aw_run hc (by first | exact aw_nod | (intro _; rw [ordB_w hw]; kernel_rfl) | (intro _; kernel_rfl)) ?_; simp [List.zipIdx, h41, h41z, -getM, getM_hit, getM_miss, getM_none]; (repeat (simp (disch := first | omega | assumption | fail) only [if_pos, if_neg, wrap64]; try simp [List.zipIdx, h41, h41z, -getM, getM_hit, getM_miss, getM_none])); try (repeat' (refine guardQ_split (fun h => ?_) (fun h => ?_) <;> simp at h <;> (simp [List.zipIdx, h41, h41z, -getM, getM_hit, getM_miss, getM_none]; (repeat (simp (disch := first | omega | assumption | fail) only [if_pos, if_neg, wrap64]; try simp [List.zipIdx, h41, h41z, -getM, getM_hit, getM_miss, getM_none])))))) | (refine aw_cond (b := _) (by exact rfl) (fun h => ?_) (fun h => ?_) <;> (try simp at h)) | (refine aw_block ?_) | (refine aw_skip ?_; simp only [thenQ, blockQ, if_true]) | (refine aw_exit ?_; simp [thenQ, blockQ]) | (refine aw_ret ?_; simp only [thenQ, blockQ]) | (refine aw_round ?_) | (refine hK _ ?_; clear hK) | (clear hK; refine hK _ ?_; clear hK) | (clear hK; clear hK; refine hK _ ?_; clear hK) | (clear hK; clear hK; clear hK; refine hK _ ?_; clear hK))
    refine ⟨by simp, ?_⟩
    simp [leaves_iff, Try.f27, hal, zeroZ, Zn.ocells, irows]
    try (first | omega | (refine decide_eq_decide.2 ?_; omega) | (refine decide_eq_false ?_; omega) | (refine decide_eq_true ?_; omega))
end Go.AM
