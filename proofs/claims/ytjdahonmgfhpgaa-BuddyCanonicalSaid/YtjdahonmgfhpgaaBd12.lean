/- A part of the proof: what functions of the program compute, by abstract execution of their code. Its theorems hold without further condition. -/
import Derived.Test.YtjdahonmgfhpgaaBd11
set_option linter.all false
namespace Go.AM
open Go Go.Proofs

@[simp] theorem ty58 : Types Try.prog 58 = some ⟨.array 256 4, 256, 256, List.replicate 256 (.bool false)⟩ := by kernel_rfl

def Zn.frs (z : Zn) : List AV := [.rd 1 (irows z.f0), .rd 1 (irows z.f1), .rd 1 (irows z.f2), .rd 1 (irows z.f3), .rd 1 (irows z.f4)]
@[simp] theorem Zn.take5 {z : Zn} : List.take 5 (List.drop 5 z.cells) = z.frs := rfl
@[simp] theorem Zn.frs_len {z : Zn} : z.frs.length = 5 := rfl
@[simp] theorem Zn.frs_under {z : Zn} {n : Nat} : AV.underL n z.frs := by simp [Zn.frs, AV.underL, AV.under]
theorem Zn.frs_get {z : Zn} {k : Nat} (h : k ≤ 4) : z.frs[k]? = some (.rd 1 (irows (z.fr k))) := by
  rcases le4 h with rfl | rfl | rfl | rfl | rfl <;> rfl

/-- The partner of a block. -/
def mate (f : Int) (k : Nat) : Int := if f / 2 ^ k % 2 = 0 then f + 2 ^ k else f - 2 ^ k

theorem xor_all : ((List.range 256).all fun f => (List.range 5).all fun k => bitI .xor .i64 (f : Int) (2 ^ k) == (if (f : Int) / 2 ^ k % 2 = 0 then (f : Int) + 2 ^ k else (f : Int) - 2 ^ k)) = true := by kernel_rfl
theorem xor_mate {f : Int} {k : Nat} (h0 : 0 ≤ f) (h : f < 256) (hk : k ≤ 4) : bitI .xor .i64 f (2 ^ k) = mate f k := by
  obtain ⟨n, rfl⟩ := Int.eq_ofNat_of_zero_le h0
  have := List.all_eq_true.1 xor_all n (List.mem_range.2 (by omega))
  have := List.all_eq_true.1 this k (List.mem_range.2 (by omega))
  exact eq_of_beq this

theorem mate_facts {f : Int} {k : Nat} (hk : k < 4) (hf : f % 2 ^ k = 0) : min f (mate f k) = par f k ∧ mate f k = (if par f k = f then f + 2 ^ k else par f k) := by
  unfold mate par
  rcases le4 (Nat.le_of_lt hk) with rfl | rfl | rfl | rfl | rfl <;> first | (exfalso; omega) | (simp at *; constructor <;> split <;> (try split) <;> omega)

/-- Is a frame marked? -/
def isIn (P : List Int) (x : Int) : Bool := decide (x ∈ P)
theorem marks_gt {P : List Int} {y : Nat} (h : y < 256) : (marks P)[y]? = some (B (isIn P (y : Int))) := marks_get h
attribute [simp] coverP_zero
attribute [simp] marks_len
@[simp] theorem marks_under {P : List Int} {n : Nat} : AV.underL n (marks P) := by
  rw [underL_iff]
  intro a ha
  unfold marks at ha
  obtain ⟨x, _, rfl⟩ := List.mem_map.1 ha
  simp [AV.under]

theorem nodup_prefix {l m : List Int} (h : l <+: m) (hm : m.Nodup) : l.Nodup := hm.sublist h.sublist

def matedAt (z : Zn) (k : Nat) (f : Int) : Prop := mate f k ∈ z.fr k ∧ insideZ z (par f k) (k + 1)

theorem joinable_mate {z : Zn} (ho : orderOK z) : joinable z ↔ ∃ k f, k < 4 ∧ f ∈ z.fr k ∧ matedAt z k f := by
  constructor
  · rintro ⟨k, f, hk, hf, hg, hi⟩
    have hm := mate_facts hk (ho.inside (by omega) hf).2.1
    have e : par f k = f := by unfold par; have := hi.2.1; omega
    refine ⟨k, f, hk, hf, ?_, by rw [e]; exact hi⟩
    rw [hm.2, if_pos e]; exact hg
  · rintro ⟨k, f, hk, hf, hm, hi⟩
    have h2 := mate_facts hk (ho.inside (by omega) hf).2.1
    have h3 := par_facts hk (ho.inside (by omega) hf).2.1
    rw [h2.2] at hm
    split at hm
    · rename_i e; rw [e] at hi; exact ⟨k, f, hk, hf, hm, hi⟩
    · rename_i e
      have := h3.2.2.2.resolve_left e
      exact ⟨k, par f k, hk, hm, by rw [this]; exact hf, hi⟩

theorem s16 (X : AX) (hX : XOK Try.prog X) (hw : X.W wT) (h41 : ∀ z M n, X.call 41 [.agg z.cells] M n = some (B (rangesZ z), []))
    (h42 : ∀ z f (k : Nat) M n, rangesZ z → k ≤ 5 → X.call 42 [.agg z.cells, I f, I (k : Int)] M n = some (B (insideZ z f k), []))
    (h43 : ∀ l x M n, Sorted l → l.length ≤ 1000000 → X.call 43 [.rd 1 (irows l), I x] M n = some (.tup [I (below l x), B (x ∈ l)], [])) :
    PSound Try.prog 16 (specF (ι := {z : Zn // small z}) (fun z => [.agg z.1.cells]) fun z => retOf [I (checkZ z.1)]) := by
  refine psound_spec hX mixed Try.func16 rfl fun ⟨z, hl⟩ w0 G => ⟨by show 1 ≤ 118; decide, rfl, ?_⟩
  show AW ⟨Try.prog, X, 118, w0, .pure G⟩ _ _ _
  have hc : Cx.OK ⟨Try.prog, X, 118, w0, .pure G⟩ := ⟨hX, mixed⟩
  repeat' (first | (apply aw_seq_k; intro K hK) | (refine aw_run hc (by first | exact aw_nod | (intro _; rw [ordB_w hw]; kernel_rfl) | (intro _; kernel_rfl)) ?_; simp (disch := first | omega | assumption | (simp; done) | fail) [if_pos, if_neg, List.zipIdx, h41]; try (repeat' (refine guardQ_split (fun h => ?_) (fun h => ?_) <;> simp at h <;> simp (disch := first | omega | assumption | (simp; done) | fail) [if_pos, if_neg, List.zipIdx, h41]))) | (refine aw_cond (b := _) (by exact rfl) (fun h => ?_) (fun h => ?_) <;> (try simp at h)) | (refine aw_block ?_) | (refine aw_skip ?_; simp only [thenQ, blockQ, if_true]) | (refine aw_exit ?_; simp [thenQ, blockQ]) | (refine aw_ret ?_; simp only [thenQ, blockQ]) | (refine hK _ ?_; clear hK) | (clear hK; refine hK _ ?_; clear hK) | (clear hK; clear hK; refine hK _ ?_; clear hK) | (clear hK; clear hK; clear hK; refine hK _ ?_; clear hK))
  · rename_i h
    rw [checkZ_ranges h]
    refine ⟨by simp, ?_⟩
    simp [leaves_iff, Try.f16]
    try (first | omega | (refine decide_eq_decide.2 ?_; omega) | (refine decide_eq_false ?_; omega) | (refine decide_eq_true ?_; omega))
  · have hz := ‹rangesZ z›
    refine aw_loopK (s0 := ?lps1) (m0 := ?lpm1) (ι := {k : Nat // k ≤ 5 ∧ ∀ k' i', k' < k → i' < (z.fr k').length → badAt z k' i' = 0}) [1, 23] (fun i => [(24, I i.1)]) (fun _ => []) (fun i => 5 - i.1) ⟨0, by omega, by omega⟩ ?lhs1 ?lhm1 ?_ ?_
    case lhs1 => first | (simp [keepS]; done) | (simp [keepS]; rfl)
    case lhm1 => first | rfl | (simp; done) | (simp; rfl)
    · exact le_of2 (by simp) (by simp [AVle, AV.under, AV.underL] <;> omega) (by simp [AOle, AO.under, AV.underL, AV.under] <;> omega)
    · rintro ⟨k, hk, hrows⟩
      simp only
      repeat' (first | (apply aw_seq_k; intro K hK) | (refine aw_run hc (by first | exact aw_nod | (intro _; rw [ordB_w hw]; kernel_rfl) | (intro _; kernel_rfl)) ?_; simp (disch := first | omega | assumption | (simp; done) | fail) [if_pos, if_neg, List.zipIdx, wrap64, Zn.frs_get, List.map_replicate, marks_nil, -List.reduceReplicate]; try (repeat' (refine guardQ_split (fun h => ?_) (fun h => ?_) <;> simp at h <;> simp (disch := first | omega | assumption | (simp; done) | fail) [if_pos, if_neg, List.zipIdx, wrap64, Zn.frs_get, List.map_replicate, marks_nil, -List.reduceReplicate]))) | (refine aw_cond (b := _) (by exact rfl) (fun h => ?_) (fun h => ?_) <;> (try simp at h)) | (refine aw_block ?_) | (refine aw_skip ?_; simp only [thenQ, blockQ, if_true]) | (refine aw_exit ?_; simp [thenQ, blockQ]) | (refine aw_ret ?_; simp only [thenQ, blockQ]) | (refine hK _ ?_; clear hK) | (clear hK; refine hK _ ?_; clear hK) | (clear hK; clear hK; refine hK _ ?_; clear hK) | (clear hK; clear hK; clear hK; refine hK _ ?_; clear hK))
      · refine aw_loopK (s0 := ?lps2) (m0 := ?lpm2) (ι := {i : Nat // i ≤ (z.fr k).length ∧ ∀ i', i' < i → badAt z k i' = 0}) [1, 3, 4, 23, 24, 28, 29] (fun i => [(30, I i.1)]) (fun _ => []) (fun i => (z.fr k).length - i.1) ⟨0, by omega, by omega⟩ ?lhs2 ?lhm2 ?_ ?_
        case lhs2 => first | (simp [keepS]; done) | (simp [keepS]; rfl)
        case lhm2 => first | rfl | (simp; done) | (simp; rfl)
        · exact le_of2 (by simp) (by simp [AVle, AV.under, AV.underL] <;> omega) (by simp [AOle, AO.under, AV.underL, AV.under] <;> omega)
        · rintro ⟨i, hi, hrow⟩
          have hlk := hl k (by omega)
          simp only
          repeat' (first | (apply aw_seq_k; intro K hK) | (refine aw_run hc (by first | exact aw_nod | (intro _; rw [ordB_w hw]; kernel_rfl) | (intro _; kernel_rfl)) ?_; simp (disch := first | omega | assumption | (simp; done) | fail) [if_pos, if_neg, List.zipIdx, wrap64, irows_gi, h42]; try (repeat' (refine guardQ_split (fun h => ?_) (fun h => ?_) <;> simp at h <;> simp (disch := first | omega | assumption | (simp; done) | fail) [if_pos, if_neg, List.zipIdx, wrap64, irows_gi, h42]))) | (refine aw_cond (b := _) (by exact rfl) (fun h => ?_) (fun h => ?_) <;> (try simp at h)) | (refine aw_block ?_) | (refine aw_skip ?_; simp only [thenQ, blockQ, if_true]) | (refine aw_exit ?_; simp [thenQ, blockQ]) | (refine aw_ret ?_; simp only [thenQ, blockQ]) | (refine hK _ ?_; clear hK) | (clear hK; refine hK _ ?_; clear hK) | (clear hK; clear hK; refine hK _ ?_; clear hK) | (clear hK; clear hK; clear hK; refine hK _ ?_; clear hK))
          · have hb : badAt z k i = 3 := by unfold badAt; rw [if_pos h]
            have hf : IsFirst z k i := ⟨by omega, by omega, by omega, hrows, hrow⟩
            rw [checkZ_form hz (by rw [formErr_first hf, hb]; omega), formErr_first hf, hb]
            refine ⟨by simp, ?_⟩
            simp [leaves_iff, Try.f16]
            try (first | omega | (refine decide_eq_decide.2 ?_; omega) | (refine decide_eq_false ?_; omega) | (refine decide_eq_true ?_; omega))
          · have h1 := ‹insideZ z (gi (z.fr k) i) k›
            have hb : badAt z k i = 10 := by unfold badAt; rw [if_neg (by simpa using h1), if_pos ⟨by omega, by omega⟩]
            have hf : IsFirst z k i := ⟨by omega, by omega, by omega, hrows, hrow⟩
            rw [checkZ_form hz (by rw [formErr_first hf, hb]; omega), formErr_first hf, hb]
            refine ⟨by simp, ?_⟩
            simp [leaves_iff, Try.f16]
            try (first | omega | (refine decide_eq_decide.2 ?_; omega) | (refine decide_eq_false ?_; omega) | (refine decide_eq_true ?_; omega))
          · have h1 := ‹insideZ z (gi (z.fr k) i) k›
            refine ⟨i + 1, ?_, ⟨by omega, fun j hj => ?_⟩, by omega⟩
            · exact le_of2 (by simp) (by simp [AVle, AV.under, AV.underL] <;> omega) (by simp [AOle, AO.under, AV.underL, AV.under] <;> omega)
            · by_cases e : j = i
              · subst e; unfold badAt; rw [if_neg (by simpa using h1), if_neg (by omega)]
              · exact hrow j (by omega)
          · have h1 := ‹insideZ z (gi (z.fr k) i) k›
            refine ⟨i + 1, ?_, ⟨by omega, fun j hj => ?_⟩, by omega⟩
            · exact le_of2 (by simp) (by simp [AVle, AV.under, AV.underL] <;> omega) (by simp [AOle, AO.under, AV.underL, AV.under] <;> omega)
            · by_cases e : j = i
              · subst e; unfold badAt; rw [if_neg (by simpa using h1), if_neg (by omega)]
              · exact hrow j (by omega)
          · refine ⟨k + 1, ?_, ⟨by omega, fun k' i' hk' hi' => ?_⟩, by omega⟩
            · exact le_of2 (by simp) (by simp [AVle, AV.under, AV.underL] <;> omega) (by simp [AOle, AO.under, AV.underL, AV.under] <;> omega)
            · by_cases e : k' = k
              · subst e; exact hrow i' (by omega)
              · exact hrows k' i' (by omega) hi'
      · have ho : orderOK z := fun k' i' hk' hi' => hrows k' i' (by omega) hi'
        have hfe := orderOK_iff.1 ho
        clear hrows
        refine aw_loopK (s0 := ?lps3) (m0 := ?lpm3) (ι := {k : Nat // k ≤ 5 ∧ (coverL z k).Nodup}) [1, 7, 54] (fun k => [(55, I k.1)]) (fun k => [(144, .box (marks (coverL z k.1)))]) (fun k => 5 - k.1) ⟨0, by omega, by simp⟩ ?lhs3 ?lhm3 ?_ ?_
        case lhs3 => first | (simp [keepS]; done) | (simp [keepS]; rfl)
        case lhm3 => first | rfl | (simp; done) | (simp; rfl)
        · exact le_of2 (by simp) (by simp [AVle, AV.under, AV.underL] <;> omega) (by simp [AOle, AO.under, AV.underL, AV.under] <;> omega)
        · rintro ⟨k, hk, hnd⟩
          simp only
          repeat' (first | (apply aw_seq_k; intro K hK) | (refine aw_run hc (by first | exact aw_nod | (intro _; rw [ordB_w hw]; kernel_rfl) | (intro _; kernel_rfl)) ?_; simp (disch := first | omega | assumption | (simp; done) | fail) [if_pos, if_neg, List.zipIdx, wrap64, Zn.frs_get]; try (repeat' (refine guardQ_split (fun h => ?_) (fun h => ?_) <;> simp at h <;> simp (disch := first | omega | assumption | (simp; done) | fail) [if_pos, if_neg, List.zipIdx, wrap64, Zn.frs_get]))) | (refine aw_cond (b := _) (by exact rfl) (fun h => ?_) (fun h => ?_) <;> (try simp at h)) | (refine aw_block ?_) | (refine aw_skip ?_; simp only [thenQ, blockQ, if_true]) | (refine aw_exit ?_; simp [thenQ, blockQ]) | (refine aw_ret ?_; simp only [thenQ, blockQ]) | (refine hK _ ?_; clear hK) | (clear hK; refine hK _ ?_; clear hK) | (clear hK; clear hK; refine hK _ ?_; clear hK) | (clear hK; clear hK; clear hK; refine hK _ ?_; clear hK))
          · have hk4 : k ≤ 4 := by omega
            have hlk := hl k hk4
            have hp5 := pow_le5 (show k ≤ 5 by omega)
            obtain ⟨w, hw1, hw2⟩ : ∃ w : Nat, (2 : Int) ^ k = w ∧ 2 ^ k = w := ⟨2 ^ k, by simp, rfl⟩
            rw [hw1] at hp5
            refine aw_loopK (s0 := ?lps4) (m0 := ?lpm4) (ι := {i : Nat // i ≤ (z.fr k).length ∧ (coverP z k i).Nodup}) [1, 7, 8, 54, 55, 59, 60] (fun i => [(61, I i.1)]) (fun i => [(144, .box (marks (coverP z k i.1)))]) (fun i => (z.fr k).length - i.1) ⟨0, by omega, by rw [coverP_zero]; exact hnd⟩ ?lhs4 ?lhm4 ?_ ?_
            case lhs4 => first | (simp [keepS]; done) | (simp [keepS]; rfl)
            case lhm4 => first | rfl | (simp; done) | (simp; rfl)
            · exact le_of2 (by simp) (by simp [AVle, AV.under, AV.underL] <;> omega) (by simp [AOle, AO.under, AV.underL, AV.under] <;> omega)
            · rintro ⟨i, hi, hndi⟩
              simp only
              repeat' (first | (apply aw_seq_k; intro K hK) | (refine aw_run hc (by first | exact aw_nod | (intro _; rw [ordB_w hw]; kernel_rfl) | (intro _; kernel_rfl)) ?_; simp (disch := first | omega | assumption | (simp; done) | fail) [if_pos, if_neg, List.zipIdx, wrap64, irows_gi]; try (repeat' (refine guardQ_split (fun h => ?_) (fun h => ?_) <;> simp at h <;> simp (disch := first | omega | assumption | (simp; done) | fail) [if_pos, if_neg, List.zipIdx, wrap64, irows_gi]))) | (refine aw_cond (b := _) (by exact rfl) (fun h => ?_) (fun h => ?_) <;> (try simp at h)) | (refine aw_block ?_) | (refine aw_skip ?_; simp only [thenQ, blockQ, if_true]) | (refine aw_exit ?_; simp [thenQ, blockQ]) | (refine aw_ret ?_; simp only [thenQ, blockQ]) | (refine hK _ ?_; clear hK) | (clear hK; refine hK _ ?_; clear hK) | (clear hK; clear hK; refine hK _ ?_; clear hK) | (clear hK; clear hK; clear hK; refine hK _ ?_; clear hK))
              · have hin := ho.inside hk4 (gi_mem (show i < (z.fr k).length by omega))
                have hb := inside_bounds hz hin
                rw [hw1] at hb
                obtain ⟨f, hf⟩ := Int.eq_ofNat_of_zero_le hb.1
                have hpart := fun n hn => cover_part (n := n) hk4 (show i < (z.fr k).length by omega) hn
                rw [hf] at hb hpart
                rw [hw2] at hpart
                rw [hf]
                refine aw_loopK (s0 := ?lps5) (m0 := ?lpm5) (ι := {n : Nat // n ≤ w ∧ (coverP z k i ++ span f n).Nodup}) [1, 7, 8, 11, 54, 55, 59, 60, 61] (fun n => [(12, I (((f + n.1 : Nat) : Int)))]) (fun n => [(144, .box (marks (coverP z k i ++ span f n.1)))]) (fun n => w - n.1) ⟨0, by omega, by simpa using hndi⟩ ?lhs5 ?lhm5 ?_ ?_
                case lhs5 => first | (simp [keepS]; done) | (simp [keepS]; rfl)
                case lhm5 => first | rfl | (simp; done) | (simp; rfl)
                · exact le_of2 (by simp) (by simp [AVle, AV.under, AV.underL] <;> omega) (by simp [AOle, AO.under, AV.underL, AV.under] <;> omega)
                · rintro ⟨n, hn, hndn⟩
                  simp only
                  repeat' (first | (apply aw_seq_k; intro K hK) | (refine aw_run hc (by first | exact aw_nod | (intro _; rw [ordB_w hw]; kernel_rfl) | (intro _; kernel_rfl)) ?_; simp (disch := first | omega | assumption | (simp; done) | fail) [if_pos, if_neg, List.zipIdx, wrap64, bits64, Nat.min_eq_left (show k ≤ 64 by omega), wrap_pow (show k ≤ 62 by omega), hf, hw1, marks_gt, marks_set, -List.reduceReplicate]; try (repeat' (refine guardQ_split (fun h => ?_) (fun h => ?_) <;> simp at h <;> simp (disch := first | omega | assumption | (simp; done) | fail) [if_pos, if_neg, List.zipIdx, wrap64, bits64, Nat.min_eq_left (show k ≤ 64 by omega), wrap_pow (show k ≤ 62 by omega), hf, hw1, marks_gt, marks_set, -List.reduceReplicate]))) | (refine aw_cond (b := _) (by exact rfl) (fun h => ?_) (fun h => ?_) <;> (try simp at h)) | (refine aw_block ?_) | (refine aw_skip ?_; simp only [thenQ, blockQ, if_true]) | (refine aw_exit ?_; simp [thenQ, blockQ]) | (refine aw_ret ?_; simp only [thenQ, blockQ]) | (refine hK _ ?_; clear hK) | (clear hK; refine hK _ ?_; clear hK) | (clear hK; clear hK; refine hK _ ?_; clear hK) | (clear hK; clear hK; clear hK; refine hK _ ?_; clear hK))
                  · have hd : ¬ (coverL z 5).Nodup := fun hnd5 => by
                      have h2 := nodup_prefix (hpart (n + 1) (by omega)) hnd5
                      rw [span_succ, ← List.append_assoc, List.nodup_append] at h2
                      exact h2.2.2 _ (of_decide_eq_true h) _ (by simp) rfl
                    rw [checkZ_dup hz hfe hd]
                    refine ⟨by simp, ?_⟩
                    simp [leaves_iff, Try.f16]
                    try (first | omega | (refine decide_eq_decide.2 ?_; omega) | (refine decide_eq_false ?_; omega) | (refine decide_eq_true ?_; omega))
                  · refine ⟨n + 1, ?_, ⟨by omega, ?_⟩, by omega⟩
                    · rw [span_succ, ← List.append_assoc]
                      exact le_of2 (by simp) (by simp [AVle, AV.under, AV.underL] <;> omega) (by simp [AOle, AO.under, AV.underL, AV.under] <;> omega)
                    · rw [span_succ, ← List.append_assoc, List.nodup_append]
                      refine ⟨hndn, by simp, fun x hx y hy e => ?_⟩
                      subst e
                      obtain rfl := List.mem_singleton.1 hy
                      exact of_decide_eq_false h hx
                  · obtain rfl : n = w := by omega
                    refine ⟨i + 1, ?_, ⟨by omega, ?_⟩, by omega⟩
                    · rw [coverP_succ (by omega), hw2, hf]
                      exact le_of2 (by simp) (by simp [AVle, AV.under, AV.underL] <;> omega) (by simp [AOle, AO.under, AV.underL, AV.under] <;> omega)
                    · rw [coverP_succ (by omega), hw2, hf]; exact hndn
              · obtain rfl : i = (z.fr k).length := by omega
                rw [coverP_full] at hndi
                refine ⟨k + 1, ?_, ⟨by omega, hndi⟩, by omega⟩
                rw [coverP_full]
                exact le_of2 (by simp) (by simp [AVle, AV.under, AV.underL] <;> omega) (by simp [AOle, AO.under, AV.underL, AV.under] <;> omega)
          · obtain rfl : k = 5 := by omega
            refine aw_loopK (s0 := ?lps6) (m0 := ?lpm6) (ι := {k : Nat // k ≤ 4 ∧ ∀ k' i, k' < k → i < (z.fr k').length → ¬ matedAt z k' (gi (z.fr k') i)}) [1] (fun k => [(81, I k.1)]) (fun _ => []) (fun k => 4 - k.1) ⟨0, by omega, by omega⟩ ?lhs6 ?lhm6 ?_ ?_
            case lhs6 => first | (simp [keepS]; done) | (simp [keepS]; rfl)
            case lhm6 => first | rfl | (simp; done) | (simp; rfl)
            · exact le_of2 (by simp) (by simp [AVle, AV.under, AV.underL] <;> omega) (by simp [AOle, AO.under, AV.underL, AV.under] <;> omega)
            · rintro ⟨k, hk, hrows⟩
              simp only
              repeat' (first | (apply aw_seq_k; intro K hK) | (refine aw_run hc (by first | exact aw_nod | (intro _; rw [ordB_w hw]; kernel_rfl) | (intro _; kernel_rfl)) ?_; simp (disch := first | omega | assumption | (simp; done) | fail) [if_pos, if_neg, List.zipIdx, wrap64, Zn.cf]; try (repeat' (refine guardQ_split (fun h => ?_) (fun h => ?_) <;> simp at h <;> simp (disch := first | omega | assumption | (simp; done) | fail) [if_pos, if_neg, List.zipIdx, wrap64, Zn.cf]))) | (refine aw_cond (b := _) (by exact rfl) (fun h => ?_) (fun h => ?_) <;> (try simp at h)) | (refine aw_block ?_) | (refine aw_skip ?_; simp only [thenQ, blockQ, if_true]) | (refine aw_exit ?_; simp [thenQ, blockQ]) | (refine aw_ret ?_; simp only [thenQ, blockQ]) | (refine hK _ ?_; clear hK) | (clear hK; refine hK _ ?_; clear hK) | (clear hK; clear hK; refine hK _ ?_; clear hK) | (clear hK; clear hK; clear hK; refine hK _ ?_; clear hK))
              · have hk4 : k < 4 := by omega
                have hlk := hl k (by omega)
                have hs := ho.sorted (show k ≤ 4 by omega)
                refine aw_loopK (s0 := ?lps7) (m0 := ?lpm7) (ι := {i : Nat // i ≤ (z.fr k).length ∧ ∀ j, j < i → ¬ matedAt z k (gi (z.fr k) j)}) [1, 13, 81, 87, 88] (fun i => [(89, I i.1)]) (fun _ => []) (fun i => (z.fr k).length - i.1) ⟨0, by omega, by omega⟩ ?lhs7 ?lhm7 ?_ ?_
                case lhs7 => first | (simp [keepS]; done) | (simp [keepS]; rfl)
                case lhm7 => first | rfl | (simp; done) | (simp; rfl)
                · exact le_of2 (by simp) (by simp [AVle, AV.under, AV.underL] <;> omega) (by simp [AOle, AO.under, AV.underL, AV.under] <;> omega)
                · rintro ⟨i, hi, hrow⟩
                  by_cases hil : i < (z.fr k).length
                  · have hin := ho.inside (show k ≤ 4 by omega) (gi_mem hil)
                    have hb := inside_bounds hz hin
                    have hpp := pow_pos' (k := k)
                    have hm := mate_facts hk4 hin.2.1
                    have h42' : ∀ z f M n, rangesZ z → X.call 42 [.agg z.cells, I f, I ((k : Int) + 1)] M n = some (B (insideZ z f (k + 1)), []) := fun z f M n h => h42 z f (k + 1) M n h (by omega)
                    simp only
                    repeat' (first | (apply aw_seq_k; intro K hK) | (refine aw_run hc (by first | exact aw_nod | (intro _; rw [ordB_w hw]; kernel_rfl) | (intro _; kernel_rfl)) ?_; simp (disch := first | omega | assumption | (simp; done) | fail) [if_pos, if_neg, List.zipIdx, wrap64, Zn.cf, irows_gi, bits64, Nat.min_eq_left (show k ≤ 64 by omega), wrap_pow (show k ≤ 62 by omega), xor_mate, hm.1, h43, h42']; try (repeat' (refine guardQ_split (fun h => ?_) (fun h => ?_) <;> simp at h <;> simp (disch := first | omega | assumption | (simp; done) | fail) [if_pos, if_neg, List.zipIdx, wrap64, Zn.cf, irows_gi, bits64, Nat.min_eq_left (show k ≤ 64 by omega), wrap_pow (show k ≤ 62 by omega), xor_mate, hm.1, h43, h42']))) | (refine aw_cond (b := _) (by exact rfl) (fun h => ?_) (fun h => ?_) <;> (try simp at h)) | (refine aw_block ?_) | (refine aw_skip ?_; simp only [thenQ, blockQ, if_true]) | (refine aw_exit ?_; simp [thenQ, blockQ]) | (refine aw_ret ?_; simp only [thenQ, blockQ]) | (refine hK _ ?_; clear hK) | (clear hK; refine hK _ ?_; clear hK) | (clear hK; clear hK; refine hK _ ?_; clear hK) | (clear hK; clear hK; clear hK; refine hK _ ?_; clear hK))
                    · rename_i h1 h2
                      have hj : joinable z := (joinable_mate ho).2 ⟨k, _, hk4, gi_mem hil, by simpa using ‹mate (gi (z.fr k) i) k ∈ z.fr k›, by assumption⟩
                      rw [checkZ_join hz hfe hnd hj]
                      refine ⟨by simp, ?_⟩
                      simp [leaves_iff, Try.f16]
                      try (first | omega | (refine decide_eq_decide.2 ?_; omega) | (refine decide_eq_false ?_; omega) | (refine decide_eq_true ?_; omega))
                    · refine ⟨i + 1, ?_, ⟨by omega, fun j hj hh => ?_⟩, by omega⟩
                      · exact le_of2 (by simp) (by simp [AVle, AV.under, AV.underL] <;> omega) (by simp [AOle, AO.under, AV.underL, AV.under] <;> omega)
                      · by_cases e : j = i
                        · subst e; exact h hh.2
                        · exact hrow j (by omega) hh
                    · refine ⟨i + 1, ?_, ⟨by omega, fun j hj hh => ?_⟩, by omega⟩
                      · exact le_of2 (by simp) (by simp [AVle, AV.under, AV.underL] <;> omega) (by simp [AOle, AO.under, AV.underL, AV.under] <;> omega)
                      · by_cases e : j = i
                        · subst e; exact absurd hh.1 (by assumption)
                        · exact hrow j (by omega) hh
                    · omega
                  · obtain rfl : i = (z.fr k).length := by omega
                    simp only
                    repeat' (first | (apply aw_seq_k; intro K hK) | (refine aw_run hc (by first | exact aw_nod | (intro _; rw [ordB_w hw]; kernel_rfl) | (intro _; kernel_rfl)) ?_; simp (disch := first | omega | assumption | (simp; done) | fail) [if_pos, if_neg, List.zipIdx, wrap64]; try (repeat' (refine guardQ_split (fun h => ?_) (fun h => ?_) <;> simp at h <;> simp (disch := first | omega | assumption | (simp; done) | fail) [if_pos, if_neg, List.zipIdx, wrap64]))) | (refine aw_cond (b := _) (by exact rfl) (fun h => ?_) (fun h => ?_) <;> (try simp at h)) | (refine aw_block ?_) | (refine aw_skip ?_; simp only [thenQ, blockQ, if_true]) | (refine aw_exit ?_; simp [thenQ, blockQ]) | (refine aw_ret ?_; simp only [thenQ, blockQ]) | (refine hK _ ?_; clear hK) | (clear hK; refine hK _ ?_; clear hK) | (clear hK; clear hK; refine hK _ ?_; clear hK) | (clear hK; clear hK; clear hK; refine hK _ ?_; clear hK))
                    refine ⟨k + 1, ?_, ⟨by omega, fun k' j hk' hj => ?_⟩, by omega⟩
                    · exact le_of2 (by simp) (by simp [AVle, AV.under, AV.underL] <;> omega) (by simp [AOle, AO.under, AV.underL, AV.under] <;> omega)
                    · by_cases e : k' = k
                      · subst e; exact hrow j (by omega)
                      · exact hrows k' j (by omega) hj
              · obtain rfl : k = 4 := by omega
                have hnj : ¬ joinable z := fun hj => by
                  obtain ⟨k, f, hk, hf, h1⟩ := (joinable_mate ho).1 hj
                  obtain ⟨i, hi, rfl⟩ := gi_of_mem hf
                  exact hrows k i hk hi h1
                rw [checkZ_ok hz hfe hnd hnj]
                refine ⟨by simp, ?_⟩
                simp [leaves_iff, Try.f16]
                try (first | omega | (refine decide_eq_decide.2 ?_; omega) | (refine decide_eq_false ?_; omega) | (refine decide_eq_true ?_; omega))
end Go.AM
