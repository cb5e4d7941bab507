/- The frames that are free, in order; how many they are. -/
import Derived.Test.YtjdahonmgfhpgaaBdR
import Derived.Test.YtjdahonmgfhpgaaBd41
import Derived.Test.YtjdahonmgfhpgaaBd25
import Derived.Test.YtjdahonmgfhpgaaAmZc
import Derived.Test.YtjdahonmgfhpgaaBd35
set_option linter.all false

namespace Go.AM
open Go

theorem span_len (f : Int) (n : Nat) : (span f n).length = n := by simp [span]
theorem rowCover_len' (k : Nat) (l : List Int) : (rowCover k l).length = l.length * 2 ^ k := by
  unfold rowCover
  induction l with
  | nil => simp
  | cons a r ih => rw [List.flatMap_cons, List.length_append, span_len, ih, List.length_cons, Nat.add_mul]; omega
theorem coverL_succ_len (z : Zn) (k : Nat) : (coverL z (k + 1)).length = (coverL z k).length + (z.fr k).length * 2 ^ k := by
  have h := coverP_full z k
  have h2 : coverP z k (z.fr k).length = coverL z k ++ rowCover k (z.fr k) := by unfold coverP; rw [List.take_length]
  rw [← h, h2, List.length_append, rowCover_len']

theorem check_nodup {z : Zn} (h : checkZ z = 0) : (coverL z 5).Nodup := by
  have hr := (check_parts h).1
  unfold checkZ at h
  rw [if_neg (by simpa using hr)] at h
  split at h
  · rename_i h1; exact absurd h h1
  · split at h
    · simp at h
    · rename_i h2; exact Decidable.of_not_not h2

/-- The free frames below n. -/
noncomputable def frP (z : Zn) (n : Nat) : List Int := open Classical in ((List.range n).map fun (x : Nat) => (x : Int)).filter fun x => decide (free z x)
noncomputable def frR (z : Zn) : List Int := open Classical in if checkZ z = 0 then frP z 256 else []
theorem frP_zero (z : Zn) : frP z 0 = [] := rfl
theorem frP_yes {z : Zn} {n : Nat} (h : free z (n : Int)) : frP z (n + 1) = frP z n ++ [(n : Int)] := by
  unfold frP
  rw [List.range_succ, List.map_append, List.filter_append]
  simp [h]
theorem frP_no {z : Zn} {n : Nat} (h : ¬ free z (n : Int)) : frP z (n + 1) = frP z n := by
  unfold frP
  rw [List.range_succ, List.map_append, List.filter_append]
  simp [h]
theorem frP_len {z : Zn} {n : Nat} : (frP z n).length ≤ n := by
  unfold frP
  have := List.length_filter_le (fun x => @decide (free z x) (Classical.propDecidable _)) ((List.range n).map fun (x : Nat) => (x : Int))
  simpa using this
theorem frP_sorted (z : Zn) (n : Nat) : Sorted (frP z n) := by
  unfold frP Sorted
  refine List.Pairwise.filter _ ?_
  rw [List.pairwise_map]
  refine List.Pairwise.imp ?_ (List.pairwise_lt_range (n := n))
  intro a b h; omega
theorem mem_frP {z : Zn} {n : Nat} {x : Int} : x ∈ frP z n ↔ (0 ≤ x ∧ x < n) ∧ free z x := by
  unfold frP
  rw [List.mem_filter]
  constructor
  · rintro ⟨h1, h2⟩
    obtain ⟨y, hy, rfl⟩ := List.mem_map.1 h1
    have := List.mem_range.1 hy
    exact ⟨by omega, by simpa using h2⟩
  · rintro ⟨h1, h2⟩
    exact ⟨List.mem_map.2 ⟨x.toNat, List.mem_range.2 (by omega), by omega⟩, by simpa using h2⟩
theorem free_lt {z : Zn} (hr : rangesZ z) (hv : Valid z) {x : Int} (h : free z x) : 0 ≤ x ∧ x < 256 := by
  have := hv.inz x h
  unfold rangesZ at hr
  omega
theorem sort_frames {z : Zn} (h : checkZ z = 0) : sortL (coverL z 5) = frP z 256 := by
  obtain ⟨hr, hv⟩ := check_parts h
  have hnd : (sortL (coverL z 5)).Nodup := (sortL_perm _).nodup_iff.2 (check_nodup h)
  refine sorted_ext ?_ (frP_sorted z 256) fun x => ?_
  · have h1 := sortL_sorted (coverL z 5)
    have h2 : (sortL (coverL z 5)).Pairwise (· ≠ ·) := hnd
    exact (h1.and h2).imp fun ⟨a, b⟩ => by omega
  · rw [(sortL_perm _).mem_iff, ← free_cover, mem_frP]
    exact ⟨fun hf => ⟨by have := free_lt hr hv hf; omega, hf⟩, fun hf => hf.2⟩
theorem cover_length {z : Zn} (h : checkZ z = 0) : (coverL z 5).length = (frP z 256).length := by rw [← sort_frames h, sortL_len]
theorem cover_le {z : Zn} (h : checkZ z = 0) : (coverL z 5).length ≤ 256 := by rw [cover_length h]; exact frP_len
theorem frR_len (z : Zn) : (frR z).length ≤ 256 := by
  unfold frR
  split
  · exact frP_len
  · simp

/-- How many frames are free in blocks of an order below o. -/
noncomputable def unuR (z : Zn) (o : Int) : Int := open Classical in if checkZ z ≠ 0 ∨ ¬ (0 ≤ o ∧ o ≤ 4) then 0 else ((coverL z o.toNat).length : Int)
noncomputable def lastR (z : Zn) : Int := open Classical in if checkZ z ≠ 0 then 0 else ((z.f4.length * 16 : Nat) : Int)
noncomputable def larR (z : Zn) : Int := open Classical in if checkZ z ≠ 0 then -1 else if z.f4 ≠ [] then 4 else if z.f3 ≠ [] then 3 else if z.f2 ≠ [] then 2 else if z.f1 ≠ [] then 1 else if z.f0 ≠ [] then 0 else -1
theorem count_sum {z : Zn} : unuR z 4 + lastR z = ((frR z).length : Int) := by
  unfold unuR lastR frR
  by_cases h : checkZ z = 0
  · rw [if_neg (by simp [h]), if_neg (by simp [h]), if_pos h, ← cover_length h]
    have := coverL_succ_len z 4
    have e : (z.fr 4) = z.f4 := rfl
    rw [e, show 4 + 1 = 5 from rfl] at this
    have h4 : (4 : Int).toNat = 4 := rfl
    rw [h4]
    omega
  · rw [if_pos (.inl h), if_pos h, if_neg h]; rfl

/-- A zone is built from its free frames. -/
theorem build_frames {z : Zn} (h : checkZ z = 0) : buildR z (frP z 256) = (z, 0) := by
  obtain ⟨hr, hv⟩ := check_parts h
  have hs := frP_sorted z 256
  rw [buildR_ok hr fun j hj => ?_]
  · congr 1
    conv => rhs; rw [hv.canon]
    exact canon_congr fun x => by
      rw [mem_frP]
      exact ⟨fun hf => hf.2, fun hf => ⟨by have := free_lt hr hv hf; omega, hf⟩⟩
  · have hm := gi_mem hj
    have hf := (mem_frP.1 hm).2
    have hin : insideZ z (gi (frP z 256) j) 0 := (inside0 hr).2 (hv.inz _ hf)
    unfold badB
    rw [if_neg (by simpa using hin), if_neg]
    rintro ⟨h0, h1⟩
    have := (hs.lt_iff (i := j - 1) (j := j) (by omega) hj).2 (by omega)
    omega
end Go.AM

/- buddy.Frames, ref.Frames. -/
namespace Go.AM
open Go Go.Proofs

@[simp] theorem frs_cur {z : Zn} {M : Nat → AO} : curL M z.frs := by simp [Zn.frs]
@[simp] theorem frs_iso {z : Zn} {n : Nat} {σ : Nat → Nat} : isoL n σ z.frs = z.frs := by simp [Zn.frs]
theorem frR_ok {z : Zn} (h : checkZ z = 0) : frR z = frP z 256 := by unfold frR; exact if_pos h
theorem frR_bad {z : Zn} (h : checkZ z ≠ 0) : frR z = [] := by unfold frR; exact if_neg h

theorem s34 (X : AX) (hX : XOK Try.prog X) (hw : X.W wT) (h17 : ∀ z M n, small z → X.call 17 [.agg z.cells] M n = some (I (checkZ z), []))
    (h46 : ∀ z M n, rangesZ z → formErr z = 0 → small z → X.call 46 [.agg z.cells] M n = some (.sl n 1 1 0 256, [(n, .vec 1 1 false (irows (cnts (coverL z 5))))])) :
    PSound Try.prog 34 (specF (ι := {z : Zn // small z}) (fun z => [.agg z.1.cells]) fun z => retOf [.ow 1 (irows (frR z.1))]) := by
  refine psound_spec hX mixed Try.func34 rfl fun ⟨z, hz⟩ w0 G => ⟨by show 1 ≤ 28; decide, rfl, ?_⟩
  show AW ⟨Try.prog, X, 28, w0, .pure G⟩ _ _ _
  have hc : Cx.OK ⟨Try.prog, X, 28, w0, .pure G⟩ := ⟨hX, mixed⟩
  simp only at hz ⊢
  have h17z := fun M n => h17 z M n hz
  rcases Decidable.em (checkZ z = 0) with hc0 | hc0
  · obtain ⟨hr, hv⟩ := check_parts hc0
    have h46z := fun M n => h46 z M n hr (check_form hc0) hz
    rw [frR_ok hc0]
    repeat' (first | (apply aw_seq_k; intro K hK) | (refine aw_run hc (by first | exact aw_nod | (intro _; rw [ordB_w hw]; kernel_rfl) | (intro _; kernel_rfl)) ?_; simp [List.zipIdx, h17z, hc0, h46z, -getM, getM_hit, getM_miss, getM_none]; (repeat (simp (disch := first | omega | assumption | fail) only [if_pos, if_neg, wrap64]; try simp [List.zipIdx, h17z, hc0, h46z, -getM, getM_hit, getM_miss, getM_none])); try (repeat' (refine guardQ_split (fun h => ?_) (fun h => ?_) <;> simp at h <;> (simp [List.zipIdx, h17z, hc0, h46z, -getM, getM_hit, getM_miss, getM_none]; (repeat (simp (disch := first | omega | assumption | fail) only [if_pos, if_neg, wrap64]; try simp [List.zipIdx, h17z, hc0, h46z, -getM, getM_hit, getM_miss, getM_none])))))) | (refine aw_cond (b := _) (by exact rfl) (fun h => ?_) (fun h => ?_) <;> (try simp at h)) | (refine aw_block ?_) | (refine aw_skip ?_; simp only [thenQ, blockQ, if_true]) | (refine aw_exit ?_; simp [thenQ, blockQ]) | (refine aw_ret ?_; simp only [thenQ, blockQ]) | (refine aw_round ?_) | (refine hK _ ?_; clear hK) | (clear hK; refine hK _ ?_; clear hK) | (clear hK; clear hK; refine hK _ ?_; clear hK) | (clear hK; clear hK; clear hK; refine hK _ ?_; clear hK))
    refine aw_weaken (le_nilslot (t := 3) (sz := 1) (by simp)) ?_
    refine aw_loopK (s0 := ?lps1) (m0 := ?lpm1) (ι := {n : Nat // n ≤ 256}) [4] (fun n => [(5, I n.1), (3, .sl 160 1 1 0 (frP z n.1).length)]) (fun n => [(160, .vec 1 1 false (irows (frP z n.1)))]) (fun n => 256 - n.1) ⟨0, by omega⟩ ?lhs1 ?lhm1 ?_ ?_
    case lhs1 => first | (simp [keepS]; done) | (simp [keepS]; rfl)
    case lhm1 => first | rfl | (simp; done) | (simp; rfl)
    · simp only [frP_zero]
      exact le_of2 (by simp) (by simp [AVle, AV.under, AV.underL] <;> omega) (by simp [AOle, AO.under, AV.underL, AV.under] <;> omega)
    · rintro ⟨n, hn⟩
      simp only
      rcases Decidable.em (n < 256) with hn2 | hn2
      · have hnI : (n : Int) < 256 := by omega
        have hg := irows_gi (l := cnts (coverL z 5)) (n := n) (by rw [cnts_len]; exact hn2)
        have hfl := frP_len (z := z) (n := n)
        by_cases hf : free z (n : Int)
        · have hpos := (cnts_pos hn2).2 hf
          have hnx := frP_yes hf
          have hle1 : (frP z n).length ≤ 1073741823 := by omega
          have htk : List.take (frP z n).length (irows (frP z n)) = irows (frP z n) := take_irows _
          have hap : irows (frP z n) ++ [[I (n : Int)]] = irows (frP z (n + 1)) := by rw [irows_one, irows_append, hnx]
          have hl2 : (frP z n).length + 1 = (frP z (n + 1)).length := by rw [hnx]; simp
          repeat' (first | (apply aw_seq_k; intro K hK) | (refine aw_run hc (by first | exact aw_nod | (intro _; rw [ordB_w hw]; kernel_rfl) | (intro _; kernel_rfl)) ?_; simp [List.zipIdx, hnI, hg, hpos, hle1, htk, hap, -getM, getM_hit, getM_miss, getM_none]; (repeat (simp (disch := first | omega | assumption | fail) only [if_pos, if_neg, wrap64]; try simp [List.zipIdx, hnI, hg, hpos, hle1, htk, hap, -getM, getM_hit, getM_miss, getM_none])); try (repeat' (refine guardQ_split (fun h => ?_) (fun h => ?_) <;> simp at h <;> (simp [List.zipIdx, hnI, hg, hpos, hle1, htk, hap, -getM, getM_hit, getM_miss, getM_none]; (repeat (simp (disch := first | omega | assumption | fail) only [if_pos, if_neg, wrap64]; try simp [List.zipIdx, hnI, hg, hpos, hle1, htk, hap, -getM, getM_hit, getM_miss, getM_none])))))) | (refine aw_cond (b := _) (by exact rfl) (fun h => ?_) (fun h => ?_) <;> (try simp at h)) | (refine aw_block ?_) | (refine aw_skip ?_; simp only [thenQ, blockQ, if_true]) | (refine aw_exit ?_; simp [thenQ, blockQ]) | (refine aw_ret ?_; simp only [thenQ, blockQ]) | (refine aw_round ?_) | (refine hK _ ?_; clear hK) | (clear hK; refine hK _ ?_; clear hK) | (clear hK; clear hK; refine hK _ ?_; clear hK) | (clear hK; clear hK; clear hK; refine hK _ ?_; clear hK))
          refine ⟨n + 1, ?_, by omega, by omega⟩
          simp only [hl2]
          refine le_turn (s1 := ?tus2) (m1 := ?tum2) [] [5, 3, 4] [0, 112, 160] ?tua2 ?tub2 ?tuc2 ?tud2 ?tue2 ?tuf2 ?tug2
          case tua2 => first | (simp [keepS]; done) | (simp [keepS]; rfl)
          case tub2 => first | (simp; done) | (simp; rfl)
          case tuc2 => simp
          case tud2 => simp
          case tue2 => simp
          case tuf2 => simp
          case tug2 =>
            simp [swp, vr]
            exact le_of2 (by simp) (by simp [AVle, AV.under, AV.underL] <;> omega) (by simp [AOle, AO.under, AV.underL, AV.under] <;> omega)
        · have hz0 := cnts_zero hn2 hf
          have hnx := frP_no hf
          rw [hz0] at hg
          repeat' (first | (apply aw_seq_k; intro K hK) | (refine aw_run hc (by first | exact aw_nod | (intro _; rw [ordB_w hw]; kernel_rfl) | (intro _; kernel_rfl)) ?_; simp [List.zipIdx, hnI, hg, -getM, getM_hit, getM_miss, getM_none]; (repeat (simp (disch := first | omega | assumption | fail) only [if_pos, if_neg, wrap64]; try simp [List.zipIdx, hnI, hg, -getM, getM_hit, getM_miss, getM_none])); try (repeat' (refine guardQ_split (fun h => ?_) (fun h => ?_) <;> simp at h <;> (simp [List.zipIdx, hnI, hg, -getM, getM_hit, getM_miss, getM_none]; (repeat (simp (disch := first | omega | assumption | fail) only [if_pos, if_neg, wrap64]; try simp [List.zipIdx, hnI, hg, -getM, getM_hit, getM_miss, getM_none])))))) | (refine aw_cond (b := _) (by exact rfl) (fun h => ?_) (fun h => ?_) <;> (try simp at h)) | (refine aw_block ?_) | (refine aw_skip ?_; simp only [thenQ, blockQ, if_true]) | (refine aw_exit ?_; simp [thenQ, blockQ]) | (refine aw_ret ?_; simp only [thenQ, blockQ]) | (refine aw_round ?_) | (refine hK _ ?_; clear hK) | (clear hK; refine hK _ ?_; clear hK) | (clear hK; clear hK; refine hK _ ?_; clear hK) | (clear hK; clear hK; clear hK; refine hK _ ?_; clear hK))
          refine ⟨n + 1, ?_, by omega, by omega⟩
          simp only [hnx]
          exact le_of2 (by simp) (by simp [AVle, AV.under, AV.underL] <;> omega) (by simp [AOle, AO.under, AV.underL, AV.under] <;> omega)
      · obtain rfl : n = 256 := by omega
        repeat' (first | (apply aw_seq_k; intro K hK) | (refine aw_run hc (by first | exact aw_nod | (intro _; rw [ordB_w hw]; kernel_rfl) | (intro _; kernel_rfl)) ?_; simp [List.zipIdx, -getM, getM_hit, getM_miss, getM_none]; (repeat (simp (disch := first | omega | assumption | fail) only [if_pos, if_neg, wrap64]; try simp [List.zipIdx, -getM, getM_hit, getM_miss, getM_none])); try (repeat' (refine guardQ_split (fun h => ?_) (fun h => ?_) <;> simp at h <;> (simp [List.zipIdx, -getM, getM_hit, getM_miss, getM_none]; (repeat (simp (disch := first | omega | assumption | fail) only [if_pos, if_neg, wrap64]; try simp [List.zipIdx, -getM, getM_hit, getM_miss, getM_none])))))) | (refine aw_cond (b := _) (by exact rfl) (fun h => ?_) (fun h => ?_) <;> (try simp at h)) | (refine aw_block ?_) | (refine aw_skip ?_; simp only [thenQ, blockQ, if_true]) | (refine aw_exit ?_; simp [thenQ, blockQ]) | (refine aw_ret ?_; simp only [thenQ, blockQ]) | (refine aw_round ?_) | (refine hK _ ?_; clear hK) | (clear hK; refine hK _ ?_; clear hK) | (clear hK; clear hK; refine hK _ ?_; clear hK) | (clear hK; clear hK; clear hK; refine hK _ ?_; clear hK))
        refine ⟨by simp, ?_⟩
        simp [leaves_iff, Try.f34, take_irows]
        try (first | omega | (refine decide_eq_decide.2 ?_; omega) | (refine decide_eq_false ?_; omega) | (refine decide_eq_true ?_; omega))
  · rw [frR_bad hc0]
    repeat' (first | (apply aw_seq_k; intro K hK) | (refine aw_run hc (by first | exact aw_nod | (intro _; rw [ordB_w hw]; kernel_rfl) | (intro _; kernel_rfl)) ?_; simp [List.zipIdx, h17z, hc0, -getM, getM_hit, getM_miss, getM_none]; (repeat (simp (disch := first | omega | assumption | fail) only [if_pos, if_neg, wrap64]; try simp [List.zipIdx, h17z, hc0, -getM, getM_hit, getM_miss, getM_none])); try (repeat' (refine guardQ_split (fun h => ?_) (fun h => ?_) <;> simp at h <;> (simp [List.zipIdx, h17z, hc0, -getM, getM_hit, getM_miss, getM_none]; (repeat (simp (disch := first | omega | assumption | fail) only [if_pos, if_neg, wrap64]; try simp [List.zipIdx, h17z, hc0, -getM, getM_hit, getM_miss, getM_none])))))) | (refine aw_cond (b := _) (by exact rfl) (fun h => ?_) (fun h => ?_) <;> (try simp at h)) | (refine aw_block ?_) | (refine aw_skip ?_; simp only [thenQ, blockQ, if_true]) | (refine aw_exit ?_; simp [thenQ, blockQ]) | (refine aw_ret ?_; simp only [thenQ, blockQ]) | (refine aw_round ?_) | (refine hK _ ?_; clear hK) | (clear hK; refine hK _ ?_; clear hK) | (clear hK; clear hK; refine hK _ ?_; clear hK) | (clear hK; clear hK; clear hK; refine hK _ ?_; clear hK))
    refine ⟨by simp, ?_⟩
    simp [leaves_iff, Try.f34, irows]
    try (first | omega | (refine decide_eq_decide.2 ?_; omega) | (refine decide_eq_false ?_; omega) | (refine decide_eq_true ?_; omega))

theorem s33 (X : AX) (hX : XOK Try.prog X) (hw : X.W wT) (h16 : ∀ z M n, small z → X.call 16 [.agg z.cells] M n = some (I (checkZ z), [])) (h54 : X.call 54 = sortC) :
    PSound Try.prog 33 (specF (ι := {z : Zn // small z}) (fun z => [.agg z.1.cells]) fun z => retOf [.ow 1 (irows (frR z.1))]) := by
  refine psound_spec hX mixed Try.func33 rfl fun ⟨z, hz⟩ w0 G => ⟨by show 1 ≤ 41; decide, rfl, ?_⟩
  show AW ⟨Try.prog, X, 41, w0, .pure G⟩ _ _ _
  have hc : Cx.OK ⟨Try.prog, X, 41, w0, .pure G⟩ := ⟨hX, mixed⟩
  simp only at hz ⊢
  have h16z := fun M n => h16 z M n hz
  rcases Decidable.em (checkZ z = 0) with hc0 | hc0
  · obtain ⟨hr, hv⟩ := check_parts hc0
    have hcl := cover_le hc0
    rw [frR_ok hc0]
    repeat' (first | (apply aw_seq_k; intro K hK) | (refine aw_run hc (by first | exact aw_nod | (intro _; rw [ordB_w hw]; kernel_rfl) | (intro _; kernel_rfl)) ?_; simp [List.zipIdx, h16z, hc0, -getM, getM_hit, getM_miss, getM_none]; (repeat (simp (disch := first | omega | assumption | fail) only [if_pos, if_neg, wrap64]; try simp [List.zipIdx, h16z, hc0, -getM, getM_hit, getM_miss, getM_none])); try (repeat' (refine guardQ_split (fun h => ?_) (fun h => ?_) <;> simp at h <;> (simp [List.zipIdx, h16z, hc0, -getM, getM_hit, getM_miss, getM_none]; (repeat (simp (disch := first | omega | assumption | fail) only [if_pos, if_neg, wrap64]; try simp [List.zipIdx, h16z, hc0, -getM, getM_hit, getM_miss, getM_none])))))) | (refine aw_cond (b := _) (by exact rfl) (fun h => ?_) (fun h => ?_) <;> (try simp at h)) | (refine aw_block ?_) | (refine aw_skip ?_; simp only [thenQ, blockQ, if_true]) | (refine aw_exit ?_; simp [thenQ, blockQ]) | (refine aw_ret ?_; simp only [thenQ, blockQ]) | (refine aw_round ?_) | (refine hK _ ?_; clear hK) | (clear hK; refine hK _ ?_; clear hK) | (clear hK; clear hK; refine hK _ ?_; clear hK) | (clear hK; clear hK; clear hK; refine hK _ ?_; clear hK))
    refine aw_weaken (le_nilslot (t := 3) (sz := 1) (by simp)) ?_
    refine aw_loopK (s0 := ?lps3) (m0 := ?lpm3) (ι := {k : Nat // k ≤ 5}) [13] (fun k => [(14, I k.1), (3, .sl 144 1 1 0 (coverL z k.1).length)]) (fun k => [(144, .vec 1 1 false (irows (coverL z k.1)))]) (fun k => 5 - k.1) ⟨0, by omega⟩ ?lhs3 ?lhm3 ?_ ?_
    case lhs3 => first | (simp [keepS]; done) | (simp [keepS]; rfl)
    case lhm3 => first | rfl | (simp; done) | (simp; rfl)
    · simp only [coverL_zero]
      exact le_of2 (by simp) (by simp [AVle, AV.under, AV.underL] <;> omega) (by simp [AOle, AO.under, AV.underL, AV.under] <;> omega)
    · rintro ⟨k, hk⟩
      simp only
      rcases Decidable.em (k < 5) with hk5 | hk5
      · have hkI : (k : Int) < 5 := by omega
        have hk4 : k ≤ 4 := by omega
        have hlk := hz k hk4
        have hsh : min k 64 = k := Nat.min_eq_left (by omega)
        have hwp := wrap_pow (show k ≤ 62 by omega)
        obtain ⟨w, hw1, hw2⟩ : ∃ w : Nat, (2 : Int) ^ k = w ∧ 2 ^ k = w := ⟨2 ^ k, by simp, rfl⟩
        have hw5 : w ≤ 16 := by
          rw [← hw2]
          rcases le4 hk4 with rfl | rfl | rfl | rfl | rfl <;> simp
        repeat' (first | (apply aw_seq_k; intro K hK) | (refine aw_run hc (by first | exact aw_nod | (intro _; rw [ordB_w hw]; kernel_rfl) | (intro _; kernel_rfl)) ?_; simp [List.zipIdx, hkI, Zn.frs_get hk4, -getM, getM_hit, getM_miss, getM_none]; (repeat (simp (disch := first | omega | assumption | fail) only [if_pos, if_neg, wrap64]; try simp [List.zipIdx, hkI, Zn.frs_get hk4, -getM, getM_hit, getM_miss, getM_none])); try (repeat' (refine guardQ_split (fun h => ?_) (fun h => ?_) <;> simp at h <;> (simp [List.zipIdx, hkI, Zn.frs_get hk4, -getM, getM_hit, getM_miss, getM_none]; (repeat (simp (disch := first | omega | assumption | fail) only [if_pos, if_neg, wrap64]; try simp [List.zipIdx, hkI, Zn.frs_get hk4, -getM, getM_hit, getM_miss, getM_none])))))) | (refine aw_cond (b := _) (by exact rfl) (fun h => ?_) (fun h => ?_) <;> (try simp at h)) | (refine aw_block ?_) | (refine aw_skip ?_; simp only [thenQ, blockQ, if_true]) | (refine aw_exit ?_; simp [thenQ, blockQ]) | (refine aw_ret ?_; simp only [thenQ, blockQ]) | (refine aw_round ?_) | (refine hK _ ?_; clear hK) | (clear hK; refine hK _ ?_; clear hK) | (clear hK; clear hK; refine hK _ ?_; clear hK) | (clear hK; clear hK; clear hK; refine hK _ ?_; clear hK))
        refine aw_loopK (s0 := ?lps4) (m0 := ?lpm4) (ι := {i : Nat // i ≤ (z.fr k).length}) [4, 13, 14, 18, 19] (fun i => [(20, I i.1), (3, .sl 144 1 1 0 (coverP z k i.1).length)]) (fun i => [(144, .vec 1 1 false (irows (coverP z k i.1)))]) (fun i => (z.fr k).length - i.1) ⟨0, by omega⟩ ?lhs4 ?lhm4 ?_ ?_
        case lhs4 => first | (simp [keepS]; done) | (simp [keepS]; rfl)
        case lhm4 => first | rfl | (simp; done) | (simp; rfl)
        · simp only [coverP_zero]
          exact le_of2 (by simp) (by simp [AVle, AV.under, AV.underL] <;> omega) (by simp [AOle, AO.under, AV.underL, AV.under] <;> omega)
        · rintro ⟨i, hi⟩
          simp only
          rcases Decidable.em (i < (z.fr k).length) with hil | hil
          · have hilI : (i : Int) < ((z.fr k).length : Int) := by omega
            have hg := irows_gi (l := z.fr k) (n := i) hil
            have hb := inside_bounds hr (hv.inside k (gi (z.fr k) i) hk4 (gi_mem hil))
            rw [hw1] at hb
            obtain ⟨f, hf⟩ := Int.eq_ofNat_of_zero_le hb.1
            have hpart := fun n hn => cover_part (n := n) hk4 hil hn
            rw [hw2] at hpart
            rw [hf] at hb hg hpart
            repeat' (first | (apply aw_seq_k; intro K hK) | (refine aw_run hc (by first | exact aw_nod | (intro _; rw [ordB_w hw]; kernel_rfl) | (intro _; kernel_rfl)) ?_; simp [List.zipIdx, hilI, hg, hsh, hwp, hw1, bits64, -getM, getM_hit, getM_miss, getM_none]; (repeat (simp (disch := first | omega | assumption | fail) only [if_pos, if_neg, wrap64]; try simp [List.zipIdx, hilI, hg, hsh, hwp, hw1, bits64, -getM, getM_hit, getM_miss, getM_none])); try (repeat' (refine guardQ_split (fun h => ?_) (fun h => ?_) <;> simp at h <;> (simp [List.zipIdx, hilI, hg, hsh, hwp, hw1, bits64, -getM, getM_hit, getM_miss, getM_none]; (repeat (simp (disch := first | omega | assumption | fail) only [if_pos, if_neg, wrap64]; try simp [List.zipIdx, hilI, hg, hsh, hwp, hw1, bits64, -getM, getM_hit, getM_miss, getM_none])))))) | (refine aw_cond (b := _) (by exact rfl) (fun h => ?_) (fun h => ?_) <;> (try simp at h)) | (refine aw_block ?_) | (refine aw_skip ?_; simp only [thenQ, blockQ, if_true]) | (refine aw_exit ?_; simp [thenQ, blockQ]) | (refine aw_ret ?_; simp only [thenQ, blockQ]) | (refine aw_round ?_) | (refine hK _ ?_; clear hK) | (clear hK; refine hK _ ?_; clear hK) | (clear hK; clear hK; refine hK _ ?_; clear hK) | (clear hK; clear hK; clear hK; refine hK _ ?_; clear hK))
            refine aw_loopK (s0 := ?lps5) (m0 := ?lpm5) (ι := {n : Nat // n ≤ w}) [4, 7, 13, 14, 18, 19, 20, 25] (fun n => [(26, I n.1), (3, .sl 144 1 1 0 (coverP z k i ++ span f n.1).length)]) (fun n => [(144, .vec 1 1 false (irows (coverP z k i ++ span f n.1)))]) (fun n => w - n.1) ⟨0, by omega⟩ ?lhs5 ?lhm5 ?_ ?_
            case lhs5 => first | (simp [keepS]; done) | (simp [keepS]; rfl)
            case lhm5 => first | rfl | (simp; done) | (simp; rfl)
            · have h0 : coverP z k i ++ span f 0 = coverP z k i := by simp [span]
              simp only [h0]
              exact le_of2 (by simp) (by simp [AVle, AV.under, AV.underL] <;> omega) (by simp [AOle, AO.under, AV.underL, AV.under] <;> omega)
            · rintro ⟨n, hn⟩
              simp only
              have hpl := (hpart n hn).length_le
              rcases Decidable.em (n < w) with hnw | hnw
              · have hnI : (n : Int) < (w : Int) := by omega
                obtain ⟨L, hL⟩ : ∃ L, L = coverP z k i ++ span f n := ⟨_, rfl⟩
                rw [← hL] at hpl ⊢
                have hle1 : L.length ≤ 1073741823 := by omega
                have htk : List.take L.length (irows L) = irows L := take_irows _
                have hnx : coverP z k i ++ span f (n + 1) = L ++ [(f : Int) + (n : Int)] := by rw [span_succ, ← List.append_assoc, ← hL]
                have hap : irows L ++ [[I ((f : Int) + (n : Int))]] = irows (L ++ [(f : Int) + (n : Int)]) := by rw [irows_one, irows_append]
                have hl2 : L.length + 1 = (L ++ [(f : Int) + (n : Int)]).length := by simp
                repeat' (first | (apply aw_seq_k; intro K hK) | (refine aw_run hc (by first | exact aw_nod | (intro _; rw [ordB_w hw]; kernel_rfl) | (intro _; kernel_rfl)) ?_; simp [List.zipIdx, hnI, hle1, htk, hap, -getM, getM_hit, getM_miss, getM_none]; (repeat (simp (disch := first | omega | assumption | fail) only [if_pos, if_neg, wrap64]; try simp [List.zipIdx, hnI, hle1, htk, hap, -getM, getM_hit, getM_miss, getM_none])); try (repeat' (refine guardQ_split (fun h => ?_) (fun h => ?_) <;> simp at h <;> (simp [List.zipIdx, hnI, hle1, htk, hap, -getM, getM_hit, getM_miss, getM_none]; (repeat (simp (disch := first | omega | assumption | fail) only [if_pos, if_neg, wrap64]; try simp [List.zipIdx, hnI, hle1, htk, hap, -getM, getM_hit, getM_miss, getM_none])))))) | (refine aw_cond (b := _) (by exact rfl) (fun h => ?_) (fun h => ?_) <;> (try simp at h)) | (refine aw_block ?_) | (refine aw_skip ?_; simp only [thenQ, blockQ, if_true]) | (refine aw_exit ?_; simp [thenQ, blockQ]) | (refine aw_ret ?_; simp only [thenQ, blockQ]) | (refine aw_round ?_) | (refine hK _ ?_; clear hK) | (clear hK; refine hK _ ?_; clear hK) | (clear hK; clear hK; refine hK _ ?_; clear hK) | (clear hK; clear hK; clear hK; refine hK _ ?_; clear hK))
                refine ⟨n + 1, ?_, by omega, by omega⟩
                have hl3 : (coverP z k i).length + (span (f : Int) (n + 1)).length = (L ++ [(f : Int) + (n : Int)]).length := by rw [← List.length_append, hnx]
                simp only [hnx, hl2, hl3]
                have hll : (coverP z k i).length + (span (f : Int) (n + 1)).length = L.length + 1 := by rw [hl3]; simp
                refine le_turn (s1 := ?tus6) (m1 := ?tum6) [] [26, 3, 4, 7, 13, 14, 18, 19, 20, 25] [0, 144] ?tua6 ?tub6 ?tuc6 ?tud6 ?tue6 ?tuf6 ?tug6
                case tua6 => first | (simp [keepS]; done) | (simp [keepS]; rfl)
                case tub6 => first | (simp; done) | (simp; rfl)
                case tuc6 => simp
                case tud6 => simp
                case tue6 => simp
                case tuf6 => simp
                case tug6 =>
                  simp [swp, vr]
                  exact le_of2 (by simp) (by simp [AVle, AV.under, AV.underL] <;> omega) (by simp [AOle, AO.under, AV.underL, AV.under] <;> omega)
              · obtain rfl : n = w := by omega
                repeat' (first | (apply aw_seq_k; intro K hK) | (refine aw_run hc (by first | exact aw_nod | (intro _; rw [ordB_w hw]; kernel_rfl) | (intro _; kernel_rfl)) ?_; simp [List.zipIdx, -getM, getM_hit, getM_miss, getM_none]; (repeat (simp (disch := first | omega | assumption | fail) only [if_pos, if_neg, wrap64]; try simp [List.zipIdx, -getM, getM_hit, getM_miss, getM_none])); try (repeat' (refine guardQ_split (fun h => ?_) (fun h => ?_) <;> simp at h <;> (simp [List.zipIdx, -getM, getM_hit, getM_miss, getM_none]; (repeat (simp (disch := first | omega | assumption | fail) only [if_pos, if_neg, wrap64]; try simp [List.zipIdx, -getM, getM_hit, getM_miss, getM_none])))))) | (refine aw_cond (b := _) (by exact rfl) (fun h => ?_) (fun h => ?_) <;> (try simp at h)) | (refine aw_block ?_) | (refine aw_skip ?_; simp only [thenQ, blockQ, if_true]) | (refine aw_exit ?_; simp [thenQ, blockQ]) | (refine aw_ret ?_; simp only [thenQ, blockQ]) | (refine aw_round ?_) | (refine hK _ ?_; clear hK) | (clear hK; refine hK _ ?_; clear hK) | (clear hK; clear hK; refine hK _ ?_; clear hK) | (clear hK; clear hK; clear hK; refine hK _ ?_; clear hK))
                refine ⟨i + 1, ?_, by omega, by omega⟩
                rw [coverP_succ hil, hw2, hf]
                exact le_of2 (by simp) (by simp [AVle, AV.under, AV.underL] <;> omega) (by simp [AOle, AO.under, AV.underL, AV.under] <;> omega)
          · obtain rfl : i = (z.fr k).length := by omega
            repeat' (first | (apply aw_seq_k; intro K hK) | (refine aw_run hc (by first | exact aw_nod | (intro _; rw [ordB_w hw]; kernel_rfl) | (intro _; kernel_rfl)) ?_; simp [List.zipIdx, -getM, getM_hit, getM_miss, getM_none]; (repeat (simp (disch := first | omega | assumption | fail) only [if_pos, if_neg, wrap64]; try simp [List.zipIdx, -getM, getM_hit, getM_miss, getM_none])); try (repeat' (refine guardQ_split (fun h => ?_) (fun h => ?_) <;> simp at h <;> (simp [List.zipIdx, -getM, getM_hit, getM_miss, getM_none]; (repeat (simp (disch := first | omega | assumption | fail) only [if_pos, if_neg, wrap64]; try simp [List.zipIdx, -getM, getM_hit, getM_miss, getM_none])))))) | (refine aw_cond (b := _) (by exact rfl) (fun h => ?_) (fun h => ?_) <;> (try simp at h)) | (refine aw_block ?_) | (refine aw_skip ?_; simp only [thenQ, blockQ, if_true]) | (refine aw_exit ?_; simp [thenQ, blockQ]) | (refine aw_ret ?_; simp only [thenQ, blockQ]) | (refine aw_round ?_) | (refine hK _ ?_; clear hK) | (clear hK; refine hK _ ?_; clear hK) | (clear hK; clear hK; refine hK _ ?_; clear hK) | (clear hK; clear hK; clear hK; refine hK _ ?_; clear hK))
            refine ⟨k + 1, ?_, by omega, by omega⟩
            rw [← coverP_full]
            exact le_of2 (by simp) (by simp [AVle, AV.under, AV.underL] <;> omega) (by simp [AOle, AO.under, AV.underL, AV.under] <;> omega)
      · obtain rfl : k = 5 := by omega
        have hlt : (coverL z 5).length < 4611686018427387904 := by omega
        have hsl := sortL_len (coverL z 5)
        repeat' (first | (apply aw_seq_k; intro K hK) | (refine aw_run hc (by first | exact aw_nod | (intro _; rw [ordB_w hw]; kernel_rfl) | (intro _; kernel_rfl)) ?_; simp [List.zipIdx, h54, sortC, unI_irows, hlt, -getM, getM_hit, getM_miss, getM_none]; (repeat (simp (disch := first | omega | assumption | fail) only [if_pos, if_neg, wrap64]; try simp [List.zipIdx, h54, sortC, unI_irows, hlt, -getM, getM_hit, getM_miss, getM_none])); try (repeat' (refine guardQ_split (fun h => ?_) (fun h => ?_) <;> simp at h <;> (simp [List.zipIdx, h54, sortC, unI_irows, hlt, -getM, getM_hit, getM_miss, getM_none]; (repeat (simp (disch := first | omega | assumption | fail) only [if_pos, if_neg, wrap64]; try simp [List.zipIdx, h54, sortC, unI_irows, hlt, -getM, getM_hit, getM_miss, getM_none])))))) | (refine aw_cond (b := _) (by exact rfl) (fun h => ?_) (fun h => ?_) <;> (try simp at h)) | (refine aw_block ?_) | (refine aw_skip ?_; simp only [thenQ, blockQ, if_true]) | (refine aw_exit ?_; simp [thenQ, blockQ]) | (refine aw_ret ?_; simp only [thenQ, blockQ]) | (refine aw_round ?_) | (refine hK _ ?_; clear hK) | (clear hK; refine hK _ ?_; clear hK) | (clear hK; clear hK; refine hK _ ?_; clear hK) | (clear hK; clear hK; clear hK; refine hK _ ?_; clear hK))
        rw [sort_frames hc0, cover_length hc0]
        refine ⟨by simp, ?_⟩
        simp [leaves_iff, Try.f33, take_irows]
        try (first | omega | (refine decide_eq_decide.2 ?_; omega) | (refine decide_eq_false ?_; omega) | (refine decide_eq_true ?_; omega))
  · rw [frR_bad hc0]
    repeat' (first | (apply aw_seq_k; intro K hK) | (refine aw_run hc (by first | exact aw_nod | (intro _; rw [ordB_w hw]; kernel_rfl) | (intro _; kernel_rfl)) ?_; simp [List.zipIdx, h16z, hc0, -getM, getM_hit, getM_miss, getM_none]; (repeat (simp (disch := first | omega | assumption | fail) only [if_pos, if_neg, wrap64]; try simp [List.zipIdx, h16z, hc0, -getM, getM_hit, getM_miss, getM_none])); try (repeat' (refine guardQ_split (fun h => ?_) (fun h => ?_) <;> simp at h <;> (simp [List.zipIdx, h16z, hc0, -getM, getM_hit, getM_miss, getM_none]; (repeat (simp (disch := first | omega | assumption | fail) only [if_pos, if_neg, wrap64]; try simp [List.zipIdx, h16z, hc0, -getM, getM_hit, getM_miss, getM_none])))))) | (refine aw_cond (b := _) (by exact rfl) (fun h => ?_) (fun h => ?_) <;> (try simp at h)) | (refine aw_block ?_) | (refine aw_skip ?_; simp only [thenQ, blockQ, if_true]) | (refine aw_exit ?_; simp [thenQ, blockQ]) | (refine aw_ret ?_; simp only [thenQ, blockQ]) | (refine aw_round ?_) | (refine hK _ ?_; clear hK) | (clear hK; refine hK _ ?_; clear hK) | (clear hK; clear hK; refine hK _ ?_; clear hK) | (clear hK; clear hK; clear hK; refine hK _ ?_; clear hK))
    refine ⟨by simp, ?_⟩
    simp [leaves_iff, Try.f33, irows]
    try (first | omega | (refine decide_eq_decide.2 ?_; omega) | (refine decide_eq_false ?_; omega) | (refine decide_eq_true ?_; omega))
end Go.AM

/- Largest, Unusable, Count. -/
namespace Go.AM
open Go Go.Proofs

@[simp] theorem ty72 : Types Try.prog 72 = some ⟨.slice 22, 1, 24, [.slice none 0 0]⟩ := by kernel_rfl

theorem larR_bad {z : Zn} (h : checkZ z ≠ 0) : larR z = -1 := by unfold larR; exact if_pos h
theorem larR_at {z : Zn} (h : checkZ z = 0) {k : Nat} (hk : k ≤ 4) (hne : z.fr k ≠ []) (hup : ∀ j, k < j → j ≤ 4 → z.fr j = []) : larR z = (k : Int) := by
  have u : ∀ j, k < j → j ≤ 4 → ¬ (z.fr j ≠ []) := fun j h1 h2 h3 => h3 (hup j h1 h2)
  unfold larR
  rw [if_neg (by simp [h])]
  have n4 : 4 ≤ k ∨ ¬ (z.f4 ≠ []) := by
    by_cases e : k < 4
    · exact .inr (u 4 e (by omega))
    · exact .inl (by omega)
  have n3 : 3 ≤ k ∨ ¬ (z.f3 ≠ []) := by
    by_cases e : k < 3
    · exact .inr (u 3 e (by omega))
    · exact .inl (by omega)
  have n2 : 2 ≤ k ∨ ¬ (z.f2 ≠ []) := by
    by_cases e : k < 2
    · exact .inr (u 2 e (by omega))
    · exact .inl (by omega)
  have n1 : 1 ≤ k ∨ ¬ (z.f1 ≠ []) := by
    by_cases e : k < 1
    · exact .inr (u 1 e (by omega))
    · exact .inl (by omega)
  rcases le4 hk with rfl | rfl | rfl | rfl | rfl
  · have hne : z.f0 ≠ [] := hne
    rw [if_neg (n4.resolve_left (by omega)), if_neg (n3.resolve_left (by omega)), if_neg (n2.resolve_left (by omega)), if_neg (n1.resolve_left (by omega)), if_pos hne]; rfl
  · have hne : z.f1 ≠ [] := hne
    rw [if_neg (n4.resolve_left (by omega)), if_neg (n3.resolve_left (by omega)), if_neg (n2.resolve_left (by omega)), if_pos hne]; rfl
  · have hne : z.f2 ≠ [] := hne
    rw [if_neg (n4.resolve_left (by omega)), if_neg (n3.resolve_left (by omega)), if_pos hne]; rfl
  · have hne : z.f3 ≠ [] := hne
    rw [if_neg (n4.resolve_left (by omega)), if_pos hne]; rfl
  · have hne : z.f4 ≠ [] := hne
    rw [if_pos hne]; rfl
theorem larR_none {z : Zn} (h : checkZ z = 0) (hup : ∀ j, j ≤ 4 → z.fr j = []) : larR z = -1 := by
  have u : ∀ j, j ≤ 4 → ¬ (z.fr j ≠ []) := fun j h2 h3 => h3 (hup j h2)
  unfold larR
  have u4 : ¬ (z.f4 ≠ []) := u 4 (by omega)
  have u3 : ¬ (z.f3 ≠ []) := u 3 (by omega)
  have u2 : ¬ (z.f2 ≠ []) := u 2 (by omega)
  have u1 : ¬ (z.f1 ≠ []) := u 1 (by omega)
  have u0 : ¬ (z.f0 ≠ []) := u 0 (by omega)
  rw [if_neg (by simp [h]), if_neg u4, if_neg u3, if_neg u2, if_neg u1, if_neg u0]
theorem unuR_bad {z : Zn} {o : Int} (h : checkZ z ≠ 0) : unuR z o = 0 := by unfold unuR; exact if_pos (.inl h)
theorem unuR_order {z : Zn} {o : Int} (h : ¬ (0 ≤ o ∧ o ≤ 4)) : unuR z o = 0 := by unfold unuR; exact if_pos (.inr h)
theorem unuR_ok {z : Zn} {o : Nat} (h : checkZ z = 0) (ho : o ≤ 4) : unuR z o = ((coverL z o).length : Int) := by
  unfold unuR
  rw [if_neg (by simp [h]; omega), Int.toNat_natCast]
theorem coverL_mono_len {z : Zn} {k j : Nat} (h : k ≤ j) : (coverL z k).length ≤ (coverL z j).length := (coverL_prefix h).length_le

theorem s37 (X : AX) (hX : XOK Try.prog X) (hw : X.W wT) (h16 : ∀ z M n, small z → X.call 16 [.agg z.cells] M n = some (I (checkZ z), [])) :
    PSound Try.prog 37 (specF (ι := {z : Zn // small z}) (fun z => [.agg z.1.cells]) fun z => retOf [I (larR z.1)]) := by
  refine psound_spec hX mixed Try.func37 rfl fun ⟨z, hz⟩ w0 G => ⟨by show 1 ≤ 18; decide, rfl, ?_⟩
  show AW ⟨Try.prog, X, 18, w0, .pure G⟩ _ _ _
  have hc : Cx.OK ⟨Try.prog, X, 18, w0, .pure G⟩ := ⟨hX, mixed⟩
  simp only at hz ⊢
  have h16z := fun M n => h16 z M n hz
  rcases Decidable.em (checkZ z = 0) with hc0 | hc0
  · repeat' (first | (apply aw_seq_k; intro K hK) | (refine aw_run hc (by first | exact aw_nod | (intro _; rw [ordB_w hw]; kernel_rfl) | (intro _; kernel_rfl)) ?_; simp [List.zipIdx, h16z, hc0, -getM, getM_hit, getM_miss, getM_none]; (repeat (simp (disch := first | omega | assumption | fail) only [if_pos, if_neg, wrap64]; try simp [List.zipIdx, h16z, hc0, -getM, getM_hit, getM_miss, getM_none])); try (repeat' (refine guardQ_split (fun h => ?_) (fun h => ?_) <;> simp at h <;> (simp [List.zipIdx, h16z, hc0, -getM, getM_hit, getM_miss, getM_none]; (repeat (simp (disch := first | omega | assumption | fail) only [if_pos, if_neg, wrap64]; try simp [List.zipIdx, h16z, hc0, -getM, getM_hit, getM_miss, getM_none])))))) | (refine aw_cond (b := _) (by exact rfl) (fun h => ?_) (fun h => ?_) <;> (try simp at h)) | (refine aw_block ?_) | (refine aw_skip ?_; simp only [thenQ, blockQ, if_true]) | (refine aw_exit ?_; simp [thenQ, blockQ]) | (refine aw_ret ?_; simp only [thenQ, blockQ]) | (refine aw_round ?_) | (refine hK _ ?_; clear hK) | (clear hK; refine hK _ ?_; clear hK) | (clear hK; clear hK; refine hK _ ?_; clear hK) | (clear hK; clear hK; clear hK; refine hK _ ?_; clear hK))
    refine aw_loopK (s0 := ?lps1) (m0 := ?lpm1) (ι := {k : Nat // k ≤ 5 ∧ ∀ j, k ≤ j → j ≤ 4 → z.fr j = []}) [1] (fun k => [(3, I ((k.1 : Int) - 1))]) (fun _ => []) (fun k => k.1) ⟨5, by omega, by intro j h1 h2; omega⟩ ?lhs1 ?lhm1 ?_ ?_
    case lhs1 => first | (simp [keepS]; done) | (simp [keepS]; rfl)
    case lhm1 => first | rfl | (simp; done) | (simp; rfl)
    · exact le_of2 (by simp) (by simp [AVle, AV.under, AV.underL] <;> omega) (by simp [AOle, AO.under, AV.underL, AV.under] <;> omega)
    · rintro ⟨k, hk, hup⟩
      simp only
      rcases Decidable.em (k = 0) with hk0 | hk0
      · subst hk0
        have hal := larR_none hc0 fun j hj => hup j (by omega) hj
        repeat' (first | (apply aw_seq_k; intro K hK) | (refine aw_run hc (by first | exact aw_nod | (intro _; rw [ordB_w hw]; kernel_rfl) | (intro _; kernel_rfl)) ?_; simp [List.zipIdx, -getM, getM_hit, getM_miss, getM_none]; (repeat (simp (disch := first | omega | assumption | fail) only [if_pos, if_neg, wrap64]; try simp [List.zipIdx, -getM, getM_hit, getM_miss, getM_none])); try (repeat' (refine guardQ_split (fun h => ?_) (fun h => ?_) <;> simp at h <;> (simp [List.zipIdx, -getM, getM_hit, getM_miss, getM_none]; (repeat (simp (disch := first | omega | assumption | fail) only [if_pos, if_neg, wrap64]; try simp [List.zipIdx, -getM, getM_hit, getM_miss, getM_none])))))) | (refine aw_cond (b := _) (by exact rfl) (fun h => ?_) (fun h => ?_) <;> (try simp at h)) | (refine aw_block ?_) | (refine aw_skip ?_; simp only [thenQ, blockQ, if_true]) | (refine aw_exit ?_; simp [thenQ, blockQ]) | (refine aw_ret ?_; simp only [thenQ, blockQ]) | (refine aw_round ?_) | (refine hK _ ?_; clear hK) | (clear hK; refine hK _ ?_; clear hK) | (clear hK; clear hK; refine hK _ ?_; clear hK) | (clear hK; clear hK; clear hK; refine hK _ ?_; clear hK))
        refine ⟨by simp, ?_⟩
        simp [leaves_iff, Try.f37, hal]
        try (first | omega | (refine decide_eq_decide.2 ?_; omega) | (refine decide_eq_false ?_; omega) | (refine decide_eq_true ?_; omega))
      · obtain ⟨j, rfl⟩ : ∃ j, k = j + 1 := ⟨k - 1, by omega⟩
        have e : (((j + 1 : Nat) : Int) - 1) = (j : Int) := by omega
        rw [e]
        have hj4 : j ≤ 4 := by omega
        have hj0 : (0 : Int) ≤ (j : Int) := by omega
        rcases Decidable.em (0 < (z.fr j).length) with hlen | hlen
        · have hne : z.fr j ≠ [] := by intro e; rw [e] at hlen; simp at hlen
          have hal := larR_at hc0 hj4 hne fun i h1 h2 => hup i (by omega) h2
          have hlenI : (0 : Int) < ((z.fr j).length : Int) := by omega
          repeat' (first | (apply aw_seq_k; intro K hK) | (refine aw_run hc (by first | exact aw_nod | (intro _; rw [ordB_w hw]; kernel_rfl) | (intro _; kernel_rfl)) ?_; simp [List.zipIdx, Zn.cf hj4, hj0, hlenI, hlen, -getM, getM_hit, getM_miss, getM_none]; (repeat (simp (disch := first | omega | assumption | fail) only [if_pos, if_neg, wrap64]; try simp [List.zipIdx, Zn.cf hj4, hj0, hlenI, hlen, -getM, getM_hit, getM_miss, getM_none])); try (repeat' (refine guardQ_split (fun h => ?_) (fun h => ?_) <;> simp at h <;> (simp [List.zipIdx, Zn.cf hj4, hj0, hlenI, hlen, -getM, getM_hit, getM_miss, getM_none]; (repeat (simp (disch := first | omega | assumption | fail) only [if_pos, if_neg, wrap64]; try simp [List.zipIdx, Zn.cf hj4, hj0, hlenI, hlen, -getM, getM_hit, getM_miss, getM_none])))))) | (refine aw_cond (b := _) (by exact rfl) (fun h => ?_) (fun h => ?_) <;> (try simp at h)) | (refine aw_block ?_) | (refine aw_skip ?_; simp only [thenQ, blockQ, if_true]) | (refine aw_exit ?_; simp [thenQ, blockQ]) | (refine aw_ret ?_; simp only [thenQ, blockQ]) | (refine aw_round ?_) | (refine hK _ ?_; clear hK) | (clear hK; refine hK _ ?_; clear hK) | (clear hK; clear hK; refine hK _ ?_; clear hK) | (clear hK; clear hK; clear hK; refine hK _ ?_; clear hK))
          refine ⟨by simp, ?_⟩
          simp [leaves_iff, Try.f37, hal]
          try (first | omega | (refine decide_eq_decide.2 ?_; omega) | (refine decide_eq_false ?_; omega) | (refine decide_eq_true ?_; omega))
        · have hnil : z.fr j = [] := List.eq_nil_of_length_eq_zero (by omega)
          have hlen0 : (z.fr j).length = 0 := by omega
          repeat' (first | (apply aw_seq_k; intro K hK) | (refine aw_run hc (by first | exact aw_nod | (intro _; rw [ordB_w hw]; kernel_rfl) | (intro _; kernel_rfl)) ?_; simp [List.zipIdx, Zn.cf hj4, hj0, hlen0, -getM, getM_hit, getM_miss, getM_none]; (repeat (simp (disch := first | omega | assumption | fail) only [if_pos, if_neg, wrap64]; try simp [List.zipIdx, Zn.cf hj4, hj0, hlen0, -getM, getM_hit, getM_miss, getM_none])); try (repeat' (refine guardQ_split (fun h => ?_) (fun h => ?_) <;> simp at h <;> (simp [List.zipIdx, Zn.cf hj4, hj0, hlen0, -getM, getM_hit, getM_miss, getM_none]; (repeat (simp (disch := first | omega | assumption | fail) only [if_pos, if_neg, wrap64]; try simp [List.zipIdx, Zn.cf hj4, hj0, hlen0, -getM, getM_hit, getM_miss, getM_none])))))) | (refine aw_cond (b := _) (by exact rfl) (fun h => ?_) (fun h => ?_) <;> (try simp at h)) | (refine aw_block ?_) | (refine aw_skip ?_; simp only [thenQ, blockQ, if_true]) | (refine aw_exit ?_; simp [thenQ, blockQ]) | (refine aw_ret ?_; simp only [thenQ, blockQ]) | (refine aw_round ?_) | (refine hK _ ?_; clear hK) | (clear hK; refine hK _ ?_; clear hK) | (clear hK; clear hK; refine hK _ ?_; clear hK) | (clear hK; clear hK; clear hK; refine hK _ ?_; clear hK))
          refine ⟨j, ?_, ⟨by omega, fun i h1 h2 => ?_⟩, by omega⟩
          · exact le_of2 (by simp) (by simp [AVle, AV.under, AV.underL] <;> omega) (by simp [AOle, AO.under, AV.underL, AV.under] <;> omega)
          · by_cases e : i = j
            · rw [e]; exact hnil
            · exact hup i (by omega) h2
  · have hal := larR_bad hc0
    repeat' (first | (apply aw_seq_k; intro K hK) | (refine aw_run hc (by first | exact aw_nod | (intro _; rw [ordB_w hw]; kernel_rfl) | (intro _; kernel_rfl)) ?_; simp [List.zipIdx, h16z, hc0, -getM, getM_hit, getM_miss, getM_none]; (repeat (simp (disch := first | omega | assumption | fail) only [if_pos, if_neg, wrap64]; try simp [List.zipIdx, h16z, hc0, -getM, getM_hit, getM_miss, getM_none])); try (repeat' (refine guardQ_split (fun h => ?_) (fun h => ?_) <;> simp at h <;> (simp [List.zipIdx, h16z, hc0, -getM, getM_hit, getM_miss, getM_none]; (repeat (simp (disch := first | omega | assumption | fail) only [if_pos, if_neg, wrap64]; try simp [List.zipIdx, h16z, hc0, -getM, getM_hit, getM_miss, getM_none])))))) | (refine aw_cond (b := _) (by exact rfl) (fun h => ?_) (fun h => ?_) <;> (try simp at h)) | (refine aw_block ?_) | (refine aw_skip ?_; simp only [thenQ, blockQ, if_true]) | (refine aw_exit ?_; simp [thenQ, blockQ]) | (refine aw_ret ?_; simp only [thenQ, blockQ]) | (refine aw_round ?_) | (refine hK _ ?_; clear hK) | (clear hK; refine hK _ ?_; clear hK) | (clear hK; clear hK; refine hK _ ?_; clear hK) | (clear hK; clear hK; clear hK; refine hK _ ?_; clear hK))
    refine ⟨by simp, ?_⟩
    simp [leaves_iff, Try.f37, hal]
    try (first | omega | (refine decide_eq_decide.2 ?_; omega) | (refine decide_eq_false ?_; omega) | (refine decide_eq_true ?_; omega))

def InvL (z : Zn) (k : Nat) (v : Int) : Prop := (v = -1 ∧ ∀ j, j < k → z.fr j = []) ∨ ∃ j : Nat, v = (j : Int) ∧ j < k ∧ z.fr j ≠ [] ∧ ∀ i, j < i → i < k → z.fr i = []
theorem s38 (X : AX) (hX : XOK Try.prog X) (hw : X.W wT) (h17 : ∀ z M n, small z → X.call 17 [.agg z.cells] M n = some (I (checkZ z), [])) :
    PSound Try.prog 38 (specF (ι := {z : Zn // small z}) (fun z => [.agg z.1.cells]) fun z => retOf [I (larR z.1)]) := by
  refine psound_spec hX mixed Try.func38 rfl fun ⟨z, hz⟩ w0 G => ⟨by show 1 ≤ 21; decide, rfl, ?_⟩
  show AW ⟨Try.prog, X, 21, w0, .pure G⟩ _ _ _
  have hc : Cx.OK ⟨Try.prog, X, 21, w0, .pure G⟩ := ⟨hX, mixed⟩
  simp only at hz ⊢
  have h17z := fun M n => h17 z M n hz
  rcases Decidable.em (checkZ z = 0) with hc0 | hc0
  · repeat' (first | (apply aw_seq_k; intro K hK) | (refine aw_run hc (by first | exact aw_nod | (intro _; rw [ordB_w hw]; kernel_rfl) | (intro _; kernel_rfl)) ?_; simp [List.zipIdx, h17z, hc0, -getM, getM_hit, getM_miss, getM_none]; (repeat (simp (disch := first | omega | assumption | fail) only [if_pos, if_neg, wrap64]; try simp [List.zipIdx, h17z, hc0, -getM, getM_hit, getM_miss, getM_none])); try (repeat' (refine guardQ_split (fun h => ?_) (fun h => ?_) <;> simp at h <;> (simp [List.zipIdx, h17z, hc0, -getM, getM_hit, getM_miss, getM_none]; (repeat (simp (disch := first | omega | assumption | fail) only [if_pos, if_neg, wrap64]; try simp [List.zipIdx, h17z, hc0, -getM, getM_hit, getM_miss, getM_none])))))) | (refine aw_cond (b := _) (by exact rfl) (fun h => ?_) (fun h => ?_) <;> (try simp at h)) | (refine aw_block ?_) | (refine aw_skip ?_; simp only [thenQ, blockQ, if_true]) | (refine aw_exit ?_; simp [thenQ, blockQ]) | (refine aw_ret ?_; simp only [thenQ, blockQ]) | (refine aw_round ?_) | (refine hK _ ?_; clear hK) | (clear hK; refine hK _ ?_; clear hK) | (clear hK; clear hK; refine hK _ ?_; clear hK) | (clear hK; clear hK; clear hK; refine hK _ ?_; clear hK))
    refine aw_loopK (s0 := ?lps2) (m0 := ?lpm2) (ι := {p : Nat × Int // p.1 ≤ 5 ∧ InvL z p.1 p.2}) [1] (fun p => [(4, I p.1.1), (3, I p.1.2)]) (fun _ => []) (fun p => 5 - p.1.1) ⟨(0, -1), by simp only; omega, .inl ⟨rfl, by intro j hj; simp only at hj; omega⟩⟩ ?lhs2 ?lhm2 ?_ ?_
    case lhs2 => first | (simp [keepS]; done) | (simp [keepS]; rfl)
    case lhm2 => first | rfl | (simp; done) | (simp; rfl)
    · exact le_of2 (by simp) (by simp [AVle, AV.under, AV.underL] <;> omega) (by simp [AOle, AO.under, AV.underL, AV.under] <;> omega)
    · rintro ⟨⟨k, v⟩, hk, hv⟩
      simp only at hk hv ⊢
      rcases Decidable.em (k ≤ 4) with hk4 | hk4
      · have hki : (k : Int) ≤ 4 := by omega
        rcases Decidable.em (0 < (z.fr k).length) with hlen | hlen
        · have hne : z.fr k ≠ [] := by intro e; rw [e] at hlen; simp at hlen
          have hlenI : (0 : Int) < ((z.fr k).length : Int) := by omega
          repeat' (first | (apply aw_seq_k; intro K hK) | (refine aw_run hc (by first | exact aw_nod | (intro _; rw [ordB_w hw]; kernel_rfl) | (intro _; kernel_rfl)) ?_; simp [List.zipIdx, Zn.cf hk4, hki, hlenI, hlen, -getM, getM_hit, getM_miss, getM_none]; (repeat (simp (disch := first | omega | assumption | fail) only [if_pos, if_neg, wrap64]; try simp [List.zipIdx, Zn.cf hk4, hki, hlenI, hlen, -getM, getM_hit, getM_miss, getM_none])); try (repeat' (refine guardQ_split (fun h => ?_) (fun h => ?_) <;> simp at h <;> (simp [List.zipIdx, Zn.cf hk4, hki, hlenI, hlen, -getM, getM_hit, getM_miss, getM_none]; (repeat (simp (disch := first | omega | assumption | fail) only [if_pos, if_neg, wrap64]; try simp [List.zipIdx, Zn.cf hk4, hki, hlenI, hlen, -getM, getM_hit, getM_miss, getM_none])))))) | (refine aw_cond (b := _) (by exact rfl) (fun h => ?_) (fun h => ?_) <;> (try simp at h)) | (refine aw_block ?_) | (refine aw_skip ?_; simp only [thenQ, blockQ, if_true]) | (refine aw_exit ?_; simp [thenQ, blockQ]) | (refine aw_ret ?_; simp only [thenQ, blockQ]) | (refine aw_round ?_) | (refine hK _ ?_; clear hK) | (clear hK; refine hK _ ?_; clear hK) | (clear hK; clear hK; refine hK _ ?_; clear hK) | (clear hK; clear hK; clear hK; refine hK _ ?_; clear hK))
          refine ⟨k + 1, (k : Int), ?_, ⟨by omega, .inr ⟨k, rfl, by omega, hne, by intro i h1 h2; omega⟩⟩, by omega⟩
          exact le_of2 (by simp) (by simp [AVle, AV.under, AV.underL] <;> omega) (by simp [AOle, AO.under, AV.underL, AV.under] <;> omega)
        · have hnil : z.fr k = [] := List.eq_nil_of_length_eq_zero (by omega)
          have hlen0 : (z.fr k).length = 0 := by omega
          have hnv : InvL z (k + 1) v := by
            rcases hv with ⟨h1, h2⟩ | ⟨j, h1, h2, h3, h4⟩
            · exact .inl ⟨h1, fun j hj => by
                by_cases e : j = k
                · rw [e]; exact hnil
                · exact h2 j (by omega)⟩
            · exact .inr ⟨j, h1, by omega, h3, fun i g1 g2 => by
                by_cases e : i = k
                · rw [e]; exact hnil
                · exact h4 i g1 (by omega)⟩
          repeat' (first | (apply aw_seq_k; intro K hK) | (refine aw_run hc (by first | exact aw_nod | (intro _; rw [ordB_w hw]; kernel_rfl) | (intro _; kernel_rfl)) ?_; simp [List.zipIdx, Zn.cf hk4, hki, hlen0, -getM, getM_hit, getM_miss, getM_none]; (repeat (simp (disch := first | omega | assumption | fail) only [if_pos, if_neg, wrap64]; try simp [List.zipIdx, Zn.cf hk4, hki, hlen0, -getM, getM_hit, getM_miss, getM_none])); try (repeat' (refine guardQ_split (fun h => ?_) (fun h => ?_) <;> simp at h <;> (simp [List.zipIdx, Zn.cf hk4, hki, hlen0, -getM, getM_hit, getM_miss, getM_none]; (repeat (simp (disch := first | omega | assumption | fail) only [if_pos, if_neg, wrap64]; try simp [List.zipIdx, Zn.cf hk4, hki, hlen0, -getM, getM_hit, getM_miss, getM_none])))))) | (refine aw_cond (b := _) (by exact rfl) (fun h => ?_) (fun h => ?_) <;> (try simp at h)) | (refine aw_block ?_) | (refine aw_skip ?_; simp only [thenQ, blockQ, if_true]) | (refine aw_exit ?_; simp [thenQ, blockQ]) | (refine aw_ret ?_; simp only [thenQ, blockQ]) | (refine aw_round ?_) | (refine hK _ ?_; clear hK) | (clear hK; refine hK _ ?_; clear hK) | (clear hK; clear hK; refine hK _ ?_; clear hK) | (clear hK; clear hK; clear hK; refine hK _ ?_; clear hK))
          refine ⟨k + 1, v, ?_, ⟨by omega, hnv⟩, by omega⟩
          exact le_of2 (by simp) (by simp [AVle, AV.under, AV.underL] <;> omega) (by simp [AOle, AO.under, AV.underL, AV.under] <;> omega)
      · obtain rfl : k = 5 := by omega
        have hal : larR z = v := by
          rcases hv with ⟨h1, h2⟩ | ⟨j, h1, h2, h3, h4⟩
          · rw [h1]; exact larR_none hc0 fun j hj => h2 j (by omega)
          · rw [h1]; exact larR_at hc0 (by omega) h3 fun i g1 g2 => h4 i g1 (by omega)
        repeat' (first | (apply aw_seq_k; intro K hK) | (refine aw_run hc (by first | exact aw_nod | (intro _; rw [ordB_w hw]; kernel_rfl) | (intro _; kernel_rfl)) ?_; simp [List.zipIdx, -getM, getM_hit, getM_miss, getM_none]; (repeat (simp (disch := first | omega | assumption | fail) only [if_pos, if_neg, wrap64]; try simp [List.zipIdx, -getM, getM_hit, getM_miss, getM_none])); try (repeat' (refine guardQ_split (fun h => ?_) (fun h => ?_) <;> simp at h <;> (simp [List.zipIdx, -getM, getM_hit, getM_miss, getM_none]; (repeat (simp (disch := first | omega | assumption | fail) only [if_pos, if_neg, wrap64]; try simp [List.zipIdx, -getM, getM_hit, getM_miss, getM_none])))))) | (refine aw_cond (b := _) (by exact rfl) (fun h => ?_) (fun h => ?_) <;> (try simp at h)) | (refine aw_block ?_) | (refine aw_skip ?_; simp only [thenQ, blockQ, if_true]) | (refine aw_exit ?_; simp [thenQ, blockQ]) | (refine aw_ret ?_; simp only [thenQ, blockQ]) | (refine aw_round ?_) | (refine hK _ ?_; clear hK) | (clear hK; refine hK _ ?_; clear hK) | (clear hK; clear hK; refine hK _ ?_; clear hK) | (clear hK; clear hK; clear hK; refine hK _ ?_; clear hK))
        refine ⟨by simp, ?_⟩
        simp [leaves_iff, Try.f38, hal]
        try (first | omega | (refine decide_eq_decide.2 ?_; omega) | (refine decide_eq_false ?_; omega) | (refine decide_eq_true ?_; omega))
  · have hal := larR_bad hc0
    repeat' (first | (apply aw_seq_k; intro K hK) | (refine aw_run hc (by first | exact aw_nod | (intro _; rw [ordB_w hw]; kernel_rfl) | (intro _; kernel_rfl)) ?_; simp [List.zipIdx, h17z, hc0, -getM, getM_hit, getM_miss, getM_none]; (repeat (simp (disch := first | omega | assumption | fail) only [if_pos, if_neg, wrap64]; try simp [List.zipIdx, h17z, hc0, -getM, getM_hit, getM_miss, getM_none])); try (repeat' (refine guardQ_split (fun h => ?_) (fun h => ?_) <;> simp at h <;> (simp [List.zipIdx, h17z, hc0, -getM, getM_hit, getM_miss, getM_none]; (repeat (simp (disch := first | omega | assumption | fail) only [if_pos, if_neg, wrap64]; try simp [List.zipIdx, h17z, hc0, -getM, getM_hit, getM_miss, getM_none])))))) | (refine aw_cond (b := _) (by exact rfl) (fun h => ?_) (fun h => ?_) <;> (try simp at h)) | (refine aw_block ?_) | (refine aw_skip ?_; simp only [thenQ, blockQ, if_true]) | (refine aw_exit ?_; simp [thenQ, blockQ]) | (refine aw_ret ?_; simp only [thenQ, blockQ]) | (refine aw_round ?_) | (refine hK _ ?_; clear hK) | (clear hK; refine hK _ ?_; clear hK) | (clear hK; clear hK; refine hK _ ?_; clear hK) | (clear hK; clear hK; clear hK; refine hK _ ?_; clear hK))
    refine ⟨by simp, ?_⟩
    simp [leaves_iff, Try.f38, hal]
    try (first | omega | (refine decide_eq_decide.2 ?_; omega) | (refine decide_eq_false ?_; omega) | (refine decide_eq_true ?_; omega))
end Go.AM

/- Unusable, last, Count. -/
namespace Go.AM
open Go Go.Proofs

theorem pow_facts {k : Nat} (hk : k ≤ 4) : (2 : Int) ^ k ≤ 16 ∧ 1 ≤ (2 : Int) ^ k := by
  rcases le4 hk with rfl | rfl | rfl | rfl | rfl <;> simp

theorem s40 (X : AX) (hX : XOK Try.prog X) (hw : X.W wT) (h17 : ∀ z M n, small z → X.call 17 [.agg z.cells] M n = some (I (checkZ z), [])) :
    PSound Try.prog 40 (specF (ι := {x : Zn × Int // small x.1}) (fun x => [.agg x.1.1.cells, I x.1.2]) fun x => retOf [I (unuR x.1.1 x.1.2)]) := by
  refine psound_spec hX mixed Try.func40 rfl fun ⟨⟨z, o⟩, hz⟩ w0 G => ⟨by show 2 ≤ 35; decide, rfl, ?_⟩
  show AW ⟨Try.prog, X, 35, w0, .pure G⟩ _ _ _
  have hc : Cx.OK ⟨Try.prog, X, 35, w0, .pure G⟩ := ⟨hX, mixed⟩
  simp only at hz ⊢
  have h17z := fun M n => h17 z M n hz
  rcases Decidable.em (checkZ z = 0) with hc0 | hc0
  · rcases Decidable.em (0 ≤ o ∧ o ≤ 4) with ho | ho
    · obtain ⟨o, rfl⟩ := Int.eq_ofNat_of_zero_le ho.1
      have ho4 : o ≤ 4 := by omega
      have ho1 : ¬ (4 : Int) < (o : Int) := by omega
      have ho2 : ¬ (o : Int) < 0 := by omega
      have hal := unuR_ok hc0 ho4
      have hcl := cover_le hc0
      repeat' (first | (apply aw_seq_k; intro K hK) | (refine aw_run hc (by first | exact aw_nod | (intro _; rw [ordB_w hw]; kernel_rfl) | (intro _; kernel_rfl)) ?_; simp [List.zipIdx, h17z, hc0, ho1, ho2, -getM, getM_hit, getM_miss, getM_none]; (repeat (simp (disch := first | omega | assumption | fail) only [if_pos, if_neg, wrap64]; try simp [List.zipIdx, h17z, hc0, ho1, ho2, -getM, getM_hit, getM_miss, getM_none])); try (repeat' (refine guardQ_split (fun h => ?_) (fun h => ?_) <;> simp at h <;> (simp [List.zipIdx, h17z, hc0, ho1, ho2, -getM, getM_hit, getM_miss, getM_none]; (repeat (simp (disch := first | omega | assumption | fail) only [if_pos, if_neg, wrap64]; try simp [List.zipIdx, h17z, hc0, ho1, ho2, -getM, getM_hit, getM_miss, getM_none])))))) | (refine aw_cond (b := _) (by exact rfl) (fun h => ?_) (fun h => ?_) <;> (try simp at h)) | (refine aw_block ?_) | (refine aw_skip ?_; simp only [thenQ, blockQ, if_true]) | (refine aw_exit ?_; simp [thenQ, blockQ]) | (refine aw_ret ?_; simp only [thenQ, blockQ]) | (refine aw_round ?_) | (refine hK _ ?_; clear hK) | (clear hK; refine hK _ ?_; clear hK) | (clear hK; clear hK; refine hK _ ?_; clear hK) | (clear hK; clear hK; clear hK; refine hK _ ?_; clear hK))
      refine aw_loopK (s0 := ?lps1) (m0 := ?lpm1) (ι := {k : Nat // k ≤ o}) [1, 2] (fun k => [(6, I k.1), (5, I ((coverL z k.1).length : Int))]) (fun _ => []) (fun k => o - k.1) ⟨0, by omega⟩ ?lhs1 ?lhm1 ?_ ?_
      case lhs1 => first | (simp [keepS]; done) | (simp [keepS]; rfl)
      case lhm1 => first | rfl | (simp; done) | (simp; rfl)
      · simp only [coverL_zero, List.length_nil]
        exact le_of2 (by simp) (by simp [AVle, AV.under, AV.underL] <;> omega) (by simp [AOle, AO.under, AV.underL, AV.under] <;> omega)
      · rintro ⟨k, hk⟩
        simp only
        rcases Decidable.em (k < o) with hko | hko
        · have hkI : (k : Int) < (o : Int) := by omega
          have hk4 : k ≤ 4 := by omega
          have hsh : min k 64 = k := Nat.min_eq_left (by omega)
          have hsum := coverL_succ_len z k
          have hle := coverL_mono_len (z := z) (show k + 1 ≤ 5 by omega)
          have hlk := hz k hk4
          obtain ⟨w, hw1, hw2⟩ : ∃ w : Nat, (2 : Int) ^ k = w ∧ 2 ^ k = w := ⟨2 ^ k, by simp, rfl⟩
          rw [hw2] at hsum
          obtain ⟨v, hv⟩ : ∃ v, v = (z.fr k).length * w := ⟨_, rfl⟩
          have hvI : ((z.fr k).length : Int) * (w : Int) = (v : Int) := by rw [hv]; simp
          rw [← hv] at hsum
          have hww := wrap64 (n := (v : Int)) (by omega)
          repeat' (first | (apply aw_seq_k; intro K hK) | (refine aw_run hc (by first | exact aw_nod | (intro _; rw [ordB_w hw]; kernel_rfl) | (intro _; kernel_rfl)) ?_; simp [List.zipIdx, hkI, Zn.cf hk4, hsh, hw1, hvI, hww, bits64, -getM, getM_hit, getM_miss, getM_none]; (repeat (simp (disch := first | omega | assumption | fail) only [if_pos, if_neg, wrap64, wrapU64]; try simp [List.zipIdx, hkI, Zn.cf hk4, hsh, hw1, hvI, hww, bits64, -getM, getM_hit, getM_miss, getM_none])); try (repeat' (refine guardQ_split (fun h => ?_) (fun h => ?_) <;> simp at h <;> (simp [List.zipIdx, hkI, Zn.cf hk4, hsh, hw1, hvI, hww, bits64, -getM, getM_hit, getM_miss, getM_none]; (repeat (simp (disch := first | omega | assumption | fail) only [if_pos, if_neg, wrap64, wrapU64]; try simp [List.zipIdx, hkI, Zn.cf hk4, hsh, hw1, hvI, hww, bits64, -getM, getM_hit, getM_miss, getM_none])))))) | (refine aw_cond (b := _) (by exact rfl) (fun h => ?_) (fun h => ?_) <;> (try simp at h)) | (refine aw_block ?_) | (refine aw_skip ?_; simp only [thenQ, blockQ, if_true]) | (refine aw_exit ?_; simp [thenQ, blockQ]) | (refine aw_ret ?_; simp only [thenQ, blockQ]) | (refine aw_round ?_) | (refine hK _ ?_; clear hK) | (clear hK; refine hK _ ?_; clear hK) | (clear hK; clear hK; refine hK _ ?_; clear hK) | (clear hK; clear hK; clear hK; refine hK _ ?_; clear hK))
          refine ⟨k + 1, ?_, by omega, by omega⟩
          simp only [hsum]
          exact le_of2 (by simp) (by simp [AVle, AV.under, AV.underL] <;> omega) (by simp [AOle, AO.under, AV.underL, AV.under] <;> omega)
        · obtain rfl : k = o := by omega
          repeat' (first | (apply aw_seq_k; intro K hK) | (refine aw_run hc (by first | exact aw_nod | (intro _; rw [ordB_w hw]; kernel_rfl) | (intro _; kernel_rfl)) ?_; simp [List.zipIdx, -getM, getM_hit, getM_miss, getM_none]; (repeat (simp (disch := first | omega | assumption | fail) only [if_pos, if_neg, wrap64]; try simp [List.zipIdx, -getM, getM_hit, getM_miss, getM_none])); try (repeat' (refine guardQ_split (fun h => ?_) (fun h => ?_) <;> simp at h <;> (simp [List.zipIdx, -getM, getM_hit, getM_miss, getM_none]; (repeat (simp (disch := first | omega | assumption | fail) only [if_pos, if_neg, wrap64]; try simp [List.zipIdx, -getM, getM_hit, getM_miss, getM_none])))))) | (refine aw_cond (b := _) (by exact rfl) (fun h => ?_) (fun h => ?_) <;> (try simp at h)) | (refine aw_block ?_) | (refine aw_skip ?_; simp only [thenQ, blockQ, if_true]) | (refine aw_exit ?_; simp [thenQ, blockQ]) | (refine aw_ret ?_; simp only [thenQ, blockQ]) | (refine aw_round ?_) | (refine hK _ ?_; clear hK) | (clear hK; refine hK _ ?_; clear hK) | (clear hK; clear hK; refine hK _ ?_; clear hK) | (clear hK; clear hK; clear hK; refine hK _ ?_; clear hK))
          refine ⟨by simp, ?_⟩
          simp [leaves_iff, Try.f40, hal]
          try (first | omega | (refine decide_eq_decide.2 ?_; omega) | (refine decide_eq_false ?_; omega) | (refine decide_eq_true ?_; omega))
    · have hal := unuR_order (z := z) ho
      rcases Decidable.em (o < 0) with ho1 | ho1
      · repeat' (first | (apply aw_seq_k; intro K hK) | (refine aw_run hc (by first | exact aw_nod | (intro _; rw [ordB_w hw]; kernel_rfl) | (intro _; kernel_rfl)) ?_; simp [List.zipIdx, h17z, hc0, ho1, -getM, getM_hit, getM_miss, getM_none]; (repeat (simp (disch := first | omega | assumption | fail) only [if_pos, if_neg, wrap64]; try simp [List.zipIdx, h17z, hc0, ho1, -getM, getM_hit, getM_miss, getM_none])); try (repeat' (refine guardQ_split (fun h => ?_) (fun h => ?_) <;> simp at h <;> (simp [List.zipIdx, h17z, hc0, ho1, -getM, getM_hit, getM_miss, getM_none]; (repeat (simp (disch := first | omega | assumption | fail) only [if_pos, if_neg, wrap64]; try simp [List.zipIdx, h17z, hc0, ho1, -getM, getM_hit, getM_miss, getM_none])))))) | (refine aw_cond (b := _) (by exact rfl) (fun h => ?_) (fun h => ?_) <;> (try simp at h)) | (refine aw_block ?_) | (refine aw_skip ?_; simp only [thenQ, blockQ, if_true]) | (refine aw_exit ?_; simp [thenQ, blockQ]) | (refine aw_ret ?_; simp only [thenQ, blockQ]) | (refine aw_round ?_) | (refine hK _ ?_; clear hK) | (clear hK; refine hK _ ?_; clear hK) | (clear hK; clear hK; refine hK _ ?_; clear hK) | (clear hK; clear hK; clear hK; refine hK _ ?_; clear hK))
        refine ⟨by simp, ?_⟩
        simp [leaves_iff, Try.f40, hal]
        try (first | omega | (refine decide_eq_decide.2 ?_; omega) | (refine decide_eq_false ?_; omega) | (refine decide_eq_true ?_; omega))
      · have ho2 : 4 < o := by omega
        repeat' (first | (apply aw_seq_k; intro K hK) | (refine aw_run hc (by first | exact aw_nod | (intro _; rw [ordB_w hw]; kernel_rfl) | (intro _; kernel_rfl)) ?_; simp [List.zipIdx, h17z, hc0, ho1, ho2, -getM, getM_hit, getM_miss, getM_none]; (repeat (simp (disch := first | omega | assumption | fail) only [if_pos, if_neg, wrap64]; try simp [List.zipIdx, h17z, hc0, ho1, ho2, -getM, getM_hit, getM_miss, getM_none])); try (repeat' (refine guardQ_split (fun h => ?_) (fun h => ?_) <;> simp at h <;> (simp [List.zipIdx, h17z, hc0, ho1, ho2, -getM, getM_hit, getM_miss, getM_none]; (repeat (simp (disch := first | omega | assumption | fail) only [if_pos, if_neg, wrap64]; try simp [List.zipIdx, h17z, hc0, ho1, ho2, -getM, getM_hit, getM_miss, getM_none])))))) | (refine aw_cond (b := _) (by exact rfl) (fun h => ?_) (fun h => ?_) <;> (try simp at h)) | (refine aw_block ?_) | (refine aw_skip ?_; simp only [thenQ, blockQ, if_true]) | (refine aw_exit ?_; simp [thenQ, blockQ]) | (refine aw_ret ?_; simp only [thenQ, blockQ]) | (refine aw_round ?_) | (refine hK _ ?_; clear hK) | (clear hK; refine hK _ ?_; clear hK) | (clear hK; clear hK; refine hK _ ?_; clear hK) | (clear hK; clear hK; clear hK; refine hK _ ?_; clear hK))
        refine ⟨by simp, ?_⟩
        simp [leaves_iff, Try.f40, hal]
        try (first | omega | (refine decide_eq_decide.2 ?_; omega) | (refine decide_eq_false ?_; omega) | (refine decide_eq_true ?_; omega))
  · have hal := unuR_bad (o := o) hc0
    repeat' (first | (apply aw_seq_k; intro K hK) | (refine aw_run hc (by first | exact aw_nod | (intro _; rw [ordB_w hw]; kernel_rfl) | (intro _; kernel_rfl)) ?_; simp [List.zipIdx, h17z, hc0, -getM, getM_hit, getM_miss, getM_none]; (repeat (simp (disch := first | omega | assumption | fail) only [if_pos, if_neg, wrap64]; try simp [List.zipIdx, h17z, hc0, -getM, getM_hit, getM_miss, getM_none])); try (repeat' (refine guardQ_split (fun h => ?_) (fun h => ?_) <;> simp at h <;> (simp [List.zipIdx, h17z, hc0, -getM, getM_hit, getM_miss, getM_none]; (repeat (simp (disch := first | omega | assumption | fail) only [if_pos, if_neg, wrap64]; try simp [List.zipIdx, h17z, hc0, -getM, getM_hit, getM_miss, getM_none])))))) | (refine aw_cond (b := _) (by exact rfl) (fun h => ?_) (fun h => ?_) <;> (try simp at h)) | (refine aw_block ?_) | (refine aw_skip ?_; simp only [thenQ, blockQ, if_true]) | (refine aw_exit ?_; simp [thenQ, blockQ]) | (refine aw_ret ?_; simp only [thenQ, blockQ]) | (refine aw_round ?_) | (refine hK _ ?_; clear hK) | (clear hK; refine hK _ ?_; clear hK) | (clear hK; clear hK; refine hK _ ?_; clear hK) | (clear hK; clear hK; clear hK; refine hK _ ?_; clear hK))
    refine ⟨by simp, ?_⟩
    simp [leaves_iff, Try.f40, hal]
    try (first | omega | (refine decide_eq_decide.2 ?_; omega) | (refine decide_eq_false ?_; omega) | (refine decide_eq_true ?_; omega))

theorem s39 (X : AX) (hX : XOK Try.prog X) (hw : X.W wT) (h16 : ∀ z M n, small z → X.call 16 [.agg z.cells] M n = some (I (checkZ z), [])) :
    PSound Try.prog 39 (specF (ι := {x : Zn × Int // small x.1}) (fun x => [.agg x.1.1.cells, I x.1.2]) fun x => retOf [I (unuR x.1.1 x.1.2)]) := by
  refine psound_spec hX mixed Try.func39 rfl fun ⟨⟨z, o⟩, hz⟩ w0 G => ⟨by show 2 ≤ 36; decide, rfl, ?_⟩
  show AW ⟨Try.prog, X, 36, w0, .pure G⟩ _ _ _
  have hc : Cx.OK ⟨Try.prog, X, 36, w0, .pure G⟩ := ⟨hX, mixed⟩
  simp only at hz ⊢
  have h16z := fun M n => h16 z M n hz
  rcases Decidable.em (checkZ z = 0) with hc0 | hc0
  · rcases Decidable.em (0 ≤ o ∧ o ≤ 4) with ho | ho
    · obtain ⟨o, rfl⟩ := Int.eq_ofNat_of_zero_le ho.1
      have ho4 : o ≤ 4 := by omega
      have ho1 : ¬ (4 : Int) < (o : Int) := by omega
      have ho2 : ¬ (o : Int) < 0 := by omega
      have ho3 : o ≤ 5 := by omega
      have hal := unuR_ok hc0 ho4
      have hcl := cover_le hc0
      repeat' (first | (apply aw_seq_k; intro K hK) | (refine aw_run hc (by first | exact aw_nod | (intro _; rw [ordB_w hw]; kernel_rfl) | (intro _; kernel_rfl)) ?_; simp [List.zipIdx, h16z, hc0, ho1, ho2, ho3, -getM, getM_hit, getM_miss, getM_none]; (repeat (simp (disch := first | omega | assumption | fail) only [if_pos, if_neg, wrap64]; try simp [List.zipIdx, h16z, hc0, ho1, ho2, ho3, -getM, getM_hit, getM_miss, getM_none])); try (repeat' (refine guardQ_split (fun h => ?_) (fun h => ?_) <;> simp at h <;> (simp [List.zipIdx, h16z, hc0, ho1, ho2, ho3, -getM, getM_hit, getM_miss, getM_none]; (repeat (simp (disch := first | omega | assumption | fail) only [if_pos, if_neg, wrap64]; try simp [List.zipIdx, h16z, hc0, ho1, ho2, ho3, -getM, getM_hit, getM_miss, getM_none])))))) | (refine aw_cond (b := _) (by exact rfl) (fun h => ?_) (fun h => ?_) <;> (try simp at h)) | (refine aw_block ?_) | (refine aw_skip ?_; simp only [thenQ, blockQ, if_true]) | (refine aw_exit ?_; simp [thenQ, blockQ]) | (refine aw_ret ?_; simp only [thenQ, blockQ]) | (refine aw_round ?_) | (refine hK _ ?_; clear hK) | (clear hK; refine hK _ ?_; clear hK) | (clear hK; clear hK; refine hK _ ?_; clear hK) | (clear hK; clear hK; clear hK; refine hK _ ?_; clear hK))
      refine aw_loopK (s0 := ?lps2) (m0 := ?lpm2) (ι := {k : Nat // k ≤ o}) [21, 22] (fun k => [(23, I k.1), (5, I ((coverL z k.1).length : Int))]) (fun _ => []) (fun k => o - k.1) ⟨0, by omega⟩ ?lhs2 ?lhm2 ?_ ?_
      case lhs2 => first | (simp [keepS]; done) | (simp [keepS]; rfl)
      case lhm2 => first | rfl | (simp; done) | (simp; rfl)
      · simp only [coverL_zero, List.length_nil]
        exact le_of2 (by simp) (by simp [AVle, AV.under, AV.underL] <;> omega) (by simp [AOle, AO.under, AV.underL, AV.under] <;> omega)
      · rintro ⟨k, hk⟩
        simp only
        rcases Decidable.em (k < o) with hko | hko
        · have hkI : (k : Int) < (o : Int) := by omega
          have hk4 : k ≤ 4 := by omega
          have hsh : min k 64 = k := Nat.min_eq_left (by omega)
          have hsum := coverL_succ_len z k
          have hle := coverL_mono_len (z := z) (show k + 1 ≤ 5 by omega)
          have hlk := hz k hk4
          obtain ⟨w, hw1, hw2⟩ : ∃ w : Nat, (2 : Int) ^ k = w ∧ 2 ^ k = w := ⟨2 ^ k, by simp, rfl⟩
          rw [hw2] at hsum
          obtain ⟨v, hv⟩ : ∃ v, v = (z.fr k).length * w := ⟨_, rfl⟩
          have hvI : ((z.fr k).length : Int) * (w : Int) = (v : Int) := by rw [hv]; simp
          rw [← hv] at hsum
          have hww := wrap64 (n := (v : Int)) (by omega)
          repeat' (first | (apply aw_seq_k; intro K hK) | (refine aw_run hc (by first | exact aw_nod | (intro _; rw [ordB_w hw]; kernel_rfl) | (intro _; kernel_rfl)) ?_; simp [List.zipIdx, hkI, hko, Zn.cf hk4, hsh, hw1, hvI, hww, bits64, -getM, getM_hit, getM_miss, getM_none]; (repeat (simp (disch := first | omega | assumption | fail) only [if_pos, if_neg, wrap64, wrapU64]; try simp [List.zipIdx, hkI, hko, Zn.cf hk4, hsh, hw1, hvI, hww, bits64, -getM, getM_hit, getM_miss, getM_none])); try (repeat' (refine guardQ_split (fun h => ?_) (fun h => ?_) <;> simp at h <;> (simp [List.zipIdx, hkI, hko, Zn.cf hk4, hsh, hw1, hvI, hww, bits64, -getM, getM_hit, getM_miss, getM_none]; (repeat (simp (disch := first | omega | assumption | fail) only [if_pos, if_neg, wrap64, wrapU64]; try simp [List.zipIdx, hkI, hko, Zn.cf hk4, hsh, hw1, hvI, hww, bits64, -getM, getM_hit, getM_miss, getM_none])))))) | (refine aw_cond (b := _) (by exact rfl) (fun h => ?_) (fun h => ?_) <;> (try simp at h)) | (refine aw_block ?_) | (refine aw_skip ?_; simp only [thenQ, blockQ, if_true]) | (refine aw_exit ?_; simp [thenQ, blockQ]) | (refine aw_ret ?_; simp only [thenQ, blockQ]) | (refine aw_round ?_) | (refine hK _ ?_; clear hK) | (clear hK; refine hK _ ?_; clear hK) | (clear hK; clear hK; refine hK _ ?_; clear hK) | (clear hK; clear hK; clear hK; refine hK _ ?_; clear hK))
          refine ⟨k + 1, ?_, by omega, by omega⟩
          simp only [hsum]
          exact le_of2 (by simp) (by simp [AVle, AV.under, AV.underL] <;> omega) (by simp [AOle, AO.under, AV.underL, AV.under] <;> omega)
        · obtain rfl : k = o := by omega
          repeat' (first | (apply aw_seq_k; intro K hK) | (refine aw_run hc (by first | exact aw_nod | (intro _; rw [ordB_w hw]; kernel_rfl) | (intro _; kernel_rfl)) ?_; simp [List.zipIdx, -getM, getM_hit, getM_miss, getM_none]; (repeat (simp (disch := first | omega | assumption | fail) only [if_pos, if_neg, wrap64]; try simp [List.zipIdx, -getM, getM_hit, getM_miss, getM_none])); try (repeat' (refine guardQ_split (fun h => ?_) (fun h => ?_) <;> simp at h <;> (simp [List.zipIdx, -getM, getM_hit, getM_miss, getM_none]; (repeat (simp (disch := first | omega | assumption | fail) only [if_pos, if_neg, wrap64]; try simp [List.zipIdx, -getM, getM_hit, getM_miss, getM_none])))))) | (refine aw_cond (b := _) (by exact rfl) (fun h => ?_) (fun h => ?_) <;> (try simp at h)) | (refine aw_block ?_) | (refine aw_skip ?_; simp only [thenQ, blockQ, if_true]) | (refine aw_exit ?_; simp [thenQ, blockQ]) | (refine aw_ret ?_; simp only [thenQ, blockQ]) | (refine aw_round ?_) | (refine hK _ ?_; clear hK) | (clear hK; refine hK _ ?_; clear hK) | (clear hK; clear hK; refine hK _ ?_; clear hK) | (clear hK; clear hK; clear hK; refine hK _ ?_; clear hK))
          refine ⟨by simp, ?_⟩
          simp [leaves_iff, Try.f39, hal]
          try (first | omega | (refine decide_eq_decide.2 ?_; omega) | (refine decide_eq_false ?_; omega) | (refine decide_eq_true ?_; omega))
    · have hal := unuR_order (z := z) ho
      rcases Decidable.em (o < 0) with ho1 | ho1
      · repeat' (first | (apply aw_seq_k; intro K hK) | (refine aw_run hc (by first | exact aw_nod | (intro _; rw [ordB_w hw]; kernel_rfl) | (intro _; kernel_rfl)) ?_; simp [List.zipIdx, h16z, hc0, ho1, -getM, getM_hit, getM_miss, getM_none]; (repeat (simp (disch := first | omega | assumption | fail) only [if_pos, if_neg, wrap64]; try simp [List.zipIdx, h16z, hc0, ho1, -getM, getM_hit, getM_miss, getM_none])); try (repeat' (refine guardQ_split (fun h => ?_) (fun h => ?_) <;> simp at h <;> (simp [List.zipIdx, h16z, hc0, ho1, -getM, getM_hit, getM_miss, getM_none]; (repeat (simp (disch := first | omega | assumption | fail) only [if_pos, if_neg, wrap64]; try simp [List.zipIdx, h16z, hc0, ho1, -getM, getM_hit, getM_miss, getM_none])))))) | (refine aw_cond (b := _) (by exact rfl) (fun h => ?_) (fun h => ?_) <;> (try simp at h)) | (refine aw_block ?_) | (refine aw_skip ?_; simp only [thenQ, blockQ, if_true]) | (refine aw_exit ?_; simp [thenQ, blockQ]) | (refine aw_ret ?_; simp only [thenQ, blockQ]) | (refine aw_round ?_) | (refine hK _ ?_; clear hK) | (clear hK; refine hK _ ?_; clear hK) | (clear hK; clear hK; refine hK _ ?_; clear hK) | (clear hK; clear hK; clear hK; refine hK _ ?_; clear hK))
        refine ⟨by simp, ?_⟩
        simp [leaves_iff, Try.f39, hal]
        try (first | omega | (refine decide_eq_decide.2 ?_; omega) | (refine decide_eq_false ?_; omega) | (refine decide_eq_true ?_; omega))
      · have ho2 : 4 < o := by omega
        repeat' (first | (apply aw_seq_k; intro K hK) | (refine aw_run hc (by first | exact aw_nod | (intro _; rw [ordB_w hw]; kernel_rfl) | (intro _; kernel_rfl)) ?_; simp [List.zipIdx, h16z, hc0, ho1, ho2, -getM, getM_hit, getM_miss, getM_none]; (repeat (simp (disch := first | omega | assumption | fail) only [if_pos, if_neg, wrap64]; try simp [List.zipIdx, h16z, hc0, ho1, ho2, -getM, getM_hit, getM_miss, getM_none])); try (repeat' (refine guardQ_split (fun h => ?_) (fun h => ?_) <;> simp at h <;> (simp [List.zipIdx, h16z, hc0, ho1, ho2, -getM, getM_hit, getM_miss, getM_none]; (repeat (simp (disch := first | omega | assumption | fail) only [if_pos, if_neg, wrap64]; try simp [List.zipIdx, h16z, hc0, ho1, ho2, -getM, getM_hit, getM_miss, getM_none])))))) | (refine aw_cond (b := _) (by exact rfl) (fun h => ?_) (fun h => ?_) <;> (try simp at h)) | (refine aw_block ?_) | (refine aw_skip ?_; simp only [thenQ, blockQ, if_true]) | (refine aw_exit ?_; simp [thenQ, blockQ]) | (refine aw_ret ?_; simp only [thenQ, blockQ]) | (refine aw_round ?_) | (refine hK _ ?_; clear hK) | (clear hK; refine hK _ ?_; clear hK) | (clear hK; clear hK; refine hK _ ?_; clear hK) | (clear hK; clear hK; clear hK; refine hK _ ?_; clear hK))
        refine ⟨by simp, ?_⟩
        simp [leaves_iff, Try.f39, hal]
        try (first | omega | (refine decide_eq_decide.2 ?_; omega) | (refine decide_eq_false ?_; omega) | (refine decide_eq_true ?_; omega))
  · have hal := unuR_bad (o := o) hc0
    repeat' (first | (apply aw_seq_k; intro K hK) | (refine aw_run hc (by first | exact aw_nod | (intro _; rw [ordB_w hw]; kernel_rfl) | (intro _; kernel_rfl)) ?_; simp [List.zipIdx, h16z, hc0, -getM, getM_hit, getM_miss, getM_none]; (repeat (simp (disch := first | omega | assumption | fail) only [if_pos, if_neg, wrap64]; try simp [List.zipIdx, h16z, hc0, -getM, getM_hit, getM_miss, getM_none])); try (repeat' (refine guardQ_split (fun h => ?_) (fun h => ?_) <;> simp at h <;> (simp [List.zipIdx, h16z, hc0, -getM, getM_hit, getM_miss, getM_none]; (repeat (simp (disch := first | omega | assumption | fail) only [if_pos, if_neg, wrap64]; try simp [List.zipIdx, h16z, hc0, -getM, getM_hit, getM_miss, getM_none])))))) | (refine aw_cond (b := _) (by exact rfl) (fun h => ?_) (fun h => ?_) <;> (try simp at h)) | (refine aw_block ?_) | (refine aw_skip ?_; simp only [thenQ, blockQ, if_true]) | (refine aw_exit ?_; simp [thenQ, blockQ]) | (refine aw_ret ?_; simp only [thenQ, blockQ]) | (refine aw_round ?_) | (refine hK _ ?_; clear hK) | (clear hK; refine hK _ ?_; clear hK) | (clear hK; clear hK; refine hK _ ?_; clear hK) | (clear hK; clear hK; clear hK; refine hK _ ?_; clear hK))
    refine ⟨by simp, ?_⟩
    simp [leaves_iff, Try.f39, hal]
    try (first | omega | (refine decide_eq_decide.2 ?_; omega) | (refine decide_eq_false ?_; omega) | (refine decide_eq_true ?_; omega))

theorem lastR_bad {z : Zn} (h : checkZ z ≠ 0) : lastR z = 0 := by unfold lastR; exact if_pos h
theorem lastR_ok {z : Zn} (h : checkZ z = 0) : lastR z = ((z.f4.length * 16 : Nat) : Int) := by unfold lastR; exact if_neg (by simp [h])
theorem s55 (X : AX) (hX : XOK Try.prog X) (hw : X.W wT) (h16 : ∀ z M n, small z → X.call 16 [.agg z.cells] M n = some (I (checkZ z), [])) :
    PSound Try.prog 55 (specF (ι := {z : Zn // small z}) (fun z => [.agg z.1.cells]) fun z => retOf [I (lastR z.1)]) := by
  refine psound_spec hX mixed Try.func55 rfl fun ⟨z, hz⟩ w0 G => ⟨by show 1 ≤ 11; decide, rfl, ?_⟩
  show AW ⟨Try.prog, X, 11, w0, .pure G⟩ _ _ _
  have hc : Cx.OK ⟨Try.prog, X, 11, w0, .pure G⟩ := ⟨hX, mixed⟩
  simp only at hz ⊢
  have h16z := fun M n => h16 z M n hz
  rcases Decidable.em (checkZ z = 0) with hc0 | hc0
  · have hal := lastR_ok hc0
    have hl4 : z.f4.length ≤ 1000 := hz 4 (by omega)
    have c9 : z.cells[9]? = some (.rd 1 (irows z.f4)) := rfl
    have hww := wrap64 (n := (z.f4.length : Int) * 16) (by omega)
    repeat' (first | (apply aw_seq_k; intro K hK) | (refine aw_run hc (by first | exact aw_nod | (intro _; rw [ordB_w hw]; kernel_rfl) | (intro _; kernel_rfl)) ?_; simp [List.zipIdx, h16z, hc0, c9, hww, bits64, -getM, getM_hit, getM_miss, getM_none]; (repeat (simp (disch := first | omega | assumption | fail) only [if_pos, if_neg, wrap64, wrapU64]; try simp [List.zipIdx, h16z, hc0, c9, hww, bits64, -getM, getM_hit, getM_miss, getM_none])); try (repeat' (refine guardQ_split (fun h => ?_) (fun h => ?_) <;> simp at h <;> (simp [List.zipIdx, h16z, hc0, c9, hww, bits64, -getM, getM_hit, getM_miss, getM_none]; (repeat (simp (disch := first | omega | assumption | fail) only [if_pos, if_neg, wrap64, wrapU64]; try simp [List.zipIdx, h16z, hc0, c9, hww, bits64, -getM, getM_hit, getM_miss, getM_none])))))) | (refine aw_cond (b := _) (by exact rfl) (fun h => ?_) (fun h => ?_) <;> (try simp at h)) | (refine aw_block ?_) | (refine aw_skip ?_; simp only [thenQ, blockQ, if_true]) | (refine aw_exit ?_; simp [thenQ, blockQ]) | (refine aw_ret ?_; simp only [thenQ, blockQ]) | (refine aw_round ?_) | (refine hK _ ?_; clear hK) | (clear hK; refine hK _ ?_; clear hK) | (clear hK; clear hK; refine hK _ ?_; clear hK) | (clear hK; clear hK; clear hK; refine hK _ ?_; clear hK))
    refine ⟨by simp, ?_⟩
    simp [leaves_iff, Try.f55, hal]
    try (first | omega | (refine decide_eq_decide.2 ?_; omega) | (refine decide_eq_false ?_; omega) | (refine decide_eq_true ?_; omega))
  · have hal := lastR_bad hc0
    repeat' (first | (apply aw_seq_k; intro K hK) | (refine aw_run hc (by first | exact aw_nod | (intro _; rw [ordB_w hw]; kernel_rfl) | (intro _; kernel_rfl)) ?_; simp [List.zipIdx, h16z, hc0, -getM, getM_hit, getM_miss, getM_none]; (repeat (simp (disch := first | omega | assumption | fail) only [if_pos, if_neg, wrap64]; try simp [List.zipIdx, h16z, hc0, -getM, getM_hit, getM_miss, getM_none])); try (repeat' (refine guardQ_split (fun h => ?_) (fun h => ?_) <;> simp at h <;> (simp [List.zipIdx, h16z, hc0, -getM, getM_hit, getM_miss, getM_none]; (repeat (simp (disch := first | omega | assumption | fail) only [if_pos, if_neg, wrap64]; try simp [List.zipIdx, h16z, hc0, -getM, getM_hit, getM_miss, getM_none])))))) | (refine aw_cond (b := _) (by exact rfl) (fun h => ?_) (fun h => ?_) <;> (try simp at h)) | (refine aw_block ?_) | (refine aw_skip ?_; simp only [thenQ, blockQ, if_true]) | (refine aw_exit ?_; simp [thenQ, blockQ]) | (refine aw_ret ?_; simp only [thenQ, blockQ]) | (refine aw_round ?_) | (refine hK _ ?_; clear hK) | (clear hK; refine hK _ ?_; clear hK) | (clear hK; clear hK; refine hK _ ?_; clear hK) | (clear hK; clear hK; clear hK; refine hK _ ?_; clear hK))
    refine ⟨by simp, ?_⟩
    simp [leaves_iff, Try.f55, hal]
    try (first | omega | (refine decide_eq_decide.2 ?_; omega) | (refine decide_eq_false ?_; omega) | (refine decide_eq_true ?_; omega))

theorem s35 (X : AX) (hX : XOK Try.prog X) (hw : X.W wT) (h39 : ∀ z o M n, small z → X.call 39 [.agg z.cells, I o] M n = some (I (unuR z o), [])) (h55 : ∀ z M n, small z → X.call 55 [.agg z.cells] M n = some (I (lastR z), [])) :
    PSound Try.prog 35 (specF (ι := {z : Zn // small z}) (fun z => [.agg z.1.cells]) fun z => retOf [I ((frR z.1).length : Int)]) := by
  refine psound_spec hX mixed Try.func35 rfl fun ⟨z, hz⟩ w0 G => ⟨by show 1 ≤ 8; decide, rfl, ?_⟩
  show AW ⟨Try.prog, X, 8, w0, .pure G⟩ _ _ _
  have hc : Cx.OK ⟨Try.prog, X, 8, w0, .pure G⟩ := ⟨hX, mixed⟩
  simp only at hz ⊢
  have h39z := fun M n => h39 z 4 M n hz
  have h55z := fun M n => h55 z M n hz
  have hcs := count_sum (z := z)
  have hfl := frR_len z
  have hww := wrap64 (n := unuR z 4 + lastR z) (by omega)
  repeat' (first | (apply aw_seq_k; intro K hK) | (refine aw_run hc (by first | exact aw_nod | (intro _; rw [ordB_w hw]; kernel_rfl) | (intro _; kernel_rfl)) ?_; simp [List.zipIdx, h39z, h55z, hww, -getM, getM_hit, getM_miss, getM_none]; (repeat (simp (disch := first | omega | assumption | fail) only [if_pos, if_neg, wrap64]; try simp [List.zipIdx, h39z, h55z, hww, -getM, getM_hit, getM_miss, getM_none])); try (repeat' (refine guardQ_split (fun h => ?_) (fun h => ?_) <;> simp at h <;> (simp [List.zipIdx, h39z, h55z, hww, -getM, getM_hit, getM_miss, getM_none]; (repeat (simp (disch := first | omega | assumption | fail) only [if_pos, if_neg, wrap64]; try simp [List.zipIdx, h39z, h55z, hww, -getM, getM_hit, getM_miss, getM_none])))))) | (refine aw_cond (b := _) (by exact rfl) (fun h => ?_) (fun h => ?_) <;> (try simp at h)) | (refine aw_block ?_) | (refine aw_skip ?_; simp only [thenQ, blockQ, if_true]) | (refine aw_exit ?_; simp [thenQ, blockQ]) | (refine aw_ret ?_; simp only [thenQ, blockQ]) | (refine aw_round ?_) | (refine hK _ ?_; clear hK) | (clear hK; refine hK _ ?_; clear hK) | (clear hK; clear hK; refine hK _ ?_; clear hK) | (clear hK; clear hK; clear hK; refine hK _ ?_; clear hK))
  refine ⟨by simp, ?_⟩
  simp [leaves_iff, Try.f35, hcs]
  try (first | omega | (refine decide_eq_decide.2 ?_; omega) | (refine decide_eq_false ?_; omega) | (refine decide_eq_true ?_; omega))

theorem s36 (X : AX) (hX : XOK Try.prog X) (hw : X.W wT) (h34 : ∀ z M n, small z → X.call 34 [.agg z.cells] M n = some (.sl n 1 1 0 (frR z).length, [(n, .vec 1 1 false (irows (frR z)))])) :
    PSound Try.prog 36 (specF (ι := {z : Zn // small z}) (fun z => [.agg z.1.cells]) fun z => retOf [I ((frR z.1).length : Int)]) := by
  refine psound_spec hX mixed Try.func36 rfl fun ⟨z, hz⟩ w0 G => ⟨by show 1 ≤ 6; decide, rfl, ?_⟩
  show AW ⟨Try.prog, X, 6, w0, .pure G⟩ _ _ _
  have hc : Cx.OK ⟨Try.prog, X, 6, w0, .pure G⟩ := ⟨hX, mixed⟩
  simp only at hz ⊢
  have h34z := fun M n => h34 z M n hz
  repeat' (first | (apply aw_seq_k; intro K hK) | (refine aw_run hc (by first | exact aw_nod | (intro _; rw [ordB_w hw]; kernel_rfl) | (intro _; kernel_rfl)) ?_; simp [List.zipIdx, h34z, -getM, getM_hit, getM_miss, getM_none]; (repeat (simp (disch := first | omega | assumption | fail) only [if_pos, if_neg, wrap64]; try simp [List.zipIdx, h34z, -getM, getM_hit, getM_miss, getM_none])); try (repeat' (refine guardQ_split (fun h => ?_) (fun h => ?_) <;> simp at h <;> (simp [List.zipIdx, h34z, -getM, getM_hit, getM_miss, getM_none]; (repeat (simp (disch := first | omega | assumption | fail) only [if_pos, if_neg, wrap64]; try simp [List.zipIdx, h34z, -getM, getM_hit, getM_miss, getM_none])))))) | (refine aw_cond (b := _) (by exact rfl) (fun h => ?_) (fun h => ?_) <;> (try simp at h)) | (refine aw_block ?_) | (refine aw_skip ?_; simp only [thenQ, blockQ, if_true]) | (refine aw_exit ?_; simp [thenQ, blockQ]) | (refine aw_ret ?_; simp only [thenQ, blockQ]) | (refine aw_round ?_) | (refine hK _ ?_; clear hK) | (clear hK; refine hK _ ?_; clear hK) | (clear hK; clear hK; refine hK _ ?_; clear hK) | (clear hK; clear hK; clear hK; refine hK _ ?_; clear hK))
  refine ⟨by simp, ?_⟩
  simp [leaves_iff, Try.f36]
  try (first | omega | (refine decide_eq_decide.2 ?_; omega) | (refine decide_eq_false ?_; omega) | (refine decide_eq_true ?_; omega))
end Go.AM

/- The table of Frames and Count; laws Counts and Canonical. -/
namespace Go.AM
open Go Go.Proofs

noncomputable def F33 : List AV → Option AV := specF (ι := {z : Zn // small z}) (fun z => [.agg z.1.cells]) fun z => retOf [.ow 1 (irows (frR z.1))]
noncomputable def F35 : List AV → Option AV := specF (ι := {z : Zn // small z}) (fun z => [.agg z.1.cells]) fun z => retOf [I ((frR z.1).length : Int)]
noncomputable def F37 : List AV → Option AV := specF (ι := {z : Zn // small z}) (fun z => [.agg z.1.cells]) fun z => retOf [I (larR z.1)]
noncomputable def F55 : List AV → Option AV := specF (ι := {z : Zn // small z}) (fun z => [.agg z.1.cells]) fun z => retOf [I (lastR z.1)]
noncomputable def F39 : List AV → Option AV := specF (ι := {x : Zn × Int // small x.1}) (fun x => [.agg x.1.1.cells, I x.1.2]) fun x => retOf [I (unuR x.1.1 x.1.2)]
theorem F33_at {z : Zn} (hz : small z) : F33 [.agg z.cells] = some (.ow 1 (irows (frR z))) :=
  specF_eq (ι := {z : Zn // small z}) (A := fun z => [.agg z.1.cells]) (R := fun z => retOf [.ow 1 (irows (frR z.1))]) ⟨z, hz⟩ (by
    rintro ⟨y, h⟩ e
    simp [Zn.cells_inj] at e
    subst e; rfl)
theorem cf33 (z : Zn) (M : Nat → AO) (n : Nat) (hz : small z) : callP F33 [.agg z.cells] M n = some (.sl n 1 1 0 (frR z).length, [(n, .vec 1 1 false (irows (frR z)))]) := by simp [F33_at hz]
theorem cf35 (z : Zn) (M : Nat → AO) (n : Nat) (hz : small z) : callP F35 [.agg z.cells] M n = some (I ((frR z).length : Int), []) :=
  callP_spec (ι := {z : Zn // small z}) (A := fun z => [.agg z.1.cells]) (R := fun z => retOf [I ((frR z.1).length : Int)]) ⟨z, hz⟩ (by simp) (by
    rintro ⟨y, h⟩ e
    simp [Zn.cells_inj] at e
    subst e; rfl) (by simp)
theorem cf37 (z : Zn) (M : Nat → AO) (n : Nat) (hz : small z) : callP F37 [.agg z.cells] M n = some (I (larR z), []) :=
  callP_spec (ι := {z : Zn // small z}) (A := fun z => [.agg z.1.cells]) (R := fun z => retOf [I (larR z.1)]) ⟨z, hz⟩ (by simp) (by
    rintro ⟨y, h⟩ e
    simp [Zn.cells_inj] at e
    subst e; rfl) (by simp)
theorem cf55 (z : Zn) (M : Nat → AO) (n : Nat) (hz : small z) : callP F55 [.agg z.cells] M n = some (I (lastR z), []) :=
  callP_spec (ι := {z : Zn // small z}) (A := fun z => [.agg z.1.cells]) (R := fun z => retOf [I (lastR z.1)]) ⟨z, hz⟩ (by simp) (by
    rintro ⟨y, h⟩ e
    simp [Zn.cells_inj] at e
    subst e; rfl) (by simp)
theorem cf39 (z : Zn) (o : Int) (M : Nat → AO) (n : Nat) (hz : small z) : callP F39 [.agg z.cells, I o] M n = some (I (unuR z o), []) :=
  callP_spec (ι := {x : Zn × Int // small x.1}) (A := fun x => [.agg x.1.1.cells, I x.1.2]) (R := fun x => retOf [I (unuR x.1.1 x.1.2)]) ⟨(z, o), hz⟩ (by simp) (by
    rintro ⟨⟨y, a⟩, h⟩ e
    simp [Zn.cells_inj] at e
    obtain ⟨rfl, rfl⟩ := e; rfl) (by simp)
theorem F32_self {l : List Int} (h : l.length ≤ 1000000) : F32 [.rd 1 (irows l), .rd 1 (irows l)] = some (B true) := by
  have := specF_eq (ι := {x : List Int × List Int // x.1.length ≤ 1000000 ∧ x.2.length ≤ 1000000}) (A := fun x => [.rd 1 (irows x.1.1), .rd 1 (irows x.1.2)]) (R := fun x => retOf [B (x.1.1 = x.1.2)]) ⟨(l, l), h, h⟩ (by
    rintro ⟨⟨a, b⟩, h⟩ e
    simp [irows_inj] at e
    obtain ⟨rfl, rfl⟩ := e; rfl)
  refine this.trans ?_
  simp [retOf]

noncomputable def W54 : AX := V25.add 54 sortC
theorem w54 : XOK Try.prog W54 := xok_putM v25 (by kernel_rfl) (.inl ⟨sort_ok, body_ok _ Try.func54 (by kernel_rfl)⟩) fun _ _ _ _ h => sort_keys h
noncomputable def W33 : AX := W54.add 33 (callP F33)
theorem w33 : XOK Try.prog W33 := xok_spec w54 (s33 W54 w54 (AX.W.start _) (fun z M n h => cf16 z M n h) rfl) (fun _ => flat_rows) Try.func33 (by kernel_rfl)
noncomputable def W34 : AX := W33.add 34 (callP F33)
theorem w34 : XOK Try.prog W34 := xok_spec w33 (s34 W33 w33 (AX.W.start _) (fun z M n h => cf17 z M n h) (fun z M n h h3 h2 => cf46 z M n h h3 h2)) (fun _ => flat_rows) Try.func34 (by kernel_rfl)
noncomputable def W37 : AX := W34.add 37 (callP F37)
theorem w37 : XOK Try.prog W37 := xok_spec w34 (s37 W34 w34 (AX.W.start _) (fun z M n h => cf16 z M n h)) (fun _ => flat_int) Try.func37 (by kernel_rfl)
noncomputable def W38 : AX := W37.add 38 (callP F37)
theorem w38 : XOK Try.prog W38 := xok_spec w37 (s38 W37 w37 (AX.W.start _) (fun z M n h => cf17 z M n h)) (fun _ => flat_int) Try.func38 (by kernel_rfl)
noncomputable def W39 : AX := W38.add 39 (callP F39)
theorem w39 : XOK Try.prog W39 := xok_spec w38 (s39 W38 w38 (AX.W.start _) (fun z M n h => cf16 z M n h)) (fun _ => flat_int) Try.func39 (by kernel_rfl)
noncomputable def W40 : AX := W39.add 40 (callP F39)
theorem w40 : XOK Try.prog W40 := xok_spec w39 (s40 W39 w39 (AX.W.start _) (fun z M n h => cf17 z M n h)) (fun _ => flat_int) Try.func40 (by kernel_rfl)
noncomputable def W55 : AX := W40.add 55 (callP F55)
theorem w55 : XOK Try.prog W55 := xok_spec w40 (s55 W40 w40 (AX.W.start _) (fun z M n h => cf16 z M n h)) (fun _ => flat_int) Try.func55 (by kernel_rfl)
noncomputable def W35 : AX := W55.add 35 (callP F35)
theorem w35 : XOK Try.prog W35 := xok_spec w55 (s35 W55 w55 (AX.W.start _) (fun z o M n h => cf39 z o M n h) (fun z M n h => cf55 z M n h)) (fun _ => flat_int) Try.func35 (by kernel_rfl)
noncomputable def W36 : AX := W35.add 36 (callP F35)
theorem w36 : XOK Try.prog W36 := xok_spec w35 (s36 W35 w35 (AX.W.start _) (fun z M n h => cf33 z M n h)) (fun _ => flat_int) Try.func36 (by kernel_rfl)
noncomputable def W27 : AX := W36.add 27 (callP F27)
theorem w27 : XOK Try.prog W27 := xok_spec w36 (s27 W36 w36 (AX.W.start _) rfl rfl rfl) (fun _ => flat_zone1) Try.func27 (by kernel_rfl)

theorem s12 (X : AX) (hX : XOK Try.prog X) (hw : X.W wT) (h14 : ∀ M n, X.call 14 [] M n = some (B true, [])) (h15 : ∀ z M n, X.call 15 [.agg z.cells] M n = some (B (fewZ z), [])) (h32 : X.call 32 = callP F32)
    (h33 : ∀ z M n, small z → X.call 33 [.agg z.cells] M n = some (.sl n 1 1 0 (frR z).length, [(n, .vec 1 1 false (irows (frR z)))]))
    (h34 : ∀ z M n, small z → X.call 34 [.agg z.cells] M n = some (.sl n 1 1 0 (frR z).length, [(n, .vec 1 1 false (irows (frR z)))]))
    (h35 : ∀ z M n, small z → X.call 35 [.agg z.cells] M n = some (I ((frR z).length : Int), [])) (h36 : ∀ z M n, small z → X.call 36 [.agg z.cells] M n = some (I ((frR z).length : Int), []))
    (h37 : ∀ z M n, small z → X.call 37 [.agg z.cells] M n = some (I (larR z), [])) (h38 : ∀ z M n, small z → X.call 38 [.agg z.cells] M n = some (I (larR z), []))
    (h39 : ∀ z o M n, small z → X.call 39 [.agg z.cells, I o] M n = some (I (unuR z o), [])) (h40 : ∀ z o M n, small z → X.call 40 [.agg z.cells, I o] M n = some (I (unuR z o), [])) :
    PSound Try.prog 12 (specF (ι := Zn × Int) (fun x => [.agg x.1.cells, I x.2]) fun _ => retOf [B true]) := by
  refine psound_spec hX mixed Try.func12 rfl fun ⟨z, o⟩ w0 G => ⟨by show 2 ≤ 41; decide, rfl, ?_⟩
  show AW ⟨Try.prog, X, 41, w0, .pure G⟩ _ _ _
  have hc : Cx.OK ⟨Try.prog, X, 41, w0, .pure G⟩ := ⟨hX, mixed⟩
  rcases Decidable.em (fewZ z) with hf | hf
  · have hz := hf.small
    have e33 := fun M n => h33 z M n hz
    have e34 := fun M n => h34 z M n hz
    have e35 := fun M n => h35 z M n hz
    have e36 := fun M n => h36 z M n hz
    have e37 := fun M n => h37 z M n hz
    have e38 := fun M n => h38 z M n hz
    have e39 := fun M n => h39 z o M n hz
    have e40 := fun M n => h40 z o M n hz
    have h32z := F32_self (l := frR z) (by have := frR_len z; omega)
    repeat' (first | (apply aw_seq_k; intro K hK) | (refine aw_run hc (by first | exact aw_nod | (intro _; rw [ordB_w hw]; kernel_rfl) | (intro _; kernel_rfl)) ?_; simp [List.zipIdx, h14, h15, hf, e33, e34, h32, h32z, take_irows, e35, e36, e37, e38, e39, e40, -getM, getM_hit, getM_miss, getM_none]; (repeat (simp (disch := first | omega | assumption | fail) only [if_pos, if_neg, wrap64]; try simp [List.zipIdx, h14, h15, hf, e33, e34, h32, h32z, take_irows, e35, e36, e37, e38, e39, e40, -getM, getM_hit, getM_miss, getM_none])); try (repeat' (refine guardQ_split (fun h => ?_) (fun h => ?_) <;> simp at h <;> (simp [List.zipIdx, h14, h15, hf, e33, e34, h32, h32z, take_irows, e35, e36, e37, e38, e39, e40, -getM, getM_hit, getM_miss, getM_none]; (repeat (simp (disch := first | omega | assumption | fail) only [if_pos, if_neg, wrap64]; try simp [List.zipIdx, h14, h15, hf, e33, e34, h32, h32z, take_irows, e35, e36, e37, e38, e39, e40, -getM, getM_hit, getM_miss, getM_none])))))) | (refine aw_cond (b := _) (by exact rfl) (fun h => ?_) (fun h => ?_) <;> (try simp at h)) | (refine aw_block ?_) | (refine aw_skip ?_; simp only [thenQ, blockQ, if_true]) | (refine aw_exit ?_; simp [thenQ, blockQ]) | (refine aw_ret ?_; simp only [thenQ, blockQ]) | (refine aw_round ?_) | (refine hK _ ?_; clear hK) | (clear hK; refine hK _ ?_; clear hK) | (clear hK; clear hK; refine hK _ ?_; clear hK) | (clear hK; clear hK; clear hK; refine hK _ ?_; clear hK))
    refine ⟨by simp, ?_⟩
    simp [leaves_iff, Try.f12]
    try (first | omega | (refine decide_eq_decide.2 ?_; omega) | (refine decide_eq_false ?_; omega) | (refine decide_eq_true ?_; omega))
  · repeat' (first | (apply aw_seq_k; intro K hK) | (refine aw_run hc (by first | exact aw_nod | (intro _; rw [ordB_w hw]; kernel_rfl) | (intro _; kernel_rfl)) ?_; simp [List.zipIdx, h14, h15, hf, -getM, getM_hit, getM_miss, getM_none]; (repeat (simp (disch := first | omega | assumption | fail) only [if_pos, if_neg, wrap64]; try simp [List.zipIdx, h14, h15, hf, -getM, getM_hit, getM_miss, getM_none])); try (repeat' (refine guardQ_split (fun h => ?_) (fun h => ?_) <;> simp at h <;> (simp [List.zipIdx, h14, h15, hf, -getM, getM_hit, getM_miss, getM_none]; (repeat (simp (disch := first | omega | assumption | fail) only [if_pos, if_neg, wrap64]; try simp [List.zipIdx, h14, h15, hf, -getM, getM_hit, getM_miss, getM_none])))))) | (refine aw_cond (b := _) (by exact rfl) (fun h => ?_) (fun h => ?_) <;> (try simp at h)) | (refine aw_block ?_) | (refine aw_skip ?_; simp only [thenQ, blockQ, if_true]) | (refine aw_exit ?_; simp [thenQ, blockQ]) | (refine aw_ret ?_; simp only [thenQ, blockQ]) | (refine aw_round ?_) | (refine hK _ ?_; clear hK) | (clear hK; refine hK _ ?_; clear hK) | (clear hK; clear hK; refine hK _ ?_; clear hK) | (clear hK; clear hK; clear hK; refine hK _ ?_; clear hK))
    refine ⟨by simp, ?_⟩
    simp [leaves_iff, Try.f12]
    try (first | omega | (refine decide_eq_decide.2 ?_; omega) | (refine decide_eq_false ?_; omega) | (refine decide_eq_true ?_; omega))

theorem s13 (X : AX) (hX : XOK Try.prog X) (hw : X.W wT) (h14 : ∀ M n, X.call 14 [] M n = some (B true, []))
    (h16 : ∀ z M n, small z → X.call 16 [.agg z.cells] M n = some (I (checkZ z), [])) (h20 : X.call 20 = callP F20)
    (h25 : ∀ s c l M n, okPlay (s, c, l) → X.call 25 [U8 s, U8 c, .rd 3 (orows l)] M n = some (.tup [.agg (playP (Zp s c) l).1.cells, .sl n 1 2 0 (playP (Zp s c) l).2.length, B true], [(n, .vec 1 2 false (hrows (playP (Zp s c) l).2))]))
    (h27 : X.call 27 = callP F27)
    (h33 : ∀ z M n, small z → X.call 33 [.agg z.cells] M n = some (.sl n 1 1 0 (frR z).length, [(n, .vec 1 1 false (irows (frR z)))]))
    (h35 : ∀ z M n, small z → X.call 35 [.agg z.cells] M n = some (I ((frR z).length : Int), [])) :
    PSound Try.prog 13 (specF (ι := {x : ApartArg // okApart x}) (fun x => [U8 x.1.1, U8 x.1.2.1, .rd 3 (orows x.1.2.2)]) fun _ => retOf [B true]) := by
  refine psound_spec hX mixed Try.func13 rfl fun ⟨⟨s, c, l⟩, hs, hcc, hop⟩ w0 G => ⟨by show 3 ≤ 57; decide, rfl, ?_⟩
  show AW ⟨Try.prog, X, 57, w0, .pure G⟩ _ _ _
  have hc : Cx.OK ⟨Try.prog, X, 57, w0, .pure G⟩ := ⟨hX, mixed⟩
  simp only at hs hcc hop ⊢
  rcases Decidable.em (l.length ≤ 30) with hl | hl
  · have hlI : ¬ (30 : Int) < (l.length : Int) := by omega
    have h25z := fun M n => h25 s c l M n ⟨hs, hcc, hl, hop⟩
    have hZ := Zp_ok s c
    have hpi := play_inv hZ l
    rcases hst : playP (Zp s c) l with ⟨y, hd⟩
    rw [hst] at hpi h25z
    simp only at hpi h25z
    have hys := hpi.small hZ
    have hck := hpi.check hZ
    have h16z := fun M n => h16 y M n hys
    have e33 := fun M n => h33 y M n hys
    have e35 := fun M n => h35 y M n hys
    have hfl := frR_len y
    have h27z := F27_at y (l := frR y) (by omega)
    have hbf := build_frames hck
    rw [← frR_ok hck] at hbf
    rw [hbf] at h27z
    have h20z : F20 [.agg [I y.node, I y.kind, I y.start, I y.count, I y.least, .rd 1 (irows y.f0), .rd 1 (irows y.f1), .rd 1 (irows y.f2), .rd 1 (irows y.f3), .rd 1 (irows y.f4)], .agg y.cells] = some (B true) := F20_self hys
    repeat' (first | (apply aw_seq_k; intro K hK) | (refine aw_run hc (by first | exact aw_nod | (intro _; rw [ordB_w hw]; kernel_rfl) | (intro _; kernel_rfl)) ?_; simp [List.zipIdx, h14, hlI, h25z, h16z, hck, e33, h27, h27z, h20, h20z, e35, take_irows, Zn.ocells, -getM, getM_hit, getM_miss, getM_none]; (repeat (simp (disch := first | omega | assumption | fail) only [if_pos, if_neg, wrap64]; try simp [List.zipIdx, h14, hlI, h25z, h16z, hck, e33, h27, h27z, h20, h20z, e35, take_irows, Zn.ocells, -getM, getM_hit, getM_miss, getM_none])); try (repeat' (refine guardQ_split (fun h => ?_) (fun h => ?_) <;> simp at h <;> (simp [List.zipIdx, h14, hlI, h25z, h16z, hck, e33, h27, h27z, h20, h20z, e35, take_irows, Zn.ocells, -getM, getM_hit, getM_miss, getM_none]; (repeat (simp (disch := first | omega | assumption | fail) only [if_pos, if_neg, wrap64]; try simp [List.zipIdx, h14, hlI, h25z, h16z, hck, e33, h27, h27z, h20, h20z, e35, take_irows, Zn.ocells, -getM, getM_hit, getM_miss, getM_none])))))) | (refine aw_cond (b := _) (by exact rfl) (fun h => ?_) (fun h => ?_) <;> (try simp at h)) | (refine aw_block ?_) | (refine aw_skip ?_; simp only [thenQ, blockQ, if_true]) | (refine aw_exit ?_; simp [thenQ, blockQ]) | (refine aw_ret ?_; simp only [thenQ, blockQ]) | (refine aw_round ?_) | (refine hK _ ?_; clear hK) | (clear hK; refine hK _ ?_; clear hK) | (clear hK; clear hK; refine hK _ ?_; clear hK) | (clear hK; clear hK; clear hK; refine hK _ ?_; clear hK))
    refine ⟨by simp, ?_⟩
    simp [leaves_iff, Try.f13]
    try (first | omega | (refine decide_eq_decide.2 ?_; omega) | (refine decide_eq_false ?_; omega) | (refine decide_eq_true ?_; omega))
  · have hlI : (30 : Int) < (l.length : Int) := by omega
    repeat' (first | (apply aw_seq_k; intro K hK) | (refine aw_run hc (by first | exact aw_nod | (intro _; rw [ordB_w hw]; kernel_rfl) | (intro _; kernel_rfl)) ?_; simp [List.zipIdx, h14, hlI, -getM, getM_hit, getM_miss, getM_none]; (repeat (simp (disch := first | omega | assumption | fail) only [if_pos, if_neg, wrap64]; try simp [List.zipIdx, h14, hlI, -getM, getM_hit, getM_miss, getM_none])); try (repeat' (refine guardQ_split (fun h => ?_) (fun h => ?_) <;> simp at h <;> (simp [List.zipIdx, h14, hlI, -getM, getM_hit, getM_miss, getM_none]; (repeat (simp (disch := first | omega | assumption | fail) only [if_pos, if_neg, wrap64]; try simp [List.zipIdx, h14, hlI, -getM, getM_hit, getM_miss, getM_none])))))) | (refine aw_cond (b := _) (by exact rfl) (fun h => ?_) (fun h => ?_) <;> (try simp at h)) | (refine aw_block ?_) | (refine aw_skip ?_; simp only [thenQ, blockQ, if_true]) | (refine aw_exit ?_; simp [thenQ, blockQ]) | (refine aw_ret ?_; simp only [thenQ, blockQ]) | (refine aw_round ?_) | (refine hK _ ?_; clear hK) | (clear hK; refine hK _ ?_; clear hK) | (clear hK; clear hK; refine hK _ ?_; clear hK) | (clear hK; clear hK; clear hK; refine hK _ ?_; clear hK))
    refine ⟨by simp, ?_⟩
    simp [leaves_iff, Try.f13]
    try (first | omega | (refine decide_eq_decide.2 ?_; omega) | (refine decide_eq_false ?_; omega) | (refine decide_eq_true ?_; omega))

theorem s12' : PSound Try.prog 12 (specF (ι := Zn × Int) (fun x => [.agg x.1.cells, I x.2]) fun _ => retOf [B true]) :=
  s12 W27 w27 (AX.W.start _) cf14 (fun z M n => cf15 z M n) rfl (fun z M n h => cf33 z M n h) (fun z M n h => cf33 z M n h) (fun z M n h => cf35 z M n h) (fun z M n h => cf35 z M n h) (fun z M n h => cf37 z M n h) (fun z M n h => cf37 z M n h) (fun z o M n h => cf39 z o M n h) (fun z o M n h => cf39 z o M n h)
theorem s13' : PSound Try.prog 13 (specF (ι := {x : ApartArg // okApart x}) (fun x => [U8 x.1.1, U8 x.1.2.1, .rd 3 (orows x.1.2.2)]) fun _ => retOf [B true]) :=
  s13 W27 w27 (AX.W.start _) cf14 (fun z M n h => cf16 z M n h) rfl (fun s c l M n h => cg25 s c l M n h) rfl (fun z M n h => cf33 z M n h) (fun z M n h => cf35 z M n h)
end Go.AM
