/- The reference's with: the canonical lists of a set. -/
import Derived.Test.YtjdahonmgfhpgaaBd20
import Derived.Test.YtjdahonmgfhpgaaAmZb
import Derived.Test.YtjdahonmgfhpgaaBd18
set_option linter.all false

namespace Go.AM
open Go Go.Proofs

@[simp] theorem irows_e' : irows [] = [] := rfl
theorem repI (n : Nat) : List.replicate n [AV.v (.int .i64 0)] = irows (List.replicate n 0) := irows_replicate n 0

noncomputable def oL (z : Zn) (S : Int → Prop) (m j : Nat) : List Int := if 5 ≤ m + j then canonL z S j else []
noncomputable def iL (z : Zn) (S : Int → Prop) (m n j : Nat) : List Int := if m + j = 4 then canonP z S j n else oL z S m j

theorem iL_zero {z : Zn} {S : Int → Prop} {m j : Nat} : iL z S m 0 j = oL z S m j := by
  unfold iL oL
  split
  · rw [if_neg (by omega)]; rfl
  · rfl
theorem iL_done {z : Zn} {S : Int → Prop} {m j : Nat} : iL z S m z.count.toNat j = oL z S (m + 1) j := by
  unfold iL oL
  split
  · rw [if_pos (by omega)]; rfl
  · by_cases h : 5 ≤ m + j
    · rw [if_pos h, if_pos (by omega)]
    · rw [if_neg h, if_neg (by omega)]

/-- A list that is being copied. -/
def cpL (s : List Int) (i : Nat) : List Int := s.take i ++ List.replicate (256 - i) 0
theorem cpL_len {s : List Int} {i : Nat} (hs : s.length = 256) (hi : i ≤ 256) : (cpL s i).length = 256 := by simp [cpL]; omega
theorem cpL_zero {s : List Int} : cpL s 0 = List.replicate 256 0 := rfl
theorem cpL_full {s : List Int} (hs : s.length = 256) : cpL s 256 = s := by simp [cpL, List.take_of_length_le (Nat.le_of_eq hs)]
theorem cpL_set {s : List Int} {i : Nat} (hs : s.length = 256) (hi : i < 256) : (irows (cpL s i)).set i [I (gi s i)] = irows (cpL s (i + 1)) := by
  rw [irows_set]
  congr 1
  apply List.ext_getElem?
  intro n
  rw [List.getElem?_set, cpL_len hs (by omega)]
  have hg : s[i]? = some (gi s i) := by rw [gi_eq (by omega)]; exact List.getElem?_eq_getElem (by omega)
  by_cases e : i = n
  · subst e
    rw [if_pos rfl, if_pos hi]
    unfold cpL
    rw [List.getElem?_append_left (by simp; omega), List.getElem?_take, if_pos (by omega), hg]
  · rw [if_neg e]
    unfold cpL
    by_cases h : n < i
    · rw [List.getElem?_append_left (by simp; omega), List.getElem?_append_left (by simp; omega), List.getElem?_take, List.getElem?_take, if_pos h, if_pos (by omega)]
    · rw [List.getElem?_append_right (by simp; omega), List.getElem?_append_right (by simp; omega), List.getElem?_replicate, List.getElem?_replicate]
      simp only [List.length_take, hs]
      rw [Nat.min_eq_left (by omega), Nat.min_eq_left (by omega)]
      by_cases h2 : n < 256
      · rw [if_pos (by omega), if_pos (by omega)]
      · rw [if_neg (by omega), if_neg (by omega)]

/-- What is left when m orders are done. -/
noncomputable def leftL (z : Zn) (s : List Int) (m : Nat) : List Int := if 5 ≤ m then lf s (Rkn z (setOf s) 0 z.count.toNat) else lf s (Rk z (setOf s) (4 - m))
theorem leftL_zero {z : Zn} {s : List Int} (hs : s.length = 256) : leftL z s 0 = s := by
  unfold leftL
  rw [if_neg (by omega), lf_congr (R' := fun _ => False) fun x => ⟨fun h => Rk_top _ _ _ h, fun h => h.elim⟩, lf_none hs]
@[simp] theorem leftL_len {z : Zn} {s : List Int} {m : Nat} : (leftL z s m).length = 256 := by unfold leftL; split <;> simp
theorem left_begin {z : Zn} {s : List Int} {m k : Nat} (h : m + k = 4) : leftL z s m = lf s (Rkn z (setOf s) k 0) := by
  unfold leftL
  rw [if_neg (by omega), show 4 - m = k by omega]
  exact lf_congr fun x => Rkn_zero.symm
theorem left_end {z : Zn} {s : List Int} {m k : Nat} (hz : 1 ≤ z.count) (h : m + k = 4) : lf s (Rkn z (setOf s) k z.count.toNat) = leftL z s (m + 1) := by
  unfold leftL
  by_cases hk : k = 0
  · subst hk; rw [if_pos (by omega)]
  · obtain ⟨j, rfl⟩ : ∃ j, k = j + 1 := ⟨k - 1, by omega⟩
    rw [if_neg (by omega), show 4 - (m + 1) = j by omega]
    exact lf_congr fun x => Rkn_done hz (by omega)

theorem allB_lf {s : List Int} {R : Int → Prop} {f w : Nat} (h : f + w ≤ 256) : allB (lf s R) f w = true ↔ ∀ g : Int, (f : Int) ≤ g → g < (f : Int) + w → setOf s g ∧ ¬ R g := by
  rw [allB_iff]
  constructor
  · intro hh g h1 h2
    have h3 := hh g.toNat (by omega) (by omega)
    have hg : ((g.toNat : Nat) : Int) = g := Int.toNat_of_nonneg (by omega)
    rw [lf_gi (by omega), hg] at h3
    split at h3
    · exact absurd rfl h3
    · rename_i hR; exact ⟨⟨by omega, h3⟩, hR⟩
  · intro hh g h1 h2
    have := hh g (by omega) (by omega)
    rw [lf_gi (by omega), if_neg this.2]
    have h4 := this.1.2
    simpa using h4

theorem take_lf {s : List Int} {R : Int → Prop} : List.take 256 (irows (lf s R)) = irows (lf s R) := List.take_of_length_le (by simp)
theorem irows_snoc (l : List Int) (x : Int) : irows l ++ [[AV.v (.int .i64 x)]] = irows (l ++ [x]) := by rw [← irows_append]; rfl
theorem lf_put {s : List Int} {R : Int → Prop} {y : Nat} : (irows (lf s R)).set y [AV.v (.int .i64 0)] = irows (lf s fun x => R x ∨ x = (y : Int)) := by rw [irows_set, lf_set]

theorem F47_at {z : Zn} {f o : Int} (h : rangesZ z) : F47 [.agg z.cells, I f, I o] = some (B (0 ≤ o ∧ o ≤ 4 ∧ insideZ z f o.toNat)) :=
  specF_eq (ι := {x : Zn × Int × Int // rangesZ x.1}) (A := fun x => [.agg x.1.1.cells, I x.1.2.1, I x.1.2.2]) (R := fun x => retOf [B (0 ≤ x.1.2.2 ∧ x.1.2.2 ≤ 4 ∧ insideZ x.1.1 x.1.2.1 x.1.2.2.toNat)]) ⟨(z, f, o), h⟩ (by
    rintro ⟨⟨a, b, c⟩, h⟩ e
    simp [Zn.cells_inj] at e
    obtain ⟨rfl, rfl, rfl⟩ := e; rfl)

theorem iL_len {z : Zn} {S : Int → Prop} {m n j : Nat} (h : m + j = 4) : (iL z S m n j).length ≤ n := by unfold iL; rw [if_pos h]; exact canonP_len
theorem iL_yes {z : Zn} {S : Int → Prop} {m n j : Nat} (h : m + j = 4) (ht : top z S j (z.start + n)) : iL z S m n j ++ [z.start + (n : Int)] = iL z S m (n + 1) j := by
  unfold iL; rw [if_pos h, if_pos h, canonP_yes ht]
theorem iL_no {z : Zn} {S : Int → Prop} {m n j : Nat} (h : m + j = 4) (ht : ¬ top z S j (z.start + n)) : iL z S m (n + 1) j = iL z S m n j := by
  unfold iL; rw [if_pos h, if_pos h, canonP_no ht]
theorem iL_other {z : Zn} {S : Int → Prop} {m n n' j : Nat} (h : ¬ m + j = 4) : iL z S m n j = iL z S m n' j := by
  unfold iL; rw [if_neg h, if_neg h]

theorem iL_stay {z : Zn} {S : Int → Prop} {m n k j : Nat} (h : m + k = 4) (ht : ¬ top z S k (z.start + n)) : iL z S m (n + 1) j = iL z S m n j := by
  by_cases e : j = k
  · subst e; exact iL_no h ht
  · exact iL_other (by omega)
theorem lf_stay {z : Zn} {s : List Int} {n k : Nat} (ht : ¬ top z (setOf s) k (z.start + n)) : lf s (Rkn z (setOf s) k (n + 1)) = lf s (Rkn z (setOf s) k n) := lf_congr fun _ => Rkn_no ht

@[simp] theorem cells_cur {M : Nat → AO} {z : Zn} : curL M z.cells ↔ True := by simp [Zn.cells]
@[simp] theorem cells_iso {n : Nat} {σ : Nat → Nat} {z : Zn} : isoL n σ z.cells = z.cells := by simp [Zn.cells]
def Wt (z : Zn) (S : Int → Prop) (k n t : Nat) (x : Int) : Prop := Rkn z S k n x ∨ (z.start + n ≤ x ∧ x < z.start + n + t)
theorem Wt_zero {z : Zn} {s : List Int} {k n : Nat} : lf s (Rkn z (setOf s) k n) = lf s (Wt z (setOf s) k n 0) := lf_congr fun x => by
  unfold Wt
  exact ⟨.inl, fun h => h.elim id fun h => by omega⟩
theorem Wt_full {z : Zn} {s : List Int} {k n w : Nat} (ht : top z (setOf s) k (z.start + n)) (hw : (2 : Int) ^ k = w) : lf s (Wt z (setOf s) k n w) = lf s (Rkn z (setOf s) k (n + 1)) := lf_congr fun x => by
  rw [Rkn_yes ht, hw]; exact Iff.rfl
theorem Wt_set {z : Zn} {s : List Int} {k n t : Nat} (h0 : 0 ≤ z.start + (n : Int)) (h1 : 0 ≤ z.start) : (irows (lf s (Wt z (setOf s) k n t))).set (z.start.toNat + n + t) [I 0] = irows (lf s (Wt z (setOf s) k n (t + 1))) := by
  rw [lf_put]
  congr 1
  refine lf_congr fun x => ?_
  unfold Wt
  rw [or_assoc]
  exact or_congr_right (by omega)

theorem w_facts {z : Zn} {s : List Int} {F58 : List AV → Option AV} {n k : Nat} (hz : rangesZ z) (hs : s.length = 256) (hn : (n : Int) < z.count) (hk : k ≤ 4)
    (hF58 : ∀ (s : List Int) (f k : Nat), s.length = 256 → f + 2 ^ k ≤ 256 → k ≤ 4 → F58 [.rd 1 (irows s), I f, I k] = some (B (allB s f (2 ^ k)))) :
    (insideZ z (z.start + n) k ∧ top z (setOf s) k (z.start + n) ∧ F58 [.rd 1 (irows (lf s (Rkn z (setOf s) k n))), I (z.start + n), I (k : Int)] = some (B True))
    ∨ (insideZ z (z.start + n) k ∧ ¬ top z (setOf s) k (z.start + n) ∧ F58 [.rd 1 (irows (lf s (Rkn z (setOf s) k n))), I (z.start + n), I (k : Int)] = some (B False))
    ∨ (¬ insideZ z (z.start + n) k ∧ ¬ top z (setOf s) k (z.start + n)) := by
  by_cases hi : insideZ z (z.start + n) k
  · have hb := inside_bounds hz hi
    obtain ⟨w, hw1, hw2⟩ : ∃ w : Nat, (2 : Int) ^ k = w ∧ 2 ^ k = w := ⟨2 ^ k, by simp, rfl⟩
    rw [hw1] at hb
    have hzz := hz
    unfold rangesZ at hzz
    have hf : (((z.start.toNat + n : Nat)) : Int) = z.start + n := by omega
    have h := hF58 (lf s (Rkn z (setOf s) k n)) (z.start.toNat + n) k (by simp) (by rw [hw2]; omega) hk
    rw [hf, hw2] at h
    have ht := take_iff (z := z) (S := setOf s) (n := n) hk
    have ha := allB_lf (s := s) (R := Rkn z (setOf s) k n) (f := z.start.toNat + n) (w := w) (by omega)
    rw [hf] at ha
    rw [hw1] at ht
    by_cases htt : top z (setOf s) k (z.start + n)
    · left
      refine ⟨hi, htt, ?_⟩
      rw [h, ha.2 (ht.2 htt).2]
      simp
    · right; left
      refine ⟨hi, htt, ?_⟩
      have : allB (lf s (Rkn z (setOf s) k n)) (z.start.toNat + n) w = false := by
        rw [← Bool.not_eq_true, ha]
        exact fun hh => htt (ht.1 ⟨hi, hh⟩)
      rw [h, this]
      simp
  · right; right
    refine ⟨hi, fun h => hi h.1.1⟩

set_option maxHeartbeats 4000000 in
theorem s49 (X : AX) (hX : XOK Try.prog X) (hw : X.W wT) (h47 : X.call 47 = callP F47) (F58 : List AV → Option AV) (h58 : X.call 58 = callP F58) (hF58 : ∀ (s : List Int) (f k : Nat), s.length = 256 → f + 2 ^ k ≤ 256 → k ≤ 4 → F58 [.rd 1 (irows s), I f, I k] = some (B (allB s f (2 ^ k)))) :
    PSound Try.prog 49 (specF (ι := {x : Zn × List Int // rangesZ x.1 ∧ x.2.length = 256}) (fun x => [.agg x.1.1.cells, .rd 1 (irows x.1.2)]) fun x => retOf [.agg (canon x.1.1 (setOf x.1.2)).ocells]) := by
  refine psound_spec hX mixed Try.func49 rfl fun ⟨⟨z, s⟩, hz, hs⟩ w0 G => ⟨by show 2 ≤ 87; decide, rfl, ?_⟩
  show AW ⟨Try.prog, X, 87, w0, .pure G⟩ _ _ _
  have hc : Cx.OK ⟨Try.prog, X, 87, w0, .pure G⟩ := ⟨hX, mixed⟩
  simp only at hz hs
  have hrep : List.replicate 256 [AV.v (.int .i64 0)] = irows (cpL s 0) := repI 256
  have hc0 : (cpL s 0).length = 256 := cpL_len hs (by omega)
  repeat' (first | (apply aw_seq_k; intro K hK) | (refine aw_run hc (by first | exact aw_nod | (intro _; rw [ordB_w hw]; kernel_rfl) | (intro _; kernel_rfl)) ?_; simp [List.zipIdx, hrep, hs, -List.reduceReplicate, -getM, getM_hit, getM_miss, getM_none]; (repeat (simp (disch := first | omega | assumption | fail) only [if_pos, if_neg, wrap64]; try simp [List.zipIdx, hrep, hs, -List.reduceReplicate, -getM, getM_hit, getM_miss, getM_none])); try (repeat' (refine guardQ_split (fun h => ?_) (fun h => ?_) <;> simp at h <;> (simp [List.zipIdx, hrep, hs, -List.reduceReplicate, -getM, getM_hit, getM_miss, getM_none]; (repeat (simp (disch := first | omega | assumption | fail) only [if_pos, if_neg, wrap64]; try simp [List.zipIdx, hrep, hs, -List.reduceReplicate, -getM, getM_hit, getM_miss, getM_none])))))) | (refine aw_cond (b := _) (by exact rfl) (fun h => ?_) (fun h => ?_) <;> (try simp at h)) | (refine aw_block ?_) | (refine aw_skip ?_; simp only [thenQ, blockQ, if_true]) | (refine aw_exit ?_; simp [thenQ, blockQ]) | (refine aw_ret ?_; simp only [thenQ, blockQ]) | (refine aw_round ?_) | (refine hK _ ?_; clear hK) | (clear hK; refine hK _ ?_; clear hK) | (clear hK; clear hK; refine hK _ ?_; clear hK) | (clear hK; clear hK; clear hK; refine hK _ ?_; clear hK))
  refine aw_loopK (s0 := ?lps1) (m0 := ?lpm1) (ι := {i : Nat // i ≤ 256}) [1, 2, 4, 5, 6] (fun i => [(7, I i.1)]) (fun i => [(272, .vec 1 1 false (irows (cpL s i.1)))]) (fun i => 256 - i.1) ⟨0, by omega⟩ ?lhs1 ?lhm1 ?_ ?_
  case lhs1 => first | (simp [keepS]; done) | (simp [keepS]; rfl)
  case lhm1 => first | rfl | (simp; done) | (simp; rfl)
  · exact le_of2 (by simp) (by simp [AVle, AV.under, AV.underL] <;> omega) (by simp [AOle, AO.under, AV.underL, AV.under] <;> omega)
  · rintro ⟨i, hi⟩
    have hcl := cpL_len hs hi
    simp only
    repeat' (first | (apply aw_seq_k; intro K hK) | (refine aw_run hc (by first | exact aw_nod | (intro _; rw [ordB_w hw]; kernel_rfl) | (intro _; kernel_rfl)) ?_; simp [List.zipIdx, hs, hcl, -List.reduceReplicate, -getM, getM_hit, getM_miss, getM_none]; (repeat (simp (disch := first | omega | assumption | fail) only [if_pos, if_neg, wrap64, irows_gi, cpL_set]; try simp [List.zipIdx, hs, hcl, -List.reduceReplicate, -getM, getM_hit, getM_miss, getM_none])); try (repeat' (refine guardQ_split (fun h => ?_) (fun h => ?_) <;> simp at h <;> (simp [List.zipIdx, hs, hcl, -List.reduceReplicate, -getM, getM_hit, getM_miss, getM_none]; (repeat (simp (disch := first | omega | assumption | fail) only [if_pos, if_neg, wrap64, irows_gi, cpL_set]; try simp [List.zipIdx, hs, hcl, -List.reduceReplicate, -getM, getM_hit, getM_miss, getM_none])))))) | (refine aw_cond (b := _) (by exact rfl) (fun h => ?_) (fun h => ?_) <;> (try simp at h)) | (refine aw_block ?_) | (refine aw_skip ?_; simp only [thenQ, blockQ, if_true]) | (refine aw_exit ?_; simp [thenQ, blockQ]) | (refine aw_ret ?_; simp only [thenQ, blockQ]) | (refine aw_round ?_) | (refine hK _ ?_; clear hK) | (clear hK; refine hK _ ?_; clear hK) | (clear hK; clear hK; refine hK _ ?_; clear hK) | (clear hK; clear hK; clear hK; refine hK _ ?_; clear hK))
    · refine ⟨i + 1, ?_, by omega, by omega⟩
      exact le_of2 (by simp) (by simp [AVle, AV.under, AV.underL] <;> omega) (by simp [AOle, AO.under, AV.underL, AV.under] <;> omega)
    · obtain rfl : i = 256 := by omega
      simp only [cpL_full hs]
      refine aw_weaken (le_nilcell (b := 208) (i := 5) (sz := 1) rfl rfl) ?_
      refine aw_weaken (le_nilcell (b := 208) (i := 6) (sz := 1) rfl rfl) ?_
      refine aw_weaken (le_nilcell (b := 208) (i := 7) (sz := 1) rfl rfl) ?_
      refine aw_weaken (le_nilcell (b := 208) (i := 8) (sz := 1) rfl rfl) ?_
      refine aw_weaken (le_nilcell (b := 208) (i := 9) (sz := 1) rfl rfl) ?_
      have hz1 : 1 ≤ z.count := by unfold rangesZ at hz; omega
      refine aw_loopK (s0 := ?lps2) (m0 := ?lpm2) (ι := {m : Nat // m ≤ 5}) [2, 4, 5, 6] (fun m => [(8, I (4 - m.1))]) (fun m => [(208, .box [I z.node, I z.kind, I z.start, I z.count, I z.least, .sl 400 1 1 0 (oL z (setOf s) m.1 0).length, .sl 401 1 1 0 (oL z (setOf s) m.1 1).length, .sl 402 1 1 0 (oL z (setOf s) m.1 2).length, .sl 403 1 1 0 (oL z (setOf s) m.1 3).length, .sl 404 1 1 0 (oL z (setOf s) m.1 4).length]), (400, .vec 1 1 false (irows (oL z (setOf s) m.1 0))), (401, .vec 1 1 false (irows (oL z (setOf s) m.1 1))), (402, .vec 1 1 false (irows (oL z (setOf s) m.1 2))), (403, .vec 1 1 false (irows (oL z (setOf s) m.1 3))), (404, .vec 1 1 false (irows (oL z (setOf s) m.1 4))), (272, .vec 1 1 false (irows (leftL z s m.1)))]) (fun m => 5 - m.1) ⟨0, by omega⟩ ?lhs2 ?lhm2 ?_ ?_
      case lhs2 => first | (simp [keepS]; done) | (simp [keepS]; rfl)
      case lhm2 => first | rfl | (simp; done) | (simp; rfl)
      · simp only [leftL_zero hs, show ∀ j, j < 5 → oL z (setOf s) 0 j = [] from fun j hj => by unfold oL; rw [if_neg (by omega)], show (0:Nat) < 5 by omega, show (1:Nat) < 5 by omega, show (2:Nat) < 5 by omega, show (3:Nat) < 5 by omega, show (4:Nat) < 5 by omega]
        exact le_of2 (by simp) (by simp [AVle, AV.under, AV.underL] <;> omega) (by simp [AOle, AO.under, AV.underL, AV.under] <;> omega)
      · rintro ⟨m, hm⟩
        simp only
        by_cases hm5 : m = 5
        · subst hm5
          repeat' (first | (apply aw_seq_k; intro K hK) | (refine aw_run hc (by first | exact aw_nod | (intro _; rw [ordB_w hw]; kernel_rfl) | (intro _; kernel_rfl)) ?_; simp [List.zipIdx, -getM, getM_hit, getM_miss, getM_none]; (repeat (simp (disch := first | omega | assumption | fail) only [if_pos, if_neg, wrap64]; try simp [List.zipIdx, -getM, getM_hit, getM_miss, getM_none])); try (repeat' (refine guardQ_split (fun h => ?_) (fun h => ?_) <;> simp at h <;> (simp [List.zipIdx, -getM, getM_hit, getM_miss, getM_none]; (repeat (simp (disch := first | omega | assumption | fail) only [if_pos, if_neg, wrap64]; try simp [List.zipIdx, -getM, getM_hit, getM_miss, getM_none])))))) | (refine aw_cond (b := _) (by exact rfl) (fun h => ?_) (fun h => ?_) <;> (try simp at h)) | (refine aw_block ?_) | (refine aw_skip ?_; simp only [thenQ, blockQ, if_true]) | (refine aw_exit ?_; simp [thenQ, blockQ]) | (refine aw_ret ?_; simp only [thenQ, blockQ]) | (refine aw_round ?_) | (refine hK _ ?_; clear hK) | (clear hK; refine hK _ ?_; clear hK) | (clear hK; clear hK; refine hK _ ?_; clear hK) | (clear hK; clear hK; clear hK; refine hK _ ?_; clear hK))
          simp only [show ∀ j, oL z (setOf s) 5 j = canonL z (setOf s) j from fun j => by unfold oL; rw [if_pos (by omega)]]
          refine ⟨by simp, ?_⟩
          simp [leaves_iff, Try.f49, Zn.ocells, take_irows, canon]
          try (first | omega | (refine decide_eq_decide.2 ?_; omega) | (refine decide_eq_false ?_; omega) | (refine decide_eq_true ?_; omega))
        · rcases (show m = 0 ∨ m = 1 ∨ m = 2 ∨ m = 3 ∨ m = 4 by omega) with rfl | rfl | rfl | rfl | rfl
          · repeat' (first | (apply aw_seq_k; intro K hK) | (refine aw_run hc (by first | exact aw_nod | (intro _; rw [ordB_w hw]; kernel_rfl) | (intro _; kernel_rfl)) ?_; simp [List.zipIdx, -getM, getM_hit, getM_miss, getM_none]; (repeat (simp (disch := first | omega | assumption | fail) only [if_pos, if_neg, wrap64]; try simp [List.zipIdx, -getM, getM_hit, getM_miss, getM_none])); try (repeat' (refine guardQ_split (fun h => ?_) (fun h => ?_) <;> simp at h <;> (simp [List.zipIdx, -getM, getM_hit, getM_miss, getM_none]; (repeat (simp (disch := first | omega | assumption | fail) only [if_pos, if_neg, wrap64]; try simp [List.zipIdx, -getM, getM_hit, getM_miss, getM_none])))))) | (refine aw_cond (b := _) (by exact rfl) (fun h => ?_) (fun h => ?_) <;> (try simp at h)) | (refine aw_block ?_) | (refine aw_skip ?_; simp only [thenQ, blockQ, if_true]) | (refine aw_exit ?_; simp [thenQ, blockQ]) | (refine aw_ret ?_; simp only [thenQ, blockQ]) | (refine aw_round ?_) | (refine hK _ ?_; clear hK) | (clear hK; refine hK _ ?_; clear hK) | (clear hK; clear hK; refine hK _ ?_; clear hK) | (clear hK; clear hK; clear hK; refine hK _ ?_; clear hK))
            have hlb := left_begin (z := z) (s := s) (show 0 + 4 = 4 from rfl)
            simp only [hlb]
            refine aw_loopK (s0 := ?lps3) (m0 := ?lpm3) (ι := {n : Nat // (n : Int) ≤ z.count}) [2, 4, 5, 6, 8] (fun n => [(9, I (z.start + (n.1 : Int)))]) (fun n => [(208, .box [I z.node, I z.kind, I z.start, I z.count, I z.least, .sl 400 1 1 0 (iL z (setOf s) 0 n.1 0).length, .sl 401 1 1 0 (iL z (setOf s) 0 n.1 1).length, .sl 402 1 1 0 (iL z (setOf s) 0 n.1 2).length, .sl 403 1 1 0 (iL z (setOf s) 0 n.1 3).length, .sl 404 1 1 0 (iL z (setOf s) 0 n.1 4).length]), (400, .vec 1 1 false (irows (iL z (setOf s) 0 n.1 0))), (401, .vec 1 1 false (irows (iL z (setOf s) 0 n.1 1))), (402, .vec 1 1 false (irows (iL z (setOf s) 0 n.1 2))), (403, .vec 1 1 false (irows (iL z (setOf s) 0 n.1 3))), (404, .vec 1 1 false (irows (iL z (setOf s) 0 n.1 4))), (272, .vec 1 1 false (irows (lf s (Rkn z (setOf s) 4 n.1))))]) (fun n => z.count.toNat - n.1) ⟨0, by omega⟩ ?lhs3 ?lhm3 ?_ ?_
            case lhs3 => first | (simp [keepS]; done) | (simp [keepS]; rfl)
            case lhm3 => first | rfl | (simp; done) | (simp; rfl)
            · simp only [iL_zero]
              exact le_of2 (by simp) (by simp [AVle, AV.under, AV.underL] <;> omega) (by simp [AOle, AO.under, AV.underL, AV.under] <;> omega)
            · rintro ⟨n, hn⟩
              simp only
              have hzz := hz
              unfold rangesZ at hzz
              rcases Decidable.em (¬ (n : Int) < z.count) with hnc | hnc
              · repeat' (first | (apply aw_seq_k; intro K hK) | (refine aw_run hc (by first | exact aw_nod | (intro _; rw [ordB_w hw]; kernel_rfl) | (intro _; kernel_rfl)) ?_; simp [List.zipIdx, hnc, -getM, getM_hit, getM_miss, getM_none]; (repeat (simp (disch := first | omega | assumption | fail) only [if_pos, if_neg, wrap64]; try simp [List.zipIdx, hnc, -getM, getM_hit, getM_miss, getM_none])); try (repeat' (refine guardQ_split (fun h => ?_) (fun h => ?_) <;> simp at h <;> (simp [List.zipIdx, hnc, -getM, getM_hit, getM_miss, getM_none]; (repeat (simp (disch := first | omega | assumption | fail) only [if_pos, if_neg, wrap64]; try simp [List.zipIdx, hnc, -getM, getM_hit, getM_miss, getM_none])))))) | (refine aw_cond (b := _) (by exact rfl) (fun h => ?_) (fun h => ?_) <;> (try simp at h)) | (refine aw_block ?_) | (refine aw_skip ?_; simp only [thenQ, blockQ, if_true]) | (refine aw_exit ?_; simp [thenQ, blockQ]) | (refine aw_ret ?_; simp only [thenQ, blockQ]) | (refine aw_round ?_) | (refine hK _ ?_; clear hK) | (clear hK; refine hK _ ?_; clear hK) | (clear hK; clear hK; refine hK _ ?_; clear hK) | (clear hK; clear hK; clear hK; refine hK _ ?_; clear hK))
                obtain rfl : n = z.count.toNat := by omega
                refine ⟨1, ?_, by omega, by omega⟩
                simp only [iL_done, left_end hz1 (show 0 + 4 = 4 from rfl)]
                exact le_of2 (by simp) (by simp [AVle, AV.under, AV.underL] <;> omega) (by simp [AOle, AO.under, AV.underL, AV.under] <;> omega)
              · replace hnc := Decidable.not_not.1 hnc
                have h47z := F47_at (z := z) (f := z.start + n) (o := 4) hz
                rcases w_facts (n := n) (k := 4) hz hs (by omega) (by omega) hF58 with ⟨hi, ht, h58z⟩ | ⟨hi, ht, h58z⟩ | ⟨hi, ht⟩
                · rw [show ((4 : Nat) : Int) = 4 from rfl] at h58z
                  have hil := iL_len (z := z) (S := setOf s) (n := n) (show 0 + 4 = 4 from rfl)
                  have hil2 : (iL z (setOf s) 0 n 4).length ≤ 1073741823 := by omega
                  have hia := iL_yes (z := z) (S := setOf s) (n := n) (show 0 + 4 = 4 from rfl) ht
                  have hia2 : (iL z (setOf s) 0 n 4).length + 1 = (iL z (setOf s) 0 (n + 1) 4).length := by rw [← hia]; simp
                  have hb := inside_bounds hz hi
                  rw [show (2:Int) ^ 4 = 16 from rfl] at hb
                  simp only [show lf s (Rkn z (setOf s) 4 n) = lf s (Wt z (setOf s) 4 n 0) from Wt_zero] at h58z ⊢
                  repeat' (first | (apply aw_seq_k; intro K hK) | (refine aw_run hc (by first | exact aw_nod | (intro _; rw [ordB_w hw]; kernel_rfl) | (intro _; kernel_rfl)) ?_; simp [List.zipIdx, h47, h58, h47z, hnc, hi, ht, take_lf, h58z, hil2, take_irows, irows_snoc, hia, hia2, bits64, -getM, getM_hit, getM_miss, getM_none]; (repeat (simp (disch := first | omega | assumption | fail) only [if_pos, if_neg, wrap64]; try simp [List.zipIdx, h47, h58, h47z, hnc, hi, ht, take_lf, h58z, hil2, take_irows, irows_snoc, hia, hia2, bits64, -getM, getM_hit, getM_miss, getM_none])); try (repeat' (refine guardQ_split (fun h => ?_) (fun h => ?_) <;> simp at h <;> (simp [List.zipIdx, h47, h58, h47z, hnc, hi, ht, take_lf, h58z, hil2, take_irows, irows_snoc, hia, hia2, bits64, -getM, getM_hit, getM_miss, getM_none]; (repeat (simp (disch := first | omega | assumption | fail) only [if_pos, if_neg, wrap64]; try simp [List.zipIdx, h47, h58, h47z, hnc, hi, ht, take_lf, h58z, hil2, take_irows, irows_snoc, hia, hia2, bits64, -getM, getM_hit, getM_miss, getM_none])))))) | (refine aw_cond (b := _) (by exact rfl) (fun h => ?_) (fun h => ?_) <;> (try simp at h)) | (refine aw_block ?_) | (refine aw_skip ?_; simp only [thenQ, blockQ, if_true]) | (refine aw_exit ?_; simp [thenQ, blockQ]) | (refine aw_ret ?_; simp only [thenQ, blockQ]) | (refine aw_round ?_) | (refine hK _ ?_; clear hK) | (clear hK; refine hK _ ?_; clear hK) | (clear hK; clear hK; refine hK _ ?_; clear hK) | (clear hK; clear hK; clear hK; refine hK _ ?_; clear hK))
                  refine aw_loopK (s0 := ?lps4) (m0 := ?lpm4) (ι := {t : Nat // t ≤ 16}) [2, 4, 5, 6, 8, 9] (fun t => [(10, I (z.start + (n : Int) + (t.1 : Int)))]) (fun t => [(272, .vec 1 1 false (irows (lf s (Wt z (setOf s) 4 n t.1))))]) (fun t => 16 - t.1) ⟨0, by omega⟩ ?lhs4 ?lhm4 ?_ ?_
                  case lhs4 => first | (simp [keepS]; done) | (simp [keepS]; rfl)
                  case lhm4 => first | rfl | (simp; done) | (simp; rfl)
                  · exact le_of2 (by simp) (by simp [AVle, AV.under, AV.underL] <;> omega) (by simp [AOle, AO.under, AV.underL, AV.under] <;> omega)
                  · rintro ⟨t, htt⟩
                    simp only
                    have hst := Wt_set (z := z) (s := s) (k := 4) (n := n) (t := t) hb.1 (by omega)
                    have hto : (z.start + (n : Int) + (t : Int)).toNat = z.start.toNat + n + t := by omega
                    have hu : IntKind.u64.wrap 4 = 4 := by decide
                    rcases Decidable.em (t < 16) with ht4 | ht4
                    · have hg := irows_gi (l := lf s (Wt z (setOf s) 4 n t)) (n := z.start.toNat + n + t) (by simp; omega)
                      have ht5 : (t : Int) < 16 := by omega
                      repeat' (first | (apply aw_seq_k; intro K hK) | (refine aw_run hc (by first | exact aw_nod | (intro _; rw [ordB_w hw]; kernel_rfl) | (intro _; kernel_rfl)) ?_; simp [List.zipIdx, bits64, lf_len, hto, hst, hu, hg, ht5, -getM, getM_hit, getM_miss, getM_none]; (repeat (simp (disch := first | omega | assumption | fail) only [if_pos, if_neg, wrap64]; try simp [List.zipIdx, bits64, lf_len, hto, hst, hu, hg, ht5, -getM, getM_hit, getM_miss, getM_none])); try (repeat' (refine guardQ_split (fun h => ?_) (fun h => ?_) <;> simp at h <;> (simp [List.zipIdx, bits64, lf_len, hto, hst, hu, hg, ht5, -getM, getM_hit, getM_miss, getM_none]; (repeat (simp (disch := first | omega | assumption | fail) only [if_pos, if_neg, wrap64]; try simp [List.zipIdx, bits64, lf_len, hto, hst, hu, hg, ht5, -getM, getM_hit, getM_miss, getM_none])))))) | (refine aw_cond (b := _) (by exact rfl) (fun h => ?_) (fun h => ?_) <;> (try simp at h)) | (refine aw_block ?_) | (refine aw_skip ?_; simp only [thenQ, blockQ, if_true]) | (refine aw_exit ?_; simp [thenQ, blockQ]) | (refine aw_ret ?_; simp only [thenQ, blockQ]) | (refine aw_round ?_) | (refine hK _ ?_; clear hK) | (clear hK; refine hK _ ?_; clear hK) | (clear hK; clear hK; refine hK _ ?_; clear hK) | (clear hK; clear hK; clear hK; refine hK _ ?_; clear hK))
                      refine ⟨t + 1, ?_, by omega, by omega⟩
                      exact le_of2 (by simp) (by simp [AVle, AV.under, AV.underL] <;> omega) (by simp [AOle, AO.under, AV.underL, AV.under] <;> omega)
                    · have ht5 : ¬ (t : Int) < 16 := by omega
                      repeat' (first | (apply aw_seq_k; intro K hK) | (refine aw_run hc (by first | exact aw_nod | (intro _; rw [ordB_w hw]; kernel_rfl) | (intro _; kernel_rfl)) ?_; simp [List.zipIdx, bits64, lf_len, hu, ht5, -getM, getM_hit, getM_miss, getM_none]; (repeat (simp (disch := first | omega | assumption | fail) only [if_pos, if_neg, wrap64]; try simp [List.zipIdx, bits64, lf_len, hu, ht5, -getM, getM_hit, getM_miss, getM_none])); try (repeat' (refine guardQ_split (fun h => ?_) (fun h => ?_) <;> simp at h <;> (simp [List.zipIdx, bits64, lf_len, hu, ht5, -getM, getM_hit, getM_miss, getM_none]; (repeat (simp (disch := first | omega | assumption | fail) only [if_pos, if_neg, wrap64]; try simp [List.zipIdx, bits64, lf_len, hu, ht5, -getM, getM_hit, getM_miss, getM_none])))))) | (refine aw_cond (b := _) (by exact rfl) (fun h => ?_) (fun h => ?_) <;> (try simp at h)) | (refine aw_block ?_) | (refine aw_skip ?_; simp only [thenQ, blockQ, if_true]) | (refine aw_exit ?_; simp [thenQ, blockQ]) | (refine aw_ret ?_; simp only [thenQ, blockQ]) | (refine aw_round ?_) | (refine hK _ ?_; clear hK) | (clear hK; refine hK _ ?_; clear hK) | (clear hK; clear hK; refine hK _ ?_; clear hK) | (clear hK; clear hK; clear hK; refine hK _ ?_; clear hK))
                      obtain rfl : t = 16 := by omega
                      refine ⟨n + 1, ?_, by omega, by omega⟩
                      simp only [Wt_full ht (show (2:Int) ^ 4 = ((16:Nat):Int) from rfl), iL_other (z := z) (S := setOf s) (n := n + 1) (n' := n) (show ¬ 0 + 0 = 4 by omega), iL_other (z := z) (S := setOf s) (n := n + 1) (n' := n) (show ¬ 0 + 1 = 4 by omega), iL_other (z := z) (S := setOf s) (n := n + 1) (n' := n) (show ¬ 0 + 2 = 4 by omega), iL_other (z := z) (S := setOf s) (n := n + 1) (n' := n) (show ¬ 0 + 3 = 4 by omega)]
                      refine le_turn (s1 := ?tus5) (m1 := ?tum5) [] [9, 2, 4, 5, 6, 8] [208, 400, 401, 402, 403, 404, 272, 0, 16] ?tua5 ?tub5 ?tuc5 ?tud5 ?tue5 ?tuf5 ?tug5
                      case tua5 => first | (simp [keepS]; done) | (simp [keepS]; rfl)
                      case tub5 => first | (simp; done) | (simp; rfl)
                      case tuc5 => simp
                      case tud5 => simp
                      case tue5 => simp
                      case tuf5 => simp
                      case tug5 =>
                        simp [swp, vr]
                        exact le_of2 (by simp) (by simp [AVle, AV.under, AV.underL] <;> omega) (by simp [AOle, AO.under, AV.underL, AV.under] <;> omega)
                · rw [show ((4 : Nat) : Int) = 4 from rfl] at h58z
                  repeat' (first | (apply aw_seq_k; intro K hK) | (refine aw_run hc (by first | exact aw_nod | (intro _; rw [ordB_w hw]; kernel_rfl) | (intro _; kernel_rfl)) ?_; simp [List.zipIdx, h47, h58, h47z, hnc, hi, ht, take_lf, h58z, -getM, getM_hit, getM_miss, getM_none]; (repeat (simp (disch := first | omega | assumption | fail) only [if_pos, if_neg, wrap64]; try simp [List.zipIdx, h47, h58, h47z, hnc, hi, ht, take_lf, h58z, -getM, getM_hit, getM_miss, getM_none])); try (repeat' (refine guardQ_split (fun h => ?_) (fun h => ?_) <;> simp at h <;> (simp [List.zipIdx, h47, h58, h47z, hnc, hi, ht, take_lf, h58z, -getM, getM_hit, getM_miss, getM_none]; (repeat (simp (disch := first | omega | assumption | fail) only [if_pos, if_neg, wrap64]; try simp [List.zipIdx, h47, h58, h47z, hnc, hi, ht, take_lf, h58z, -getM, getM_hit, getM_miss, getM_none])))))) | (refine aw_cond (b := _) (by exact rfl) (fun h => ?_) (fun h => ?_) <;> (try simp at h)) | (refine aw_block ?_) | (refine aw_skip ?_; simp only [thenQ, blockQ, if_true]) | (refine aw_exit ?_; simp [thenQ, blockQ]) | (refine aw_ret ?_; simp only [thenQ, blockQ]) | (refine aw_round ?_) | (refine hK _ ?_; clear hK) | (clear hK; refine hK _ ?_; clear hK) | (clear hK; clear hK; refine hK _ ?_; clear hK) | (clear hK; clear hK; clear hK; refine hK _ ?_; clear hK))
                  refine ⟨n + 1, ?_, by omega, by omega⟩
                  simp only [iL_stay (show 0 + 4 = 4 from rfl) ht, lf_stay ht]
                  exact le_of2 (by simp) (by simp [AVle, AV.under, AV.underL] <;> omega) (by simp [AOle, AO.under, AV.underL, AV.under] <;> omega)
                · repeat' (first | (apply aw_seq_k; intro K hK) | (refine aw_run hc (by first | exact aw_nod | (intro _; rw [ordB_w hw]; kernel_rfl) | (intro _; kernel_rfl)) ?_; simp [List.zipIdx, h47, h58, h47z, hnc, hi, ht, take_lf, -getM, getM_hit, getM_miss, getM_none]; (repeat (simp (disch := first | omega | assumption | fail) only [if_pos, if_neg, wrap64]; try simp [List.zipIdx, h47, h58, h47z, hnc, hi, ht, take_lf, -getM, getM_hit, getM_miss, getM_none])); try (repeat' (refine guardQ_split (fun h => ?_) (fun h => ?_) <;> simp at h <;> (simp [List.zipIdx, h47, h58, h47z, hnc, hi, ht, take_lf, -getM, getM_hit, getM_miss, getM_none]; (repeat (simp (disch := first | omega | assumption | fail) only [if_pos, if_neg, wrap64]; try simp [List.zipIdx, h47, h58, h47z, hnc, hi, ht, take_lf, -getM, getM_hit, getM_miss, getM_none])))))) | (refine aw_cond (b := _) (by exact rfl) (fun h => ?_) (fun h => ?_) <;> (try simp at h)) | (refine aw_block ?_) | (refine aw_skip ?_; simp only [thenQ, blockQ, if_true]) | (refine aw_exit ?_; simp [thenQ, blockQ]) | (refine aw_ret ?_; simp only [thenQ, blockQ]) | (refine aw_round ?_) | (refine hK _ ?_; clear hK) | (clear hK; refine hK _ ?_; clear hK) | (clear hK; clear hK; refine hK _ ?_; clear hK) | (clear hK; clear hK; clear hK; refine hK _ ?_; clear hK))
                  refine ⟨n + 1, ?_, by omega, by omega⟩
                  simp only [iL_stay (show 0 + 4 = 4 from rfl) ht, lf_stay ht]
                  exact le_of2 (by simp) (by simp [AVle, AV.under, AV.underL] <;> omega) (by simp [AOle, AO.under, AV.underL, AV.under] <;> omega)
          · repeat' (first | (apply aw_seq_k; intro K hK) | (refine aw_run hc (by first | exact aw_nod | (intro _; rw [ordB_w hw]; kernel_rfl) | (intro _; kernel_rfl)) ?_; simp [List.zipIdx, -getM, getM_hit, getM_miss, getM_none]; (repeat (simp (disch := first | omega | assumption | fail) only [if_pos, if_neg, wrap64]; try simp [List.zipIdx, -getM, getM_hit, getM_miss, getM_none])); try (repeat' (refine guardQ_split (fun h => ?_) (fun h => ?_) <;> simp at h <;> (simp [List.zipIdx, -getM, getM_hit, getM_miss, getM_none]; (repeat (simp (disch := first | omega | assumption | fail) only [if_pos, if_neg, wrap64]; try simp [List.zipIdx, -getM, getM_hit, getM_miss, getM_none])))))) | (refine aw_cond (b := _) (by exact rfl) (fun h => ?_) (fun h => ?_) <;> (try simp at h)) | (refine aw_block ?_) | (refine aw_skip ?_; simp only [thenQ, blockQ, if_true]) | (refine aw_exit ?_; simp [thenQ, blockQ]) | (refine aw_ret ?_; simp only [thenQ, blockQ]) | (refine aw_round ?_) | (refine hK _ ?_; clear hK) | (clear hK; refine hK _ ?_; clear hK) | (clear hK; clear hK; refine hK _ ?_; clear hK) | (clear hK; clear hK; clear hK; refine hK _ ?_; clear hK))
            have hlb := left_begin (z := z) (s := s) (show 1 + 3 = 4 from rfl)
            simp only [hlb]
            refine aw_loopK (s0 := ?lps6) (m0 := ?lpm6) (ι := {n : Nat // (n : Int) ≤ z.count}) [2, 4, 5, 6, 8] (fun n => [(9, I (z.start + (n.1 : Int)))]) (fun n => [(208, .box [I z.node, I z.kind, I z.start, I z.count, I z.least, .sl 400 1 1 0 (iL z (setOf s) 1 n.1 0).length, .sl 401 1 1 0 (iL z (setOf s) 1 n.1 1).length, .sl 402 1 1 0 (iL z (setOf s) 1 n.1 2).length, .sl 403 1 1 0 (iL z (setOf s) 1 n.1 3).length, .sl 404 1 1 0 (iL z (setOf s) 1 n.1 4).length]), (400, .vec 1 1 false (irows (iL z (setOf s) 1 n.1 0))), (401, .vec 1 1 false (irows (iL z (setOf s) 1 n.1 1))), (402, .vec 1 1 false (irows (iL z (setOf s) 1 n.1 2))), (403, .vec 1 1 false (irows (iL z (setOf s) 1 n.1 3))), (404, .vec 1 1 false (irows (iL z (setOf s) 1 n.1 4))), (272, .vec 1 1 false (irows (lf s (Rkn z (setOf s) 3 n.1))))]) (fun n => z.count.toNat - n.1) ⟨0, by omega⟩ ?lhs6 ?lhm6 ?_ ?_
            case lhs6 => first | (simp [keepS]; done) | (simp [keepS]; rfl)
            case lhm6 => first | rfl | (simp; done) | (simp; rfl)
            · simp only [iL_zero]
              exact le_of2 (by simp) (by simp [AVle, AV.under, AV.underL] <;> omega) (by simp [AOle, AO.under, AV.underL, AV.under] <;> omega)
            · rintro ⟨n, hn⟩
              simp only
              have hzz := hz
              unfold rangesZ at hzz
              rcases Decidable.em (¬ (n : Int) < z.count) with hnc | hnc
              · repeat' (first | (apply aw_seq_k; intro K hK) | (refine aw_run hc (by first | exact aw_nod | (intro _; rw [ordB_w hw]; kernel_rfl) | (intro _; kernel_rfl)) ?_; simp [List.zipIdx, hnc, -getM, getM_hit, getM_miss, getM_none]; (repeat (simp (disch := first | omega | assumption | fail) only [if_pos, if_neg, wrap64]; try simp [List.zipIdx, hnc, -getM, getM_hit, getM_miss, getM_none])); try (repeat' (refine guardQ_split (fun h => ?_) (fun h => ?_) <;> simp at h <;> (simp [List.zipIdx, hnc, -getM, getM_hit, getM_miss, getM_none]; (repeat (simp (disch := first | omega | assumption | fail) only [if_pos, if_neg, wrap64]; try simp [List.zipIdx, hnc, -getM, getM_hit, getM_miss, getM_none])))))) | (refine aw_cond (b := _) (by exact rfl) (fun h => ?_) (fun h => ?_) <;> (try simp at h)) | (refine aw_block ?_) | (refine aw_skip ?_; simp only [thenQ, blockQ, if_true]) | (refine aw_exit ?_; simp [thenQ, blockQ]) | (refine aw_ret ?_; simp only [thenQ, blockQ]) | (refine aw_round ?_) | (refine hK _ ?_; clear hK) | (clear hK; refine hK _ ?_; clear hK) | (clear hK; clear hK; refine hK _ ?_; clear hK) | (clear hK; clear hK; clear hK; refine hK _ ?_; clear hK))
                obtain rfl : n = z.count.toNat := by omega
                refine ⟨2, ?_, by omega, by omega⟩
                simp only [iL_done, left_end hz1 (show 1 + 3 = 4 from rfl)]
                exact le_of2 (by simp) (by simp [AVle, AV.under, AV.underL] <;> omega) (by simp [AOle, AO.under, AV.underL, AV.under] <;> omega)
              · replace hnc := Decidable.not_not.1 hnc
                have h47z := F47_at (z := z) (f := z.start + n) (o := 3) hz
                rcases w_facts (n := n) (k := 3) hz hs (by omega) (by omega) hF58 with ⟨hi, ht, h58z⟩ | ⟨hi, ht, h58z⟩ | ⟨hi, ht⟩
                · rw [show ((3 : Nat) : Int) = 3 from rfl] at h58z
                  have hil := iL_len (z := z) (S := setOf s) (n := n) (show 1 + 3 = 4 from rfl)
                  have hil2 : (iL z (setOf s) 1 n 3).length ≤ 1073741823 := by omega
                  have hia := iL_yes (z := z) (S := setOf s) (n := n) (show 1 + 3 = 4 from rfl) ht
                  have hia2 : (iL z (setOf s) 1 n 3).length + 1 = (iL z (setOf s) 1 (n + 1) 3).length := by rw [← hia]; simp
                  have hb := inside_bounds hz hi
                  rw [show (2:Int) ^ 3 = 8 from rfl] at hb
                  simp only [show lf s (Rkn z (setOf s) 3 n) = lf s (Wt z (setOf s) 3 n 0) from Wt_zero] at h58z ⊢
                  repeat' (first | (apply aw_seq_k; intro K hK) | (refine aw_run hc (by first | exact aw_nod | (intro _; rw [ordB_w hw]; kernel_rfl) | (intro _; kernel_rfl)) ?_; simp [List.zipIdx, h47, h58, h47z, hnc, hi, ht, take_lf, h58z, hil2, take_irows, irows_snoc, hia, hia2, bits64, -getM, getM_hit, getM_miss, getM_none]; (repeat (simp (disch := first | omega | assumption | fail) only [if_pos, if_neg, wrap64]; try simp [List.zipIdx, h47, h58, h47z, hnc, hi, ht, take_lf, h58z, hil2, take_irows, irows_snoc, hia, hia2, bits64, -getM, getM_hit, getM_miss, getM_none])); try (repeat' (refine guardQ_split (fun h => ?_) (fun h => ?_) <;> simp at h <;> (simp [List.zipIdx, h47, h58, h47z, hnc, hi, ht, take_lf, h58z, hil2, take_irows, irows_snoc, hia, hia2, bits64, -getM, getM_hit, getM_miss, getM_none]; (repeat (simp (disch := first | omega | assumption | fail) only [if_pos, if_neg, wrap64]; try simp [List.zipIdx, h47, h58, h47z, hnc, hi, ht, take_lf, h58z, hil2, take_irows, irows_snoc, hia, hia2, bits64, -getM, getM_hit, getM_miss, getM_none])))))) | (refine aw_cond (b := _) (by exact rfl) (fun h => ?_) (fun h => ?_) <;> (try simp at h)) | (refine aw_block ?_) | (refine aw_skip ?_; simp only [thenQ, blockQ, if_true]) | (refine aw_exit ?_; simp [thenQ, blockQ]) | (refine aw_ret ?_; simp only [thenQ, blockQ]) | (refine aw_round ?_) | (refine hK _ ?_; clear hK) | (clear hK; refine hK _ ?_; clear hK) | (clear hK; clear hK; refine hK _ ?_; clear hK) | (clear hK; clear hK; clear hK; refine hK _ ?_; clear hK))
                  refine aw_loopK (s0 := ?lps7) (m0 := ?lpm7) (ι := {t : Nat // t ≤ 8}) [2, 4, 5, 6, 8, 9] (fun t => [(10, I (z.start + (n : Int) + (t.1 : Int)))]) (fun t => [(272, .vec 1 1 false (irows (lf s (Wt z (setOf s) 3 n t.1))))]) (fun t => 8 - t.1) ⟨0, by omega⟩ ?lhs7 ?lhm7 ?_ ?_
                  case lhs7 => first | (simp [keepS]; done) | (simp [keepS]; rfl)
                  case lhm7 => first | rfl | (simp; done) | (simp; rfl)
                  · exact le_of2 (by simp) (by simp [AVle, AV.under, AV.underL] <;> omega) (by simp [AOle, AO.under, AV.underL, AV.under] <;> omega)
                  · rintro ⟨t, htt⟩
                    simp only
                    have hst := Wt_set (z := z) (s := s) (k := 3) (n := n) (t := t) hb.1 (by omega)
                    have hto : (z.start + (n : Int) + (t : Int)).toNat = z.start.toNat + n + t := by omega
                    have hu : IntKind.u64.wrap 3 = 3 := by decide
                    rcases Decidable.em (t < 8) with ht4 | ht4
                    · have hg := irows_gi (l := lf s (Wt z (setOf s) 3 n t)) (n := z.start.toNat + n + t) (by simp; omega)
                      have ht5 : (t : Int) < 8 := by omega
                      repeat' (first | (apply aw_seq_k; intro K hK) | (refine aw_run hc (by first | exact aw_nod | (intro _; rw [ordB_w hw]; kernel_rfl) | (intro _; kernel_rfl)) ?_; simp [List.zipIdx, bits64, lf_len, hto, hst, hu, hg, ht5, -getM, getM_hit, getM_miss, getM_none]; (repeat (simp (disch := first | omega | assumption | fail) only [if_pos, if_neg, wrap64]; try simp [List.zipIdx, bits64, lf_len, hto, hst, hu, hg, ht5, -getM, getM_hit, getM_miss, getM_none])); try (repeat' (refine guardQ_split (fun h => ?_) (fun h => ?_) <;> simp at h <;> (simp [List.zipIdx, bits64, lf_len, hto, hst, hu, hg, ht5, -getM, getM_hit, getM_miss, getM_none]; (repeat (simp (disch := first | omega | assumption | fail) only [if_pos, if_neg, wrap64]; try simp [List.zipIdx, bits64, lf_len, hto, hst, hu, hg, ht5, -getM, getM_hit, getM_miss, getM_none])))))) | (refine aw_cond (b := _) (by exact rfl) (fun h => ?_) (fun h => ?_) <;> (try simp at h)) | (refine aw_block ?_) | (refine aw_skip ?_; simp only [thenQ, blockQ, if_true]) | (refine aw_exit ?_; simp [thenQ, blockQ]) | (refine aw_ret ?_; simp only [thenQ, blockQ]) | (refine aw_round ?_) | (refine hK _ ?_; clear hK) | (clear hK; refine hK _ ?_; clear hK) | (clear hK; clear hK; refine hK _ ?_; clear hK) | (clear hK; clear hK; clear hK; refine hK _ ?_; clear hK))
                      refine ⟨t + 1, ?_, by omega, by omega⟩
                      exact le_of2 (by simp) (by simp [AVle, AV.under, AV.underL] <;> omega) (by simp [AOle, AO.under, AV.underL, AV.under] <;> omega)
                    · have ht5 : ¬ (t : Int) < 8 := by omega
                      repeat' (first | (apply aw_seq_k; intro K hK) | (refine aw_run hc (by first | exact aw_nod | (intro _; rw [ordB_w hw]; kernel_rfl) | (intro _; kernel_rfl)) ?_; simp [List.zipIdx, bits64, lf_len, hu, ht5, -getM, getM_hit, getM_miss, getM_none]; (repeat (simp (disch := first | omega | assumption | fail) only [if_pos, if_neg, wrap64]; try simp [List.zipIdx, bits64, lf_len, hu, ht5, -getM, getM_hit, getM_miss, getM_none])); try (repeat' (refine guardQ_split (fun h => ?_) (fun h => ?_) <;> simp at h <;> (simp [List.zipIdx, bits64, lf_len, hu, ht5, -getM, getM_hit, getM_miss, getM_none]; (repeat (simp (disch := first | omega | assumption | fail) only [if_pos, if_neg, wrap64]; try simp [List.zipIdx, bits64, lf_len, hu, ht5, -getM, getM_hit, getM_miss, getM_none])))))) | (refine aw_cond (b := _) (by exact rfl) (fun h => ?_) (fun h => ?_) <;> (try simp at h)) | (refine aw_block ?_) | (refine aw_skip ?_; simp only [thenQ, blockQ, if_true]) | (refine aw_exit ?_; simp [thenQ, blockQ]) | (refine aw_ret ?_; simp only [thenQ, blockQ]) | (refine aw_round ?_) | (refine hK _ ?_; clear hK) | (clear hK; refine hK _ ?_; clear hK) | (clear hK; clear hK; refine hK _ ?_; clear hK) | (clear hK; clear hK; clear hK; refine hK _ ?_; clear hK))
                      obtain rfl : t = 8 := by omega
                      refine ⟨n + 1, ?_, by omega, by omega⟩
                      simp only [Wt_full ht (show (2:Int) ^ 3 = ((8:Nat):Int) from rfl), iL_other (z := z) (S := setOf s) (n := n + 1) (n' := n) (show ¬ 1 + 0 = 4 by omega), iL_other (z := z) (S := setOf s) (n := n + 1) (n' := n) (show ¬ 1 + 1 = 4 by omega), iL_other (z := z) (S := setOf s) (n := n + 1) (n' := n) (show ¬ 1 + 2 = 4 by omega), iL_other (z := z) (S := setOf s) (n := n + 1) (n' := n) (show ¬ 1 + 4 = 4 by omega)]
                      refine le_turn (s1 := ?tus8) (m1 := ?tum8) [] [9, 2, 4, 5, 6, 8] [208, 400, 401, 402, 403, 404, 272, 0, 16] ?tua8 ?tub8 ?tuc8 ?tud8 ?tue8 ?tuf8 ?tug8
                      case tua8 => first | (simp [keepS]; done) | (simp [keepS]; rfl)
                      case tub8 => first | (simp; done) | (simp; rfl)
                      case tuc8 => simp
                      case tud8 => simp
                      case tue8 => simp
                      case tuf8 => simp
                      case tug8 =>
                        simp [swp, vr]
                        exact le_of2 (by simp) (by simp [AVle, AV.under, AV.underL] <;> omega) (by simp [AOle, AO.under, AV.underL, AV.under] <;> omega)
                · rw [show ((3 : Nat) : Int) = 3 from rfl] at h58z
                  repeat' (first | (apply aw_seq_k; intro K hK) | (refine aw_run hc (by first | exact aw_nod | (intro _; rw [ordB_w hw]; kernel_rfl) | (intro _; kernel_rfl)) ?_; simp [List.zipIdx, h47, h58, h47z, hnc, hi, ht, take_lf, h58z, -getM, getM_hit, getM_miss, getM_none]; (repeat (simp (disch := first | omega | assumption | fail) only [if_pos, if_neg, wrap64]; try simp [List.zipIdx, h47, h58, h47z, hnc, hi, ht, take_lf, h58z, -getM, getM_hit, getM_miss, getM_none])); try (repeat' (refine guardQ_split (fun h => ?_) (fun h => ?_) <;> simp at h <;> (simp [List.zipIdx, h47, h58, h47z, hnc, hi, ht, take_lf, h58z, -getM, getM_hit, getM_miss, getM_none]; (repeat (simp (disch := first | omega | assumption | fail) only [if_pos, if_neg, wrap64]; try simp [List.zipIdx, h47, h58, h47z, hnc, hi, ht, take_lf, h58z, -getM, getM_hit, getM_miss, getM_none])))))) | (refine aw_cond (b := _) (by exact rfl) (fun h => ?_) (fun h => ?_) <;> (try simp at h)) | (refine aw_block ?_) | (refine aw_skip ?_; simp only [thenQ, blockQ, if_true]) | (refine aw_exit ?_; simp [thenQ, blockQ]) | (refine aw_ret ?_; simp only [thenQ, blockQ]) | (refine aw_round ?_) | (refine hK _ ?_; clear hK) | (clear hK; refine hK _ ?_; clear hK) | (clear hK; clear hK; refine hK _ ?_; clear hK) | (clear hK; clear hK; clear hK; refine hK _ ?_; clear hK))
                  refine ⟨n + 1, ?_, by omega, by omega⟩
                  simp only [iL_stay (show 1 + 3 = 4 from rfl) ht, lf_stay ht]
                  exact le_of2 (by simp) (by simp [AVle, AV.under, AV.underL] <;> omega) (by simp [AOle, AO.under, AV.underL, AV.under] <;> omega)
                · repeat' (first | (apply aw_seq_k; intro K hK) | (refine aw_run hc (by first | exact aw_nod | (intro _; rw [ordB_w hw]; kernel_rfl) | (intro _; kernel_rfl)) ?_; simp [List.zipIdx, h47, h58, h47z, hnc, hi, ht, take_lf, -getM, getM_hit, getM_miss, getM_none]; (repeat (simp (disch := first | omega | assumption | fail) only [if_pos, if_neg, wrap64]; try simp [List.zipIdx, h47, h58, h47z, hnc, hi, ht, take_lf, -getM, getM_hit, getM_miss, getM_none])); try (repeat' (refine guardQ_split (fun h => ?_) (fun h => ?_) <;> simp at h <;> (simp [List.zipIdx, h47, h58, h47z, hnc, hi, ht, take_lf, -getM, getM_hit, getM_miss, getM_none]; (repeat (simp (disch := first | omega | assumption | fail) only [if_pos, if_neg, wrap64]; try simp [List.zipIdx, h47, h58, h47z, hnc, hi, ht, take_lf, -getM, getM_hit, getM_miss, getM_none])))))) | (refine aw_cond (b := _) (by exact rfl) (fun h => ?_) (fun h => ?_) <;> (try simp at h)) | (refine aw_block ?_) | (refine aw_skip ?_; simp only [thenQ, blockQ, if_true]) | (refine aw_exit ?_; simp [thenQ, blockQ]) | (refine aw_ret ?_; simp only [thenQ, blockQ]) | (refine aw_round ?_) | (refine hK _ ?_; clear hK) | (clear hK; refine hK _ ?_; clear hK) | (clear hK; clear hK; refine hK _ ?_; clear hK) | (clear hK; clear hK; clear hK; refine hK _ ?_; clear hK))
                  refine ⟨n + 1, ?_, by omega, by omega⟩
                  simp only [iL_stay (show 1 + 3 = 4 from rfl) ht, lf_stay ht]
                  exact le_of2 (by simp) (by simp [AVle, AV.under, AV.underL] <;> omega) (by simp [AOle, AO.under, AV.underL, AV.under] <;> omega)
          · repeat' (first | (apply aw_seq_k; intro K hK) | (refine aw_run hc (by first | exact aw_nod | (intro _; rw [ordB_w hw]; kernel_rfl) | (intro _; kernel_rfl)) ?_; simp [List.zipIdx, -getM, getM_hit, getM_miss, getM_none]; (repeat (simp (disch := first | omega | assumption | fail) only [if_pos, if_neg, wrap64]; try simp [List.zipIdx, -getM, getM_hit, getM_miss, getM_none])); try (repeat' (refine guardQ_split (fun h => ?_) (fun h => ?_) <;> simp at h <;> (simp [List.zipIdx, -getM, getM_hit, getM_miss, getM_none]; (repeat (simp (disch := first | omega | assumption | fail) only [if_pos, if_neg, wrap64]; try simp [List.zipIdx, -getM, getM_hit, getM_miss, getM_none])))))) | (refine aw_cond (b := _) (by exact rfl) (fun h => ?_) (fun h => ?_) <;> (try simp at h)) | (refine aw_block ?_) | (refine aw_skip ?_; simp only [thenQ, blockQ, if_true]) | (refine aw_exit ?_; simp [thenQ, blockQ]) | (refine aw_ret ?_; simp only [thenQ, blockQ]) | (refine aw_round ?_) | (refine hK _ ?_; clear hK) | (clear hK; refine hK _ ?_; clear hK) | (clear hK; clear hK; refine hK _ ?_; clear hK) | (clear hK; clear hK; clear hK; refine hK _ ?_; clear hK))
            have hlb := left_begin (z := z) (s := s) (show 2 + 2 = 4 from rfl)
            simp only [hlb]
            refine aw_loopK (s0 := ?lps9) (m0 := ?lpm9) (ι := {n : Nat // (n : Int) ≤ z.count}) [2, 4, 5, 6, 8] (fun n => [(9, I (z.start + (n.1 : Int)))]) (fun n => [(208, .box [I z.node, I z.kind, I z.start, I z.count, I z.least, .sl 400 1 1 0 (iL z (setOf s) 2 n.1 0).length, .sl 401 1 1 0 (iL z (setOf s) 2 n.1 1).length, .sl 402 1 1 0 (iL z (setOf s) 2 n.1 2).length, .sl 403 1 1 0 (iL z (setOf s) 2 n.1 3).length, .sl 404 1 1 0 (iL z (setOf s) 2 n.1 4).length]), (400, .vec 1 1 false (irows (iL z (setOf s) 2 n.1 0))), (401, .vec 1 1 false (irows (iL z (setOf s) 2 n.1 1))), (402, .vec 1 1 false (irows (iL z (setOf s) 2 n.1 2))), (403, .vec 1 1 false (irows (iL z (setOf s) 2 n.1 3))), (404, .vec 1 1 false (irows (iL z (setOf s) 2 n.1 4))), (272, .vec 1 1 false (irows (lf s (Rkn z (setOf s) 2 n.1))))]) (fun n => z.count.toNat - n.1) ⟨0, by omega⟩ ?lhs9 ?lhm9 ?_ ?_
            case lhs9 => first | (simp [keepS]; done) | (simp [keepS]; rfl)
            case lhm9 => first | rfl | (simp; done) | (simp; rfl)
            · simp only [iL_zero]
              exact le_of2 (by simp) (by simp [AVle, AV.under, AV.underL] <;> omega) (by simp [AOle, AO.under, AV.underL, AV.under] <;> omega)
            · rintro ⟨n, hn⟩
              simp only
              have hzz := hz
              unfold rangesZ at hzz
              rcases Decidable.em (¬ (n : Int) < z.count) with hnc | hnc
              · repeat' (first | (apply aw_seq_k; intro K hK) | (refine aw_run hc (by first | exact aw_nod | (intro _; rw [ordB_w hw]; kernel_rfl) | (intro _; kernel_rfl)) ?_; simp [List.zipIdx, hnc, -getM, getM_hit, getM_miss, getM_none]; (repeat (simp (disch := first | omega | assumption | fail) only [if_pos, if_neg, wrap64]; try simp [List.zipIdx, hnc, -getM, getM_hit, getM_miss, getM_none])); try (repeat' (refine guardQ_split (fun h => ?_) (fun h => ?_) <;> simp at h <;> (simp [List.zipIdx, hnc, -getM, getM_hit, getM_miss, getM_none]; (repeat (simp (disch := first | omega | assumption | fail) only [if_pos, if_neg, wrap64]; try simp [List.zipIdx, hnc, -getM, getM_hit, getM_miss, getM_none])))))) | (refine aw_cond (b := _) (by exact rfl) (fun h => ?_) (fun h => ?_) <;> (try simp at h)) | (refine aw_block ?_) | (refine aw_skip ?_; simp only [thenQ, blockQ, if_true]) | (refine aw_exit ?_; simp [thenQ, blockQ]) | (refine aw_ret ?_; simp only [thenQ, blockQ]) | (refine aw_round ?_) | (refine hK _ ?_; clear hK) | (clear hK; refine hK _ ?_; clear hK) | (clear hK; clear hK; refine hK _ ?_; clear hK) | (clear hK; clear hK; clear hK; refine hK _ ?_; clear hK))
                obtain rfl : n = z.count.toNat := by omega
                refine ⟨3, ?_, by omega, by omega⟩
                simp only [iL_done, left_end hz1 (show 2 + 2 = 4 from rfl)]
                exact le_of2 (by simp) (by simp [AVle, AV.under, AV.underL] <;> omega) (by simp [AOle, AO.under, AV.underL, AV.under] <;> omega)
              · replace hnc := Decidable.not_not.1 hnc
                have h47z := F47_at (z := z) (f := z.start + n) (o := 2) hz
                rcases w_facts (n := n) (k := 2) hz hs (by omega) (by omega) hF58 with ⟨hi, ht, h58z⟩ | ⟨hi, ht, h58z⟩ | ⟨hi, ht⟩
                · rw [show ((2 : Nat) : Int) = 2 from rfl] at h58z
                  have hil := iL_len (z := z) (S := setOf s) (n := n) (show 2 + 2 = 4 from rfl)
                  have hil2 : (iL z (setOf s) 2 n 2).length ≤ 1073741823 := by omega
                  have hia := iL_yes (z := z) (S := setOf s) (n := n) (show 2 + 2 = 4 from rfl) ht
                  have hia2 : (iL z (setOf s) 2 n 2).length + 1 = (iL z (setOf s) 2 (n + 1) 2).length := by rw [← hia]; simp
                  have hb := inside_bounds hz hi
                  rw [show (2:Int) ^ 2 = 4 from rfl] at hb
                  simp only [show lf s (Rkn z (setOf s) 2 n) = lf s (Wt z (setOf s) 2 n 0) from Wt_zero] at h58z ⊢
                  repeat' (first | (apply aw_seq_k; intro K hK) | (refine aw_run hc (by first | exact aw_nod | (intro _; rw [ordB_w hw]; kernel_rfl) | (intro _; kernel_rfl)) ?_; simp [List.zipIdx, h47, h58, h47z, hnc, hi, ht, take_lf, h58z, hil2, take_irows, irows_snoc, hia, hia2, bits64, -getM, getM_hit, getM_miss, getM_none]; (repeat (simp (disch := first | omega | assumption | fail) only [if_pos, if_neg, wrap64]; try simp [List.zipIdx, h47, h58, h47z, hnc, hi, ht, take_lf, h58z, hil2, take_irows, irows_snoc, hia, hia2, bits64, -getM, getM_hit, getM_miss, getM_none])); try (repeat' (refine guardQ_split (fun h => ?_) (fun h => ?_) <;> simp at h <;> (simp [List.zipIdx, h47, h58, h47z, hnc, hi, ht, take_lf, h58z, hil2, take_irows, irows_snoc, hia, hia2, bits64, -getM, getM_hit, getM_miss, getM_none]; (repeat (simp (disch := first | omega | assumption | fail) only [if_pos, if_neg, wrap64]; try simp [List.zipIdx, h47, h58, h47z, hnc, hi, ht, take_lf, h58z, hil2, take_irows, irows_snoc, hia, hia2, bits64, -getM, getM_hit, getM_miss, getM_none])))))) | (refine aw_cond (b := _) (by exact rfl) (fun h => ?_) (fun h => ?_) <;> (try simp at h)) | (refine aw_block ?_) | (refine aw_skip ?_; simp only [thenQ, blockQ, if_true]) | (refine aw_exit ?_; simp [thenQ, blockQ]) | (refine aw_ret ?_; simp only [thenQ, blockQ]) | (refine aw_round ?_) | (refine hK _ ?_; clear hK) | (clear hK; refine hK _ ?_; clear hK) | (clear hK; clear hK; refine hK _ ?_; clear hK) | (clear hK; clear hK; clear hK; refine hK _ ?_; clear hK))
                  refine aw_loopK (s0 := ?lps10) (m0 := ?lpm10) (ι := {t : Nat // t ≤ 4}) [2, 4, 5, 6, 8, 9] (fun t => [(10, I (z.start + (n : Int) + (t.1 : Int)))]) (fun t => [(272, .vec 1 1 false (irows (lf s (Wt z (setOf s) 2 n t.1))))]) (fun t => 4 - t.1) ⟨0, by omega⟩ ?lhs10 ?lhm10 ?_ ?_
                  case lhs10 => first | (simp [keepS]; done) | (simp [keepS]; rfl)
                  case lhm10 => first | rfl | (simp; done) | (simp; rfl)
                  · exact le_of2 (by simp) (by simp [AVle, AV.under, AV.underL] <;> omega) (by simp [AOle, AO.under, AV.underL, AV.under] <;> omega)
                  · rintro ⟨t, htt⟩
                    simp only
                    have hst := Wt_set (z := z) (s := s) (k := 2) (n := n) (t := t) hb.1 (by omega)
                    have hto : (z.start + (n : Int) + (t : Int)).toNat = z.start.toNat + n + t := by omega
                    have hu : IntKind.u64.wrap 2 = 2 := by decide
                    rcases Decidable.em (t < 4) with ht4 | ht4
                    · have hg := irows_gi (l := lf s (Wt z (setOf s) 2 n t)) (n := z.start.toNat + n + t) (by simp; omega)
                      have ht5 : (t : Int) < 4 := by omega
                      repeat' (first | (apply aw_seq_k; intro K hK) | (refine aw_run hc (by first | exact aw_nod | (intro _; rw [ordB_w hw]; kernel_rfl) | (intro _; kernel_rfl)) ?_; simp [List.zipIdx, bits64, lf_len, hto, hst, hu, hg, ht5, -getM, getM_hit, getM_miss, getM_none]; (repeat (simp (disch := first | omega | assumption | fail) only [if_pos, if_neg, wrap64]; try simp [List.zipIdx, bits64, lf_len, hto, hst, hu, hg, ht5, -getM, getM_hit, getM_miss, getM_none])); try (repeat' (refine guardQ_split (fun h => ?_) (fun h => ?_) <;> simp at h <;> (simp [List.zipIdx, bits64, lf_len, hto, hst, hu, hg, ht5, -getM, getM_hit, getM_miss, getM_none]; (repeat (simp (disch := first | omega | assumption | fail) only [if_pos, if_neg, wrap64]; try simp [List.zipIdx, bits64, lf_len, hto, hst, hu, hg, ht5, -getM, getM_hit, getM_miss, getM_none])))))) | (refine aw_cond (b := _) (by exact rfl) (fun h => ?_) (fun h => ?_) <;> (try simp at h)) | (refine aw_block ?_) | (refine aw_skip ?_; simp only [thenQ, blockQ, if_true]) | (refine aw_exit ?_; simp [thenQ, blockQ]) | (refine aw_ret ?_; simp only [thenQ, blockQ]) | (refine aw_round ?_) | (refine hK _ ?_; clear hK) | (clear hK; refine hK _ ?_; clear hK) | (clear hK; clear hK; refine hK _ ?_; clear hK) | (clear hK; clear hK; clear hK; refine hK _ ?_; clear hK))
                      refine ⟨t + 1, ?_, by omega, by omega⟩
                      exact le_of2 (by simp) (by simp [AVle, AV.under, AV.underL] <;> omega) (by simp [AOle, AO.under, AV.underL, AV.under] <;> omega)
                    · have ht5 : ¬ (t : Int) < 4 := by omega
                      repeat' (first | (apply aw_seq_k; intro K hK) | (refine aw_run hc (by first | exact aw_nod | (intro _; rw [ordB_w hw]; kernel_rfl) | (intro _; kernel_rfl)) ?_; simp [List.zipIdx, bits64, lf_len, hu, ht5, -getM, getM_hit, getM_miss, getM_none]; (repeat (simp (disch := first | omega | assumption | fail) only [if_pos, if_neg, wrap64]; try simp [List.zipIdx, bits64, lf_len, hu, ht5, -getM, getM_hit, getM_miss, getM_none])); try (repeat' (refine guardQ_split (fun h => ?_) (fun h => ?_) <;> simp at h <;> (simp [List.zipIdx, bits64, lf_len, hu, ht5, -getM, getM_hit, getM_miss, getM_none]; (repeat (simp (disch := first | omega | assumption | fail) only [if_pos, if_neg, wrap64]; try simp [List.zipIdx, bits64, lf_len, hu, ht5, -getM, getM_hit, getM_miss, getM_none])))))) | (refine aw_cond (b := _) (by exact rfl) (fun h => ?_) (fun h => ?_) <;> (try simp at h)) | (refine aw_block ?_) | (refine aw_skip ?_; simp only [thenQ, blockQ, if_true]) | (refine aw_exit ?_; simp [thenQ, blockQ]) | (refine aw_ret ?_; simp only [thenQ, blockQ]) | (refine aw_round ?_) | (refine hK _ ?_; clear hK) | (clear hK; refine hK _ ?_; clear hK) | (clear hK; clear hK; refine hK _ ?_; clear hK) | (clear hK; clear hK; clear hK; refine hK _ ?_; clear hK))
                      obtain rfl : t = 4 := by omega
                      refine ⟨n + 1, ?_, by omega, by omega⟩
                      simp only [Wt_full ht (show (2:Int) ^ 2 = ((4:Nat):Int) from rfl), iL_other (z := z) (S := setOf s) (n := n + 1) (n' := n) (show ¬ 2 + 0 = 4 by omega), iL_other (z := z) (S := setOf s) (n := n + 1) (n' := n) (show ¬ 2 + 1 = 4 by omega), iL_other (z := z) (S := setOf s) (n := n + 1) (n' := n) (show ¬ 2 + 3 = 4 by omega), iL_other (z := z) (S := setOf s) (n := n + 1) (n' := n) (show ¬ 2 + 4 = 4 by omega)]
                      refine le_turn (s1 := ?tus11) (m1 := ?tum11) [] [9, 2, 4, 5, 6, 8] [208, 400, 401, 402, 403, 404, 272, 0, 16] ?tua11 ?tub11 ?tuc11 ?tud11 ?tue11 ?tuf11 ?tug11
                      case tua11 => first | (simp [keepS]; done) | (simp [keepS]; rfl)
                      case tub11 => first | (simp; done) | (simp; rfl)
                      case tuc11 => simp
                      case tud11 => simp
                      case tue11 => simp
                      case tuf11 => simp
                      case tug11 =>
                        simp [swp, vr]
                        exact le_of2 (by simp) (by simp [AVle, AV.under, AV.underL] <;> omega) (by simp [AOle, AO.under, AV.underL, AV.under] <;> omega)
                · rw [show ((2 : Nat) : Int) = 2 from rfl] at h58z
                  repeat' (first | (apply aw_seq_k; intro K hK) | (refine aw_run hc (by first | exact aw_nod | (intro _; rw [ordB_w hw]; kernel_rfl) | (intro _; kernel_rfl)) ?_; simp [List.zipIdx, h47, h58, h47z, hnc, hi, ht, take_lf, h58z, -getM, getM_hit, getM_miss, getM_none]; (repeat (simp (disch := first | omega | assumption | fail) only [if_pos, if_neg, wrap64]; try simp [List.zipIdx, h47, h58, h47z, hnc, hi, ht, take_lf, h58z, -getM, getM_hit, getM_miss, getM_none])); try (repeat' (refine guardQ_split (fun h => ?_) (fun h => ?_) <;> simp at h <;> (simp [List.zipIdx, h47, h58, h47z, hnc, hi, ht, take_lf, h58z, -getM, getM_hit, getM_miss, getM_none]; (repeat (simp (disch := first | omega | assumption | fail) only [if_pos, if_neg, wrap64]; try simp [List.zipIdx, h47, h58, h47z, hnc, hi, ht, take_lf, h58z, -getM, getM_hit, getM_miss, getM_none])))))) | (refine aw_cond (b := _) (by exact rfl) (fun h => ?_) (fun h => ?_) <;> (try simp at h)) | (refine aw_block ?_) | (refine aw_skip ?_; simp only [thenQ, blockQ, if_true]) | (refine aw_exit ?_; simp [thenQ, blockQ]) | (refine aw_ret ?_; simp only [thenQ, blockQ]) | (refine aw_round ?_) | (refine hK _ ?_; clear hK) | (clear hK; refine hK _ ?_; clear hK) | (clear hK; clear hK; refine hK _ ?_; clear hK) | (clear hK; clear hK; clear hK; refine hK _ ?_; clear hK))
                  refine ⟨n + 1, ?_, by omega, by omega⟩
                  simp only [iL_stay (show 2 + 2 = 4 from rfl) ht, lf_stay ht]
                  exact le_of2 (by simp) (by simp [AVle, AV.under, AV.underL] <;> omega) (by simp [AOle, AO.under, AV.underL, AV.under] <;> omega)
                · repeat' (first | (apply aw_seq_k; intro K hK) | (refine aw_run hc (by first | exact aw_nod | (intro _; rw [ordB_w hw]; kernel_rfl) | (intro _; kernel_rfl)) ?_; simp [List.zipIdx, h47, h58, h47z, hnc, hi, ht, take_lf, -getM, getM_hit, getM_miss, getM_none]; (repeat (simp (disch := first | omega | assumption | fail) only [if_pos, if_neg, wrap64]; try simp [List.zipIdx, h47, h58, h47z, hnc, hi, ht, take_lf, -getM, getM_hit, getM_miss, getM_none])); try (repeat' (refine guardQ_split (fun h => ?_) (fun h => ?_) <;> simp at h <;> (simp [List.zipIdx, h47, h58, h47z, hnc, hi, ht, take_lf, -getM, getM_hit, getM_miss, getM_none]; (repeat (simp (disch := first | omega | assumption | fail) only [if_pos, if_neg, wrap64]; try simp [List.zipIdx, h47, h58, h47z, hnc, hi, ht, take_lf, -getM, getM_hit, getM_miss, getM_none])))))) | (refine aw_cond (b := _) (by exact rfl) (fun h => ?_) (fun h => ?_) <;> (try simp at h)) | (refine aw_block ?_) | (refine aw_skip ?_; simp only [thenQ, blockQ, if_true]) | (refine aw_exit ?_; simp [thenQ, blockQ]) | (refine aw_ret ?_; simp only [thenQ, blockQ]) | (refine aw_round ?_) | (refine hK _ ?_; clear hK) | (clear hK; refine hK _ ?_; clear hK) | (clear hK; clear hK; refine hK _ ?_; clear hK) | (clear hK; clear hK; clear hK; refine hK _ ?_; clear hK))
                  refine ⟨n + 1, ?_, by omega, by omega⟩
                  simp only [iL_stay (show 2 + 2 = 4 from rfl) ht, lf_stay ht]
                  exact le_of2 (by simp) (by simp [AVle, AV.under, AV.underL] <;> omega) (by simp [AOle, AO.under, AV.underL, AV.under] <;> omega)
          · repeat' (first | (apply aw_seq_k; intro K hK) | (refine aw_run hc (by first | exact aw_nod | (intro _; rw [ordB_w hw]; kernel_rfl) | (intro _; kernel_rfl)) ?_; simp [List.zipIdx, -getM, getM_hit, getM_miss, getM_none]; (repeat (simp (disch := first | omega | assumption | fail) only [if_pos, if_neg, wrap64]; try simp [List.zipIdx, -getM, getM_hit, getM_miss, getM_none])); try (repeat' (refine guardQ_split (fun h => ?_) (fun h => ?_) <;> simp at h <;> (simp [List.zipIdx, -getM, getM_hit, getM_miss, getM_none]; (repeat (simp (disch := first | omega | assumption | fail) only [if_pos, if_neg, wrap64]; try simp [List.zipIdx, -getM, getM_hit, getM_miss, getM_none])))))) | (refine aw_cond (b := _) (by exact rfl) (fun h => ?_) (fun h => ?_) <;> (try simp at h)) | (refine aw_block ?_) | (refine aw_skip ?_; simp only [thenQ, blockQ, if_true]) | (refine aw_exit ?_; simp [thenQ, blockQ]) | (refine aw_ret ?_; simp only [thenQ, blockQ]) | (refine aw_round ?_) | (refine hK _ ?_; clear hK) | (clear hK; refine hK _ ?_; clear hK) | (clear hK; clear hK; refine hK _ ?_; clear hK) | (clear hK; clear hK; clear hK; refine hK _ ?_; clear hK))
            have hlb := left_begin (z := z) (s := s) (show 3 + 1 = 4 from rfl)
            simp only [hlb]
            refine aw_loopK (s0 := ?lps12) (m0 := ?lpm12) (ι := {n : Nat // (n : Int) ≤ z.count}) [2, 4, 5, 6, 8] (fun n => [(9, I (z.start + (n.1 : Int)))]) (fun n => [(208, .box [I z.node, I z.kind, I z.start, I z.count, I z.least, .sl 400 1 1 0 (iL z (setOf s) 3 n.1 0).length, .sl 401 1 1 0 (iL z (setOf s) 3 n.1 1).length, .sl 402 1 1 0 (iL z (setOf s) 3 n.1 2).length, .sl 403 1 1 0 (iL z (setOf s) 3 n.1 3).length, .sl 404 1 1 0 (iL z (setOf s) 3 n.1 4).length]), (400, .vec 1 1 false (irows (iL z (setOf s) 3 n.1 0))), (401, .vec 1 1 false (irows (iL z (setOf s) 3 n.1 1))), (402, .vec 1 1 false (irows (iL z (setOf s) 3 n.1 2))), (403, .vec 1 1 false (irows (iL z (setOf s) 3 n.1 3))), (404, .vec 1 1 false (irows (iL z (setOf s) 3 n.1 4))), (272, .vec 1 1 false (irows (lf s (Rkn z (setOf s) 1 n.1))))]) (fun n => z.count.toNat - n.1) ⟨0, by omega⟩ ?lhs12 ?lhm12 ?_ ?_
            case lhs12 => first | (simp [keepS]; done) | (simp [keepS]; rfl)
            case lhm12 => first | rfl | (simp; done) | (simp; rfl)
            · simp only [iL_zero]
              exact le_of2 (by simp) (by simp [AVle, AV.under, AV.underL] <;> omega) (by simp [AOle, AO.under, AV.underL, AV.under] <;> omega)
            · rintro ⟨n, hn⟩
              simp only
              have hzz := hz
              unfold rangesZ at hzz
              rcases Decidable.em (¬ (n : Int) < z.count) with hnc | hnc
              · repeat' (first | (apply aw_seq_k; intro K hK) | (refine aw_run hc (by first | exact aw_nod | (intro _; rw [ordB_w hw]; kernel_rfl) | (intro _; kernel_rfl)) ?_; simp [List.zipIdx, hnc, -getM, getM_hit, getM_miss, getM_none]; (repeat (simp (disch := first | omega | assumption | fail) only [if_pos, if_neg, wrap64]; try simp [List.zipIdx, hnc, -getM, getM_hit, getM_miss, getM_none])); try (repeat' (refine guardQ_split (fun h => ?_) (fun h => ?_) <;> simp at h <;> (simp [List.zipIdx, hnc, -getM, getM_hit, getM_miss, getM_none]; (repeat (simp (disch := first | omega | assumption | fail) only [if_pos, if_neg, wrap64]; try simp [List.zipIdx, hnc, -getM, getM_hit, getM_miss, getM_none])))))) | (refine aw_cond (b := _) (by exact rfl) (fun h => ?_) (fun h => ?_) <;> (try simp at h)) | (refine aw_block ?_) | (refine aw_skip ?_; simp only [thenQ, blockQ, if_true]) | (refine aw_exit ?_; simp [thenQ, blockQ]) | (refine aw_ret ?_; simp only [thenQ, blockQ]) | (refine aw_round ?_) | (refine hK _ ?_; clear hK) | (clear hK; refine hK _ ?_; clear hK) | (clear hK; clear hK; refine hK _ ?_; clear hK) | (clear hK; clear hK; clear hK; refine hK _ ?_; clear hK))
                obtain rfl : n = z.count.toNat := by omega
                refine ⟨4, ?_, by omega, by omega⟩
                simp only [iL_done, left_end hz1 (show 3 + 1 = 4 from rfl)]
                exact le_of2 (by simp) (by simp [AVle, AV.under, AV.underL] <;> omega) (by simp [AOle, AO.under, AV.underL, AV.under] <;> omega)
              · replace hnc := Decidable.not_not.1 hnc
                have h47z := F47_at (z := z) (f := z.start + n) (o := 1) hz
                rcases w_facts (n := n) (k := 1) hz hs (by omega) (by omega) hF58 with ⟨hi, ht, h58z⟩ | ⟨hi, ht, h58z⟩ | ⟨hi, ht⟩
                · rw [show ((1 : Nat) : Int) = 1 from rfl] at h58z
                  have hil := iL_len (z := z) (S := setOf s) (n := n) (show 3 + 1 = 4 from rfl)
                  have hil2 : (iL z (setOf s) 3 n 1).length ≤ 1073741823 := by omega
                  have hia := iL_yes (z := z) (S := setOf s) (n := n) (show 3 + 1 = 4 from rfl) ht
                  have hia2 : (iL z (setOf s) 3 n 1).length + 1 = (iL z (setOf s) 3 (n + 1) 1).length := by rw [← hia]; simp
                  have hb := inside_bounds hz hi
                  rw [show (2:Int) ^ 1 = 2 from rfl] at hb
                  simp only [show lf s (Rkn z (setOf s) 1 n) = lf s (Wt z (setOf s) 1 n 0) from Wt_zero] at h58z ⊢
                  repeat' (first | (apply aw_seq_k; intro K hK) | (refine aw_run hc (by first | exact aw_nod | (intro _; rw [ordB_w hw]; kernel_rfl) | (intro _; kernel_rfl)) ?_; simp [List.zipIdx, h47, h58, h47z, hnc, hi, ht, take_lf, h58z, hil2, take_irows, irows_snoc, hia, hia2, bits64, -getM, getM_hit, getM_miss, getM_none]; (repeat (simp (disch := first | omega | assumption | fail) only [if_pos, if_neg, wrap64]; try simp [List.zipIdx, h47, h58, h47z, hnc, hi, ht, take_lf, h58z, hil2, take_irows, irows_snoc, hia, hia2, bits64, -getM, getM_hit, getM_miss, getM_none])); try (repeat' (refine guardQ_split (fun h => ?_) (fun h => ?_) <;> simp at h <;> (simp [List.zipIdx, h47, h58, h47z, hnc, hi, ht, take_lf, h58z, hil2, take_irows, irows_snoc, hia, hia2, bits64, -getM, getM_hit, getM_miss, getM_none]; (repeat (simp (disch := first | omega | assumption | fail) only [if_pos, if_neg, wrap64]; try simp [List.zipIdx, h47, h58, h47z, hnc, hi, ht, take_lf, h58z, hil2, take_irows, irows_snoc, hia, hia2, bits64, -getM, getM_hit, getM_miss, getM_none])))))) | (refine aw_cond (b := _) (by exact rfl) (fun h => ?_) (fun h => ?_) <;> (try simp at h)) | (refine aw_block ?_) | (refine aw_skip ?_; simp only [thenQ, blockQ, if_true]) | (refine aw_exit ?_; simp [thenQ, blockQ]) | (refine aw_ret ?_; simp only [thenQ, blockQ]) | (refine aw_round ?_) | (refine hK _ ?_; clear hK) | (clear hK; refine hK _ ?_; clear hK) | (clear hK; clear hK; refine hK _ ?_; clear hK) | (clear hK; clear hK; clear hK; refine hK _ ?_; clear hK))
                  refine aw_loopK (s0 := ?lps13) (m0 := ?lpm13) (ι := {t : Nat // t ≤ 2}) [2, 4, 5, 6, 8, 9] (fun t => [(10, I (z.start + (n : Int) + (t.1 : Int)))]) (fun t => [(272, .vec 1 1 false (irows (lf s (Wt z (setOf s) 1 n t.1))))]) (fun t => 2 - t.1) ⟨0, by omega⟩ ?lhs13 ?lhm13 ?_ ?_
                  case lhs13 => first | (simp [keepS]; done) | (simp [keepS]; rfl)
                  case lhm13 => first | rfl | (simp; done) | (simp; rfl)
                  · exact le_of2 (by simp) (by simp [AVle, AV.under, AV.underL] <;> omega) (by simp [AOle, AO.under, AV.underL, AV.under] <;> omega)
                  · rintro ⟨t, htt⟩
                    simp only
                    have hst := Wt_set (z := z) (s := s) (k := 1) (n := n) (t := t) hb.1 (by omega)
                    have hto : (z.start + (n : Int) + (t : Int)).toNat = z.start.toNat + n + t := by omega
                    have hu : IntKind.u64.wrap 1 = 1 := by decide
                    rcases Decidable.em (t < 2) with ht4 | ht4
                    · have hg := irows_gi (l := lf s (Wt z (setOf s) 1 n t)) (n := z.start.toNat + n + t) (by simp; omega)
                      have ht5 : (t : Int) < 2 := by omega
                      repeat' (first | (apply aw_seq_k; intro K hK) | (refine aw_run hc (by first | exact aw_nod | (intro _; rw [ordB_w hw]; kernel_rfl) | (intro _; kernel_rfl)) ?_; simp [List.zipIdx, bits64, lf_len, hto, hst, hu, hg, ht5, -getM, getM_hit, getM_miss, getM_none]; (repeat (simp (disch := first | omega | assumption | fail) only [if_pos, if_neg, wrap64]; try simp [List.zipIdx, bits64, lf_len, hto, hst, hu, hg, ht5, -getM, getM_hit, getM_miss, getM_none])); try (repeat' (refine guardQ_split (fun h => ?_) (fun h => ?_) <;> simp at h <;> (simp [List.zipIdx, bits64, lf_len, hto, hst, hu, hg, ht5, -getM, getM_hit, getM_miss, getM_none]; (repeat (simp (disch := first | omega | assumption | fail) only [if_pos, if_neg, wrap64]; try simp [List.zipIdx, bits64, lf_len, hto, hst, hu, hg, ht5, -getM, getM_hit, getM_miss, getM_none])))))) | (refine aw_cond (b := _) (by exact rfl) (fun h => ?_) (fun h => ?_) <;> (try simp at h)) | (refine aw_block ?_) | (refine aw_skip ?_; simp only [thenQ, blockQ, if_true]) | (refine aw_exit ?_; simp [thenQ, blockQ]) | (refine aw_ret ?_; simp only [thenQ, blockQ]) | (refine aw_round ?_) | (refine hK _ ?_; clear hK) | (clear hK; refine hK _ ?_; clear hK) | (clear hK; clear hK; refine hK _ ?_; clear hK) | (clear hK; clear hK; clear hK; refine hK _ ?_; clear hK))
                      refine ⟨t + 1, ?_, by omega, by omega⟩
                      exact le_of2 (by simp) (by simp [AVle, AV.under, AV.underL] <;> omega) (by simp [AOle, AO.under, AV.underL, AV.under] <;> omega)
                    · have ht5 : ¬ (t : Int) < 2 := by omega
                      repeat' (first | (apply aw_seq_k; intro K hK) | (refine aw_run hc (by first | exact aw_nod | (intro _; rw [ordB_w hw]; kernel_rfl) | (intro _; kernel_rfl)) ?_; simp [List.zipIdx, bits64, lf_len, hu, ht5, -getM, getM_hit, getM_miss, getM_none]; (repeat (simp (disch := first | omega | assumption | fail) only [if_pos, if_neg, wrap64]; try simp [List.zipIdx, bits64, lf_len, hu, ht5, -getM, getM_hit, getM_miss, getM_none])); try (repeat' (refine guardQ_split (fun h => ?_) (fun h => ?_) <;> simp at h <;> (simp [List.zipIdx, bits64, lf_len, hu, ht5, -getM, getM_hit, getM_miss, getM_none]; (repeat (simp (disch := first | omega | assumption | fail) only [if_pos, if_neg, wrap64]; try simp [List.zipIdx, bits64, lf_len, hu, ht5, -getM, getM_hit, getM_miss, getM_none])))))) | (refine aw_cond (b := _) (by exact rfl) (fun h => ?_) (fun h => ?_) <;> (try simp at h)) | (refine aw_block ?_) | (refine aw_skip ?_; simp only [thenQ, blockQ, if_true]) | (refine aw_exit ?_; simp [thenQ, blockQ]) | (refine aw_ret ?_; simp only [thenQ, blockQ]) | (refine aw_round ?_) | (refine hK _ ?_; clear hK) | (clear hK; refine hK _ ?_; clear hK) | (clear hK; clear hK; refine hK _ ?_; clear hK) | (clear hK; clear hK; clear hK; refine hK _ ?_; clear hK))
                      obtain rfl : t = 2 := by omega
                      refine ⟨n + 1, ?_, by omega, by omega⟩
                      simp only [Wt_full ht (show (2:Int) ^ 1 = ((2:Nat):Int) from rfl), iL_other (z := z) (S := setOf s) (n := n + 1) (n' := n) (show ¬ 3 + 0 = 4 by omega), iL_other (z := z) (S := setOf s) (n := n + 1) (n' := n) (show ¬ 3 + 2 = 4 by omega), iL_other (z := z) (S := setOf s) (n := n + 1) (n' := n) (show ¬ 3 + 3 = 4 by omega), iL_other (z := z) (S := setOf s) (n := n + 1) (n' := n) (show ¬ 3 + 4 = 4 by omega)]
                      refine le_turn (s1 := ?tus14) (m1 := ?tum14) [] [9, 2, 4, 5, 6, 8] [208, 400, 401, 402, 403, 404, 272, 0, 16] ?tua14 ?tub14 ?tuc14 ?tud14 ?tue14 ?tuf14 ?tug14
                      case tua14 => first | (simp [keepS]; done) | (simp [keepS]; rfl)
                      case tub14 => first | (simp; done) | (simp; rfl)
                      case tuc14 => simp
                      case tud14 => simp
                      case tue14 => simp
                      case tuf14 => simp
                      case tug14 =>
                        simp [swp, vr]
                        exact le_of2 (by simp) (by simp [AVle, AV.under, AV.underL] <;> omega) (by simp [AOle, AO.under, AV.underL, AV.under] <;> omega)
                · rw [show ((1 : Nat) : Int) = 1 from rfl] at h58z
                  repeat' (first | (apply aw_seq_k; intro K hK) | (refine aw_run hc (by first | exact aw_nod | (intro _; rw [ordB_w hw]; kernel_rfl) | (intro _; kernel_rfl)) ?_; simp [List.zipIdx, h47, h58, h47z, hnc, hi, ht, take_lf, h58z, -getM, getM_hit, getM_miss, getM_none]; (repeat (simp (disch := first | omega | assumption | fail) only [if_pos, if_neg, wrap64]; try simp [List.zipIdx, h47, h58, h47z, hnc, hi, ht, take_lf, h58z, -getM, getM_hit, getM_miss, getM_none])); try (repeat' (refine guardQ_split (fun h => ?_) (fun h => ?_) <;> simp at h <;> (simp [List.zipIdx, h47, h58, h47z, hnc, hi, ht, take_lf, h58z, -getM, getM_hit, getM_miss, getM_none]; (repeat (simp (disch := first | omega | assumption | fail) only [if_pos, if_neg, wrap64]; try simp [List.zipIdx, h47, h58, h47z, hnc, hi, ht, take_lf, h58z, -getM, getM_hit, getM_miss, getM_none])))))) | (refine aw_cond (b := _) (by exact rfl) (fun h => ?_) (fun h => ?_) <;> (try simp at h)) | (refine aw_block ?_) | (refine aw_skip ?_; simp only [thenQ, blockQ, if_true]) | (refine aw_exit ?_; simp [thenQ, blockQ]) | (refine aw_ret ?_; simp only [thenQ, blockQ]) | (refine aw_round ?_) | (refine hK _ ?_; clear hK) | (clear hK; refine hK _ ?_; clear hK) | (clear hK; clear hK; refine hK _ ?_; clear hK) | (clear hK; clear hK; clear hK; refine hK _ ?_; clear hK))
                  refine ⟨n + 1, ?_, by omega, by omega⟩
                  simp only [iL_stay (show 3 + 1 = 4 from rfl) ht, lf_stay ht]
                  exact le_of2 (by simp) (by simp [AVle, AV.under, AV.underL] <;> omega) (by simp [AOle, AO.under, AV.underL, AV.under] <;> omega)
                · repeat' (first | (apply aw_seq_k; intro K hK) | (refine aw_run hc (by first | exact aw_nod | (intro _; rw [ordB_w hw]; kernel_rfl) | (intro _; kernel_rfl)) ?_; simp [List.zipIdx, h47, h58, h47z, hnc, hi, ht, take_lf, -getM, getM_hit, getM_miss, getM_none]; (repeat (simp (disch := first | omega | assumption | fail) only [if_pos, if_neg, wrap64]; try simp [List.zipIdx, h47, h58, h47z, hnc, hi, ht, take_lf, -getM, getM_hit, getM_miss, getM_none])); try (repeat' (refine guardQ_split (fun h => ?_) (fun h => ?_) <;> simp at h <;> (simp [List.zipIdx, h47, h58, h47z, hnc, hi, ht, take_lf, -getM, getM_hit, getM_miss, getM_none]; (repeat (simp (disch := first | omega | assumption | fail) only [if_pos, if_neg, wrap64]; try simp [List.zipIdx, h47, h58, h47z, hnc, hi, ht, take_lf, -getM, getM_hit, getM_miss, getM_none])))))) | (refine aw_cond (b := _) (by exact rfl) (fun h => ?_) (fun h => ?_) <;> (try simp at h)) | (refine aw_block ?_) | (refine aw_skip ?_; simp only [thenQ, blockQ, if_true]) | (refine aw_exit ?_; simp [thenQ, blockQ]) | (refine aw_ret ?_; simp only [thenQ, blockQ]) | (refine aw_round ?_) | (refine hK _ ?_; clear hK) | (clear hK; refine hK _ ?_; clear hK) | (clear hK; clear hK; refine hK _ ?_; clear hK) | (clear hK; clear hK; clear hK; refine hK _ ?_; clear hK))
                  refine ⟨n + 1, ?_, by omega, by omega⟩
                  simp only [iL_stay (show 3 + 1 = 4 from rfl) ht, lf_stay ht]
                  exact le_of2 (by simp) (by simp [AVle, AV.under, AV.underL] <;> omega) (by simp [AOle, AO.under, AV.underL, AV.under] <;> omega)
          · repeat' (first | (apply aw_seq_k; intro K hK) | (refine aw_run hc (by first | exact aw_nod | (intro _; rw [ordB_w hw]; kernel_rfl) | (intro _; kernel_rfl)) ?_; simp [List.zipIdx, -getM, getM_hit, getM_miss, getM_none]; (repeat (simp (disch := first | omega | assumption | fail) only [if_pos, if_neg, wrap64]; try simp [List.zipIdx, -getM, getM_hit, getM_miss, getM_none])); try (repeat' (refine guardQ_split (fun h => ?_) (fun h => ?_) <;> simp at h <;> (simp [List.zipIdx, -getM, getM_hit, getM_miss, getM_none]; (repeat (simp (disch := first | omega | assumption | fail) only [if_pos, if_neg, wrap64]; try simp [List.zipIdx, -getM, getM_hit, getM_miss, getM_none])))))) | (refine aw_cond (b := _) (by exact rfl) (fun h => ?_) (fun h => ?_) <;> (try simp at h)) | (refine aw_block ?_) | (refine aw_skip ?_; simp only [thenQ, blockQ, if_true]) | (refine aw_exit ?_; simp [thenQ, blockQ]) | (refine aw_ret ?_; simp only [thenQ, blockQ]) | (refine aw_round ?_) | (refine hK _ ?_; clear hK) | (clear hK; refine hK _ ?_; clear hK) | (clear hK; clear hK; refine hK _ ?_; clear hK) | (clear hK; clear hK; clear hK; refine hK _ ?_; clear hK))
            have hlb := left_begin (z := z) (s := s) (show 4 + 0 = 4 from rfl)
            simp only [hlb]
            refine aw_loopK (s0 := ?lps15) (m0 := ?lpm15) (ι := {n : Nat // (n : Int) ≤ z.count}) [2, 4, 5, 6, 8] (fun n => [(9, I (z.start + (n.1 : Int)))]) (fun n => [(208, .box [I z.node, I z.kind, I z.start, I z.count, I z.least, .sl 400 1 1 0 (iL z (setOf s) 4 n.1 0).length, .sl 401 1 1 0 (iL z (setOf s) 4 n.1 1).length, .sl 402 1 1 0 (iL z (setOf s) 4 n.1 2).length, .sl 403 1 1 0 (iL z (setOf s) 4 n.1 3).length, .sl 404 1 1 0 (iL z (setOf s) 4 n.1 4).length]), (400, .vec 1 1 false (irows (iL z (setOf s) 4 n.1 0))), (401, .vec 1 1 false (irows (iL z (setOf s) 4 n.1 1))), (402, .vec 1 1 false (irows (iL z (setOf s) 4 n.1 2))), (403, .vec 1 1 false (irows (iL z (setOf s) 4 n.1 3))), (404, .vec 1 1 false (irows (iL z (setOf s) 4 n.1 4))), (272, .vec 1 1 false (irows (lf s (Rkn z (setOf s) 0 n.1))))]) (fun n => z.count.toNat - n.1) ⟨0, by omega⟩ ?lhs15 ?lhm15 ?_ ?_
            case lhs15 => first | (simp [keepS]; done) | (simp [keepS]; rfl)
            case lhm15 => first | rfl | (simp; done) | (simp; rfl)
            · simp only [iL_zero]
              exact le_of2 (by simp) (by simp [AVle, AV.under, AV.underL] <;> omega) (by simp [AOle, AO.under, AV.underL, AV.under] <;> omega)
            · rintro ⟨n, hn⟩
              simp only
              have hzz := hz
              unfold rangesZ at hzz
              rcases Decidable.em (¬ (n : Int) < z.count) with hnc | hnc
              · repeat' (first | (apply aw_seq_k; intro K hK) | (refine aw_run hc (by first | exact aw_nod | (intro _; rw [ordB_w hw]; kernel_rfl) | (intro _; kernel_rfl)) ?_; simp [List.zipIdx, hnc, -getM, getM_hit, getM_miss, getM_none]; (repeat (simp (disch := first | omega | assumption | fail) only [if_pos, if_neg, wrap64]; try simp [List.zipIdx, hnc, -getM, getM_hit, getM_miss, getM_none])); try (repeat' (refine guardQ_split (fun h => ?_) (fun h => ?_) <;> simp at h <;> (simp [List.zipIdx, hnc, -getM, getM_hit, getM_miss, getM_none]; (repeat (simp (disch := first | omega | assumption | fail) only [if_pos, if_neg, wrap64]; try simp [List.zipIdx, hnc, -getM, getM_hit, getM_miss, getM_none])))))) | (refine aw_cond (b := _) (by exact rfl) (fun h => ?_) (fun h => ?_) <;> (try simp at h)) | (refine aw_block ?_) | (refine aw_skip ?_; simp only [thenQ, blockQ, if_true]) | (refine aw_exit ?_; simp [thenQ, blockQ]) | (refine aw_ret ?_; simp only [thenQ, blockQ]) | (refine aw_round ?_) | (refine hK _ ?_; clear hK) | (clear hK; refine hK _ ?_; clear hK) | (clear hK; clear hK; refine hK _ ?_; clear hK) | (clear hK; clear hK; clear hK; refine hK _ ?_; clear hK))
                obtain rfl : n = z.count.toNat := by omega
                refine ⟨5, ?_, by omega, by omega⟩
                simp only [iL_done, left_end hz1 (show 4 + 0 = 4 from rfl)]
                exact le_of2 (by simp) (by simp [AVle, AV.under, AV.underL] <;> omega) (by simp [AOle, AO.under, AV.underL, AV.under] <;> omega)
              · replace hnc := Decidable.not_not.1 hnc
                have h47z := F47_at (z := z) (f := z.start + n) (o := 0) hz
                rcases w_facts (n := n) (k := 0) hz hs (by omega) (by omega) hF58 with ⟨hi, ht, h58z⟩ | ⟨hi, ht, h58z⟩ | ⟨hi, ht⟩
                · rw [show ((0 : Nat) : Int) = 0 from rfl] at h58z
                  have hil := iL_len (z := z) (S := setOf s) (n := n) (show 4 + 0 = 4 from rfl)
                  have hil2 : (iL z (setOf s) 4 n 0).length ≤ 1073741823 := by omega
                  have hia := iL_yes (z := z) (S := setOf s) (n := n) (show 4 + 0 = 4 from rfl) ht
                  have hia2 : (iL z (setOf s) 4 n 0).length + 1 = (iL z (setOf s) 4 (n + 1) 0).length := by rw [← hia]; simp
                  have hb := inside_bounds hz hi
                  rw [show (2:Int) ^ 0 = 1 from rfl] at hb
                  simp only [show lf s (Rkn z (setOf s) 0 n) = lf s (Wt z (setOf s) 0 n 0) from Wt_zero] at h58z ⊢
                  repeat' (first | (apply aw_seq_k; intro K hK) | (refine aw_run hc (by first | exact aw_nod | (intro _; rw [ordB_w hw]; kernel_rfl) | (intro _; kernel_rfl)) ?_; simp [List.zipIdx, h47, h58, h47z, hnc, hi, ht, take_lf, h58z, hil2, take_irows, irows_snoc, hia, hia2, bits64, -getM, getM_hit, getM_miss, getM_none]; (repeat (simp (disch := first | omega | assumption | fail) only [if_pos, if_neg, wrap64]; try simp [List.zipIdx, h47, h58, h47z, hnc, hi, ht, take_lf, h58z, hil2, take_irows, irows_snoc, hia, hia2, bits64, -getM, getM_hit, getM_miss, getM_none])); try (repeat' (refine guardQ_split (fun h => ?_) (fun h => ?_) <;> simp at h <;> (simp [List.zipIdx, h47, h58, h47z, hnc, hi, ht, take_lf, h58z, hil2, take_irows, irows_snoc, hia, hia2, bits64, -getM, getM_hit, getM_miss, getM_none]; (repeat (simp (disch := first | omega | assumption | fail) only [if_pos, if_neg, wrap64]; try simp [List.zipIdx, h47, h58, h47z, hnc, hi, ht, take_lf, h58z, hil2, take_irows, irows_snoc, hia, hia2, bits64, -getM, getM_hit, getM_miss, getM_none])))))) | (refine aw_cond (b := _) (by exact rfl) (fun h => ?_) (fun h => ?_) <;> (try simp at h)) | (refine aw_block ?_) | (refine aw_skip ?_; simp only [thenQ, blockQ, if_true]) | (refine aw_exit ?_; simp [thenQ, blockQ]) | (refine aw_ret ?_; simp only [thenQ, blockQ]) | (refine aw_round ?_) | (refine hK _ ?_; clear hK) | (clear hK; refine hK _ ?_; clear hK) | (clear hK; clear hK; refine hK _ ?_; clear hK) | (clear hK; clear hK; clear hK; refine hK _ ?_; clear hK))
                  refine aw_loopK (s0 := ?lps16) (m0 := ?lpm16) (ι := {t : Nat // t ≤ 1}) [2, 4, 5, 6, 8, 9] (fun t => [(10, I (z.start + (n : Int) + (t.1 : Int)))]) (fun t => [(272, .vec 1 1 false (irows (lf s (Wt z (setOf s) 0 n t.1))))]) (fun t => 1 - t.1) ⟨0, by omega⟩ ?lhs16 ?lhm16 ?_ ?_
                  case lhs16 => first | (simp [keepS]; done) | (simp [keepS]; rfl)
                  case lhm16 => first | rfl | (simp; done) | (simp; rfl)
                  · exact le_of2 (by simp) (by simp [AVle, AV.under, AV.underL] <;> omega) (by simp [AOle, AO.under, AV.underL, AV.under] <;> omega)
                  · rintro ⟨t, htt⟩
                    simp only
                    have hst := Wt_set (z := z) (s := s) (k := 0) (n := n) (t := t) hb.1 (by omega)
                    have hto : (z.start + (n : Int) + (t : Int)).toNat = z.start.toNat + n + t := by omega
                    have hu : IntKind.u64.wrap 0 = 0 := by decide
                    rcases Decidable.em (t < 1) with ht4 | ht4
                    · have hg := irows_gi (l := lf s (Wt z (setOf s) 0 n t)) (n := z.start.toNat + n + t) (by simp; omega)
                      have ht5 : (t : Int) < 1 := by omega
                      repeat' (first | (apply aw_seq_k; intro K hK) | (refine aw_run hc (by first | exact aw_nod | (intro _; rw [ordB_w hw]; kernel_rfl) | (intro _; kernel_rfl)) ?_; simp [List.zipIdx, bits64, lf_len, hto, hst, hu, hg, ht5, -getM, getM_hit, getM_miss, getM_none]; (repeat (simp (disch := first | omega | assumption | fail) only [if_pos, if_neg, wrap64]; try simp [List.zipIdx, bits64, lf_len, hto, hst, hu, hg, ht5, -getM, getM_hit, getM_miss, getM_none])); try (repeat' (refine guardQ_split (fun h => ?_) (fun h => ?_) <;> simp at h <;> (simp [List.zipIdx, bits64, lf_len, hto, hst, hu, hg, ht5, -getM, getM_hit, getM_miss, getM_none]; (repeat (simp (disch := first | omega | assumption | fail) only [if_pos, if_neg, wrap64]; try simp [List.zipIdx, bits64, lf_len, hto, hst, hu, hg, ht5, -getM, getM_hit, getM_miss, getM_none])))))) | (refine aw_cond (b := _) (by exact rfl) (fun h => ?_) (fun h => ?_) <;> (try simp at h)) | (refine aw_block ?_) | (refine aw_skip ?_; simp only [thenQ, blockQ, if_true]) | (refine aw_exit ?_; simp [thenQ, blockQ]) | (refine aw_ret ?_; simp only [thenQ, blockQ]) | (refine aw_round ?_) | (refine hK _ ?_; clear hK) | (clear hK; refine hK _ ?_; clear hK) | (clear hK; clear hK; refine hK _ ?_; clear hK) | (clear hK; clear hK; clear hK; refine hK _ ?_; clear hK))
                      refine ⟨t + 1, ?_, by omega, by omega⟩
                      exact le_of2 (by simp) (by simp [AVle, AV.under, AV.underL] <;> omega) (by simp [AOle, AO.under, AV.underL, AV.under] <;> omega)
                    · have ht5 : ¬ (t : Int) < 1 := by omega
                      repeat' (first | (apply aw_seq_k; intro K hK) | (refine aw_run hc (by first | exact aw_nod | (intro _; rw [ordB_w hw]; kernel_rfl) | (intro _; kernel_rfl)) ?_; simp [List.zipIdx, bits64, lf_len, hu, ht5, -getM, getM_hit, getM_miss, getM_none]; (repeat (simp (disch := first | omega | assumption | fail) only [if_pos, if_neg, wrap64]; try simp [List.zipIdx, bits64, lf_len, hu, ht5, -getM, getM_hit, getM_miss, getM_none])); try (repeat' (refine guardQ_split (fun h => ?_) (fun h => ?_) <;> simp at h <;> (simp [List.zipIdx, bits64, lf_len, hu, ht5, -getM, getM_hit, getM_miss, getM_none]; (repeat (simp (disch := first | omega | assumption | fail) only [if_pos, if_neg, wrap64]; try simp [List.zipIdx, bits64, lf_len, hu, ht5, -getM, getM_hit, getM_miss, getM_none])))))) | (refine aw_cond (b := _) (by exact rfl) (fun h => ?_) (fun h => ?_) <;> (try simp at h)) | (refine aw_block ?_) | (refine aw_skip ?_; simp only [thenQ, blockQ, if_true]) | (refine aw_exit ?_; simp [thenQ, blockQ]) | (refine aw_ret ?_; simp only [thenQ, blockQ]) | (refine aw_round ?_) | (refine hK _ ?_; clear hK) | (clear hK; refine hK _ ?_; clear hK) | (clear hK; clear hK; refine hK _ ?_; clear hK) | (clear hK; clear hK; clear hK; refine hK _ ?_; clear hK))
                      obtain rfl : t = 1 := by omega
                      refine ⟨n + 1, ?_, by omega, by omega⟩
                      simp only [Wt_full ht (show (2:Int) ^ 0 = ((1:Nat):Int) from rfl), iL_other (z := z) (S := setOf s) (n := n + 1) (n' := n) (show ¬ 4 + 1 = 4 by omega), iL_other (z := z) (S := setOf s) (n := n + 1) (n' := n) (show ¬ 4 + 2 = 4 by omega), iL_other (z := z) (S := setOf s) (n := n + 1) (n' := n) (show ¬ 4 + 3 = 4 by omega), iL_other (z := z) (S := setOf s) (n := n + 1) (n' := n) (show ¬ 4 + 4 = 4 by omega)]
                      refine le_turn (s1 := ?tus17) (m1 := ?tum17) [] [9, 2, 4, 5, 6, 8] [208, 400, 401, 402, 403, 404, 272, 0, 16] ?tua17 ?tub17 ?tuc17 ?tud17 ?tue17 ?tuf17 ?tug17
                      case tua17 => first | (simp [keepS]; done) | (simp [keepS]; rfl)
                      case tub17 => first | (simp; done) | (simp; rfl)
                      case tuc17 => simp
                      case tud17 => simp
                      case tue17 => simp
                      case tuf17 => simp
                      case tug17 =>
                        simp [swp, vr]
                        exact le_of2 (by simp) (by simp [AVle, AV.under, AV.underL] <;> omega) (by simp [AOle, AO.under, AV.underL, AV.under] <;> omega)
                · rw [show ((0 : Nat) : Int) = 0 from rfl] at h58z
                  repeat' (first | (apply aw_seq_k; intro K hK) | (refine aw_run hc (by first | exact aw_nod | (intro _; rw [ordB_w hw]; kernel_rfl) | (intro _; kernel_rfl)) ?_; simp [List.zipIdx, h47, h58, h47z, hnc, hi, ht, take_lf, h58z, -getM, getM_hit, getM_miss, getM_none]; (repeat (simp (disch := first | omega | assumption | fail) only [if_pos, if_neg, wrap64]; try simp [List.zipIdx, h47, h58, h47z, hnc, hi, ht, take_lf, h58z, -getM, getM_hit, getM_miss, getM_none])); try (repeat' (refine guardQ_split (fun h => ?_) (fun h => ?_) <;> simp at h <;> (simp [List.zipIdx, h47, h58, h47z, hnc, hi, ht, take_lf, h58z, -getM, getM_hit, getM_miss, getM_none]; (repeat (simp (disch := first | omega | assumption | fail) only [if_pos, if_neg, wrap64]; try simp [List.zipIdx, h47, h58, h47z, hnc, hi, ht, take_lf, h58z, -getM, getM_hit, getM_miss, getM_none])))))) | (refine aw_cond (b := _) (by exact rfl) (fun h => ?_) (fun h => ?_) <;> (try simp at h)) | (refine aw_block ?_) | (refine aw_skip ?_; simp only [thenQ, blockQ, if_true]) | (refine aw_exit ?_; simp [thenQ, blockQ]) | (refine aw_ret ?_; simp only [thenQ, blockQ]) | (refine aw_round ?_) | (refine hK _ ?_; clear hK) | (clear hK; refine hK _ ?_; clear hK) | (clear hK; clear hK; refine hK _ ?_; clear hK) | (clear hK; clear hK; clear hK; refine hK _ ?_; clear hK))
                  refine ⟨n + 1, ?_, by omega, by omega⟩
                  simp only [iL_stay (show 4 + 0 = 4 from rfl) ht, lf_stay ht]
                  exact le_of2 (by simp) (by simp [AVle, AV.under, AV.underL] <;> omega) (by simp [AOle, AO.under, AV.underL, AV.under] <;> omega)
                · repeat' (first | (apply aw_seq_k; intro K hK) | (refine aw_run hc (by first | exact aw_nod | (intro _; rw [ordB_w hw]; kernel_rfl) | (intro _; kernel_rfl)) ?_; simp [List.zipIdx, h47, h58, h47z, hnc, hi, ht, take_lf, -getM, getM_hit, getM_miss, getM_none]; (repeat (simp (disch := first | omega | assumption | fail) only [if_pos, if_neg, wrap64]; try simp [List.zipIdx, h47, h58, h47z, hnc, hi, ht, take_lf, -getM, getM_hit, getM_miss, getM_none])); try (repeat' (refine guardQ_split (fun h => ?_) (fun h => ?_) <;> simp at h <;> (simp [List.zipIdx, h47, h58, h47z, hnc, hi, ht, take_lf, -getM, getM_hit, getM_miss, getM_none]; (repeat (simp (disch := first | omega | assumption | fail) only [if_pos, if_neg, wrap64]; try simp [List.zipIdx, h47, h58, h47z, hnc, hi, ht, take_lf, -getM, getM_hit, getM_miss, getM_none])))))) | (refine aw_cond (b := _) (by exact rfl) (fun h => ?_) (fun h => ?_) <;> (try simp at h)) | (refine aw_block ?_) | (refine aw_skip ?_; simp only [thenQ, blockQ, if_true]) | (refine aw_exit ?_; simp [thenQ, blockQ]) | (refine aw_ret ?_; simp only [thenQ, blockQ]) | (refine aw_round ?_) | (refine hK _ ?_; clear hK) | (clear hK; refine hK _ ?_; clear hK) | (clear hK; clear hK; refine hK _ ?_; clear hK) | (clear hK; clear hK; clear hK; refine hK _ ?_; clear hK))
                  refine ⟨n + 1, ?_, by omega, by omega⟩
                  simp only [iL_stay (show 4 + 0 = 4 from rfl) ht, lf_stay ht]
                  exact le_of2 (by simp) (by simp [AVle, AV.under, AV.underL] <;> omega) (by simp [AOle, AO.under, AV.underL, AV.under] <;> omega)
end Go.AM
