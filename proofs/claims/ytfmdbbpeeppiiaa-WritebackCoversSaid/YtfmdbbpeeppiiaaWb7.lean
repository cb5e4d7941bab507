/- Writeback: Order, Expired and Written of the reference. -/
import Derived.Test.YtfmdbbpeeppiiaaWb6
set_option linter.all false

namespace Go.AM
open Go Go.Proofs

/-- What Expired gives. -/
noncomputable def expR (l : List Tp) (now age : Int) : List Tp × Int :=
  if chkD l = 0 then (if now < 0 ∨ age < 0 then ([], 2) else ((sortG ltD l).filter fun p => !expB now age p, 0)) else ([], chkD l)
theorem expR_n {l : List Tp} {n a : Int} (h : ¬ chkD l = 0) : expR l n a = ([], chkD l) := by unfold expR; rw [if_neg h]
theorem expR_m {l : List Tp} {n a : Int} (h : chkD l = 0) (h1 : n < 0 ∨ a < 0) : expR l n a = ([], 2) := by unfold expR; rw [if_pos h, if_pos h1]
theorem expR_z {l : List Tp} {n a : Int} (h : chkD l = 0) (h1 : ¬ (n < 0 ∨ a < 0)) : expR l n a = ((sortG ltD l).filter fun p => !expB n a p, 0) := by unfold expR; rw [if_pos h, if_neg h1]
theorem filter_snoc {α : Type} (p : α → Bool) (l : List α) (x : α) : (l ++ [x]).filter p = if p x = true then l.filter p ++ [x] else l.filter p := by
  rw [List.filter_append]
  by_cases h : p x = true
  · rw [if_pos h]; simp [h]
  · rw [if_neg h]; simp [h]

noncomputable def F13 : List AV → Option AV := specF (ι := {l : List Tp // l.length ≤ 9223372036854775807}) (fun x => [.rd 3 (drows x.1)]) fun x => retOf [.ow 3 (drows (ordR x.1).1), I (ordR x.1).2]
theorem F13_at (l : List Tp) (h : l.length ≤ 9223372036854775807) : F13 [.rd 3 (drows l)] = some (.tup [.ow 3 (drows (ordR l).1), I (ordR l).2]) :=
  specF_eq (ι := {l : List Tp // l.length ≤ 9223372036854775807}) (A := fun x => [.rd 3 (drows x.1)]) (R := fun x => retOf [.ow 3 (drows (ordR x.1).1), I (ordR x.1).2]) ⟨l, h⟩ (by
    rintro ⟨k, h⟩ e
    simp [drows_inj] at e
    subst e; rfl)

theorem gd_app_left {a b : List Tp} {k : Nat} (h : k < a.length) : gd (a ++ b) k = gd a k := by
  unfold gd; simp [List.getD_eq_getElem?_getD, List.getElem?_append_left h]
/-- Behind all that are not behind it. -/
theorem ins_before {S : List Tp} {p : Tp} {a : Nat} (hS : S.Pairwise (leG ltD)) (ha : a ≤ S.length) (h1 : ∀ j, a ≤ j → j < S.length → ltD p (gd S j)) (h2 : a = 0 ∨ ¬ ltD p (gd S (a - 1))) : insG ltD S p = S.take a ++ p :: S.drop a := by
  refine insG_at (fun y hy => ?_) (fun y hy => ?_)
  · obtain ⟨j, hj, rfl⟩ := List.getElem_of_mem hy
    have hja : j < a := by simp at hj; omega
    rw [List.getElem_take]
    rcases h2 with rfl | h2
    · omega
    · rw [gd_eq (by omega)] at h2
      by_cases e : j = a - 1
      · subst e; exact h2
      · have := List.pairwise_iff_getElem.1 hS j (a - 1) (by omega) (by omega) (by omega)
        intro hh
        unfold leG at this
        rcases stoD.tri S[j] S[a - 1] with h3 | h3 | h3
        · exact h2 (stoD.trans hh h3)
        · rw [h3] at hh; exact h2 hh
        · exact this h3
  · obtain ⟨j, hj, rfl⟩ := List.getElem_of_mem hy
    rw [List.getElem_drop]
    have hj' : a + j < S.length := by simp at hj; omega
    have := h1 (a + j) (by omega) hj'
    rwa [gd_eq hj'] at this

theorem ins_rows {S : List Tp} {R : List AV} {a : Nat} (h : a ≤ S.length) :
    List.take (min a S.length + 1) (List.take (min a S.length) (List.take a (drows S)) ++ [R]) ++ List.take (S.length - a) (List.drop a (drows S)) = drows (S.take a) ++ R :: drows (S.drop a) := by
  rw [Nat.min_eq_left h, List.take_take, Nat.min_self, drows_take, drows_drop, List.take_of_length_le (l := drows (S.take a) ++ [R]) (by simp; omega), List.take_of_length_le (l := drows (S.drop a)) (by simp), List.append_assoc]
  rfl
set_option maxHeartbeats 1000000 in
theorem s13 (X : AX) (hX : XOK Try.prog X) (hw : X.W wT) (h15 : ∀ l : List Tp, l.length ≤ 9223372036854775807 → ∀ M n, X.call 15 [.rd 3 (drows l)] M n = some (I (chkD l), []))
    (h32 : ∀ a b c d e f M n, X.call 32 [.agg [I a, I b, I c], .agg [I d, I e, I f]] M n = some (B (decide (ltD (a, b, c) (d, e, f))), [])) :
    PSound Try.prog 13 (specF (ι := {l : List Tp // l.length ≤ 9223372036854775807}) (fun x => [.rd 3 (drows x.1)]) fun x => retOf [.ow 3 (drows (ordR x.1).1), I (ordR x.1).2]) := by
  refine psound_spec hX mixed Try.func13 rfl fun ⟨l, hl⟩ w0 G => ⟨by show 1 ≤ 53; decide, rfl, ?_⟩
  show AW ⟨Try.prog, X, 53, w0, .pure G⟩ _ _ _
  have hc : Cx.OK ⟨Try.prog, X, 53, w0, .pure G⟩ := ⟨hX, mixed⟩
  simp only at hl ⊢
  have h15' := h15 l hl
  obtain ⟨c, hcc⟩ : ∃ c, c = chkD l := ⟨_, rfl⟩
  rw [← hcc] at h15'
  rcases Decidable.em (c = 0) with h0 | h0
  · have hz : chkD l = 0 := hcc.symm.trans h0
    have hlen := chk_len hz
    rw [ordR_z hz]
    repeat' (first | (apply aw_seq_k; intro K hK) | (refine aw_run hc (by first | exact aw_nod | (intro _; rw [ordB_w hw]; kernel_rfl) | (intro _; rw [ordB_w0 hw0]; kernel_rfl) | (intro _; kernel_rfl)) ?_; simp [List.zipIdx, h15', h0, -getM, getM_hit, getM_miss, getM_none]; (repeat (simp (disch := first | omega | assumption | fail) only [if_pos, if_neg, wrap64]; try simp [List.zipIdx, h15', h0, -getM, getM_hit, getM_miss, getM_none])); try (repeat' (refine guardQ_split (fun h => ?_) (fun h => ?_) <;> simp at h <;> (simp [List.zipIdx, h15', h0, -getM, getM_hit, getM_miss, getM_none]; (repeat (simp (disch := first | omega | assumption | fail) only [if_pos, if_neg, wrap64]; try simp [List.zipIdx, h15', h0, -getM, getM_hit, getM_miss, getM_none])))))) | (refine aw_cond (b := _) (by exact rfl) (fun h => ?_) (fun h => ?_) <;> (try simp at h)) | (refine aw_block ?_) | (refine aw_skip ?_; simp only [thenQ, blockQ, if_true]) | (refine aw_exit ?_; simp [thenQ, blockQ]) | (refine aw_ret ?_; simp only [thenQ, blockQ]) | (refine aw_round ?_) | (refine hK _ ?_; clear hK) | (clear hK; refine hK _ ?_; clear hK) | (clear hK; clear hK; refine hK _ ?_; clear hK) | (clear hK; clear hK; clear hK; refine hK _ ?_; clear hK))
    refine aw_weaken (le_nilslot (t := 5) (sz := 3) (by simp)) ?_
    refine aw_loopK (s0 := ?lps1) (m0 := ?lpm1) (ι := {i : Nat // i ≤ l.length}) [15, 16] (fun i => [(17, I i.1), (5, .sl 176 1 3 0 (sortG ltD (l.take i.1)).length)]) (fun i => [(176, .vec 1 3 false (drows (sortG ltD (l.take i.1))))]) (fun i => l.length - i.1) ⟨0, by omega⟩ ?lhs1 ?lhm1 ?_ ?_
    case lhs1 => first | (simp [keepS]; done) | (simp [keepS]; rfl)
    case lhm1 => first | rfl | (simp; done) | (simp; rfl)
    · simp only [List.take_zero, sortG, List.mergeSort_nil, drows_nil, List.length_nil]
      exact le_of2 (by simp) (by simp [AVle, AV.under, AV.underL] <;> omega) (by simp [AOle, AO.under, AV.underL, AV.under] <;> omega)
    · rintro ⟨i, hi⟩
      simp only
      have hsl : (sortG ltD (l.take i)).length = i := by rw [sortG_len, List.length_take]; omega
      have hso := stoD.sort_sorted (l.take i)
      rcases Decidable.em (i < l.length) with hil | hil
      · have hilI : (i : Int) < (l.length : Int) := by omega
        have hg := drows_gi hil
        have hgE := drows_gE hil
        have hsn := stoD.sort_snoc (l.take i) (gd l i)
        rw [← take_succ_gd hil] at hsn
        obtain ⟨S, hS⟩ : ∃ S, S = sortG ltD (l.take i) := ⟨_, rfl⟩
        rw [← hS] at hsl hso hsn ⊢
        have hib := fun a => ins_before (a := a) (p := gd l i) hso
        obtain ⟨⟨x, y, z⟩, hm⟩ : ∃ m, m = gd l i := ⟨_, rfl⟩
        rw [← hm] at hg hgE hsn hib
        simp only at hg hgE
        repeat' (first | (apply aw_seq_k; intro K hK) | (refine aw_run hc (by first | exact aw_nod | (intro _; rw [ordB_w hw]; kernel_rfl) | (intro _; rw [ordB_w0 hw0]; kernel_rfl) | (intro _; kernel_rfl)) ?_; simp [List.zipIdx, hilI, hg, hgE, -getM, getM_hit, getM_miss, getM_none]; (repeat (simp (disch := first | omega | assumption | fail) only [if_pos, if_neg, wrap64]; try simp [List.zipIdx, hilI, hg, hgE, -getM, getM_hit, getM_miss, getM_none])); try (repeat' (refine guardQ_split (fun h => ?_) (fun h => ?_) <;> simp at h <;> (simp [List.zipIdx, hilI, hg, hgE, -getM, getM_hit, getM_miss, getM_none]; (repeat (simp (disch := first | omega | assumption | fail) only [if_pos, if_neg, wrap64]; try simp [List.zipIdx, hilI, hg, hgE, -getM, getM_hit, getM_miss, getM_none])))))) | (refine aw_cond (b := _) (by exact rfl) (fun h => ?_) (fun h => ?_) <;> (try simp at h)) | (refine aw_block ?_) | (refine aw_skip ?_; simp only [thenQ, blockQ, if_true]) | (refine aw_exit ?_; simp [thenQ, blockQ]) | (refine aw_ret ?_; simp only [thenQ, blockQ]) | (refine aw_round ?_) | (refine hK _ ?_; clear hK) | (clear hK; refine hK _ ?_; clear hK) | (clear hK; clear hK; refine hK _ ?_; clear hK) | (clear hK; clear hK; clear hK; refine hK _ ?_; clear hK))
        refine aw_loopK (s0 := ?lps2) (m0 := ?lpm2) (ι := {a : Nat // a ≤ S.length ∧ ∀ j, a ≤ j → j < S.length → ltD (x, y, z) (gd S j)}) [5, 7, 15, 16, 17] (fun a => [(8, I a.1)]) (fun _ => []) (fun a => a.1) ⟨S.length, by omega, fun j h1 h2 => by omega⟩ ?lhs2 ?lhm2 ?_ ?_
        case lhs2 => first | (simp [keepS]; done) | (simp [keepS]; rfl)
        case lhm2 => first | rfl | (simp; done) | (simp; rfl)
        · exact le_of2 (by simp) (by simp [AVle, AV.under, AV.underL] <;> omega) (by simp [AOle, AO.under, AV.underL, AV.under] <;> omega)
        · rintro ⟨a, ha, hinv⟩
          simp only
          cases a with
          | zero =>
            have e := hib 0 (by omega) hinv (.inl rfl)
            repeat' (first | (apply aw_seq_k; intro K hK) | (refine aw_run hc (by first | exact aw_nod | (intro _; rw [ordB_w hw]; kernel_rfl) | (intro _; rw [ordB_w0 hw0]; kernel_rfl) | (intro _; kernel_rfl)) ?_; simp [List.zipIdx, tkD, -getM, getM_hit, getM_miss, getM_none]; (repeat (simp (disch := first | omega | assumption | fail) only [if_pos, if_neg, wrap64]; try simp [List.zipIdx, tkD, -getM, getM_hit, getM_miss, getM_none])); try (repeat' (refine guardQ_split (fun h => ?_) (fun h => ?_) <;> simp at h <;> (simp [List.zipIdx, tkD, -getM, getM_hit, getM_miss, getM_none]; (repeat (simp (disch := first | omega | assumption | fail) only [if_pos, if_neg, wrap64]; try simp [List.zipIdx, tkD, -getM, getM_hit, getM_miss, getM_none])))))) | (refine aw_cond (b := _) (by exact rfl) (fun h => ?_) (fun h => ?_) <;> (try simp at h)) | (refine aw_block ?_) | (refine aw_skip ?_; simp only [thenQ, blockQ, if_true]) | (refine aw_exit ?_; simp [thenQ, blockQ]) | (refine aw_ret ?_; simp only [thenQ, blockQ]) | (refine aw_round ?_) | (refine hK _ ?_; clear hK) | (clear hK; refine hK _ ?_; clear hK) | (clear hK; clear hK; refine hK _ ?_; clear hK) | (clear hK; clear hK; clear hK; refine hK _ ?_; clear hK))
            have hnx : drows (sortG ltD (l.take (i + 1))) = [I x, I y, I z] :: drows S := by rw [hsn, e]; rfl
            refine ⟨i + 1, ?_, by omega, by omega⟩
            simp only [hnx, show min (i + 1) l.length = 1 + S.length by omega]
            refine le_turn (s1 := ?tus3) (m1 := ?tum3) [(561, 176)] [5, 15, 16, 17] [561] ?tua3 ?tub3 ?tuc3 ?tud3 ?tue3 ?tuf3 ?tug3
            case tua3 => first | (simp [keepS]; done) | (simp [keepS]; rfl)
            case tub3 => first | (simp; done) | (simp; rfl)
            case tuc3 => simp
            case tud3 => simp
            case tue3 => simp
            case tuf3 => simp
            case tug3 =>
              simp [swp, vr]
              exact le_of2 (by simp) (by simp [AVle, AV.under, AV.underL] <;> omega) (by simp [AOle, AO.under, AV.underL, AV.under] <;> omega)
          | succ a =>
            have haI : (0 : Int) < (a : Int) + 1 := by omega
            have haS : a < S.length := by omega
            have haSI : (a : Int) < (S.length : Int) := by omega
            have hga := drows_gi haS
            have hgaE := drows_gE haS
            obtain ⟨⟨u, v, w⟩, hma⟩ : ∃ m, m = gd S a := ⟨_, rfl⟩
            rw [← hma] at hga hgaE
            simp only at hga hgaE
            rcases Decidable.em (ltD (x, y, z) (u, v, w)) with hv | hv
            · repeat' (first | (apply aw_seq_k; intro K hK) | (refine aw_run hc (by first | exact aw_nod | (intro _; rw [ordB_w hw]; kernel_rfl) | (intro _; rw [ordB_w0 hw0]; kernel_rfl) | (intro _; kernel_rfl)) ?_; simp [List.zipIdx, hilI, hg, hgE, hga, hgaE, haSI, haI, h32, hv, -getM, getM_hit, getM_miss, getM_none]; (repeat (simp (disch := first | omega | assumption | fail) only [if_pos, if_neg, wrap64]; try simp [List.zipIdx, hilI, hg, hgE, hga, hgaE, haSI, haI, h32, hv, -getM, getM_hit, getM_miss, getM_none])); try (repeat' (refine guardQ_split (fun h => ?_) (fun h => ?_) <;> simp at h <;> (simp [List.zipIdx, hilI, hg, hgE, hga, hgaE, haSI, haI, h32, hv, -getM, getM_hit, getM_miss, getM_none]; (repeat (simp (disch := first | omega | assumption | fail) only [if_pos, if_neg, wrap64]; try simp [List.zipIdx, hilI, hg, hgE, hga, hgaE, haSI, haI, h32, hv, -getM, getM_hit, getM_miss, getM_none])))))) | (refine aw_cond (b := _) (by exact rfl) (fun h => ?_) (fun h => ?_) <;> (try simp at h)) | (refine aw_block ?_) | (refine aw_skip ?_; simp only [thenQ, blockQ, if_true]) | (refine aw_exit ?_; simp [thenQ, blockQ]) | (refine aw_ret ?_; simp only [thenQ, blockQ]) | (refine aw_round ?_) | (refine hK _ ?_; clear hK) | (clear hK; refine hK _ ?_; clear hK) | (clear hK; clear hK; refine hK _ ?_; clear hK) | (clear hK; clear hK; clear hK; refine hK _ ?_; clear hK))
              refine ⟨a, ?_, ⟨by omega, fun j h1 h2 => ?_⟩, by omega⟩
              · exact le_of2 (by simp) (by simp [AVle, AV.under, AV.underL] <;> omega) (by simp [AOle, AO.under, AV.underL, AV.under] <;> omega)
              · rcases Nat.eq_or_lt_of_le h1 with rfl | h3
                · rw [← hma]; exact hv
                · exact hinv j h3 h2
            · have e := hib (a + 1) ha hinv (.inr (by rw [Nat.add_sub_cancel, ← hma]; exact hv))
              repeat' (first | (apply aw_seq_k; intro K hK) | (refine aw_run hc (by first | exact aw_nod | (intro _; rw [ordB_w hw]; kernel_rfl) | (intro _; rw [ordB_w0 hw0]; kernel_rfl) | (intro _; kernel_rfl)) ?_; simp [List.zipIdx, hilI, hg, hgE, hga, hgaE, haSI, haI, h32, hv, tkD, -getM, getM_hit, getM_miss, getM_none]; (repeat (simp (disch := first | omega | assumption | fail) only [if_pos, if_neg, wrap64]; try simp [List.zipIdx, hilI, hg, hgE, hga, hgaE, haSI, haI, h32, hv, tkD, -getM, getM_hit, getM_miss, getM_none])); try (repeat' (refine guardQ_split (fun h => ?_) (fun h => ?_) <;> simp at h <;> (simp [List.zipIdx, hilI, hg, hgE, hga, hgaE, haSI, haI, h32, hv, tkD, -getM, getM_hit, getM_miss, getM_none]; (repeat (simp (disch := first | omega | assumption | fail) only [if_pos, if_neg, wrap64]; try simp [List.zipIdx, hilI, hg, hgE, hga, hgaE, haSI, haI, h32, hv, tkD, -getM, getM_hit, getM_miss, getM_none])))))) | (refine aw_cond (b := _) (by exact rfl) (fun h => ?_) (fun h => ?_) <;> (try simp at h)) | (refine aw_block ?_) | (refine aw_skip ?_; simp only [thenQ, blockQ, if_true]) | (refine aw_exit ?_; simp [thenQ, blockQ]) | (refine aw_ret ?_; simp only [thenQ, blockQ]) | (refine aw_round ?_) | (refine hK _ ?_; clear hK) | (clear hK; refine hK _ ?_; clear hK) | (clear hK; clear hK; refine hK _ ?_; clear hK) | (clear hK; clear hK; clear hK; refine hK _ ?_; clear hK))
              have hnx : drows (sortG ltD (l.take (i + 1))) = drows (S.take (a + 1)) ++ [I x, I y, I z] :: drows (S.drop (a + 1)) := by rw [hsn, e, ← drows_append]; rfl
              refine ⟨i + 1, ?_, by omega, by omega⟩
              simp only [hnx, ins_rows ha, show min (i + 1) l.length = S.length + 1 by omega, show min (a + 1) S.length + 1 + (S.length - (a + 1)) = S.length + 1 by omega]
              refine le_turn (s1 := ?tus4) (m1 := ?tum4) [(561, 176)] [5, 15, 16, 17] [561] ?tua4 ?tub4 ?tuc4 ?tud4 ?tue4 ?tuf4 ?tug4
              case tua4 => first | (simp [keepS]; done) | (simp [keepS]; rfl)
              case tub4 => first | (simp; done) | (simp; rfl)
              case tuc4 => simp
              case tud4 => simp
              case tue4 => simp
              case tuf4 => simp
              case tug4 =>
                simp [swp, vr]
                exact le_of2 (by simp) (by simp [AVle, AV.under, AV.underL] <;> omega) (by simp [AOle, AO.under, AV.underL, AV.under] <;> omega)
      · obtain rfl : i = l.length := by omega
        rw [List.take_length] at hsl ⊢
        obtain ⟨S, hS⟩ : ∃ S, S = sortG ltD l := ⟨_, rfl⟩
        rw [← hS] at hsl ⊢
        repeat' (first | (apply aw_seq_k; intro K hK) | (refine aw_run hc (by first | exact aw_nod | (intro _; rw [ordB_w hw]; kernel_rfl) | (intro _; rw [ordB_w0 hw0]; kernel_rfl) | (intro _; kernel_rfl)) ?_; simp [List.zipIdx, tkD, -getM, getM_hit, getM_miss, getM_none]; (repeat (simp (disch := first | omega | assumption | fail) only [if_pos, if_neg, wrap64]; try simp [List.zipIdx, tkD, -getM, getM_hit, getM_miss, getM_none])); try (repeat' (refine guardQ_split (fun h => ?_) (fun h => ?_) <;> simp at h <;> (simp [List.zipIdx, tkD, -getM, getM_hit, getM_miss, getM_none]; (repeat (simp (disch := first | omega | assumption | fail) only [if_pos, if_neg, wrap64]; try simp [List.zipIdx, tkD, -getM, getM_hit, getM_miss, getM_none])))))) | (refine aw_cond (b := _) (by exact rfl) (fun h => ?_) (fun h => ?_) <;> (try simp at h)) | (refine aw_block ?_) | (refine aw_skip ?_; simp only [thenQ, blockQ, if_true]) | (refine aw_exit ?_; simp [thenQ, blockQ]) | (refine aw_ret ?_; simp only [thenQ, blockQ]) | (refine aw_round ?_) | (refine hK _ ?_; clear hK) | (clear hK; refine hK _ ?_; clear hK) | (clear hK; clear hK; refine hK _ ?_; clear hK) | (clear hK; clear hK; clear hK; refine hK _ ?_; clear hK))
        refine ⟨by simp, ?_⟩
        simp [leaves_iff, Try.f13]
        try (first | omega | (refine decide_eq_decide.2 ?_; omega) | (refine decide_eq_false ?_; omega) | (refine decide_eq_true ?_; omega))
        rw [hS]
  · rw [ordR_n (by rw [← hcc]; exact h0), ← hcc]
    repeat' (first | (apply aw_seq_k; intro K hK) | (refine aw_run hc (by first | exact aw_nod | (intro _; rw [ordB_w hw]; kernel_rfl) | (intro _; rw [ordB_w0 hw0]; kernel_rfl) | (intro _; kernel_rfl)) ?_; simp [List.zipIdx, h15', h0, -getM, getM_hit, getM_miss, getM_none]; (repeat (simp (disch := first | omega | assumption | fail) only [if_pos, if_neg, wrap64]; try simp [List.zipIdx, h15', h0, -getM, getM_hit, getM_miss, getM_none])); try (repeat' (refine guardQ_split (fun h => ?_) (fun h => ?_) <;> simp at h <;> (simp [List.zipIdx, h15', h0, -getM, getM_hit, getM_miss, getM_none]; (repeat (simp (disch := first | omega | assumption | fail) only [if_pos, if_neg, wrap64]; try simp [List.zipIdx, h15', h0, -getM, getM_hit, getM_miss, getM_none])))))) | (refine aw_cond (b := _) (by exact rfl) (fun h => ?_) (fun h => ?_) <;> (try simp at h)) | (refine aw_block ?_) | (refine aw_skip ?_; simp only [thenQ, blockQ, if_true]) | (refine aw_exit ?_; simp [thenQ, blockQ]) | (refine aw_ret ?_; simp only [thenQ, blockQ]) | (refine aw_round ?_) | (refine hK _ ?_; clear hK) | (clear hK; refine hK _ ?_; clear hK) | (clear hK; clear hK; refine hK _ ?_; clear hK) | (clear hK; clear hK; clear hK; refine hK _ ?_; clear hK))
    refine ⟨by simp, ?_⟩
    simp [leaves_iff, Try.f13, drows_nil]
    try (first | omega | (refine decide_eq_decide.2 ?_; omega) | (refine decide_eq_false ?_; omega) | (refine decide_eq_true ?_; omega))

theorem s20 (X : AX) (hX : XOK Try.prog X) (hw : X.W wT) (h13 : X.call 13 = callP F13) :
    PSound Try.prog 20 (specF (ι := {x : List Tp × Int × Int // x.1.length ≤ 9223372036854775807}) (fun x => [.rd 3 (drows x.1.1), I x.1.2.1, I x.1.2.2]) fun x => retOf [.ow 3 (drows (expR x.1.1 x.1.2.1 x.1.2.2).1), I (expR x.1.1 x.1.2.1 x.1.2.2).2]) := by
  refine psound_spec hX mixed Try.func20 rfl fun ⟨⟨l, n, g⟩, hl⟩ w0 G => ⟨by show 3 ≤ 45; decide, rfl, ?_⟩
  show AW ⟨Try.prog, X, 45, w0, .pure G⟩ _ _ _
  have hc : Cx.OK ⟨Try.prog, X, 45, w0, .pure G⟩ := ⟨hX, mixed⟩
  simp only at hl ⊢
  have hF := F13_at l hl
  rcases Decidable.em (chkD l = 0) with h0 | h0
  · rw [ordR_z h0] at hF
    simp only at hF
    have hlen : (sortG ltD l).length ≤ 64 := by rw [sortG_len]; exact chk_len h0
    rcases Decidable.em (n < 0) with h1 | h1
    · rw [expR_m h0 (.inl h1)]
      repeat' (first | (apply aw_seq_k; intro K hK) | (refine aw_run hc (by first | exact aw_nod | (intro _; rw [ordB_w hw]; kernel_rfl) | (intro _; rw [ordB_w0 hw0]; kernel_rfl) | (intro _; kernel_rfl)) ?_; simp [List.zipIdx, h13, hF, h1, -getM, getM_hit, getM_miss, getM_none]; (repeat (simp (disch := first | omega | assumption | fail) only [if_pos, if_neg, wrap64]; try simp [List.zipIdx, h13, hF, h1, -getM, getM_hit, getM_miss, getM_none])); try (repeat' (refine guardQ_split (fun h => ?_) (fun h => ?_) <;> simp at h <;> (simp [List.zipIdx, h13, hF, h1, -getM, getM_hit, getM_miss, getM_none]; (repeat (simp (disch := first | omega | assumption | fail) only [if_pos, if_neg, wrap64]; try simp [List.zipIdx, h13, hF, h1, -getM, getM_hit, getM_miss, getM_none])))))) | (refine aw_cond (b := _) (by exact rfl) (fun h => ?_) (fun h => ?_) <;> (try simp at h)) | (refine aw_block ?_) | (refine aw_skip ?_; simp only [thenQ, blockQ, if_true]) | (refine aw_exit ?_; simp [thenQ, blockQ]) | (refine aw_ret ?_; simp only [thenQ, blockQ]) | (refine aw_round ?_) | (refine hK _ ?_; clear hK) | (clear hK; refine hK _ ?_; clear hK) | (clear hK; clear hK; refine hK _ ?_; clear hK) | (clear hK; clear hK; clear hK; refine hK _ ?_; clear hK))
      refine ⟨by simp, ?_⟩
      simp [leaves_iff, Try.f20, drows_nil]
      try (first | omega | (refine decide_eq_decide.2 ?_; omega) | (refine decide_eq_false ?_; omega) | (refine decide_eq_true ?_; omega))
    · rcases Decidable.em (g < 0) with h2 | h2
      · rw [expR_m h0 (.inr h2)]
        repeat' (first | (apply aw_seq_k; intro K hK) | (refine aw_run hc (by first | exact aw_nod | (intro _; rw [ordB_w hw]; kernel_rfl) | (intro _; rw [ordB_w0 hw0]; kernel_rfl) | (intro _; kernel_rfl)) ?_; simp [List.zipIdx, h13, hF, h1, h2, -getM, getM_hit, getM_miss, getM_none]; (repeat (simp (disch := first | omega | assumption | fail) only [if_pos, if_neg, wrap64]; try simp [List.zipIdx, h13, hF, h1, h2, -getM, getM_hit, getM_miss, getM_none])); try (repeat' (refine guardQ_split (fun h => ?_) (fun h => ?_) <;> simp at h <;> (simp [List.zipIdx, h13, hF, h1, h2, -getM, getM_hit, getM_miss, getM_none]; (repeat (simp (disch := first | omega | assumption | fail) only [if_pos, if_neg, wrap64]; try simp [List.zipIdx, h13, hF, h1, h2, -getM, getM_hit, getM_miss, getM_none])))))) | (refine aw_cond (b := _) (by exact rfl) (fun h => ?_) (fun h => ?_) <;> (try simp at h)) | (refine aw_block ?_) | (refine aw_skip ?_; simp only [thenQ, blockQ, if_true]) | (refine aw_exit ?_; simp [thenQ, blockQ]) | (refine aw_ret ?_; simp only [thenQ, blockQ]) | (refine aw_round ?_) | (refine hK _ ?_; clear hK) | (clear hK; refine hK _ ?_; clear hK) | (clear hK; clear hK; refine hK _ ?_; clear hK) | (clear hK; clear hK; clear hK; refine hK _ ?_; clear hK))
        refine ⟨by simp, ?_⟩
        simp [leaves_iff, Try.f20, drows_nil]
        try (first | omega | (refine decide_eq_decide.2 ?_; omega) | (refine decide_eq_false ?_; omega) | (refine decide_eq_true ?_; omega))
      · rw [expR_z h0 (by omega)]
        obtain ⟨S, hS⟩ : ∃ S, S = sortG ltD l := ⟨_, rfl⟩
        rw [← hS] at hF hlen ⊢
        repeat' (first | (apply aw_seq_k; intro K hK) | (refine aw_run hc (by first | exact aw_nod | (intro _; rw [ordB_w hw]; kernel_rfl) | (intro _; rw [ordB_w0 hw0]; kernel_rfl) | (intro _; kernel_rfl)) ?_; simp [List.zipIdx, h13, hF, h1, h2, -getM, getM_hit, getM_miss, getM_none]; (repeat (simp (disch := first | omega | assumption | fail) only [if_pos, if_neg, wrap64]; try simp [List.zipIdx, h13, hF, h1, h2, -getM, getM_hit, getM_miss, getM_none])); try (repeat' (refine guardQ_split (fun h => ?_) (fun h => ?_) <;> simp at h <;> (simp [List.zipIdx, h13, hF, h1, h2, -getM, getM_hit, getM_miss, getM_none]; (repeat (simp (disch := first | omega | assumption | fail) only [if_pos, if_neg, wrap64]; try simp [List.zipIdx, h13, hF, h1, h2, -getM, getM_hit, getM_miss, getM_none])))))) | (refine aw_cond (b := _) (by exact rfl) (fun h => ?_) (fun h => ?_) <;> (try simp at h)) | (refine aw_block ?_) | (refine aw_skip ?_; simp only [thenQ, blockQ, if_true]) | (refine aw_exit ?_; simp [thenQ, blockQ]) | (refine aw_ret ?_; simp only [thenQ, blockQ]) | (refine aw_round ?_) | (refine hK _ ?_; clear hK) | (clear hK; refine hK _ ?_; clear hK) | (clear hK; clear hK; refine hK _ ?_; clear hK) | (clear hK; clear hK; clear hK; refine hK _ ?_; clear hK))
        refine aw_weaken (le_nilslot (t := 10) (sz := 3) (by simp)) ?_
        refine aw_loopK (s0 := ?lps5) (m0 := ?lpm5) (ι := {i : Nat // i ≤ S.length}) [1, 2, 27, 28] (fun i => [(29, I i.1), (10, .sl 336 1 3 0 ((S.take i.1).filter fun p => !expB n g p).length)]) (fun i => [(48, .vec 1 3 false (drows S)), (336, .vec 1 3 false (drows ((S.take i.1).filter fun p => !expB n g p)))]) (fun i => S.length - i.1) ⟨0, by omega⟩ ?lhs5 ?lhm5 ?_ ?_
        case lhs5 => first | (simp [keepS]; done) | (simp [keepS]; rfl)
        case lhm5 => first | rfl | (simp; done) | (simp; rfl)
        · simp only [List.take_zero, List.filter_nil, drows_nil, List.length_nil]
          exact le_of2 (by simp) (by simp [AVle, AV.under, AV.underL] <;> omega) (by simp [AOle, AO.under, AV.underL, AV.under] <;> omega)
        · rintro ⟨i, hi⟩
          simp only
          have hOl : ((S.take i).filter fun p => !expB n g p).length ≤ 64 := by
            have := List.length_filter_le (fun p => !expB n g p) (S.take i)
            rw [List.length_take] at this
            omega
          rcases Decidable.em (i < S.length) with hil | hil
          · have hilI : (i : Int) < (S.length : Int) := by omega
            have hg := drows_gi hil
            have hgE := drows_gE hil
            have hsn := filter_snoc (fun p => !expB n g p) (S.take i) (gd S i)
            rw [← take_succ_gd hil] at hsn
            obtain ⟨O, hO⟩ : ∃ O, O = (S.take i).filter fun p => !expB n g p := ⟨_, rfl⟩
            rw [← hO] at hOl hsn ⊢
            obtain ⟨⟨x, y, z⟩, hm⟩ : ∃ m, m = gd S i := ⟨_, rfl⟩
            rw [← hm] at hg hgE hsn
            simp only [expB] at hg hgE hsn
            rcases Decidable.em (IntKind.i64.wrap (n - z) < g) with hv | hv
            · have hv' : ¬ g ≤ IntKind.i64.wrap (n - z) := by omega
              simp only [hv, decide_true, Bool.not_true, Bool.false_eq_true, if_false] at hsn
              repeat' (first | (apply aw_seq_k; intro K hK) | (refine aw_run hc (by first | exact aw_nod | (intro _; rw [ordB_w hw]; kernel_rfl) | (intro _; rw [ordB_w0 hw0]; kernel_rfl) | (intro _; kernel_rfl)) ?_; simp [List.zipIdx, hilI, hg, hgE, hv', -getM, getM_hit, getM_miss, getM_none]; (repeat (simp (disch := first | omega | assumption | fail) only [if_pos, if_neg, wrap64]; try simp [List.zipIdx, hilI, hg, hgE, hv', -getM, getM_hit, getM_miss, getM_none])); try (repeat' (refine guardQ_split (fun h => ?_) (fun h => ?_) <;> simp at h <;> (simp [List.zipIdx, hilI, hg, hgE, hv', -getM, getM_hit, getM_miss, getM_none]; (repeat (simp (disch := first | omega | assumption | fail) only [if_pos, if_neg, wrap64]; try simp [List.zipIdx, hilI, hg, hgE, hv', -getM, getM_hit, getM_miss, getM_none])))))) | (refine aw_cond (b := _) (by exact rfl) (fun h => ?_) (fun h => ?_) <;> (try simp at h)) | (refine aw_block ?_) | (refine aw_skip ?_; simp only [thenQ, blockQ, if_true]) | (refine aw_exit ?_; simp [thenQ, blockQ]) | (refine aw_ret ?_; simp only [thenQ, blockQ]) | (refine aw_round ?_) | (refine hK _ ?_; clear hK) | (clear hK; refine hK _ ?_; clear hK) | (clear hK; clear hK; refine hK _ ?_; clear hK) | (clear hK; clear hK; clear hK; refine hK _ ?_; clear hK))
              refine ⟨i + 1, ?_, by omega, by omega⟩
              simp only [expB, hsn]
              refine le_turn (s1 := ?tus6) (m1 := ?tum6) [] [1, 2, 27, 28, 29, 10] [48, 336] ?tua6 ?tub6 ?tuc6 ?tud6 ?tue6 ?tuf6 ?tug6
              case tua6 => first | (simp [keepS]; done) | (simp [keepS]; rfl)
              case tub6 => first | (simp; done) | (simp; rfl)
              case tuc6 => simp
              case tud6 => simp
              case tue6 => simp
              case tuf6 => simp
              case tug6 =>
                simp [swp, vr]
                exact le_of2 (by simp) (by simp [AVle, AV.under, AV.underL] <;> omega) (by simp [AOle, AO.under, AV.underL, AV.under] <;> omega)
            · have hv' : g ≤ IntKind.i64.wrap (n - z) := by omega
              simp only [hv, decide_false, Bool.not_false, if_true] at hsn
              repeat' (first | (apply aw_seq_k; intro K hK) | (refine aw_run hc (by first | exact aw_nod | (intro _; rw [ordB_w hw]; kernel_rfl) | (intro _; rw [ordB_w0 hw0]; kernel_rfl) | (intro _; kernel_rfl)) ?_; simp [List.zipIdx, hilI, hg, hgE, hv', hOl, dap, tkD, -getM, getM_hit, getM_miss, getM_none]; (repeat (simp (disch := first | omega | assumption | fail) only [if_pos, if_neg, wrap64]; try simp [List.zipIdx, hilI, hg, hgE, hv', hOl, dap, tkD, -getM, getM_hit, getM_miss, getM_none])); try (repeat' (refine guardQ_split (fun h => ?_) (fun h => ?_) <;> simp at h <;> (simp [List.zipIdx, hilI, hg, hgE, hv', hOl, dap, tkD, -getM, getM_hit, getM_miss, getM_none]; (repeat (simp (disch := first | omega | assumption | fail) only [if_pos, if_neg, wrap64]; try simp [List.zipIdx, hilI, hg, hgE, hv', hOl, dap, tkD, -getM, getM_hit, getM_miss, getM_none])))))) | (refine aw_cond (b := _) (by exact rfl) (fun h => ?_) (fun h => ?_) <;> (try simp at h)) | (refine aw_block ?_) | (refine aw_skip ?_; simp only [thenQ, blockQ, if_true]) | (refine aw_exit ?_; simp [thenQ, blockQ]) | (refine aw_ret ?_; simp only [thenQ, blockQ]) | (refine aw_round ?_) | (refine hK _ ?_; clear hK) | (clear hK; refine hK _ ?_; clear hK) | (clear hK; clear hK; refine hK _ ?_; clear hK) | (clear hK; clear hK; clear hK; refine hK _ ?_; clear hK))
              refine ⟨i + 1, ?_, by omega, by omega⟩
              simp only [expB, hsn]
              refine le_turn (s1 := ?tus7) (m1 := ?tum7) [] [1, 2, 27, 28, 29, 10] [48, 336] ?tua7 ?tub7 ?tuc7 ?tud7 ?tue7 ?tuf7 ?tug7
              case tua7 => first | (simp [keepS]; done) | (simp [keepS]; rfl)
              case tub7 => first | (simp; done) | (simp; rfl)
              case tuc7 => simp
              case tud7 => simp
              case tue7 => simp
              case tuf7 => simp
              case tug7 =>
                simp [swp, vr]
                exact le_of2 (by simp) (by simp [AVle, AV.under, AV.underL] <;> omega) (by simp [AOle, AO.under, AV.underL, AV.under] <;> omega)
          · obtain rfl : i = S.length := by omega
            rw [List.take_length] at hOl ⊢
            obtain ⟨O, hO⟩ : ∃ O, O = S.filter fun p => !expB n g p := ⟨_, rfl⟩
            rw [← hO] at hOl ⊢
            repeat' (first | (apply aw_seq_k; intro K hK) | (refine aw_run hc (by first | exact aw_nod | (intro _; rw [ordB_w hw]; kernel_rfl) | (intro _; rw [ordB_w0 hw0]; kernel_rfl) | (intro _; kernel_rfl)) ?_; simp [List.zipIdx, tkD, -getM, getM_hit, getM_miss, getM_none]; (repeat (simp (disch := first | omega | assumption | fail) only [if_pos, if_neg, wrap64]; try simp [List.zipIdx, tkD, -getM, getM_hit, getM_miss, getM_none])); try (repeat' (refine guardQ_split (fun h => ?_) (fun h => ?_) <;> simp at h <;> (simp [List.zipIdx, tkD, -getM, getM_hit, getM_miss, getM_none]; (repeat (simp (disch := first | omega | assumption | fail) only [if_pos, if_neg, wrap64]; try simp [List.zipIdx, tkD, -getM, getM_hit, getM_miss, getM_none])))))) | (refine aw_cond (b := _) (by exact rfl) (fun h => ?_) (fun h => ?_) <;> (try simp at h)) | (refine aw_block ?_) | (refine aw_skip ?_; simp only [thenQ, blockQ, if_true]) | (refine aw_exit ?_; simp [thenQ, blockQ]) | (refine aw_ret ?_; simp only [thenQ, blockQ]) | (refine aw_round ?_) | (refine hK _ ?_; clear hK) | (clear hK; refine hK _ ?_; clear hK) | (clear hK; clear hK; refine hK _ ?_; clear hK) | (clear hK; clear hK; clear hK; refine hK _ ?_; clear hK))
            refine ⟨by simp, ?_⟩
            simp [leaves_iff, Try.f20]
            try (first | omega | (refine decide_eq_decide.2 ?_; omega) | (refine decide_eq_false ?_; omega) | (refine decide_eq_true ?_; omega))
            rw [hO]
  · rw [ordR_n h0] at hF
    simp only at hF
    rw [expR_n h0]
    repeat' (first | (apply aw_seq_k; intro K hK) | (refine aw_run hc (by first | exact aw_nod | (intro _; rw [ordB_w hw]; kernel_rfl) | (intro _; rw [ordB_w0 hw0]; kernel_rfl) | (intro _; kernel_rfl)) ?_; simp [List.zipIdx, h13, hF, h0, -getM, getM_hit, getM_miss, getM_none]; (repeat (simp (disch := first | omega | assumption | fail) only [if_pos, if_neg, wrap64]; try simp [List.zipIdx, h13, hF, h0, -getM, getM_hit, getM_miss, getM_none])); try (repeat' (refine guardQ_split (fun h => ?_) (fun h => ?_) <;> simp at h <;> (simp [List.zipIdx, h13, hF, h0, -getM, getM_hit, getM_miss, getM_none]; (repeat (simp (disch := first | omega | assumption | fail) only [if_pos, if_neg, wrap64]; try simp [List.zipIdx, h13, hF, h0, -getM, getM_hit, getM_miss, getM_none])))))) | (refine aw_cond (b := _) (by exact rfl) (fun h => ?_) (fun h => ?_) <;> (try simp at h)) | (refine aw_block ?_) | (refine aw_skip ?_; simp only [thenQ, blockQ, if_true]) | (refine aw_exit ?_; simp [thenQ, blockQ]) | (refine aw_ret ?_; simp only [thenQ, blockQ]) | (refine aw_round ?_) | (refine hK _ ?_; clear hK) | (clear hK; refine hK _ ?_; clear hK) | (clear hK; clear hK; refine hK _ ?_; clear hK) | (clear hK; clear hK; clear hK; refine hK _ ?_; clear hK))
    refine ⟨by simp, ?_⟩
    simp [leaves_iff, Try.f20, drows_nil]
    try (first | omega | (refine decide_eq_decide.2 ?_; omega) | (refine decide_eq_false ?_; omega) | (refine decide_eq_true ?_; omega))
end Go.AM
