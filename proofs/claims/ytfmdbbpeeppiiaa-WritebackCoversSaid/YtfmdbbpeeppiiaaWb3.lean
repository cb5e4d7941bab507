/- Writeback: Check, both. -/
import Derived.Test.YtfmdbbpeeppiiaaWb2
set_option linter.all false

namespace Go.AM
open Go Go.Proofs

def plc (p : Tp) : Mp := (p.1, p.2.1)
def valD (p : Tp) : Prop := pgN p.1 p.2.1 ∧ 0 ≤ p.2.2
instance (p : Tp) : Decidable (valD p) := by unfold valD; infer_instance
def chkV (l : List Tp) : Prop := ∀ i, i < l.length → valD (gd l i)
open Classical in
noncomputable def chkD (l : List Tp) : Int := if chkV l then (if (l.map plc).Nodup then 0 else 7) else 2
theorem chk_v {l : List Tp} (h : ¬ chkV l) : chkD l = 2 := by unfold chkD; rw [if_neg h]
theorem chk_d {l : List Tp} (h : chkV l) (h2 : ¬ (l.map plc).Nodup) : chkD l = 7 := by unfold chkD; rw [if_pos h, if_neg h2]
theorem chk_z {l : List Tp} (h : chkV l) (h2 : (l.map plc).Nodup) : chkD l = 0 := by unfold chkD; rw [if_pos h, if_pos h2]
theorem chk_zero {l : List Tp} : chkD l = 0 ↔ chkV l ∧ (l.map plc).Nodup := by
  unfold chkD
  by_cases h : chkV l
  · by_cases h2 : (l.map plc).Nodup
    · simp [h, h2]
    · simp [h, h2]
  · simp [h]

/-! The map of the places seen. -/
theorem mset_mem {es : List (List Int × AV)} {q r : List Int} {a : AV} : r ∈ (mset es q a).map (·.1) ↔ r = q ∨ r ∈ es.map (·.1) := by
  induction es with
  | nil => simp [mset]
  | cons e es ih =>
    obtain ⟨k, b⟩ := e
    simp only [mset]
    split
    · rename_i h
      subst h
      simp
    · simp only [List.map_cons, List.mem_cons, ih]
      constructor
      · rintro (h | h | h)
        · exact .inr (.inl h)
        · exact .inl h
        · exact .inr (.inr h)
      · rintro (h | h | h)
        · exact .inr (.inl h)
        · exact .inl h
        · exact .inr (.inr h)
theorem mset_len {es : List (List Int × AV)} {q : List Int} {a : AV} : (mset es q a).length = es.length + if q ∈ es.map (·.1) then 0 else 1 := by
  induction es with
  | nil => simp [mset]
  | cons e es ih =>
    obtain ⟨k, b⟩ := e
    simp only [mset]
    by_cases h : q = k
    · subst h; simp
    · rw [if_neg h]
      simp only [List.length_cons, ih, List.map_cons, List.mem_cons, h, false_or]
      omega
def plk (p : Tp) : List Int := [p.1, p.2.1]
def seenE (l : List Tp) : Nat → List (List Int × AV)
  | 0 => []
  | k + 1 => mset (seenE l k) (plk (gd l k)) (B true)
theorem plk_inj {p q : Tp} : plk p = plk q ↔ plc p = plc q := by simp [plk, plc]
theorem seenE_mem (l : List Tp) {p : Tp} : ∀ {k : Nat}, k ≤ l.length → (plk p ∈ (seenE l k).map (·.1) ↔ plc p ∈ (l.take k).map plc)
  | 0, _ => by simp [seenE]
  | k + 1, h => by
    simp only [seenE, mset_mem, seenE_mem l (k := k) (by omega)]
    rw [take_succ_gd (by omega), List.map_append, List.mem_append]
    simp only [List.map_cons, List.map_nil, List.mem_singleton, plk_inj]
    constructor
    · rintro (h | h)
      · exact .inr h
      · exact .inl h
    · rintro (h | h)
      · exact .inr h
      · exact .inl h
theorem seenE_len (l : List Tp) : ∀ {k : Nat}, k ≤ l.length → (seenE l k).length ≤ k ∧ ((seenE l k).length = k ↔ ((l.take k).map plc).Nodup)
  | 0, _ => by simp [seenE]
  | k + 1, h => by
    obtain ⟨h1, h2⟩ := seenE_len l (k := k) (by omega)
    have hm := seenE_mem l (p := gd l k) (k := k) (by omega)
    simp only [seenE, mset_len]
    rw [take_succ_gd (by omega), List.map_append, List.nodup_append]
    simp only [List.map_cons, List.map_nil, List.mem_singleton]
    by_cases hp : plc (gd l k) ∈ (l.take k).map plc
    · rw [if_pos (hm.2 hp)]
      refine ⟨by omega, ⟨fun e => by omega, fun e => ?_⟩⟩
      exact absurd rfl (e.2.2 _ hp _ rfl)
    · rw [if_neg fun e => hp (hm.1 e)]
      refine ⟨by omega, ⟨fun e => ⟨h2.1 (by omega), by simp, fun a ha b hb e2 => ?_⟩, fun e => by have := h2.2 e.1; omega⟩⟩
      subst hb
      subst e2
      exact hp ha
theorem s14 (X : AX) (hX : XOK Try.prog X) (hw : X.W wT) (he : X.eqs 55 = true) (hwr : X.writes 1000052 = true) (h33 : ∀ a b M n, X.call 33 [I a, I b] M n = some (B (decide (pgN a b)), []))
    (h34 : ∀ a b c M n, X.call 34 [.agg [I a, I b, I c]] M n = some (.agg [I a, I b], [])) :
    PSound Try.prog 14 (specF (ι := {l : List Tp // l.length ≤ 9223372036854775807}) (fun x => [.rd 3 (drows x.1)]) fun x => retOf [I (chkD x.1)]) := by
  refine psound_spec hX mixed Try.func14 rfl fun ⟨l, hl⟩ w0 G => ⟨by show 1 ≤ 33; decide, rfl, ?_⟩
  show AW ⟨Try.prog, X, 33, w0, .pure G⟩ _ _ _
  have hc : Cx.OK ⟨Try.prog, X, 33, w0, .pure G⟩ := ⟨hX, mixed⟩
  simp only at hl ⊢
  repeat' (first | (apply aw_seq_k; intro K hK) | (refine aw_run hc (by first | exact aw_nod | (intro _; rw [ordB_w hw]; kernel_rfl) | (intro _; rw [ordB_w0 hw0]; kernel_rfl) | (intro _; kernel_rfl)) ?_; simp [List.zipIdx, he, -getM, getM_hit, getM_miss, getM_none]; (repeat (simp (disch := first | omega | assumption | fail) only [if_pos, if_neg, wrap64]; try simp [List.zipIdx, he, -getM, getM_hit, getM_miss, getM_none])); try (repeat' (refine guardQ_split (fun h => ?_) (fun h => ?_) <;> simp at h <;> (simp [List.zipIdx, he, -getM, getM_hit, getM_miss, getM_none]; (repeat (simp (disch := first | omega | assumption | fail) only [if_pos, if_neg, wrap64]; try simp [List.zipIdx, he, -getM, getM_hit, getM_miss, getM_none])))))) | (refine aw_cond (b := _) (by exact rfl) (fun h => ?_) (fun h => ?_) <;> (try simp at h)) | (refine aw_block ?_) | (refine aw_skip ?_; simp only [thenQ, blockQ, if_true]) | (refine aw_exit ?_; simp [thenQ, blockQ]) | (refine aw_ret ?_; simp only [thenQ, blockQ]) | (refine aw_round ?_) | (refine hK _ ?_; clear hK) | (clear hK; refine hK _ ?_; clear hK) | (clear hK; clear hK; refine hK _ ?_; clear hK) | (clear hK; clear hK; clear hK; refine hK _ ?_; clear hK))
  refine aw_loopK (s0 := ?lps1) (m0 := ?lpm1) (ι := {i : Nat // i ≤ l.length ∧ ∀ j, j < i → valD (gd l j)}) [0, 3, 7, 8] (fun i => [(9, I i.1)]) (fun i => [(16, .map 1 2 (seenE l i.1))]) (fun i => l.length - i.1) ⟨0, by omega, by omega⟩ ?lhs1 ?lhm1 ?_ ?_
  case lhs1 => first | (simp [keepS]; done) | (simp [keepS]; rfl)
  case lhm1 => first | rfl | (simp; done) | (simp; rfl)
  · simp only [seenE]
    exact le_of2 (by simp) (by simp [AVle, AV.under, AV.underL] <;> omega) (by simp [AOle, AO.under, AV.underL, AV.under] <;> omega)
  · rintro ⟨i, hi, hinv⟩
    simp only
    rcases Decidable.em (i < l.length) with hil | hil
    · have hilI : (i : Int) < (l.length : Int) := by omega
      have hg := drows_gi hil
      have hgE := drows_gE hil
      have hnx : seenE l (i + 1) = mset (seenE l i) (plk (gd l i)) (B true) := rfl
      obtain ⟨S, hS⟩ : ∃ S, S = seenE l i := ⟨_, rfl⟩
      rw [← hS] at hnx ⊢
      obtain ⟨⟨x, y, z⟩, hm⟩ : ∃ m, m = gd l i := ⟨_, rfl⟩
      rw [← hm] at hg hgE hnx
      simp only [plk] at hg hgE hnx
      rcases Decidable.em (pgN x y) with h1 | h1
      · rcases Decidable.em (z < 0) with h2 | h2
        · have e : ¬ chkV l := fun h => by
            have := (h i hil).2
            rw [← hm] at this
            simp only at this
            omega
          repeat' (first | (apply aw_seq_k; intro K hK) | (refine aw_run hc (by first | exact aw_nod | (intro _; rw [ordB_w hw]; kernel_rfl) | (intro _; rw [ordB_w0 hw0]; kernel_rfl) | (intro _; kernel_rfl)) ?_; simp [List.zipIdx, hilI, hg, hgE, h33, h1, h2, -getM, getM_hit, getM_miss, getM_none]; (repeat (simp (disch := first | omega | assumption | fail) only [if_pos, if_neg, wrap64]; try simp [List.zipIdx, hilI, hg, hgE, h33, h1, h2, -getM, getM_hit, getM_miss, getM_none])); try (repeat' (refine guardQ_split (fun h => ?_) (fun h => ?_) <;> simp at h <;> (simp [List.zipIdx, hilI, hg, hgE, h33, h1, h2, -getM, getM_hit, getM_miss, getM_none]; (repeat (simp (disch := first | omega | assumption | fail) only [if_pos, if_neg, wrap64]; try simp [List.zipIdx, hilI, hg, hgE, h33, h1, h2, -getM, getM_hit, getM_miss, getM_none])))))) | (refine aw_cond (b := _) (by exact rfl) (fun h => ?_) (fun h => ?_) <;> (try simp at h)) | (refine aw_block ?_) | (refine aw_skip ?_; simp only [thenQ, blockQ, if_true]) | (refine aw_exit ?_; simp [thenQ, blockQ]) | (refine aw_ret ?_; simp only [thenQ, blockQ]) | (refine aw_round ?_) | (refine hK _ ?_; clear hK) | (clear hK; refine hK _ ?_; clear hK) | (clear hK; clear hK; refine hK _ ?_; clear hK) | (clear hK; clear hK; clear hK; refine hK _ ?_; clear hK))
          refine ⟨by simp, ?_⟩
          simp [leaves_iff, Try.f14, chk_v e]
          try (first | omega | (refine decide_eq_decide.2 ?_; omega) | (refine decide_eq_false ?_; omega) | (refine decide_eq_true ?_; omega))
        · repeat' (first | (apply aw_seq_k; intro K hK) | (refine aw_run hc (by first | exact aw_nod | (intro _; rw [ordB_w hw]; kernel_rfl) | (intro _; rw [ordB_w0 hw0]; kernel_rfl) | (intro _; kernel_rfl)) ?_; simp [List.zipIdx, hilI, hg, hgE, h33, h34, h1, h2, he, -getM, getM_hit, getM_miss, getM_none]; (repeat (simp (disch := first | omega | assumption | fail) only [if_pos, if_neg, wrap64]; try simp [List.zipIdx, hilI, hg, hgE, h33, h34, h1, h2, he, -getM, getM_hit, getM_miss, getM_none])); try (repeat' (refine guardQ_split (fun h => ?_) (fun h => ?_) <;> simp at h <;> (simp [List.zipIdx, hilI, hg, hgE, h33, h34, h1, h2, he, -getM, getM_hit, getM_miss, getM_none]; (repeat (simp (disch := first | omega | assumption | fail) only [if_pos, if_neg, wrap64]; try simp [List.zipIdx, hilI, hg, hgE, h33, h34, h1, h2, he, -getM, getM_hit, getM_miss, getM_none])))))) | (refine aw_cond (b := _) (by exact rfl) (fun h => ?_) (fun h => ?_) <;> (try simp at h)) | (refine aw_block ?_) | (refine aw_skip ?_; simp only [thenQ, blockQ, if_true]) | (refine aw_exit ?_; simp [thenQ, blockQ]) | (refine aw_ret ?_; simp only [thenQ, blockQ]) | (refine aw_round ?_) | (refine hK _ ?_; clear hK) | (clear hK; refine hK _ ?_; clear hK) | (clear hK; clear hK; refine hK _ ?_; clear hK) | (clear hK; clear hK; clear hK; refine hK _ ?_; clear hK))
          refine ⟨i + 1, ?_, ⟨by omega, fun j hj => ?_⟩, by omega⟩
          · simp only [hnx]
            refine le_turn (s1 := ?tus2) (m1 := ?tum2) [] [0, 3, 7, 8, 9] [16] ?tua2 ?tub2 ?tuc2 ?tud2 ?tue2 ?tuf2 ?tug2
            case tua2 => first | (simp [keepS]; done) | (simp [keepS]; rfl)
            case tub2 => first | (simp; done) | (simp; rfl)
            case tuc2 => simp
            case tud2 => simp
            case tue2 => simp
            case tuf2 => simp
            case tug2 =>
              simp [swp, vr]
              exact le_of2 (by simp) (by simp [AVle, AV.under, AV.underL] <;> omega) (by simp [AOle, AO.under, AV.underL, AV.under] <;> omega)
          · rcases Nat.lt_succ_iff_lt_or_eq.1 hj with h | rfl
            · exact hinv j h
            · rw [← hm]; exact ⟨h1, by simp only; omega⟩
      · have e : ¬ chkV l := fun h => h1 (by
          have := (h i hil).1
          rw [← hm] at this
          exact this)
        repeat' (first | (apply aw_seq_k; intro K hK) | (refine aw_run hc (by first | exact aw_nod | (intro _; rw [ordB_w hw]; kernel_rfl) | (intro _; rw [ordB_w0 hw0]; kernel_rfl) | (intro _; kernel_rfl)) ?_; simp [List.zipIdx, hilI, hg, hgE, h33, h1, -getM, getM_hit, getM_miss, getM_none]; (repeat (simp (disch := first | omega | assumption | fail) only [if_pos, if_neg, wrap64]; try simp [List.zipIdx, hilI, hg, hgE, h33, h1, -getM, getM_hit, getM_miss, getM_none])); try (repeat' (refine guardQ_split (fun h => ?_) (fun h => ?_) <;> simp at h <;> (simp [List.zipIdx, hilI, hg, hgE, h33, h1, -getM, getM_hit, getM_miss, getM_none]; (repeat (simp (disch := first | omega | assumption | fail) only [if_pos, if_neg, wrap64]; try simp [List.zipIdx, hilI, hg, hgE, h33, h1, -getM, getM_hit, getM_miss, getM_none])))))) | (refine aw_cond (b := _) (by exact rfl) (fun h => ?_) (fun h => ?_) <;> (try simp at h)) | (refine aw_block ?_) | (refine aw_skip ?_; simp only [thenQ, blockQ, if_true]) | (refine aw_exit ?_; simp [thenQ, blockQ]) | (refine aw_ret ?_; simp only [thenQ, blockQ]) | (refine aw_round ?_) | (refine hK _ ?_; clear hK) | (clear hK; refine hK _ ?_; clear hK) | (clear hK; clear hK; refine hK _ ?_; clear hK) | (clear hK; clear hK; clear hK; refine hK _ ?_; clear hK))
        refine ⟨by simp, ?_⟩
        simp [leaves_iff, Try.f14, chk_v e]
        try (first | omega | (refine decide_eq_decide.2 ?_; omega) | (refine decide_eq_false ?_; omega) | (refine decide_eq_true ?_; omega))
    · obtain rfl : i = l.length := by omega
      have hV : chkV l := fun i hi => hinv i hi
      obtain ⟨h1, h2⟩ := seenE_len l (Nat.le_refl l.length)
      rw [List.take_length] at h2
      obtain ⟨S, hS⟩ : ∃ S, S = seenE l l.length := ⟨_, rfl⟩
      rw [← hS] at h1 h2 ⊢
      rcases Decidable.em ((S.length : Int) = (l.length : Int)) with h3 | h3
      · have e : chkD l = 0 := chk_z hV (h2.1 (by omega))
        repeat' (first | (apply aw_seq_k; intro K hK) | (refine aw_run hc (by first | exact aw_nod | (intro _; rw [ordB_w hw]; kernel_rfl) | (intro _; rw [ordB_w0 hw0]; kernel_rfl) | (intro _; kernel_rfl)) ?_; simp [List.zipIdx, hwr, h3, -getM, getM_hit, getM_miss, getM_none]; (repeat (simp (disch := first | omega | assumption | fail) only [if_pos, if_neg, wrap64]; try simp [List.zipIdx, hwr, h3, -getM, getM_hit, getM_miss, getM_none])); try (repeat' (refine guardQ_split (fun h => ?_) (fun h => ?_) <;> simp at h <;> (simp [List.zipIdx, hwr, h3, -getM, getM_hit, getM_miss, getM_none]; (repeat (simp (disch := first | omega | assumption | fail) only [if_pos, if_neg, wrap64]; try simp [List.zipIdx, hwr, h3, -getM, getM_hit, getM_miss, getM_none])))))) | (refine aw_cond (b := _) (by exact rfl) (fun h => ?_) (fun h => ?_) <;> (try simp at h)) | (refine aw_block ?_) | (refine aw_skip ?_; simp only [thenQ, blockQ, if_true]) | (refine aw_exit ?_; simp [thenQ, blockQ]) | (refine aw_ret ?_; simp only [thenQ, blockQ]) | (refine aw_round ?_) | (refine hK _ ?_; clear hK) | (clear hK; refine hK _ ?_; clear hK) | (clear hK; clear hK; refine hK _ ?_; clear hK) | (clear hK; clear hK; clear hK; refine hK _ ?_; clear hK))
        refine ⟨by simp, ?_⟩
        simp [leaves_iff, Try.f14, e]
        try (first | omega | (refine decide_eq_decide.2 ?_; omega) | (refine decide_eq_false ?_; omega) | (refine decide_eq_true ?_; omega))
      · have e : chkD l = 7 := chk_d hV fun hh => h3 (by rw [h2.2 hh])
        repeat' (first | (apply aw_seq_k; intro K hK) | (refine aw_run hc (by first | exact aw_nod | (intro _; rw [ordB_w hw]; kernel_rfl) | (intro _; rw [ordB_w0 hw0]; kernel_rfl) | (intro _; kernel_rfl)) ?_; simp [List.zipIdx, hwr, h3, -getM, getM_hit, getM_miss, getM_none]; (repeat (simp (disch := first | omega | assumption | fail) only [if_pos, if_neg, wrap64]; try simp [List.zipIdx, hwr, h3, -getM, getM_hit, getM_miss, getM_none])); try (repeat' (refine guardQ_split (fun h => ?_) (fun h => ?_) <;> simp at h <;> (simp [List.zipIdx, hwr, h3, -getM, getM_hit, getM_miss, getM_none]; (repeat (simp (disch := first | omega | assumption | fail) only [if_pos, if_neg, wrap64]; try simp [List.zipIdx, hwr, h3, -getM, getM_hit, getM_miss, getM_none])))))) | (refine aw_cond (b := _) (by exact rfl) (fun h => ?_) (fun h => ?_) <;> (try simp at h)) | (refine aw_block ?_) | (refine aw_skip ?_; simp only [thenQ, blockQ, if_true]) | (refine aw_exit ?_; simp [thenQ, blockQ]) | (refine aw_ret ?_; simp only [thenQ, blockQ]) | (refine aw_round ?_) | (refine hK _ ?_; clear hK) | (clear hK; refine hK _ ?_; clear hK) | (clear hK; clear hK; refine hK _ ?_; clear hK) | (clear hK; clear hK; clear hK; refine hK _ ?_; clear hK))
        refine ⟨by simp, ?_⟩
        simp [leaves_iff, Try.f14, e]
        try (first | omega | (refine decide_eq_decide.2 ?_; omega) | (refine decide_eq_false ?_; omega) | (refine decide_eq_true ?_; omega))
end Go.AM
