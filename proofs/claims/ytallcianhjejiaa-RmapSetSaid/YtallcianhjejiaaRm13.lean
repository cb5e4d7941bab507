/- Rmap: the law Steps. -/
import Derived.Test.YtallcianhjejiaaRm12
set_option linter.all false

namespace Go.AM
open Go Go.Proofs

@[simp] theorem ty35 : Types Try.prog 35 = some ⟨.slice 37, 1, 24, [.slice none 0 0]⟩ := by kernel_rfl
@[simp] theorem ty37 : Types Try.prog 37 = some ⟨.struct [(0, 4, 1), (1, 24, 2)], 3, 24, [.bool false, .int .i64 0, .int .i64 0]⟩ := by kernel_rfl
abbrev Ops := Bool × Mp
def orows (l : List Ops) : List (List AV) := l.map fun o => [B o.1, I o.2.1, I o.2.2]
def go (l : List Ops) (n : Nat) : Ops := l.getD n (false, 0, 0)
@[simp] theorem orows_length (l : List Ops) : (orows l).length = l.length := by simp [orows]
theorem orows_gi {l : List Ops} {n : Nat} (h : n < l.length) : (orows l)[n]? = some [B (go l n).1, I (go l n).2.1, I (go l n).2.2] := by
  simp [orows, go, List.getD_eq_getElem?_getD, h]
theorem orows_gE {l : List Ops} {n : Nat} (h : n < l.length) : ∀ h', (orows l)[n]'(h') = [B (go l n).1, I (go l n).2.1, I (go l n).2.2] := fun h' => by
  have hg := orows_gi h
  rw [List.getElem?_eq_getElem h'] at hg; exact Option.some.inj hg
theorem go_eq {l : List Ops} {n : Nat} (h : n < l.length) : go l n = l[n] := by
  unfold go
  rw [List.getD_eq_getElem?_getD, List.getElem?_eq_getElem h]; rfl
theorem take_succ_go {l : List Ops} {n : Nat} (h : n < l.length) : l.take (n + 1) = l.take n ++ [go l n] := by
  rw [List.take_succ_eq_append_getElem h, go_eq h]
theorem orows_inj {l m : List Ops} : orows l = orows m ↔ l = m := by
  unfold orows
  constructor
  · intro h
    refine (List.map_inj_right (f := fun o : Ops => [B o.1, I o.2.1, I o.2.2]) ?_).1 h
    rintro ⟨a, b, c⟩ ⟨d, e, f⟩ h
    simp [I, B] at h
    simp [h]
  · rintro rfl; rfl

/-- One step, and a script. -/
noncomputable def opR (l : List Mp) (o : Ops) : List Mp × Int := if o.1 = true then remR l o.2 else addR l o.2
noncomputable def stp (l : List Mp) (o : Ops) : List Mp := if (opR l o).2 = 0 then (opR l o).1 else l
noncomputable def stps (l : List Mp) (os : List Ops) : List Mp := os.foldl stp l
theorem stps_snoc (l : List Mp) (os : List Ops) (o : Ops) : stps l (os ++ [o]) = stp (stps l os) o := by unfold stps; rw [List.foldl_append]; rfl
theorem opR_len (l : List Mp) (o : Ops) : (opR l o).1.length ≤ l.length + 1 := by
  unfold opR
  split
  · have := remR_len l o.2; omega
  · exact addR_len l o.2
theorem stp_len (l : List Mp) (o : Ops) : (stp l o).length ≤ l.length + 1 := by
  unfold stp
  split
  · exact opR_len l o
  · omega
theorem stps_len (l : List Mp) (os : List Ops) : ∀ i, (stps l (os.take i)).length ≤ l.length + i
  | 0 => by simp [stps]
  | i + 1 => by
    have ih := stps_len l os i
    by_cases h : i < os.length
    · rw [take_succ_go h, stps_snoc]
      have := stp_len (stps l (os.take i)) (go os i)
      omega
    · rw [List.take_of_length_le (by omega)] at ih ⊢
      omega

noncomputable def F13r : List AV → Option AV := specF (ι := {x : List Mp × Mp // x.1.length ≤ 1000000}) (fun x => [.rd 2 (prows x.1.1), Mv x.1.2]) fun x => retOf [.rd 2 (prows (addR x.1.1 x.1.2).1), I (addR x.1.1 x.1.2).2]
theorem F13r_at (l : List Mp) (a b : Int) (h : l.length ≤ 1000000) : F13r [.rd 2 (prows l), .agg [I a, I b]] = some (.tup [.rd 2 (prows (addR l (a, b)).1), I (addR l (a, b)).2]) :=
  specF_eq (ι := {x : List Mp × Mp // x.1.length ≤ 1000000}) (A := fun x => [.rd 2 (prows x.1.1), Mv x.1.2]) (R := fun x => retOf [.rd 2 (prows (addR x.1.1 x.1.2).1), I (addR x.1.1 x.1.2).2]) ⟨(l, (a, b)), h⟩ (by
    rintro ⟨⟨k, c⟩, h⟩ e
    simp [prows_inj, Mv_inj] at e
    obtain ⟨rfl, rfl⟩ := e; rfl)
noncomputable def F20r : List AV → Option AV := specF (ι := {x : List Mp × Mp // x.1.length ≤ 1000000}) (fun x => [.rd 2 (prows x.1.1), Mv x.1.2]) fun x => retOf [.rd 2 (prows (remR x.1.1 x.1.2).1), I (remR x.1.1 x.1.2).2]
theorem F20r_at (l : List Mp) (a b : Int) (h : l.length ≤ 1000000) : F20r [.rd 2 (prows l), .agg [I a, I b]] = some (.tup [.rd 2 (prows (remR l (a, b)).1), I (remR l (a, b)).2]) :=
  specF_eq (ι := {x : List Mp × Mp // x.1.length ≤ 1000000}) (A := fun x => [.rd 2 (prows x.1.1), Mv x.1.2]) (R := fun x => retOf [.rd 2 (prows (remR x.1.1 x.1.2).1), I (remR x.1.1 x.1.2).2]) ⟨(l, (a, b)), h⟩ (by
    rintro ⟨⟨k, c⟩, h⟩ e
    simp [prows_inj, Mv_inj] at e
    obtain ⟨rfl, rfl⟩ := e; rfl)

theorem callD_ok {F : List AV → Option AV} {avs : List AV} {r : AV} {M : Nat → AO} {n : Nat} (hF : F avs = some r) (hc : avs.all AV.closedV = true) (ho : openRet n r = (r, [], n)) : callD F avs M n = some (r, []) := by
  simp only [callD]
  rw [if_pos hc, hF]
  simp only [ho]
  rw [if_pos (by omega)]

set_option maxHeartbeats 1000000 in
theorem s6 (X : AX) (hX : XOK Try.prog X) (hw : X.W wT) (h8 : ∀ M n, X.call 8 [] M n = some (B true, [])) (h13 : X.call 13 = callP F13) (h17 : X.call 17 = callP F17) (h20 : X.call 20 = callP F20) (h19 : X.call 19 = callD F13r) (h21 : X.call 21 = callD F20r) :
    PSound Try.prog 6 (specF (ι := List Mp × List Ops) (fun x => [.rd 2 (prows x.1), .rd 3 (orows x.2)]) fun _ => retOf [B true]) := by
  refine psound_spec hX mixed Try.func6 rfl fun ⟨l, os⟩ w0 G => ⟨by show 2 ≤ 73; decide, rfl, ?_⟩
  show AW ⟨Try.prog, X, 73, w0, .pure G⟩ _ _ _
  have hc : Cx.OK ⟨Try.prog, X, 73, w0, .pure G⟩ := ⟨hX, mixed⟩
  simp only
  rcases Decidable.em (40 < (l.length : Int)) with h | h
  · repeat' (first | (apply aw_seq_k; intro K hK) | (refine aw_run hc (by first | exact aw_nod | (intro _; rw [ordB_w hw]; kernel_rfl) | (intro _; rw [ordB_w0 hw0]; kernel_rfl) | (intro _; kernel_rfl)) ?_; simp [List.zipIdx, h8, h, -getM, getM_hit, getM_miss, getM_none]; (repeat (simp (disch := first | omega | assumption | fail) only [if_pos, if_neg, wrap64]; try simp [List.zipIdx, h8, h, -getM, getM_hit, getM_miss, getM_none])); try (repeat' (refine guardQ_split (fun h => ?_) (fun h => ?_) <;> simp at h <;> (simp [List.zipIdx, h8, h, -getM, getM_hit, getM_miss, getM_none]; (repeat (simp (disch := first | omega | assumption | fail) only [if_pos, if_neg, wrap64]; try simp [List.zipIdx, h8, h, -getM, getM_hit, getM_miss, getM_none])))))) | (refine aw_cond (b := _) (by exact rfl) (fun h => ?_) (fun h => ?_) <;> (try simp at h)) | (refine aw_block ?_) | (refine aw_skip ?_; simp only [thenQ, blockQ, if_true]) | (refine aw_exit ?_; simp [thenQ, blockQ]) | (refine aw_ret ?_; simp only [thenQ, blockQ]) | (refine aw_round ?_) | (refine hK _ ?_; clear hK) | (clear hK; refine hK _ ?_; clear hK) | (clear hK; clear hK; refine hK _ ?_; clear hK) | (clear hK; clear hK; clear hK; refine hK _ ?_; clear hK))
    refine ⟨by simp, ?_⟩
    simp [leaves_iff, Try.f6]
    try (first | omega | (refine decide_eq_decide.2 ?_; omega) | (refine decide_eq_false ?_; omega) | (refine decide_eq_true ?_; omega))
  · rcases Decidable.em (40 < (os.length : Int)) with hn | hn
    · repeat' (first | (apply aw_seq_k; intro K hK) | (refine aw_run hc (by first | exact aw_nod | (intro _; rw [ordB_w hw]; kernel_rfl) | (intro _; rw [ordB_w0 hw0]; kernel_rfl) | (intro _; kernel_rfl)) ?_; simp [List.zipIdx, h8, h, hn, -getM, getM_hit, getM_miss, getM_none]; (repeat (simp (disch := first | omega | assumption | fail) only [if_pos, if_neg, wrap64]; try simp [List.zipIdx, h8, h, hn, -getM, getM_hit, getM_miss, getM_none])); try (repeat' (refine guardQ_split (fun h => ?_) (fun h => ?_) <;> simp at h <;> (simp [List.zipIdx, h8, h, hn, -getM, getM_hit, getM_miss, getM_none]; (repeat (simp (disch := first | omega | assumption | fail) only [if_pos, if_neg, wrap64]; try simp [List.zipIdx, h8, h, hn, -getM, getM_hit, getM_miss, getM_none])))))) | (refine aw_cond (b := _) (by exact rfl) (fun h => ?_) (fun h => ?_) <;> (try simp at h)) | (refine aw_block ?_) | (refine aw_skip ?_; simp only [thenQ, blockQ, if_true]) | (refine aw_exit ?_; simp [thenQ, blockQ]) | (refine aw_ret ?_; simp only [thenQ, blockQ]) | (refine aw_round ?_) | (refine hK _ ?_; clear hK) | (clear hK; refine hK _ ?_; clear hK) | (clear hK; clear hK; refine hK _ ?_; clear hK) | (clear hK; clear hK; clear hK; refine hK _ ?_; clear hK))
      refine ⟨by simp, ?_⟩
      simp [leaves_iff, Try.f6]
      try (first | omega | (refine decide_eq_decide.2 ?_; omega) | (refine decide_eq_false ?_; omega) | (refine decide_eq_true ?_; omega))
    · have hl : l.length ≤ 40 := by omega
      have ho : os.length ≤ 40 := by omega
      repeat' (first | (apply aw_seq_k; intro K hK) | (refine aw_run hc (by first | exact aw_nod | (intro _; rw [ordB_w hw]; kernel_rfl) | (intro _; rw [ordB_w0 hw0]; kernel_rfl) | (intro _; kernel_rfl)) ?_; simp [List.zipIdx, h8, h, hn, -getM, getM_hit, getM_miss, getM_none]; (repeat (simp (disch := first | omega | assumption | fail) only [if_pos, if_neg, wrap64]; try simp [List.zipIdx, h8, h, hn, -getM, getM_hit, getM_miss, getM_none])); try (repeat' (refine guardQ_split (fun h => ?_) (fun h => ?_) <;> simp at h <;> (simp [List.zipIdx, h8, h, hn, -getM, getM_hit, getM_miss, getM_none]; (repeat (simp (disch := first | omega | assumption | fail) only [if_pos, if_neg, wrap64]; try simp [List.zipIdx, h8, h, hn, -getM, getM_hit, getM_miss, getM_none])))))) | (refine aw_cond (b := _) (by exact rfl) (fun h => ?_) (fun h => ?_) <;> (try simp at h)) | (refine aw_block ?_) | (refine aw_skip ?_; simp only [thenQ, blockQ, if_true]) | (refine aw_exit ?_; simp [thenQ, blockQ]) | (refine aw_ret ?_; simp only [thenQ, blockQ]) | (refine aw_round ?_) | (refine hK _ ?_; clear hK) | (clear hK; refine hK _ ?_; clear hK) | (clear hK; clear hK; refine hK _ ?_; clear hK) | (clear hK; clear hK; clear hK; refine hK _ ?_; clear hK))
      refine aw_loopK (s0 := ?lps1) (m0 := ?lpm1) (ι := {i : Nat // i ≤ os.length}) [24, 25] (fun i => [(26, I i.1), (0, .rd 2 (prows (stps l (os.take i.1))))]) (fun _ => []) (fun i => os.length - i.1) ⟨0, by omega⟩ ?lhs1 ?lhm1 ?_ ?_
      case lhs1 => first | (simp [keepS]; done) | (simp [keepS]; rfl)
      case lhm1 => first | rfl | (simp; done) | (simp; rfl)
      · simp only [List.take_zero, stps, List.foldl_nil]
        exact le_of2 (by simp) (by simp [AVle, AV.under, AV.underL] <;> omega) (by simp [AOle, AO.under, AV.underL, AV.under] <;> omega)
      · rintro ⟨i, hi⟩
        simp only
        have hLl := stps_len l os i
        obtain ⟨L, hL⟩ : ∃ L, L = stps l (os.take i) := ⟨_, rfl⟩
        rw [← hL] at hLl ⊢
        rcases Decidable.em (i < os.length) with hil | hil
        · have hilI : (i : Int) < (os.length : Int) := by omega
          have hg := orows_gi hil
          have hgE := orows_gE hil
          have hst := stps_snoc l (os.take i) (go os i)
          rw [← take_succ_go hil, ← hL] at hst
          obtain ⟨⟨r, a, b⟩, hm⟩ : ∃ m, m = go os i := ⟨_, rfl⟩
          rw [← hm] at hg hgE hst
          simp only at hg hgE
          have hA := F13_at L a b (by omega)
          have hAr := F13r_at L a b (by omega)
          have hR := F20_at L a b (by omega)
          have hRr := F20r_at L a b (by omega)
          have hl1 := addR_len L (a, b)
          have hl2 := remR_len L (a, b)
          unfold stp opR at hst
          simp only at hst
          obtain ⟨⟨g, e⟩, hge⟩ : ∃ g, g = addR L (a, b) := ⟨_, rfl⟩
          obtain ⟨⟨k, d⟩, hkd⟩ : ∃ g, g = remR L (a, b) := ⟨_, rfl⟩
          rw [← hge] at hA hAr hl1 hst
          rw [← hkd] at hR hRr hl2 hst
          simp only at hA hAr hR hRr hl1 hl2
          have hAr' : ∀ M n, X.call 19 [.rd 2 (prows L), .agg [I a, I b]] M n = some (.tup [.rd 2 (prows g), I e], []) := fun M n => by rw [h19]; exact callD_ok hAr rfl (by simp)
          have hRr' : ∀ M n, X.call 21 [.rd 2 (prows L), .agg [I a, I b]] M n = some (.tup [.rd 2 (prows k), I d], []) := fun M n => by rw [h21]; exact callD_ok hRr rfl (by simp)
          have hS := F17_at g g (by omega)
          have hS2 := F17_at k k (by omega)
          simp only [decide_true] at hS hS2
          cases r with
          | true =>
            simp only [if_true] at hst
            rcases Decidable.em (d = 0) with hd | hd
            · rw [if_pos hd] at hst
              repeat' (first | (apply aw_seq_k; intro K hK) | (refine aw_run hc (by first | exact aw_nod | (intro _; rw [ordB_w hw]; kernel_rfl) | (intro _; rw [ordB_w0 hw0]; kernel_rfl) | (intro _; kernel_rfl)) ?_; simp [List.zipIdx, hilI, hg, hgE, h13, h17, h20, hA, hAr', hR, hRr', hS, hS2, hd, tkM, -getM, getM_hit, getM_miss, getM_none]; (repeat (simp (disch := first | omega | assumption | fail) only [if_pos, if_neg, wrap64]; try simp [List.zipIdx, hilI, hg, hgE, h13, h17, h20, hA, hAr', hR, hRr', hS, hS2, hd, tkM, -getM, getM_hit, getM_miss, getM_none])); try (repeat' (refine guardQ_split (fun h => ?_) (fun h => ?_) <;> simp at h <;> (simp [List.zipIdx, hilI, hg, hgE, h13, h17, h20, hA, hAr', hR, hRr', hS, hS2, hd, tkM, -getM, getM_hit, getM_miss, getM_none]; (repeat (simp (disch := first | omega | assumption | fail) only [if_pos, if_neg, wrap64]; try simp [List.zipIdx, hilI, hg, hgE, h13, h17, h20, hA, hAr', hR, hRr', hS, hS2, hd, tkM, -getM, getM_hit, getM_miss, getM_none])))))) | (refine aw_cond (b := _) (by exact rfl) (fun h => ?_) (fun h => ?_) <;> (try simp at h)) | (refine aw_block ?_) | (refine aw_skip ?_; simp only [thenQ, blockQ, if_true]) | (refine aw_exit ?_; simp [thenQ, blockQ]) | (refine aw_ret ?_; simp only [thenQ, blockQ]) | (refine aw_round ?_) | (refine hK _ ?_; clear hK) | (clear hK; refine hK _ ?_; clear hK) | (clear hK; clear hK; refine hK _ ?_; clear hK) | (clear hK; clear hK; clear hK; refine hK _ ?_; clear hK))
              refine ⟨i + 1, ?_, by omega, by omega⟩
              simp only [hst]
              trace_state
              exact le_of2 (by simp) (by simp [AVle, AV.under, AV.underL] <;> omega) (by simp [AOle, AO.under, AV.underL, AV.under] <;> omega)
            · rw [if_neg hd] at hst
              repeat' (first | (apply aw_seq_k; intro K hK) | (refine aw_run hc (by first | exact aw_nod | (intro _; rw [ordB_w hw]; kernel_rfl) | (intro _; rw [ordB_w0 hw0]; kernel_rfl) | (intro _; kernel_rfl)) ?_; simp [List.zipIdx, hilI, hg, hgE, h13, h17, h20, hA, hAr', hR, hRr', hS, hS2, hd, tkM, -getM, getM_hit, getM_miss, getM_none]; (repeat (simp (disch := first | omega | assumption | fail) only [if_pos, if_neg, wrap64]; try simp [List.zipIdx, hilI, hg, hgE, h13, h17, h20, hA, hAr', hR, hRr', hS, hS2, hd, tkM, -getM, getM_hit, getM_miss, getM_none])); try (repeat' (refine guardQ_split (fun h => ?_) (fun h => ?_) <;> simp at h <;> (simp [List.zipIdx, hilI, hg, hgE, h13, h17, h20, hA, hAr', hR, hRr', hS, hS2, hd, tkM, -getM, getM_hit, getM_miss, getM_none]; (repeat (simp (disch := first | omega | assumption | fail) only [if_pos, if_neg, wrap64]; try simp [List.zipIdx, hilI, hg, hgE, h13, h17, h20, hA, hAr', hR, hRr', hS, hS2, hd, tkM, -getM, getM_hit, getM_miss, getM_none])))))) | (refine aw_cond (b := _) (by exact rfl) (fun h => ?_) (fun h => ?_) <;> (try simp at h)) | (refine aw_block ?_) | (refine aw_skip ?_; simp only [thenQ, blockQ, if_true]) | (refine aw_exit ?_; simp [thenQ, blockQ]) | (refine aw_ret ?_; simp only [thenQ, blockQ]) | (refine aw_round ?_) | (refine hK _ ?_; clear hK) | (clear hK; refine hK _ ?_; clear hK) | (clear hK; clear hK; refine hK _ ?_; clear hK) | (clear hK; clear hK; clear hK; refine hK _ ?_; clear hK))
              refine ⟨i + 1, ?_, by omega, by omega⟩
              simp only [hst]
              exact le_of2 (by simp) (by simp [AVle, AV.under, AV.underL] <;> omega) (by simp [AOle, AO.under, AV.underL, AV.under] <;> omega)
          | false =>
            simp only [Bool.false_eq_true, if_false] at hst
            rcases Decidable.em (e = 0) with hd | hd
            · rw [if_pos hd] at hst
              repeat' (first | (apply aw_seq_k; intro K hK) | (refine aw_run hc (by first | exact aw_nod | (intro _; rw [ordB_w hw]; kernel_rfl) | (intro _; rw [ordB_w0 hw0]; kernel_rfl) | (intro _; kernel_rfl)) ?_; simp [List.zipIdx, hilI, hg, hgE, h13, h17, h20, hA, hAr', hR, hRr', hS, hS2, hd, tkM, -getM, getM_hit, getM_miss, getM_none]; (repeat (simp (disch := first | omega | assumption | fail) only [if_pos, if_neg, wrap64]; try simp [List.zipIdx, hilI, hg, hgE, h13, h17, h20, hA, hAr', hR, hRr', hS, hS2, hd, tkM, -getM, getM_hit, getM_miss, getM_none])); try (repeat' (refine guardQ_split (fun h => ?_) (fun h => ?_) <;> simp at h <;> (simp [List.zipIdx, hilI, hg, hgE, h13, h17, h20, hA, hAr', hR, hRr', hS, hS2, hd, tkM, -getM, getM_hit, getM_miss, getM_none]; (repeat (simp (disch := first | omega | assumption | fail) only [if_pos, if_neg, wrap64]; try simp [List.zipIdx, hilI, hg, hgE, h13, h17, h20, hA, hAr', hR, hRr', hS, hS2, hd, tkM, -getM, getM_hit, getM_miss, getM_none])))))) | (refine aw_cond (b := _) (by exact rfl) (fun h => ?_) (fun h => ?_) <;> (try simp at h)) | (refine aw_block ?_) | (refine aw_skip ?_; simp only [thenQ, blockQ, if_true]) | (refine aw_exit ?_; simp [thenQ, blockQ]) | (refine aw_ret ?_; simp only [thenQ, blockQ]) | (refine aw_round ?_) | (refine hK _ ?_; clear hK) | (clear hK; refine hK _ ?_; clear hK) | (clear hK; clear hK; refine hK _ ?_; clear hK) | (clear hK; clear hK; clear hK; refine hK _ ?_; clear hK))
              refine ⟨i + 1, ?_, by omega, by omega⟩
              simp only [hst]
              exact le_of2 (by simp) (by simp [AVle, AV.under, AV.underL] <;> omega) (by simp [AOle, AO.under, AV.underL, AV.under] <;> omega)
            · rw [if_neg hd] at hst
              repeat' (first | (apply aw_seq_k; intro K hK) | (refine aw_run hc (by first | exact aw_nod | (intro _; rw [ordB_w hw]; kernel_rfl) | (intro _; rw [ordB_w0 hw0]; kernel_rfl) | (intro _; kernel_rfl)) ?_; simp [List.zipIdx, hilI, hg, hgE, h13, h17, h20, hA, hAr', hR, hRr', hS, hS2, hd, tkM, -getM, getM_hit, getM_miss, getM_none]; (repeat (simp (disch := first | omega | assumption | fail) only [if_pos, if_neg, wrap64]; try simp [List.zipIdx, hilI, hg, hgE, h13, h17, h20, hA, hAr', hR, hRr', hS, hS2, hd, tkM, -getM, getM_hit, getM_miss, getM_none])); try (repeat' (refine guardQ_split (fun h => ?_) (fun h => ?_) <;> simp at h <;> (simp [List.zipIdx, hilI, hg, hgE, h13, h17, h20, hA, hAr', hR, hRr', hS, hS2, hd, tkM, -getM, getM_hit, getM_miss, getM_none]; (repeat (simp (disch := first | omega | assumption | fail) only [if_pos, if_neg, wrap64]; try simp [List.zipIdx, hilI, hg, hgE, h13, h17, h20, hA, hAr', hR, hRr', hS, hS2, hd, tkM, -getM, getM_hit, getM_miss, getM_none])))))) | (refine aw_cond (b := _) (by exact rfl) (fun h => ?_) (fun h => ?_) <;> (try simp at h)) | (refine aw_block ?_) | (refine aw_skip ?_; simp only [thenQ, blockQ, if_true]) | (refine aw_exit ?_; simp [thenQ, blockQ]) | (refine aw_ret ?_; simp only [thenQ, blockQ]) | (refine aw_round ?_) | (refine hK _ ?_; clear hK) | (clear hK; refine hK _ ?_; clear hK) | (clear hK; clear hK; refine hK _ ?_; clear hK) | (clear hK; clear hK; clear hK; refine hK _ ?_; clear hK))
              refine ⟨i + 1, ?_, by omega, by omega⟩
              simp only [hst]
              exact le_of2 (by simp) (by simp [AVle, AV.under, AV.underL] <;> omega) (by simp [AOle, AO.under, AV.underL, AV.under] <;> omega)
        · obtain rfl : i = os.length := by omega
          repeat' (first | (apply aw_seq_k; intro K hK) | (refine aw_run hc (by first | exact aw_nod | (intro _; rw [ordB_w hw]; kernel_rfl) | (intro _; rw [ordB_w0 hw0]; kernel_rfl) | (intro _; kernel_rfl)) ?_; simp [List.zipIdx, -getM, getM_hit, getM_miss, getM_none]; (repeat (simp (disch := first | omega | assumption | fail) only [if_pos, if_neg, wrap64]; try simp [List.zipIdx, -getM, getM_hit, getM_miss, getM_none])); try (repeat' (refine guardQ_split (fun h => ?_) (fun h => ?_) <;> simp at h <;> (simp [List.zipIdx, -getM, getM_hit, getM_miss, getM_none]; (repeat (simp (disch := first | omega | assumption | fail) only [if_pos, if_neg, wrap64]; try simp [List.zipIdx, -getM, getM_hit, getM_miss, getM_none])))))) | (refine aw_cond (b := _) (by exact rfl) (fun h => ?_) (fun h => ?_) <;> (try simp at h)) | (refine aw_block ?_) | (refine aw_skip ?_; simp only [thenQ, blockQ, if_true]) | (refine aw_exit ?_; simp [thenQ, blockQ]) | (refine aw_ret ?_; simp only [thenQ, blockQ]) | (refine aw_round ?_) | (refine hK _ ?_; clear hK) | (clear hK; refine hK _ ?_; clear hK) | (clear hK; clear hK; refine hK _ ?_; clear hK) | (clear hK; clear hK; clear hK; refine hK _ ?_; clear hK))
          refine ⟨by simp, ?_⟩
          simp [leaves_iff, Try.f6]
          try (first | omega | (refine decide_eq_decide.2 ?_; omega) | (refine decide_eq_false ?_; omega) | (refine decide_eq_true ?_; omega))
end Go.AM
