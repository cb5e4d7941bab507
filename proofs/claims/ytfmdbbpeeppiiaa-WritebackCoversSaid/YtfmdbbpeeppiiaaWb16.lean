/- Writeback: what the laws ask for; the fixed example; the four laws of the reference. -/
import Derived.Test.YtfmdbbpeeppiiaaWb15
import Derived.Test.YtfmdbbpeeppiiaaWb10
set_option linter.all false

namespace Go.AM
open Go Go.Proofs

noncomputable def chkF : List AV → Option AV := specF (ι := {x : List Tp // x.length ≤ 9223372036854775807}) (fun x => [.rd 3 (drows x.1)]) fun x => retOf [I (chkD x.1)]
theorem chkF_at (l : List Tp) (h : l.length ≤ 9223372036854775807) : chkF [.rd 3 (drows l)] = some (I (chkD l)) :=
  specF_eq (ι := {x : List Tp // x.length ≤ 9223372036854775807}) (A := fun x => [.rd 3 (drows x.1)]) (R := fun x => retOf [I (chkD x.1)]) ⟨l, h⟩ (by
    rintro ⟨k, h⟩ e
    simp [drows_inj, Tv_inj] at e
    subst e; rfl)
noncomputable def nxtF : List AV → Option AV := specF (ι := {x : List Tp // x.length ≤ 9223372036854775807}) (fun x => [.rd 3 (drows x.1)]) fun x => retOf [I (nxtR x.1)]
theorem nxtF_at (l : List Tp) (h : l.length ≤ 9223372036854775807) : nxtF [.rd 3 (drows l)] = some (I (nxtR l)) :=
  specF_eq (ι := {x : List Tp // x.length ≤ 9223372036854775807}) (A := fun x => [.rd 3 (drows x.1)]) (R := fun x => retOf [I (nxtR x.1)]) ⟨l, h⟩ (by
    rintro ⟨k, h⟩ e
    simp [drows_inj, Tv_inj] at e
    subst e; rfl)
noncomputable def eqlF : List AV → Option AV := specF (ι := {x : List Tp × List Tp // x.1.length ≤ 1000000}) (fun x => [.rd 3 (drows x.1.1), .rd 3 (drows x.1.2)]) fun x => retOf [B (decide (x.1.1 = x.1.2))]
theorem eqlF_at (l k : List Tp) (h : l.length ≤ 1000000) : eqlF [.rd 3 (drows l), .rd 3 (drows k)] = some (B (decide (l = k))) :=
  specF_eq (ι := {x : List Tp × List Tp // x.1.length ≤ 1000000}) (A := fun x => [.rd 3 (drows x.1.1), .rd 3 (drows x.1.2)]) (R := fun x => retOf [B (decide (x.1.1 = x.1.2))]) ⟨(l, k), h⟩ (by
    rintro ⟨⟨k, c⟩, h⟩ e
    simp [drows_inj, Tv_inj] at e
    obtain ⟨rfl, rfl⟩ := e; rfl)
noncomputable def expF : List AV → Option AV := specF (ι := {x : List Tp × Int × Int // x.1.length ≤ 9223372036854775807}) (fun x => [.rd 3 (drows x.1.1), I x.1.2.1, I x.1.2.2]) fun x => retOf [.ow 3 (drows (expR x.1.1 x.1.2.1 x.1.2.2).1), I (expR x.1.1 x.1.2.1 x.1.2.2).2]
theorem expF_at (l : List Tp) (n g : Int) (h : l.length ≤ 9223372036854775807) : expF [.rd 3 (drows l), I n, I g] = some (.tup [.ow 3 (drows (expR l n g).1), I (expR l n g).2]) :=
  specF_eq (ι := {x : List Tp × Int × Int // x.1.length ≤ 9223372036854775807}) (A := fun x => [.rd 3 (drows x.1.1), I x.1.2.1, I x.1.2.2]) (R := fun x => retOf [.ow 3 (drows (expR x.1.1 x.1.2.1 x.1.2.2).1), I (expR x.1.1 x.1.2.1 x.1.2.2).2]) ⟨(l, n, g), h⟩ (by
    rintro ⟨⟨k, c, d⟩, h⟩ e
    simp [drows_inj, Tv_inj] at e
    obtain ⟨rfl, rfl, rfl⟩ := e; rfl)
theorem F21_at (l : List Tp) (n : Int) (h : l.length ≤ 9223372036854775807) : F21 [.rd 3 (drows l), I n] = some (.tup [.ow 3 (drows (runR l n).1), I (runR l n).2]) :=
  specF_eq (ι := {x : List Tp × Int // x.1.length ≤ 9223372036854775807}) (A := fun x => [.rd 3 (drows x.1.1), I x.1.2]) (R := fun x => retOf [.ow 3 (drows (runR x.1.1 x.1.2).1), I (runR x.1.1 x.1.2).2]) ⟨(l, n), h⟩ (by
    rintro ⟨⟨k, c⟩, h⟩ e
    simp [drows_inj] at e
    obtain ⟨rfl, rfl⟩ := e; rfl)
noncomputable def wrtF : List AV → Option AV := specF (ι := {x : List Tp × Tp // x.1.length ≤ 9223372036854775807}) (fun x => [.rd 3 (drows x.1.1), Tv x.1.2]) fun x => retOf [.ow 3 (drows (wrtR x.1.1 x.1.2).1), I (wrtR x.1.1 x.1.2).2]
theorem wrtF_at (l : List Tp) (a b c : Int) (h : l.length ≤ 9223372036854775807) : wrtF [.rd 3 (drows l), .agg [I a, I b, I c]] = some (.tup [.ow 3 (drows (wrtR l (a, b, c)).1), I (wrtR l (a, b, c)).2]) :=
  specF_eq (ι := {x : List Tp × Tp // x.1.length ≤ 9223372036854775807}) (A := fun x => [.rd 3 (drows x.1.1), Tv x.1.2]) (R := fun x => retOf [.ow 3 (drows (wrtR x.1.1 x.1.2).1), I (wrtR x.1.1 x.1.2).2]) ⟨(l, (a, b, c)), h⟩ (by
    rintro ⟨⟨k, p⟩, h⟩ e
    simp [drows_inj, Tv_inj] at e
    obtain ⟨rfl, rfl⟩ := e; rfl)

theorem ordR_len (l : List Tp) : (ordR l).1.length ≤ 64 := by
  by_cases h : chkD l = 0
  · rw [ordR_z h]; simp only; rw [sortG_len]; exact chk_len h
  · rw [ordR_n h]; simp
theorem expR_len (l : List Tp) (n g : Int) : (expR l n g).1.length ≤ 64 := by
  by_cases h : chkD l = 0
  · by_cases h1 : n < 0 ∨ g < 0
    · rw [expR_m h h1]; simp
    · rw [expR_z h h1]
      simp only
      have := List.length_filter_le (fun p => !expB n g p) (sortG ltD l)
      rw [sortG_len] at this
      have := chk_len h
      omega
  · rw [expR_n h]; simp
theorem runR_len (l : List Tp) (m : Int) : (runR l m).1.length ≤ 64 := by
  by_cases h : chkD l = 0
  · by_cases h1 : m < 1
    · rw [runR_m h h1]; simp
    · rw [runR_z h h1]
      exact runF_len _ _ 4
  · rw [runR_n h]; simp
theorem dropK_len (o : Sum (Int × Int) Tp) (l : List Tp) : (dropK o l).length ≤ l.length := by
  unfold dropK
  exact List.length_filter_le _ _
theorem wrtR_len (l : List Tp) (r : Tp) : (wrtR l r).1.length ≤ 64 := by
  by_cases h : chkD l = 0
  · have h64 := chk_len h
    by_cases h1 : wrnN r
    · by_cases h2 : allR l r
      · rw [wrtR_z h h1 h2]
        have := dropK_len (.inr r) l
        simp only; omega
      · rw [wrtR_h h h1 h2]; simp
    · rw [wrtR_m h h1]; simp
  · rw [wrtR_n h]; simp

structure LawX (X : AX) : Prop where
  ok : XOK Try.prog X
  w : X.W wT
  eq : X.eqs 30 = true
  h10 : ∀ l M n, X.call 10 [.rd 3 (drows l)] M n = some (B (decide (l.length ≤ 100)), [])
  h12 : X.call 12 = callP F13
  h13 : X.call 13 = callP F13
  h14 : X.call 14 = callP chkF
  h15 : X.call 15 = callP chkF
  h16 : X.call 16 = callP nxtF
  h17 : X.call 17 = callP nxtF
  h18 : X.call 18 = callP eqlF
  h19 : X.call 19 = callP expF
  h20 : X.call 20 = callP expF
  h21 : X.call 21 = callP F21
  h22 : X.call 22 = callP F21
  h23 : X.call 23 = callP eqlF
  h24 : X.call 24 = callP wrtF
  h25 : X.call 25 = callP wrtF
  h26 : X.call 26 = callP F28
  h28 : X.call 28 = callP F28
  h29 : X.call 29 = callM false three3 F29

/-! The fixed example. -/
def l0 : List Tp := [(0, 3, 20), (0, 2, 25), (1, 0, 20), (0, 4, 30)]
theorem chk_l0 : chkD l0 = 0 := chk_z (by
  intro j hj
  have h : j = 0 ∨ j = 1 ∨ j = 2 ∨ j = 3 := by simp [l0] at hj; omega
  rcases h with rfl | rfl | rfl | rfl <;> decide +kernel) (by decide +kernel)
theorem sort_l0 : sortG ltD l0 = [(0, 3, 20), (1, 0, 20), (0, 2, 25), (0, 4, 30)] :=
  stoD.uniq ((sortG_perm _).trans (by decide +kernel)) (stoD.sort_sorted _) (stoD.lt_le (by decide +kernel))
theorem ord_l0 : ordR l0 = ([(0, 3, 20), (1, 0, 20), (0, 2, 25), (0, 4, 30)], 0) := by rw [ordR_z chk_l0, sort_l0]
theorem exp_l0 : expR l0 30 5 = ([(0, 3, 20), (1, 0, 20), (0, 2, 25)], 0) := by
  rw [expR_z chk_l0 (by decide), sort_l0]
  decide +kernel
theorem run_l0 : runR l0 2 = ([(0, 2, 2), (0, 4, 1), (1, 0, 1)], 0) := by
  rw [runR_z chk_l0 (by decide), ← runL_sort chk_l0 (by decide)]
  rw [show sortG ltP (l0.map plc) = [(0, 2), (0, 3), (0, 4), (1, 0)] from stoP.uniq ((sortG_perm _).trans (by decide +kernel)) (stoP.sort_sorted _) (stoP.lt_le (by decide +kernel))]
  rw [runL_cons, show cntP 2 [((0 : Int), (2 : Int)), (0, 3), (0, 4), (1, 0)] = 2 by decide +kernel]
  simp only [List.drop_succ_cons, List.drop_zero]
  rw [runL_cons, show cntP 2 [((0 : Int), (4 : Int)), (1, 0)] = 1 by decide +kernel]
  simp only [List.drop_succ_cons, List.drop_zero]
  rw [runL_cons, show cntP 2 [((1 : Int), (0 : Int))] = 1 by decide +kernel]
  simp only [List.drop_succ_cons, List.drop_zero]
  rw [runL_nil]
  rfl
theorem nxt_l0 : nxtR l0 = 0 := by
  rw [nxtR_z (by decide) chk_l0]
  decide +kernel
theorem wrt_l0 : wrtR l0 (0, 2, 2) = ([(1, 0, 20), (0, 4, 30)], 0) := by
  rw [wrtR_z chk_l0 (by decide +kernel) (by
    intro k hk
    have h : k = 0 ∨ k = 1 := by simp only at hk; omega
    rcases h with rfl | rfl <;> decide +kernel)]
  decide +kernel

set_option maxRecDepth 20000 in
set_option maxHeartbeats 4000000 in
theorem s11 (X : AX) (L : LawX X) (he8 : X.eqs 38 = true) : PSound Try.prog 11 (specF (ι := Unit) (fun _ => []) fun _ => retOf [B true]) := by
  have hX := L.ok
  have hw := L.w
  have f1 := F13_at l0 (by decide)
  rw [ord_l0] at f1
  have f2 := expF_at l0 30 5 (by decide)
  rw [exp_l0] at f2
  have f3 := F21_at l0 2 (by decide)
  rw [run_l0] at f3
  have f4 := nxtF_at l0 (by decide)
  rw [nxt_l0] at f4
  have f5 := chkF_at l0 (by decide)
  rw [chk_l0] at f5
  have f6 := wrtF_at l0 0 2 2 (by decide)
  rw [wrt_l0] at f6
  have f7 := eqlF_at [(0, 3, 20), (1, 0, 20), (0, 2, 25), (0, 4, 30)] [(0, 3, 20), (1, 0, 20), (0, 2, 25), (0, 4, 30)] (by decide)
  rw [decide_eq_true rfl] at f7
  have f8 := eqlF_at [(0, 3, 20), (1, 0, 20), (0, 2, 25)] [(0, 3, 20), (1, 0, 20), (0, 2, 25)] (by decide)
  rw [decide_eq_true rfl] at f8
  have f9 := eqlF_at [(0, 2, 2), (0, 4, 1), (1, 0, 1)] [(0, 2, 2), (0, 4, 1), (1, 0, 1)] (by decide)
  rw [decide_eq_true rfl] at f9
  have f10 := eqlF_at [(1, 0, 20), (0, 4, 30)] [(1, 0, 20), (0, 4, 30)] (by decide)
  rw [decide_eq_true rfl] at f10
  simp only [l0, drows, List.map_cons, List.map_nil] at f1 f2 f3 f4 f5 f6 f7 f8 f9 f10
  refine psound_spec hX mixed Try.func11 rfl fun u w0 G => ⟨by show 0 ≤ 109; decide, rfl, ?_⟩
  show AW ⟨Try.prog, X, 109, w0, .pure G⟩ _ _ _
  have hc : Cx.OK ⟨Try.prog, X, 109, w0, .pure G⟩ := ⟨hX, mixed⟩
  repeat' (first | (apply aw_seq_k; intro K hK) | (refine aw_run hc (by first | exact aw_nod | (intro _; rw [ordB_w hw]; kernel_rfl) | (intro _; rw [ordB_w0 hw0]; kernel_rfl) | (intro _; kernel_rfl)) ?_; simp [List.zipIdx, L.h12, L.h14, L.h16, L.h18, L.h19, L.h21, L.h23, L.h24, f1, f2, f3, f4, f5, f6, f7, f8, f9, f10, -getM, getM_hit, getM_miss, getM_none]; (repeat (simp (disch := first | omega | assumption | fail) only [if_pos, if_neg, wrap64]; try simp [List.zipIdx, L.h12, L.h14, L.h16, L.h18, L.h19, L.h21, L.h23, L.h24, f1, f2, f3, f4, f5, f6, f7, f8, f9, f10, -getM, getM_hit, getM_miss, getM_none])); try (repeat' (refine guardQ_split (fun h => ?_) (fun h => ?_) <;> simp at h <;> (simp [List.zipIdx, L.h12, L.h14, L.h16, L.h18, L.h19, L.h21, L.h23, L.h24, f1, f2, f3, f4, f5, f6, f7, f8, f9, f10, -getM, getM_hit, getM_miss, getM_none]; (repeat (simp (disch := first | omega | assumption | fail) only [if_pos, if_neg, wrap64]; try simp [List.zipIdx, L.h12, L.h14, L.h16, L.h18, L.h19, L.h21, L.h23, L.h24, f1, f2, f3, f4, f5, f6, f7, f8, f9, f10, -getM, getM_hit, getM_miss, getM_none])))))) | (refine aw_cond (b := _) (by exact rfl) (fun h => ?_) (fun h => ?_) <;> (try simp at h)) | (refine aw_block ?_) | (refine aw_skip ?_; simp only [thenQ, blockQ, if_true]) | (refine aw_exit ?_; simp [thenQ, blockQ]) | (refine aw_ret ?_; simp only [thenQ, blockQ]) | (refine aw_round ?_) | (refine hK _ ?_; clear hK) | (clear hK; refine hK _ ?_; clear hK) | (clear hK; clear hK; refine hK _ ?_; clear hK) | (clear hK; clear hK; clear hK; refine hK _ ?_; clear hK))
  refine ⟨by simp, ?_⟩
  simp [leaves_iff, Try.f11]
  try (first | omega | (refine decide_eq_decide.2 ?_; omega) | (refine decide_eq_false ?_; omega) | (refine decide_eq_true ?_; omega))
end Go.AM
