/- ZonelistNear, ZonelistBinds. -/
import Derived.Test.YtdhhdnbdceoenaaZl20
import Derived.Test.YtdhhdnbdceoenaaAmDs
set_option linter.all false

namespace Go.AM
open Go Go.Proofs

theorem order_near_at {zs : List Zo} {node : Int} {kernel : Bool} (h : okZs zs) (h0 : 0 ≤ node ∧ node < 4) {k : Nat} (hk : k + 1 < (orderL zs node kernel).length) :
    ∃ i j : Nat, gi (orderL zs node kernel) k = (i : Int) ∧ gi (orderL zs node kernel) (k + 1) = (j : Int) ∧ i < zs.length ∧ j < zs.length ∧
    ¬ (far (zg zs j).node node < far (zg zs i).node node ∨ (far (zg zs i).node node = far (zg zs j).node node ∧ (zg zs j).node < (zg zs i).node) ∨
      ((zg zs i).node = (zg zs j).node ∧ ((zg zs i).kind < (zg zs j).kind ∨ ((zg zs i).kind = (zg zs j).kind ∧ (j : Int) ≤ (i : Int))))) := by
  have hl := order_lex (node := node) (kernel := kernel) h
  have hp := List.pairwise_iff_getElem.1 hl k (k + 1) (by omega) hk (by omega)
  rw [← gi_eq, ← gi_eq] at hp
  have h1 := order_range h h0 (gi_mem (show k < (orderL zs node kernel).length by omega))
  have h2 := order_range h h0 (gi_mem hk)
  obtain ⟨i, hi⟩ := Int.eq_ofNat_of_zero_le h1.1
  obtain ⟨j, hj⟩ := Int.eq_ofNat_of_zero_le h2.1
  refine ⟨i, j, hi, hj, by omega, by omega, ?_⟩
  rw [hi, hj] at hp
  have := order_near hp (by rw [Int.toNat_natCast]; exact (h.2 _ (zg_mem (by omega))).2) (by rw [Int.toNat_natCast]; exact (h.2 _ (zg_mem (by omega))).2)
  simpa only [Int.toNat_natCast] using this

set_option maxHeartbeats 2000000 in
theorem s7 (X : AX) (L : LawX X) (h12 : ∀ M n, X.call 12 [] M n = some (B true, [])) : PSound Try.prog 7 (specF (ι := List Zx × Int × Bool) (fun x => [.rd 10 (zrows x.1), I x.2.1, B x.2.2]) fun _ => retOf [B true]) := by
  have hX := L.ok
  have hw := L.w
  refine psound_spec hX mixed Try.func7 rfl fun ⟨xs, a, b⟩ w0 G => ⟨by show 3 ≤ 120; decide, rfl, ?_⟩
  show AW ⟨Try.prog, X, 120, w0, .pure G⟩ _ _ _
  have hc : Cx.OK ⟨Try.prog, X, 120, w0, .pure G⟩ := ⟨hX, mixed⟩
  simp only
  have e22 := F22_at xs a
  rcases Decidable.em (okZs (zos xs) ∧ 0 ≤ a ∧ a < 4) with hv | hv
  · simp only [hv] at e22
    have e17 := F17_at xs a b
    rw [orderR_ok hv] at e17
    obtain ⟨hok, hn⟩ := hv
    have hran := fun x hx => order_range (x := x) (kernel := b) hok hn hx
    have hnear := fun k hk => order_near_at (kernel := b) hok hn (k := k) hk
    have hlen := order_len (kernel := b) hok hn
    obtain ⟨O, hO⟩ : ∃ O, O = orderL (zos xs) a b := ⟨_, rfl⟩
    rw [← hO] at e17 hlen
    simp only [← hO] at hran hnear e17
    repeat' (first | (apply aw_seq_k; intro K hK) | (refine aw_run hc (by first | exact aw_nod | (intro _; rw [ordB_w hw]; kernel_rfl) | (intro _; rw [ordB_w0 hw0]; kernel_rfl) | (intro _; kernel_rfl)) ?_; simp [List.zipIdx, L.h22, L.h17, e22, e17, h12, tk1, -getM, getM_hit, getM_miss, getM_none]; (repeat (simp (disch := first | omega | assumption | fail) only [if_pos, if_neg, wrap64]; try simp [List.zipIdx, L.h22, L.h17, e22, e17, h12, tk1, -getM, getM_hit, getM_miss, getM_none])); try (repeat' (refine guardQ_split (fun h => ?_) (fun h => ?_) <;> simp at h <;> (simp [List.zipIdx, L.h22, L.h17, e22, e17, h12, tk1, -getM, getM_hit, getM_miss, getM_none]; (repeat (simp (disch := first | omega | assumption | fail) only [if_pos, if_neg, wrap64]; try simp [List.zipIdx, L.h22, L.h17, e22, e17, h12, tk1, -getM, getM_hit, getM_miss, getM_none])))))) | (refine aw_cond (b := _) (by exact rfl) (fun h => ?_) (fun h => ?_) <;> (try simp at h)) | (refine aw_block ?_) | (refine aw_skip ?_; simp only [thenQ, blockQ, if_true]) | (refine aw_exit ?_; simp [thenQ, blockQ]) | (refine aw_ret ?_; simp only [thenQ, blockQ]) | (refine aw_round ?_) | (refine hK _ ?_; clear hK) | (clear hK; refine hK _ ?_; clear hK) | (clear hK; clear hK; refine hK _ ?_; clear hK) | (clear hK; clear hK; clear hK; refine hK _ ?_; clear hK))
    refine aw_loopK (s0 := ?lps1) (m0 := ?lpm1) (ι := {k : Nat // k ≤ O.length}) [0, 1, 7] (fun k => [(9, I k.1)]) (fun _ => []) (fun k => O.length - k.1) ⟨0, by omega⟩ ?lhs1 ?lhm1 ?_ ?_
    case lhs1 => first | (simp [keepS]; done) | (simp [keepS]; rfl)
    case lhm1 => first | rfl | (simp; done) | (simp; rfl)
    · exact le_of2 (by simp) (by simp [AVle, AV.under, AV.underL] <;> omega) (by simp [AOle, AO.under, AV.underL, AV.under] <;> omega)
    · rintro ⟨k, hk⟩
      simp only
      rcases Decidable.em (k < O.length) with hkl | hkl
      · have hklI : (k : Int) < (O.length : Int) := by omega
        have hg1 := irows_gi hkl
        have hg2 := gE hkl
        have hr := hran _ (gi_mem hkl)
        rw [zos_len] at hr
        have r1 : ¬ gi O k < 0 := by omega
        have r2 : ¬ (xs.length : Int) ≤ gi O k := by omega
        cases k with
        | zero =>
          repeat' (first | (apply aw_seq_k; intro K hK) | (refine aw_run hc (by first | exact aw_nod | (intro _; rw [ordB_w hw]; kernel_rfl) | (intro _; rw [ordB_w0 hw0]; kernel_rfl) | (intro _; kernel_rfl)) ?_; simp [List.zipIdx, hklI, hkl, hg1, hg2, r1, r2, -getM, getM_hit, getM_miss, getM_none]; (repeat (simp (disch := first | omega | assumption | fail) only [if_pos, if_neg, wrap64]; try simp [List.zipIdx, hklI, hkl, hg1, hg2, r1, r2, -getM, getM_hit, getM_miss, getM_none])); try (repeat' (refine guardQ_split (fun h => ?_) (fun h => ?_) <;> simp at h <;> (simp [List.zipIdx, hklI, hkl, hg1, hg2, r1, r2, -getM, getM_hit, getM_miss, getM_none]; (repeat (simp (disch := first | omega | assumption | fail) only [if_pos, if_neg, wrap64]; try simp [List.zipIdx, hklI, hkl, hg1, hg2, r1, r2, -getM, getM_hit, getM_miss, getM_none])))))) | (refine aw_cond (b := _) (by exact rfl) (fun h => ?_) (fun h => ?_) <;> (try simp at h)) | (refine aw_block ?_) | (refine aw_skip ?_; simp only [thenQ, blockQ, if_true]) | (refine aw_exit ?_; simp [thenQ, blockQ]) | (refine aw_ret ?_; simp only [thenQ, blockQ]) | (refine aw_round ?_) | (refine hK _ ?_; clear hK) | (clear hK; refine hK _ ?_; clear hK) | (clear hK; clear hK; refine hK _ ?_; clear hK) | (clear hK; clear hK; clear hK; refine hK _ ?_; clear hK))
          refine ⟨1, ?_, by omega, by omega⟩
          exact le_of2 (by simp) (by simp [AVle, AV.under, AV.underL] <;> omega) (by simp [AOle, AO.under, AV.underL, AV.under] <;> omega)
        | succ k =>
          obtain ⟨i, j, hi, hj, hil, hjl, hne⟩ := hnear k hkl
          have hg3 := irows_gi (l := O) (n := k) (by omega)
          have hg4 := gE (l := O) (n := k) (by omega)
          rw [hi] at hg3 hg4
          rw [hj] at hg1 hg2 r1 r2
          rw [zos_len] at hil hjl
          have hzi := zrows_get hil
          simp only [Zx.row] at hzi
          have hz := zx_z hil
          rw [hz] at hzi
          have hzj := zrows_get hjl
          simp only [Zx.row] at hzj
          have hz2 := zx_z hjl
          rw [hz2] at hzj
          have oi := hok.2 _ (zg_mem (zs := zos xs) (i := i) (by rw [zos_len]; exact hil))
          have oj := hok.2 _ (zg_mem (zs := zos xs) (i := j) (by rw [zos_len]; exact hjl))
          have ek : ((k + 1 : Nat) : Int) - 1 = (k : Int) := by omega
          have ek2 : (((k + 1 : Nat) : Int) - 1).toNat = k := by omega
          have hk0 : ¬ ((k + 1 : Nat) : Int) = 0 := by omega
          have hilI : (i : Int) < (xs.length : Int) := by omega
          have hjlI : (j : Int) < (xs.length : Int) := by omega
          generalize ena : (zg (zos xs) i).node = na at *
          generalize enb : (zg (zos xs) j).node = nb at *
          generalize eka : (zg (zos xs) i).kind = ka at *
          generalize ekb : (zg (zos xs) j).kind = kb at *
          have f1 := fun M n => L.h23 na a M n (by unfold sm; omega) (by unfold sm; omega)
          have f2 := fun M n => L.h23 nb a M n (by unfold sm; omega) (by unfold sm; omega)
          generalize efa : far na a = fa at *
          generalize efb : far nb a = fb at *
          clear hnear hran
          repeat' (first | (apply aw_seq_k; intro K hK) | (refine aw_run hc (by exact aw_nod) ?_; simp [List.zipIdx, hklI, hg1, hg2, hg3, hg4, r1, r2, ek, ek2, hk0, hzi, hzj, hilI, hjlI, f1, f2, -getM, getM_hit, getM_miss, getM_none]; (repeat (simp (disch := first | omega | assumption | fail) only [if_pos, if_neg, wrap64]; try simp [List.zipIdx, hklI, hg1, hg2, hg3, hg4, r1, r2, ek, ek2, hk0, hzi, hzj, hilI, hjlI, f1, f2, -getM, getM_hit, getM_miss, getM_none])); try (repeat' (refine guardQ_split (fun h => ?_) (fun h => ?_) <;> simp at h <;> (simp [List.zipIdx, hklI, hg1, hg2, hg3, hg4, r1, r2, ek, ek2, hk0, hzi, hzj, hilI, hjlI, f1, f2, -getM, getM_hit, getM_miss, getM_none]; (repeat (simp (disch := first | omega | assumption | fail) only [if_pos, if_neg, wrap64]; try simp [List.zipIdx, hklI, hg1, hg2, hg3, hg4, r1, r2, ek, ek2, hk0, hzi, hzj, hilI, hjlI, f1, f2, -getM, getM_hit, getM_miss, getM_none])))))) | (refine aw_runFt hc ?_; simp [List.zipIdx, hklI, hg1, hg2, hg3, hg4, r1, r2, ek, ek2, hk0, hzi, hzj, hilI, hjlI, f1, f2, -getM, getM_hit, getM_miss, getM_none]; (repeat (simp (disch := first | omega | assumption | fail) only [if_pos, if_neg, wrap64]; try simp [List.zipIdx, hklI, hg1, hg2, hg3, hg4, r1, r2, ek, ek2, hk0, hzi, hzj, hilI, hjlI, f1, f2, -getM, getM_hit, getM_miss, getM_none])); refine ⟨by kernel_rfl, ?_⟩) | (refine aw_run hc (by first | (intro _; rw [ordB_w hw]; kernel_rfl) | (intro _; rw [ordB_w0 hw0]; kernel_rfl) | (intro _; kernel_rfl)) ?_; simp [List.zipIdx, hklI, hg1, hg2, hg3, hg4, r1, r2, ek, ek2, hk0, hzi, hzj, hilI, hjlI, f1, f2, -getM, getM_hit, getM_miss, getM_none]; (repeat (simp (disch := first | omega | assumption | fail) only [if_pos, if_neg, wrap64]; try simp [List.zipIdx, hklI, hg1, hg2, hg3, hg4, r1, r2, ek, ek2, hk0, hzi, hzj, hilI, hjlI, f1, f2, -getM, getM_hit, getM_miss, getM_none])); try (repeat' (refine guardQ_split (fun h => ?_) (fun h => ?_) <;> simp at h <;> (simp [List.zipIdx, hklI, hg1, hg2, hg3, hg4, r1, r2, ek, ek2, hk0, hzi, hzj, hilI, hjlI, f1, f2, -getM, getM_hit, getM_miss, getM_none]; (repeat (simp (disch := first | omega | assumption | fail) only [if_pos, if_neg, wrap64]; try simp [List.zipIdx, hklI, hg1, hg2, hg3, hg4, r1, r2, ek, ek2, hk0, hzi, hzj, hilI, hjlI, f1, f2, -getM, getM_hit, getM_miss, getM_none])))))) | (refine aw_cond (b := _) (by exact rfl) (fun h => ?_) (fun h => ?_) <;> (try simp at h)) | (refine aw_block ?_) | (refine aw_skip ?_; simp only [thenQ, blockQ, if_true]) | (refine aw_exit ?_; simp [thenQ, blockQ]) | (refine aw_ret ?_; simp only [thenQ, blockQ]) | (refine aw_round ?_) | (refine hK _ ?_; clear hK) | (clear hK; refine hK _ ?_; clear hK) | (clear hK; clear hK; refine hK _ ?_; clear hK) | (clear hK; clear hK; clear hK; refine hK _ ?_; clear hK))
          all_goals first
            | (exfalso; omega)
            | (refine ⟨k + 2, ?_, by omega, by omega⟩; exact le_of2 (by simp) (by simp [AVle, AV.under, AV.underL] <;> omega) (by simp [AOle, AO.under, AV.underL, AV.under] <;> omega))
      · obtain rfl : k = O.length := by omega
        repeat' (first | (apply aw_seq_k; intro K hK) | (refine aw_run hc (by first | exact aw_nod | (intro _; rw [ordB_w hw]; kernel_rfl) | (intro _; rw [ordB_w0 hw0]; kernel_rfl) | (intro _; kernel_rfl)) ?_; simp [List.zipIdx, h12, -getM, getM_hit, getM_miss, getM_none]; (repeat (simp (disch := first | omega | assumption | fail) only [if_pos, if_neg, wrap64]; try simp [List.zipIdx, h12, -getM, getM_hit, getM_miss, getM_none])); try (repeat' (refine guardQ_split (fun h => ?_) (fun h => ?_) <;> simp at h <;> (simp [List.zipIdx, h12, -getM, getM_hit, getM_miss, getM_none]; (repeat (simp (disch := first | omega | assumption | fail) only [if_pos, if_neg, wrap64]; try simp [List.zipIdx, h12, -getM, getM_hit, getM_miss, getM_none])))))) | (refine aw_cond (b := _) (by exact rfl) (fun h => ?_) (fun h => ?_) <;> (try simp at h)) | (refine aw_block ?_) | (refine aw_skip ?_; simp only [thenQ, blockQ, if_true]) | (refine aw_exit ?_; simp [thenQ, blockQ]) | (refine aw_ret ?_; simp only [thenQ, blockQ]) | (refine aw_round ?_) | (refine hK _ ?_; clear hK) | (clear hK; refine hK _ ?_; clear hK) | (clear hK; clear hK; refine hK _ ?_; clear hK) | (clear hK; clear hK; clear hK; refine hK _ ?_; clear hK))
        refine ⟨by simp, ?_⟩
        simp [leaves_iff, Try.f7]
        try (first | omega | (refine decide_eq_decide.2 ?_; omega) | (refine decide_eq_false ?_; omega) | (refine decide_eq_true ?_; omega))
  · simp only [hv] at e22
    repeat' (first | (apply aw_seq_k; intro K hK) | (refine aw_run hc (by first | exact aw_nod | (intro _; rw [ordB_w hw]; kernel_rfl) | (intro _; rw [ordB_w0 hw0]; kernel_rfl) | (intro _; kernel_rfl)) ?_; simp [List.zipIdx, L.h22, e22, h12, -getM, getM_hit, getM_miss, getM_none]; (repeat (simp (disch := first | omega | assumption | fail) only [if_pos, if_neg, wrap64]; try simp [List.zipIdx, L.h22, e22, h12, -getM, getM_hit, getM_miss, getM_none])); try (repeat' (refine guardQ_split (fun h => ?_) (fun h => ?_) <;> simp at h <;> (simp [List.zipIdx, L.h22, e22, h12, -getM, getM_hit, getM_miss, getM_none]; (repeat (simp (disch := first | omega | assumption | fail) only [if_pos, if_neg, wrap64]; try simp [List.zipIdx, L.h22, e22, h12, -getM, getM_hit, getM_miss, getM_none])))))) | (refine aw_cond (b := _) (by exact rfl) (fun h => ?_) (fun h => ?_) <;> (try simp at h)) | (refine aw_block ?_) | (refine aw_skip ?_; simp only [thenQ, blockQ, if_true]) | (refine aw_exit ?_; simp [thenQ, blockQ]) | (refine aw_ret ?_; simp only [thenQ, blockQ]) | (refine aw_round ?_) | (refine hK _ ?_; clear hK) | (clear hK; refine hK _ ?_; clear hK) | (clear hK; clear hK; refine hK _ ?_; clear hK) | (clear hK; clear hK; clear hK; refine hK _ ?_; clear hK))
    refine ⟨by simp, ?_⟩
    simp [leaves_iff, Try.f7]
    try (first | omega | (refine decide_eq_decide.2 ?_; omega) | (refine decide_eq_false ?_; omega) | (refine decide_eq_true ?_; omega))
end Go.AM
