/- ZonelistBinds. -/
import Derived.Test.YtdhhdnbdceoenaaZl20
set_option linter.all false

namespace Go.AM
open Go Go.Proofs

theorem tm_shr : ∀ m < 16, ∀ n < 4, Int.tmod (((m : Nat) : Int) / 2 ^ n) 2 = if inM (m : Nat) (n : Nat) then 1 else 0 := by decide
theorem keep_at {q : Int → Bool} {l : List Int} {k : Nat} (h : k < l.length) (hq : q (gi l k) = true) : (kpP q l k).length < (l.filter q).length ∧ gi (l.filter q) (kpP q l k).length = gi l k := by
  have e : l.filter q = kpP q l k ++ gi l k :: (l.drop (k + 1)).filter q := by
    conv => lhs; rw [← List.take_append_drop k l, List.filter_append, drop_gi h]
    rw [List.filter_cons, if_pos hq]; rfl
  rw [e]
  constructor
  · simp
  · unfold gi
    rw [List.getD_eq_getElem?_getD, List.getElem?_append_right (Nat.le_refl _)]
    simp
theorem pickR_bind {zs : List Zo} {m a : Int} {b : Bool} (h : okZs zs ∧ 0 ≤ a ∧ a < 4) (h1 : 1 ≤ m) (h2 : m ≤ 15) : pickR zs ⟨2, m, 0⟩ a b = ((orderL zs a b).filter (fun i => inM m (zg zs i.toNat).node), 0) := by
  have hp : polE ⟨2, m, 0⟩ = 0 := by
    unfold polE
    rw [if_neg (by simp), if_neg (by simp; omega), if_neg (by simp)]
  rw [pickR_ok (pickE_zero.2 ⟨h.1, hp, h.2⟩)]
  simp [pickL]

set_option maxHeartbeats 2000000 in
theorem s8 (X : AX) (L : LawX X) (h12 : ∀ M n, X.call 12 [] M n = some (B true, [])) : PSound Try.prog 8 (specF (ι := List Zx × Int × Int × Bool) (fun x => [.rd 10 (zrows x.1), I x.2.1, .agg [I x.2.2.1, B x.2.2.2]]) fun _ => retOf [B true]) := by
  have hX := L.ok
  have hw := L.w
  refine psound_spec hX mixed Try.func8 rfl fun ⟨xs, m, a, b⟩ w0 G => ⟨by show 3 ≤ 110; decide, rfl, ?_⟩
  show AW ⟨Try.prog, X, 110, w0, .pure G⟩ _ _ _
  have hc : Cx.OK ⟨Try.prog, X, 110, w0, .pure G⟩ := ⟨hX, mixed⟩
  simp only
  have e22 := F22_at xs a
  rcases Decidable.em (okZs (zos xs) ∧ 0 ≤ a ∧ a < 4) with hv | hv
  · simp only [hv] at e22
    rcases Decidable.em (m < 1) with hm1 | hm1
    · repeat' (first | (apply aw_seq_k; intro K hK) | (refine aw_run hc (by first | exact aw_nod | (intro _; rw [ordB_w hw]; kernel_rfl) | (intro _; rw [ordB_w0 hw0]; kernel_rfl) | (intro _; kernel_rfl)) ?_; simp [List.zipIdx, L.h22, e22, hm1, h12, -getM, getM_hit, getM_miss, getM_none]; (repeat (simp (disch := first | omega | assumption | fail) only [if_pos, if_neg, wrap64]; try simp [List.zipIdx, L.h22, e22, hm1, h12, -getM, getM_hit, getM_miss, getM_none])); try (repeat' (refine guardQ_split (fun h => ?_) (fun h => ?_) <;> simp at h <;> (simp [List.zipIdx, L.h22, e22, hm1, h12, -getM, getM_hit, getM_miss, getM_none]; (repeat (simp (disch := first | omega | assumption | fail) only [if_pos, if_neg, wrap64]; try simp [List.zipIdx, L.h22, e22, hm1, h12, -getM, getM_hit, getM_miss, getM_none])))))) | (refine aw_cond (b := _) (by exact rfl) (fun h => ?_) (fun h => ?_) <;> (try simp at h)) | (refine aw_block ?_) | (refine aw_skip ?_; simp only [thenQ, blockQ, if_true]) | (refine aw_exit ?_; simp [thenQ, blockQ]) | (refine aw_ret ?_; simp only [thenQ, blockQ]) | (refine aw_round ?_) | (refine hK _ ?_; clear hK) | (clear hK; refine hK _ ?_; clear hK) | (clear hK; clear hK; refine hK _ ?_; clear hK) | (clear hK; clear hK; clear hK; refine hK _ ?_; clear hK))
      refine ⟨by simp, ?_⟩
      simp [leaves_iff, Try.f8]
      try (first | omega | (refine decide_eq_decide.2 ?_; omega) | (refine decide_eq_false ?_; omega) | (refine decide_eq_true ?_; omega))
    rcases Decidable.em (16 ≤ m) with hm2 | hm2
    · repeat' (first | (apply aw_seq_k; intro K hK) | (refine aw_run hc (by first | exact aw_nod | (intro _; rw [ordB_w hw]; kernel_rfl) | (intro _; rw [ordB_w0 hw0]; kernel_rfl) | (intro _; kernel_rfl)) ?_; simp [List.zipIdx, L.h22, e22, hm1, hm2, h12, -getM, getM_hit, getM_miss, getM_none]; (repeat (simp (disch := first | omega | assumption | fail) only [if_pos, if_neg, wrap64]; try simp [List.zipIdx, L.h22, e22, hm1, hm2, h12, -getM, getM_hit, getM_miss, getM_none])); try (repeat' (refine guardQ_split (fun h => ?_) (fun h => ?_) <;> simp at h <;> (simp [List.zipIdx, L.h22, e22, hm1, hm2, h12, -getM, getM_hit, getM_miss, getM_none]; (repeat (simp (disch := first | omega | assumption | fail) only [if_pos, if_neg, wrap64]; try simp [List.zipIdx, L.h22, e22, hm1, hm2, h12, -getM, getM_hit, getM_miss, getM_none])))))) | (refine aw_cond (b := _) (by exact rfl) (fun h => ?_) (fun h => ?_) <;> (try simp at h)) | (refine aw_block ?_) | (refine aw_skip ?_; simp only [thenQ, blockQ, if_true]) | (refine aw_exit ?_; simp [thenQ, blockQ]) | (refine aw_ret ?_; simp only [thenQ, blockQ]) | (refine aw_round ?_) | (refine hK _ ?_; clear hK) | (clear hK; refine hK _ ?_; clear hK) | (clear hK; clear hK; refine hK _ ?_; clear hK) | (clear hK; clear hK; clear hK; refine hK _ ?_; clear hK))
      refine ⟨by simp, ?_⟩
      simp [leaves_iff, Try.f8]
      try (first | omega | (refine decide_eq_decide.2 ?_; omega) | (refine decide_eq_false ?_; omega) | (refine decide_eq_true ?_; omega))
    have e17 := F17_at xs a b
    rw [orderR_ok hv] at e17
    have e20 := F20_at xs 2 m 0 a b
    rw [pickR_bind hv (by omega) (by omega)] at e20
    obtain ⟨hok, hn⟩ := hv
    have hran := fun x hx => order_range (x := x) (kernel := b) hok hn hx
    have hlen := order_len (kernel := b) hok hn
    obtain ⟨mn, rfl⟩ := Int.eq_ofNat_of_zero_le (show 0 ≤ m by omega)
    obtain ⟨q, hq⟩ : ∃ q, q = (fun i : Int => inM mn (zg (zos xs) i.toNat).node) := ⟨_, rfl⟩
    obtain ⟨O, hO⟩ : ∃ O, O = orderL (zos xs) a b := ⟨_, rfl⟩
    rw [← hq, ← hO] at e20
    rw [← hO] at e17 hlen
    simp only [← hO] at hran e17 e20
    obtain ⟨K0, hK0⟩ : ∃ K, K = O.filter q := ⟨_, rfl⟩
    rw [← hK0] at e20
    have hkl0 : K0.length ≤ 6 := by rw [hK0]; exact Nat.le_trans (List.length_filter_le _ _) hlen
    repeat' (first | (apply aw_seq_k; intro K hK) | (refine aw_run hc (by first | exact aw_nod | (intro _; rw [ordB_w hw]; kernel_rfl) | (intro _; rw [ordB_w0 hw0]; kernel_rfl) | (intro _; kernel_rfl)) ?_; simp [List.zipIdx, L.h22, L.h17, L.h20, e22, e17, e20, hm1, hm2, h12, tk1, -getM, getM_hit, getM_miss, getM_none]; (repeat (simp (disch := first | omega | assumption | fail) only [if_pos, if_neg, wrap64]; try simp [List.zipIdx, L.h22, L.h17, L.h20, e22, e17, e20, hm1, hm2, h12, tk1, -getM, getM_hit, getM_miss, getM_none])); try (repeat' (refine guardQ_split (fun h => ?_) (fun h => ?_) <;> simp at h <;> (simp [List.zipIdx, L.h22, L.h17, L.h20, e22, e17, e20, hm1, hm2, h12, tk1, -getM, getM_hit, getM_miss, getM_none]; (repeat (simp (disch := first | omega | assumption | fail) only [if_pos, if_neg, wrap64]; try simp [List.zipIdx, L.h22, L.h17, L.h20, e22, e17, e20, hm1, hm2, h12, tk1, -getM, getM_hit, getM_miss, getM_none])))))) | (refine aw_cond (b := _) (by exact rfl) (fun h => ?_) (fun h => ?_) <;> (try simp at h)) | (refine aw_block ?_) | (refine aw_skip ?_; simp only [thenQ, blockQ, if_true]) | (refine aw_exit ?_; simp [thenQ, blockQ]) | (refine aw_ret ?_; simp only [thenQ, blockQ]) | (refine aw_round ?_) | (refine hK _ ?_; clear hK) | (clear hK; refine hK _ ?_; clear hK) | (clear hK; clear hK; refine hK _ ?_; clear hK) | (clear hK; clear hK; clear hK; refine hK _ ?_; clear hK))
    refine aw_loopK (s0 := ?lps1) (m0 := ?lpm1) (ι := {k : Nat // k ≤ O.length}) [0, 1, 7, 9] (fun k => [(12, I k.1), (11, I ((kpP q O k.1).length : Nat))]) (fun _ => []) (fun k => O.length - k.1) ⟨0, by omega⟩ ?lhs1 ?lhm1 ?_ ?_
    case lhs1 => first | (simp [keepS]; done) | (simp [keepS]; rfl)
    case lhm1 => first | rfl | (simp; done) | (simp; rfl)
    · simp only [kpP_zero, List.length_nil]
      exact le_of2 (by simp) (by simp [AVle, AV.under, AV.underL] <;> omega) (by simp [AOle, AO.under, AV.underL, AV.under] <;> omega)
    · rintro ⟨k, hk⟩
      simp only
      have hpl := kpP_len q O k
      rcases Decidable.em (k < O.length) with hkl | hkl
      · have hklI : (k : Int) < (O.length : Int) := by omega
        have hr := hran _ (gi_mem hkl)
        rw [zos_len] at hr
        have hka := keep_at (q := q) hkl
        have hin := kpP_in (q := q) hkl
        have hout := kpP_out (q := q) hkl
        have hg1 := irows_gi hkl
        have hg2 := gE hkl
        obtain ⟨c, hcd⟩ : ∃ c, c = gi O k := ⟨_, rfl⟩
        rw [← hcd] at hr hka hin hout hg1 hg2
        obtain ⟨i, rfl⟩ := Int.eq_ofNat_of_zero_le hr.1
        have hil : i < xs.length := by omega
        have hilI : (i : Int) < (xs.length : Int) := by omega
        have r1 : ¬ (i : Int) < 0 := by omega
        have r2 : ¬ (xs.length : Int) ≤ (i : Int) := by omega
        have hzi := zrows_get hil
        simp only [Zx.row] at hzi
        have hz := zx_z hil
        rw [hz] at hzi
        have oi := (hok.2 _ (zg_mem (zs := zos xs) (i := i) (by rw [zos_len]; exact hil))).1
        obtain ⟨d, hd⟩ := Int.eq_ofNat_of_zero_le oi.1
        have hqe : q (i : Int) = inM mn d := by rw [hq]; simp [hd]
        rw [hd] at hzi
        have hts := tm_shr mn (by omega) d (by omega)
        have hmin : min d IntKind.i64.bits = d := by show min d 64 = d; omega
        have hwu := wrapU64 (n := (d : Int)) ⟨by omega, by omega⟩
        rw [hqe] at hka hin hout
        cases hi : inM (mn : Int) (d : Int)
        · rw [hi] at hts hout
          have ho := hout rfl
          simp at hts
          repeat' (first | (apply aw_seq_k; intro K hK) | (refine aw_run hc (by first | exact aw_nod | (intro _; rw [ordB_w hw]; kernel_rfl) | (intro _; rw [ordB_w0 hw0]; kernel_rfl) | (intro _; kernel_rfl)) ?_; simp [List.zipIdx, hklI, hg1, hg2, r1, r2, hzi, hilI, hts, hmin, hwu, -getM, getM_hit, getM_miss, getM_none]; (repeat (simp (disch := first | omega | assumption | fail) only [if_pos, if_neg, wrap64]; try simp [List.zipIdx, hklI, hg1, hg2, r1, r2, hzi, hilI, hts, hmin, hwu, -getM, getM_hit, getM_miss, getM_none])); try (repeat' (refine guardQ_split (fun h => ?_) (fun h => ?_) <;> simp at h <;> (simp [List.zipIdx, hklI, hg1, hg2, r1, r2, hzi, hilI, hts, hmin, hwu, -getM, getM_hit, getM_miss, getM_none]; (repeat (simp (disch := first | omega | assumption | fail) only [if_pos, if_neg, wrap64]; try simp [List.zipIdx, hklI, hg1, hg2, r1, r2, hzi, hilI, hts, hmin, hwu, -getM, getM_hit, getM_miss, getM_none])))))) | (refine aw_cond (b := _) (by exact rfl) (fun h => ?_) (fun h => ?_) <;> (try simp at h)) | (refine aw_block ?_) | (refine aw_skip ?_; simp only [thenQ, blockQ, if_true]) | (refine aw_exit ?_; simp [thenQ, blockQ]) | (refine aw_ret ?_; simp only [thenQ, blockQ]) | (refine aw_round ?_) | (refine hK _ ?_; clear hK) | (clear hK; refine hK _ ?_; clear hK) | (clear hK; clear hK; refine hK _ ?_; clear hK) | (clear hK; clear hK; clear hK; refine hK _ ?_; clear hK))
          refine ⟨k + 1, ?_, by omega, by omega⟩
          simp only [ho]
          exact le_of2 (by simp) (by simp [AVle, AV.under, AV.underL] <;> omega) (by simp [AOle, AO.under, AV.underL, AV.under] <;> omega)
        · rw [hi] at hts hin hka
          have ho := hin rfl
          have hl2 : (kpP q O (k + 1)).length = (kpP q O k).length + 1 := by rw [ho]; simp
          obtain ⟨hka1, hka2⟩ := hka rfl
          rw [← hK0] at hka1 hka2
          have hg3 := irows_gi hka1
          have hg4 := gE hka1
          rw [hka2] at hg3 hg4
          have hka3 : ¬ (K0.length : Int) ≤ ((kpP q O k).length : Int) := by omega
          simp at hts
          repeat' (first | (apply aw_seq_k; intro K hK) | (refine aw_run hc (by first | exact aw_nod | (intro _; rw [ordB_w hw]; kernel_rfl) | (intro _; rw [ordB_w0 hw0]; kernel_rfl) | (intro _; kernel_rfl)) ?_; simp [List.zipIdx, hklI, hg1, hg2, hg3, hg4, r1, r2, hka3, hzi, hilI, hts, hmin, hwu, -getM, getM_hit, getM_miss, getM_none]; (repeat (simp (disch := first | omega | assumption | fail) only [if_pos, if_neg, wrap64]; try simp [List.zipIdx, hklI, hg1, hg2, hg3, hg4, r1, r2, hka3, hzi, hilI, hts, hmin, hwu, -getM, getM_hit, getM_miss, getM_none])); try (repeat' (refine guardQ_split (fun h => ?_) (fun h => ?_) <;> simp at h <;> (simp [List.zipIdx, hklI, hg1, hg2, hg3, hg4, r1, r2, hka3, hzi, hilI, hts, hmin, hwu, -getM, getM_hit, getM_miss, getM_none]; (repeat (simp (disch := first | omega | assumption | fail) only [if_pos, if_neg, wrap64]; try simp [List.zipIdx, hklI, hg1, hg2, hg3, hg4, r1, r2, hka3, hzi, hilI, hts, hmin, hwu, -getM, getM_hit, getM_miss, getM_none])))))) | (refine aw_cond (b := _) (by exact rfl) (fun h => ?_) (fun h => ?_) <;> (try simp at h)) | (refine aw_block ?_) | (refine aw_skip ?_; simp only [thenQ, blockQ, if_true]) | (refine aw_exit ?_; simp [thenQ, blockQ]) | (refine aw_ret ?_; simp only [thenQ, blockQ]) | (refine aw_round ?_) | (refine hK _ ?_; clear hK) | (clear hK; refine hK _ ?_; clear hK) | (clear hK; clear hK; refine hK _ ?_; clear hK) | (clear hK; clear hK; clear hK; refine hK _ ?_; clear hK))
          refine ⟨k + 1, ?_, by omega, by omega⟩
          simp only [hl2]
          exact le_of2 (by simp) (by simp [AVle, AV.under, AV.underL] <;> omega) (by simp [AOle, AO.under, AV.underL, AV.under] <;> omega)
      · obtain rfl : k = O.length := by omega
        rw [kpP_all, ← hK0]
        repeat' (first | (apply aw_seq_k; intro K hK) | (refine aw_run hc (by first | exact aw_nod | (intro _; rw [ordB_w hw]; kernel_rfl) | (intro _; rw [ordB_w0 hw0]; kernel_rfl) | (intro _; kernel_rfl)) ?_; simp [List.zipIdx, h12, -getM, getM_hit, getM_miss, getM_none]; (repeat (simp (disch := first | omega | assumption | fail) only [if_pos, if_neg, wrap64]; try simp [List.zipIdx, h12, -getM, getM_hit, getM_miss, getM_none])); try (repeat' (refine guardQ_split (fun h => ?_) (fun h => ?_) <;> simp at h <;> (simp [List.zipIdx, h12, -getM, getM_hit, getM_miss, getM_none]; (repeat (simp (disch := first | omega | assumption | fail) only [if_pos, if_neg, wrap64]; try simp [List.zipIdx, h12, -getM, getM_hit, getM_miss, getM_none])))))) | (refine aw_cond (b := _) (by exact rfl) (fun h => ?_) (fun h => ?_) <;> (try simp at h)) | (refine aw_block ?_) | (refine aw_skip ?_; simp only [thenQ, blockQ, if_true]) | (refine aw_exit ?_; simp [thenQ, blockQ]) | (refine aw_ret ?_; simp only [thenQ, blockQ]) | (refine aw_round ?_) | (refine hK _ ?_; clear hK) | (clear hK; refine hK _ ?_; clear hK) | (clear hK; clear hK; refine hK _ ?_; clear hK) | (clear hK; clear hK; clear hK; refine hK _ ?_; clear hK))
        refine ⟨by simp, ?_⟩
        simp [leaves_iff, Try.f8]
        try (first | omega | (refine decide_eq_decide.2 ?_; omega) | (refine decide_eq_false ?_; omega) | (refine decide_eq_true ?_; omega))
  · simp only [hv] at e22
    repeat' (first | (apply aw_seq_k; intro K hK) | (refine aw_run hc (by first | exact aw_nod | (intro _; rw [ordB_w hw]; kernel_rfl) | (intro _; rw [ordB_w0 hw0]; kernel_rfl) | (intro _; kernel_rfl)) ?_; simp [List.zipIdx, L.h22, e22, h12, -getM, getM_hit, getM_miss, getM_none]; (repeat (simp (disch := first | omega | assumption | fail) only [if_pos, if_neg, wrap64]; try simp [List.zipIdx, L.h22, e22, h12, -getM, getM_hit, getM_miss, getM_none])); try (repeat' (refine guardQ_split (fun h => ?_) (fun h => ?_) <;> simp at h <;> (simp [List.zipIdx, L.h22, e22, h12, -getM, getM_hit, getM_miss, getM_none]; (repeat (simp (disch := first | omega | assumption | fail) only [if_pos, if_neg, wrap64]; try simp [List.zipIdx, L.h22, e22, h12, -getM, getM_hit, getM_miss, getM_none])))))) | (refine aw_cond (b := _) (by exact rfl) (fun h => ?_) (fun h => ?_) <;> (try simp at h)) | (refine aw_block ?_) | (refine aw_skip ?_; simp only [thenQ, blockQ, if_true]) | (refine aw_exit ?_; simp [thenQ, blockQ]) | (refine aw_ret ?_; simp only [thenQ, blockQ]) | (refine aw_round ?_) | (refine hK _ ?_; clear hK) | (clear hK; refine hK _ ?_; clear hK) | (clear hK; clear hK; refine hK _ ?_; clear hK) | (clear hK; clear hK; clear hK; refine hK _ ?_; clear hK))
    refine ⟨by simp, ?_⟩
    simp [leaves_iff, Try.f8]
    try (first | omega | (refine decide_eq_decide.2 ?_; omega) | (refine decide_eq_false ?_; omega) | (refine decide_eq_true ?_; omega))
end Go.AM
