/- Zonelist: the reference's Pick. -/
import Derived.Test.YtdhhdnbdceoenaaZl15
set_option linter.all false

namespace Go.AM
open Go Go.Proofs

def keepQ (zs : List Zo) (p : Po) (x : Int) : Bool := decide (p.kind ≠ 2) || inM p.nodes (zg zs x.toNat).node
def kpP (q : Int → Bool) (L : List Int) (i : Nat) : List Int := (L.take i).filter q
theorem kpP_zero (q : Int → Bool) (L : List Int) : kpP q L 0 = [] := rfl
theorem kpP_all (q : Int → Bool) (L : List Int) : kpP q L L.length = L.filter q := by unfold kpP; rw [List.take_length]
theorem kpP_in {q : Int → Bool} {L : List Int} {i : Nat} (h : i < L.length) (hq : q (gi L i) = true) : kpP q L (i + 1) = kpP q L i ++ [gi L i] := by
  unfold kpP; rw [take_succ_gi h, List.filter_append]; simp [List.filter_cons, hq]
theorem kpP_out {q : Int → Bool} {L : List Int} {i : Nat} (h : i < L.length) (hq : q (gi L i) = false) : kpP q L (i + 1) = kpP q L i := by
  unfold kpP; rw [take_succ_gi h, List.filter_append]; simp [List.filter_cons, hq]
theorem kpP_len (q : Int → Bool) (L : List Int) (i : Nat) : (kpP q L i).length ≤ L.length := by
  unfold kpP
  refine Nat.le_trans (List.length_filter_le _ _) ?_
  rw [List.length_take]; exact Nat.min_le_right _ _
theorem pick_filter {zs : List Zo} {p : Po} {n : Int} {k : Bool} : (orderL zs (firstN p n) k).filter (keepQ zs p) = pickL zs p n k := by
  unfold pickL
  by_cases h : p.kind = 2
  · rw [if_pos h]
    have : firstN p n = n := by unfold firstN; rw [if_neg (by omega), if_neg (by omega)]
    rw [this]
    exact List.filter_congr fun x _ => by simp [keepQ, h]
  · rw [if_neg h]
    refine List.filter_eq_self.2 fun x _ => ?_
    simp [keepQ, h]

set_option maxHeartbeats 1000000 in
theorem s21 (X : AX) (hX : XOK Try.prog X) (hw : X.W wT) (h14 : ∀ xs M n, X.call 14 [.rd 10 (zrows xs)] M n = some (I (chkZ (zos xs)), []))
    (h37 : ∀ p : Po, ∀ M n, X.call 37 [.agg [I p.kind, I p.nodes, I p.turn]] M n = some (I (polE p), []))
    (h38 : ∀ (p : Po) f M n, polE p = 0 → X.call 38 [.agg [I p.kind, I p.nodes, I p.turn], I f] M n = some (I (firstN p f), []))
    (h39 : ∀ (m n : Nat) M k, m < 16 → n < 4 → X.call 39 [I m, I n] M k = some (B (inM m n), []))
    (h18 : ∀ xs n k M i, errN (zos xs) n = 0 → X.call 18 [.rd 10 (zrows xs), I n, B k] M i = some (.tup [.sl i 1 1 0 (orderL (zos xs) n k).length, I 0], [(i, .vec 1 1 false (irows (orderL (zos xs) n k)))])) :
    PSound Try.prog 21 (specF (ι := PkA) (fun x => [.rd 10 (zrows x.xs), .agg [I x.p.kind, I x.p.nodes, I x.p.turn], I x.n, B x.k]) fun x => retOf [.ow 1 (irows x.R.1), I x.R.2]) := by
  refine psound_spec hX mixed Try.func21 rfl fun ⟨xs, ⟨k, m, t⟩, n, kernel⟩ w0 G => ⟨by show 4 ≤ 71; decide, rfl, ?_⟩
  show AW ⟨Try.prog, X, 71, w0, .pure G⟩ _ _ _
  have hc : Cx.OK ⟨Try.prog, X, 71, w0, .pure G⟩ := ⟨hX, mixed⟩
  simp only [PkA.R]
  have h37z := fun M i => h37 ⟨k, m, t⟩ M i
  simp only at h37z
  have h14z := fun M i => h14 xs M i
  rcases Decidable.em (chkZ (zos xs) = 0) with hch | hch
  · simp only [hch] at h14z
    rcases Decidable.em (polE ⟨k, m, t⟩ = 0) with hp | hp
    · simp only [hp] at h37z
      rcases Decidable.em (n < 0) with h1 | h1
      · rw [pickR_err 2 (by unfold pickE; rw [if_neg (by simp [hch]), if_neg (by simp [hp]), if_pos (.inl h1)]) (by decide)]
        repeat' (first | (apply aw_seq_k; intro K hK) | (refine aw_run hc (by first | exact aw_nod | (intro _; rw [ordB_w hw]; kernel_rfl) | (intro _; rw [ordB_w0 hw0]; kernel_rfl) | (intro _; kernel_rfl)) ?_; simp [List.zipIdx, h14z, h37z, h1, -getM, getM_hit, getM_miss, getM_none]; (repeat (simp (disch := first | omega | assumption | fail) only [if_pos, if_neg, wrap64]; try simp [List.zipIdx, h14z, h37z, h1, -getM, getM_hit, getM_miss, getM_none])); try (repeat' (refine guardQ_split (fun h => ?_) (fun h => ?_) <;> simp at h <;> (simp [List.zipIdx, h14z, h37z, h1, -getM, getM_hit, getM_miss, getM_none]; (repeat (simp (disch := first | omega | assumption | fail) only [if_pos, if_neg, wrap64]; try simp [List.zipIdx, h14z, h37z, h1, -getM, getM_hit, getM_miss, getM_none])))))) | (refine aw_cond (b := _) (by exact rfl) (fun h => ?_) (fun h => ?_) <;> (try simp at h)) | (refine aw_block ?_) | (refine aw_skip ?_; simp only [thenQ, blockQ, if_true]) | (refine aw_exit ?_; simp [thenQ, blockQ]) | (refine aw_ret ?_; simp only [thenQ, blockQ]) | (refine aw_round ?_) | (refine hK _ ?_; clear hK) | (clear hK; refine hK _ ?_; clear hK) | (clear hK; clear hK; refine hK _ ?_; clear hK) | (clear hK; clear hK; clear hK; refine hK _ ?_; clear hK))
        refine ⟨by simp, ?_⟩
        simp [leaves_iff, Try.f21, irows]
        try (first | omega | (refine decide_eq_decide.2 ?_; omega) | (refine decide_eq_false ?_; omega) | (refine decide_eq_true ?_; omega))
      rcases Decidable.em (4 ≤ n) with h2 | h2
      · rw [pickR_err 2 (by unfold pickE; rw [if_neg (by simp [hch]), if_neg (by simp [hp]), if_pos (.inr h2)]) (by decide)]
        repeat' (first | (apply aw_seq_k; intro K hK) | (refine aw_run hc (by first | exact aw_nod | (intro _; rw [ordB_w hw]; kernel_rfl) | (intro _; rw [ordB_w0 hw0]; kernel_rfl) | (intro _; kernel_rfl)) ?_; simp [List.zipIdx, h14z, h37z, h1, h2, -getM, getM_hit, getM_miss, getM_none]; (repeat (simp (disch := first | omega | assumption | fail) only [if_pos, if_neg, wrap64]; try simp [List.zipIdx, h14z, h37z, h1, h2, -getM, getM_hit, getM_miss, getM_none])); try (repeat' (refine guardQ_split (fun h => ?_) (fun h => ?_) <;> simp at h <;> (simp [List.zipIdx, h14z, h37z, h1, h2, -getM, getM_hit, getM_miss, getM_none]; (repeat (simp (disch := first | omega | assumption | fail) only [if_pos, if_neg, wrap64]; try simp [List.zipIdx, h14z, h37z, h1, h2, -getM, getM_hit, getM_miss, getM_none])))))) | (refine aw_cond (b := _) (by exact rfl) (fun h => ?_) (fun h => ?_) <;> (try simp at h)) | (refine aw_block ?_) | (refine aw_skip ?_; simp only [thenQ, blockQ, if_true]) | (refine aw_exit ?_; simp [thenQ, blockQ]) | (refine aw_ret ?_; simp only [thenQ, blockQ]) | (refine aw_round ?_) | (refine hK _ ?_; clear hK) | (clear hK; refine hK _ ?_; clear hK) | (clear hK; clear hK; refine hK _ ?_; clear hK) | (clear hK; clear hK; clear hK; refine hK _ ?_; clear hK))
        refine ⟨by simp, ?_⟩
        simp [leaves_iff, Try.f21, irows]
        try (first | omega | (refine decide_eq_decide.2 ?_; omega) | (refine decide_eq_false ?_; omega) | (refine decide_eq_true ?_; omega))
      have hok := chkZ_zero.1 hch
      have hn : 0 ≤ n ∧ n < 4 := by omega
      have hf := firstN_ok (node := n) hp hn
      rw [pickR_ok (by unfold pickE; rw [if_neg (by simp [hch]), if_neg (by simp [hp]), if_neg (by omega)])]
      rw [← pick_filter]
      simp only
      have h38z := fun M i => h38 ⟨k, m, t⟩ n M i hp
      simp only at h38z
      have h18z := fun M i => h18 xs (firstN ⟨k, m, t⟩ n) kernel M i (errN_zero.2 ⟨hok, hf⟩)
      obtain ⟨f, hfe⟩ : ∃ f, f = firstN ⟨k, m, t⟩ n := ⟨_, rfl⟩
      rw [← hfe] at h38z h18z hf ⊢
      have hLr := fun x hx => order_range (kernel := kernel) (x := x) hok hf hx
      have hLl := order_len (kernel := kernel) hok hf
      obtain ⟨L, hL⟩ : ∃ L, L = orderL (zos xs) f kernel := ⟨_, rfl⟩
      rw [← hL] at h18z hLl ⊢
      simp only [← hL] at hLr
      obtain ⟨q, hq⟩ : ∃ q, q = keepQ (zos xs) ⟨k, m, t⟩ := ⟨_, rfl⟩
      rw [← hq]
      have hap : ∀ (A : List Int) (x : Int), irows A ++ [[I x]] = irows (A ++ [x]) := fun A x => by rw [irows_one, irows_append]
      have htk : ∀ L : List Int, List.take L.length (irows L) = irows L := take_irows
      repeat' (first | (apply aw_seq_k; intro K hK) | (refine aw_run hc (by first | exact aw_nod | (intro _; rw [ordB_w hw]; kernel_rfl) | (intro _; rw [ordB_w0 hw0]; kernel_rfl) | (intro _; kernel_rfl)) ?_; simp [List.zipIdx, h14z, h37z, h1, h2, h38z, h18z, -getM, getM_hit, getM_miss, getM_none]; (repeat (simp (disch := first | omega | assumption | fail) only [if_pos, if_neg, wrap64]; try simp [List.zipIdx, h14z, h37z, h1, h2, h38z, h18z, -getM, getM_hit, getM_miss, getM_none])); try (repeat' (refine guardQ_split (fun h => ?_) (fun h => ?_) <;> simp at h <;> (simp [List.zipIdx, h14z, h37z, h1, h2, h38z, h18z, -getM, getM_hit, getM_miss, getM_none]; (repeat (simp (disch := first | omega | assumption | fail) only [if_pos, if_neg, wrap64]; try simp [List.zipIdx, h14z, h37z, h1, h2, h38z, h18z, -getM, getM_hit, getM_miss, getM_none])))))) | (refine aw_cond (b := _) (by exact rfl) (fun h => ?_) (fun h => ?_) <;> (try simp at h)) | (refine aw_block ?_) | (refine aw_skip ?_; simp only [thenQ, blockQ, if_true]) | (refine aw_exit ?_; simp [thenQ, blockQ]) | (refine aw_ret ?_; simp only [thenQ, blockQ]) | (refine aw_round ?_) | (refine hK _ ?_; clear hK) | (clear hK; refine hK _ ?_; clear hK) | (clear hK; clear hK; refine hK _ ?_; clear hK) | (clear hK; clear hK; clear hK; refine hK _ ?_; clear hK))
      refine aw_weaken (le_nilslot (t := 14) (sz := 1) (by simp)) ?_
      refine aw_loopK (s0 := ?lps1) (m0 := ?lpm1) (ι := {i : Nat // i ≤ L.length}) [0, 5, 12] (fun i => [(15, I i.1), (14, .sl 512 1 1 0 (kpP q L i.1).length)]) (fun i => [(512, .vec 1 1 false (irows (kpP q L i.1)))]) (fun i => L.length - i.1) ⟨0, by omega⟩ ?lhs1 ?lhm1 ?_ ?_
      case lhs1 => first | (simp [keepS]; done) | (simp [keepS]; rfl)
      case lhm1 => first | rfl | (simp; done) | (simp; rfl)
      · skip
        simp only [kpP_zero]
        exact le_of2 (by simp) (by simp [AVle, AV.under, AV.underL] <;> omega) (by simp [AOle, AO.under, AV.underL, AV.under] <;> omega)
      · rintro ⟨i, hi⟩
        simp only
        have hkl := kpP_len q L i
        rcases Decidable.em (i < L.length) with hil | hil
        · have hilI : (i : Int) < (L.length : Int) := by omega
          have hgL := irows_gi hil
          have hgLE : ∀ h, (irows L)[i]'h = [I (gi L i)] := fun h => by rw [List.getElem?_eq_getElem h] at hgL; exact Option.some.inj hgL
          have hxr := hLr _ (gi_mem hil)
          have hnx1 := kpP_in (q := q) hil
          have hnx0 := kpP_out (q := q) hil
          obtain ⟨c, hcd⟩ : ∃ c, c = gi L i := ⟨_, rfl⟩
          rw [← hcd] at hgL hgLE hxr hnx1 hnx0
          obtain ⟨j, rfl⟩ := Int.eq_ofNat_of_zero_le hxr.1
          have hj : j < xs.length := by have := hxr.2; rw [zos_len] at this; omega
          have hg := zrows_get hj
          simp only [Zx.row] at hg
          have hz := zx_z hj
          rw [hz] at hg
          have hjI : (j : Int) < (xs.length : Int) := by omega
          have hkl2 : (kpP q L i).length ≤ 1073741823 := by omega
          rcases Decidable.em (k = 2) with hk2 | hk2
          · have hmb : 1 ≤ m ∧ m ≤ 15 := by
              unfold polE at hp
              simp only at hp
              split at hp
              · omega
              · split at hp
                · omega
                · omega
            obtain ⟨mn, rfl⟩ := Int.eq_ofNat_of_zero_le (show 0 ≤ m by omega)
            have hnd := (hok.2 _ (zg_mem (zs := zos xs) (i := j) (by rw [zos_len]; exact hj))).1
            obtain ⟨d, hd⟩ := Int.eq_ofNat_of_zero_le hnd.1
            have h39z := fun M k => h39 mn d M k (by omega) (by omega)
            have hqe : q (j : Int) = inM mn d := by rw [hq]; simp [keepQ, hk2, hd]
            rw [hqe] at hnx1 hnx0
            rw [hd] at hg
            cases hin : inM (mn : Int) (d : Int)
            · have hnx := hnx0 hin
              simp only [hin] at h39z
              repeat' (first | (apply aw_seq_k; intro K hK) | (refine aw_run hc (by first | exact aw_nod | (intro _; rw [ordB_w hw]; kernel_rfl) | (intro _; rw [ordB_w0 hw0]; kernel_rfl) | (intro _; kernel_rfl)) ?_; simp [List.zipIdx, hilI, hk2, hgL, hgLE, hg, hjI, h39z, -getM, getM_hit, getM_miss, getM_none]; (repeat (simp (disch := first | omega | assumption | fail) only [if_pos, if_neg, wrap64]; try simp [List.zipIdx, hilI, hk2, hgL, hgLE, hg, hjI, h39z, -getM, getM_hit, getM_miss, getM_none])); try (repeat' (refine guardQ_split (fun h => ?_) (fun h => ?_) <;> simp at h <;> (simp [List.zipIdx, hilI, hk2, hgL, hgLE, hg, hjI, h39z, -getM, getM_hit, getM_miss, getM_none]; (repeat (simp (disch := first | omega | assumption | fail) only [if_pos, if_neg, wrap64]; try simp [List.zipIdx, hilI, hk2, hgL, hgLE, hg, hjI, h39z, -getM, getM_hit, getM_miss, getM_none])))))) | (refine aw_cond (b := _) (by exact rfl) (fun h => ?_) (fun h => ?_) <;> (try simp at h)) | (refine aw_block ?_) | (refine aw_skip ?_; simp only [thenQ, blockQ, if_true]) | (refine aw_exit ?_; simp [thenQ, blockQ]) | (refine aw_ret ?_; simp only [thenQ, blockQ]) | (refine aw_round ?_) | (refine hK _ ?_; clear hK) | (clear hK; refine hK _ ?_; clear hK) | (clear hK; clear hK; refine hK _ ?_; clear hK) | (clear hK; clear hK; clear hK; refine hK _ ?_; clear hK))
              refine ⟨i + 1, ?_, by omega, by omega⟩
              simp only [hnx]
              refine le_turn (s1 := ?tus2) (m1 := ?tum2) [] [0, 5, 12, 14, 15] [0, 384, 512] ?tua2 ?tub2 ?tuc2 ?tud2 ?tue2 ?tuf2 ?tug2
              case tua2 => first | (simp [keepS]; done) | (simp [keepS]; rfl)
              case tub2 => first | (simp; done) | (simp; rfl)
              case tuc2 => simp
              case tud2 => simp
              case tue2 => simp
              case tuf2 => simp
              case tug2 =>
                simp [swp, vr]
                exact le_of2 (by simp) (by simp [AVle, AV.under, AV.underL] <;> omega) (by simp [AOle, AO.under, AV.underL, AV.under] <;> omega)
            · have hnx := hnx1 hin
              have hl2 : (kpP q L (i + 1)).length = (kpP q L i).length + 1 := by rw [hnx]; simp
              simp only [hin] at h39z
              repeat' (first | (apply aw_seq_k; intro K hK) | (refine aw_run hc (by first | exact aw_nod | (intro _; rw [ordB_w hw]; kernel_rfl) | (intro _; rw [ordB_w0 hw0]; kernel_rfl) | (intro _; kernel_rfl)) ?_; simp [List.zipIdx, hilI, hk2, hgL, hgLE, hg, hjI, h39z, htk, hkl2, hap, -getM, getM_hit, getM_miss, getM_none]; (repeat (simp (disch := first | omega | assumption | fail) only [if_pos, if_neg, wrap64]; try simp [List.zipIdx, hilI, hk2, hgL, hgLE, hg, hjI, h39z, htk, hkl2, hap, -getM, getM_hit, getM_miss, getM_none])); try (repeat' (refine guardQ_split (fun h => ?_) (fun h => ?_) <;> simp at h <;> (simp [List.zipIdx, hilI, hk2, hgL, hgLE, hg, hjI, h39z, htk, hkl2, hap, -getM, getM_hit, getM_miss, getM_none]; (repeat (simp (disch := first | omega | assumption | fail) only [if_pos, if_neg, wrap64]; try simp [List.zipIdx, hilI, hk2, hgL, hgLE, hg, hjI, h39z, htk, hkl2, hap, -getM, getM_hit, getM_miss, getM_none])))))) | (refine aw_cond (b := _) (by exact rfl) (fun h => ?_) (fun h => ?_) <;> (try simp at h)) | (refine aw_block ?_) | (refine aw_skip ?_; simp only [thenQ, blockQ, if_true]) | (refine aw_exit ?_; simp [thenQ, blockQ]) | (refine aw_ret ?_; simp only [thenQ, blockQ]) | (refine aw_round ?_) | (refine hK _ ?_; clear hK) | (clear hK; refine hK _ ?_; clear hK) | (clear hK; clear hK; refine hK _ ?_; clear hK) | (clear hK; clear hK; clear hK; refine hK _ ?_; clear hK))
              refine ⟨i + 1, ?_, by omega, by omega⟩
              simp only [hnx, hl2]
              refine le_turn (s1 := ?tus3) (m1 := ?tum3) [] [0, 5, 12, 14, 15] [0, 384, 512] ?tua3 ?tub3 ?tuc3 ?tud3 ?tue3 ?tuf3 ?tug3
              case tua3 => first | (simp [keepS]; done) | (simp [keepS]; rfl)
              case tub3 => first | (simp; done) | (simp; rfl)
              case tuc3 => simp
              case tud3 => simp
              case tue3 => simp
              case tuf3 => simp
              case tug3 =>
                simp [swp, vr]
                exact le_of2 (by simp) (by simp [AVle, AV.under, AV.underL] <;> omega) (by simp [AOle, AO.under, AV.underL, AV.under] <;> omega)
          · have hqe : q (j : Int) = true := by rw [hq]; simp [keepQ, hk2]
            have hnx := hnx1 hqe
            have hl2 : (kpP q L (i + 1)).length = (kpP q L i).length + 1 := by rw [hnx]; simp
            repeat' (first | (apply aw_seq_k; intro K hK) | (refine aw_run hc (by first | exact aw_nod | (intro _; rw [ordB_w hw]; kernel_rfl) | (intro _; rw [ordB_w0 hw0]; kernel_rfl) | (intro _; kernel_rfl)) ?_; simp [List.zipIdx, hilI, hk2, hgL, hgLE, htk, hkl2, hap, -getM, getM_hit, getM_miss, getM_none]; (repeat (simp (disch := first | omega | assumption | fail) only [if_pos, if_neg, wrap64]; try simp [List.zipIdx, hilI, hk2, hgL, hgLE, htk, hkl2, hap, -getM, getM_hit, getM_miss, getM_none])); try (repeat' (refine guardQ_split (fun h => ?_) (fun h => ?_) <;> simp at h <;> (simp [List.zipIdx, hilI, hk2, hgL, hgLE, htk, hkl2, hap, -getM, getM_hit, getM_miss, getM_none]; (repeat (simp (disch := first | omega | assumption | fail) only [if_pos, if_neg, wrap64]; try simp [List.zipIdx, hilI, hk2, hgL, hgLE, htk, hkl2, hap, -getM, getM_hit, getM_miss, getM_none])))))) | (refine aw_cond (b := _) (by exact rfl) (fun h => ?_) (fun h => ?_) <;> (try simp at h)) | (refine aw_block ?_) | (refine aw_skip ?_; simp only [thenQ, blockQ, if_true]) | (refine aw_exit ?_; simp [thenQ, blockQ]) | (refine aw_ret ?_; simp only [thenQ, blockQ]) | (refine aw_round ?_) | (refine hK _ ?_; clear hK) | (clear hK; refine hK _ ?_; clear hK) | (clear hK; clear hK; refine hK _ ?_; clear hK) | (clear hK; clear hK; clear hK; refine hK _ ?_; clear hK))
            refine ⟨i + 1, ?_, by omega, by omega⟩
            simp only [hnx, hl2]
            refine le_turn (s1 := ?tus4) (m1 := ?tum4) [] [0, 5, 12, 14, 15] [0, 384, 512] ?tua4 ?tub4 ?tuc4 ?tud4 ?tue4 ?tuf4 ?tug4
            case tua4 => first | (simp [keepS]; done) | (simp [keepS]; rfl)
            case tub4 => first | (simp; done) | (simp; rfl)
            case tuc4 => simp
            case tud4 => simp
            case tue4 => simp
            case tuf4 => simp
            case tug4 =>
              simp [swp, vr]
              exact le_of2 (by simp) (by simp [AVle, AV.under, AV.underL] <;> omega) (by simp [AOle, AO.under, AV.underL, AV.under] <;> omega)
        · obtain rfl : i = L.length := by omega
          rw [kpP_all]
          obtain ⟨Z, hZ⟩ : ∃ Z, Z = L.filter q := ⟨_, rfl⟩
          rw [← hZ]
          repeat' (first | (apply aw_seq_k; intro K hK) | (refine aw_run hc (by first | exact aw_nod | (intro _; rw [ordB_w hw]; kernel_rfl) | (intro _; rw [ordB_w0 hw0]; kernel_rfl) | (intro _; kernel_rfl)) ?_; simp [List.zipIdx, -getM, getM_hit, getM_miss, getM_none]; (repeat (simp (disch := first | omega | assumption | fail) only [if_pos, if_neg, wrap64]; try simp [List.zipIdx, -getM, getM_hit, getM_miss, getM_none])); try (repeat' (refine guardQ_split (fun h => ?_) (fun h => ?_) <;> simp at h <;> (simp [List.zipIdx, -getM, getM_hit, getM_miss, getM_none]; (repeat (simp (disch := first | omega | assumption | fail) only [if_pos, if_neg, wrap64]; try simp [List.zipIdx, -getM, getM_hit, getM_miss, getM_none])))))) | (refine aw_cond (b := _) (by exact rfl) (fun h => ?_) (fun h => ?_) <;> (try simp at h)) | (refine aw_block ?_) | (refine aw_skip ?_; simp only [thenQ, blockQ, if_true]) | (refine aw_exit ?_; simp [thenQ, blockQ]) | (refine aw_ret ?_; simp only [thenQ, blockQ]) | (refine aw_round ?_) | (refine hK _ ?_; clear hK) | (clear hK; refine hK _ ?_; clear hK) | (clear hK; clear hK; refine hK _ ?_; clear hK) | (clear hK; clear hK; clear hK; refine hK _ ?_; clear hK))
          refine ⟨by simp, ?_⟩
          simp [leaves_iff, Try.f21, take_irows]
          try (first | omega | (refine decide_eq_decide.2 ?_; omega) | (refine decide_eq_false ?_; omega) | (refine decide_eq_true ?_; omega))
          rw [hZ]
    · rw [pickR_err _ (by unfold pickE; rw [if_neg (by simp [hch]), if_pos hp]) hp]
      repeat' (first | (apply aw_seq_k; intro K hK) | (refine aw_run hc (by first | exact aw_nod | (intro _; rw [ordB_w hw]; kernel_rfl) | (intro _; rw [ordB_w0 hw0]; kernel_rfl) | (intro _; kernel_rfl)) ?_; simp [List.zipIdx, h14z, h37z, hp, -getM, getM_hit, getM_miss, getM_none]; (repeat (simp (disch := first | omega | assumption | fail) only [if_pos, if_neg, wrap64]; try simp [List.zipIdx, h14z, h37z, hp, -getM, getM_hit, getM_miss, getM_none])); try (repeat' (refine guardQ_split (fun h => ?_) (fun h => ?_) <;> simp at h <;> (simp [List.zipIdx, h14z, h37z, hp, -getM, getM_hit, getM_miss, getM_none]; (repeat (simp (disch := first | omega | assumption | fail) only [if_pos, if_neg, wrap64]; try simp [List.zipIdx, h14z, h37z, hp, -getM, getM_hit, getM_miss, getM_none])))))) | (refine aw_cond (b := _) (by exact rfl) (fun h => ?_) (fun h => ?_) <;> (try simp at h)) | (refine aw_block ?_) | (refine aw_skip ?_; simp only [thenQ, blockQ, if_true]) | (refine aw_exit ?_; simp [thenQ, blockQ]) | (refine aw_ret ?_; simp only [thenQ, blockQ]) | (refine aw_round ?_) | (refine hK _ ?_; clear hK) | (clear hK; refine hK _ ?_; clear hK) | (clear hK; clear hK; refine hK _ ?_; clear hK) | (clear hK; clear hK; clear hK; refine hK _ ?_; clear hK))
      refine ⟨by simp, ?_⟩
      simp [leaves_iff, Try.f21, irows]
      try (first | omega | (refine decide_eq_decide.2 ?_; omega) | (refine decide_eq_false ?_; omega) | (refine decide_eq_true ?_; omega))
  · have e1 : pickE (zos xs) ⟨k, m, t⟩ n = chkZ (zos xs) := by unfold pickE; rw [if_pos hch]
    have e2 : pickR (zos xs) ⟨k, m, t⟩ n kernel = ([], chkZ (zos xs)) := by unfold pickR; rw [e1, if_pos hch]
    rw [e2]
    repeat' (first | (apply aw_seq_k; intro K hK) | (refine aw_run hc (by first | exact aw_nod | (intro _; rw [ordB_w hw]; kernel_rfl) | (intro _; rw [ordB_w0 hw0]; kernel_rfl) | (intro _; kernel_rfl)) ?_; simp [List.zipIdx, h14z, hch, -getM, getM_hit, getM_miss, getM_none]; (repeat (simp (disch := first | omega | assumption | fail) only [if_pos, if_neg, wrap64]; try simp [List.zipIdx, h14z, hch, -getM, getM_hit, getM_miss, getM_none])); try (repeat' (refine guardQ_split (fun h => ?_) (fun h => ?_) <;> simp at h <;> (simp [List.zipIdx, h14z, hch, -getM, getM_hit, getM_miss, getM_none]; (repeat (simp (disch := first | omega | assumption | fail) only [if_pos, if_neg, wrap64]; try simp [List.zipIdx, h14z, hch, -getM, getM_hit, getM_miss, getM_none])))))) | (refine aw_cond (b := _) (by exact rfl) (fun h => ?_) (fun h => ?_) <;> (try simp at h)) | (refine aw_block ?_) | (refine aw_skip ?_; simp only [thenQ, blockQ, if_true]) | (refine aw_exit ?_; simp [thenQ, blockQ]) | (refine aw_ret ?_; simp only [thenQ, blockQ]) | (refine aw_round ?_) | (refine hK _ ?_; clear hK) | (clear hK; refine hK _ ?_; clear hK) | (clear hK; clear hK; refine hK _ ?_; clear hK) | (clear hK; clear hK; clear hK; refine hK _ ?_; clear hK))
    refine ⟨by simp, ?_⟩
    simp [leaves_iff, Try.f21, irows]
    try (first | omega | (refine decide_eq_decide.2 ?_; omega) | (refine decide_eq_false ?_; omega) | (refine decide_eq_true ?_; omega))
end Go.AM
