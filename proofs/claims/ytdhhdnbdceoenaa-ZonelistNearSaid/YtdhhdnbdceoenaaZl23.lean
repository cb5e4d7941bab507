/- ZonelistKeeps. -/
import Derived.Test.YtdhhdnbdceoenaaZl22
set_option linter.all false

namespace Go.AM
open Go Go.Proofs

def bareX (zs : List Zo) (j : Nat) : Zx := ⟨⟨(zg zs j).node, (zg zs j).kind, 7, -1, j⟩, nl, nl, nl, nl, nl⟩
def bareP (zs : List Zo) (i : Nat) : List Zx := (List.range i).map (bareX zs)
theorem bareP_len (zs : List Zo) (i : Nat) : (bareP zs i).length = i := by simp [bareP]
theorem bareP_succ (zs : List Zo) (i : Nat) : zrows (bareP zs i) ++ [[I (zg zs i).node, I (zg zs i).kind, I 7, I (-1), I (i : Int), nl, nl, nl, nl, nl]] = zrows (bareP zs (i + 1)) := by
  unfold bareP zrows
  rw [List.range_succ, List.map_append, List.map_append]
  rfl
theorem bareP_alike (zs : List Zo) : Alike zs (zos (bareP zs zs.length)) := by
  refine ⟨by simp [bareP], fun i hi => ?_⟩
  have : zg (zos (bareP zs zs.length)) i = (bareX zs i).z := by
    unfold zg zos bareP
    rw [List.getD_eq_getElem?_getD]
    simp [hi]
  rw [this]
  exact ⟨rfl, rfl⟩
def wipe (l : List Int) (i : Nat) : List Int := List.replicate i (-9) ++ l.drop i
theorem wipe_zero (l : List Int) : wipe l 0 = l := rfl
theorem wipe_len {l : List Int} {i : Nat} (h : i ≤ l.length) : (wipe l i).length = l.length := by unfold wipe; simp; omega
theorem wipe_set {l : List Int} {i : Nat} (h : i < l.length) : (irows (wipe l i)).set i [I (-9)] = irows (wipe l (i + 1)) := by
  rw [irows_set]
  congr 1
  unfold wipe
  rw [List.set_append_right _ _ (by simp)]
  simp only [List.length_replicate, Nat.sub_self]
  rw [List.drop_eq_getElem_cons h, List.set_cons_zero, List.replicate_succ', List.append_assoc]
  rfl
theorem zrows_take (xs : List Zx) : List.take xs.length (zrows xs) = zrows xs := by rw [List.take_of_length_le]; rw [zrows_len]; exact Nat.le_refl _

set_option maxHeartbeats 2000000 in
theorem s10 (X : AX) (L : LawX X) (h12 : ∀ M n, X.call 12 [] M n = some (B true, [])) : PSound Try.prog 10 (specF (ι := PkA) (fun x => [.rd 10 (zrows x.xs), .agg [I x.p.kind, I x.p.nodes, I x.p.turn], .agg [I x.n, B x.k]]) fun _ => retOf [B true]) := by
  have hX := L.ok
  have hw := L.w
  refine psound_spec hX mixed Try.func10 rfl fun ⟨xs, ⟨k, m, t⟩, a, b⟩ w0 G => ⟨by show 3 ≤ 169; decide, rfl, ?_⟩
  show AW ⟨Try.prog, X, 169, w0, .pure G⟩ _ _ _
  have hc : Cx.OK ⟨Try.prog, X, 169, w0, .pure G⟩ := ⟨hX, mixed⟩
  simp only
  have e11 := F11_at xs 10
  rcases Decidable.em (xs.length ≤ 10) with hxl | hxl
  · have hI : (xs.length : Int) ≤ 10 := by omega
    simp only [hI] at e11
    repeat' (first | (apply aw_seq_k; intro K hK) | (refine aw_run hc (by first | exact aw_nod | (intro _; rw [ordB_w hw]; kernel_rfl) | (intro _; rw [ordB_w0 hw0]; kernel_rfl) | (intro _; kernel_rfl)) ?_; simp [List.zipIdx, L.h11, e11, h12, tk1, -getM, getM_hit, getM_miss, getM_none]; (repeat (simp (disch := first | omega | assumption | fail) only [if_pos, if_neg, wrap64]; try simp [List.zipIdx, L.h11, e11, h12, tk1, -getM, getM_hit, getM_miss, getM_none])); try (repeat' (refine guardQ_split (fun h => ?_) (fun h => ?_) <;> simp at h <;> (simp [List.zipIdx, L.h11, e11, h12, tk1, -getM, getM_hit, getM_miss, getM_none]; (repeat (simp (disch := first | omega | assumption | fail) only [if_pos, if_neg, wrap64]; try simp [List.zipIdx, L.h11, e11, h12, tk1, -getM, getM_hit, getM_miss, getM_none])))))) | (refine aw_cond (b := _) (by exact rfl) (fun h => ?_) (fun h => ?_) <;> (try simp at h)) | (refine aw_block ?_) | (refine aw_skip ?_; simp only [thenQ, blockQ, if_true]) | (refine aw_exit ?_; simp [thenQ, blockQ]) | (refine aw_ret ?_; simp only [thenQ, blockQ]) | (refine aw_round ?_) | (refine hK _ ?_; clear hK) | (clear hK; refine hK _ ?_; clear hK) | (clear hK; clear hK; refine hK _ ?_; clear hK) | (clear hK; clear hK; clear hK; refine hK _ ?_; clear hK))
    refine aw_weaken (le_nilslot (t := 8) (sz := 10) (by simp)) ?_
    refine aw_weaken (st' := ⟨[(8, .sl 192 1 10 0 0), (9, I 0), (7, .sl 96 1 10 0 xs.length), (0, .rd 10 (zrows xs)), (4, .bp 0 0), (5, .bp 16 0)], [(192, .vec 1 10 false []), (0, .box [I k, I m, I t]), (16, .box [I a, B b]), (96, .vec 1 10 false (zrows xs))], 193⟩) ?wk ?_
    case wk =>
      refine le_turn (s1 := ?tus1) (m1 := ?tum1) [] [0, 4, 5, 7, 8, 9] [0, 16, 96, 192] ?tua1 ?tub1 ?tuc1 ?tud1 ?tue1 ?tuf1 ?tug1
      case tua1 => first | (simp [keepS]; done) | (simp [keepS]; rfl)
      case tub1 => first | (simp; done) | (simp; rfl)
      case tuc1 => simp
      case tud1 => simp
      case tue1 => simp
      case tuf1 => simp
      case tug1 =>
        simp [swp, vr]
        exact le_of2 (by simp) (by simp [AVle, AV.under, AV.underL] <;> omega) (by simp [AOle, AO.under, AV.underL, AV.under] <;> omega)
    refine aw_loopK (s0 := ?lps2) (m0 := ?lpm2) (ι := {i : Nat // i ≤ xs.length}) [0, 4, 5, 7] (fun i => [(9, I i.1), (8, .sl 192 1 10 0 i.1)]) (fun i => [(192, .vec 1 10 false (zrows (bareP (zos xs) i.1)))]) (fun i => xs.length - i.1) ⟨0, by omega⟩ ?lhs2 ?lhm2 ?_ ?_
    case lhs2 => first | (simp [keepS]; done) | (simp [keepS]; rfl)
    case lhm2 => first | rfl | (simp; done) | (simp; rfl)
    · have hz0 : zrows (bareP (zos xs) 0) = [] := rfl
      simp only [hz0]
      exact le_of2 (by simp) (by simp [AVle, AV.under, AV.underL] <;> omega) (by simp [AOle, AO.under, AV.underL, AV.under] <;> omega)
    · rintro ⟨i, hi⟩
      simp only
      rcases Decidable.em (i < xs.length) with hil | hil
      · have hilI : (i : Int) < (xs.length : Int) := by omega
        have hg := zrows_get hil
        simp only [Zx.row] at hg
        have hz := zx_z hil
        rw [hz] at hg
        have hap := bareP_succ (zos xs) i
        simp only [nl] at hap
        have htk := zrows_take (bareP (zos xs) i)
        rw [bareP_len] at htk
        have hbl := bareP_len (zos xs) i
        have hbl2 : i ≤ 1073741823 := by omega
        repeat' (first | (apply aw_seq_k; intro K hK) | (refine aw_run hc (by first | exact aw_nod | (intro _; rw [ordB_w hw]; kernel_rfl) | (intro _; rw [ordB_w0 hw0]; kernel_rfl) | (intro _; kernel_rfl)) ?_; simp [List.zipIdx, hilI, hg, hap, htk, hbl, hbl2, -getM, getM_hit, getM_miss, getM_none]; (repeat (simp (disch := first | omega | assumption | fail) only [if_pos, if_neg, wrap64]; try simp [List.zipIdx, hilI, hg, hap, htk, hbl, hbl2, -getM, getM_hit, getM_miss, getM_none])); try (repeat' (refine guardQ_split (fun h => ?_) (fun h => ?_) <;> simp at h <;> (simp [List.zipIdx, hilI, hg, hap, htk, hbl, hbl2, -getM, getM_hit, getM_miss, getM_none]; (repeat (simp (disch := first | omega | assumption | fail) only [if_pos, if_neg, wrap64]; try simp [List.zipIdx, hilI, hg, hap, htk, hbl, hbl2, -getM, getM_hit, getM_miss, getM_none])))))) | (refine aw_cond (b := _) (by exact rfl) (fun h => ?_) (fun h => ?_) <;> (try simp at h)) | (refine aw_block ?_) | (refine aw_skip ?_; simp only [thenQ, blockQ, if_true]) | (refine aw_exit ?_; simp [thenQ, blockQ]) | (refine aw_ret ?_; simp only [thenQ, blockQ]) | (refine aw_round ?_) | (refine hK _ ?_; clear hK) | (clear hK; refine hK _ ?_; clear hK) | (clear hK; clear hK; refine hK _ ?_; clear hK) | (clear hK; clear hK; clear hK; refine hK _ ?_; clear hK))
        refine ⟨i + 1, ?_, by omega, by omega⟩
        refine le_turn (s1 := ?tus3) (m1 := ?tum3) [] [0, 4, 5, 7, 8, 9] [0, 16, 96, 192] ?tua3 ?tub3 ?tuc3 ?tud3 ?tue3 ?tuf3 ?tug3
        case tua3 => first | (simp [keepS]; done) | (simp [keepS]; rfl)
        case tub3 => first | (simp; done) | (simp; rfl)
        case tuc3 => simp
        case tud3 => simp
        case tue3 => simp
        case tuf3 => simp
        case tug3 =>
          simp [swp, vr]
          exact le_of2 (by simp) (by simp [AVle, AV.under, AV.underL] <;> omega) (by simp [AOle, AO.under, AV.underL, AV.under] <;> omega)
      · obtain rfl : i = xs.length := by omega
        have e1 := F20_at xs k m t a b
        have e2 := F20_at (bareP (zos xs) xs.length) k m t a b
        have hal := bareP_alike (zos xs)
        rw [zos_len] at hal
        have he := alike_pick hal ⟨k, m, t⟩ a b
        rw [← he] at e2
        have hpl := pickR_len (zos xs) ⟨k, m, t⟩ a b
        obtain ⟨⟨P, e⟩, hP⟩ : ∃ P, P = pickR (zos xs) ⟨k, m, t⟩ a b := ⟨_, rfl⟩
        rw [← hP] at e1 e2 hpl
        simp only at e1 e2 hpl
        have q1 := F19_at (a := P) (b := P) (by omega) (by omega)
        have htx := zrows_take xs
        have htb := zrows_take (bareP (zos xs) xs.length)
        rw [bareP_len] at htb
        have hbl := bareP_len (zos xs) xs.length
        obtain ⟨BR, hBR⟩ : ∃ BR, BR = zrows (bareP (zos xs) xs.length) := ⟨_, rfl⟩
        rw [← hBR] at e2 htb ⊢
        have hBl : BR.length = xs.length := by rw [hBR, zrows_len, bareP_len]
        repeat' (first | (apply aw_seq_k; intro K hK) | (refine aw_run hc (by first | exact aw_nod | (intro _; rw [ordB_w hw]; kernel_rfl) | (intro _; rw [ordB_w0 hw0]; kernel_rfl) | (intro _; kernel_rfl)) ?_; simp [List.zipIdx, L.h20, L.h19, e1, e2, q1, htx, htb, hBl, tk1, -getM, getM_hit, getM_miss, getM_none]; (repeat (simp (disch := first | omega | assumption | fail) only [if_pos, if_neg, wrap64]; try simp [List.zipIdx, L.h20, L.h19, e1, e2, q1, htx, htb, hBl, tk1, -getM, getM_hit, getM_miss, getM_none])); try (repeat' (refine guardQ_split (fun h => ?_) (fun h => ?_) <;> simp at h <;> (simp [List.zipIdx, L.h20, L.h19, e1, e2, q1, htx, htb, hBl, tk1, -getM, getM_hit, getM_miss, getM_none]; (repeat (simp (disch := first | omega | assumption | fail) only [if_pos, if_neg, wrap64]; try simp [List.zipIdx, L.h20, L.h19, e1, e2, q1, htx, htb, hBl, tk1, -getM, getM_hit, getM_miss, getM_none])))))) | (refine aw_cond (b := _) (by exact rfl) (fun h => ?_) (fun h => ?_) <;> (try simp at h)) | (refine aw_block ?_) | (refine aw_skip ?_; simp only [thenQ, blockQ, if_true]) | (refine aw_exit ?_; simp [thenQ, blockQ]) | (refine aw_ret ?_; simp only [thenQ, blockQ]) | (refine aw_round ?_) | (refine hK _ ?_; clear hK) | (clear hK; refine hK _ ?_; clear hK) | (clear hK; clear hK; refine hK _ ?_; clear hK) | (clear hK; clear hK; clear hK; refine hK _ ?_; clear hK))
        refine aw_loopK (s0 := ?lps4) (m0 := ?lpm4) (ι := {i : Nat // i ≤ P.length}) [0, 4, 5, 7, 10, 12] (fun i => [(14, I i.1)]) (fun i => [(353, .vec 1 1 false (irows (wipe P i.1)))]) (fun i => P.length - i.1) ⟨0, by omega⟩ ?lhs4 ?lhm4 ?_ ?_
        case lhs4 => first | (simp [keepS]; done) | (simp [keepS]; rfl)
        case lhm4 => first | rfl | (simp; done) | (simp; rfl)
        · simp only [wipe_zero]
          exact le_of2 (by simp) (by simp [AVle, AV.under, AV.underL] <;> omega) (by simp [AOle, AO.under, AV.underL, AV.under] <;> omega)
        · rintro ⟨i, hi⟩
          simp only
          rcases Decidable.em (i < P.length) with hil | hil
          · have hilI : (i : Int) < (P.length : Int) := by omega
            have hws := wipe_set hil
            have hwl := wipe_len (l := P) (i := i) (by omega)
            have hwg : (irows (wipe P i))[i]? = some [I (gi (wipe P i) i)] := irows_gi (by rw [hwl]; exact hil)
            have hwE := gE (l := wipe P i) (n := i) (by rw [hwl]; exact hil)
            repeat' (first | (apply aw_seq_k; intro K hK) | (refine aw_run hc (by first | exact aw_nod | (intro _; rw [ordB_w hw]; kernel_rfl) | (intro _; rw [ordB_w0 hw0]; kernel_rfl) | (intro _; kernel_rfl)) ?_; simp [List.zipIdx, hilI, hws, hwl, hwg, hwE, -getM, getM_hit, getM_miss, getM_none]; (repeat (simp (disch := first | omega | assumption | fail) only [if_pos, if_neg, wrap64]; try simp [List.zipIdx, hilI, hws, hwl, hwg, hwE, -getM, getM_hit, getM_miss, getM_none])); try (repeat' (refine guardQ_split (fun h => ?_) (fun h => ?_) <;> simp at h <;> (simp [List.zipIdx, hilI, hws, hwl, hwg, hwE, -getM, getM_hit, getM_miss, getM_none]; (repeat (simp (disch := first | omega | assumption | fail) only [if_pos, if_neg, wrap64]; try simp [List.zipIdx, hilI, hws, hwl, hwg, hwE, -getM, getM_hit, getM_miss, getM_none])))))) | (refine aw_cond (b := _) (by exact rfl) (fun h => ?_) (fun h => ?_) <;> (try simp at h)) | (refine aw_block ?_) | (refine aw_skip ?_; simp only [thenQ, blockQ, if_true]) | (refine aw_exit ?_; simp [thenQ, blockQ]) | (refine aw_ret ?_; simp only [thenQ, blockQ]) | (refine aw_round ?_) | (refine hK _ ?_; clear hK) | (clear hK; refine hK _ ?_; clear hK) | (clear hK; clear hK; refine hK _ ?_; clear hK) | (clear hK; clear hK; clear hK; refine hK _ ?_; clear hK))
            refine ⟨i + 1, ?_, by omega, by omega⟩
            exact le_of2 (by simp) (by simp [AVle, AV.under, AV.underL] <;> omega) (by simp [AOle, AO.under, AV.underL, AV.under] <;> omega)
          · obtain rfl : i = P.length := by omega
            have htw : ∀ (W : List Int) , W.length = P.length → List.take P.length (irows W) = irows W := fun W h => by rw [← h]; exact tk1 W
            have hwl := wipe_len (l := P) (i := P.length) (by omega)
            repeat' (first | (apply aw_seq_k; intro K hK) | (refine aw_run hc (by first | exact aw_nod | (intro _; rw [ordB_w hw]; kernel_rfl) | (intro _; rw [ordB_w0 hw0]; kernel_rfl) | (intro _; kernel_rfl)) ?_; simp [List.zipIdx, L.h20, e1, htx, tk1, hwl, -getM, getM_hit, getM_miss, getM_none]; (repeat (simp (disch := first | omega | assumption | fail) only [if_pos, if_neg, wrap64]; try simp [List.zipIdx, L.h20, e1, htx, tk1, hwl, -getM, getM_hit, getM_miss, getM_none])); try (repeat' (refine guardQ_split (fun h => ?_) (fun h => ?_) <;> simp at h <;> (simp [List.zipIdx, L.h20, e1, htx, tk1, hwl, -getM, getM_hit, getM_miss, getM_none]; (repeat (simp (disch := first | omega | assumption | fail) only [if_pos, if_neg, wrap64]; try simp [List.zipIdx, L.h20, e1, htx, tk1, hwl, -getM, getM_hit, getM_miss, getM_none])))))) | (refine aw_cond (b := _) (by exact rfl) (fun h => ?_) (fun h => ?_) <;> (try simp at h)) | (refine aw_block ?_) | (refine aw_skip ?_; simp only [thenQ, blockQ, if_true]) | (refine aw_exit ?_; simp [thenQ, blockQ]) | (refine aw_ret ?_; simp only [thenQ, blockQ]) | (refine aw_round ?_) | (refine hK _ ?_; clear hK) | (clear hK; refine hK _ ?_; clear hK) | (clear hK; clear hK; refine hK _ ?_; clear hK) | (clear hK; clear hK; clear hK; refine hK _ ?_; clear hK))
            refine aw_loopK (s0 := ?lps5) (m0 := ?lpm5) (ι := {i : Nat // i ≤ xs.length}) [0, 7, 12, 15] (fun i => [(17, I i.1)]) (fun _ => []) (fun i => xs.length - i.1) ⟨0, by omega⟩ ?lhs5 ?lhm5 ?_ ?_
            case lhs5 => first | (simp [keepS]; done) | (simp [keepS]; rfl)
            case lhm5 => first | rfl | (simp; done) | (simp; rfl)
            · exact le_of2 (by simp) (by simp [AVle, AV.under, AV.underL] <;> omega) (by simp [AOle, AO.under, AV.underL, AV.under] <;> omega)
            · rintro ⟨i, hi⟩
              simp only
              rcases Decidable.em (i < xs.length) with hil | hil
              · have hilI : (i : Int) < (xs.length : Int) := by omega
                have hg := zrows_get hil
                simp only [Zx.row] at hg
                have hz := zx_z hil
                rw [hz] at hg
                repeat' (first | (apply aw_seq_k; intro K hK) | (refine aw_run hc (by first | exact aw_nod | (intro _; rw [ordB_w hw]; kernel_rfl) | (intro _; rw [ordB_w0 hw0]; kernel_rfl) | (intro _; kernel_rfl)) ?_; simp [List.zipIdx, hilI, hg, -getM, getM_hit, getM_miss, getM_none]; (repeat (simp (disch := first | omega | assumption | fail) only [if_pos, if_neg, wrap64]; try simp [List.zipIdx, hilI, hg, -getM, getM_hit, getM_miss, getM_none])); try (repeat' (refine guardQ_split (fun h => ?_) (fun h => ?_) <;> simp at h <;> (simp [List.zipIdx, hilI, hg, -getM, getM_hit, getM_miss, getM_none]; (repeat (simp (disch := first | omega | assumption | fail) only [if_pos, if_neg, wrap64]; try simp [List.zipIdx, hilI, hg, -getM, getM_hit, getM_miss, getM_none])))))) | (refine aw_cond (b := _) (by exact rfl) (fun h => ?_) (fun h => ?_) <;> (try simp at h)) | (refine aw_block ?_) | (refine aw_skip ?_; simp only [thenQ, blockQ, if_true]) | (refine aw_exit ?_; simp [thenQ, blockQ]) | (refine aw_ret ?_; simp only [thenQ, blockQ]) | (refine aw_round ?_) | (refine hK _ ?_; clear hK) | (clear hK; refine hK _ ?_; clear hK) | (clear hK; clear hK; refine hK _ ?_; clear hK) | (clear hK; clear hK; clear hK; refine hK _ ?_; clear hK))
                refine ⟨i + 1, ?_, by omega, by omega⟩
                exact le_of2 (by simp) (by simp [AVle, AV.under, AV.underL] <;> omega) (by simp [AOle, AO.under, AV.underL, AV.under] <;> omega)
              · obtain rfl : i = xs.length := by omega
                repeat' (first | (apply aw_seq_k; intro K hK) | (refine aw_run hc (by first | exact aw_nod | (intro _; rw [ordB_w hw]; kernel_rfl) | (intro _; rw [ordB_w0 hw0]; kernel_rfl) | (intro _; kernel_rfl)) ?_; simp [List.zipIdx, L.h19, q1, tk1, h12, -getM, getM_hit, getM_miss, getM_none]; (repeat (simp (disch := first | omega | assumption | fail) only [if_pos, if_neg, wrap64]; try simp [List.zipIdx, L.h19, q1, tk1, h12, -getM, getM_hit, getM_miss, getM_none])); try (repeat' (refine guardQ_split (fun h => ?_) (fun h => ?_) <;> simp at h <;> (simp [List.zipIdx, L.h19, q1, tk1, h12, -getM, getM_hit, getM_miss, getM_none]; (repeat (simp (disch := first | omega | assumption | fail) only [if_pos, if_neg, wrap64]; try simp [List.zipIdx, L.h19, q1, tk1, h12, -getM, getM_hit, getM_miss, getM_none])))))) | (refine aw_cond (b := _) (by exact rfl) (fun h => ?_) (fun h => ?_) <;> (try simp at h)) | (refine aw_block ?_) | (refine aw_skip ?_; simp only [thenQ, blockQ, if_true]) | (refine aw_exit ?_; simp [thenQ, blockQ]) | (refine aw_ret ?_; simp only [thenQ, blockQ]) | (refine aw_round ?_) | (refine hK _ ?_; clear hK) | (clear hK; refine hK _ ?_; clear hK) | (clear hK; clear hK; refine hK _ ?_; clear hK) | (clear hK; clear hK; clear hK; refine hK _ ?_; clear hK))
                refine ⟨by simp, ?_⟩
                simp [leaves_iff, Try.f10]
                try (first | omega | (refine decide_eq_decide.2 ?_; omega) | (refine decide_eq_false ?_; omega) | (refine decide_eq_true ?_; omega))
  · have hI : ¬ (xs.length : Int) ≤ 10 := by omega
    simp only [hI] at e11
    repeat' (first | (apply aw_seq_k; intro K hK) | (refine aw_run hc (by first | exact aw_nod | (intro _; rw [ordB_w hw]; kernel_rfl) | (intro _; rw [ordB_w0 hw0]; kernel_rfl) | (intro _; kernel_rfl)) ?_; simp [List.zipIdx, L.h11, e11, h12, -getM, getM_hit, getM_miss, getM_none]; (repeat (simp (disch := first | omega | assumption | fail) only [if_pos, if_neg, wrap64]; try simp [List.zipIdx, L.h11, e11, h12, -getM, getM_hit, getM_miss, getM_none])); try (repeat' (refine guardQ_split (fun h => ?_) (fun h => ?_) <;> simp at h <;> (simp [List.zipIdx, L.h11, e11, h12, -getM, getM_hit, getM_miss, getM_none]; (repeat (simp (disch := first | omega | assumption | fail) only [if_pos, if_neg, wrap64]; try simp [List.zipIdx, L.h11, e11, h12, -getM, getM_hit, getM_miss, getM_none])))))) | (refine aw_cond (b := _) (by exact rfl) (fun h => ?_) (fun h => ?_) <;> (try simp at h)) | (refine aw_block ?_) | (refine aw_skip ?_; simp only [thenQ, blockQ, if_true]) | (refine aw_exit ?_; simp [thenQ, blockQ]) | (refine aw_ret ?_; simp only [thenQ, blockQ]) | (refine aw_round ?_) | (refine hK _ ?_; clear hK) | (clear hK; refine hK _ ?_; clear hK) | (clear hK; clear hK; refine hK _ ?_; clear hK) | (clear hK; clear hK; clear hK; refine hK _ ?_; clear hK))
    refine ⟨by simp, ?_⟩
    simp [leaves_iff, Try.f10]
    try (first | omega | (refine decide_eq_decide.2 ?_; omega) | (refine decide_eq_false ?_; omega) | (refine decide_eq_true ?_; omega))
end Go.AM
