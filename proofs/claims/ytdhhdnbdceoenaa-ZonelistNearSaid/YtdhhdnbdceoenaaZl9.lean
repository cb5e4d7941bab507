/- Zonelist: Order. -/
import Derived.Test.YtdhhdnbdceoenaaZl8
set_option linter.all false

namespace Go.AM
open Go Go.Proofs

@[simp] theorem one_nilFunc : Value.nilFunc.oneCell' = true := rfl
def idxP (zs : List Zo) (p : Zo → Bool) (i : Nat) : List Int := ((List.range i).filter fun i => p (zg zs i)).map fun (i : Nat) => (i : Int)
theorem idxP_zero (zs : List Zo) (p : Zo → Bool) : idxP zs p 0 = [] := rfl
theorem idxP_all (zs : List Zo) (p : Zo → Bool) : idxP zs p zs.length = idxZ zs p := rfl
theorem idxP_in {zs : List Zo} {p : Zo → Bool} {i : Nat} (h : p (zg zs i) = true) : idxP zs p (i + 1) = idxP zs p i ++ [(i : Int)] := by
  unfold idxP
  rw [List.range_succ, List.filter_append, List.map_append]
  simp [List.filter_cons, h]
theorem idxP_out {zs : List Zo} {p : Zo → Bool} {i : Nat} (h : p (zg zs i) = false) : idxP zs p (i + 1) = idxP zs p i := by
  unfold idxP
  rw [List.range_succ, List.filter_append, List.map_append]
  simp [List.filter_cons, h]
theorem idxP_len (zs : List Zo) (p : Zo → Bool) (i : Nat) : (idxP zs p i).length ≤ i := by
  unfold idxP
  rw [List.length_map]
  have := List.length_filter_le (fun i => p (zg zs i)) (List.range i)
  rwa [List.length_range] at this

/-- What the closure of Order holds. -/
theorem cmp33 {Y : AX} (h33 : ∀ f i j xs M n, sm f → (i < xs.length ∧ sm (zg (zos xs) i).node) → (j < xs.length ∧ sm (zg (zos xs) j).node) → Y.call 33 [I (i : Nat), I (j : Nat), .rp [.fn 31 [.rp [I f], .rp [.rd 10 (zrows xs)]]]] M n = some (I (cmpI (rankZ (zos xs) f i) (rankZ (zos xs) f j)), []))
    {l : List Int} {f : Int} {xs : List Zx} (hl : ∀ x ∈ l, 0 ≤ x ∧ x < xs.length) (hs : ∀ i, i < xs.length → sm (zg (zos xs) i).node) (hf : sm f) : CmpOK Y l 33 [.rp [.fn 31 [.rp [I f], .rp [.rd 10 (zrows xs)]]]] (rankZ (zos xs) f) :=
  ⟨fun n => by simp [AV.underL, AV.under], fun M => rfl, fun a b M n ha hb => by
    obtain ⟨i, rfl⟩ := Int.eq_ofNat_of_zero_le (hl a ha).1
    obtain ⟨j, rfl⟩ := Int.eq_ofNat_of_zero_le (hl b hb).1
    have hi : i < xs.length := by have := (hl _ ha).2; omega
    have hj : j < xs.length := by have := (hl _ hb).2; omega
    exact h33 f i j xs M n hf ⟨hi, hs i hi⟩ ⟨hj, hs j hj⟩⟩

theorem okZs_sm {zs : List Zo} (h : okZs zs) {i : Nat} (hi : i < zs.length) : sm (zg zs i).node := by
  have := (h.2 _ (zg_mem hi)).1
  unfold sm; omega

theorem s17 (X Y : AX) (hX : XOK Try.prog X) (hw : X.W wT) (h24 : ∀ xs n M k, X.call 24 [.rd 10 (zrows xs), I n] M k = some (I (errN (zos xs) n), []))
    (h32 : X.call 32 = callK (F26 Y)) (h33 : ∀ f i j xs M n, sm f → (i < xs.length ∧ sm (zg (zos xs) i).node) → (j < xs.length ∧ sm (zg (zos xs) j).node) → Y.call 33 [I (i : Nat), I (j : Nat), .rp [.fn 31 [.rp [I f], .rp [.rd 10 (zrows xs)]]]] M n = some (I (cmpI (rankZ (zos xs) f i) (rankZ (zos xs) f j)), [])) :
    PSound Try.prog 17 (specF (ι := List Zx × Int × Bool) (fun x => [.rd 10 (zrows x.1), I x.2.1, B x.2.2]) fun x => retOf [.ow 1 (irows (orderR (zos x.1) x.2.1 x.2.2).1), I (orderR (zos x.1) x.2.1 x.2.2).2]) := by
  refine psound_spec hX mixed Try.func17 rfl fun ⟨xs, n, kernel⟩ w0 G => ⟨by show 3 ≤ 43; decide, rfl, ?_⟩
  show AW ⟨Try.prog, X, 43, w0, .pure G⟩ _ _ _
  have hc : Cx.OK ⟨Try.prog, X, 43, w0, .pure G⟩ := ⟨hX, mixed⟩
  simp only
  unfold orderR
  rcases Decidable.em (errN (zos xs) n = 0) with h | h
  · obtain ⟨hok, hn⟩ := errN_zero.1 h
    rw [if_neg (by simp [h])]
    have hl : xs.length ≤ 6 := by have := hok.1; rwa [zos_len] at this
    simp only
    rw [← order_sort hok hn]
    have hat := F26_at (Y := Y) ⟨idxZ (zos xs) (suits kernel), 33, [.rp [.fn 31 [.rp [I n], .rp [.rd 10 (zrows xs)]]]], rankZ (zos xs) n, by have h1 := idxP_len (zos xs) (suits kernel) (zos xs).length; rw [idxP_all, zos_len] at h1; show (idxZ (zos xs) (suits kernel)).length ≤ 12; omega,
      cmp33 h33 (fun x hx => by have := mem_idx.1 hx; rw [zos_len] at this; exact ⟨this.1, this.2.1⟩) (fun i hi => okZs_sm hok (by rw [zos_len]; exact hi)) (by unfold sm; omega)⟩
    simp only at hat
    repeat' (first | (apply aw_seq_k; intro K hK) | (refine aw_run hc (by first | exact aw_nod | (intro _; rw [ordB_w hw]; kernel_rfl) | (intro _; rw [ordB_w0 hw0]; kernel_rfl) | (intro _; kernel_rfl)) ?_; simp [List.zipIdx, h24, h, -getM, getM_hit, getM_miss, getM_none]; (repeat (simp (disch := first | omega | assumption | fail) only [if_pos, if_neg, wrap64]; try simp [List.zipIdx, h24, h, -getM, getM_hit, getM_miss, getM_none])); try (repeat' (refine guardQ_split (fun h => ?_) (fun h => ?_) <;> simp at h <;> (simp [List.zipIdx, h24, h, -getM, getM_hit, getM_miss, getM_none]; (repeat (simp (disch := first | omega | assumption | fail) only [if_pos, if_neg, wrap64]; try simp [List.zipIdx, h24, h, -getM, getM_hit, getM_miss, getM_none])))))) | (refine aw_cond (b := _) (by exact rfl) (fun h => ?_) (fun h => ?_) <;> (try simp at h)) | (refine aw_block ?_) | (refine aw_skip ?_; simp only [thenQ, blockQ, if_true]) | (refine aw_exit ?_; simp [thenQ, blockQ]) | (refine aw_ret ?_; simp only [thenQ, blockQ]) | (refine aw_round ?_) | (refine hK _ ?_; clear hK) | (clear hK; refine hK _ ?_; clear hK) | (clear hK; clear hK; refine hK _ ?_; clear hK) | (clear hK; clear hK; clear hK; refine hK _ ?_; clear hK))
    refine aw_weaken (le_nilslot (t := 9) (sz := 1) (by simp)) ?_
    refine aw_loopK (s0 := ?lps1) (m0 := ?lpm1) (ι := {i : Nat // i ≤ xs.length}) [2, 3, 4, 19, 20] (fun i => [(21, I i.1), (9, .sl 224 1 1 0 (idxP (zos xs) (suits kernel) i.1).length)]) (fun i => [(224, .vec 1 1 false (irows (idxP (zos xs) (suits kernel) i.1)))]) (fun i => xs.length - i.1) ⟨0, by omega⟩ ?lhs1 ?lhm1 ?_ ?_
    case lhs1 => first | (simp [keepS]; done) | (simp [keepS]; rfl)
    case lhm1 => first | rfl | (simp; done) | (simp; rfl)
    · simp only [idxP_zero]
      exact le_of2 (by simp) (by simp [AVle, AV.under, AV.underL] <;> omega) (by simp [AOle, AO.under, AV.underL, AV.under] <;> omega)
    · rintro ⟨i, hi⟩
      simp only
      have hnl := idxP_len (zos xs) (suits kernel) i
      rcases Decidable.em (i < xs.length) with hil | hil
      · have hilI : (i : Int) < (xs.length : Int) := by omega
        have hg := zrows_get hil
        simp only [Zx.row] at hg
        have hz := zx_z hil
        rw [hz] at hg
        have htk : List.take (idxP (zos xs) (suits kernel) i).length (irows (idxP (zos xs) (suits kernel) i)) = irows (idxP (zos xs) (suits kernel) i) := by rw [irows_take, List.take_length]
        have hle1 : (idxP (zos xs) (suits kernel) i).length ≤ 1073741823 := by omega
        cases hsu : suits kernel (zg (zos xs) i)
        · have hnx := idxP_out hsu
          simp [suits] at hsu
          obtain ⟨rfl, hk⟩ := hsu
          repeat' (first | (apply aw_seq_k; intro K hK) | (refine aw_run hc (by first | exact aw_nod | (intro _; rw [ordB_w hw]; kernel_rfl) | (intro _; rw [ordB_w0 hw0]; kernel_rfl) | (intro _; kernel_rfl)) ?_; simp [List.zipIdx, hilI, hg, htk, hk, -getM, getM_hit, getM_miss, getM_none]; (repeat (simp (disch := first | omega | assumption | fail) only [if_pos, if_neg, wrap64]; try simp [List.zipIdx, hilI, hg, htk, hk, -getM, getM_hit, getM_miss, getM_none])); try (repeat' (refine guardQ_split (fun h => ?_) (fun h => ?_) <;> simp at h <;> (simp [List.zipIdx, hilI, hg, htk, hk, -getM, getM_hit, getM_miss, getM_none]; (repeat (simp (disch := first | omega | assumption | fail) only [if_pos, if_neg, wrap64]; try simp [List.zipIdx, hilI, hg, htk, hk, -getM, getM_hit, getM_miss, getM_none])))))) | (refine aw_cond (b := _) (by exact rfl) (fun h => ?_) (fun h => ?_) <;> (try simp at h)) | (refine aw_block ?_) | (refine aw_skip ?_; simp only [thenQ, blockQ, if_true]) | (refine aw_exit ?_; simp [thenQ, blockQ]) | (refine aw_ret ?_; simp only [thenQ, blockQ]) | (refine aw_round ?_) | (refine hK _ ?_; clear hK) | (clear hK; refine hK _ ?_; clear hK) | (clear hK; clear hK; refine hK _ ?_; clear hK) | (clear hK; clear hK; clear hK; refine hK _ ?_; clear hK))
          refine ⟨i + 1, ?_, by omega, by omega⟩
          simp only [hnx]
          exact le_of2 (by simp) (by simp [AVle, AV.under, AV.underL] <;> omega) (by simp [AOle, AO.under, AV.underL, AV.under] <;> omega)
        · have hnx := idxP_in hsu
          have hap : irows (idxP (zos xs) (suits kernel) i) ++ [[I (i : Int)]] = irows (idxP (zos xs) (suits kernel) (i + 1)) := by rw [irows_one, irows_append, hnx]
          have hl2 : (idxP (zos xs) (suits kernel) i).length + 1 = (idxP (zos xs) (suits kernel) (i + 1)).length := by rw [hnx]; simp
          cases kernel
          · repeat' (first | (apply aw_seq_k; intro K hK) | (refine aw_run hc (by first | exact aw_nod | (intro _; rw [ordB_w hw]; kernel_rfl) | (intro _; rw [ordB_w0 hw0]; kernel_rfl) | (intro _; kernel_rfl)) ?_; simp [List.zipIdx, hilI, hg, htk, hle1, hap, -getM, getM_hit, getM_miss, getM_none]; (repeat (simp (disch := first | omega | assumption | fail) only [if_pos, if_neg, wrap64]; try simp [List.zipIdx, hilI, hg, htk, hle1, hap, -getM, getM_hit, getM_miss, getM_none])); try (repeat' (refine guardQ_split (fun h => ?_) (fun h => ?_) <;> simp at h <;> (simp [List.zipIdx, hilI, hg, htk, hle1, hap, -getM, getM_hit, getM_miss, getM_none]; (repeat (simp (disch := first | omega | assumption | fail) only [if_pos, if_neg, wrap64]; try simp [List.zipIdx, hilI, hg, htk, hle1, hap, -getM, getM_hit, getM_miss, getM_none])))))) | (refine aw_cond (b := _) (by exact rfl) (fun h => ?_) (fun h => ?_) <;> (try simp at h)) | (refine aw_block ?_) | (refine aw_skip ?_; simp only [thenQ, blockQ, if_true]) | (refine aw_exit ?_; simp [thenQ, blockQ]) | (refine aw_ret ?_; simp only [thenQ, blockQ]) | (refine aw_round ?_) | (refine hK _ ?_; clear hK) | (clear hK; refine hK _ ?_; clear hK) | (clear hK; clear hK; refine hK _ ?_; clear hK) | (clear hK; clear hK; clear hK; refine hK _ ?_; clear hK))
            refine ⟨i + 1, ?_, by omega, by omega⟩
            simp only [hl2]
            refine le_turn (s1 := ?tus2) (m1 := ?tum2) [] [2, 3, 4, 19, 20, 9, 21] [0, 16, 224] ?tua2 ?tub2 ?tuc2 ?tud2 ?tue2 ?tuf2 ?tug2
            case tua2 => first | (simp [keepS]; done) | (simp [keepS]; rfl)
            case tub2 => first | (simp; done) | (simp; rfl)
            case tuc2 => simp
            case tud2 => simp
            case tue2 => simp
            case tuf2 => simp
            case tug2 =>
              simp [swp, vr]
              exact le_of2 (by simp) (by simp [AVle, AV.under, AV.underL] <;> omega) (by simp [AOle, AO.under, AV.underL, AV.under] <;> omega)
          · simp [suits] at hsu
            repeat' (first | (apply aw_seq_k; intro K hK) | (refine aw_run hc (by first | exact aw_nod | (intro _; rw [ordB_w hw]; kernel_rfl) | (intro _; rw [ordB_w0 hw0]; kernel_rfl) | (intro _; kernel_rfl)) ?_; simp [List.zipIdx, hilI, hg, htk, hle1, hap, hsu, -getM, getM_hit, getM_miss, getM_none]; (repeat (simp (disch := first | omega | assumption | fail) only [if_pos, if_neg, wrap64]; try simp [List.zipIdx, hilI, hg, htk, hle1, hap, hsu, -getM, getM_hit, getM_miss, getM_none])); try (repeat' (refine guardQ_split (fun h => ?_) (fun h => ?_) <;> simp at h <;> (simp [List.zipIdx, hilI, hg, htk, hle1, hap, hsu, -getM, getM_hit, getM_miss, getM_none]; (repeat (simp (disch := first | omega | assumption | fail) only [if_pos, if_neg, wrap64]; try simp [List.zipIdx, hilI, hg, htk, hle1, hap, hsu, -getM, getM_hit, getM_miss, getM_none])))))) | (refine aw_cond (b := _) (by exact rfl) (fun h => ?_) (fun h => ?_) <;> (try simp at h)) | (refine aw_block ?_) | (refine aw_skip ?_; simp only [thenQ, blockQ, if_true]) | (refine aw_exit ?_; simp [thenQ, blockQ]) | (refine aw_ret ?_; simp only [thenQ, blockQ]) | (refine aw_round ?_) | (refine hK _ ?_; clear hK) | (clear hK; refine hK _ ?_; clear hK) | (clear hK; clear hK; refine hK _ ?_; clear hK) | (clear hK; clear hK; clear hK; refine hK _ ?_; clear hK))
            refine ⟨i + 1, ?_, by omega, by omega⟩
            simp only [hl2]
            refine le_turn (s1 := ?tus3) (m1 := ?tum3) [] [2, 3, 4, 19, 20, 9, 21] [0, 16, 224] ?tua3 ?tub3 ?tuc3 ?tud3 ?tue3 ?tuf3 ?tug3
            case tua3 => first | (simp [keepS]; done) | (simp [keepS]; rfl)
            case tub3 => first | (simp; done) | (simp; rfl)
            case tuc3 => simp
            case tud3 => simp
            case tue3 => simp
            case tuf3 => simp
            case tug3 =>
              simp [swp, vr]
              exact le_of2 (by simp) (by simp [AVle, AV.under, AV.underL] <;> omega) (by simp [AOle, AO.under, AV.underL, AV.under] <;> omega)
      · obtain rfl : i = xs.length := by omega
        have hall := idxP_all (zos xs) (suits kernel)
        rw [zos_len] at hall
        rw [hall]
        repeat' (first | (apply aw_seq_k; intro K hK) | (refine aw_run hc (by first | exact aw_nod | (intro _; rw [ordB_w hw]; kernel_rfl) | (intro _; rw [ordB_w0 hw0]; kernel_rfl) | (intro _; kernel_rfl)) ?_; simp [List.zipIdx, h32, hat, sortK_len, -getM, getM_hit, getM_miss, getM_none]; (repeat (simp (disch := first | omega | assumption | fail) only [if_pos, if_neg, wrap64]; try simp [List.zipIdx, h32, hat, sortK_len, -getM, getM_hit, getM_miss, getM_none])); try (repeat' (refine guardQ_split (fun h => ?_) (fun h => ?_) <;> simp at h <;> (simp [List.zipIdx, h32, hat, sortK_len, -getM, getM_hit, getM_miss, getM_none]; (repeat (simp (disch := first | omega | assumption | fail) only [if_pos, if_neg, wrap64]; try simp [List.zipIdx, h32, hat, sortK_len, -getM, getM_hit, getM_miss, getM_none])))))) | (refine aw_cond (b := _) (by exact rfl) (fun h => ?_) (fun h => ?_) <;> (try simp at h)) | (refine aw_block ?_) | (refine aw_skip ?_; simp only [thenQ, blockQ, if_true]) | (refine aw_exit ?_; simp [thenQ, blockQ]) | (refine aw_ret ?_; simp only [thenQ, blockQ]) | (refine aw_round ?_) | (refine hK _ ?_; clear hK) | (clear hK; refine hK _ ?_; clear hK) | (clear hK; clear hK; refine hK _ ?_; clear hK) | (clear hK; clear hK; clear hK; refine hK _ ?_; clear hK))
        refine ⟨by simp, ?_⟩
        simp [leaves_iff, Try.f17, sortK_len, take_irows']
        try (first | omega | (refine decide_eq_decide.2 ?_; omega) | (refine decide_eq_false ?_; omega) | (refine decide_eq_true ?_; omega))
  · rw [if_pos h]
    repeat' (first | (apply aw_seq_k; intro K hK) | (refine aw_run hc (by first | exact aw_nod | (intro _; rw [ordB_w hw]; kernel_rfl) | (intro _; rw [ordB_w0 hw0]; kernel_rfl) | (intro _; kernel_rfl)) ?_; simp [List.zipIdx, h24, h, -getM, getM_hit, getM_miss, getM_none]; (repeat (simp (disch := first | omega | assumption | fail) only [if_pos, if_neg, wrap64]; try simp [List.zipIdx, h24, h, -getM, getM_hit, getM_miss, getM_none])); try (repeat' (refine guardQ_split (fun h => ?_) (fun h => ?_) <;> simp at h <;> (simp [List.zipIdx, h24, h, -getM, getM_hit, getM_miss, getM_none]; (repeat (simp (disch := first | omega | assumption | fail) only [if_pos, if_neg, wrap64]; try simp [List.zipIdx, h24, h, -getM, getM_hit, getM_miss, getM_none])))))) | (refine aw_cond (b := _) (by exact rfl) (fun h => ?_) (fun h => ?_) <;> (try simp at h)) | (refine aw_block ?_) | (refine aw_skip ?_; simp only [thenQ, blockQ, if_true]) | (refine aw_exit ?_; simp [thenQ, blockQ]) | (refine aw_ret ?_; simp only [thenQ, blockQ]) | (refine aw_round ?_) | (refine hK _ ?_; clear hK) | (clear hK; refine hK _ ?_; clear hK) | (clear hK; clear hK; refine hK _ ?_; clear hK) | (clear hK; clear hK; clear hK; refine hK _ ?_; clear hK))
    refine ⟨by simp, ?_⟩
    simp [leaves_iff, Try.f17, irows]
    try (first | omega | (refine decide_eq_decide.2 ?_; omega) | (refine decide_eq_false ?_; omega) | (refine decide_eq_true ?_; omega))
end Go.AM
