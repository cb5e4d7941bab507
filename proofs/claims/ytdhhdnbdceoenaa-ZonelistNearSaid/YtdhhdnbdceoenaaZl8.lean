/- Zonelist: Nodes. -/
import Derived.Test.YtdhhdnbdceoenaaZl7
import Derived.Test.YtdhhdnbdceoenaaAmZc
set_option linter.all false

namespace Go.AM
open Go Go.Proofs

noncomputable def F25 := specF (ι := {x : List Int × Int // x.1.length ≤ 1000}) (fun x => [.rd 1 (irows x.1.1), I x.1.2]) fun x => retOf [B (x.1.2 ∈ x.1.1)]
theorem F25_at {l : List Int} {x : Int} (h : l.length ≤ 1000) : F25 [.rd 1 (irows l), I x] = some (B (x ∈ l)) :=
  specF_eq (ι := {x : List Int × Int // x.1.length ≤ 1000}) (A := fun x => [.rd 1 (irows x.1.1), I x.1.2]) (R := fun x => retOf [B (x.1.2 ∈ x.1.1)]) ⟨(l, x), h⟩ fun j hj => by
    simp [irows_inj] at hj
    simp [hj.1, hj.2]

@[simp] theorem irows_e : irows [] = [] := rfl
def nubP (zs : List Zo) (i : Nat) : List Int := nubN (zs.take i)
theorem nubP_zero (zs : List Zo) : nubP zs 0 = [] := rfl
theorem nubP_len (zs : List Zo) (i : Nat) : (nubP zs i).length ≤ i := by
  have : ∀ (l : List Zo) (acc : List Int), (l.foldl (fun acc z => if z.node ∈ acc then acc else acc ++ [z.node]) acc).length ≤ acc.length + l.length := by
    intro l
    induction l with
    | nil => intro acc; simp
    | cons a r ih =>
      intro acc
      simp only [List.foldl_cons, List.length_cons]
      split
      · have := ih acc; omega
      · have := ih (acc ++ [a.node]); simp at this; omega
  have h := this (zs.take i) []
  simp at h
  unfold nubP nubN
  omega
theorem nubP_in {zs : List Zo} {i : Nat} (h : i < zs.length) (hm : (zg zs i).node ∈ nubP zs i) : nubP zs (i + 1) = nubP zs i := by
  unfold nubP nubN at *
  rw [List.take_succ_eq_append_getElem h, List.foldl_append, ← zg_eq h]
  simp only [List.foldl_cons, List.foldl_nil]
  rw [if_pos hm]
theorem nubP_out {zs : List Zo} {i : Nat} (h : i < zs.length) (hm : ¬ (zg zs i).node ∈ nubP zs i) : nubP zs (i + 1) = nubP zs i ++ [(zg zs i).node] := by
  unfold nubP nubN at *
  rw [List.take_succ_eq_append_getElem h, List.foldl_append, ← zg_eq h]
  simp only [List.foldl_cons, List.foldl_nil]
  rw [if_neg hm]
theorem nubP_all {zs : List Zo} {i : Nat} (h : zs.length ≤ i) : nubP zs i = nubN zs := by unfold nubP; rw [List.take_of_length_le h]

theorem mem_nubN {zs : List Zo} {n : Int} : n ∈ nubN zs ↔ ∃ z ∈ zs, z.node = n := by
  have := (nubN_facts zs [] List.nodup_nil).2 n
  simpa [nubN] using this

/-- What the closure of Nodes holds. -/
theorem cmp27 {Y : AX} (h27 : ∀ a b f M n, sm a → sm b → sm f → Y.call 27 [I a, I b, .rp [I f]] M n = some (I (cmpI (keyN f a) (keyN f b)), [])) {l : List Int} {f : Int} (hl : ∀ x ∈ l, sm x) (hf : sm f) : CmpOK Y l 27 [.rp [I f]] (keyN f) :=
  ⟨fun n => by simp [AV.underL, AV.under], fun M => rfl, fun a b M n ha hb => h27 a b f M n (hl a ha) (hl b hb) hf⟩

theorem s15 (X Y : AX) (hX : XOK Try.prog X) (hw : X.W wT) (h24 : ∀ xs n M k, X.call 24 [.rd 10 (zrows xs), I n] M k = some (I (errN (zos xs) n), []))
    (h25 : X.call 25 = callP F25) (h26 : X.call 26 = callK (F26 Y)) (h27 : ∀ a b f M n, sm a → sm b → sm f → Y.call 27 [I a, I b, .rp [I f]] M n = some (I (cmpI (keyN f a) (keyN f b)), [])) :
    PSound Try.prog 15 (specF (ι := List Zx × Int) (fun x => [.rd 10 (zrows x.1), I x.2]) fun x => retOf [.ow 1 (irows (nodesR (zos x.1) x.2).1), I (nodesR (zos x.1) x.2).2]) := by
  refine psound_spec hX mixed Try.func15 rfl fun ⟨xs, n⟩ w0 G => ⟨by show 2 ≤ 37; decide, rfl, ?_⟩
  show AW ⟨Try.prog, X, 37, w0, .pure G⟩ _ _ _
  have hc : Cx.OK ⟨Try.prog, X, 37, w0, .pure G⟩ := ⟨hX, mixed⟩
  simp only
  unfold nodesR
  rcases Decidable.em (errN (zos xs) n = 0) with h | h
  · obtain ⟨hok, hn⟩ := errN_zero.1 h
    rw [if_neg (by simp [h])]
    have hl : xs.length ≤ 6 := by have := hok.1; rwa [zos_len] at this
    simp only
    rw [← nodes_sort hok hn]
    have hat := F26_at (Y := Y) ⟨nubN (zos xs), 27, [.rp [I n]], keyN n, by have h1 := nubP_len (zos xs) (zos xs).length; rw [nubP_all (Nat.le_refl _), zos_len] at h1; show (nubN (zos xs)).length ≤ 12; omega, cmp27 h27 (fun x hx => by obtain ⟨z, hz, rfl⟩ := mem_nubN.1 hx; have := hok.2 z hz; unfold sm; omega) (by unfold sm; omega)⟩
    simp only at hat
    repeat' (first | (apply aw_seq_k; intro K hK) | (refine aw_run hc (by first | exact aw_nod | (intro _; rw [ordB_w hw]; kernel_rfl) | (intro _; rw [ordB_w0 hw0]; kernel_rfl) | (intro _; kernel_rfl)) ?_; simp [List.zipIdx, h24, h, -getM, getM_hit, getM_miss, getM_none]; (repeat (simp (disch := first | omega | assumption | fail) only [if_pos, if_neg, wrap64]; try simp [List.zipIdx, h24, h, -getM, getM_hit, getM_miss, getM_none])); try (repeat' (refine guardQ_split (fun h => ?_) (fun h => ?_) <;> simp at h <;> (simp [List.zipIdx, h24, h, -getM, getM_hit, getM_miss, getM_none]; (repeat (simp (disch := first | omega | assumption | fail) only [if_pos, if_neg, wrap64]; try simp [List.zipIdx, h24, h, -getM, getM_hit, getM_miss, getM_none])))))) | (refine aw_cond (b := _) (by exact rfl) (fun h => ?_) (fun h => ?_) <;> (try simp at h)) | (refine aw_block ?_) | (refine aw_skip ?_; simp only [thenQ, blockQ, if_true]) | (refine aw_exit ?_; simp [thenQ, blockQ]) | (refine aw_ret ?_; simp only [thenQ, blockQ]) | (refine aw_round ?_) | (refine hK _ ?_; clear hK) | (clear hK; refine hK _ ?_; clear hK) | (clear hK; clear hK; refine hK _ ?_; clear hK) | (clear hK; clear hK; clear hK; refine hK _ ?_; clear hK))
    refine aw_weaken (le_nilslot (t := 7) (sz := 1) (by simp)) ?_
    refine aw_loopK (s0 := ?lps1) (m0 := ?lpm1) (ι := {i : Nat // i ≤ xs.length}) [3, 16, 17] (fun i => [(18, I i.1), (7, .sl 208 1 1 0 (nubP (zos xs) i.1).length)]) (fun i => [(208, .vec 1 1 false (irows (nubP (zos xs) i.1)))]) (fun i => xs.length - i.1) ⟨0, by omega⟩ ?lhs1 ?lhm1 ?_ ?_
    case lhs1 => first | (simp [keepS]; done) | (simp [keepS]; rfl)
    case lhm1 => first | rfl | (simp; done) | (simp; rfl)
    · simp only [nubP_zero]
      exact le_of2 (by simp) (by simp [AVle, AV.under, AV.underL] <;> omega) (by simp [AOle, AO.under, AV.underL, AV.under] <;> omega)
    · rintro ⟨i, hi⟩
      simp only
      have hnl := nubP_len (zos xs) i
      rcases Decidable.em (i < xs.length) with hil | hil
      · have hilI : (i : Int) < (xs.length : Int) := by omega
        have hg := zrows_get hil
        simp only [Zx.row] at hg
        have hz := zx_z hil
        rw [hz] at hg
        have hil2 : i < (zos xs).length := by rw [zos_len]; exact hil
        have hf := F25_at (l := nubP (zos xs) i) (x := (zg (zos xs) i).node) (by omega)
        have htk : List.take (nubP (zos xs) i).length (irows (nubP (zos xs) i)) = irows (nubP (zos xs) i) := by rw [irows_take, List.take_length]
        rcases Decidable.em ((zg (zos xs) i).node ∈ nubP (zos xs) i) with hm | hm
        · have hnx := nubP_in hil2 hm
          repeat' (first | (apply aw_seq_k; intro K hK) | (refine aw_run hc (by first | exact aw_nod | (intro _; rw [ordB_w hw]; kernel_rfl) | (intro _; rw [ordB_w0 hw0]; kernel_rfl) | (intro _; kernel_rfl)) ?_; simp [List.zipIdx, hilI, hg, h25, hf, htk, hm, -getM, getM_hit, getM_miss, getM_none]; (repeat (simp (disch := first | omega | assumption | fail) only [if_pos, if_neg, wrap64]; try simp [List.zipIdx, hilI, hg, h25, hf, htk, hm, -getM, getM_hit, getM_miss, getM_none])); try (repeat' (refine guardQ_split (fun h => ?_) (fun h => ?_) <;> simp at h <;> (simp [List.zipIdx, hilI, hg, h25, hf, htk, hm, -getM, getM_hit, getM_miss, getM_none]; (repeat (simp (disch := first | omega | assumption | fail) only [if_pos, if_neg, wrap64]; try simp [List.zipIdx, hilI, hg, h25, hf, htk, hm, -getM, getM_hit, getM_miss, getM_none])))))) | (refine aw_cond (b := _) (by exact rfl) (fun h => ?_) (fun h => ?_) <;> (try simp at h)) | (refine aw_block ?_) | (refine aw_skip ?_; simp only [thenQ, blockQ, if_true]) | (refine aw_exit ?_; simp [thenQ, blockQ]) | (refine aw_ret ?_; simp only [thenQ, blockQ]) | (refine aw_round ?_) | (refine hK _ ?_; clear hK) | (clear hK; refine hK _ ?_; clear hK) | (clear hK; clear hK; refine hK _ ?_; clear hK) | (clear hK; clear hK; clear hK; refine hK _ ?_; clear hK))
          refine ⟨i + 1, ?_, by omega, by omega⟩
          simp only [hnx]
          exact le_of2 (by simp) (by simp [AVle, AV.under, AV.underL] <;> omega) (by simp [AOle, AO.under, AV.underL, AV.under] <;> omega)
        · have hnx := nubP_out hil2 hm
          have hle1 : (nubP (zos xs) i).length ≤ 1073741823 := by omega
          have hap : irows (nubP (zos xs) i) ++ [[I (zg (zos xs) i).node]] = irows (nubP (zos xs) (i + 1)) := by rw [irows_one, irows_append, hnx]
          have hl2 : (nubP (zos xs) i).length + 1 = (nubP (zos xs) (i + 1)).length := by rw [hnx]; simp
          repeat' (first | (apply aw_seq_k; intro K hK) | (refine aw_run hc (by first | exact aw_nod | (intro _; rw [ordB_w hw]; kernel_rfl) | (intro _; rw [ordB_w0 hw0]; kernel_rfl) | (intro _; kernel_rfl)) ?_; simp [List.zipIdx, hilI, hg, h25, hf, htk, hm, hle1, hap, -getM, getM_hit, getM_miss, getM_none]; (repeat (simp (disch := first | omega | assumption | fail) only [if_pos, if_neg, wrap64]; try simp [List.zipIdx, hilI, hg, h25, hf, htk, hm, hle1, hap, -getM, getM_hit, getM_miss, getM_none])); try (repeat' (refine guardQ_split (fun h => ?_) (fun h => ?_) <;> simp at h <;> (simp [List.zipIdx, hilI, hg, h25, hf, htk, hm, hle1, hap, -getM, getM_hit, getM_miss, getM_none]; (repeat (simp (disch := first | omega | assumption | fail) only [if_pos, if_neg, wrap64]; try simp [List.zipIdx, hilI, hg, h25, hf, htk, hm, hle1, hap, -getM, getM_hit, getM_miss, getM_none])))))) | (refine aw_cond (b := _) (by exact rfl) (fun h => ?_) (fun h => ?_) <;> (try simp at h)) | (refine aw_block ?_) | (refine aw_skip ?_; simp only [thenQ, blockQ, if_true]) | (refine aw_exit ?_; simp [thenQ, blockQ]) | (refine aw_ret ?_; simp only [thenQ, blockQ]) | (refine aw_round ?_) | (refine hK _ ?_; clear hK) | (clear hK; refine hK _ ?_; clear hK) | (clear hK; clear hK; refine hK _ ?_; clear hK) | (clear hK; clear hK; clear hK; refine hK _ ?_; clear hK))
          refine ⟨i + 1, ?_, by omega, by omega⟩
          simp only [hl2]
          refine le_turn (s1 := ?tus2) (m1 := ?tum2) [] [3, 16, 17, 7, 18] [0, 208] ?tua2 ?tub2 ?tuc2 ?tud2 ?tue2 ?tuf2 ?tug2
          case tua2 => first | (simp [keepS]; done) | (simp [keepS]; rfl)
          case tub2 => first | (simp; done) | (simp; rfl)
          case tuc2 => simp
          case tud2 => simp
          case tue2 => simp
          case tuf2 => simp
          case tug2 =>
            simp [swp, vr]
            exact le_of2 (by simp) (by simp [AVle, AV.under, AV.underL] <;> omega) (by simp [AOle, AO.under, AV.underL, AV.under] <;> omega)
      · obtain rfl : i = xs.length := by omega
        have hall := nubP_all (zs := zos xs) (i := xs.length) (by rw [zos_len]; omega)
        rw [hall]
        repeat' (first | (apply aw_seq_k; intro K hK) | (refine aw_run hc (by first | exact aw_nod | (intro _; rw [ordB_w hw]; kernel_rfl) | (intro _; rw [ordB_w0 hw0]; kernel_rfl) | (intro _; kernel_rfl)) ?_; simp [List.zipIdx, h26, hat, sortK_len, -getM, getM_hit, getM_miss, getM_none]; (repeat (simp (disch := first | omega | assumption | fail) only [if_pos, if_neg, wrap64]; try simp [List.zipIdx, h26, hat, sortK_len, -getM, getM_hit, getM_miss, getM_none])); try (repeat' (refine guardQ_split (fun h => ?_) (fun h => ?_) <;> simp at h <;> (simp [List.zipIdx, h26, hat, sortK_len, -getM, getM_hit, getM_miss, getM_none]; (repeat (simp (disch := first | omega | assumption | fail) only [if_pos, if_neg, wrap64]; try simp [List.zipIdx, h26, hat, sortK_len, -getM, getM_hit, getM_miss, getM_none])))))) | (refine aw_cond (b := _) (by exact rfl) (fun h => ?_) (fun h => ?_) <;> (try simp at h)) | (refine aw_block ?_) | (refine aw_skip ?_; simp only [thenQ, blockQ, if_true]) | (refine aw_exit ?_; simp [thenQ, blockQ]) | (refine aw_ret ?_; simp only [thenQ, blockQ]) | (refine aw_round ?_) | (refine hK _ ?_; clear hK) | (clear hK; refine hK _ ?_; clear hK) | (clear hK; clear hK; refine hK _ ?_; clear hK) | (clear hK; clear hK; clear hK; refine hK _ ?_; clear hK))
        refine ⟨by simp, ?_⟩
        simp [leaves_iff, Try.f15, sortK_len, take_irows']
        try (first | omega | (refine decide_eq_decide.2 ?_; omega) | (refine decide_eq_false ?_; omega) | (refine decide_eq_true ?_; omega))
  · rw [if_pos h]
    repeat' (first | (apply aw_seq_k; intro K hK) | (refine aw_run hc (by first | exact aw_nod | (intro _; rw [ordB_w hw]; kernel_rfl) | (intro _; rw [ordB_w0 hw0]; kernel_rfl) | (intro _; kernel_rfl)) ?_; simp [List.zipIdx, h24, h, -getM, getM_hit, getM_miss, getM_none]; (repeat (simp (disch := first | omega | assumption | fail) only [if_pos, if_neg, wrap64]; try simp [List.zipIdx, h24, h, -getM, getM_hit, getM_miss, getM_none])); try (repeat' (refine guardQ_split (fun h => ?_) (fun h => ?_) <;> simp at h <;> (simp [List.zipIdx, h24, h, -getM, getM_hit, getM_miss, getM_none]; (repeat (simp (disch := first | omega | assumption | fail) only [if_pos, if_neg, wrap64]; try simp [List.zipIdx, h24, h, -getM, getM_hit, getM_miss, getM_none])))))) | (refine aw_cond (b := _) (by exact rfl) (fun h => ?_) (fun h => ?_) <;> (try simp at h)) | (refine aw_block ?_) | (refine aw_skip ?_; simp only [thenQ, blockQ, if_true]) | (refine aw_exit ?_; simp [thenQ, blockQ]) | (refine aw_ret ?_; simp only [thenQ, blockQ]) | (refine aw_round ?_) | (refine hK _ ?_; clear hK) | (clear hK; refine hK _ ?_; clear hK) | (clear hK; clear hK; refine hK _ ?_; clear hK) | (clear hK; clear hK; clear hK; refine hK _ ?_; clear hK))
    refine ⟨by simp, ?_⟩
    simp [leaves_iff, Try.f15, irows]
    try (first | omega | (refine decide_eq_decide.2 ?_; omega) | (refine decide_eq_false ?_; omega) | (refine decide_eq_true ?_; omega))
end Go.AM
