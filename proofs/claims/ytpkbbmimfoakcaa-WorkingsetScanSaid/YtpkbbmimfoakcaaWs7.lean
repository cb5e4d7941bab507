/- Workingset: the reference's activate and evict. -/
import Derived.Test.YtpkbbmimfoakcaaWs6
set_option linter.all false

namespace Go.AM
open Go Go.Proofs

noncomputable def F36 : List AV → Option AV := specF (ι := {x : List Int × Int // x.1.length ≤ 1000000}) (fun x => [.rd 1 (irows x.1.1), I x.1.2]) fun x => retOf [.ow 1 (irows (wo x.1.1 x.1.2))]
theorem F36_at (l : List Int) (p : Int) (h : l.length ≤ 1000000) : F36 [.rd 1 (irows l), I p] = some (.ow 1 (irows (wo l p))) :=
  specF_eq (A := fun x : {x : List Int × Int // x.1.length ≤ 1000000} => [.rd 1 (irows x.1.1), I x.1.2]) (R := fun x => retOf [.ow 1 (irows (wo x.1.1 x.1.2))]) ⟨(l, p), h⟩ (by
    rintro ⟨⟨a, b⟩, h2⟩ e
    simp [irows_inj] at e
    obtain ⟨rfl, rfl⟩ := e
    rfl)

/-- The cells of the reference's cache. -/
def ccs (ina act gone : List Int) (b : Int) : List AV := [.ow 1 (irows ina), .ow 1 (irows act), .ow 1 (irows gone), I b]
structure CA where
  ina : List Int
  act : List Int
  gone : List Int
  b : Int
def CA.cs (c : CA) : List AV := ccs c.ina c.act c.gone c.b
theorem CA.inj {c d : CA} (h : c.cs = d.cs) : c = d := by
  cases c; cases d
  simpa [CA.cs, ccs, irows_inj] using h
noncomputable def F37 : AV → List AV → Option (AV × AV) := specM (ι := {x : CA × Int // x.2 ∉ x.1.act ∧ x.1.ina.length ≤ 1000000 ∧ x.1.act.length ≤ 1000000}) (fun x => .agg x.1.1.cs) (fun x => [I x.1.2])
  (fun x => retOf [.agg (ccs (actI x.1.1.b x.1.1.ina x.1.1.act x.1.2) (actA x.1.1.b x.1.1.act x.1.2) x.1.1.gone x.1.1.b)]) (fun _ => .any)
theorem F37_at (ina act gone : List Int) (b p : Int) (h : p ∉ act ∧ ina.length ≤ 1000000 ∧ act.length ≤ 1000000) : F37 (.agg [.ow 1 (irows ina), .ow 1 (irows act), .ow 1 (irows gone), I b]) [I p] = some (.agg [.ow 1 (irows (actI b ina act p)), .ow 1 (irows (actA b act p)), .ow 1 (irows gone), I b], .any) :=
  specM_eq (ι := {x : CA × Int // x.2 ∉ x.1.act ∧ x.1.ina.length ≤ 1000000 ∧ x.1.act.length ≤ 1000000}) (A0 := fun x => .agg x.1.1.cs) (A := fun x => [I x.1.2])
    (R := fun x => retOf [.agg (ccs (actI x.1.1.b x.1.1.ina x.1.1.act x.1.2) (actA x.1.1.b x.1.1.act x.1.2) x.1.1.gone x.1.1.b)]) (O := fun _ => .any) ⟨(⟨ina, act, gone, b⟩, p), h⟩ (by
    rintro ⟨⟨c, q⟩, h⟩ e1 e2
    simp only [AV.agg.injEq] at e1
    simp at e2
    have := CA.inj e1
    subst this e2
    exact ⟨rfl, rfl⟩)
set_option maxHeartbeats 1000000 in
theorem s37 (X : AX) (hX : XOK Try.prog X) (hw : X.W wT) (h36 : X.call 36 = callP F36) : MSound Try.prog 37 F37 := by
  refine msound_spec Try.func37 rfl X fun ⟨⟨⟨ina, act, gone, b⟩, p⟩, h1, h2, h3⟩ w0 bl E => ⟨by show 2 ≤ 33; decide, rfl, ?_⟩
  simp only at h1 h2 h3
  show AW ⟨Try.prog, X, 33, w0, ⟨bl, E, _⟩⟩ _ _ _
  have hc : Cx.OK ⟨Try.prog, X, 33, w0, ⟨bl, E, (openArg 0 (.agg (ccs ina act gone b))).2.2⟩⟩ := ⟨hX, mixed⟩
  simp only [CA.cs, ccs]
  have hF := F36_at act p h3
  rw [wo_not h1] at hF
  have hgE : ∀ h', (irows (act ++ [p]))[0]'(h') = [I (gi (act ++ [p]) 0)] := fun h' => by
    have hg := irows_gi (l := act ++ [p]) (n := 0) (by simp)
    rw [List.getElem?_eq_getElem h'] at hg; exact Option.some.inj hg
  have hap : ∀ (A : List Int) (x : Int), irows A ++ [[I x]] = irows (A ++ [x]) := fun A x => by rw [irows_one, irows_append]
  have hdr : List.take act.length (irows (act ++ [p])).tail = irows ((act ++ [p]).drop 1) := by rw [tlI, ← List.drop_one, irows_take, List.take_of_length_le (by simp)]
  have htk2 : List.take (act.length + 1) (irows (act ++ [p])) = irows (act ++ [p]) := by rw [irows_take, List.take_of_length_le (by simp)]
  have htk3 : ∀ x, List.take (ina.length + 1) (irows (ina ++ [x])) = irows (ina ++ [x]) := fun x => by rw [irows_take, List.take_of_length_le (by simp)]
  have hdr1 : List.drop 1 (act ++ [p]) = (act ++ [p]).tail := List.drop_one
  unfold actI actA
  rcases Decidable.em (b < (act.length : Int) + 1) with hb | hb
  · repeat' (first | (apply aw_seq_k; intro K hK) | (refine aw_run hc (by first | exact aw_nod | (intro _; rw [ordB_w hw]; kernel_rfl) | (intro _; rw [ordB_w0 hw0]; kernel_rfl) | (intro _; kernel_rfl)) ?_; simp [List.zipIdx, h36, hF, hb, hgE, tkI, hap, -getM, getM_hit, getM_miss, getM_none]; (repeat (simp (disch := first | omega | assumption | fail) only [if_pos, if_neg, wrap64]; try simp [List.zipIdx, h36, hF, hb, hgE, tkI, hap, -getM, getM_hit, getM_miss, getM_none])); try (repeat' (refine guardQ_split (fun h => ?_) (fun h => ?_) <;> simp at h <;> (simp [List.zipIdx, h36, hF, hb, hgE, tkI, hap, -getM, getM_hit, getM_miss, getM_none]; (repeat (simp (disch := first | omega | assumption | fail) only [if_pos, if_neg, wrap64]; try simp [List.zipIdx, h36, hF, hb, hgE, tkI, hap, -getM, getM_hit, getM_miss, getM_none])))))) | (refine aw_cond (b := _) (by exact rfl) (fun h => ?_) (fun h => ?_) <;> (try simp at h)) | (refine aw_block ?_) | (refine aw_skip ?_; simp only [thenQ, blockQ, if_true]) | (refine aw_exit ?_; simp [thenQ, blockQ]) | (refine aw_ret ?_; simp only [thenQ, blockQ]) | (refine aw_round ?_) | (refine hK _ ?_; clear hK) | (clear hK; refine hK _ ?_; clear hK) | (clear hK; clear hK; refine hK _ ?_; clear hK) | (clear hK; clear hK; clear hK; refine hK _ ?_; clear hK))
    refine ⟨by simp, leavesM_any ?_⟩
    simp (disch := first | omega | assumption | (simp; done) | fail) [if_pos, if_neg, leaves_iff, Try.f37, hb, tkI, hap, hdr, htk2, htk3, show 1 + act.length ≤ act.length + 1 by omega]
  · repeat' (first | (apply aw_seq_k; intro K hK) | (refine aw_run hc (by first | exact aw_nod | (intro _; rw [ordB_w hw]; kernel_rfl) | (intro _; rw [ordB_w0 hw0]; kernel_rfl) | (intro _; kernel_rfl)) ?_; simp [List.zipIdx, h36, hF, hb, hgE, tkI, hap, -getM, getM_hit, getM_miss, getM_none]; (repeat (simp (disch := first | omega | assumption | fail) only [if_pos, if_neg, wrap64]; try simp [List.zipIdx, h36, hF, hb, hgE, tkI, hap, -getM, getM_hit, getM_miss, getM_none])); try (repeat' (refine guardQ_split (fun h => ?_) (fun h => ?_) <;> simp at h <;> (simp [List.zipIdx, h36, hF, hb, hgE, tkI, hap, -getM, getM_hit, getM_miss, getM_none]; (repeat (simp (disch := first | omega | assumption | fail) only [if_pos, if_neg, wrap64]; try simp [List.zipIdx, h36, hF, hb, hgE, tkI, hap, -getM, getM_hit, getM_miss, getM_none])))))) | (refine aw_cond (b := _) (by exact rfl) (fun h => ?_) (fun h => ?_) <;> (try simp at h)) | (refine aw_block ?_) | (refine aw_skip ?_; simp only [thenQ, blockQ, if_true]) | (refine aw_exit ?_; simp [thenQ, blockQ]) | (refine aw_ret ?_; simp only [thenQ, blockQ]) | (refine aw_round ?_) | (refine hK _ ?_; clear hK) | (clear hK; refine hK _ ?_; clear hK) | (clear hK; clear hK; refine hK _ ?_; clear hK) | (clear hK; clear hK; clear hK; refine hK _ ?_; clear hK))
    refine ⟨by simp, leavesM_any ?_⟩
    simp (disch := first | omega | assumption | (simp; done) | fail) [if_pos, if_neg, leaves_iff, Try.f37, hb, tkI, hap, htk2]

noncomputable def F38 : AV → List AV → Option (AV × AV) := specM (ι := {c : CA // 1 ≤ c.ina.length + c.act.length ∧ c.gone.length ≤ 1000000}) (fun x => .agg x.1.cs) (fun _ => [])
  (fun x => retOf [.agg (ccs x.1.ina.tail (if x.1.ina = [] then x.1.act.tail else x.1.act) (x.1.gone ++ [gi (x.1.ina ++ x.1.act) 0]) x.1.b)]) (fun _ => .any)
theorem F38_at (ina act gone : List Int) (b : Int) (h : 1 ≤ ina.length + act.length ∧ gone.length ≤ 1000000) : F38 (.agg [.ow 1 (irows ina), .ow 1 (irows act), .ow 1 (irows gone), I b]) [] = some (.agg [.ow 1 (irows ina.tail), .ow 1 (irows (if ina = [] then act.tail else act)), .ow 1 (irows (gone ++ [gi (ina ++ act) 0])), I b], .any) :=
  specM_eq (ι := {c : CA // 1 ≤ c.ina.length + c.act.length ∧ c.gone.length ≤ 1000000}) (A0 := fun x => .agg x.1.cs) (A := fun _ => [])
    (R := fun x => retOf [.agg (ccs x.1.ina.tail (if x.1.ina = [] then x.1.act.tail else x.1.act) (x.1.gone ++ [gi (x.1.ina ++ x.1.act) 0]) x.1.b)]) (O := fun _ => .any) ⟨⟨ina, act, gone, b⟩, h⟩ (by
    rintro ⟨c, h⟩ e1 e2
    simp only [AV.agg.injEq] at e1
    have := CA.inj e1
    subst this
    exact ⟨rfl, rfl⟩)
set_option maxHeartbeats 1000000 in
theorem s38 (X : AX) (hX : XOK Try.prog X) (hw : X.W wT) : MSound Try.prog 38 F38 := by
  refine msound_spec Try.func38 rfl X fun ⟨⟨ina, act, gone, b⟩, h1, h2⟩ w0 bl E => ⟨by show 1 ≤ 34; decide, rfl, ?_⟩
  simp only at h1 h2
  show AW ⟨Try.prog, X, 34, w0, ⟨bl, E, _⟩⟩ _ _ _
  have hc : Cx.OK ⟨Try.prog, X, 34, w0, ⟨bl, E, (openArg 0 (.agg (ccs ina act gone b))).2.2⟩⟩ := ⟨hX, mixed⟩
  simp only [CA.cs, ccs]
  have hap : ∀ (A : List Int) (x : Int), irows A ++ [[I x]] = irows (A ++ [x]) := fun A x => by rw [irows_one, irows_append]
  have htk2 : ∀ x, List.take (gone.length + 1) (irows (gone ++ [x])) = irows (gone ++ [x]) := fun x => by rw [irows_take, List.take_of_length_le (by simp)]
  cases ina with
  | nil =>
    have hp : 0 < act.length := by simp at h1; omega
    have hg := irows_gi hp
    have hgE : ∀ h', (irows act)[0]'(h') = [I (gi act 0)] := fun h' => by
      rw [List.getElem?_eq_getElem h'] at hg; exact Option.some.inj hg
    have hp1 : 1 ≤ act.length := hp
    have hn : 1 + (act.length - 1) = act.length := by omega
    have hp2 : (1 : Int) ≤ (act.length : Int) := by omega
    have ht : List.take (act.length - 1) (irows act).tail = irows act.tail := by
      rw [tlI, irows_take, List.take_of_length_le (by simp)]
    simp only [List.nil_append, List.tail_nil, if_true]
    repeat' (first | (apply aw_seq_k; intro K hK) | (refine aw_run hc (by first | exact aw_nod | (intro _; rw [ordB_w hw]; kernel_rfl) | (intro _; rw [ordB_w0 hw0]; kernel_rfl) | (intro _; kernel_rfl)) ?_; simp [List.zipIdx, hp, hg, hgE, hp1, hn, hp2, tkI, hap, -getM, getM_hit, getM_miss, getM_none]; (repeat (simp (disch := first | omega | assumption | fail) only [if_pos, if_neg, wrap64]; try simp [List.zipIdx, hp, hg, hgE, hp1, hn, hp2, tkI, hap, -getM, getM_hit, getM_miss, getM_none])); try (repeat' (refine guardQ_split (fun h => ?_) (fun h => ?_) <;> simp at h <;> (simp [List.zipIdx, hp, hg, hgE, hp1, hn, hp2, tkI, hap, -getM, getM_hit, getM_miss, getM_none]; (repeat (simp (disch := first | omega | assumption | fail) only [if_pos, if_neg, wrap64]; try simp [List.zipIdx, hp, hg, hgE, hp1, hn, hp2, tkI, hap, -getM, getM_hit, getM_miss, getM_none])))))) | (refine aw_cond (b := _) (by exact rfl) (fun h => ?_) (fun h => ?_) <;> (try simp at h)) | (refine aw_block ?_) | (refine aw_skip ?_; simp only [thenQ, blockQ, if_true]) | (refine aw_exit ?_; simp [thenQ, blockQ]) | (refine aw_ret ?_; simp only [thenQ, blockQ]) | (refine aw_round ?_) | (refine hK _ ?_; clear hK) | (clear hK; refine hK _ ?_; clear hK) | (clear hK; clear hK; refine hK _ ?_; clear hK) | (clear hK; clear hK; clear hK; refine hK _ ?_; clear hK))
    refine ⟨by simp, leavesM_any ?_⟩
    simp (disch := first | omega | assumption | (simp; done) | fail) [if_pos, if_neg, leaves_iff, Try.f38, hn, ht, tkI, hap, htk2]
  | cons x r =>
    have ht : List.take r.length (irows r) = irows r := tkI r
    have h0 : gi ((x :: r) ++ act) 0 = x := rfl
    have hi : irows (x :: r) = [I x] :: irows r := rfl
    have hta := tkI act
    simp only [h0, List.tail_cons]
    repeat' (first | (apply aw_seq_k; intro K hK) | (refine aw_run hc (by first | exact aw_nod | (intro _; rw [ordB_w hw]; kernel_rfl) | (intro _; rw [ordB_w0 hw0]; kernel_rfl) | (intro _; kernel_rfl)) ?_; simp [List.zipIdx, hi, ht, hta, tkI, hap, -getM, getM_hit, getM_miss, getM_none]; (repeat (simp (disch := first | omega | assumption | fail) only [if_pos, if_neg, wrap64]; try simp [List.zipIdx, hi, ht, hta, tkI, hap, -getM, getM_hit, getM_miss, getM_none])); try (repeat' (refine guardQ_split (fun h => ?_) (fun h => ?_) <;> simp at h <;> (simp [List.zipIdx, hi, ht, hta, tkI, hap, -getM, getM_hit, getM_miss, getM_none]; (repeat (simp (disch := first | omega | assumption | fail) only [if_pos, if_neg, wrap64]; try simp [List.zipIdx, hi, ht, hta, tkI, hap, -getM, getM_hit, getM_miss, getM_none])))))) | (refine aw_cond (b := _) (by exact rfl) (fun h => ?_) (fun h => ?_) <;> (try simp at h)) | (refine aw_block ?_) | (refine aw_skip ?_; simp only [thenQ, blockQ, if_true]) | (refine aw_exit ?_; simp [thenQ, blockQ]) | (refine aw_ret ?_; simp only [thenQ, blockQ]) | (refine aw_round ?_) | (refine hK _ ?_; clear hK) | (clear hK; refine hK _ ?_; clear hK) | (clear hK; clear hK; refine hK _ ?_; clear hK) | (clear hK; clear hK; clear hK; refine hK _ ?_; clear hK))
    refine ⟨by simp, leavesM_any ?_⟩
    simp (disch := first | omega | assumption | (simp; done) | fail) [if_pos, if_neg, leaves_iff, Try.f38, ht, hi, hta, tkI, hap, htk2]
end Go.AM
