/- Workingset: an eviction is recorded; the two lists. -/
import Derived.Test.YtpkbbmimfoakcaaWs2
import Derived.Test.YtpkbbmimfoakcaaAmQ
set_option linter.all false

namespace Go.AM
open Go Go.Proofs

def wT (f : FuncId) : Bool := Nat.beq f 26 || Nat.beq f 32 || Nat.beq f 34 || Nat.beq f 35 || Nat.beq f 37 || Nat.beq f 38 || Nat.beq f 42

/-- What follows under a name, so that simp leaves it. -/
theorem aw_hide {c : Cx} {k : Code} {st : St} {Q0 : Exit → St → Prop} (h : ∀ Q : Exit → St → Prop, (∀ e st, Q0 e st → Q e st) → AW c k st Q) : AW c k st Q0 := h Q0 fun _ _ h => h
theorem tkI (l : List Int) : List.take l.length (irows l) = irows l := by rw [irows_take, List.take_length]
theorem tkA (l : List Int) (x : Int) : List.take (l.length + 1) (irows l ++ [[I x]]) = irows (l ++ [x]) := by
  rw [irows_one, irows_append, irows_take, show l.length + 1 = (l ++ [x]).length by simp, List.take_length]
theorem dropA (l : List Int) (x : Int) : List.drop 1 (irows l ++ [[I x]]) = irows ((l ++ [x]).drop 1) := by
  rw [irows_one, irows_append, irows_drop]

theorem tlA (l : List Int) (x : Int) : List.take l.length (irows l ++ [[I x]]).tail = irows ((l ++ [x]).tail) := by
  rw [irows_one, irows_append, ← List.drop_one, ← List.drop_one, irows_drop, irows_take, List.take_of_length_le (by simp)]

noncomputable def F26 : AV → List AV → Option (AV × AV) := specM (ι := {x : Int × List (List Int × AV) × Int // (0 ≤ x.1 ∧ x.1 ≤ 1000000) ∧ ∀ p ∈ x.2.1, p.2.plain}) (fun x => .rf [I x.1.1, .om 1 x.1.2.1]) (fun x => [I x.1.2.2]) (fun _ => retOf []) (fun x => .rf [I (x.1.1 + 1), .om 1 (mset x.1.2.1 [x.1.2.2] (I (x.1.1 + 1)))])
theorem F26_at (c : Int) (es : List (List Int × AV)) (p : Int) (h : 0 ≤ c ∧ c ≤ 1000000) (hp : ∀ p ∈ es, p.2.plain) : F26 (.rf [I c, .om 1 es]) [I p] = some (.tup [], .rf [I (c + 1), .om 1 (mset es [p] (I (c + 1)))]) :=
  specM_eq (ι := {x : Int × List (List Int × AV) × Int // (0 ≤ x.1 ∧ x.1 ≤ 1000000) ∧ ∀ p ∈ x.2.1, p.2.plain}) (A0 := fun x => .rf [I x.1.1, .om 1 x.1.2.1]) (A := fun x => [I x.1.2.2]) (R := fun _ => retOf []) (O := fun x => .rf [I (x.1.1 + 1), .om 1 (mset x.1.2.1 [x.1.2.2] (I (x.1.1 + 1)))]) ⟨(c, es, p), h, hp⟩ (by
    rintro ⟨⟨a, b, d⟩, h⟩ e1 e2
    simp at e1 e2
    obtain ⟨rfl, rfl⟩ := e1
    subst e2
    exact ⟨rfl, rfl⟩)
theorem s26 (X : AX) (hX : XOK Try.prog X) (hw : X.W wT) : MSound Try.prog 26 F26 := by
  refine msound_spec Try.func26 rfl X fun ⟨⟨c, es, p⟩, ⟨h1, h2⟩, _⟩ w0 bl E => ⟨by show 2 ≤ 20; decide, rfl, ?_⟩
  simp only at h1 h2
  show AW ⟨Try.prog, X, 20, w0, ⟨bl, E, _⟩⟩ _ _ _
  have hc : Cx.OK ⟨Try.prog, X, 20, w0, ⟨bl, E, (openArg 0 (.rf [I c, .om 1 es])).2.2⟩⟩ := ⟨hX, mixed⟩
  refine aw_hide fun Q hQ => ?_
  repeat' (first | (apply aw_seq_k; intro K hK) | (refine aw_run hc (by first | exact aw_nod | (intro _; rw [ordB_w hw]; kernel_rfl) | (intro _; rw [ordB_w0 hw0]; kernel_rfl) | (intro _; kernel_rfl)) ?_; simp [-getM, getM_hit, getM_miss, getM_none]; (repeat (simp (disch := first | omega | assumption | fail) only [if_pos, if_neg, wrap64]; try simp [-getM, getM_hit, getM_miss, getM_none])); try (repeat' (refine guardQ_split (fun h => ?_) (fun h => ?_) <;> simp at h <;> (simp [-getM, getM_hit, getM_miss, getM_none]; (repeat (simp (disch := first | omega | assumption | fail) only [if_pos, if_neg, wrap64]; try simp [-getM, getM_hit, getM_miss, getM_none])))))) | (refine aw_cond (b := _) (by exact rfl) (fun h => ?_) (fun h => ?_) <;> (try simp at h)) | (refine aw_block ?_) | (refine aw_skip ?_; simp only [thenQ, blockQ, if_true]) | (refine aw_exit ?_; simp [thenQ, blockQ]) | (refine aw_ret ?_; simp only [thenQ, blockQ]) | (refine aw_round ?_) | (refine hK _ ?_; clear hK) | (clear hK; refine hK _ ?_; clear hK) | (clear hK; clear hK; refine hK _ ?_; clear hK) | (clear hK; clear hK; clear hK; refine hK _ ?_; clear hK))
  refine hQ _ _ ⟨by simp, leavesM_out ?_⟩
  simp [Try.f26]

/-- The two lists after a page has been activated. -/
def actI (b : Int) (ina act : List Int) (p : Int) : List Int := if b < (act.length : Int) + 1 then ina ++ [gi (act ++ [p]) 0] else ina
def actA (b : Int) (act : List Int) (p : Int) : List Int := if b < (act.length : Int) + 1 then (act ++ [p]).drop 1 else act ++ [p]
noncomputable def F34 : AV → List AV → Option (AV × AV) := specM (ι := {x : List Int × List Int × Int × Int // x.1.length ≤ bigN ∧ x.2.1.length ≤ bigN}) (fun x => .rf [.ow 1 (irows x.1.1), .ow 1 (irows x.1.2.1), I x.1.2.2.1]) (fun x => [I x.1.2.2.2]) (fun _ => retOf [])
  (fun x => .rf [.ow 1 (irows (actI x.1.2.2.1 x.1.1 x.1.2.1 x.1.2.2.2)), .ow 1 (irows (actA x.1.2.2.1 x.1.2.1 x.1.2.2.2)), I x.1.2.2.1])
theorem F34_at (ina act : List Int) (b p : Int) (h1 : ina.length ≤ bigN) (h2 : act.length ≤ bigN) : F34 (.rf [.ow 1 (irows ina), .ow 1 (irows act), I b]) [I p] = some (.tup [], .rf [.ow 1 (irows (actI b ina act p)), .ow 1 (irows (actA b act p)), I b]) :=
  specM_eq (ι := {x : List Int × List Int × Int × Int // x.1.length ≤ bigN ∧ x.2.1.length ≤ bigN}) (A0 := fun x => .rf [.ow 1 (irows x.1.1), .ow 1 (irows x.1.2.1), I x.1.2.2.1]) (A := fun x => [I x.1.2.2.2]) (R := fun _ => retOf [])
    (O := fun x => .rf [.ow 1 (irows (actI x.1.2.2.1 x.1.1 x.1.2.1 x.1.2.2.2)), .ow 1 (irows (actA x.1.2.2.1 x.1.2.1 x.1.2.2.2)), I x.1.2.2.1]) ⟨(ina, act, b, p), h1, h2⟩ (by
    rintro ⟨⟨a, b, d, e⟩, h⟩ e1 e2
    simp [irows_inj] at e1 e2
    obtain ⟨rfl, rfl, rfl⟩ := e1
    subst e2
    exact ⟨rfl, rfl⟩)
set_option maxHeartbeats 1000000 in
theorem s34 (X : AX) (hX : XOK Try.prog X) (hw : X.W wT) : MSound Try.prog 34 F34 := by
  refine msound_spec Try.func34 rfl X fun ⟨⟨ina, act, b, p⟩, h1, h2⟩ w0 bl E => ⟨by show 2 ≤ 47; decide, rfl, ?_⟩
  simp only at h1 h2
  unfold bigN at h1 h2
  show AW ⟨Try.prog, X, 47, w0, ⟨bl, E, _⟩⟩ _ _ _
  have hc : Cx.OK ⟨Try.prog, X, 47, w0, ⟨bl, E, (openArg 0 (.rf [.ow 1 (irows ina), .ow 1 (irows act), I b])).2.2⟩⟩ := ⟨hX, mixed⟩
  have hl : ((act ++ [p]).length : Int) = (act.length : Int) + 1 := by simp
  have hg : (irows act ++ [[I p]])[0]? = some [I (gi (act ++ [p]) 0)] := by
    have := irows_gi (l := act ++ [p]) (n := 0) (by simp)
    rwa [← irows_append] at this
  have hgE : ∀ h', (irows act ++ [[I p]])[0]'(h') = [I (gi (act ++ [p]) 0)] := fun h' => by
    rw [List.getElem?_eq_getElem h'] at hg; exact Option.some.inj hg
  unfold actI actA
  simp only
  refine aw_hide fun Q hQ => ?_
  rcases Decidable.em (b < (act.length : Int) + 1) with hb | hb
  · repeat' (first | (apply aw_seq_k; intro K hK) | (refine aw_run hc (by first | exact aw_nod | (intro _; rw [ordB_w hw]; kernel_rfl) | (intro _; rw [ordB_w0 hw0]; kernel_rfl) | (intro _; kernel_rfl)) ?_; simp [List.zipIdx, hb, hg, hgE, tkI, tkA, -getM, getM_hit, getM_miss, getM_none]; (repeat (simp (disch := first | omega | assumption | fail) only [if_pos, if_neg, wrap64]; try simp [List.zipIdx, hb, hg, hgE, tkI, tkA, -getM, getM_hit, getM_miss, getM_none])); try (repeat' (refine guardQ_split (fun h => ?_) (fun h => ?_) <;> simp at h <;> (simp [List.zipIdx, hb, hg, hgE, tkI, tkA, -getM, getM_hit, getM_miss, getM_none]; (repeat (simp (disch := first | omega | assumption | fail) only [if_pos, if_neg, wrap64]; try simp [List.zipIdx, hb, hg, hgE, tkI, tkA, -getM, getM_hit, getM_miss, getM_none])))))) | (refine aw_cond (b := _) (by exact rfl) (fun h => ?_) (fun h => ?_) <;> (try simp at h)) | (refine aw_block ?_) | (refine aw_skip ?_; simp only [thenQ, blockQ, if_true]) | (refine aw_exit ?_; simp [thenQ, blockQ]) | (refine aw_ret ?_; simp only [thenQ, blockQ]) | (refine aw_round ?_) | (refine hK _ ?_; clear hK) | (clear hK; refine hK _ ?_; clear hK) | (clear hK; clear hK; refine hK _ ?_; clear hK) | (clear hK; clear hK; clear hK; refine hK _ ?_; clear hK))
    try refine aw_skip ?_
    refine hQ _ _ ⟨by simp, leavesM_out ?_⟩
    simp [Try.f34, hb, tkI, tkA, dropA, tlA, show 1 + act.length ≤ act.length + 1 by omega]
  · repeat' (first | (apply aw_seq_k; intro K hK) | (refine aw_run hc (by first | exact aw_nod | (intro _; rw [ordB_w hw]; kernel_rfl) | (intro _; rw [ordB_w0 hw0]; kernel_rfl) | (intro _; kernel_rfl)) ?_; simp [List.zipIdx, hb, hg, hgE, tkI, tkA, -getM, getM_hit, getM_miss, getM_none]; (repeat (simp (disch := first | omega | assumption | fail) only [if_pos, if_neg, wrap64]; try simp [List.zipIdx, hb, hg, hgE, tkI, tkA, -getM, getM_hit, getM_miss, getM_none])); try (repeat' (refine guardQ_split (fun h => ?_) (fun h => ?_) <;> simp at h <;> (simp [List.zipIdx, hb, hg, hgE, tkI, tkA, -getM, getM_hit, getM_miss, getM_none]; (repeat (simp (disch := first | omega | assumption | fail) only [if_pos, if_neg, wrap64]; try simp [List.zipIdx, hb, hg, hgE, tkI, tkA, -getM, getM_hit, getM_miss, getM_none])))))) | (refine aw_cond (b := _) (by exact rfl) (fun h => ?_) (fun h => ?_) <;> (try simp at h)) | (refine aw_block ?_) | (refine aw_skip ?_; simp only [thenQ, blockQ, if_true]) | (refine aw_exit ?_; simp [thenQ, blockQ]) | (refine aw_ret ?_; simp only [thenQ, blockQ]) | (refine aw_round ?_) | (refine hK _ ?_; clear hK) | (clear hK; refine hK _ ?_; clear hK) | (clear hK; clear hK; refine hK _ ?_; clear hK) | (clear hK; clear hK; clear hK; refine hK _ ?_; clear hK))
    try refine aw_skip ?_
    refine hQ _ _ ⟨by simp, leavesM_out ?_⟩
    simp [Try.f34, hb, tkI, tkA]
/-- What is evicted, and the two lists afterwards. -/
noncomputable def F35 : AV → List AV → Option (AV × AV) := specM (ι := {x : List Int × List Int × Int // 1 ≤ x.1.length + x.2.1.length}) (fun x => .rf [.ow 1 (irows x.1.1), .ow 1 (irows x.1.2.1), I x.1.2.2]) (fun _ => []) (fun x => retOf [I (gi (x.1.1 ++ x.1.2.1) 0)])
  (fun x => .rf [.ow 1 (irows x.1.1.tail), .ow 1 (irows (if x.1.1 = [] then x.1.2.1.tail else x.1.2.1)), I x.1.2.2])
theorem F35_at (ina act : List Int) (b : Int) (h : 1 ≤ ina.length + act.length) : F35 (.rf [.ow 1 (irows ina), .ow 1 (irows act), I b]) [] = some (I (gi (ina ++ act) 0), .rf [.ow 1 (irows ina.tail), .ow 1 (irows (if ina = [] then act.tail else act)), I b]) :=
  specM_eq (ι := {x : List Int × List Int × Int // 1 ≤ x.1.length + x.2.1.length}) (A0 := fun x => .rf [.ow 1 (irows x.1.1), .ow 1 (irows x.1.2.1), I x.1.2.2]) (A := fun _ => []) (R := fun x => retOf [I (gi (x.1.1 ++ x.1.2.1) 0)])
    (O := fun x => .rf [.ow 1 (irows x.1.1.tail), .ow 1 (irows (if x.1.1 = [] then x.1.2.1.tail else x.1.2.1)), I x.1.2.2]) ⟨(ina, act, b), h⟩ (by
    rintro ⟨⟨a, b, d⟩, h⟩ e1 e2
    simp [irows_inj] at e1
    obtain ⟨rfl, rfl, rfl⟩ := e1
    exact ⟨rfl, rfl⟩)
theorem tlI (l : List Int) : (irows l).tail = irows l.tail := by simp [irows]
set_option maxHeartbeats 1000000 in
theorem s35 (X : AX) (hX : XOK Try.prog X) (hw : X.W wT) : MSound Try.prog 35 F35 := by
  refine msound_spec Try.func35 rfl X fun ⟨⟨ina, act, b⟩, h1⟩ w0 bl E => ⟨by show 1 ≤ 41; decide, rfl, ?_⟩
  simp only at h1
  show AW ⟨Try.prog, X, 41, w0, ⟨bl, E, _⟩⟩ _ _ _
  have hc : Cx.OK ⟨Try.prog, X, 41, w0, ⟨bl, E, (openArg 0 (.rf [.ow 1 (irows ina), .ow 1 (irows act), I b])).2.2⟩⟩ := ⟨hX, mixed⟩
  cases ina with
  | nil =>
    have hp : 0 < act.length := by simp at h1; omega
    have hg := irows_gi hp
    have hgE : ∀ h', (irows act)[0]'(h') = [I (gi act 0)] := fun h' => by
      rw [List.getElem?_eq_getElem h'] at hg; exact Option.some.inj hg
    have hp1 : 1 ≤ act.length := hp
    have hn : 1 + (act.length - 1) = act.length := by omega
    have hp2 : (1 : Int) ≤ (act.length : Int) := by omega
    have ht : List.take (act.length - 1) (irows act).tail = irows act.tail := by
      rw [tlI, irows_take, List.take_of_length_le (by simp)]
    simp only [List.nil_append, List.tail_nil, if_true]
    repeat' (first | (apply aw_seq_k; intro K hK) | (refine aw_run hc (by first | exact aw_nod | (intro _; rw [ordB_w hw]; kernel_rfl) | (intro _; rw [ordB_w0 hw0]; kernel_rfl) | (intro _; kernel_rfl)) ?_; simp [List.zipIdx, hp, hg, hgE, hp1, hn, hp2, -getM, getM_hit, getM_miss, getM_none]; (repeat (simp (disch := first | omega | assumption | fail) only [if_pos, if_neg, wrap64]; try simp [List.zipIdx, hp, hg, hgE, hp1, hn, hp2, -getM, getM_hit, getM_miss, getM_none])); try (repeat' (refine guardQ_split (fun h => ?_) (fun h => ?_) <;> simp at h <;> (simp [List.zipIdx, hp, hg, hgE, hp1, hn, hp2, -getM, getM_hit, getM_miss, getM_none]; (repeat (simp (disch := first | omega | assumption | fail) only [if_pos, if_neg, wrap64]; try simp [List.zipIdx, hp, hg, hgE, hp1, hn, hp2, -getM, getM_hit, getM_miss, getM_none])))))) | (refine aw_cond (b := _) (by exact rfl) (fun h => ?_) (fun h => ?_) <;> (try simp at h)) | (refine aw_block ?_) | (refine aw_skip ?_; simp only [thenQ, blockQ, if_true]) | (refine aw_exit ?_; simp [thenQ, blockQ]) | (refine aw_ret ?_; simp only [thenQ, blockQ]) | (refine aw_round ?_) | (refine hK _ ?_; clear hK) | (clear hK; refine hK _ ?_; clear hK) | (clear hK; clear hK; refine hK _ ?_; clear hK) | (clear hK; clear hK; clear hK; refine hK _ ?_; clear hK))
    refine ⟨by simp, leavesM_out ?_⟩
    simp (disch := first | omega | assumption | (simp; done) | fail) [if_pos, if_neg, Try.f35, hn, ht, List.drop_one]
    try rfl
  | cons x r =>
    have hg : ∀ h', (irows (x :: r))[0]'(h') = [I x] := fun h' => rfl
    have ht : List.take r.length (irows r) = irows r := tkI r
    have h0 : gi ((x :: r) ++ act) 0 = x := rfl
    have hi : irows (x :: r) = [I x] :: irows r := rfl
    have hta := tkI act
    simp only [h0, List.tail_cons]
    repeat' (first | (apply aw_seq_k; intro K hK) | (refine aw_run hc (by first | exact aw_nod | (intro _; rw [ordB_w hw]; kernel_rfl) | (intro _; rw [ordB_w0 hw0]; kernel_rfl) | (intro _; kernel_rfl)) ?_; simp [List.zipIdx, hi, ht, hta, -getM, getM_hit, getM_miss, getM_none]; (repeat (simp (disch := first | omega | assumption | fail) only [if_pos, if_neg, wrap64]; try simp [List.zipIdx, hi, ht, hta, -getM, getM_hit, getM_miss, getM_none])); try (repeat' (refine guardQ_split (fun h => ?_) (fun h => ?_) <;> simp at h <;> (simp [List.zipIdx, hi, ht, hta, -getM, getM_hit, getM_miss, getM_none]; (repeat (simp (disch := first | omega | assumption | fail) only [if_pos, if_neg, wrap64]; try simp [List.zipIdx, hi, ht, hta, -getM, getM_hit, getM_miss, getM_none])))))) | (refine aw_cond (b := _) (by exact rfl) (fun h => ?_) (fun h => ?_) <;> (try simp at h)) | (refine aw_block ?_) | (refine aw_skip ?_; simp only [thenQ, blockQ, if_true]) | (refine aw_exit ?_; simp [thenQ, blockQ]) | (refine aw_ret ?_; simp only [thenQ, blockQ]) | (refine aw_round ?_) | (refine hK _ ?_; clear hK) | (clear hK; refine hK _ ?_; clear hK) | (clear hK; clear hK; refine hK _ ?_; clear hK) | (clear hK; clear hK; clear hK; refine hK _ ?_; clear hK))
    refine ⟨by simp, leavesM_out ?_⟩
    simp (disch := first | omega | assumption | (simp; done) | fail) [if_pos, if_neg, Try.f35, ht, hi, hta]
end Go.AM
