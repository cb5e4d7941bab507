/- Zonelist: the closures of Order and Pick; masks. -/
import Derived.Test.YtdhhdnbdceoenaaZl3
import Derived.Test.YtdhhdnbdceoenaaZl5
import Derived.Test.YtdhhdnbdceoenaaZl6
set_option linter.all false

namespace Go.AM
open Go Go.Proofs

@[simp] theorem ty49 : Types Try.prog 49 = some ⟨.func, 1, 8, [.nilFunc]⟩ := by kernel_rfl

/-- A table in which nothing writes. -/
def AX.start0 : AX := ⟨fun _ _ _ _ => .none, fun _ => false, false, fun _ => false⟩
theorem xok_start0 (P : Program) : XOK P AX.start0 where
  calls := fun f avs M nid r h => by simp [AX.start0] at h
  eqs := fun t h => by simp [AX.start0] at h
  dom := fun f avs M nid r h => by simp [AX.start0] at h
  anyW := fun f h => by simp [AX.start0] at h
def AX.W0 (X : AX) : Prop := X.writes = (fun _ => false) ∧ X.anyW = false
theorem AX.W0.start : AX.start0.W0 := ⟨rfl, rfl⟩
theorem AX.W0.add {X : AX} (h : X.W0) (f : FuncId) (g : List AV → (Nat → AO) → Nat → Option (AV × List (Nat × AO))) : (X.add f g).W0 := h
theorem ordB_w0 {X : AX} (h : X.W0) {ops : Array Oper} : ordB X ops = ordB AX.start0 ops := by
  obtain ⟨a, b, c, d⟩ := X
  obtain ⟨h1, h2⟩ := h
  simp only at h1 h2
  subst h1 h2
  rfl

theorem s31 (X : AX) (hX : XOK Try.prog X) (hw : X.W wT) (h29 : ∀ x y M n, sm x → sm y → X.call 29 [I x, I y] M n = some (I (keyN x y), [])) :
    PSound Try.prog 31 (specF (ι := {x : Int × Nat × List Zx // sm x.1 ∧ x.2.1 < x.2.2.length ∧ sm (zg (zos x.2.2) x.2.1).node}) (fun x => [I x.1.2.1, .rp [I x.1.1], .rp [.rd 10 (zrows x.1.2.2)]]) fun x => retOf [I (rankZ (zos x.1.2.2) x.1.1 x.1.2.1)]) := by
  refine psound_spec hX mixed Try.func31 rfl fun ⟨⟨f, i, xs⟩, hf, hi, hn⟩ w0 G => ⟨by show 3 ≤ 23; decide, rfl, ?_⟩
  show AW ⟨Try.prog, X, 23, w0, .pure G⟩ _ _ _
  have hc : Cx.OK ⟨Try.prog, X, 23, w0, .pure G⟩ := ⟨hX, mixed⟩
  simp only at hf hi hn ⊢
  have hg := zrows_get hi
  simp only [Zx.row] at hg
  have hz := zx_z hi
  rw [hz] at hg
  have e1 := fun M n => h29 f _ M n hf hn
  have hk1 : 0 ≤ keyN f (zg (zos xs) i).node ∧ keyN f (zg (zos xs) i).node ≤ 1000 := by unfold keyN sm at *; split <;> omega
  unfold rankZ
  rw [Int.toNat_natCast]
  rcases Decidable.em ((zg (zos xs) i).kind = 0) with hk | hk
  · repeat' (first | (apply aw_seq_k; intro K hK) | (refine aw_run hc (by first | exact aw_nod | (intro _; rw [ordB_w hw]; kernel_rfl) | (intro _; rw [ordB_w0 hw0]; kernel_rfl) | (intro _; kernel_rfl)) ?_; simp [e1, hg, hk, -getM, getM_hit, getM_miss, getM_none]; (repeat (simp (disch := first | omega | assumption | fail) only [if_pos, if_neg, wrap64]; try simp [e1, hg, hk, -getM, getM_hit, getM_miss, getM_none])); try (repeat' (refine guardQ_split (fun h => ?_) (fun h => ?_) <;> simp at h <;> (simp [e1, hg, hk, -getM, getM_hit, getM_miss, getM_none]; (repeat (simp (disch := first | omega | assumption | fail) only [if_pos, if_neg, wrap64]; try simp [e1, hg, hk, -getM, getM_hit, getM_miss, getM_none])))))) | (refine aw_cond (b := _) (by exact rfl) (fun h => ?_) (fun h => ?_) <;> (try simp at h)) | (refine aw_block ?_) | (refine aw_skip ?_; simp only [thenQ, blockQ, if_true]) | (refine aw_exit ?_; simp [thenQ, blockQ]) | (refine aw_ret ?_; simp only [thenQ, blockQ]) | (refine aw_round ?_) | (refine hK _ ?_; clear hK) | (clear hK; refine hK _ ?_; clear hK) | (clear hK; clear hK; refine hK _ ?_; clear hK) | (clear hK; clear hK; clear hK; refine hK _ ?_; clear hK))
    refine ⟨by simp, ?_⟩
    simp [leaves_iff, Try.f31]
    try (first | omega | (refine decide_eq_decide.2 ?_; omega) | (refine decide_eq_false ?_; omega) | (refine decide_eq_true ?_; omega))
  · repeat' (first | (apply aw_seq_k; intro K hK) | (refine aw_run hc (by first | exact aw_nod | (intro _; rw [ordB_w hw]; kernel_rfl) | (intro _; rw [ordB_w0 hw0]; kernel_rfl) | (intro _; kernel_rfl)) ?_; simp [e1, hg, hk, -getM, getM_hit, getM_miss, getM_none]; (repeat (simp (disch := first | omega | assumption | fail) only [if_pos, if_neg, wrap64]; try simp [e1, hg, hk, -getM, getM_hit, getM_miss, getM_none])); try (repeat' (refine guardQ_split (fun h => ?_) (fun h => ?_) <;> simp at h <;> (simp [e1, hg, hk, -getM, getM_hit, getM_miss, getM_none]; (repeat (simp (disch := first | omega | assumption | fail) only [if_pos, if_neg, wrap64]; try simp [e1, hg, hk, -getM, getM_hit, getM_miss, getM_none])))))) | (refine aw_cond (b := _) (by exact rfl) (fun h => ?_) (fun h => ?_) <;> (try simp at h)) | (refine aw_block ?_) | (refine aw_skip ?_; simp only [thenQ, blockQ, if_true]) | (refine aw_exit ?_; simp [thenQ, blockQ]) | (refine aw_ret ?_; simp only [thenQ, blockQ]) | (refine aw_round ?_) | (refine hK _ ?_; clear hK) | (clear hK; refine hK _ ?_; clear hK) | (clear hK; clear hK; refine hK _ ?_; clear hK) | (clear hK; clear hK; clear hK; refine hK _ ?_; clear hK))
    refine ⟨by simp, ?_⟩
    simp [leaves_iff, Try.f31]
    try (first | omega | (refine decide_eq_decide.2 ?_; omega) | (refine decide_eq_false ?_; omega) | (refine decide_eq_true ?_; omega))

theorem s33 (X : AX) (hX : XOK Try.prog X) (hw0 : X.W0) (h28 : ∀ x y M n, X.call 28 [I x, I y] M n = some (I (cmpI x y), []))
    (h31 : ∀ f i xs M n, sm f → i < xs.length → sm (zg (zos xs) i).node → X.call 31 [I (i : Nat), .rp [I f], .rp [.rd 10 (zrows xs)]] M n = some (I (rankZ (zos xs) f i), [])) :
    PSound Try.prog 33 (specF (ι := {x : Int × (Nat × Nat) × List Zx // sm x.1 ∧ (x.2.1.1 < x.2.2.length ∧ sm (zg (zos x.2.2) x.2.1.1).node) ∧ (x.2.1.2 < x.2.2.length ∧ sm (zg (zos x.2.2) x.2.1.2).node)}) (fun x => [I x.1.2.1.1, I x.1.2.1.2, .rp [.fn 31 [.rp [I x.1.1], .rp [.rd 10 (zrows x.1.2.2)]]]])
      fun x => retOf [I (cmpI (rankZ (zos x.1.2.2) x.1.1 x.1.2.1.1) (rankZ (zos x.1.2.2) x.1.1 x.1.2.1.2))]) := by
  refine psound_spec hX mixed Try.func33 rfl fun ⟨⟨f, ⟨i, j⟩, xs⟩, hf, hi, hj⟩ w0 G => ⟨by show 3 ≤ 13; decide, rfl, ?_⟩
  show AW ⟨Try.prog, X, 13, w0, .pure G⟩ _ _ _
  have hc : Cx.OK ⟨Try.prog, X, 13, w0, .pure G⟩ := ⟨hX, mixed⟩
  simp only at hf hi hj ⊢
  have e1 := fun M n => h31 f i xs M n hf hi.1 hi.2
  have e2 := fun M n => h31 f j xs M n hf hj.1 hj.2
  repeat' (first | (apply aw_seq_k; intro K hK) | (refine aw_run hc (by first | exact aw_nod | (intro _; rw [ordB_w hw]; kernel_rfl) | (intro _; rw [ordB_w0 hw0]; kernel_rfl) | (intro _; kernel_rfl)) ?_; simp [e1, e2, h28, -getM, getM_hit, getM_miss, getM_none]; (repeat (simp (disch := first | omega | assumption | fail) only [if_pos, if_neg, wrap64]; try simp [e1, e2, h28, -getM, getM_hit, getM_miss, getM_none])); try (repeat' (refine guardQ_split (fun h => ?_) (fun h => ?_) <;> simp at h <;> (simp [e1, e2, h28, -getM, getM_hit, getM_miss, getM_none]; (repeat (simp (disch := first | omega | assumption | fail) only [if_pos, if_neg, wrap64]; try simp [e1, e2, h28, -getM, getM_hit, getM_miss, getM_none])))))) | (refine aw_cond (b := _) (by exact rfl) (fun h => ?_) (fun h => ?_) <;> (try simp at h)) | (refine aw_block ?_) | (refine aw_skip ?_; simp only [thenQ, blockQ, if_true]) | (refine aw_exit ?_; simp [thenQ, blockQ]) | (refine aw_ret ?_; simp only [thenQ, blockQ]) | (refine aw_round ?_) | (refine hK _ ?_; clear hK) | (clear hK; refine hK _ ?_; clear hK) | (clear hK; clear hK; refine hK _ ?_; clear hK) | (clear hK; clear hK; clear hK; refine hK _ ?_; clear hK))
  refine ⟨by simp, ?_⟩
  simp [leaves_iff, Try.f33]
  try (first | omega | (refine decide_eq_decide.2 ?_; omega) | (refine decide_eq_false ?_; omega) | (refine decide_eq_true ?_; omega))

theorem e34 : (List.range 15).map (fun (n : Nat) => evE Try.f34 [I (n + 1 : Nat)]) = (List.range 15).map (fun (n : Nat) => some (.ow 1 (irows (maskL (n + 1 : Nat))))) := by kernel_rfl
theorem s34 : PSound Try.prog 34 (specF (ι := {n : Nat // n < 15}) (fun n => [I (n.1 + 1 : Nat)]) fun n => retOf [.ow 1 (irows (maskL (n.1 + 1 : Nat)))]) := by
  intro w G args avs r hF
  obtain ⟨⟨n, hn⟩, rfl, rfl⟩ := specF_some hF
  refine evE_sound Try.func34 rfl (by kernel_rfl) w G args _ _ ?_
  have h := congrArg (fun l : List (Option AV) => l[n]?) e34
  simp only [List.getElem?_map, List.getElem?_range hn, Option.map_some, Option.some.injEq] at h
  exact h

theorem e39 : (List.range 16).map (fun (m : Nat) => (List.range 4).map (fun (n : Nat) => evE Try.f39 [I m, I n])) = (List.range 16).map (fun (m : Nat) => (List.range 4).map (fun (n : Nat) => some (B (inM m n)))) := by kernel_rfl
theorem s39 : PSound Try.prog 39 (specF (ι := {x : Nat × Nat // x.1 < 16 ∧ x.2 < 4}) (fun x => [I x.1.1, I x.1.2]) fun x => retOf [B (inM x.1.1 x.1.2)]) := by
  intro w G args avs r hF
  obtain ⟨⟨⟨m, n⟩, hm, hn⟩, rfl, rfl⟩ := specF_some hF
  refine evE_sound Try.func39 rfl (by kernel_rfl) w G args _ _ ?_
  have h := congrArg (fun l : List (List (Option AV)) => (l[m]?).map fun k => k[n]?) e39
  simp only [List.getElem?_map, List.getElem?_range hm, List.getElem?_range hn, Option.map_some, Option.some.injEq] at h
  exact h

theorem and_shr : ∀ m < 16, ∀ n < 4, bitI .and .i64 ((m : Nat) / 2 ^ n) 1 = if inM (m : Nat) (n : Nat) then 1 else 0 := by decide
theorem s36 (X : AX) (hX : XOK Try.prog X) (hw : X.W wT) : PSound Try.prog 36 (specF (ι := {x : (Int × Nat × Int) × Nat × Nat × List Zx // x.1.2.1 < 16 ∧ x.2.2.1 < 4 ∧ x.2.1 < x.2.2.2.length ∧ (zg (zos x.2.2.2) x.2.1).node = (x.2.2.1 : Nat)}) (fun x => [I x.1.2.1, .rp [I x.1.1.1, I x.1.1.2.1, I x.1.1.2.2], .rp [.rd 10 (zrows x.1.2.2.2)]])
    fun x => retOf [B (!inM x.1.1.2.1 x.1.2.2.1)]) := by
  refine psound_spec hX mixed Try.func36 rfl fun ⟨⟨⟨k, m, t⟩, i, n, xs⟩, hm, hn, hi, he⟩ w0 G => ⟨by show 3 ≤ 15; decide, rfl, ?_⟩
  show AW ⟨Try.prog, X, 15, w0, .pure G⟩ _ _ _
  have hc : Cx.OK ⟨Try.prog, X, 15, w0, .pure G⟩ := ⟨hX, mixed⟩
  simp only at hm hn hi he ⊢
  have hg := zrows_get hi
  simp only [Zx.row] at hg
  have hz := zx_z hi
  rw [hz, he] at hg
  have hb := and_shr m hm n hn
  have hmin : min n IntKind.i64.bits = n := by show min n 64 = n; omega
  cases hin : inM (m : Nat) (n : Nat)
  · rw [hin] at hb
    repeat' (first | (apply aw_seq_k; intro K hK) | (refine aw_run hc (by first | exact aw_nod | (intro _; rw [ordB_w hw]; kernel_rfl) | (intro _; rw [ordB_w0 hw0]; kernel_rfl) | (intro _; kernel_rfl)) ?_; simp [hg, hb, hmin, -getM, getM_hit, getM_miss, getM_none]; (repeat (simp (disch := first | omega | assumption | fail) only [if_pos, if_neg, wrap64]; try simp [hg, hb, hmin, -getM, getM_hit, getM_miss, getM_none])); try (repeat' (refine guardQ_split (fun h => ?_) (fun h => ?_) <;> simp at h <;> (simp [hg, hb, hmin, -getM, getM_hit, getM_miss, getM_none]; (repeat (simp (disch := first | omega | assumption | fail) only [if_pos, if_neg, wrap64]; try simp [hg, hb, hmin, -getM, getM_hit, getM_miss, getM_none])))))) | (refine aw_cond (b := _) (by exact rfl) (fun h => ?_) (fun h => ?_) <;> (try simp at h)) | (refine aw_block ?_) | (refine aw_skip ?_; simp only [thenQ, blockQ, if_true]) | (refine aw_exit ?_; simp [thenQ, blockQ]) | (refine aw_ret ?_; simp only [thenQ, blockQ]) | (refine aw_round ?_) | (refine hK _ ?_; clear hK) | (clear hK; refine hK _ ?_; clear hK) | (clear hK; clear hK; refine hK _ ?_; clear hK) | (clear hK; clear hK; clear hK; refine hK _ ?_; clear hK))
    refine ⟨by simp, ?_⟩
    simp [leaves_iff, Try.f36]
    try (first | omega | (refine decide_eq_decide.2 ?_; omega) | (refine decide_eq_false ?_; omega) | (refine decide_eq_true ?_; omega))
  · rw [hin] at hb
    repeat' (first | (apply aw_seq_k; intro K hK) | (refine aw_run hc (by first | exact aw_nod | (intro _; rw [ordB_w hw]; kernel_rfl) | (intro _; rw [ordB_w0 hw0]; kernel_rfl) | (intro _; kernel_rfl)) ?_; simp [hg, hb, hmin, -getM, getM_hit, getM_miss, getM_none]; (repeat (simp (disch := first | omega | assumption | fail) only [if_pos, if_neg, wrap64]; try simp [hg, hb, hmin, -getM, getM_hit, getM_miss, getM_none])); try (repeat' (refine guardQ_split (fun h => ?_) (fun h => ?_) <;> simp at h <;> (simp [hg, hb, hmin, -getM, getM_hit, getM_miss, getM_none]; (repeat (simp (disch := first | omega | assumption | fail) only [if_pos, if_neg, wrap64]; try simp [hg, hb, hmin, -getM, getM_hit, getM_miss, getM_none])))))) | (refine aw_cond (b := _) (by exact rfl) (fun h => ?_) (fun h => ?_) <;> (try simp at h)) | (refine aw_block ?_) | (refine aw_skip ?_; simp only [thenQ, blockQ, if_true]) | (refine aw_exit ?_; simp [thenQ, blockQ]) | (refine aw_ret ?_; simp only [thenQ, blockQ]) | (refine aw_round ?_) | (refine hK _ ?_; clear hK) | (clear hK; refine hK _ ?_; clear hK) | (clear hK; clear hK; refine hK _ ?_; clear hK) | (clear hK; clear hK; clear hK; refine hK _ ?_; clear hK))
    refine ⟨by simp, ?_⟩
    simp [leaves_iff, Try.f36]
    try (first | omega | (refine decide_eq_decide.2 ?_; omega) | (refine decide_eq_false ?_; omega) | (refine decide_eq_true ?_; omega))
end Go.AM
