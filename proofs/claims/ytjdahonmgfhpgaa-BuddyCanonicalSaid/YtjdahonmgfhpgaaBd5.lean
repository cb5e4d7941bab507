/- A part of the proof: what functions of the program compute, by abstract execution of their code. Its theorems hold without further condition. -/
import Derived.Test.YtjdahonmgfhpgaaBd3
import Derived.Test.YtjdahonmgfhpgaaBd4
set_option linter.all false
namespace Go.AM
open Go Go.Proofs

theorem s59 (X : AX) (hX : XOK Try.prog X) : PSound Try.prog 59 (specF (ι := {x : List Int // x.length ≤ 1000000}) (fun x => [.rd 1 (irows x.1)]) fun x => retOf [.ow 1 (irows x.1)]) := by
  refine psound_spec hX mixed Try.func59 rfl fun ⟨l, hl⟩ w0 G => ⟨by show 1 ≤ 8; decide, rfl, ?_⟩
  show AW ⟨Try.prog, X, 8, w0, .pure G⟩ _ _ _
  have hc : Cx.OK ⟨Try.prog, X, 8, w0, .pure G⟩ := ⟨hX, mixed⟩
  cases l with
  | nil =>
    refine aw_cases_nil 0 1 rfl ?_ fun p n => ?_
    · repeat' (first | (apply aw_seq_k; intro K hK) | (refine aw_run hc (by first | exact aw_nod | (intro _; rw [ordB_w hw]; kernel_rfl) | (intro _; kernel_rfl)) ?_; simp (disch := first | omega | assumption | (simp; done) | fail) [if_pos, if_neg, List.zipIdx]; try (repeat' (refine guardQ_split (fun h => ?_) (fun h => ?_) <;> simp at h <;> simp (disch := first | omega | assumption | (simp; done) | fail) [if_pos, if_neg, List.zipIdx]))) | (refine aw_cond (b := _) (by exact rfl) (fun h => ?_) (fun h => ?_) <;> (try simp at h)) | (refine aw_block ?_) | (refine aw_skip ?_; simp only [thenQ, blockQ, if_true]) | (refine aw_exit ?_; simp [thenQ, blockQ]) | (refine aw_ret ?_; simp only [thenQ, blockQ]) | (refine hK _ ?_; clear hK) | (clear hK; refine hK _ ?_; clear hK) | (clear hK; clear hK; refine hK _ ?_; clear hK) | (clear hK; clear hK; clear hK; refine hK _ ?_; clear hK))
      refine ⟨by simp, ?_⟩
      simp [leaves_iff, Try.f59, irows]
      try (first | omega | (refine decide_eq_decide.2 ?_; omega) | (refine decide_eq_false ?_; omega) | (refine decide_eq_true ?_; omega))
    · repeat' (first | (apply aw_seq_k; intro K hK) | (refine aw_run hc (by first | exact aw_nod | (intro _; rw [ordB_w hw]; kernel_rfl) | (intro _; kernel_rfl)) ?_; simp (disch := first | omega | assumption | (simp; done) | fail) [if_pos, if_neg, List.zipIdx]; try (repeat' (refine guardQ_split (fun h => ?_) (fun h => ?_) <;> simp at h <;> simp (disch := first | omega | assumption | (simp; done) | fail) [if_pos, if_neg, List.zipIdx]))) | (refine aw_cond (b := _) (by exact rfl) (fun h => ?_) (fun h => ?_) <;> (try simp at h)) | (refine aw_block ?_) | (refine aw_skip ?_; simp only [thenQ, blockQ, if_true]) | (refine aw_exit ?_; simp [thenQ, blockQ]) | (refine aw_ret ?_; simp only [thenQ, blockQ]) | (refine hK _ ?_; clear hK) | (clear hK; refine hK _ ?_; clear hK) | (clear hK; clear hK; refine hK _ ?_; clear hK) | (clear hK; clear hK; clear hK; refine hK _ ?_; clear hK))
      refine ⟨by simp, ?_⟩
      simp [leaves_iff, Try.f59, irows]
      try (first | omega | (refine decide_eq_decide.2 ?_; omega) | (refine decide_eq_false ?_; omega) | (refine decide_eq_true ?_; omega))
  | cons x r =>
    simp at hl
    repeat' (first | (apply aw_seq_k; intro K hK) | (refine aw_run hc (by first | exact aw_nod | (intro _; rw [ordB_w hw]; kernel_rfl) | (intro _; kernel_rfl)) ?_; simp (disch := first | omega | assumption | (simp; done) | fail) [if_pos, if_neg, List.zipIdx, irows]; try (repeat' (refine guardQ_split (fun h => ?_) (fun h => ?_) <;> simp at h <;> simp (disch := first | omega | assumption | (simp; done) | fail) [if_pos, if_neg, List.zipIdx, irows]))) | (refine aw_cond (b := _) (by exact rfl) (fun h => ?_) (fun h => ?_) <;> (try simp at h)) | (refine aw_block ?_) | (refine aw_skip ?_; simp only [thenQ, blockQ, if_true]) | (refine aw_exit ?_; simp [thenQ, blockQ]) | (refine aw_ret ?_; simp only [thenQ, blockQ]) | (refine hK _ ?_; clear hK) | (clear hK; refine hK _ ?_; clear hK) | (clear hK; clear hK; refine hK _ ?_; clear hK) | (clear hK; clear hK; clear hK; refine hK _ ?_; clear hK))
    refine ⟨by simp, ?_⟩
    simp [leaves_iff, Try.f59, irows]
    try (first | omega | (refine decide_eq_decide.2 ?_; omega) | (refine decide_eq_false ?_; omega) | (refine decide_eq_true ?_; omega))
    rw [List.take_of_length_le (by simp)]

/-! The functions of the library, as functions on rows -/
def lessF (avs : List AV) (_M : Nat → AO) (_n : Nat) : Option (AV × List (Nat × AO)) := match avs with
  | [.v (.int .i64 a), .v (.int .i64 b)] => some (B (decide (a < b)), [])
  | _ => none

def insF (a0 : AV) (avs : List AV) : Option (AV × AV) := match a0, avs with
  | .ow 1 xs, [.v (.int .i64 i), .rd 1 ys] => match unI xs, unI ys with
    | some l, some [x] => if 0 ≤ i ∧ i.toNat ≤ l.length ∧ l.length ≤ 1000000 then some (.ow 1 (irows (l.take i.toNat ++ x :: l.drop i.toNat)), .any) else none
    | _, _ => none
  | _, _ => none

theorem s51' (X : AX) (hX : XOK Try.prog X) (h60 : X.call 60 = ovlF) : MSound Try.prog 51 insF := by
  refine (s51 X hX h60).weaken fun a0 avs r o h => ?_
  unfold insF at h
  split at h
  case h_2 => simp at h
  rename_i xs i ys
  split at h
  case h_2 => simp at h
  rename_i l x h1 h2
  split at h
  case isFalse => simp at h
  rename_i hc
  simp only [Option.some.injEq, Prod.mk.injEq] at h
  obtain ⟨rfl, rfl⟩ := h
  rw [unI_eq h1, unI_eq h2]
  have := specM_eq (A0 := fun x : {x : List Int × Nat × Int // x.2.1 ≤ x.1.length ∧ x.1.length ≤ 1000000} => AV.ow 1 (irows x.1.1)) (A := fun x => [I x.1.2.1, .rd 1 (irows [x.1.2.2])]) (R := fun x => retOf [.ow 1 (irows (x.1.1.take x.1.2.1 ++ x.1.2.2 :: x.1.1.drop x.1.2.1))]) (O := fun _ => .any) ⟨(l, i.toNat, x), hc.2.1, hc.2.2⟩ (by
    rintro ⟨⟨l', i', x'⟩, h1, h2⟩ e1 e2
    simp only [AV.ow.injEq, irows_inj, true_and] at e1
    simp only [List.cons.injEq, AV.v.injEq, Value.int.injEq, true_and, AV.rd.injEq, irows_inj, and_true, Int.ofNat_inj] at e2
    obtain ⟨rfl, rfl⟩ := e2
    subst e1
    exact ⟨rfl, rfl⟩)
  simp only [Int.toNat_of_nonneg hc.1, retOf] at this
  exact this

def delF (a0 : AV) (avs : List AV) : Option (AV × AV) := match a0, avs with
  | .ow 1 xs, [.v (.int .i64 i), .v (.int .i64 j)] => match unI xs with
    | some l => if 0 ≤ i ∧ i ≤ j ∧ j.toNat ≤ l.length ∧ l.length ≤ 1000000 then some (.ow 1 (irows (l.take i.toNat ++ l.drop j.toNat)), .any) else none
    | _ => none
  | _, _ => none

theorem s53' (X : AX) (hX : XOK Try.prog X) : MSound Try.prog 53 delF := by
  refine (s53 X hX).weaken fun a0 avs r o h => ?_
  unfold delF at h
  split at h
  case h_2 => simp at h
  rename_i xs i j
  split at h
  case h_2 => simp at h
  rename_i l h1
  split at h
  case isFalse => simp at h
  rename_i hc
  simp only [Option.some.injEq, Prod.mk.injEq] at h
  obtain ⟨rfl, rfl⟩ := h
  rw [unI_eq h1]
  have := specM_eq (A0 := fun x : {x : List Int × Nat × Nat // x.2.1 ≤ x.2.2 ∧ x.2.2 ≤ x.1.length ∧ x.1.length ≤ 1000000} => AV.ow 1 (irows x.1.1)) (A := fun x => [I x.1.2.1, I x.1.2.2]) (R := fun x => retOf [.ow 1 (irows (x.1.1.take x.1.2.1 ++ x.1.1.drop x.1.2.2))]) (O := fun _ => .any) ⟨(l, i.toNat, j.toNat), by simp; omega, hc.2.2.1, hc.2.2.2⟩ (by
    rintro ⟨⟨l', i', x'⟩, h1, h2⟩ e1 e2
    simp only [AV.ow.injEq, irows_inj, true_and] at e1
    simp only [List.cons.injEq, AV.v.injEq, Value.int.injEq, true_and, and_true, Int.ofNat_inj] at e2
    obtain ⟨rfl, rfl⟩ := e2
    subst e1
    exact ⟨rfl, rfl⟩)
  simp only [Int.toNat_of_nonneg hc.1, Int.toNat_of_nonneg (show 0 ≤ j by omega), retOf] at this
  exact this

def cloF (avs : List AV) : Option AV := match avs with
  | [.rd 1 xs] => match unI xs with
    | some l => if l.length ≤ 1000000 then some (.ow 1 (irows l)) else none
    | none => none
  | _ => none

theorem s59' (X : AX) (hX : XOK Try.prog X) : PSound Try.prog 59 cloF := by
  refine (s59 X hX).weaken fun avs r h => ?_
  unfold cloF at h
  split at h
  case h_2 => simp at h
  rename_i xs
  split at h
  case h_2 => simp at h
  rename_i l h1
  split at h
  case isFalse => simp at h
  rename_i hc
  simp only [Option.some.injEq] at h
  subst h
  rw [unI_eq h1]
  exact specF_eq (A := fun x : {x : List Int // x.length ≤ 1000000} => [AV.rd 1 (irows x.1)]) (R := fun x => retOf [.ow 1 (irows x.1)]) ⟨l, hc⟩ (by
    rintro ⟨l', h'⟩ e
    simp only [List.cons.injEq, AV.rd.injEq, irows_inj, true_and, and_true] at e
    subst e; rfl)

theorem flat_irows {l : List Int} : (AV.ow 1 (irows l)).flat := by
  simp only [AV.flat, AV.flatV, AV.flat1]
  intro e he a ha
  obtain ⟨x, _, rfl⟩ := List.mem_map.1 he
  simp at ha; subst ha; trivial

theorem insF_flat {a0 : AV} {avs : List AV} {r o : AV} (h : insF a0 avs = some (r, o)) : r.flat ∧ o.flatO := by
  unfold insF at h
  split at h
  case h_2 => simp at h
  split at h
  case h_2 => simp at h
  split at h
  case isFalse => simp at h
  simp only [Option.some.injEq, Prod.mk.injEq] at h
  obtain ⟨rfl, rfl⟩ := h
  exact ⟨flat_irows, trivial⟩

theorem delF_flat {a0 : AV} {avs : List AV} {r o : AV} (h : delF a0 avs = some (r, o)) : r.flat ∧ o.flatO := by
  unfold delF at h
  split at h
  case h_2 => simp at h
  split at h
  case h_2 => simp at h
  split at h
  case isFalse => simp at h
  simp only [Option.some.injEq, Prod.mk.injEq] at h
  obtain ⟨rfl, rfl⟩ := h
  exact ⟨flat_irows, trivial⟩

theorem cloF_flat {avs : List AV} {r : AV} (h : cloF avs = some r) : r.flat := by
  unfold cloF at h
  split at h
  case h_2 => simp at h
  split at h
  case h_2 => simp at h
  split at h
  case isFalse => simp at h
  simp only [Option.some.injEq] at h
  subst h
  exact flat_irows

/-- The table of the library. -/
def X0 : AX := AX.none.add 60 ovlF
theorem x0 : XOK Try.prog X0 := xok_add (xok_none _) (.inr x60) (fun avs M nid r h => by
  unfold ovlF at h
  split at h <;> (try split at h) <;> (try split at h) <;> simp at h
  rw [← h]; simp)
def one1 (_ : Nat) : Nat := 1
def X1 : AX := ((X0.addM 51 (callM false one1 insF)).addM 53 (callM false one1 delF)).add 59 (callP cloF)
theorem x1 : XOK Try.prog X1 :=
  xok_add (xok_addM (xok_addM x0 (.inl ⟨(s51' X0 x0 rfl).callM fun _ _ _ _ h => insF_flat h, body_ok _ Try.func51 (by kernel_rfl)⟩) fun _ _ _ _ h => callM_keys h)
    (.inl ⟨(s53' X0 x0).callM fun _ _ _ _ h => delF_flat h, body_ok _ Try.func53 (by kernel_rfl)⟩) fun _ _ _ _ h => callM_keys h)
    (.inl ⟨(s59' X0 x0).callP fun _ _ h => cloF_flat h, body_ok _ Try.func59 (by kernel_rfl)⟩) fun _ _ _ _ h => callP_keys h
end Go.AM
