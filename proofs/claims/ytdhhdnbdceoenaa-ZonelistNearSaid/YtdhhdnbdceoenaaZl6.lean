/- math/bits.Len for small numbers. -/
import Derived.Test.YtdhhdnbdceoenaaZl1
import Derived.Test.YtdhhdnbdceoenaaAmW
set_option linter.all false

namespace Go.AM
open Go Go.Proofs

def lenT (n : Nat) : Int := [0, 1, 2, 2, 3, 3, 3, 3, 4, 4, 4, 4, 4].getD n 0
noncomputable def evE (fn : Func) (avs : List AV) : Option AV := match fn.body with
  | some c => evalP (Types Try.prog) (AX.start wT) fn c 400 avs
  | none => none
theorem evE_sound {f : FuncId} {fn : Func} {c : Code} (hf : Try.prog.funcs[f]? = some fn) (hb : fn.body = some c) (ho : codeOrd (AX.start wT) c = true) : PSound Try.prog f (evE fn) := by
  have h := psound_eval (X := AX.start wT) (fn := fn) 400 (xok_start _ _) mixed hf hb ho
  have e : evE fn = evalP (Types Try.prog) (AX.start wT) fn c 400 := by
    funext avs
    simp only [evE, hb]
  rw [e]; exact h
theorem e55 : (List.range 13).map (fun (n : Nat) => evE Try.f55 [.v (.int .u64 n)]) = (List.range 13).map (fun (n : Nat) => some (I (lenT n))) := by kernel_rfl
theorem s55 : PSound Try.prog 55 (specF (ι := {n : Nat // n ≤ 12}) (fun n => [.v (.int .u64 n.1)]) fun n => retOf [I (lenT n.1)]) := by
  intro w G args avs r hF
  obtain ⟨⟨n, hn⟩, rfl, rfl⟩ := specF_some hF
  refine evE_sound Try.func55 rfl (by kernel_rfl) w G args _ _ ?_
  have h := congrArg (fun l : List (Option AV) => l[n]?) e55
  simp only [List.getElem?_map, List.getElem?_range (show n < 13 by omega), Option.map_some, Option.some.injEq] at h
  exact h
theorem s42 (X : AX) (hX : XOK Try.prog X) (hw : X.W wT) (h55 : ∀ n : Nat, n ≤ 12 → ∀ M k, X.call 55 [.v (.int .u64 n)] M k = some (I (lenT n), [])) : PSound Try.prog 42 (specF (ι := {n : Nat // n ≤ 12}) (fun n => [.v (.int .u64 n.1)]) fun _ => retOf [.any]) := by
  refine psound_spec hX mixed Try.func42 rfl fun ⟨n, hn⟩ w0 G => ⟨by show 1 ≤ 8; decide, rfl, ?_⟩
  show AW ⟨Try.prog, X, 8, w0, .pure G⟩ _ _ _
  have hc : Cx.OK ⟨Try.prog, X, 8, w0, .pure G⟩ := ⟨hX, mixed⟩
  have hlen := h55 n hn
  repeat' (first | (apply aw_seq_k; intro K hK) | (refine aw_run hc (by first | exact aw_nod | (intro _; rw [ordB_w hw]; kernel_rfl) | (intro _; kernel_rfl)) ?_; simp [hlen, -getM, getM_hit, getM_miss, getM_none]; (repeat (simp (disch := first | omega | assumption | fail) only [if_pos, if_neg, wrap64]; try simp [hlen, -getM, getM_hit, getM_miss, getM_none])); try (repeat' (refine guardQ_split (fun h => ?_) (fun h => ?_) <;> simp at h <;> (simp [hlen, -getM, getM_hit, getM_miss, getM_none]; (repeat (simp (disch := first | omega | assumption | fail) only [if_pos, if_neg, wrap64]; try simp [hlen, -getM, getM_hit, getM_miss, getM_none])))))) | (refine aw_cond (b := _) (by exact rfl) (fun h => ?_) (fun h => ?_) <;> (try simp at h)) | (refine aw_block ?_) | (refine aw_skip ?_; simp only [thenQ, blockQ, if_true]) | (refine aw_exit ?_; simp [thenQ, blockQ]) | (refine aw_ret ?_; simp only [thenQ, blockQ]) | (refine aw_round ?_) | (refine hK _ ?_; clear hK) | (clear hK; refine hK _ ?_; clear hK) | (clear hK; clear hK; refine hK _ ?_; clear hK) | (clear hK; clear hK; clear hK; refine hK _ ?_; clear hK))
  refine ⟨by simp, ?_⟩
  simp [leaves_iff, Try.f42]
  try (first | omega | (refine decide_eq_decide.2 ?_; omega) | (refine decide_eq_false ?_; omega) | (refine decide_eq_true ?_; omega))
end Go.AM
