/- TopShared: for every argument the law answers true and leaves its arguments as they were. No condition. -/
import Derived.Test.YtcfhmdljeeppfaaGreatRows
import Derived.Test.YtcfhmdljeeppfaaGreatGTc11
set_option linter.all false
namespace Go.Proofs.YtcfhmdljeeppfaaGreat
open Go.ChangeShapes Go.WideShapes Go.ChangeAt Go.RowKit Go.AM
set_option maxRecDepth 100000 in
theorem topShared_lifted (os:Os) (started:os.Started) (H:Type) (enc:TypeId×Value→H) :
  ReturnsInHanded {} Tryz.checked os 4 .any (Rows.topSharedSpec.pre6 enc Tryz.prog Tryz.f4 Rows.topSharedRow.domain false) (Rows.topSharedSpec.post enc Tryz.prog Tryz.f4 false true false false):=by
 refine returnsInHanded_of_change (C:=Tryz.checked) owns started (by kernel_rfl) Tryz.func4
  (ChangeSpec.witness6 (enc:=enc) (C:=Tryz.checked) false ⟨#[],#[.slice none 0 0],[]⟩ 8 (by kernel_rfl) (by kernel_rfl) (by kernel_rfl) (by kernel_rfl)) ?_
 intro W base args ds gs before hval hW _ _
 exact law_contract (tb:=4) shared' laid rfl (fun H ds hd=>by
  match ds,hd with
  | [d0],_=>exact ⟨rfl,rfl,rfl⟩) rfl Tryz.underlying4 (by kernel_rfl) mops_F hval hW
set_option maxHeartbeats 40000000 in
theorem topShared_closed:joinedFacts Tryz.pinned.checked.prog 4 Tryz.f4 Rows.topSharedSpec Rows.topSharedRow=true:=by
 unfold joinedFacts
 simp only [Bool.and_eq_true]
 repeat' apply And.intro
 all_goals as_aux_lemma=>kernel_rfl
theorem topShared_holds:Rows.TopSharedSaid :=
 OpenClaim.holds_of_wide 4 Tryz.f4 rfl rfl rfl rfl rfl rfl rfl ⟨rfl,rfl,rfl,rfl,rfl⟩ rfl rfl rfl rfl rfl (by kernel_rfl) Tryz.func4 topShared_closed
  (of_decide_eq_true (by kernel_rfl)) (by unfold Func.isWrapper;first|(rw [if_pos (by decide +kernel)];kernel_rfl)|(rw [if_neg (by decide +kernel)];exact ⟨rfl,rfl⟩))
  (fun os started H enc _=>topShared_lifted os started H enc)
end Go.Proofs.YtcfhmdljeeppfaaGreat
