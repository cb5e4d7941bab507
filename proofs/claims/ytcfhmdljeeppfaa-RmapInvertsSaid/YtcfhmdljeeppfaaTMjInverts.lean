/- RmapInverts: for every argument the law answers true and leaves its arguments as they were. No condition. -/
import Derived.Test.YtcfhmdljeeppfaaRows
import Derived.Test.YtcfhmdljeeppfaaTMj9
set_option linter.all false
namespace Go.Proofs.Ytcfhmdljeeppfaa
open Go.ChangeShapes Go.WideShapes Go.ChangeAt Go.RowKit Go.AM
set_option maxRecDepth 100000 in
theorem rmapInverts_lifted (os:Os) (started:os.Started) (H:Type) (enc:TypeId×Value→H) :
  ReturnsInHanded {} Try.checked os 8 .any (Rows.rmapInvertsSpec.pre6 enc Try.prog Try.f8 Rows.rmapInvertsRow.domain false) (Rows.rmapInvertsSpec.post enc Try.prog Try.f8 false true false false):=by
 refine returnsInHanded_of_change (C:=Try.checked) owns started (by kernel_rfl) Try.func8
  (ChangeSpec.witness6 (enc:=enc) (C:=Try.checked) false ⟨#[],#[.slice none 0 0,.int .u8 0],[]⟩ 8 (by kernel_rfl) (by kernel_rfl) (by kernel_rfl) (by kernel_rfl)) ?_
 intro W base args ds gs before hval hW _ _
 exact law_contract (tb:=4) inverts' laid rfl (fun H ds hd=>by
  match ds,hd with
  | [d0,d1],_=>exact ⟨rfl,rfl,rfl⟩) rfl Try.underlying4 (by kernel_rfl) tabs_u8_F hval hW
set_option maxHeartbeats 40000000 in
theorem rmapInverts_closed:joinedFacts Try.pinned.checked.prog 8 Try.f8 Rows.rmapInvertsSpec Rows.rmapInvertsRow=true:=by
 unfold joinedFacts
 simp only [Bool.and_eq_true]
 repeat' apply And.intro
 all_goals as_aux_lemma=>kernel_rfl
theorem rmapInverts_holds:Rows.RmapInvertsSaid :=
 OpenClaim.holds_of_wide 8 Try.f8 rfl rfl rfl rfl rfl rfl rfl ⟨rfl,rfl,rfl,rfl,rfl⟩ rfl rfl rfl rfl rfl (by kernel_rfl) Try.func8 rmapInverts_closed
  (of_decide_eq_true (by kernel_rfl)) (by unfold Func.isWrapper;first|(rw [if_pos (by decide +kernel)];kernel_rfl)|(rw [if_neg (by decide +kernel)];exact ⟨rfl,rfl⟩))
  (fun os started H enc _=>rmapInverts_lifted os started H enc)
end Go.Proofs.Ytcfhmdljeeppfaa
