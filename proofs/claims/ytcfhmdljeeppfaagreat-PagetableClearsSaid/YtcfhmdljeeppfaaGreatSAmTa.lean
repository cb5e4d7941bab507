/- A part of the proof: what functions of the program compute, by abstract execution of their code. Its theorems hold without further condition. -/
import Derived.Test.YtcfhmdljeeppfaaGreatSAmDr
import Derived.Test.YtcfhmdljeeppfaaGreatSAmG2
import Derived.Test.YtcfhmdljeeppfaaGreatSAmZa
import Derived.Test.YtcfhmdljeeppfaaGreatProg
import Derived.ProofKit
import Derived.Laws.StructEq
import Derived.ChangeKeysEq
import Derived.Test.YtcfhmdljeeppfaaGreatSAmH
set_option linter.all false
namespace Go.AM
open Go
structure Hold (p:Prop):Prop where
 out:p
theorem jj {A B:Prop} (a:A) (b:B):A∧B:=⟨a,b⟩
theorem dM64 {G G':Prop} (h:G') (k:Hold G'→G:=by
 intro hEnd
 repeat' (first|(apply aw_seq_k;intro K hK)|(refine aw_run hc (by first|exact aw_nod|(intro _;rw [ordB_w hw];kernel_rfl)|(intro _;rw [ordB_w0 hw0];kernel_rfl)|(intro _;kernel_rfl)) ?_;simp [List.zipIdx,enterS,idx,zS,-getM,getM_hit,getM_miss,getM_none];(repeat (simp (disch:=first|omega|assumption|fail) only [if_pos,if_neg,wrap64];try simp [List.zipIdx,enterS,idx,zS,-getM,getM_hit,getM_miss,getM_none]));try (repeat' (refine guardQ_split (fun h=>?_) (fun h=>?_)<;>simp at h<;>(simp [List.zipIdx,enterS,idx,zS,-getM,getM_hit,getM_miss,getM_none];(repeat (simp (disch:=first|omega|assumption|fail) only [if_pos,if_neg,wrap64];try simp [List.zipIdx,enterS,idx,zS,-getM,getM_hit,getM_miss,getM_none]))))))|(refine aw_cond (b:=_) (by exact rfl) (fun h=>?_) (fun h=>?_)<;>(try simp at h))|(refine aw_block ?_)|(refine aw_skip ?_;simp only [thenQ,blockQ,if_true])|(refine aw_exit ?_;simp [thenQ,blockQ])|(refine aw_ret ?_;simp only [thenQ,blockQ])|(refine aw_round ?_)|(refine hK _ ?_;clear hK)|(clear hK;refine hK _ ?_;clear hK)|(clear hK;clear hK;refine hK _ ?_;clear hK)|(clear hK;clear hK;clear hK;refine hK _ ?_;clear hK))
 repeat (first|(rename St→Prop=>K;clear K)|(rename St→Prop=>K;revert K))
 exact hEnd.out):G:=k ⟨h⟩
theorem dM64o {G G':Prop} (h:G') (k:Hold G'→G:=by
 intro hEnd
 repeat' (first|(apply aw_seq_k;intro K hK)|(refine aw_run hc (by first|exact aw_nod|(intro _;rw [ordB_w hw];kernel_rfl)|(intro _;rw [ordB_w0 hw0];kernel_rfl)|(intro _;kernel_rfl)) ?_;simp [List.zipIdx,enterS,idx,-getM,getM_hit,getM_miss,getM_none];(repeat (simp (disch:=first|omega|assumption|fail) only [if_pos,if_neg,wrap64];try simp [List.zipIdx,enterS,idx,-getM,getM_hit,getM_miss,getM_none]));try (repeat' (refine guardQ_split (fun h=>?_) (fun h=>?_)<;>simp at h<;>(simp [List.zipIdx,enterS,idx,-getM,getM_hit,getM_miss,getM_none];(repeat (simp (disch:=first|omega|assumption|fail) only [if_pos,if_neg,wrap64];try simp [List.zipIdx,enterS,idx,-getM,getM_hit,getM_miss,getM_none]))))))|(refine aw_cond (b:=_) (by exact rfl) (fun h=>?_) (fun h=>?_)<;>(try simp at h))|(refine aw_block ?_)|(refine aw_skip ?_;simp only [thenQ,blockQ,if_true])|(refine aw_exit ?_;simp [thenQ,blockQ])|(refine aw_ret ?_;simp only [thenQ,blockQ])|(refine aw_round ?_)|(refine hK _ ?_;clear hK)|(clear hK;refine hK _ ?_;clear hK)|(clear hK;clear hK;refine hK _ ?_;clear hK)|(clear hK;clear hK;clear hK;refine hK _ ?_;clear hK))
 repeat (first|(rename St→Prop=>K;clear K)|(rename St→Prop=>K;revert K))
 exact hEnd.out):G:=k ⟨h⟩
theorem dM8 {G G':Prop} (h:G') (k:Hold G'→G:=by
 intro hEnd
 repeat' (first|(apply aw_seq_k;intro K hK)|(refine aw_run hc (by first|exact aw_nod|(intro _;rw [ordB_w hw];kernel_rfl)|(intro _;rw [ordB_w0 hw0];kernel_rfl)|(intro _;kernel_rfl)) ?_;simp [List.zipIdx,enterS,idx,zS,-getM,getM_hit,getM_miss,getM_none];(repeat (simp (disch:=first|omega|assumption|fail) only [if_pos,if_neg,wrap8];try simp [List.zipIdx,enterS,idx,zS,-getM,getM_hit,getM_miss,getM_none]));try (repeat' (refine guardQ_split (fun h=>?_) (fun h=>?_)<;>simp at h<;>(simp [List.zipIdx,enterS,idx,zS,-getM,getM_hit,getM_miss,getM_none];(repeat (simp (disch:=first|omega|assumption|fail) only [if_pos,if_neg,wrap8];try simp [List.zipIdx,enterS,idx,zS,-getM,getM_hit,getM_miss,getM_none]))))))|(refine aw_cond (b:=_) (by exact rfl) (fun h=>?_) (fun h=>?_)<;>(try simp at h))|(refine aw_block ?_)|(refine aw_skip ?_;simp only [thenQ,blockQ,if_true])|(refine aw_exit ?_;simp [thenQ,blockQ])|(refine aw_ret ?_;simp only [thenQ,blockQ])|(refine aw_round ?_)|(refine hK _ ?_;clear hK)|(clear hK;refine hK _ ?_;clear hK)|(clear hK;clear hK;refine hK _ ?_;clear hK)|(clear hK;clear hK;clear hK;refine hK _ ?_;clear hK))
 repeat (first|(rename St→Prop=>K;clear K)|(rename St→Prop=>K;revert K))
 exact hEnd.out):G:=k ⟨h⟩
theorem dM8o {G G':Prop} (h:G') (k:Hold G'→G:=by
 intro hEnd
 repeat' (first|(apply aw_seq_k;intro K hK)|(refine aw_run hc (by first|exact aw_nod|(intro _;rw [ordB_w hw];kernel_rfl)|(intro _;rw [ordB_w0 hw0];kernel_rfl)|(intro _;kernel_rfl)) ?_;simp [List.zipIdx,enterS,idx,-getM,getM_hit,getM_miss,getM_none];(repeat (simp (disch:=first|omega|assumption|fail) only [if_pos,if_neg,wrap8];try simp [List.zipIdx,enterS,idx,-getM,getM_hit,getM_miss,getM_none]));try (repeat' (refine guardQ_split (fun h=>?_) (fun h=>?_)<;>simp at h<;>(simp [List.zipIdx,enterS,idx,-getM,getM_hit,getM_miss,getM_none];(repeat (simp (disch:=first|omega|assumption|fail) only [if_pos,if_neg,wrap8];try simp [List.zipIdx,enterS,idx,-getM,getM_hit,getM_miss,getM_none]))))))|(refine aw_cond (b:=_) (by exact rfl) (fun h=>?_) (fun h=>?_)<;>(try simp at h))|(refine aw_block ?_)|(refine aw_skip ?_;simp only [thenQ,blockQ,if_true])|(refine aw_exit ?_;simp [thenQ,blockQ])|(refine aw_ret ?_;simp only [thenQ,blockQ])|(refine aw_round ?_)|(refine hK _ ?_;clear hK)|(clear hK;refine hK _ ?_;clear hK)|(clear hK;clear hK;refine hK _ ?_;clear hK)|(clear hK;clear hK;clear hK;refine hK _ ?_;clear hK))
 repeat (first|(rename St→Prop=>K;clear K)|(rename St→Prop=>K;revert K))
 exact hEnd.out):G:=k ⟨h⟩
theorem dF64 {G G':Prop} (h:G') (k:Hold G'→G:=by
 intro hEnd
 repeat' (first|(apply aw_seq_k;intro K hK)|(refine aw_run hc (by exact aw_nod) ?_;simp [List.zipIdx,enterS,idx,zS,-getM,getM_hit,getM_miss,getM_none];(repeat (simp (disch:=first|omega|assumption|fail) only [if_pos,if_neg,wrap64];try simp [List.zipIdx,enterS,idx,zS,-getM,getM_hit,getM_miss,getM_none]));try (repeat' (refine guardQ_split (fun h=>?_) (fun h=>?_)<;>simp at h<;>(simp [List.zipIdx,enterS,idx,zS,-getM,getM_hit,getM_miss,getM_none];(repeat (simp (disch:=first|omega|assumption|fail) only [if_pos,if_neg,wrap64];try simp [List.zipIdx,enterS,idx,zS,-getM,getM_hit,getM_miss,getM_none]))))))|(refine aw_runFt hc ?_;simp [List.zipIdx,enterS,idx,zS,-getM,getM_hit,getM_miss,getM_none];(repeat (simp (disch:=first|omega|assumption|fail) only [if_pos,if_neg,wrap64];try simp [List.zipIdx,enterS,idx,zS,-getM,getM_hit,getM_miss,getM_none]));refine ⟨by kernel_rfl,?_⟩)|(refine aw_run hc (by first|(intro _;rw [ordB_w hw];kernel_rfl)|(intro _;rw [ordB_w0 hw0];kernel_rfl)|(intro _;kernel_rfl)) ?_;simp [List.zipIdx,enterS,idx,zS,-getM,getM_hit,getM_miss,getM_none];(repeat (simp (disch:=first|omega|assumption|fail) only [if_pos,if_neg,wrap64];try simp [List.zipIdx,enterS,idx,zS,-getM,getM_hit,getM_miss,getM_none]));try (repeat' (refine guardQ_split (fun h=>?_) (fun h=>?_)<;>simp at h<;>(simp [List.zipIdx,enterS,idx,zS,-getM,getM_hit,getM_miss,getM_none];(repeat (simp (disch:=first|omega|assumption|fail) only [if_pos,if_neg,wrap64];try simp [List.zipIdx,enterS,idx,zS,-getM,getM_hit,getM_miss,getM_none]))))))|(refine aw_cond (b:=_) (by exact rfl) (fun h=>?_) (fun h=>?_)<;>(try simp at h))|(refine aw_block ?_)|(refine aw_skip ?_;simp only [thenQ,blockQ,if_true])|(refine aw_exit ?_;simp [thenQ,blockQ])|(refine aw_ret ?_;simp only [thenQ,blockQ])|(refine aw_round ?_)|(refine hK _ ?_;clear hK)|(clear hK;refine hK _ ?_;clear hK)|(clear hK;clear hK;refine hK _ ?_;clear hK)|(clear hK;clear hK;clear hK;refine hK _ ?_;clear hK))
 repeat (first|(rename St→Prop=>K;clear K)|(rename St→Prop=>K;revert K))
 exact hEnd.out):G:=k ⟨h⟩
theorem eM64 {G G':Prop} (h:G') (k:Hold G'→G:=by
 intro hEnd
 first
  | (refine aw_run hc (by first|exact aw_nod|(intro _;rw [ordB_w hw];kernel_rfl)|(intro _;rw [ordB_w0 hw0];kernel_rfl)|(intro _;kernel_rfl)) ?_;simp [List.zipIdx,enterS,idx,zS,-getM,getM_hit,getM_miss,getM_none];(repeat (simp (disch:=first|omega|assumption|fail) only [if_pos,if_neg,wrap64];try simp [List.zipIdx,enterS,idx,zS,-getM,getM_hit,getM_miss,getM_none]));try (repeat' (refine guardQ_split (fun h=>?_) (fun h=>?_)<;>simp at h<;>(simp [List.zipIdx,enterS,idx,zS,-getM,getM_hit,getM_miss,getM_none];(repeat (simp (disch:=first|omega|assumption|fail) only [if_pos,if_neg,wrap64];try simp [List.zipIdx,enterS,idx,zS,-getM,getM_hit,getM_miss,getM_none]))))))
 exact hEnd.out):G:=k ⟨h⟩
theorem eM64o {G G':Prop} (h:G') (k:Hold G'→G:=by
 intro hEnd
 first
  | (refine aw_run hc (by first|exact aw_nod|(intro _;rw [ordB_w hw];kernel_rfl)|(intro _;rw [ordB_w0 hw0];kernel_rfl)|(intro _;kernel_rfl)) ?_;simp [List.zipIdx,enterS,idx,-getM,getM_hit,getM_miss,getM_none];(repeat (simp (disch:=first|omega|assumption|fail) only [if_pos,if_neg,wrap64];try simp [List.zipIdx,enterS,idx,-getM,getM_hit,getM_miss,getM_none]));try (repeat' (refine guardQ_split (fun h=>?_) (fun h=>?_)<;>simp at h<;>(simp [List.zipIdx,enterS,idx,-getM,getM_hit,getM_miss,getM_none];(repeat (simp (disch:=first|omega|assumption|fail) only [if_pos,if_neg,wrap64];try simp [List.zipIdx,enterS,idx,-getM,getM_hit,getM_miss,getM_none]))))))
 exact hEnd.out):G:=k ⟨h⟩
theorem eF64 {G G':Prop} (h:G') (k:Hold G'→G:=by
 intro hEnd
 first
  | (refine aw_run hc (by exact aw_nod) ?_;simp [List.zipIdx,enterS,idx,zS,-getM,getM_hit,getM_miss,getM_none];(repeat (simp (disch:=first|omega|assumption|fail) only [if_pos,if_neg,wrap64];try simp [List.zipIdx,enterS,idx,zS,-getM,getM_hit,getM_miss,getM_none]));try (repeat' (refine guardQ_split (fun h=>?_) (fun h=>?_)<;>simp at h<;>(simp [List.zipIdx,enterS,idx,zS,-getM,getM_hit,getM_miss,getM_none];(repeat (simp (disch:=first|omega|assumption|fail) only [if_pos,if_neg,wrap64];try simp [List.zipIdx,enterS,idx,zS,-getM,getM_hit,getM_miss,getM_none]))))))
  | (refine aw_runFt hc ?_;simp [List.zipIdx,enterS,idx,zS,-getM,getM_hit,getM_miss,getM_none];(repeat (simp (disch:=first|omega|assumption|fail) only [if_pos,if_neg,wrap64];try simp [List.zipIdx,enterS,idx,zS,-getM,getM_hit,getM_miss,getM_none]));refine ⟨by kernel_rfl,?_⟩)
  | (refine aw_run hc (by first|(intro _;rw [ordB_w hw];kernel_rfl)|(intro _;rw [ordB_w0 hw0];kernel_rfl)|(intro _;kernel_rfl)) ?_;simp [List.zipIdx,enterS,idx,zS,-getM,getM_hit,getM_miss,getM_none];(repeat (simp (disch:=first|omega|assumption|fail) only [if_pos,if_neg,wrap64];try simp [List.zipIdx,enterS,idx,zS,-getM,getM_hit,getM_miss,getM_none]));try (repeat' (refine guardQ_split (fun h=>?_) (fun h=>?_)<;>simp at h<;>(simp [List.zipIdx,enterS,idx,zS,-getM,getM_hit,getM_miss,getM_none];(repeat (simp (disch:=first|omega|assumption|fail) only [if_pos,if_neg,wrap64];try simp [List.zipIdx,enterS,idx,zS,-getM,getM_hit,getM_miss,getM_none]))))))
 exact hEnd.out):G:=k ⟨h⟩
theorem eF64o {G G':Prop} (h:G') (k:Hold G'→G:=by
 intro hEnd
 first
  | (refine aw_run hc (by exact aw_nod) ?_;simp [List.zipIdx,enterS,idx,-getM,getM_hit,getM_miss,getM_none];(repeat (simp (disch:=first|omega|assumption|fail) only [if_pos,if_neg,wrap64];try simp [List.zipIdx,enterS,idx,-getM,getM_hit,getM_miss,getM_none]));try (repeat' (refine guardQ_split (fun h=>?_) (fun h=>?_)<;>simp at h<;>(simp [List.zipIdx,enterS,idx,-getM,getM_hit,getM_miss,getM_none];(repeat (simp (disch:=first|omega|assumption|fail) only [if_pos,if_neg,wrap64];try simp [List.zipIdx,enterS,idx,-getM,getM_hit,getM_miss,getM_none]))))))
  | (refine aw_runFt hc ?_;simp [List.zipIdx,enterS,idx,-getM,getM_hit,getM_miss,getM_none];(repeat (simp (disch:=first|omega|assumption|fail) only [if_pos,if_neg,wrap64];try simp [List.zipIdx,enterS,idx,-getM,getM_hit,getM_miss,getM_none]));refine ⟨by kernel_rfl,?_⟩)
  | (refine aw_run hc (by first|(intro _;rw [ordB_w hw];kernel_rfl)|(intro _;rw [ordB_w0 hw0];kernel_rfl)|(intro _;kernel_rfl)) ?_;simp [List.zipIdx,enterS,idx,-getM,getM_hit,getM_miss,getM_none];(repeat (simp (disch:=first|omega|assumption|fail) only [if_pos,if_neg,wrap64];try simp [List.zipIdx,enterS,idx,-getM,getM_hit,getM_miss,getM_none]));try (repeat' (refine guardQ_split (fun h=>?_) (fun h=>?_)<;>simp at h<;>(simp [List.zipIdx,enterS,idx,-getM,getM_hit,getM_miss,getM_none];(repeat (simp (disch:=first|omega|assumption|fail) only [if_pos,if_neg,wrap64];try simp [List.zipIdx,enterS,idx,-getM,getM_hit,getM_miss,getM_none]))))))
 exact hEnd.out):G:=k ⟨h⟩
theorem eB {G G':Prop} (h:G') (k:Hold G'→G:=by
 intro hEnd
 first
  | (refine aw_block ?_)
  | (refine aw_skip ?_;simp only [thenQ,blockQ,if_true])
  | (refine aw_exit ?_;simp [thenQ,blockQ])
  | (refine aw_ret ?_;simp only [thenQ,blockQ])
  | (refine aw_round ?_)
 exact hEnd.out):G:=k ⟨h⟩
theorem eqLs:eqL [] []=some true∧(∀ k a xs k' b ys,eqL (.v (.int k a)::xs) (.v (.int k' b)::ys)=if k=k' then (eqL xs ys).map (decide (a=b)&&·) else none)∧∀ a xs b ys,eqL (.v (.bool a)::xs) (.v (.bool b)::ys)=(eqL xs ys).map ((a == b)&&·):=⟨rfl,fun _ _ _ _ _ _=>rfl,fun _ _ _ _=>rfl⟩
theorem sameKs:sameK [] []=true∧(∀ k z r k' x s,sameK (.int k z::r) (.v (.int k' x)::s)=(decide (k=k')&&sameK r s))∧∀ z r x s,sameK (.bool z::r) (.v (.bool x)::s)=sameK r s:=⟨rfl,fun _ _ _ _ _ _=>rfl,fun _ _ _ _=>rfl⟩
theorem dt {G:Prop} (h:G:=by first|omega|(refine decide_eq_decide.2 ?_;omega)|(refine decide_eq_false ?_;omega)|(refine decide_eq_true ?_;omega)):G:=h
theorem dle {G:Prop} (h:G:=by exact le_of2 (by simp) (by simp [AVle,AV.under,AV.underL]<;>omega) (by simp [AOle,AO.under,AV.underL,AV.under]<;>omega)):G:=h
end Go.AM
namespace Go.AM
open Go Go.Proofs
@[simp] theorem ty3:Types Tryz.prog 3=some ⟨.int .i64,1,8,[.int .i64 0]⟩:=by kernel_rfl
@[simp] theorem ty4:Types Tryz.prog 4=some ⟨.bool,1,1,[.bool false]⟩:=by kernel_rfl
@[simp] theorem tyU:Types Tryz.prog 76=some ⟨.int .u64,1,8,[.int .u64 0]⟩:=by kernel_rfl
@[simp] theorem tyE:Types Tryz.prog 103=some ⟨.struct [(0,3,1),(1,3,1),(2,4,1),(3,4,1),(4,4,1),(5,4,1)],6,24,[.int .i64 0,.int .i64 0,.bool false,.bool false,.bool false,.bool false]⟩:=by kernel_rfl
@[simp] theorem tyTab:Types Tryz.prog 63=some ⟨.struct [(0,3,1),(1,60,1),(2,61,1)],3,56,[.int .i64 0,.slice none 0 0,.slice none 0 0]⟩:=by kernel_rfl
@[simp] theorem tyNs:Types Tryz.prog 60=some ⟨.slice 150,1,24,[.slice none 0 0]⟩:=by kernel_rfl
@[simp] theorem tyDs:Types Tryz.prog 61=some ⟨.slice 170,1,24,[.slice none 0 0]⟩:=by kernel_rfl
@[simp] theorem tyN:Types Tryz.prog 150=some ⟨.struct [(0,3,1),(1,148,8)],9,72,.int .i64 0::List.replicate 8 (.int .u64 0)⟩:=by kernel_rfl
@[simp] theorem tyW8:Types Tryz.prog 148=some ⟨.array 8 76,8,64,List.replicate 8 (.int .u64 0)⟩:=by kernel_rfl
@[simp] theorem tyD:Types Tryz.prog 170=some ⟨.struct [(0,3,1),(1,3,1)],2,16,[.int .i64 0,.int .i64 0]⟩:=by kernel_rfl
@[simp] theorem tyIs:Types Tryz.prog 89=some ⟨.slice 3,1,24,[.slice none 0 0]⟩:=by kernel_rfl
@[simp] theorem tyBs:Types Tryz.prog 177=some ⟨.slice 4,1,24,[.slice none 0 0]⟩:=by kernel_rfl
@[simp] theorem tySt:Types Tryz.prog 173=some ⟨.struct [(0,3,1),(1,3,1),(2,76,1)],3,24,[.int .i64 0,.int .i64 0,.int .u64 0]⟩:=by kernel_rfl
theorem mixed:Tryz.prog.follows .mixedOrders=true:=by kernel_rfl
theorem und3:Tryz.prog.underlying 3=some (.int .i64):=by kernel_rfl
end Go.AM
namespace Go.AM
open Go Go.Proofs
set_option maxRecDepth 20000
noncomputable def FitV (t:TypeId):Value→Prop
 | .int q _=>Tryz.prog.underlying t=some (.int q)
 | .bool _=>Tryz.prog.underlying t=some .bool
 | _=>False
noncomputable def fitB (t:TypeId):Value→Bool
 | .int q _=>match Tryz.prog.underlying t with
  | some (.int q')=>decide (q'=q)
  | _=>false
 | .bool _=>match Tryz.prog.underlying t with
  | some .bool=>true
  | _=>false
 | _=>false
theorem fitB_ok {t:TypeId} {v:Value} (h:fitB t v=true):FitV t v:=by
 cases v<;>simp only [fitB,Bool.false_eq_true] at h
 all_goals (split at h<;>simp only [Bool.false_eq_true,decide_eq_true_eq] at h)
 ·assumption
 ·subst h;assumption
noncomputable def plB:List Field→Nat→List Value→Bool
 | [],_,[]=>true
 | f :: fs, k, z :: Z => (f.name != "_" && decide (f.offset = k) && Tryz.prog.plainKey f.type && fitB f.type z) && plB fs (k + 1) Z
 | _,_,_=>false
noncomputable def PlF:List Field→Nat→List Value→Prop
 | [],_,[]=>True
 | f :: fs, k, z :: Z => (f.name ≠ "_" ∧ f.offset = k ∧ Tryz.prog.plainKey f.type = true ∧ FitV f.type z) ∧ PlF fs (k + 1) Z
 | _,_,_=>False
theorem plB_ok:∀ {fs:List Field} {k:Nat} {Z:List Value},plB fs k Z=true→PlF fs k Z
 | [],_,[],_=>trivial
 | f::fs,k,z::Z,h=>by
  simp only [plB,Bool.and_eq_true,bne_iff_ne,decide_eq_true_eq] at h
  obtain ⟨⟨⟨⟨h1,h2⟩,h3⟩,h4⟩,h5⟩:=h
  exact ⟨⟨h1,h2,h3,fitB_ok h4⟩,plB_ok h5⟩
 | [],_,_::_,h=>by simp [plB] at h
 | _::_,_,[],h=>by simp [plB] at h
theorem eqG (w:World):∀ {Z:List Value} {fs:List Field} {k:Nat},PlF fs k Z→∀ {px py xs ys:List Value} {b:Bool},px.length=k→py.length=k→sameKV Z xs=true→eqV xs ys=some b →
  (Op.eqFields 9999 (px++xs).toArray (py++ys).toArray fs).run Tryz.prog w=.ok b w
 | [],[],k,_,px,py,xs,ys,b,_,_,hs,he=>by
  cases xs with
  | nil =>
   cases ys with
   | nil=>simp [eqV] at he;subst he;rfl
   | cons y ys=>simp [eqV] at he
  | cons x xs=>simp [sameKV] at hs
 | z::Z,f::fs,k,h,px,py,xs,ys,b,hp,hq,hs,he=>by
  simp only [PlF] at h
  obtain ⟨⟨n1,o1,p1,t1⟩,h⟩:=h
  cases xs with
  | nil=>cases z<;>simp [sameKV] at hs
  | cons x xs =>
   cases ys with
   | nil=>cases x<;>simp [eqV] at he
   | cons y ys =>
    have hx:(px++x::xs).toArray[k]?=some x:=by simp [← hp]
    have hy:(py++y::ys).toArray[k]?=some y:=by simp [← hq]
    have ex:px++x::xs=(px++[x])++xs:=by simp
    have ey:py++y::ys=(py++[y])++ys:=by simp
    simp only [Op.eqFields]
    rw [if_pos n1,o1]
    simp only [Sem.run_bind]
    rw [run_part_plain w p1 hx]
    simp only [Result.andThen_ok]
    rw [run_part_plain w p1 hy]
    simp only [Result.andThen_ok]
    cases z<;>simp only [FitV] at t1<;>cases x<;>simp only [sameKV,Bool.and_eq_true,decide_eq_true_eq,Bool.false_eq_true] at hs<;>cases y<;>simp only [eqV,reduceCtorEq] at he
    ·rename_i b1 b2 b3
     cases hr:eqV xs ys with
     | none=>simp [hr] at he
     | some r =>
      simp only [hr,Option.map_some,Option.some.injEq] at he
      have ih:=eqG w h (px:=px++[.bool b2]) (py:=py++[.bool b3]) (by simp [hp]) (by simp [hq]) hs hr
      rw [← ex,← ey] at ih
      rw [run_equalIn_bool' w _ f.type _ _ t1]
      simp only [Result.andThen_ok]
      by_cases e:(b2 == b3)=true
      ·simp only [e,Bool.not_true,Bool.false_eq_true,if_false,ih,Bool.true_and] at he ⊢
       rw [he]
      ·simp only [Bool.not_eq_true] at e
       simp only [e,Bool.false_and] at he ⊢
       simp [← he]
    ·rename_i q0 n0 q1 n1' q2 n2
     split at he
     case isFalse=>simp at he
     rename_i hk
     subst hk
     obtain ⟨rfl,hs⟩:=hs
     cases hr:eqV xs ys with
     | none=>simp [hr] at he
     | some r =>
      simp only [hr,Option.map_some,Option.some.injEq] at he
      have ih:=eqG w h (px:=px++[.int q0 n1']) (py:=py++[.int q0 n2]) (by simp [hp]) (by simp [hq]) hs hr
      rw [← ex,← ey] at ih
      rw [run_equalIn_int w _ f.type q0 q0 _ _ t1]
      simp only [Result.andThen_ok]
      by_cases e:n1'=n2
      ·subst e
       simp only [beq_self_eq_true,Bool.not_true,Bool.false_eq_true,if_false,ih,decide_true,Bool.true_and] at he ⊢
       rw [he]
      ·have hb:(n1' == n2)=false:=by simpa using e
       simp only [hb,Bool.not_false,if_true,Sem.run_pure]
       simp only [e,decide_false,Bool.false_and] at he
       rw [← he]
 | [],_::_,_,h,_,_,_,_,_,_,_,_,_=>by simp [PlF] at h
 | _::_,[],_,h,_,_,_,_,_,_,_,_,_=>by simp [PlF] at h
theorem ckP {w:World} {t:TypeId} {v:Value} {b:Bool} {d:Nat} (h:Tryz.prog.plainKey t=true) (hv:FitV t v):(Instr.checkKey b (d+1) t v).run Tryz.prog w=.ok () w:=by
 cases v<;>simp only [FitV] at hv<;>(rw [Instr.checkKey];simp [run_underlying hv])
theorem ckG (w:World) (em:Bool) (d:Nat):∀ {Z:List Value} {fs:List Field} {k:Nat},PlF fs k Z→∀ {px xs:List Value},px.length=k→sameKV Z xs=true →
  (forIn fs PUnit.unit fun f (_ : PUnit) => (if f.name ≠ "_" then do
    let a ← part f.type (px++xs).toArray f.offset
    Instr.checkKey em (d+1) f.type a
    pure (ForInStep.yield PUnit.unit)
   else pure (ForInStep.yield PUnit.unit):Sem (ForInStep PUnit))).run Tryz.prog w=.ok PUnit.unit w
 | [],[],k,_,px,xs,_,_=>rfl
 | z::Z,f::fs,k,h,px,xs,hp,hs=>by
  simp only [PlF] at h
  obtain ⟨⟨n1,o1,p1,t1⟩,h⟩:=h
  cases xs with
  | nil=>cases z<;>simp [sameKV] at hs
  | cons x xs =>
   have hx:(px++x::xs).toArray[k]?=some x:=by simp [← hp]
   have ex:px++x::xs=(px++[x])++xs:=by simp
   have key:sameKV Z xs=true∧FitV f.type x:=by
    clear hx ex
    cases z<;>simp only [FitV] at t1<;>cases x<;>simp only [sameKV,Bool.and_eq_true,decide_eq_true_eq,Bool.false_eq_true] at hs
    ·exact ⟨hs,t1⟩
    ·obtain ⟨rfl,hs⟩:=hs
     exact ⟨hs,t1⟩
   have ih:=ckG w em d h (px:=px++[x]) (xs:=xs) (by simp [hp]) key.1
   rw [← ex] at ih
   simp only [List.forIn_cons,Sem.run_bind]
   rw [if_pos n1,o1]
   simp only [Sem.run_bind]
   rw [run_part_plain w p1 hx]
   simp only [Result.andThen_ok,ckP p1 key.2,Sem.run_pure]
   exact ih
 | [],_::_,_,h,_,_,_,_=>by simp [PlF] at h
 | _::_,[],_,h,_,_,_,_=>by simp [PlF] at h
theorem eqok_plain {t:TypeId} (hu:Tryz.prog.underlying t=some (.struct (Tryz.prog.fieldsOf t))) (hf:∀ d,Types Tryz.prog t=some d→PlF (Tryz.prog.fieldsOf t).toList 0 d.zero) (hp:Tryz.prog.stoodInHeld t=false) (hg:Tryz.prog.eqGuardType Tryz.prog.depth t=false):EqOK Tryz.prog t:=by
 intro d hd
 refine ⟨fun w xs b hk=>?_,fun w xs ys b hk he=>⟨?_,hg⟩⟩
 ·rw [show (10000:Nat)=9998+1+1 from rfl,Instr.checkKey]
  simp only [Sem.run_bind,run_underlying hu,Result.andThen_ok]
  rw [← Array.forIn_toList]
  have:=ckG w b 9998 (hf d hd) (px:=[]) rfl hk
  rw [List.nil_append] at this
  rw [this]
  rfl
 ·unfold Op.equal
  rw [show Op.maxDepth=9999+1 from rfl,run_equalIn_agg w _ t _ _ hu hp]
  have:=eqG w (hf d hd) (px:=[]) (py:=[]) rfl rfl hk he
  simpa using this
theorem eqE:EqOK Tryz.prog 103:=eqok_plain (by kernel_rfl) (fun d hd=>by
 rw [tyE,Option.some.injEq] at hd
 subst hd
 exact plB_ok (by kernel_rfl)) (by kernel_rfl) (by kernel_rfl)
theorem eqD:EqOK Tryz.prog 170:=eqok_plain (by kernel_rfl) (fun d hd=>by
 rw [tyD,Option.some.injEq] at hd
 subst hd
 exact plB_ok (by kernel_rfl)) (by kernel_rfl) (by kernel_rfl)
theorem eqPE:EqOK Tryz.prog 86:=eqok_plain (by kernel_rfl) (fun d hd=>by
 have h:Types Tryz.prog 86=some ⟨.struct [(0,3,1),(1,76,1)],2,16,[.int .i64 0,.int .u64 0]⟩:=by kernel_rfl
 rw [h,Option.some.injEq] at hd
 subst hd
 exact plB_ok (by kernel_rfl)) (by kernel_rfl) (by kernel_rfl)
end Go.AM
set_option maxHeartbeats 1000000
namespace Go.AM
open Go Go.Proofs
abbrev En:=Int×Int×Bool×Bool×Bool×Bool
def EnV (e:En):AV:=.agg [I e.1,I e.2.1,B e.2.2.1,B e.2.2.2.1,B e.2.2.2.2.1,B e.2.2.2.2.2]
def U (n:Int):AV:=.v (.int .u64 n)
theorem EnV_inj {a b:En}:EnV a=EnV b↔a=b:=by
 obtain ⟨a1,a2,a3,a4,a5,a6⟩:=a
 obtain ⟨b1,b2,b3,b4,b5,b6⟩:=b
 simp [EnV,I,B]
def noFl (e:En):Bool:=!e.2.2.1&&(!e.2.2.2.1&&(!e.2.2.2.2.1&&!e.2.2.2.2.2))
def frmE (e:En):Bool :=
 if e.1=1 then true
 else if e.1=3 then !e.2.2.2.1&&(!e.2.2.2.2.1&&!e.2.2.2.2.2)
 else if e.1=0 then decide (e.2.1=0)&&noFl e
 else if e.1=2∨e.1=4 then noFl e else false
def wT (f:FuncId):Bool:=Nat.beq f 116||Nat.beq f 123||Nat.beq f 186||Nat.beq f 129||Nat.beq f 130||Nat.beq f 135||Nat.beq f 138||Nat.beq f 149||Nat.beq f 147||Nat.beq f 214||Nat.beq f 125||Nat.beq f 153||Nat.beq f 140||Nat.beq f 192||Nat.beq f 190||Nat.beq f 60||Nat.beq f 189||Nat.beq f 191||Nat.beq f 188||Nat.beq f 141||Nat.beq f 193||Nat.beq f 148||Nat.beq f 136||Nat.beq f 144||Nat.beq f 146||Nat.beq f 183||Nat.beq f 210||Nat.beq f 208||Nat.beq f 999999||Nat.beq f 999999||Nat.beq f 70||Nat.beq f 71||Nat.beq f 72||Nat.beq f 155||Nat.beq f 16||Nat.beq f 74||Nat.beq f 75||Nat.beq f 24||Nat.beq f 203||Nat.beq f 205
def fb (b:Bool) (n:Int):Int:=if b then n else 0
theorem s196 (X:AX) (hX:XOK Tryz.prog X):PSound Tryz.prog 196 (specF (ι:=Bool×Int) (fun x=>[B x.1,U x.2]) fun x=>retOf [U (fb x.1 x.2)]):=by
 refine psound_spec hX mixed Tryz.func196 rfl fun ⟨b,n⟩ w0 G=>⟨by show 2≤7;decide,rfl,?_⟩
 show AW ⟨Tryz.prog,X,7,w0,.pure G⟩ _ _ _
 have hc:Cx.OK ⟨Tryz.prog,X,7,w0,.pure G⟩:=⟨hX,mixed⟩
 unfold U
 cases b
 ·refine dM8o ?_
  repeat (intro K hK)
  refine ⟨by simp,?_⟩
  simp [leaves_iff,Tryz.f196,fb]
  try exact dt
 ·refine dM8o ?_
  repeat (intro K hK)
  refine ⟨by simp,?_⟩
  simp [leaves_iff,Tryz.f196,fb]
  try exact dt
theorem s217 (X:AX) (hX:XOK Tryz.prog X):PSound Tryz.prog 217 (specF (ι:=Bool×Int) (fun x=>[B x.1,U x.2]) fun x=>retOf [U (fb x.1 x.2)]):=by
 refine psound_spec hX mixed Tryz.func217 rfl fun ⟨b,n⟩ w0 G=>⟨by show 2≤7;decide,rfl,?_⟩
 show AW ⟨Tryz.prog,X,7,w0,.pure G⟩ _ _ _
 have hc:Cx.OK ⟨Tryz.prog,X,7,w0,.pure G⟩:=⟨hX,mixed⟩
 unfold U
 cases b
 ·refine dM8o ?_
  repeat (intro K hK)
  refine ⟨by simp,?_⟩
  simp [leaves_iff,Tryz.f217,fb]
  try exact dt
 ·refine dM8o ?_
  repeat (intro K hK)
  refine ⟨by simp,?_⟩
  simp [leaves_iff,Tryz.f217,fb]
  try exact dt
theorem s195 (X:AX) (hX:XOK Tryz.prog X) (hw:X.W wT) (he:X.eqs 103=true):PSound Tryz.prog 195 (specF (ι:={e:En // 0≤e.1∧e.1≤4}) (fun x=>[EnV x.1]) fun x=>retOf [B (frmE x.1)]):=by
 refine psound_spec hX mixed Tryz.func195 rfl fun ⟨⟨k,f,d,a,x,h⟩,hk1,hk2⟩ w0 G=>⟨by show 1≤32;decide,rfl,?_⟩
 show AW ⟨Tryz.prog,X,32,w0,.pure G⟩ _ _ _
 have hc:Cx.OK ⟨Tryz.prog,X,32,w0,.pure G⟩:=⟨hX,mixed⟩
 simp only at hk1 hk2
 unfold EnV
 simp only
 have hk:k=0∨k=1∨k=2∨k=3∨k=4:=by omega
 rcases hk with rfl|rfl|rfl|rfl|rfl
 ·have zS:=jj he<|jj eqLs<|sameKs
  refine dM8 ?_
  repeat (intro K hK)
  clear zS
  refine ⟨by simp,?_⟩
  simp [leaves_iff,Tryz.f195,frmE,noFl]
  try exact dt
 ·have zS:=jj he<|jj eqLs<|sameKs
  refine dM8 ?_
  repeat (intro K hK)
  clear zS
  refine ⟨by simp,?_⟩
  simp [leaves_iff,Tryz.f195,frmE,noFl]
  try exact dt
 ·have zS:=jj he<|jj eqLs<|sameKs
  refine dM8 ?_
  repeat (intro K hK)
  clear zS
  refine ⟨by simp,?_⟩
  simp [leaves_iff,Tryz.f195,frmE,noFl]
  try exact dt
 ·have zS:=jj he<|jj eqLs<|sameKs
  refine dM8 ?_
  repeat (intro K hK)
  clear zS
  refine ⟨by simp,?_⟩
  simp [leaves_iff,Tryz.f195,frmE,noFl]
  try exact dt
 ·have zS:=jj he<|jj eqLs<|sameKs
  refine dM8 ?_
  repeat (intro K hK)
  clear zS
  refine ⟨by simp,?_⟩
  simp [leaves_iff,Tryz.f195,frmE,noFl]
  try exact dt
theorem s216 (X:AX) (hX:XOK Tryz.prog X) (hw:X.W wT) (he:X.eqs 103=true):PSound Tryz.prog 216 (specF (ι:={e:En // 0≤e.1∧e.1≤4}) (fun x=>[EnV x.1]) fun x=>retOf [B (frmE x.1)]):=by
 refine psound_spec hX mixed Tryz.func216 rfl fun ⟨⟨k,f,d,a,x,h⟩,hk1,hk2⟩ w0 G=>⟨by show 1≤45;decide,rfl,?_⟩
 show AW ⟨Tryz.prog,X,45,w0,.pure G⟩ _ _ _
 have hc:Cx.OK ⟨Tryz.prog,X,45,w0,.pure G⟩:=⟨hX,mixed⟩
 simp only at hk1 hk2
 unfold EnV
 simp only
 have hk:k=0∨k=1∨k=2∨k=3∨k=4:=by omega
 rcases hk with rfl|rfl|rfl|rfl|rfl
 ·have zS:=jj he<|jj eqLs<|sameKs
  refine dM8 ?_
  repeat (intro K hK)
  clear zS
  refine ⟨by simp,?_⟩
  simp [leaves_iff,Tryz.f216,frmE,noFl]
  try exact dt
 ·repeat' (first|(apply aw_seq_k;intro K hK)|(refine aw_run hc (by first|exact aw_nod|(intro _;rw [ordB_w hw];kernel_rfl)|(intro _;rw [ordB_w0 hw0];kernel_rfl)|(intro _;kernel_rfl)) ?_;simp [List.zipIdx,he,eqL,sameK,-getM,getM_hit,getM_miss,getM_none];(repeat (simp (disch:=first|omega|assumption|fail) only [if_pos,if_neg,wrap8];try simp [List.zipIdx,he,eqL,sameK,-getM,getM_hit,getM_miss,getM_none]));try (repeat' (refine guardQ_split (fun h=>?_) (fun h=>?_)<;>simp at h<;>(simp [List.zipIdx,he,eqL,sameK,-getM,getM_hit,getM_miss,getM_none];(repeat (simp (disch:=first|omega|assumption|fail) only [if_pos,if_neg,wrap8];try simp [List.zipIdx,he,eqL,sameK,-getM,getM_hit,getM_miss,getM_none]))))))|(refine aw_cond (b:=_) (by exact rfl) (fun h=>?_) (fun h=>?_)<;>(try simp at h))|(refine aw_block ?_)|(refine aw_skip ?_;simp only [thenQ,blockQ,if_true])|(refine aw_exit ?_;simp [thenQ,blockQ])|(refine aw_ret ?_;simp only [thenQ,blockQ])|(refine aw_round ?_)|(refine hK _ ?_;clear hK)|(clear hK;refine hK _ ?_;clear hK)|(clear hK;clear hK;refine hK _ ?_;clear hK)|(clear hK;clear hK;clear hK;refine hK _ ?_;clear hK))
  refine ⟨by simp,?_⟩
  simp [leaves_iff,Tryz.f216,frmE,noFl]
  try exact dt
 ·repeat' (first|(apply aw_seq_k;intro K hK)|(refine aw_run hc (by first|exact aw_nod|(intro _;rw [ordB_w hw];kernel_rfl)|(intro _;rw [ordB_w0 hw0];kernel_rfl)|(intro _;kernel_rfl)) ?_;simp [List.zipIdx,he,eqL,sameK,-getM,getM_hit,getM_miss,getM_none];(repeat (simp (disch:=first|omega|assumption|fail) only [if_pos,if_neg,wrap8];try simp [List.zipIdx,he,eqL,sameK,-getM,getM_hit,getM_miss,getM_none]));try (repeat' (refine guardQ_split (fun h=>?_) (fun h=>?_)<;>simp at h<;>(simp [List.zipIdx,he,eqL,sameK,-getM,getM_hit,getM_miss,getM_none];(repeat (simp (disch:=first|omega|assumption|fail) only [if_pos,if_neg,wrap8];try simp [List.zipIdx,he,eqL,sameK,-getM,getM_hit,getM_miss,getM_none]))))))|(refine aw_cond (b:=_) (by exact rfl) (fun h=>?_) (fun h=>?_)<;>(try simp at h))|(refine aw_block ?_)|(refine aw_skip ?_;simp only [thenQ,blockQ,if_true])|(refine aw_exit ?_;simp [thenQ,blockQ])|(refine aw_ret ?_;simp only [thenQ,blockQ])|(refine aw_round ?_)|(refine hK _ ?_;clear hK)|(clear hK;refine hK _ ?_;clear hK)|(clear hK;clear hK;refine hK _ ?_;clear hK)|(clear hK;clear hK;clear hK;refine hK _ ?_;clear hK))
  all_goals (refine ⟨by simp,?_⟩;simp_all [leaves_iff,frmE,noFl])
 ·repeat' (first|(apply aw_seq_k;intro K hK)|(refine aw_run hc (by first|exact aw_nod|(intro _;rw [ordB_w hw];kernel_rfl)|(intro _;rw [ordB_w0 hw0];kernel_rfl)|(intro _;kernel_rfl)) ?_;simp [List.zipIdx,he,eqL,sameK,-getM,getM_hit,getM_miss,getM_none];(repeat (simp (disch:=first|omega|assumption|fail) only [if_pos,if_neg,wrap8];try simp [List.zipIdx,he,eqL,sameK,-getM,getM_hit,getM_miss,getM_none]));try (repeat' (refine guardQ_split (fun h=>?_) (fun h=>?_)<;>simp at h<;>(simp [List.zipIdx,he,eqL,sameK,-getM,getM_hit,getM_miss,getM_none];(repeat (simp (disch:=first|omega|assumption|fail) only [if_pos,if_neg,wrap8];try simp [List.zipIdx,he,eqL,sameK,-getM,getM_hit,getM_miss,getM_none]))))))|(refine aw_cond (b:=_) (by exact rfl) (fun h=>?_) (fun h=>?_)<;>(try simp at h))|(refine aw_block ?_)|(refine aw_skip ?_;simp only [thenQ,blockQ,if_true])|(refine aw_exit ?_;simp [thenQ,blockQ])|(refine aw_ret ?_;simp only [thenQ,blockQ])|(refine aw_round ?_)|(refine hK _ ?_;clear hK)|(clear hK;refine hK _ ?_;clear hK)|(clear hK;clear hK;refine hK _ ?_;clear hK)|(clear hK;clear hK;clear hK;refine hK _ ?_;clear hK))
  all_goals (refine ⟨by simp,?_⟩;simp_all [leaves_iff,frmE,noFl])
 ·repeat' (first|(apply aw_seq_k;intro K hK)|(refine aw_run hc (by first|exact aw_nod|(intro _;rw [ordB_w hw];kernel_rfl)|(intro _;rw [ordB_w0 hw0];kernel_rfl)|(intro _;kernel_rfl)) ?_;simp [List.zipIdx,he,eqL,sameK,-getM,getM_hit,getM_miss,getM_none];(repeat (simp (disch:=first|omega|assumption|fail) only [if_pos,if_neg,wrap8];try simp [List.zipIdx,he,eqL,sameK,-getM,getM_hit,getM_miss,getM_none]));try (repeat' (refine guardQ_split (fun h=>?_) (fun h=>?_)<;>simp at h<;>(simp [List.zipIdx,he,eqL,sameK,-getM,getM_hit,getM_miss,getM_none];(repeat (simp (disch:=first|omega|assumption|fail) only [if_pos,if_neg,wrap8];try simp [List.zipIdx,he,eqL,sameK,-getM,getM_hit,getM_miss,getM_none]))))))|(refine aw_cond (b:=_) (by exact rfl) (fun h=>?_) (fun h=>?_)<;>(try simp at h))|(refine aw_block ?_)|(refine aw_skip ?_;simp only [thenQ,blockQ,if_true])|(refine aw_exit ?_;simp [thenQ,blockQ])|(refine aw_ret ?_;simp only [thenQ,blockQ])|(refine aw_round ?_)|(refine hK _ ?_;clear hK)|(clear hK;refine hK _ ?_;clear hK)|(clear hK;clear hK;refine hK _ ?_;clear hK)|(clear hK;clear hK;clear hK;refine hK _ ?_;clear hK))
  all_goals (refine ⟨by simp,?_⟩;simp_all [leaves_iff,frmE,noFl])
end Go.AM
namespace Go.AM
open Go
theorem wrapU {n:Nat} (h:n<2^64):IntKind.u64.wrap (n:Int)=n:=by
 have:(2:Nat)^64=18446744073709551616:=by decide
 simp [IntKind.wrap,IntKind.signed,IntKind.bits]
 omega
theorem toNat_u {n:Nat} (h:n<2^64):(BitVec.ofInt 64 (n:Int)).toNat=n:=by
 rw [BitVec.toNat_ofInt]
 omega
theorem bitI_or {x y j:Nat} (hx:x<2^j) (h:x+y*2^j<2^64):bitI .or .u64 (x:Int) ((y*2^j:Nat):Int)=((x+y*2^j:Nat):Int):=by
 unfold bitI
 have e:(BitVec.ofInt 64 (x:Int) ||| BitVec.ofInt 64 ((y*2^j:Nat):Int)).toNat=x+y*2^j:=by
  rw [BitVec.toNat_or,toNat_u (by omega),toNat_u (by omega)]
  have:=Nat.shiftLeft_add_eq_or_of_lt hx y
  rw [Nat.shiftLeft_eq] at this
  rw [Nat.or_comm,← this,Nat.add_comm]
 show IntKind.u64.wrap (((BitVec.ofInt 64 (x:Int) ||| BitVec.ofInt 64 ((y*2^j:Nat):Int)).toNat:Nat):Int)=_
 rw [e]
 exact wrapU h
theorem bitI_and {x y:Nat} (hx:x<2^64) (hy:y<2^64):bitI .and .u64 (x:Int) (y:Int)=((x &&& y:Nat):Int):=by
 unfold bitI
 show IntKind.u64.wrap (((BitVec.ofInt 64 (x:Int) &&& BitVec.ofInt 64 (y:Int)).toNat:Nat):Int)=_
 rw [BitVec.toNat_and,toNat_u hx,toNat_u hy]
 exact wrapU (Nat.lt_of_le_of_lt Nat.and_le_left hx)
theorem and_mask (x j:Nat):x &&& (2^j - 1)=x%2^j:=Nat.and_two_pow_sub_one_eq_mod x j
theorem and_bit (x j:Nat):x &&& 2^j=if x.testBit j then 2^j else 0:=by
 refine Nat.eq_of_testBit_eq fun i=>?_
 rw [Nat.testBit_and,Nat.testBit_two_pow]
 by_cases h:j=i
 ·subst h
  cases hx:x.testBit j<;>simp [Nat.testBit_two_pow]
 ·have:¬ i=j:=fun e=>h e.symm
  cases hx:x.testBit j<;>simp [Nat.testBit_two_pow,h]
end Go.AM
