/- A part of the proof: what functions of the program compute, by abstract execution of their code. Its theorems hold without further condition. -/
import Derived.Test.YtcfhmdljeeppfaaGreatAAmG2
import Derived.Test.YtcfhmdljeeppfaaGreatAAmW
import Derived.Test.YtcfhmdljeeppfaaGreatProg
import Derived.ProofKit
import Derived.Laws.StructEq
import Derived.ChangeKeysEq
import Derived.Test.YtcfhmdljeeppfaaGreatAAmH
set_option linter.all false
namespace Go.AM
open Go
structure Hold (p:Prop):Prop where
 out:p
theorem jj {A B:Prop} (a:A) (b:B):A∧B:=⟨a,b⟩
theorem dM64 {G G':Prop} (h:G') (k:Hold G'→G:=by
 intro hEnd
 repeat' (first|(apply aw_seq_k;intro K hK)|(refine aw_run hc (by first|exact aw_nod|(intro _;rw [ordB_w hw];kernel_rfl)|(intro _;rw [ordB_w0 hw0];kernel_rfl)|(intro _;kernel_rfl)) ?_;simp [List.zipIdx,enterS,idx,zS,-getM,getM_hit,getM_miss,getM_none];(repeat (simp (disch:=first|omega|assumption|fail) only [if_pos,if_neg,wrap64];try simp [List.zipIdx,enterS,idx,zS,-getM,getM_hit,getM_miss,getM_none]));try (repeat' (refine guardQ_split (fun h=>?_) (fun h=>?_)<;>simp at h<;>(simp [List.zipIdx,enterS,idx,zS,-getM,getM_hit,getM_miss,getM_none];(repeat (simp (disch:=first|omega|assumption|fail) only [if_pos,if_neg,wrap64];try simp [List.zipIdx,enterS,idx,zS,-getM,getM_hit,getM_miss,getM_none]))))))|(refine aw_cond (b:=_) (by exact rfl) (fun h=>?_) (fun h=>?_)<;>(try simp at h))|(refine aw_block ?_)|(refine aw_skip ?_;simp only [thenQ,blockQ,if_true])|(refine aw_exit ?_;simp [thenQ,blockQ])|(refine aw_ret ?_;simp only [thenQ,blockQ])|(refine aw_round ?_)|(refine hK _ ?_;clear hK)|(clear hK;refine hK _ ?_;clear hK)|(clear hK;clear hK;refine hK _ ?_;clear hK)|(clear hK;clear hK;clear hK;refine hK _ ?_;clear hK))
 repeat (first|(rename St→Prop=>K;clear K)|(rename St→Prop=>K;revert K))
 exact hEnd.out):G:=k ⟨h⟩
theorem dM64o {G G':Prop} (h:G') (k:Hold G'→G:=by
 intro hEnd
 repeat' (first|(apply aw_seq_k;intro K hK)|(refine aw_run hc (by first|exact aw_nod|(intro _;rw [ordB_w hw];kernel_rfl)|(intro _;rw [ordB_w0 hw0];kernel_rfl)|(intro _;kernel_rfl)) ?_;simp [List.zipIdx,enterS,idx,-getM,getM_hit,getM_miss,getM_none];(repeat (simp (disch:=first|omega|assumption|fail) only [if_pos,if_neg,wrap64];try simp [List.zipIdx,enterS,idx,-getM,getM_hit,getM_miss,getM_none]));try (repeat' (refine guardQ_split (fun h=>?_) (fun h=>?_)<;>simp at h<;>(simp [List.zipIdx,enterS,idx,-getM,getM_hit,getM_miss,getM_none];(repeat (simp (disch:=first|omega|assumption|fail) only [if_pos,if_neg,wrap64];try simp [List.zipIdx,enterS,idx,-getM,getM_hit,getM_miss,getM_none]))))))|(refine aw_cond (b:=_) (by exact rfl) (fun h=>?_) (fun h=>?_)<;>(try simp at h))|(refine aw_block ?_)|(refine aw_skip ?_;simp only [thenQ,blockQ,if_true])|(refine aw_exit ?_;simp [thenQ,blockQ])|(refine aw_ret ?_;simp only [thenQ,blockQ])|(refine aw_round ?_)|(refine hK _ ?_;clear hK)|(clear hK;refine hK _ ?_;clear hK)|(clear hK;clear hK;refine hK _ ?_;clear hK)|(clear hK;clear hK;clear hK;refine hK _ ?_;clear hK))
 repeat (first|(rename St→Prop=>K;clear K)|(rename St→Prop=>K;revert K))
 exact hEnd.out):G:=k ⟨h⟩
theorem dM8 {G G':Prop} (h:G') (k:Hold G'→G:=by
 intro hEnd
 repeat' (first|(apply aw_seq_k;intro K hK)|(refine aw_run hc (by first|exact aw_nod|(intro _;rw [ordB_w hw];kernel_rfl)|(intro _;rw [ordB_w0 hw0];kernel_rfl)|(intro _;kernel_rfl)) ?_;simp [List.zipIdx,enterS,idx,zS,-getM,getM_hit,getM_miss,getM_none];(repeat (simp (disch:=first|omega|assumption|fail) only [if_pos,if_neg,wrap8];try simp [List.zipIdx,enterS,idx,zS,-getM,getM_hit,getM_miss,getM_none]));try (repeat' (refine guardQ_split (fun h=>?_) (fun h=>?_)<;>simp at h<;>(simp [List.zipIdx,enterS,idx,zS,-getM,getM_hit,getM_miss,getM_none];(repeat (simp (disch:=first|omega|assumption|fail) only [if_pos,if_neg,wrap8];try simp [List.zipIdx,enterS,idx,zS,-getM,getM_hit,getM_miss,getM_none]))))))|(refine aw_cond (b:=_) (by exact rfl) (fun h=>?_) (fun h=>?_)<;>(try simp at h))|(refine aw_block ?_)|(refine aw_skip ?_;simp only [thenQ,blockQ,if_true])|(refine aw_exit ?_;simp [thenQ,blockQ])|(refine aw_ret ?_;simp only [thenQ,blockQ])|(refine aw_round ?_)|(refine hK _ ?_;clear hK)|(clear hK;refine hK _ ?_;clear hK)|(clear hK;clear hK;refine hK _ ?_;clear hK)|(clear hK;clear hK;clear hK;refine hK _ ?_;clear hK))
 repeat (first|(rename St→Prop=>K;clear K)|(rename St→Prop=>K;revert K))
 exact hEnd.out):G:=k ⟨h⟩
theorem dM8o {G G':Prop} (h:G') (k:Hold G'→G:=by
 intro hEnd
 repeat' (first|(apply aw_seq_k;intro K hK)|(refine aw_run hc (by first|exact aw_nod|(intro _;rw [ordB_w hw];kernel_rfl)|(intro _;rw [ordB_w0 hw0];kernel_rfl)|(intro _;kernel_rfl)) ?_;simp [List.zipIdx,enterS,idx,-getM,getM_hit,getM_miss,getM_none];(repeat (simp (disch:=first|omega|assumption|fail) only [if_pos,if_neg,wrap8];try simp [List.zipIdx,enterS,idx,-getM,getM_hit,getM_miss,getM_none]));try (repeat' (refine guardQ_split (fun h=>?_) (fun h=>?_)<;>simp at h<;>(simp [List.zipIdx,enterS,idx,-getM,getM_hit,getM_miss,getM_none];(repeat (simp (disch:=first|omega|assumption|fail) only [if_pos,if_neg,wrap8];try simp [List.zipIdx,enterS,idx,-getM,getM_hit,getM_miss,getM_none]))))))|(refine aw_cond (b:=_) (by exact rfl) (fun h=>?_) (fun h=>?_)<;>(try simp at h))|(refine aw_block ?_)|(refine aw_skip ?_;simp only [thenQ,blockQ,if_true])|(refine aw_exit ?_;simp [thenQ,blockQ])|(refine aw_ret ?_;simp only [thenQ,blockQ])|(refine aw_round ?_)|(refine hK _ ?_;clear hK)|(clear hK;refine hK _ ?_;clear hK)|(clear hK;clear hK;refine hK _ ?_;clear hK)|(clear hK;clear hK;clear hK;refine hK _ ?_;clear hK))
 repeat (first|(rename St→Prop=>K;clear K)|(rename St→Prop=>K;revert K))
 exact hEnd.out):G:=k ⟨h⟩
theorem dF64 {G G':Prop} (h:G') (k:Hold G'→G:=by
 intro hEnd
 repeat' (first|(apply aw_seq_k;intro K hK)|(refine aw_run hc (by exact aw_nod) ?_;simp [List.zipIdx,enterS,idx,zS,-getM,getM_hit,getM_miss,getM_none];(repeat (simp (disch:=first|omega|assumption|fail) only [if_pos,if_neg,wrap64];try simp [List.zipIdx,enterS,idx,zS,-getM,getM_hit,getM_miss,getM_none]));try (repeat' (refine guardQ_split (fun h=>?_) (fun h=>?_)<;>simp at h<;>(simp [List.zipIdx,enterS,idx,zS,-getM,getM_hit,getM_miss,getM_none];(repeat (simp (disch:=first|omega|assumption|fail) only [if_pos,if_neg,wrap64];try simp [List.zipIdx,enterS,idx,zS,-getM,getM_hit,getM_miss,getM_none]))))))|(refine aw_runFt hc ?_;simp [List.zipIdx,enterS,idx,zS,-getM,getM_hit,getM_miss,getM_none];(repeat (simp (disch:=first|omega|assumption|fail) only [if_pos,if_neg,wrap64];try simp [List.zipIdx,enterS,idx,zS,-getM,getM_hit,getM_miss,getM_none]));refine ⟨by kernel_rfl,?_⟩)|(refine aw_run hc (by first|(intro _;rw [ordB_w hw];kernel_rfl)|(intro _;rw [ordB_w0 hw0];kernel_rfl)|(intro _;kernel_rfl)) ?_;simp [List.zipIdx,enterS,idx,zS,-getM,getM_hit,getM_miss,getM_none];(repeat (simp (disch:=first|omega|assumption|fail) only [if_pos,if_neg,wrap64];try simp [List.zipIdx,enterS,idx,zS,-getM,getM_hit,getM_miss,getM_none]));try (repeat' (refine guardQ_split (fun h=>?_) (fun h=>?_)<;>simp at h<;>(simp [List.zipIdx,enterS,idx,zS,-getM,getM_hit,getM_miss,getM_none];(repeat (simp (disch:=first|omega|assumption|fail) only [if_pos,if_neg,wrap64];try simp [List.zipIdx,enterS,idx,zS,-getM,getM_hit,getM_miss,getM_none]))))))|(refine aw_cond (b:=_) (by exact rfl) (fun h=>?_) (fun h=>?_)<;>(try simp at h))|(refine aw_block ?_)|(refine aw_skip ?_;simp only [thenQ,blockQ,if_true])|(refine aw_exit ?_;simp [thenQ,blockQ])|(refine aw_ret ?_;simp only [thenQ,blockQ])|(refine aw_round ?_)|(refine hK _ ?_;clear hK)|(clear hK;refine hK _ ?_;clear hK)|(clear hK;clear hK;refine hK _ ?_;clear hK)|(clear hK;clear hK;clear hK;refine hK _ ?_;clear hK))
 repeat (first|(rename St→Prop=>K;clear K)|(rename St→Prop=>K;revert K))
 exact hEnd.out):G:=k ⟨h⟩
theorem eM64 {G G':Prop} (h:G') (k:Hold G'→G:=by
 intro hEnd
 first
  | (refine aw_run hc (by first|exact aw_nod|(intro _;rw [ordB_w hw];kernel_rfl)|(intro _;rw [ordB_w0 hw0];kernel_rfl)|(intro _;kernel_rfl)) ?_;simp [List.zipIdx,enterS,idx,zS,-getM,getM_hit,getM_miss,getM_none];(repeat (simp (disch:=first|omega|assumption|fail) only [if_pos,if_neg,wrap64];try simp [List.zipIdx,enterS,idx,zS,-getM,getM_hit,getM_miss,getM_none]));try (repeat' (refine guardQ_split (fun h=>?_) (fun h=>?_)<;>simp at h<;>(simp [List.zipIdx,enterS,idx,zS,-getM,getM_hit,getM_miss,getM_none];(repeat (simp (disch:=first|omega|assumption|fail) only [if_pos,if_neg,wrap64];try simp [List.zipIdx,enterS,idx,zS,-getM,getM_hit,getM_miss,getM_none]))))))
 exact hEnd.out):G:=k ⟨h⟩
theorem eM64o {G G':Prop} (h:G') (k:Hold G'→G:=by
 intro hEnd
 first
  | (refine aw_run hc (by first|exact aw_nod|(intro _;rw [ordB_w hw];kernel_rfl)|(intro _;rw [ordB_w0 hw0];kernel_rfl)|(intro _;kernel_rfl)) ?_;simp [List.zipIdx,enterS,idx,-getM,getM_hit,getM_miss,getM_none];(repeat (simp (disch:=first|omega|assumption|fail) only [if_pos,if_neg,wrap64];try simp [List.zipIdx,enterS,idx,-getM,getM_hit,getM_miss,getM_none]));try (repeat' (refine guardQ_split (fun h=>?_) (fun h=>?_)<;>simp at h<;>(simp [List.zipIdx,enterS,idx,-getM,getM_hit,getM_miss,getM_none];(repeat (simp (disch:=first|omega|assumption|fail) only [if_pos,if_neg,wrap64];try simp [List.zipIdx,enterS,idx,-getM,getM_hit,getM_miss,getM_none]))))))
 exact hEnd.out):G:=k ⟨h⟩
theorem eF64 {G G':Prop} (h:G') (k:Hold G'→G:=by
 intro hEnd
 first
  | (refine aw_run hc (by exact aw_nod) ?_;simp [List.zipIdx,enterS,idx,zS,-getM,getM_hit,getM_miss,getM_none];(repeat (simp (disch:=first|omega|assumption|fail) only [if_pos,if_neg,wrap64];try simp [List.zipIdx,enterS,idx,zS,-getM,getM_hit,getM_miss,getM_none]));try (repeat' (refine guardQ_split (fun h=>?_) (fun h=>?_)<;>simp at h<;>(simp [List.zipIdx,enterS,idx,zS,-getM,getM_hit,getM_miss,getM_none];(repeat (simp (disch:=first|omega|assumption|fail) only [if_pos,if_neg,wrap64];try simp [List.zipIdx,enterS,idx,zS,-getM,getM_hit,getM_miss,getM_none]))))))
  | (refine aw_runFt hc ?_;simp [List.zipIdx,enterS,idx,zS,-getM,getM_hit,getM_miss,getM_none];(repeat (simp (disch:=first|omega|assumption|fail) only [if_pos,if_neg,wrap64];try simp [List.zipIdx,enterS,idx,zS,-getM,getM_hit,getM_miss,getM_none]));refine ⟨by kernel_rfl,?_⟩)
  | (refine aw_run hc (by first|(intro _;rw [ordB_w hw];kernel_rfl)|(intro _;rw [ordB_w0 hw0];kernel_rfl)|(intro _;kernel_rfl)) ?_;simp [List.zipIdx,enterS,idx,zS,-getM,getM_hit,getM_miss,getM_none];(repeat (simp (disch:=first|omega|assumption|fail) only [if_pos,if_neg,wrap64];try simp [List.zipIdx,enterS,idx,zS,-getM,getM_hit,getM_miss,getM_none]));try (repeat' (refine guardQ_split (fun h=>?_) (fun h=>?_)<;>simp at h<;>(simp [List.zipIdx,enterS,idx,zS,-getM,getM_hit,getM_miss,getM_none];(repeat (simp (disch:=first|omega|assumption|fail) only [if_pos,if_neg,wrap64];try simp [List.zipIdx,enterS,idx,zS,-getM,getM_hit,getM_miss,getM_none]))))))
 exact hEnd.out):G:=k ⟨h⟩
theorem eF64o {G G':Prop} (h:G') (k:Hold G'→G:=by
 intro hEnd
 first
  | (refine aw_run hc (by exact aw_nod) ?_;simp [List.zipIdx,enterS,idx,-getM,getM_hit,getM_miss,getM_none];(repeat (simp (disch:=first|omega|assumption|fail) only [if_pos,if_neg,wrap64];try simp [List.zipIdx,enterS,idx,-getM,getM_hit,getM_miss,getM_none]));try (repeat' (refine guardQ_split (fun h=>?_) (fun h=>?_)<;>simp at h<;>(simp [List.zipIdx,enterS,idx,-getM,getM_hit,getM_miss,getM_none];(repeat (simp (disch:=first|omega|assumption|fail) only [if_pos,if_neg,wrap64];try simp [List.zipIdx,enterS,idx,-getM,getM_hit,getM_miss,getM_none]))))))
  | (refine aw_runFt hc ?_;simp [List.zipIdx,enterS,idx,-getM,getM_hit,getM_miss,getM_none];(repeat (simp (disch:=first|omega|assumption|fail) only [if_pos,if_neg,wrap64];try simp [List.zipIdx,enterS,idx,-getM,getM_hit,getM_miss,getM_none]));refine ⟨by kernel_rfl,?_⟩)
  | (refine aw_run hc (by first|(intro _;rw [ordB_w hw];kernel_rfl)|(intro _;rw [ordB_w0 hw0];kernel_rfl)|(intro _;kernel_rfl)) ?_;simp [List.zipIdx,enterS,idx,-getM,getM_hit,getM_miss,getM_none];(repeat (simp (disch:=first|omega|assumption|fail) only [if_pos,if_neg,wrap64];try simp [List.zipIdx,enterS,idx,-getM,getM_hit,getM_miss,getM_none]));try (repeat' (refine guardQ_split (fun h=>?_) (fun h=>?_)<;>simp at h<;>(simp [List.zipIdx,enterS,idx,-getM,getM_hit,getM_miss,getM_none];(repeat (simp (disch:=first|omega|assumption|fail) only [if_pos,if_neg,wrap64];try simp [List.zipIdx,enterS,idx,-getM,getM_hit,getM_miss,getM_none]))))))
 exact hEnd.out):G:=k ⟨h⟩
theorem eB {G G':Prop} (h:G') (k:Hold G'→G:=by
 intro hEnd
 first
  | (refine aw_block ?_)
  | (refine aw_skip ?_;simp only [thenQ,blockQ,if_true])
  | (refine aw_exit ?_;simp [thenQ,blockQ])
  | (refine aw_ret ?_;simp only [thenQ,blockQ])
  | (refine aw_round ?_)
 exact hEnd.out):G:=k ⟨h⟩
theorem eqLs:eqL [] []=some true∧(∀ k a xs k' b ys,eqL (.v (.int k a)::xs) (.v (.int k' b)::ys)=if k=k' then (eqL xs ys).map (decide (a=b)&&·) else none)∧∀ a xs b ys,eqL (.v (.bool a)::xs) (.v (.bool b)::ys)=(eqL xs ys).map ((a == b)&&·):=⟨rfl,fun _ _ _ _ _ _=>rfl,fun _ _ _ _=>rfl⟩
theorem sameKs:sameK [] []=true∧(∀ k z r k' x s,sameK (.int k z::r) (.v (.int k' x)::s)=(decide (k=k')&&sameK r s))∧∀ z r x s,sameK (.bool z::r) (.v (.bool x)::s)=sameK r s:=⟨rfl,fun _ _ _ _ _ _=>rfl,fun _ _ _ _=>rfl⟩
theorem dt {G:Prop} (h:G:=by first|omega|(refine decide_eq_decide.2 ?_;omega)|(refine decide_eq_false ?_;omega)|(refine decide_eq_true ?_;omega)):G:=h
theorem dle {G:Prop} (h:G:=by exact le_of2 (by simp) (by simp [AVle,AV.under,AV.underL]<;>omega) (by simp [AOle,AO.under,AV.underL,AV.under]<;>omega)):G:=h
end Go.AM
namespace Go.AM
open Go Go.Proofs
@[simp] theorem ty3:Types Tryz.prog 3=some ⟨.int .i64,1,8,[.int .i64 0]⟩:=by kernel_rfl
@[simp] theorem ty4:Types Tryz.prog 4=some ⟨.bool,1,1,[.bool false]⟩:=by kernel_rfl
@[simp] theorem tyU:Types Tryz.prog 76=some ⟨.int .u64,1,8,[.int .u64 0]⟩:=by kernel_rfl
@[simp] theorem tyE:Types Tryz.prog 103=some ⟨.struct [(0,3,1),(1,3,1),(2,4,1),(3,4,1),(4,4,1),(5,4,1)],6,24,[.int .i64 0,.int .i64 0,.bool false,.bool false,.bool false,.bool false]⟩:=by kernel_rfl
@[simp] theorem tyTab:Types Tryz.prog 63=some ⟨.struct [(0,3,1),(1,60,1),(2,61,1)],3,56,[.int .i64 0,.slice none 0 0,.slice none 0 0]⟩:=by kernel_rfl
@[simp] theorem tyNs:Types Tryz.prog 60=some ⟨.slice 150,1,24,[.slice none 0 0]⟩:=by kernel_rfl
@[simp] theorem tyDs:Types Tryz.prog 61=some ⟨.slice 170,1,24,[.slice none 0 0]⟩:=by kernel_rfl
@[simp] theorem tyN:Types Tryz.prog 150=some ⟨.struct [(0,3,1),(1,148,8)],9,72,.int .i64 0::List.replicate 8 (.int .u64 0)⟩:=by kernel_rfl
@[simp] theorem tyW8:Types Tryz.prog 148=some ⟨.array 8 76,8,64,List.replicate 8 (.int .u64 0)⟩:=by kernel_rfl
@[simp] theorem tyD:Types Tryz.prog 170=some ⟨.struct [(0,3,1),(1,3,1)],2,16,[.int .i64 0,.int .i64 0]⟩:=by kernel_rfl
@[simp] theorem tyIs:Types Tryz.prog 89=some ⟨.slice 3,1,24,[.slice none 0 0]⟩:=by kernel_rfl
@[simp] theorem tyBs:Types Tryz.prog 177=some ⟨.slice 4,1,24,[.slice none 0 0]⟩:=by kernel_rfl
@[simp] theorem tySt:Types Tryz.prog 173=some ⟨.struct [(0,3,1),(1,3,1),(2,76,1)],3,24,[.int .i64 0,.int .i64 0,.int .u64 0]⟩:=by kernel_rfl
theorem mixed:Tryz.prog.follows .mixedOrders=true:=by kernel_rfl
theorem und3:Tryz.prog.underlying 3=some (.int .i64):=by kernel_rfl
end Go.AM
namespace Go.AM
open Go Go.Proofs
set_option maxRecDepth 20000
noncomputable def FitV (t:TypeId):Value→Prop
 | .int q _=>Tryz.prog.underlying t=some (.int q)
 | .bool _=>Tryz.prog.underlying t=some .bool
 | _=>False
noncomputable def fitB (t:TypeId):Value→Bool
 | .int q _=>match Tryz.prog.underlying t with
  | some (.int q')=>decide (q'=q)
  | _=>false
 | .bool _=>match Tryz.prog.underlying t with
  | some .bool=>true
  | _=>false
 | _=>false
theorem fitB_ok {t:TypeId} {v:Value} (h:fitB t v=true):FitV t v:=by
 cases v<;>simp only [fitB,Bool.false_eq_true] at h
 all_goals (split at h<;>simp only [Bool.false_eq_true,decide_eq_true_eq] at h)
 ·assumption
 ·subst h;assumption
noncomputable def plB:List Field→Nat→List Value→Bool
 | [],_,[]=>true
 | f :: fs, k, z :: Z => (f.name != "_" && decide (f.offset = k) && Tryz.prog.plainKey f.type && fitB f.type z) && plB fs (k + 1) Z
 | _,_,_=>false
noncomputable def PlF:List Field→Nat→List Value→Prop
 | [],_,[]=>True
 | f :: fs, k, z :: Z => (f.name ≠ "_" ∧ f.offset = k ∧ Tryz.prog.plainKey f.type = true ∧ FitV f.type z) ∧ PlF fs (k + 1) Z
 | _,_,_=>False
theorem plB_ok:∀ {fs:List Field} {k:Nat} {Z:List Value},plB fs k Z=true→PlF fs k Z
 | [],_,[],_=>trivial
 | f::fs,k,z::Z,h=>by
  simp only [plB,Bool.and_eq_true,bne_iff_ne,decide_eq_true_eq] at h
  obtain ⟨⟨⟨⟨h1,h2⟩,h3⟩,h4⟩,h5⟩:=h
  exact ⟨⟨h1,h2,h3,fitB_ok h4⟩,plB_ok h5⟩
 | [],_,_::_,h=>by simp [plB] at h
 | _::_,_,[],h=>by simp [plB] at h
theorem eqG (w:World):∀ {Z:List Value} {fs:List Field} {k:Nat},PlF fs k Z→∀ {px py xs ys:List Value} {b:Bool},px.length=k→py.length=k→sameKV Z xs=true→eqV xs ys=some b →
  (Op.eqFields 9999 (px++xs).toArray (py++ys).toArray fs).run Tryz.prog w=.ok b w
 | [],[],k,_,px,py,xs,ys,b,_,_,hs,he=>by
  cases xs with
  | nil =>
   cases ys with
   | nil=>simp [eqV] at he;subst he;rfl
   | cons y ys=>simp [eqV] at he
  | cons x xs=>simp [sameKV] at hs
 | z::Z,f::fs,k,h,px,py,xs,ys,b,hp,hq,hs,he=>by
  simp only [PlF] at h
  obtain ⟨⟨n1,o1,p1,t1⟩,h⟩:=h
  cases xs with
  | nil=>cases z<;>simp [sameKV] at hs
  | cons x xs =>
   cases ys with
   | nil=>cases x<;>simp [eqV] at he
   | cons y ys =>
    have hx:(px++x::xs).toArray[k]?=some x:=by simp [← hp]
    have hy:(py++y::ys).toArray[k]?=some y:=by simp [← hq]
    have ex:px++x::xs=(px++[x])++xs:=by simp
    have ey:py++y::ys=(py++[y])++ys:=by simp
    simp only [Op.eqFields]
    rw [if_pos n1,o1]
    simp only [Sem.run_bind]
    rw [run_part_plain w p1 hx]
    simp only [Result.andThen_ok]
    rw [run_part_plain w p1 hy]
    simp only [Result.andThen_ok]
    cases z<;>simp only [FitV] at t1<;>cases x<;>simp only [sameKV,Bool.and_eq_true,decide_eq_true_eq,Bool.false_eq_true] at hs<;>cases y<;>simp only [eqV,reduceCtorEq] at he
    ·rename_i b1 b2 b3
     cases hr:eqV xs ys with
     | none=>simp [hr] at he
     | some r =>
      simp only [hr,Option.map_some,Option.some.injEq] at he
      have ih:=eqG w h (px:=px++[.bool b2]) (py:=py++[.bool b3]) (by simp [hp]) (by simp [hq]) hs hr
      rw [← ex,← ey] at ih
      rw [run_equalIn_bool' w _ f.type _ _ t1]
      simp only [Result.andThen_ok]
      by_cases e:(b2 == b3)=true
      ·simp only [e,Bool.not_true,Bool.false_eq_true,if_false,ih,Bool.true_and] at he ⊢
       rw [he]
      ·simp only [Bool.not_eq_true] at e
       simp only [e,Bool.false_and] at he ⊢
       simp [← he]
    ·rename_i q0 n0 q1 n1' q2 n2
     split at he
     case isFalse=>simp at he
     rename_i hk
     subst hk
     obtain ⟨rfl,hs⟩:=hs
     cases hr:eqV xs ys with
     | none=>simp [hr] at he
     | some r =>
      simp only [hr,Option.map_some,Option.some.injEq] at he
      have ih:=eqG w h (px:=px++[.int q0 n1']) (py:=py++[.int q0 n2]) (by simp [hp]) (by simp [hq]) hs hr
      rw [← ex,← ey] at ih
      rw [run_equalIn_int w _ f.type q0 q0 _ _ t1]
      simp only [Result.andThen_ok]
      by_cases e:n1'=n2
      ·subst e
       simp only [beq_self_eq_true,Bool.not_true,Bool.false_eq_true,if_false,ih,decide_true,Bool.true_and] at he ⊢
       rw [he]
      ·have hb:(n1' == n2)=false:=by simpa using e
       simp only [hb,Bool.not_false,if_true,Sem.run_pure]
       simp only [e,decide_false,Bool.false_and] at he
       rw [← he]
 | [],_::_,_,h,_,_,_,_,_,_,_,_,_=>by simp [PlF] at h
 | _::_,[],_,h,_,_,_,_,_,_,_,_,_=>by simp [PlF] at h
theorem ckP {w:World} {t:TypeId} {v:Value} {b:Bool} {d:Nat} (h:Tryz.prog.plainKey t=true) (hv:FitV t v):(Instr.checkKey b (d+1) t v).run Tryz.prog w=.ok () w:=by
 cases v<;>simp only [FitV] at hv<;>(rw [Instr.checkKey];simp [run_underlying hv])
theorem ckG (w:World) (em:Bool) (d:Nat):∀ {Z:List Value} {fs:List Field} {k:Nat},PlF fs k Z→∀ {px xs:List Value},px.length=k→sameKV Z xs=true →
  (forIn fs PUnit.unit fun f (_ : PUnit) => (if f.name ≠ "_" then do
    let a ← part f.type (px++xs).toArray f.offset
    Instr.checkKey em (d+1) f.type a
    pure (ForInStep.yield PUnit.unit)
   else pure (ForInStep.yield PUnit.unit):Sem (ForInStep PUnit))).run Tryz.prog w=.ok PUnit.unit w
 | [],[],k,_,px,xs,_,_=>rfl
 | z::Z,f::fs,k,h,px,xs,hp,hs=>by
  simp only [PlF] at h
  obtain ⟨⟨n1,o1,p1,t1⟩,h⟩:=h
  cases xs with
  | nil=>cases z<;>simp [sameKV] at hs
  | cons x xs =>
   have hx:(px++x::xs).toArray[k]?=some x:=by simp [← hp]
   have ex:px++x::xs=(px++[x])++xs:=by simp
   have key:sameKV Z xs=true∧FitV f.type x:=by
    clear hx ex
    cases z<;>simp only [FitV] at t1<;>cases x<;>simp only [sameKV,Bool.and_eq_true,decide_eq_true_eq,Bool.false_eq_true] at hs
    ·exact ⟨hs,t1⟩
    ·obtain ⟨rfl,hs⟩:=hs
     exact ⟨hs,t1⟩
   have ih:=ckG w em d h (px:=px++[x]) (xs:=xs) (by simp [hp]) key.1
   rw [← ex] at ih
   simp only [List.forIn_cons,Sem.run_bind]
   rw [if_pos n1,o1]
   simp only [Sem.run_bind]
   rw [run_part_plain w p1 hx]
   simp only [Result.andThen_ok,ckP p1 key.2,Sem.run_pure]
   exact ih
 | [],_::_,_,h,_,_,_,_=>by simp [PlF] at h
 | _::_,[],_,h,_,_,_,_=>by simp [PlF] at h
theorem eqok_plain {t:TypeId} (hu:Tryz.prog.underlying t=some (.struct (Tryz.prog.fieldsOf t))) (hf:∀ d,Types Tryz.prog t=some d→PlF (Tryz.prog.fieldsOf t).toList 0 d.zero) (hp:Tryz.prog.stoodInHeld t=false) (hg:Tryz.prog.eqGuardType Tryz.prog.depth t=false):EqOK Tryz.prog t:=by
 intro d hd
 refine ⟨fun w xs b hk=>?_,fun w xs ys b hk he=>⟨?_,hg⟩⟩
 ·rw [show (10000:Nat)=9998+1+1 from rfl,Instr.checkKey]
  simp only [Sem.run_bind,run_underlying hu,Result.andThen_ok]
  rw [← Array.forIn_toList]
  have:=ckG w b 9998 (hf d hd) (px:=[]) rfl hk
  rw [List.nil_append] at this
  rw [this]
  rfl
 ·unfold Op.equal
  rw [show Op.maxDepth=9999+1 from rfl,run_equalIn_agg w _ t _ _ hu hp]
  have:=eqG w (hf d hd) (px:=[]) (py:=[]) rfl rfl hk he
  simpa using this
theorem eqE:EqOK Tryz.prog 103:=eqok_plain (by kernel_rfl) (fun d hd=>by
 rw [tyE,Option.some.injEq] at hd
 subst hd
 exact plB_ok (by kernel_rfl)) (by kernel_rfl) (by kernel_rfl)
theorem eqD:EqOK Tryz.prog 170:=eqok_plain (by kernel_rfl) (fun d hd=>by
 rw [tyD,Option.some.injEq] at hd
 subst hd
 exact plB_ok (by kernel_rfl)) (by kernel_rfl) (by kernel_rfl)
theorem eqPE:EqOK Tryz.prog 86:=eqok_plain (by kernel_rfl) (fun d hd=>by
 have h:Types Tryz.prog 86=some ⟨.struct [(0,3,1),(1,76,1)],2,16,[.int .i64 0,.int .u64 0]⟩:=by kernel_rfl
 rw [h,Option.some.injEq] at hd
 subst hd
 exact plB_ok (by kernel_rfl)) (by kernel_rfl) (by kernel_rfl)
end Go.AM
set_option maxHeartbeats 1000000
namespace Go.AM
open Go Go.Proofs
abbrev En:=Int×Int×Bool×Bool×Bool×Bool
def EnV (e:En):AV:=.agg [I e.1,I e.2.1,B e.2.2.1,B e.2.2.2.1,B e.2.2.2.2.1,B e.2.2.2.2.2]
def U (n:Int):AV:=.v (.int .u64 n)
theorem EnV_inj {a b:En}:EnV a=EnV b↔a=b:=by
 obtain ⟨a1,a2,a3,a4,a5,a6⟩:=a
 obtain ⟨b1,b2,b3,b4,b5,b6⟩:=b
 simp [EnV,I,B]
def noFl (e:En):Bool:=!e.2.2.1&&(!e.2.2.2.1&&(!e.2.2.2.2.1&&!e.2.2.2.2.2))
def frmE (e:En):Bool :=
 if e.1=1 then true
 else if e.1=3 then !e.2.2.2.1&&(!e.2.2.2.2.1&&!e.2.2.2.2.2)
 else if e.1=0 then decide (e.2.1=0)&&noFl e
 else if e.1=2∨e.1=4 then noFl e else false
def wT (f:FuncId):Bool:=Nat.beq f 116||Nat.beq f 123||Nat.beq f 186||Nat.beq f 129||Nat.beq f 130||Nat.beq f 135||Nat.beq f 138||Nat.beq f 149||Nat.beq f 147||Nat.beq f 214||Nat.beq f 125||Nat.beq f 153||Nat.beq f 140||Nat.beq f 192||Nat.beq f 190||Nat.beq f 60||Nat.beq f 189||Nat.beq f 191||Nat.beq f 188||Nat.beq f 141||Nat.beq f 193||Nat.beq f 148||Nat.beq f 136||Nat.beq f 144||Nat.beq f 146||Nat.beq f 183||Nat.beq f 210||Nat.beq f 208||Nat.beq f 999999||Nat.beq f 999999||Nat.beq f 70||Nat.beq f 71||Nat.beq f 72||Nat.beq f 155||Nat.beq f 16||Nat.beq f 74||Nat.beq f 75||Nat.beq f 24||Nat.beq f 203||Nat.beq f 205||Nat.beq f 999999||Nat.beq f 999999||Nat.beq f 84||Nat.beq f 88||Nat.beq f 85||Nat.beq f 82
def fb (b:Bool) (n:Int):Int:=if b then n else 0
theorem s196 (X:AX) (hX:XOK Tryz.prog X):PSound Tryz.prog 196 (specF (ι:=Bool×Int) (fun x=>[B x.1,U x.2]) fun x=>retOf [U (fb x.1 x.2)]):=by
 refine psound_spec hX mixed Tryz.func196 rfl fun ⟨b,n⟩ w0 G=>⟨by show 2≤7;decide,rfl,?_⟩
 show AW ⟨Tryz.prog,X,7,w0,.pure G⟩ _ _ _
 have hc:Cx.OK ⟨Tryz.prog,X,7,w0,.pure G⟩:=⟨hX,mixed⟩
 unfold U
 cases b
 ·refine dM8o ?_
  repeat (intro K hK)
  refine ⟨by simp,?_⟩
  simp [leaves_iff,Tryz.f196,fb]
  try exact dt
 ·refine dM8o ?_
  repeat (intro K hK)
  refine ⟨by simp,?_⟩
  simp [leaves_iff,Tryz.f196,fb]
  try exact dt
theorem s217 (X:AX) (hX:XOK Tryz.prog X):PSound Tryz.prog 217 (specF (ι:=Bool×Int) (fun x=>[B x.1,U x.2]) fun x=>retOf [U (fb x.1 x.2)]):=by
 refine psound_spec hX mixed Tryz.func217 rfl fun ⟨b,n⟩ w0 G=>⟨by show 2≤7;decide,rfl,?_⟩
 show AW ⟨Tryz.prog,X,7,w0,.pure G⟩ _ _ _
 have hc:Cx.OK ⟨Tryz.prog,X,7,w0,.pure G⟩:=⟨hX,mixed⟩
 unfold U
 cases b
 ·refine dM8o ?_
  repeat (intro K hK)
  refine ⟨by simp,?_⟩
  simp [leaves_iff,Tryz.f217,fb]
  try exact dt
 ·refine dM8o ?_
  repeat (intro K hK)
  refine ⟨by simp,?_⟩
  simp [leaves_iff,Tryz.f217,fb]
  try exact dt
theorem s195 (X:AX) (hX:XOK Tryz.prog X) (hw:X.W wT) (he:X.eqs 103=true):PSound Tryz.prog 195 (specF (ι:={e:En // 0≤e.1∧e.1≤4}) (fun x=>[EnV x.1]) fun x=>retOf [B (frmE x.1)]):=by
 refine psound_spec hX mixed Tryz.func195 rfl fun ⟨⟨k,f,d,a,x,h⟩,hk1,hk2⟩ w0 G=>⟨by show 1≤32;decide,rfl,?_⟩
 show AW ⟨Tryz.prog,X,32,w0,.pure G⟩ _ _ _
 have hc:Cx.OK ⟨Tryz.prog,X,32,w0,.pure G⟩:=⟨hX,mixed⟩
 simp only at hk1 hk2
 unfold EnV
 simp only
 have hk:k=0∨k=1∨k=2∨k=3∨k=4:=by omega
 rcases hk with rfl|rfl|rfl|rfl|rfl
 ·have zS:=jj he<|jj eqLs<|sameKs
  refine dM8 ?_
  repeat (intro K hK)
  clear zS
  refine ⟨by simp,?_⟩
  simp [leaves_iff,Tryz.f195,frmE,noFl]
  try exact dt
 ·have zS:=jj he<|jj eqLs<|sameKs
  refine dM8 ?_
  repeat (intro K hK)
  clear zS
  refine ⟨by simp,?_⟩
  simp [leaves_iff,Tryz.f195,frmE,noFl]
  try exact dt
 ·have zS:=jj he<|jj eqLs<|sameKs
  refine dM8 ?_
  repeat (intro K hK)
  clear zS
  refine ⟨by simp,?_⟩
  simp [leaves_iff,Tryz.f195,frmE,noFl]
  try exact dt
 ·have zS:=jj he<|jj eqLs<|sameKs
  refine dM8 ?_
  repeat (intro K hK)
  clear zS
  refine ⟨by simp,?_⟩
  simp [leaves_iff,Tryz.f195,frmE,noFl]
  try exact dt
 ·have zS:=jj he<|jj eqLs<|sameKs
  refine dM8 ?_
  repeat (intro K hK)
  clear zS
  refine ⟨by simp,?_⟩
  simp [leaves_iff,Tryz.f195,frmE,noFl]
  try exact dt
theorem s216 (X:AX) (hX:XOK Tryz.prog X) (hw:X.W wT) (he:X.eqs 103=true):PSound Tryz.prog 216 (specF (ι:={e:En // 0≤e.1∧e.1≤4}) (fun x=>[EnV x.1]) fun x=>retOf [B (frmE x.1)]):=by
 refine psound_spec hX mixed Tryz.func216 rfl fun ⟨⟨k,f,d,a,x,h⟩,hk1,hk2⟩ w0 G=>⟨by show 1≤45;decide,rfl,?_⟩
 show AW ⟨Tryz.prog,X,45,w0,.pure G⟩ _ _ _
 have hc:Cx.OK ⟨Tryz.prog,X,45,w0,.pure G⟩:=⟨hX,mixed⟩
 simp only at hk1 hk2
 unfold EnV
 simp only
 have hk:k=0∨k=1∨k=2∨k=3∨k=4:=by omega
 rcases hk with rfl|rfl|rfl|rfl|rfl
 ·have zS:=jj he<|jj eqLs<|sameKs
  refine dM8 ?_
  repeat (intro K hK)
  clear zS
  refine ⟨by simp,?_⟩
  simp [leaves_iff,Tryz.f216,frmE,noFl]
  try exact dt
 ·repeat' (first|(apply aw_seq_k;intro K hK)|(refine aw_run hc (by first|exact aw_nod|(intro _;rw [ordB_w hw];kernel_rfl)|(intro _;rw [ordB_w0 hw0];kernel_rfl)|(intro _;kernel_rfl)) ?_;simp [List.zipIdx,he,eqL,sameK,-getM,getM_hit,getM_miss,getM_none];(repeat (simp (disch:=first|omega|assumption|fail) only [if_pos,if_neg,wrap8];try simp [List.zipIdx,he,eqL,sameK,-getM,getM_hit,getM_miss,getM_none]));try (repeat' (refine guardQ_split (fun h=>?_) (fun h=>?_)<;>simp at h<;>(simp [List.zipIdx,he,eqL,sameK,-getM,getM_hit,getM_miss,getM_none];(repeat (simp (disch:=first|omega|assumption|fail) only [if_pos,if_neg,wrap8];try simp [List.zipIdx,he,eqL,sameK,-getM,getM_hit,getM_miss,getM_none]))))))|(refine aw_cond (b:=_) (by exact rfl) (fun h=>?_) (fun h=>?_)<;>(try simp at h))|(refine aw_block ?_)|(refine aw_skip ?_;simp only [thenQ,blockQ,if_true])|(refine aw_exit ?_;simp [thenQ,blockQ])|(refine aw_ret ?_;simp only [thenQ,blockQ])|(refine aw_round ?_)|(refine hK _ ?_;clear hK)|(clear hK;refine hK _ ?_;clear hK)|(clear hK;clear hK;refine hK _ ?_;clear hK)|(clear hK;clear hK;clear hK;refine hK _ ?_;clear hK))
  refine ⟨by simp,?_⟩
  simp [leaves_iff,Tryz.f216,frmE,noFl]
  try exact dt
 ·repeat' (first|(apply aw_seq_k;intro K hK)|(refine aw_run hc (by first|exact aw_nod|(intro _;rw [ordB_w hw];kernel_rfl)|(intro _;rw [ordB_w0 hw0];kernel_rfl)|(intro _;kernel_rfl)) ?_;simp [List.zipIdx,he,eqL,sameK,-getM,getM_hit,getM_miss,getM_none];(repeat (simp (disch:=first|omega|assumption|fail) only [if_pos,if_neg,wrap8];try simp [List.zipIdx,he,eqL,sameK,-getM,getM_hit,getM_miss,getM_none]));try (repeat' (refine guardQ_split (fun h=>?_) (fun h=>?_)<;>simp at h<;>(simp [List.zipIdx,he,eqL,sameK,-getM,getM_hit,getM_miss,getM_none];(repeat (simp (disch:=first|omega|assumption|fail) only [if_pos,if_neg,wrap8];try simp [List.zipIdx,he,eqL,sameK,-getM,getM_hit,getM_miss,getM_none]))))))|(refine aw_cond (b:=_) (by exact rfl) (fun h=>?_) (fun h=>?_)<;>(try simp at h))|(refine aw_block ?_)|(refine aw_skip ?_;simp only [thenQ,blockQ,if_true])|(refine aw_exit ?_;simp [thenQ,blockQ])|(refine aw_ret ?_;simp only [thenQ,blockQ])|(refine aw_round ?_)|(refine hK _ ?_;clear hK)|(clear hK;refine hK _ ?_;clear hK)|(clear hK;clear hK;refine hK _ ?_;clear hK)|(clear hK;clear hK;clear hK;refine hK _ ?_;clear hK))
  all_goals (refine ⟨by simp,?_⟩;simp_all [leaves_iff,frmE,noFl])
 ·repeat' (first|(apply aw_seq_k;intro K hK)|(refine aw_run hc (by first|exact aw_nod|(intro _;rw [ordB_w hw];kernel_rfl)|(intro _;rw [ordB_w0 hw0];kernel_rfl)|(intro _;kernel_rfl)) ?_;simp [List.zipIdx,he,eqL,sameK,-getM,getM_hit,getM_miss,getM_none];(repeat (simp (disch:=first|omega|assumption|fail) only [if_pos,if_neg,wrap8];try simp [List.zipIdx,he,eqL,sameK,-getM,getM_hit,getM_miss,getM_none]));try (repeat' (refine guardQ_split (fun h=>?_) (fun h=>?_)<;>simp at h<;>(simp [List.zipIdx,he,eqL,sameK,-getM,getM_hit,getM_miss,getM_none];(repeat (simp (disch:=first|omega|assumption|fail) only [if_pos,if_neg,wrap8];try simp [List.zipIdx,he,eqL,sameK,-getM,getM_hit,getM_miss,getM_none]))))))|(refine aw_cond (b:=_) (by exact rfl) (fun h=>?_) (fun h=>?_)<;>(try simp at h))|(refine aw_block ?_)|(refine aw_skip ?_;simp only [thenQ,blockQ,if_true])|(refine aw_exit ?_;simp [thenQ,blockQ])|(refine aw_ret ?_;simp only [thenQ,blockQ])|(refine aw_round ?_)|(refine hK _ ?_;clear hK)|(clear hK;refine hK _ ?_;clear hK)|(clear hK;clear hK;refine hK _ ?_;clear hK)|(clear hK;clear hK;clear hK;refine hK _ ?_;clear hK))
  all_goals (refine ⟨by simp,?_⟩;simp_all [leaves_iff,frmE,noFl])
 ·repeat' (first|(apply aw_seq_k;intro K hK)|(refine aw_run hc (by first|exact aw_nod|(intro _;rw [ordB_w hw];kernel_rfl)|(intro _;rw [ordB_w0 hw0];kernel_rfl)|(intro _;kernel_rfl)) ?_;simp [List.zipIdx,he,eqL,sameK,-getM,getM_hit,getM_miss,getM_none];(repeat (simp (disch:=first|omega|assumption|fail) only [if_pos,if_neg,wrap8];try simp [List.zipIdx,he,eqL,sameK,-getM,getM_hit,getM_miss,getM_none]));try (repeat' (refine guardQ_split (fun h=>?_) (fun h=>?_)<;>simp at h<;>(simp [List.zipIdx,he,eqL,sameK,-getM,getM_hit,getM_miss,getM_none];(repeat (simp (disch:=first|omega|assumption|fail) only [if_pos,if_neg,wrap8];try simp [List.zipIdx,he,eqL,sameK,-getM,getM_hit,getM_miss,getM_none]))))))|(refine aw_cond (b:=_) (by exact rfl) (fun h=>?_) (fun h=>?_)<;>(try simp at h))|(refine aw_block ?_)|(refine aw_skip ?_;simp only [thenQ,blockQ,if_true])|(refine aw_exit ?_;simp [thenQ,blockQ])|(refine aw_ret ?_;simp only [thenQ,blockQ])|(refine aw_round ?_)|(refine hK _ ?_;clear hK)|(clear hK;refine hK _ ?_;clear hK)|(clear hK;clear hK;refine hK _ ?_;clear hK)|(clear hK;clear hK;clear hK;refine hK _ ?_;clear hK))
  all_goals (refine ⟨by simp,?_⟩;simp_all [leaves_iff,frmE,noFl])
end Go.AM
namespace Go.AM
open Go
theorem wrapU {n:Nat} (h:n<2^64):IntKind.u64.wrap (n:Int)=n:=by
 have:(2:Nat)^64=18446744073709551616:=by decide
 simp [IntKind.wrap,IntKind.signed,IntKind.bits]
 omega
theorem toNat_u {n:Nat} (h:n<2^64):(BitVec.ofInt 64 (n:Int)).toNat=n:=by
 rw [BitVec.toNat_ofInt]
 omega
theorem bitI_or {x y j:Nat} (hx:x<2^j) (h:x+y*2^j<2^64):bitI .or .u64 (x:Int) ((y*2^j:Nat):Int)=((x+y*2^j:Nat):Int):=by
 unfold bitI
 have e:(BitVec.ofInt 64 (x:Int) ||| BitVec.ofInt 64 ((y*2^j:Nat):Int)).toNat=x+y*2^j:=by
  rw [BitVec.toNat_or,toNat_u (by omega),toNat_u (by omega)]
  have:=Nat.shiftLeft_add_eq_or_of_lt hx y
  rw [Nat.shiftLeft_eq] at this
  rw [Nat.or_comm,← this,Nat.add_comm]
 show IntKind.u64.wrap (((BitVec.ofInt 64 (x:Int) ||| BitVec.ofInt 64 ((y*2^j:Nat):Int)).toNat:Nat):Int)=_
 rw [e]
 exact wrapU h
theorem bitI_and {x y:Nat} (hx:x<2^64) (hy:y<2^64):bitI .and .u64 (x:Int) (y:Int)=((x &&& y:Nat):Int):=by
 unfold bitI
 show IntKind.u64.wrap (((BitVec.ofInt 64 (x:Int) &&& BitVec.ofInt 64 (y:Int)).toNat:Nat):Int)=_
 rw [BitVec.toNat_and,toNat_u hx,toNat_u hy]
 exact wrapU (Nat.lt_of_le_of_lt Nat.and_le_left hx)
theorem and_mask (x j:Nat):x &&& (2^j - 1)=x%2^j:=Nat.and_two_pow_sub_one_eq_mod x j
theorem and_bit (x j:Nat):x &&& 2^j=if x.testBit j then 2^j else 0:=by
 refine Nat.eq_of_testBit_eq fun i=>?_
 rw [Nat.testBit_and,Nat.testBit_two_pow]
 by_cases h:j=i
 ·subst h
  cases hx:x.testBit j<;>simp [Nat.testBit_two_pow]
 ·have:¬ i=j:=fun e=>h e.symm
  cases hx:x.testBit j<;>simp [Nat.testBit_two_pow,h]
end Go.AM
namespace Go.AM
open Go Go.Proofs
theorem fb_rng (b:Bool) {n:Int} (h:0≤n):0≤fb b n∧fb b n≤n:=by
 unfold fb;cases b<;>simp<;>omega
theorem or_fb {x:Int} (b:Bool) {j:Nat} (h0:0≤x) (h1:x<2^j) (h2:j<63):bitI .or .u64 x (fb b (2^j))=x+fb b (2^j):=by
 obtain ⟨n,rfl⟩:∃ n:Nat,x=n:=⟨x.toNat,by omega⟩
 have hn:n<2^j:=by exact_mod_cast h1
 have hp:2^j≤2^62:=Nat.pow_le_pow_right (by omega) (by omega)
 have h62:(2:Nat)^62=4611686018427387904:=by decide
 have h64:(2:Nat)^64=18446744073709551616:=by decide
 have:=bitI_or (x:=n) (y:=if b then 1 else 0) (j:=j) hn (by cases b<;>simp<;>omega)
 unfold fb
 cases b
 ·simpa using this
 ·simpa using this
theorem or8 {x:Int} (b:Bool) (h0:0≤x) (h1:x<8):bitI .or .u64 x (fb b 8)=x+fb b 8:=or_fb b (j:=3) h0 h1 (by omega)
theorem or16 {x:Int} (b:Bool) (h0:0≤x) (h1:x<16):bitI .or .u64 x (fb b 16)=x+fb b 16:=or_fb b (j:=4) h0 h1 (by omega)
theorem or32 {x:Int} (b:Bool) (h0:0≤x) (h1:x<32):bitI .or .u64 x (fb b 32)=x+fb b 32:=or_fb b (j:=5) h0 h1 (by omega)
theorem or64 {x:Int} (b:Bool) (h0:0≤x) (h1:x<64):bitI .or .u64 x (fb b 64)=x+fb b 64:=or_fb b (j:=6) h0 h1 (by omega)
theorem or_top {x f:Int} (h0:0≤x) (h1:x<256) (h2:0≤f) (h3:f≤4294967295):bitI .or .u64 x (f*256)=x+f*256:=by
 obtain ⟨n,rfl⟩:∃ n:Nat,x=n:=⟨x.toNat,by omega⟩
 obtain ⟨m,rfl⟩:∃ m:Nat,f=m:=⟨f.toNat,by omega⟩
 have h64:(2:Nat)^64=18446744073709551616:=by decide
 have:=bitI_or (x:=n) (y:=m) (j:=8) (by omega) (by omega)
 simpa using this
def encW (e:En):Int:=e.1+fb e.2.2.1 8+fb e.2.2.2.1 16+fb e.2.2.2.2.1 32+fb e.2.2.2.2.2 64+e.2.1*256
def badF (e:En):Prop:=e.2.1<0∨4294967295<e.2.1∨e.1=1∧e.2.2.2.2.2=true∧4294967288<e.2.1
instance (e:En):Decidable (badF e):=by unfold badF;infer_instance
def encR (e:En):Int×Int:=if 0≤e.1∧e.1≤4 then (if badF e then (0,2) else if frmE e=true then (encW e,0) else (0,3)) else (0,1)
theorem encR_k {e:En} (h:¬ (0≤e.1∧e.1≤4)):encR e=(0,1):=by unfold encR;rw [if_neg h]
theorem encR_f {e:En} (h:0≤e.1∧e.1≤4) (h2:badF e):encR e=(0,2):=by unfold encR;rw [if_pos h,if_pos h2]
theorem encR_m {e:En} (h:0≤e.1∧e.1≤4) (h2:¬ badF e) (h3:frmE e=false):encR e=(0,3):=by unfold encR;rw [if_pos h,if_neg h2,h3];rfl
theorem encR_z {e:En} (h:0≤e.1∧e.1≤4) (h2:¬ badF e) (h3:frmE e=true):encR e=(encW e,0):=by unfold encR;rw [if_pos h,if_neg h2,if_pos h3]
theorem encSteps {k f:Int} {d a x h:Bool} (hk:0≤k∧k≤4) (hf:0≤f∧f≤4294967295):∃ w1 w2 w3 w4:Int,bitI .or .u64 k (fb d 8)=w1∧bitI .or .u64 w1 (fb a 16)=w2∧bitI .or .u64 w2 (fb x 32)=w3∧bitI .or .u64 w3 (fb h 64)=w4∧bitI .or .u64 w4 (f*256)=encW (k,f,d,a,x,h):=by
 have r1:=fb_rng d (n:=8) (by omega)
 have r2:=fb_rng a (n:=16) (by omega)
 have r3:=fb_rng x (n:=32) (by omega)
 have r4:=fb_rng h (n:=64) (by omega)
 refine ⟨_,_,_,_,or8 d (by omega) (by omega),or16 a (by omega) (by omega),or32 x (by omega) (by omega),or64 h (by omega) (by omega),?_⟩
 rw [or_top (by omega) (by omega) hf.1 hf.2]
 rfl
theorem wrapF {f:Int} (hf:0≤f∧f≤4294967295):IntKind.u64.wrap f=f∧IntKind.u64.wrap (f*256)=f*256:=by
 constructor
 ·exact wrapU64 ⟨by omega,by omega⟩
 ·exact wrapU64 ⟨by omega,by omega⟩
theorem encAll {k f:Int} {d a x h:Bool} (hk:0≤k∧k≤4) (hf:0≤f∧f≤4294967295) :
  bitI .or .u64 (bitI .or .u64 (bitI .or .u64 (bitI .or .u64 (bitI .or .u64 (IntKind.u64.wrap k) (fb d 8)) (fb a 16)) (fb x 32)) (fb h 64)) (IntKind.u64.wrap (IntKind.u64.wrap f*2^min 8 IntKind.u64.bits))=encW (k,f,d,a,x,h):=by
 obtain ⟨w1,w2,w3,w4,v1,v2,v3,v4,v5⟩:=encSteps (d:=d) (a:=a) (x:=x) (h:=h) hk hf
 have e1:f*2^min 8 IntKind.u64.bits=f*256:=by simp [IntKind.bits]
 have e2:IntKind.u64.wrap k=k:=wrapU64 ⟨by omega,by omega⟩
 rw [(wrapF hf).1,e1,e2,(wrapF hf).2,v1,v2,v3,v4,v5]
set_option maxHeartbeats 2000000 in
theorem s143 (X:AX) (hX:XOK Tryz.prog X) (hw:X.W wT) (hfo:∀ k f d a x h,0≤k∧k≤4→∀ M n,X.call 195 [.agg [I k,I f,B d,B a,B x,B h]] M n=some (B (frmE (k,f,d,a,x,h)),[]))
  (hfl:∀ b c M n,X.call 196 [B b,.v (.int .u64 c)] M n=some (.v (.int .u64 (fb b c)),[])):PSound Tryz.prog 143 (specF (ι:=En) (fun x=>[EnV x]) fun x=>retOf [U (encR x).1,I (encR x).2]):=by
 refine psound_spec hX mixed Tryz.func143 rfl fun ⟨k,f,d,a,x,h⟩ w0 G=>⟨by show 1≤63;decide,rfl,?_⟩
 show AW ⟨Tryz.prog,X,63,w0,.pure G⟩ _ _ _
 have hc:Cx.OK ⟨Tryz.prog,X,63,w0,.pure G⟩:=⟨hX,mixed⟩
 unfold EnV U
 simp only
 rcases Decidable.em (0≤k∧k≤4) with hk|hk
 ·have hfo':=hfo k f d a x h hk
  rcases Decidable.em (badF (k,f,d,a,x,h)) with hb|hb
  ·rw [encR_f hk hb]
   unfold badF at hb
   simp only at hb
   rcases (by omega:k=0∨k=1∨k=2∨k=3∨k=4) with rfl|rfl|rfl|rfl|rfl
   ·rcases Decidable.em (f<0) with g1|g1
    ·have zS:=g1
     refine dM8 ?_
     repeat (intro K hK)
     clear zS
     refine ⟨by simp,?_⟩
     simp [leaves_iff,Tryz.f143]
     try exact dt
    ·have g2:4294967295<f:=by
      rcases hb with hb|hb|hb
      ·exact absurd hb g1
      ·exact hb
      ·exact absurd hb.1 (by omega)
     have zS:=jj g1<|g2
     refine dM8 ?_
     repeat (intro K hK)
     clear zS
     refine ⟨by simp,?_⟩
     simp [leaves_iff,Tryz.f143]
     try exact dt
   ·rcases Decidable.em (f<0) with g1|g1
    ·have zS:=g1
     refine dM8 ?_
     repeat (intro K hK)
     clear zS
     refine ⟨by simp,?_⟩
     simp [leaves_iff,Tryz.f143]
     try exact dt
    ·rcases Decidable.em (4294967295<f) with g2|g2
     ·have zS:=jj g1<|g2
      refine dM8 ?_
      repeat (intro K hK)
      clear zS
      refine ⟨by simp,?_⟩
      simp [leaves_iff,Tryz.f143]
      try exact dt
     ·have g3:h=true∧4294967288<f:=by
       rcases hb with hb|hb|hb
       ·exact absurd hb g1
       ·exact absurd hb g2
       ·exact hb.2
      obtain ⟨rfl,g3⟩:=g3
      have zS:=jj g1<|jj g2<|g3
      refine dM8 ?_
      repeat (intro K hK)
      clear zS
      refine ⟨by simp,?_⟩
      simp [leaves_iff,Tryz.f143]
      try exact dt
   ·rcases Decidable.em (f<0) with g1|g1
    ·have zS:=g1
     refine dM8 ?_
     repeat (intro K hK)
     clear zS
     refine ⟨by simp,?_⟩
     simp [leaves_iff,Tryz.f143]
     try exact dt
    ·have g2:4294967295<f:=by
      rcases hb with hb|hb|hb
      ·exact absurd hb g1
      ·exact hb
      ·exact absurd hb.1 (by omega)
     have zS:=jj g1<|g2
     refine dM8 ?_
     repeat (intro K hK)
     clear zS
     refine ⟨by simp,?_⟩
     simp [leaves_iff,Tryz.f143]
     try exact dt
   ·rcases Decidable.em (f<0) with g1|g1
    ·have zS:=g1
     refine dM8 ?_
     repeat (intro K hK)
     clear zS
     refine ⟨by simp,?_⟩
     simp [leaves_iff,Tryz.f143]
     try exact dt
    ·have g2:4294967295<f:=by
      rcases hb with hb|hb|hb
      ·exact absurd hb g1
      ·exact hb
      ·exact absurd hb.1 (by omega)
     have zS:=jj g1<|g2
     refine dM8 ?_
     repeat (intro K hK)
     clear zS
     refine ⟨by simp,?_⟩
     simp [leaves_iff,Tryz.f143]
     try exact dt
   ·rcases Decidable.em (f<0) with g1|g1
    ·have zS:=g1
     refine dM8 ?_
     repeat (intro K hK)
     clear zS
     refine ⟨by simp,?_⟩
     simp [leaves_iff,Tryz.f143]
     try exact dt
    ·have g2:4294967295<f:=by
      rcases hb with hb|hb|hb
      ·exact absurd hb g1
      ·exact hb
      ·exact absurd hb.1 (by omega)
     have zS:=jj g1<|g2
     refine dM8 ?_
     repeat (intro K hK)
     clear zS
     refine ⟨by simp,?_⟩
     simp [leaves_iff,Tryz.f143]
     try exact dt
  ·have hb':=hb
   unfold badF at hb'
   simp only [not_or] at hb'
   have g1:¬ f<0:=hb'.1
   have g2:¬ 4294967295<f:=hb'.2.1
   have g3:=hb'.2.2
   have e5:=@encR_m (k,f,d,a,x,h) hk hb
   have e6:=@encR_z (k,f,d,a,x,h) hk hb
   obtain ⟨W,hW⟩:∃ W,W=encW (k,f,d,a,x,h):=⟨_,rfl⟩
   rw [← hW] at e6
   cases hfm:frmE (k,f,d,a,x,h) with
   | false =>
    rw [e5 hfm]
    rw [hfm] at hfo'
    rcases (by omega:k=0∨k=1∨k=2∨k=3∨k=4) with rfl|rfl|rfl|rfl|rfl
    ·have zS:=jj g1<|jj g2<|hfo'
     refine dM8 ?_
     repeat (intro K hK)
     clear zS
     refine ⟨by simp,?_⟩
     simp [leaves_iff,Tryz.f143]
     try exact dt
    ·have g4:¬ (h=true∧4294967288<f):=fun hh=>g3 ⟨rfl,hh⟩
     cases h
     ·have zS:=jj g1<|jj g2<|hfo'
      refine dM8 ?_
      repeat (intro K hK)
      clear zS
      refine ⟨by simp,?_⟩
      simp [leaves_iff,Tryz.f143]
      try exact dt
     ·have g5:¬ 4294967288<f:=fun hh=>g4 ⟨rfl,hh⟩
      have zS:=jj g1<|jj g2<|jj g5<|hfo'
      refine dM8 ?_
      repeat (intro K hK)
      clear zS
      refine ⟨by simp,?_⟩
      simp [leaves_iff,Tryz.f143]
      try exact dt
    ·have zS:=jj g1<|jj g2<|hfo'
     refine dM8 ?_
     repeat (intro K hK)
     clear zS
     refine ⟨by simp,?_⟩
     simp [leaves_iff,Tryz.f143]
     try exact dt
    ·have zS:=jj g1<|jj g2<|hfo'
     refine dM8 ?_
     repeat (intro K hK)
     clear zS
     refine ⟨by simp,?_⟩
     simp [leaves_iff,Tryz.f143]
     try exact dt
    ·have zS:=jj g1<|jj g2<|hfo'
     refine dM8 ?_
     repeat (intro K hK)
     clear zS
     refine ⟨by simp,?_⟩
     simp [leaves_iff,Tryz.f143]
     try exact dt
   | true =>
    rw [e6 hfm]
    rw [hfm] at hfo'
    clear e5 e6 hfm
    rcases (by omega:k=0∨k=1∨k=2∨k=3∨k=4) with rfl|rfl|rfl|rfl|rfl
    ·have zS:=jj g1<|jj g2<|jj hfo'<|hfl
     refine dM8 ?_
     repeat (intro K hK)
     clear zS
     refine ⟨by simp,?_⟩
     simp [leaves_iff,Tryz.f143]
     try exact dt
     (rw [hW];refine (encAll ?_ ?_).symm<;>constructor<;>omega)
    ·have g4:¬ (h=true∧4294967288<f):=fun hh=>g3 ⟨rfl,hh⟩
     cases h
     ·have zS:=jj g1<|jj g2<|jj hfo'<|hfl
      refine dM8 ?_
      repeat (intro K hK)
      clear zS
      refine ⟨by simp,?_⟩
      simp [leaves_iff,Tryz.f143]
      try exact dt
      (rw [hW];refine (encAll ?_ ?_).symm<;>constructor<;>omega)
     ·have g5:¬ 4294967288<f:=fun hh=>g4 ⟨rfl,hh⟩
      have zS:=jj g1<|jj g2<|jj g5<|jj hfo'<|hfl
      refine dM8 ?_
      repeat (intro K hK)
      clear zS
      refine ⟨by simp,?_⟩
      simp [leaves_iff,Tryz.f143]
      try exact dt
      (rw [hW];refine (encAll ?_ ?_).symm<;>constructor<;>omega)
    ·have zS:=jj g1<|jj g2<|jj hfo'<|hfl
     refine dM8 ?_
     repeat (intro K hK)
     clear zS
     refine ⟨by simp,?_⟩
     simp [leaves_iff,Tryz.f143]
     try exact dt
     (rw [hW];refine (encAll ?_ ?_).symm<;>constructor<;>omega)
    ·have zS:=jj g1<|jj g2<|jj hfo'<|hfl
     refine dM8 ?_
     repeat (intro K hK)
     clear zS
     refine ⟨by simp,?_⟩
     simp [leaves_iff,Tryz.f143]
     try exact dt
     (rw [hW];refine (encAll ?_ ?_).symm<;>constructor<;>omega)
    ·have zS:=jj g1<|jj g2<|jj hfo'<|hfl
     refine dM8 ?_
     repeat (intro K hK)
     clear zS
     refine ⟨by simp,?_⟩
     simp [leaves_iff,Tryz.f143]
     try exact dt
     (rw [hW];refine (encAll ?_ ?_).symm<;>constructor<;>omega)
 ·rw [encR_k hk]
  have e0:¬ k=0:=by omega
  have e1:¬ k=1:=by omega
  have e2:¬ k=2:=by omega
  have e3:¬ k=3:=by omega
  have e4:¬ k=4:=by omega
  have zS:=jj e0<|jj e1<|jj e2<|jj e3<|e4
  refine dM8 ?_
  repeat (intro K hK)
  clear zS
  refine ⟨by simp,?_⟩
  simp [leaves_iff,Tryz.f143]
  try exact dt
end Go.AM
namespace Go.AM
open Go Go.Proofs
set_option maxHeartbeats 2000000 in
theorem s187 (X:AX) (hX:XOK Tryz.prog X) (hw:X.W wT) (hfo:∀ k f d a x h,0≤k∧k≤4→∀ M n,X.call 216 [.agg [I k,I f,B d,B a,B x,B h]] M n=some (B (frmE (k,f,d,a,x,h)),[]))
  (hfl:∀ b c M n,X.call 217 [B b,.v (.int .u64 c)] M n=some (.v (.int .u64 (fb b c)),[])):PSound Tryz.prog 187 (specF (ι:=En) (fun x=>[EnV x]) fun x=>retOf [U (encR x).1,I (encR x).2]):=by
 refine psound_spec hX mixed Tryz.func187 rfl fun ⟨k,f,d,a,x,h⟩ w0 G=>⟨by show 1≤61;decide,rfl,?_⟩
 show AW ⟨Tryz.prog,X,61,w0,.pure G⟩ _ _ _
 have hc:Cx.OK ⟨Tryz.prog,X,61,w0,.pure G⟩:=⟨hX,mixed⟩
 unfold EnV U
 simp only
 rcases Decidable.em (0≤k∧k≤4) with hk|hk
 ·have hfo':=hfo k f d a x h hk
  rcases Decidable.em (badF (k,f,d,a,x,h)) with hb|hb
  ·rw [encR_f hk hb]
   unfold badF at hb
   simp only at hb
   rcases (by omega:k=0∨k=1∨k=2∨k=3∨k=4) with rfl|rfl|rfl|rfl|rfl
   ·rcases Decidable.em (f<0) with g1|g1
    ·have zS:=g1
     refine dM8 ?_
     repeat (intro K hK)
     clear zS
     refine ⟨by simp,?_⟩
     simp [leaves_iff,Tryz.f187]
     try exact dt
    ·have g2:4294967295<f:=by
      rcases hb with hb|hb|hb
      ·exact absurd hb g1
      ·exact hb
      ·exact absurd hb.1 (by omega)
     have zS:=jj g1<|g2
     refine dM8 ?_
     repeat (intro K hK)
     clear zS
     refine ⟨by simp,?_⟩
     simp [leaves_iff,Tryz.f187]
     try exact dt
   ·rcases Decidable.em (f<0) with g1|g1
    ·have zS:=g1
     refine dM8 ?_
     repeat (intro K hK)
     clear zS
     refine ⟨by simp,?_⟩
     simp [leaves_iff,Tryz.f187]
     try exact dt
    ·rcases Decidable.em (4294967295<f) with g2|g2
     ·have zS:=jj g1<|g2
      refine dM8 ?_
      repeat (intro K hK)
      clear zS
      refine ⟨by simp,?_⟩
      simp [leaves_iff,Tryz.f187]
      try exact dt
     ·have g3:h=true∧4294967288<f:=by
       rcases hb with hb|hb|hb
       ·exact absurd hb g1
       ·exact absurd hb g2
       ·exact hb.2
      obtain ⟨rfl,g3⟩:=g3
      have zS:=jj g1<|jj g2<|g3
      refine dM8 ?_
      repeat (intro K hK)
      clear zS
      refine ⟨by simp,?_⟩
      simp [leaves_iff,Tryz.f187]
      try exact dt
   ·rcases Decidable.em (f<0) with g1|g1
    ·have zS:=g1
     refine dM8 ?_
     repeat (intro K hK)
     clear zS
     refine ⟨by simp,?_⟩
     simp [leaves_iff,Tryz.f187]
     try exact dt
    ·have g2:4294967295<f:=by
      rcases hb with hb|hb|hb
      ·exact absurd hb g1
      ·exact hb
      ·exact absurd hb.1 (by omega)
     have zS:=jj g1<|g2
     refine dM8 ?_
     repeat (intro K hK)
     clear zS
     refine ⟨by simp,?_⟩
     simp [leaves_iff,Tryz.f187]
     try exact dt
   ·rcases Decidable.em (f<0) with g1|g1
    ·have zS:=g1
     refine dM8 ?_
     repeat (intro K hK)
     clear zS
     refine ⟨by simp,?_⟩
     simp [leaves_iff,Tryz.f187]
     try exact dt
    ·have g2:4294967295<f:=by
      rcases hb with hb|hb|hb
      ·exact absurd hb g1
      ·exact hb
      ·exact absurd hb.1 (by omega)
     have zS:=jj g1<|g2
     refine dM8 ?_
     repeat (intro K hK)
     clear zS
     refine ⟨by simp,?_⟩
     simp [leaves_iff,Tryz.f187]
     try exact dt
   ·rcases Decidable.em (f<0) with g1|g1
    ·have zS:=g1
     refine dM8 ?_
     repeat (intro K hK)
     clear zS
     refine ⟨by simp,?_⟩
     simp [leaves_iff,Tryz.f187]
     try exact dt
    ·have g2:4294967295<f:=by
      rcases hb with hb|hb|hb
      ·exact absurd hb g1
      ·exact hb
      ·exact absurd hb.1 (by omega)
     have zS:=jj g1<|g2
     refine dM8 ?_
     repeat (intro K hK)
     clear zS
     refine ⟨by simp,?_⟩
     simp [leaves_iff,Tryz.f187]
     try exact dt
  ·have hb':=hb
   unfold badF at hb'
   simp only [not_or] at hb'
   have g1:¬ f<0:=hb'.1
   have g2:¬ 4294967295<f:=hb'.2.1
   have g3:=hb'.2.2
   have e5:=@encR_m (k,f,d,a,x,h) hk hb
   have e6:=@encR_z (k,f,d,a,x,h) hk hb
   obtain ⟨W,hW⟩:∃ W,W=encW (k,f,d,a,x,h):=⟨_,rfl⟩
   rw [← hW] at e6
   cases hfm:frmE (k,f,d,a,x,h) with
   | false =>
    rw [e5 hfm]
    rw [hfm] at hfo'
    rcases (by omega:k=0∨k=1∨k=2∨k=3∨k=4) with rfl|rfl|rfl|rfl|rfl
    ·have zS:=jj g1<|jj g2<|hfo'
     refine dM8 ?_
     repeat (intro K hK)
     clear zS
     refine ⟨by simp,?_⟩
     simp [leaves_iff,Tryz.f187]
     try exact dt
    ·have g4:¬ (h=true∧4294967288<f):=fun hh=>g3 ⟨rfl,hh⟩
     cases h
     ·have zS:=jj g1<|jj g2<|hfo'
      refine dM8 ?_
      repeat (intro K hK)
      clear zS
      refine ⟨by simp,?_⟩
      simp [leaves_iff,Tryz.f187]
      try exact dt
     ·have g5:¬ 4294967288<f:=fun hh=>g4 ⟨rfl,hh⟩
      have zS:=jj g1<|jj g2<|jj g5<|hfo'
      refine dM8 ?_
      repeat (intro K hK)
      clear zS
      refine ⟨by simp,?_⟩
      simp [leaves_iff,Tryz.f187]
      try exact dt
    ·have zS:=jj g1<|jj g2<|hfo'
     refine dM8 ?_
     repeat (intro K hK)
     clear zS
     refine ⟨by simp,?_⟩
     simp [leaves_iff,Tryz.f187]
     try exact dt
    ·have zS:=jj g1<|jj g2<|hfo'
     refine dM8 ?_
     repeat (intro K hK)
     clear zS
     refine ⟨by simp,?_⟩
     simp [leaves_iff,Tryz.f187]
     try exact dt
    ·have zS:=jj g1<|jj g2<|hfo'
     refine dM8 ?_
     repeat (intro K hK)
     clear zS
     refine ⟨by simp,?_⟩
     simp [leaves_iff,Tryz.f187]
     try exact dt
   | true =>
    rw [e6 hfm]
    rw [hfm] at hfo'
    clear e5 e6 hfm
    rcases (by omega:k=0∨k=1∨k=2∨k=3∨k=4) with rfl|rfl|rfl|rfl|rfl
    ·have zS:=jj g1<|jj g2<|jj hfo'<|hfl
     refine dM8 ?_
     repeat (intro K hK)
     clear zS
     refine ⟨by simp,?_⟩
     simp [leaves_iff,Tryz.f187]
     try exact dt
     (rw [hW];refine (encAll ?_ ?_).symm<;>constructor<;>omega)
    ·have g4:¬ (h=true∧4294967288<f):=fun hh=>g3 ⟨rfl,hh⟩
     cases h
     ·have zS:=jj g1<|jj g2<|jj hfo'<|hfl
      refine dM8 ?_
      repeat (intro K hK)
      clear zS
      refine ⟨by simp,?_⟩
      simp [leaves_iff,Tryz.f187]
      try exact dt
      (rw [hW];refine (encAll ?_ ?_).symm<;>constructor<;>omega)
     ·have g5:¬ 4294967288<f:=fun hh=>g4 ⟨rfl,hh⟩
      have zS:=jj g1<|jj g2<|jj g5<|jj hfo'<|hfl
      refine dM8 ?_
      repeat (intro K hK)
      clear zS
      refine ⟨by simp,?_⟩
      simp [leaves_iff,Tryz.f187]
      try exact dt
      (rw [hW];refine (encAll ?_ ?_).symm<;>constructor<;>omega)
    ·have zS:=jj g1<|jj g2<|jj hfo'<|hfl
     refine dM8 ?_
     repeat (intro K hK)
     clear zS
     refine ⟨by simp,?_⟩
     simp [leaves_iff,Tryz.f187]
     try exact dt
     (rw [hW];refine (encAll ?_ ?_).symm<;>constructor<;>omega)
    ·have zS:=jj g1<|jj g2<|jj hfo'<|hfl
     refine dM8 ?_
     repeat (intro K hK)
     clear zS
     refine ⟨by simp,?_⟩
     simp [leaves_iff,Tryz.f187]
     try exact dt
     (rw [hW];refine (encAll ?_ ?_).symm<;>constructor<;>omega)
    ·have zS:=jj g1<|jj g2<|jj hfo'<|hfl
     refine dM8 ?_
     repeat (intro K hK)
     clear zS
     refine ⟨by simp,?_⟩
     simp [leaves_iff,Tryz.f187]
     try exact dt
     (rw [hW];refine (encAll ?_ ?_).symm<;>constructor<;>omega)
 ·rw [encR_k hk]
  rcases Decidable.em (k<0) with e0|e0
  ·have zS:=e0
   refine dM8 ?_
   repeat (intro K hK)
   clear zS
   refine ⟨by simp,?_⟩
   simp [leaves_iff,Tryz.f187]
   try exact dt
  ·have e1:4<k:=by omega
   have zS:=jj e0<|e1
   refine dM8 ?_
   repeat (intro K hK)
   clear zS
   refine ⟨by simp,?_⟩
   simp [leaves_iff,Tryz.f187]
   try exact dt
end Go.AM
set_option maxHeartbeats 2000000
namespace Go.AM
open Go Go.Proofs
def prs (n:Nat):En:=(((n%8:Nat):Int),((n/256%4294967296:Nat):Int),n.testBit 3,n.testBit 4,n.testBit 5,n.testBit 6)
def zE:En:=(0,0,false,false,false,false)
def decR (n:Nat):En×Int:=if encR (prs n)=((n:Int),0) then (prs n,0) else (zE,3)
theorem decR_z {n:Nat} (h:encR (prs n)=((n:Int),0)):decR n=(prs n,0):=by unfold decR;rw [if_pos h]
theorem decR_n {n:Nat} (h:¬ encR (prs n)=((n:Int),0)):decR n=(zE,3):=by unfold decR;rw [if_neg h]
theorem fb_zero (b:Bool) {n:Int} (h:n≠0):(fb b n=0)=(b=false):=by
 unfold fb;cases b<;>simp [h]
theorem fb_pos (b:Bool) {n:Int} (h:0<n):(0<fb b n)=(b=true):=by
 unfold fb;cases b<;>simp [h]
theorem and_fb {n:Nat} (hn:n<2^64) {j:Nat} (hj:j<63):bitI .and .u64 (n:Int) ((2^j:Nat):Int)=fb (n.testBit j) ((2^j:Nat):Int):=by
 have hp:2^j<2^64:=Nat.pow_lt_pow_right (by omega) (by omega)
 rw [bitI_and hn hp,and_bit]
 unfold fb
 cases n.testBit j<;>simp
theorem and7 {n:Nat} (hn:n<2^64):bitI .and .u64 (n:Int) 7=((n%8:Nat):Int):=by
 have:=bitI_and (x:=n) (y:=7) hn (by decide)
 rw [show (7:Nat)=2^3 - 1 from rfl,and_mask] at this
 exact this
theorem andF {n:Nat} (hn:n<2^64):bitI .and .u64 ((n:Int)/2^min 8 IntKind.u64.bits) 4294967295=((n/256%4294967296:Nat):Int):=by
 have e:(n:Int)/2^min 8 IntKind.u64.bits=((n/256:Nat):Int):=by
  rw [show (2:Int)^min 8 IntKind.u64.bits=256 by simp [IntKind.bits]]
  omega
 rw [e]
 have:=bitI_and (x:=n/256) (y:=4294967295) (by omega) (by decide)
 rw [show (4294967295:Nat)=2^32 - 1 from rfl,and_mask] at this
 exact this
theorem prs_rng (n:Nat):(0≤(prs n).1∧(prs n).1≤7)∧0≤(prs n).2.1∧(prs n).2.1≤4294967295:=by
 unfold prs
 simp only
 omega
theorem s56 (X:AX) (hX:XOK Tryz.prog X) (hw:X.W wT) (hen:∀ k f d a x h M n,X.call 143 [.agg [I k,I f,B d,B a,B x,B h]] M n=some (.tup [U (encR (k,f,d,a,x,h)).1,I (encR (k,f,d,a,x,h)).2],[])) :
  PSound Tryz.prog 56 (specF (ι:={n:Nat // n<2^64}) (fun x=>[U x.1]) fun x=>retOf [EnV (decR x.1).1,I (decR x.1).2]):=by
 refine psound_spec hX mixed Tryz.func56 rfl fun ⟨n,hn⟩ w0 G=>⟨by show 1≤41;decide,rfl,?_⟩
 show AW ⟨Tryz.prog,X,41,w0,.pure G⟩ _ _ _
 have hc:Cx.OK ⟨Tryz.prog,X,41,w0,.pure G⟩:=⟨hX,mixed⟩
 simp only at hn ⊢
 have p1:=and7 hn
 have p2:=andF hn
 have p3:=and_fb hn (j:=3) (by omega)
 have p4:=and_fb hn (j:=4) (by omega)
 have p5:=and_fb hn (j:=5) (by omega)
 have p6:=and_fb hn (j:=6) (by omega)
 simp only [show ((2^3:Nat):Int)=8 from rfl,show ((2^4:Nat):Int)=16 from rfl,show ((2^5:Nat):Int)=32 from rfl,show ((2^6:Nat):Int)=64 from rfl] at p3 p4 p5 p6
 have hrg:=prs_rng n
 have z3:=fb_zero (n.testBit 3) (n:=8) (by omega)
 have z4:=fb_zero (n.testBit 4) (n:=16) (by omega)
 have z5:=fb_zero (n.testBit 5) (n:=32) (by omega)
 have z6:=fb_zero (n.testBit 6) (n:=64) (by omega)
 have y3:=fb_pos (n.testBit 3) (n:=8) (by omega)
 have y4:=fb_pos (n.testBit 4) (n:=16) (by omega)
 have y5:=fb_pos (n.testBit 5) (n:=32) (by omega)
 have y6:=fb_pos (n.testBit 6) (n:=64) (by omega)
 have hdz:=@decR_z n
 have hdn:=@decR_n n
 obtain ⟨⟨k,f,d,a,x,h⟩,he⟩:∃ e,e=prs n:=⟨_,rfl⟩
 rw [← he] at hrg hdz hdn
 unfold prs at he
 simp only [Prod.mk.injEq] at he
 obtain ⟨e1,e2,e3,e4,e5,e6⟩:=he
 rw [← e1] at p1
 rw [← e2] at p2
 rw [← e3] at p3 z3 y3
 rw [← e4] at p4 z4 y4
 rw [← e5] at p5 z5 y5
 rw [← e6] at p6 z6 y6
 clear e1 e2 e3 e4 e5 e6
 simp only at hrg
 have hk:=wrap64 (n:=k) (by omega)
 have hf:=wrap64 (n:=f) (by omega)
 have hen':=hen k f d a x h
 obtain ⟨⟨W,c⟩,hR⟩:∃ r,r=encR (k,f,d,a,x,h):=⟨_,rfl⟩
 rw [← hR] at hen' hdz hdn
 simp only [Prod.mk.injEq] at hdz hdn
 simp only [U] at hen'
 unfold U
 rcases Decidable.em (c=0) with h0|h0
 ·rcases Decidable.em (W=(n:Int)) with h1|h1
  ·rw [hdz ⟨h1,h0⟩]
   subst h1 h0
   have zS:=jj p1<|jj p2<|jj p3<|jj p4<|jj p5<|jj p6<|jj z3<|jj z4<|jj z5<|jj z6<|jj y3<|jj y4<|jj y5<|jj y6<|jj hk<|jj hf<|hen'
   refine dM8 ?_
   repeat (intro K hK)
   clear zS
   refine ⟨by simp,?_⟩
   simp [leaves_iff,Tryz.f56,EnV]
   try exact dt
  ·rw [hdn fun hh=>h1 hh.1]
   subst h0
   have zS:=jj p1<|jj p2<|jj p3<|jj p4<|jj p5<|jj p6<|jj z3<|jj z4<|jj z5<|jj z6<|jj y3<|jj y4<|jj y5<|jj y6<|jj hk<|jj hf<|jj hen'<|h1
   refine dM8 ?_
   repeat (intro K hK)
   clear zS
   refine ⟨by simp,?_⟩
   simp [leaves_iff,Tryz.f56,EnV,zE]
   try exact dt
 ·rw [hdn fun hh=>h0 hh.2]
  have zS:=jj p1<|jj p2<|jj p3<|jj p4<|jj p5<|jj p6<|jj z3<|jj z4<|jj z5<|jj z6<|jj y3<|jj y4<|jj y5<|jj y6<|jj hk<|jj hf<|jj hen'<|h0
  refine dM8 ?_
  repeat (intro K hK)
  clear zS
  refine ⟨by simp,?_⟩
  simp [leaves_iff,Tryz.f56,EnV,zE]
  try exact dt
theorem s131 (X:AX) (hX:XOK Tryz.prog X) (hw:X.W wT) (hen:∀ k f d a x h M n,X.call 187 [.agg [I k,I f,B d,B a,B x,B h]] M n=some (.tup [U (encR (k,f,d,a,x,h)).1,I (encR (k,f,d,a,x,h)).2],[])) :
  PSound Tryz.prog 131 (specF (ι:={n:Nat // n<2^64}) (fun x=>[U x.1]) fun x=>retOf [EnV (decR x.1).1,I (decR x.1).2]):=by
 refine psound_spec hX mixed Tryz.func131 rfl fun ⟨n,hn⟩ w0 G=>⟨by show 1≤41;decide,rfl,?_⟩
 show AW ⟨Tryz.prog,X,41,w0,.pure G⟩ _ _ _
 have hc:Cx.OK ⟨Tryz.prog,X,41,w0,.pure G⟩:=⟨hX,mixed⟩
 simp only at hn ⊢
 have p1:=and7 hn
 have p2:=andF hn
 have p3:=and_fb hn (j:=3) (by omega)
 have p4:=and_fb hn (j:=4) (by omega)
 have p5:=and_fb hn (j:=5) (by omega)
 have p6:=and_fb hn (j:=6) (by omega)
 simp only [show ((2^3:Nat):Int)=8 from rfl,show ((2^4:Nat):Int)=16 from rfl,show ((2^5:Nat):Int)=32 from rfl,show ((2^6:Nat):Int)=64 from rfl] at p3 p4 p5 p6
 have hrg:=prs_rng n
 have z3:=fb_zero (n.testBit 3) (n:=8) (by omega)
 have z4:=fb_zero (n.testBit 4) (n:=16) (by omega)
 have z5:=fb_zero (n.testBit 5) (n:=32) (by omega)
 have z6:=fb_zero (n.testBit 6) (n:=64) (by omega)
 have y3:=fb_pos (n.testBit 3) (n:=8) (by omega)
 have y4:=fb_pos (n.testBit 4) (n:=16) (by omega)
 have y5:=fb_pos (n.testBit 5) (n:=32) (by omega)
 have y6:=fb_pos (n.testBit 6) (n:=64) (by omega)
 have hdz:=@decR_z n
 have hdn:=@decR_n n
 obtain ⟨⟨k,f,d,a,x,h⟩,he⟩:∃ e,e=prs n:=⟨_,rfl⟩
 rw [← he] at hrg hdz hdn
 unfold prs at he
 simp only [Prod.mk.injEq] at he
 obtain ⟨e1,e2,e3,e4,e5,e6⟩:=he
 rw [← e1] at p1
 rw [← e2] at p2
 rw [← e3] at p3 z3 y3
 rw [← e4] at p4 z4 y4
 rw [← e5] at p5 z5 y5
 rw [← e6] at p6 z6 y6
 clear e1 e2 e3 e4 e5 e6
 simp only at hrg
 have hk:=wrap64 (n:=k) (by omega)
 have hf:=wrap64 (n:=f) (by omega)
 have hen':=hen k f d a x h
 obtain ⟨⟨W,c⟩,hR⟩:∃ r,r=encR (k,f,d,a,x,h):=⟨_,rfl⟩
 rw [← hR] at hen' hdz hdn
 simp only [Prod.mk.injEq] at hdz hdn
 simp only [U] at hen'
 unfold U
 rcases Decidable.em (c=0) with h0|h0
 ·rcases Decidable.em (W=(n:Int)) with h1|h1
  ·rw [hdz ⟨h1,h0⟩]
   subst h1 h0
   have zS:=jj p1<|jj p2<|jj p3<|jj p4<|jj p5<|jj p6<|jj z3<|jj z4<|jj z5<|jj z6<|jj y3<|jj y4<|jj y5<|jj y6<|jj hk<|jj hf<|hen'
   refine dM8 ?_
   repeat (intro K hK)
   clear zS
   refine ⟨by simp,?_⟩
   simp [leaves_iff,Tryz.f131,EnV]
   try exact dt
  ·rw [hdn fun hh=>h1 hh.1]
   subst h0
   have zS:=jj p1<|jj p2<|jj p3<|jj p4<|jj p5<|jj p6<|jj z3<|jj z4<|jj z5<|jj z6<|jj y3<|jj y4<|jj y5<|jj y6<|jj hk<|jj hf<|jj hen'<|h1
   refine dM8 ?_
   repeat (intro K hK)
   clear zS
   refine ⟨by simp,?_⟩
   simp [leaves_iff,Tryz.f131,EnV,zE]
   try exact dt
 ·rw [hdn fun hh=>h0 hh.2]
  have zS:=jj p1<|jj p2<|jj p3<|jj p4<|jj p5<|jj p6<|jj z3<|jj z4<|jj z5<|jj z6<|jj y3<|jj y4<|jj y5<|jj y6<|jj hk<|jj hf<|jj hen'<|h0
  refine dM8 ?_
  repeat (intro K hK)
  clear zS
  refine ⟨by simp,?_⟩
  simp [leaves_iff,Tryz.f131,EnV,zE]
  try exact dt
end Go.AM
