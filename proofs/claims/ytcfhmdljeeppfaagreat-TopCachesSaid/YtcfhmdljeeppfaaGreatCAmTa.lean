/- A part of the proof. -/
import Derived.Test.YtcfhmdljeeppfaaGreatCAmW
import Derived.Test.YtcfhmdljeeppfaaGreatProg
import Derived.ProofKit
import Derived.Laws.StructEq
import Derived.ChangeKeysEq
import Derived.Test.YtcfhmdljeeppfaaGreatCAmG
set_option linter.all false
namespace Go.AM
open Go
structure Hold (p:Prop):Prop where
 out:p
theorem jj {A B:Prop} (a:A) (b:B):A∧B:=⟨a,b⟩
theorem dM64 {G G':Prop} (h:G') (k:Hold G'→G:=by
 intro hEnd
 repeat' (first|(apply aSk;intro K hK)|(refine aw_run hc (by first|exact aw_nod|(intro _;rw [ordB_w hw];kernel_rfl)|(intro _;rw [ordB_w0 hw0];kernel_rfl)|(intro _;kernel_rfl)) ?_;simp [List.zipIdx,eSt,idx,zS,-getM,gMh,gMm,gMn];(repeat (simp (disch:=first|omega|assumption|fail) only [if_pos,if_neg,w64_];try simp [List.zipIdx,eSt,idx,zS,-getM,gMh,gMm,gMn]));try (repeat' (refine gQs (fun h=>?_) (fun h=>?_)<;>simp at h<;>(simp [List.zipIdx,eSt,idx,zS,-getM,gMh,gMm,gMn];(repeat (simp (disch:=first|omega|assumption|fail) only [if_pos,if_neg,w64_];try simp [List.zipIdx,eSt,idx,zS,-getM,gMh,gMm,gMn]))))))|(refine eC (fun h=>?_) (fun h=>?_)<;>(try simp at h))|(refine aBl ?_)|(refine aw_skip ?_;simp only [thenQ,bkQ,if_true])|(refine aw_exit ?_;simp [thenQ,bkQ])|(refine aw_ret ?_;simp only [thenQ,bkQ])|(refine aRd ?_)|(refine hK _ ?_;clear hK)|(clear hK;refine hK _ ?_;clear hK)|(clear hK;clear hK;refine hK _ ?_;clear hK)|(clear hK;clear hK;clear hK;refine hK _ ?_;clear hK))
 repeat (first|(rename St→Prop=>K;clear K)|(rename St→Prop=>K;revert K))
 exact hEnd.out):G:=k ⟨h⟩
theorem dM64o {G G':Prop} (h:G') (k:Hold G'→G:=by
 intro hEnd
 repeat' (first|(apply aSk;intro K hK)|(refine aw_run hc (by first|exact aw_nod|(intro _;rw [ordB_w hw];kernel_rfl)|(intro _;rw [ordB_w0 hw0];kernel_rfl)|(intro _;kernel_rfl)) ?_;simp [List.zipIdx,eSt,idx,-getM,gMh,gMm,gMn];(repeat (simp (disch:=first|omega|assumption|fail) only [if_pos,if_neg,w64_];try simp [List.zipIdx,eSt,idx,-getM,gMh,gMm,gMn]));try (repeat' (refine gQs (fun h=>?_) (fun h=>?_)<;>simp at h<;>(simp [List.zipIdx,eSt,idx,-getM,gMh,gMm,gMn];(repeat (simp (disch:=first|omega|assumption|fail) only [if_pos,if_neg,w64_];try simp [List.zipIdx,eSt,idx,-getM,gMh,gMm,gMn]))))))|(refine eC (fun h=>?_) (fun h=>?_)<;>(try simp at h))|(refine aBl ?_)|(refine aw_skip ?_;simp only [thenQ,bkQ,if_true])|(refine aw_exit ?_;simp [thenQ,bkQ])|(refine aw_ret ?_;simp only [thenQ,bkQ])|(refine aRd ?_)|(refine hK _ ?_;clear hK)|(clear hK;refine hK _ ?_;clear hK)|(clear hK;clear hK;refine hK _ ?_;clear hK)|(clear hK;clear hK;clear hK;refine hK _ ?_;clear hK))
 repeat (first|(rename St→Prop=>K;clear K)|(rename St→Prop=>K;revert K))
 exact hEnd.out):G:=k ⟨h⟩
theorem dM8 {G G':Prop} (h:G') (k:Hold G'→G:=by
 intro hEnd
 repeat' (first|(apply aSk;intro K hK)|(refine aw_run hc (by first|exact aw_nod|(intro _;rw [ordB_w hw];kernel_rfl)|(intro _;rw [ordB_w0 hw0];kernel_rfl)|(intro _;kernel_rfl)) ?_;simp [List.zipIdx,eSt,idx,zS,-getM,gMh,gMm,gMn];(repeat (simp (disch:=first|omega|assumption|fail) only [if_pos,if_neg,wrap8];try simp [List.zipIdx,eSt,idx,zS,-getM,gMh,gMm,gMn]));try (repeat' (refine gQs (fun h=>?_) (fun h=>?_)<;>simp at h<;>(simp [List.zipIdx,eSt,idx,zS,-getM,gMh,gMm,gMn];(repeat (simp (disch:=first|omega|assumption|fail) only [if_pos,if_neg,wrap8];try simp [List.zipIdx,eSt,idx,zS,-getM,gMh,gMm,gMn]))))))|(refine eC (fun h=>?_) (fun h=>?_)<;>(try simp at h))|(refine aBl ?_)|(refine aw_skip ?_;simp only [thenQ,bkQ,if_true])|(refine aw_exit ?_;simp [thenQ,bkQ])|(refine aw_ret ?_;simp only [thenQ,bkQ])|(refine aRd ?_)|(refine hK _ ?_;clear hK)|(clear hK;refine hK _ ?_;clear hK)|(clear hK;clear hK;refine hK _ ?_;clear hK)|(clear hK;clear hK;clear hK;refine hK _ ?_;clear hK))
 repeat (first|(rename St→Prop=>K;clear K)|(rename St→Prop=>K;revert K))
 exact hEnd.out):G:=k ⟨h⟩
theorem dM8o {G G':Prop} (h:G') (k:Hold G'→G:=by
 intro hEnd
 repeat' (first|(apply aSk;intro K hK)|(refine aw_run hc (by first|exact aw_nod|(intro _;rw [ordB_w hw];kernel_rfl)|(intro _;rw [ordB_w0 hw0];kernel_rfl)|(intro _;kernel_rfl)) ?_;simp [List.zipIdx,eSt,idx,-getM,gMh,gMm,gMn];(repeat (simp (disch:=first|omega|assumption|fail) only [if_pos,if_neg,wrap8];try simp [List.zipIdx,eSt,idx,-getM,gMh,gMm,gMn]));try (repeat' (refine gQs (fun h=>?_) (fun h=>?_)<;>simp at h<;>(simp [List.zipIdx,eSt,idx,-getM,gMh,gMm,gMn];(repeat (simp (disch:=first|omega|assumption|fail) only [if_pos,if_neg,wrap8];try simp [List.zipIdx,eSt,idx,-getM,gMh,gMm,gMn]))))))|(refine eC (fun h=>?_) (fun h=>?_)<;>(try simp at h))|(refine aBl ?_)|(refine aw_skip ?_;simp only [thenQ,bkQ,if_true])|(refine aw_exit ?_;simp [thenQ,bkQ])|(refine aw_ret ?_;simp only [thenQ,bkQ])|(refine aRd ?_)|(refine hK _ ?_;clear hK)|(clear hK;refine hK _ ?_;clear hK)|(clear hK;clear hK;refine hK _ ?_;clear hK)|(clear hK;clear hK;clear hK;refine hK _ ?_;clear hK))
 repeat (first|(rename St→Prop=>K;clear K)|(rename St→Prop=>K;revert K))
 exact hEnd.out):G:=k ⟨h⟩
theorem dF64 {G G':Prop} (h:G') (k:Hold G'→G:=by
 intro hEnd
 repeat' (first|(apply aSk;intro K hK)|(refine aw_run hc (by exact aw_nod) ?_;simp [List.zipIdx,eSt,idx,zS,-getM,gMh,gMm,gMn];(repeat (simp (disch:=first|omega|assumption|fail) only [if_pos,if_neg,w64_];try simp [List.zipIdx,eSt,idx,zS,-getM,gMh,gMm,gMn]));try (repeat' (refine gQs (fun h=>?_) (fun h=>?_)<;>simp at h<;>(simp [List.zipIdx,eSt,idx,zS,-getM,gMh,gMm,gMn];(repeat (simp (disch:=first|omega|assumption|fail) only [if_pos,if_neg,w64_];try simp [List.zipIdx,eSt,idx,zS,-getM,gMh,gMm,gMn]))))))|(refine aw_runFt hc ?_;simp [List.zipIdx,eSt,idx,zS,-getM,gMh,gMm,gMn];(repeat (simp (disch:=first|omega|assumption|fail) only [if_pos,if_neg,w64_];try simp [List.zipIdx,eSt,idx,zS,-getM,gMh,gMm,gMn]));refine ⟨by kernel_rfl,?_⟩)|(refine aw_run hc (by first|(intro _;rw [ordB_w hw];kernel_rfl)|(intro _;rw [ordB_w0 hw0];kernel_rfl)|(intro _;kernel_rfl)) ?_;simp [List.zipIdx,eSt,idx,zS,-getM,gMh,gMm,gMn];(repeat (simp (disch:=first|omega|assumption|fail) only [if_pos,if_neg,w64_];try simp [List.zipIdx,eSt,idx,zS,-getM,gMh,gMm,gMn]));try (repeat' (refine gQs (fun h=>?_) (fun h=>?_)<;>simp at h<;>(simp [List.zipIdx,eSt,idx,zS,-getM,gMh,gMm,gMn];(repeat (simp (disch:=first|omega|assumption|fail) only [if_pos,if_neg,w64_];try simp [List.zipIdx,eSt,idx,zS,-getM,gMh,gMm,gMn]))))))|(refine eC (fun h=>?_) (fun h=>?_)<;>(try simp at h))|(refine aBl ?_)|(refine aw_skip ?_;simp only [thenQ,bkQ,if_true])|(refine aw_exit ?_;simp [thenQ,bkQ])|(refine aw_ret ?_;simp only [thenQ,bkQ])|(refine aRd ?_)|(refine hK _ ?_;clear hK)|(clear hK;refine hK _ ?_;clear hK)|(clear hK;clear hK;refine hK _ ?_;clear hK)|(clear hK;clear hK;clear hK;refine hK _ ?_;clear hK))
 repeat (first|(rename St→Prop=>K;clear K)|(rename St→Prop=>K;revert K))
 exact hEnd.out):G:=k ⟨h⟩
theorem eM64 {G G':Prop} (h:G') (k:Hold G'→G:=by
 intro hEnd
 first
  | (refine aw_run hc (by first|exact aw_nod|(intro _;rw [ordB_w hw];kernel_rfl)|(intro _;rw [ordB_w0 hw0];kernel_rfl)|(intro _;kernel_rfl)) ?_;simp [List.zipIdx,eSt,idx,zS,-getM,gMh,gMm,gMn];(repeat (simp (disch:=first|omega|assumption|fail) only [if_pos,if_neg,w64_];try simp [List.zipIdx,eSt,idx,zS,-getM,gMh,gMm,gMn]));try (repeat' (refine gQs (fun h=>?_) (fun h=>?_)<;>simp at h<;>(simp [List.zipIdx,eSt,idx,zS,-getM,gMh,gMm,gMn];(repeat (simp (disch:=first|omega|assumption|fail) only [if_pos,if_neg,w64_];try simp [List.zipIdx,eSt,idx,zS,-getM,gMh,gMm,gMn]))))))
  | (refine aBl ?_)
  | (refine aw_skip ?_;simp only [thenQ,bkQ,if_true])
  | (refine aw_exit ?_;simp [thenQ,bkQ])
  | (refine aw_ret ?_;simp only [thenQ,bkQ])
  | (refine aRd ?_)
 exact hEnd.out):G:=k ⟨h⟩
theorem eMo {G G':Prop} (h:G') (k:Hold G'→G:=by
 intro hEnd
 first
  | (refine aw_run hc (by first|exact aw_nod|(intro _;rw [ordB_w hw];kernel_rfl)|(intro _;rw [ordB_w0 hw0];kernel_rfl)|(intro _;kernel_rfl)) ?_;simp [List.zipIdx,eSt,idx,-getM,gMh,gMm,gMn];(repeat (simp (disch:=first|omega|assumption|fail) only [if_pos,if_neg,w64_];try simp [List.zipIdx,eSt,idx,-getM,gMh,gMm,gMn]));try (repeat' (refine gQs (fun h=>?_) (fun h=>?_)<;>simp at h<;>(simp [List.zipIdx,eSt,idx,-getM,gMh,gMm,gMn];(repeat (simp (disch:=first|omega|assumption|fail) only [if_pos,if_neg,w64_];try simp [List.zipIdx,eSt,idx,-getM,gMh,gMm,gMn]))))))
  | (refine aBl ?_)
  | (refine aw_skip ?_;simp only [thenQ,bkQ,if_true])
  | (refine aw_exit ?_;simp [thenQ,bkQ])
  | (refine aw_ret ?_;simp only [thenQ,bkQ])
  | (refine aRd ?_)
 exact hEnd.out):G:=k ⟨h⟩
theorem eF64 {G G':Prop} (h:G') (k:Hold G'→G:=by
 intro hEnd
 first
  | (refine aw_run hc (by exact aw_nod) ?_;simp [List.zipIdx,eSt,idx,zS,-getM,gMh,gMm,gMn];(repeat (simp (disch:=first|omega|assumption|fail) only [if_pos,if_neg,w64_];try simp [List.zipIdx,eSt,idx,zS,-getM,gMh,gMm,gMn]));try (repeat' (refine gQs (fun h=>?_) (fun h=>?_)<;>simp at h<;>(simp [List.zipIdx,eSt,idx,zS,-getM,gMh,gMm,gMn];(repeat (simp (disch:=first|omega|assumption|fail) only [if_pos,if_neg,w64_];try simp [List.zipIdx,eSt,idx,zS,-getM,gMh,gMm,gMn]))))))
  | (refine aw_runFt hc ?_;simp [List.zipIdx,eSt,idx,zS,-getM,gMh,gMm,gMn];(repeat (simp (disch:=first|omega|assumption|fail) only [if_pos,if_neg,w64_];try simp [List.zipIdx,eSt,idx,zS,-getM,gMh,gMm,gMn]));refine ⟨by kernel_rfl,?_⟩)
  | (refine aw_run hc (by first|(intro _;rw [ordB_w hw];kernel_rfl)|(intro _;rw [ordB_w0 hw0];kernel_rfl)|(intro _;kernel_rfl)) ?_;simp [List.zipIdx,eSt,idx,zS,-getM,gMh,gMm,gMn];(repeat (simp (disch:=first|omega|assumption|fail) only [if_pos,if_neg,w64_];try simp [List.zipIdx,eSt,idx,zS,-getM,gMh,gMm,gMn]));try (repeat' (refine gQs (fun h=>?_) (fun h=>?_)<;>simp at h<;>(simp [List.zipIdx,eSt,idx,zS,-getM,gMh,gMm,gMn];(repeat (simp (disch:=first|omega|assumption|fail) only [if_pos,if_neg,w64_];try simp [List.zipIdx,eSt,idx,zS,-getM,gMh,gMm,gMn]))))))
  | (refine aBl ?_)
  | (refine aw_skip ?_;simp only [thenQ,bkQ,if_true])
  | (refine aw_exit ?_;simp [thenQ,bkQ])
  | (refine aw_ret ?_;simp only [thenQ,bkQ])
  | (refine aRd ?_)
 exact hEnd.out):G:=k ⟨h⟩
theorem eF64o {G G':Prop} (h:G') (k:Hold G'→G:=by
 intro hEnd
 first
  | (refine aw_run hc (by exact aw_nod) ?_;simp [List.zipIdx,eSt,idx,-getM,gMh,gMm,gMn];(repeat (simp (disch:=first|omega|assumption|fail) only [if_pos,if_neg,w64_];try simp [List.zipIdx,eSt,idx,-getM,gMh,gMm,gMn]));try (repeat' (refine gQs (fun h=>?_) (fun h=>?_)<;>simp at h<;>(simp [List.zipIdx,eSt,idx,-getM,gMh,gMm,gMn];(repeat (simp (disch:=first|omega|assumption|fail) only [if_pos,if_neg,w64_];try simp [List.zipIdx,eSt,idx,-getM,gMh,gMm,gMn]))))))
  | (refine aw_runFt hc ?_;simp [List.zipIdx,eSt,idx,-getM,gMh,gMm,gMn];(repeat (simp (disch:=first|omega|assumption|fail) only [if_pos,if_neg,w64_];try simp [List.zipIdx,eSt,idx,-getM,gMh,gMm,gMn]));refine ⟨by kernel_rfl,?_⟩)
  | (refine aw_run hc (by first|(intro _;rw [ordB_w hw];kernel_rfl)|(intro _;rw [ordB_w0 hw0];kernel_rfl)|(intro _;kernel_rfl)) ?_;simp [List.zipIdx,eSt,idx,-getM,gMh,gMm,gMn];(repeat (simp (disch:=first|omega|assumption|fail) only [if_pos,if_neg,w64_];try simp [List.zipIdx,eSt,idx,-getM,gMh,gMm,gMn]));try (repeat' (refine gQs (fun h=>?_) (fun h=>?_)<;>simp at h<;>(simp [List.zipIdx,eSt,idx,-getM,gMh,gMm,gMn];(repeat (simp (disch:=first|omega|assumption|fail) only [if_pos,if_neg,w64_];try simp [List.zipIdx,eSt,idx,-getM,gMh,gMm,gMn]))))))
  | (refine aBl ?_)
  | (refine aw_skip ?_;simp only [thenQ,bkQ,if_true])
  | (refine aw_exit ?_;simp [thenQ,bkQ])
  | (refine aw_ret ?_;simp only [thenQ,bkQ])
  | (refine aRd ?_)
 exact hEnd.out):G:=k ⟨h⟩
theorem eB {G G':Prop} (h:G') (k:Hold G'→G:=by
 intro hEnd
 first
  | (refine aBl ?_)
  | (refine aw_skip ?_;simp only [thenQ,bkQ,if_true])
  | (refine aw_exit ?_;simp [thenQ,bkQ])
  | (refine aw_ret ?_;simp only [thenQ,bkQ])
  | (refine aRd ?_)
 exact hEnd.out):G:=k ⟨h⟩
theorem eqLs:eqL [] []=some true∧(∀ k a xs k' b ys,eqL (.v (.int k a)::xs) (.v (.int k' b)::ys)=if k=k' then (eqL xs ys).map (decide (a=b)&&·) else none)∧∀ a xs b ys,eqL (.v (.bool a)::xs) (.v (.bool b)::ys)=(eqL xs ys).map ((a == b)&&·):=⟨rfl,fun _ _ _ _ _ _=>rfl,fun _ _ _ _=>rfl⟩
theorem sameKs:sameK [] []=true∧(∀ k z r k' x s,sameK (.int k z::r) (.v (.int k' x)::s)=(decide (k=k')&&sameK r s))∧∀ z r x s,sameK (.bool z::r) (.v (.bool x)::s)=sameK r s:=⟨rfl,fun _ _ _ _ _ _=>rfl,fun _ _ _ _=>rfl⟩
theorem dt {G:Prop} (h:G:=by first|omega|(refine decide_eq_decide.2 ?_;omega)|(refine decide_eq_false ?_;omega)|(refine decide_eq_true ?_;omega)):G:=h
theorem dle {G:Prop} (h:G:=by exact le_of2 (by simp) (by simp [AVle,AV.under,AV.underL]<;>omega) (by simp [AOle,AO.under,AV.underL,AV.under]<;>omega)):G:=h
end Go.AM
namespace Go.AM
open Go Go.Proofs Tryz
@[simp] theorem ty3:Types prog 3=some ⟨.int .i64,1,8,[.int .i64 0]⟩:=by kernel_rfl
@[simp] theorem ty4:Types prog 4=some ⟨.bool,1,1,[.bool false]⟩:=by kernel_rfl
@[simp] theorem tyU:Types prog 76=some ⟨.int .u64,1,8,[.int .u64 0]⟩:=by kernel_rfl
@[simp] theorem tyE:Types prog 103=some ⟨.struct [(0,3,1),(1,3,1),(2,4,1),(3,4,1),(4,4,1),(5,4,1)],6,24,[.int .i64 0,.int .i64 0,.bool false,.bool false,.bool false,.bool false]⟩:=by kernel_rfl
@[simp] theorem tyTab:Types prog 63=some ⟨.struct [(0,3,1),(1,60,1),(2,61,1)],3,56,[.int .i64 0,.slice none 0 0,.slice none 0 0]⟩:=by kernel_rfl
@[simp] theorem tyNs:Types prog 60=some ⟨.slice 150,1,24,[.slice none 0 0]⟩:=by kernel_rfl
@[simp] theorem tyDs:Types prog 61=some ⟨.slice 170,1,24,[.slice none 0 0]⟩:=by kernel_rfl
@[simp] theorem tyN:Types prog 150=some ⟨.struct [(0,3,1),(1,148,8)],9,72,.int .i64 0::List.replicate 8 (.int .u64 0)⟩:=by kernel_rfl
@[simp] theorem tyW8:Types prog 148=some ⟨.array 8 76,8,64,List.replicate 8 (.int .u64 0)⟩:=by kernel_rfl
@[simp] theorem tyD:Types prog 170=some ⟨.struct [(0,3,1),(1,3,1)],2,16,[.int .i64 0,.int .i64 0]⟩:=by kernel_rfl
@[simp] theorem tyIs:Types prog 89=some ⟨.slice 3,1,24,[.slice none 0 0]⟩:=by kernel_rfl
@[simp] theorem tyBs:Types prog 177=some ⟨.slice 4,1,24,[.slice none 0 0]⟩:=by kernel_rfl
@[simp] theorem tySt:Types prog 173=some ⟨.struct [(0,3,1),(1,3,1),(2,76,1)],3,24,[.int .i64 0,.int .i64 0,.int .u64 0]⟩:=by kernel_rfl
theorem mixed:prog.follows .mixedOrders=true:=by kernel_rfl
theorem okc {X:AX} (h:XOK prog X) (N:Nat) (w0:World) (G:Nat→Prop):Cx.OK ⟨prog,X,N,w0,.pure G⟩:=⟨h,mixed⟩
noncomputable section
set_option maxRecDepth 20000
def FitV (t:TypeId):Value→Prop
 | .int q _=>prog.underlying t=some (.int q)
 | .bool _=>prog.underlying t=some .bool
 | _=>False
def fitB (t:TypeId):Value→Bool
 | .int q _=>match prog.underlying t with
  | some (.int q')=>decide (q'=q)
  | _=>false
 | .bool _=>match prog.underlying t with
  | some .bool=>true
  | _=>false
 | _=>false
theorem fitB_ok {t:TypeId} {v:Value} (h:fitB t v=true):FitV t v:=by
 cases v<;>simp only [fitB,Bool.false_eq_true] at h
 all_goals (split at h<;>simp only [Bool.false_eq_true,decide_eq_true_eq] at h)
 ·assumption
 ·subst h;assumption
def plB:List Field→Nat→List Value→Bool
 | [],_,[]=>true
 | f :: fs, k, z :: Z => (f.name != "_" && decide (f.offset = k) && prog.plainKey f.type && fitB f.type z) && plB fs (k + 1) Z
 | _,_,_=>false
def PlF:List Field→Nat→List Value→Prop
 | [],_,[]=>True
 | f :: fs, k, z :: Z => (f.name ≠ "_" ∧ f.offset = k ∧ prog.plainKey f.type = true ∧ FitV f.type z) ∧ PlF fs (k + 1) Z
 | _,_,_=>False
theorem plB_ok:∀ {fs:List Field} {k:Nat} {Z:List Value},plB fs k Z=true→PlF fs k Z
 | [],_,[],_=>trivial
 | f::fs,k,z::Z,h=>by
  simp only [plB,Bool.and_eq_true,bne_iff_ne,decide_eq_true_eq] at h
  obtain ⟨⟨⟨⟨h1,h2⟩,h3⟩,h4⟩,h5⟩:=h
  exact ⟨⟨h1,h2,h3,fitB_ok h4⟩,plB_ok h5⟩
 | [],_,_::_,h=>by simp [plB] at h
 | _::_,_,[],h=>by simp [plB] at h
theorem eqG (w:World):∀ {Z:List Value} {fs:List Field} {k:Nat},PlF fs k Z→∀ {px py xs ys:List Value} {b:Bool},px.length=k→py.length=k→sameKV Z xs=true→eqV xs ys=some b →
  (Op.eqFields 9999 (px++xs).toArray (py++ys).toArray fs).run prog w=.ok b w
 | [],[],k,_,px,py,xs,ys,b,_,_,hs,he=>by
  cases xs with
  | nil =>
   cases ys with
   | nil=>simp [eqV] at he;subst he;rfl
   | cons y ys=>simp [eqV] at he
  | cons x xs=>simp [sameKV] at hs
 | z::Z,f::fs,k,h,px,py,xs,ys,b,hp,hq,hs,he=>by
  simp only [PlF] at h
  obtain ⟨⟨n1,o1,p1,t1⟩,h⟩:=h
  cases xs with
  | nil=>cases z<;>simp [sameKV] at hs
  | cons x xs =>
   cases ys with
   | nil=>cases x<;>simp [eqV] at he
   | cons y ys =>
    have hx:(px++x::xs).toArray[k]?=some x:=by simp [← hp]
    have hy:(py++y::ys).toArray[k]?=some y:=by simp [← hq]
    have ex:px++x::xs=(px++[x])++xs:=by simp
    have ey:py++y::ys=(py++[y])++ys:=by simp
    simp only [Op.eqFields]
    rw [if_pos n1,o1]
    simp only [Sem.run_bind]
    rw [run_part_plain w p1 hx]
    simp only [Result.andThen_ok]
    rw [run_part_plain w p1 hy]
    simp only [Result.andThen_ok]
    cases z<;>simp only [FitV] at t1<;>cases x<;>simp only [sameKV,Bool.and_eq_true,decide_eq_true_eq,Bool.false_eq_true] at hs<;>cases y<;>simp only [eqV,reduceCtorEq] at he
    ·rename_i b1 b2 b3
     cases hr:eqV xs ys with
     | none=>simp [hr] at he
     | some r =>
      simp only [hr,Option.map_some,oJ] at he
      have ih:=eqG w h (px:=px++[.bool b2]) (py:=py++[.bool b3]) (by simp [hp]) (by simp [hq]) hs hr
      rw [← ex,← ey] at ih
      rw [run_equalIn_bool' w _ f.type _ _ t1]
      simp only [Result.andThen_ok]
      by_cases e:(b2 == b3)=true
      ·simp only [e,Bool.not_true,Bool.false_eq_true,if_false,ih,Bool.true_and] at he ⊢
       rw [he]
      ·simp only [Bool.not_eq_true] at e
       simp only [e,Bool.false_and] at he ⊢
       simp [← he]
    ·rename_i q0 n0 q1 n1' q2 n2
     split at he
     case isFalse=>simp at he
     rename_i hk
     subst hk
     obtain ⟨rfl,hs⟩:=hs
     cases hr:eqV xs ys with
     | none=>simp [hr] at he
     | some r =>
      simp only [hr,Option.map_some,oJ] at he
      have ih:=eqG w h (px:=px++[.int q0 n1']) (py:=py++[.int q0 n2]) (by simp [hp]) (by simp [hq]) hs hr
      rw [← ex,← ey] at ih
      rw [run_equalIn_int w _ f.type q0 q0 _ _ t1]
      simp only [Result.andThen_ok]
      by_cases e:n1'=n2
      ·subst e
       simp only [beq_self_eq_true,Bool.not_true,Bool.false_eq_true,if_false,ih,decide_true,Bool.true_and] at he ⊢
       rw [he]
      ·have hb:(n1' == n2)=false:=by simpa using e
       simp only [hb,Bool.not_false,if_true,Sem.run_pure]
       simp only [e,decide_false,Bool.false_and] at he
       rw [← he]
 | [],_::_,_,h,_,_,_,_,_,_,_,_,_=>by simp [PlF] at h
 | _::_,[],_,h,_,_,_,_,_,_,_,_,_=>by simp [PlF] at h
theorem ckP {w:World} {t:TypeId} {v:Value} {b:Bool} {d:Nat} (h:prog.plainKey t=true) (hv:FitV t v):(Instr.checkKey b (d+1) t v).run prog w=.ok () w:=by
 cases v<;>simp only [FitV] at hv<;>(rw [Instr.checkKey];simp [run_underlying hv])
theorem ckG (w:World) (em:Bool) (d:Nat):∀ {Z:List Value} {fs:List Field} {k:Nat},PlF fs k Z→∀ {px xs:List Value},px.length=k→sameKV Z xs=true →
  (forIn fs PUnit.unit fun f (_ : PUnit) => (if f.name ≠ "_" then do
    let a ← part f.type (px++xs).toArray f.offset
    Instr.checkKey em (d+1) f.type a
    pure (ForInStep.yield PUnit.unit)
   else pure (ForInStep.yield PUnit.unit):Sem (ForInStep PUnit))).run prog w=.ok PUnit.unit w
 | [],[],k,_,px,xs,_,_=>rfl
 | z::Z,f::fs,k,h,px,xs,hp,hs=>by
  simp only [PlF] at h
  obtain ⟨⟨n1,o1,p1,t1⟩,h⟩:=h
  cases xs with
  | nil=>cases z<;>simp [sameKV] at hs
  | cons x xs =>
   have hx:(px++x::xs).toArray[k]?=some x:=by simp [← hp]
   have ex:px++x::xs=(px++[x])++xs:=by simp
   have key:sameKV Z xs=true∧FitV f.type x:=by
    clear hx ex
    cases z<;>simp only [FitV] at t1<;>cases x<;>simp only [sameKV,Bool.and_eq_true,decide_eq_true_eq,Bool.false_eq_true] at hs
    ·exact ⟨hs,t1⟩
    ·obtain ⟨rfl,hs⟩:=hs
     exact ⟨hs,t1⟩
   have ih:=ckG w em d h (px:=px++[x]) (xs:=xs) (by simp [hp]) key.1
   rw [← ex] at ih
   simp only [List.forIn_cons,Sem.run_bind]
   rw [if_pos n1,o1]
   simp only [Sem.run_bind]
   rw [run_part_plain w p1 hx]
   simp only [Result.andThen_ok,ckP p1 key.2,Sem.run_pure]
   exact ih
 | [],_::_,_,h,_,_,_,_=>by simp [PlF] at h
 | _::_,[],_,h,_,_,_,_=>by simp [PlF] at h
theorem eqok_plain {t:TypeId} (hu:prog.underlying t=some (.struct (prog.fieldsOf t))) (hf:∀ d,Types prog t=some d→PlF (prog.fieldsOf t).toList 0 d.zero) (hp:prog.stoodInHeld t=false) (hg:prog.eqGuardType prog.depth t=false):EqOK prog t:=by
 intro d hd
 refine ⟨fun w xs b hk=>?_,fun w xs ys b hk he=>⟨?_,hg⟩⟩
 ·rw [show (10000:Nat)=9998+1+1 from rfl,Instr.checkKey]
  simp only [Sem.run_bind,run_underlying hu,Result.andThen_ok]
  rw [← Array.forIn_toList]
  have:=ckG w b 9998 (hf d hd) (px:=[]) rfl hk
  rw [List.nil_append] at this
  rw [this]
  rfl
 ·unfold Op.equal
  rw [show Op.maxDepth=9999+1 from rfl,run_equalIn_agg w _ t _ _ hu hp]
  have:=eqG w (hf d hd) (px:=[]) (py:=[]) rfl rfl hk he
  simpa using this
theorem eqE:EqOK prog 103:=eqok_plain (by kernel_rfl) (fun d hd=>by
 rw [tyE,oJ] at hd
 subst hd
 exact plB_ok (by kernel_rfl)) (by kernel_rfl) (by kernel_rfl)
end
set_option maxHeartbeats 1000000
abbrev En:=Int×Int×Bool×Bool×Bool×Bool
def EnV (e:En):AV:=.agg [I e.1,I e.2.1,B e.2.2.1,B e.2.2.2.1,B e.2.2.2.2.1,B e.2.2.2.2.2]
def U (n:Int):AV:=.v (.int .u64 n)
theorem EnV_inj {a b:En}:EnV a=EnV b↔a=b:=by
 obtain ⟨a1,a2,a3,a4,a5,a6⟩:=a
 obtain ⟨b1,b2,b3,b4,b5,b6⟩:=b
 simp [EnV,I,B]
def noFl (e:En):Bool:=!e.2.2.1&&(!e.2.2.2.1&&(!e.2.2.2.2.1&&!e.2.2.2.2.2))
def frmE (e:En):Bool :=
 if e.1=1 then true
 else if e.1=3 then !e.2.2.2.1&&(!e.2.2.2.2.1&&!e.2.2.2.2.2)
 else if e.1=0 then decide (e.2.1=0)&&noFl e
 else if e.1=2∨e.1=4 then noFl e else false
def wT (f:FuncId):Bool:=Nat.beq f 116||Nat.beq f 123||Nat.beq f 186||Nat.beq f 129||Nat.beq f 130||Nat.beq f 135||Nat.beq f 138||Nat.beq f 149||Nat.beq f 147||Nat.beq f 214||Nat.beq f 125||Nat.beq f 153||Nat.beq f 140||Nat.beq f 192||Nat.beq f 190||Nat.beq f 60||Nat.beq f 189||Nat.beq f 191||Nat.beq f 188||Nat.beq f 141||Nat.beq f 193||Nat.beq f 148||Nat.beq f 136||Nat.beq f 144||Nat.beq f 146||Nat.beq f 183||Nat.beq f 210||Nat.beq f 208||Nat.beq f 999999||Nat.beq f 999999||Nat.beq f 70||Nat.beq f 71||Nat.beq f 72||Nat.beq f 155||Nat.beq f 16||Nat.beq f 74||Nat.beq f 75||Nat.beq f 24||Nat.beq f 203||Nat.beq f 205||Nat.beq f 999999||Nat.beq f 999999||Nat.beq f 84||Nat.beq f 88||Nat.beq f 85||Nat.beq f 82
def fb (b:Bool) (n:Int):Int:=if b then n else 0
theorem s196 (X:AX) (hX:XOK prog X):PSd prog 196 (spF (ι:=Bool×Int) (fun x=>[B x.1,U x.2]) fun x=>rtO [U (fb x.1 x.2)]):=by
 refine psS hX mixed func196 rfl fun ⟨b,n⟩ w0 G=>⟨by show 2≤7;decide,rfl,?_⟩
 show AW ⟨prog,X,7,w0,.pure G⟩ _ _ _
 have hc:=okc hX 7 w0 G
 unfold U
 cases b
 ·refine dM8o ?_
  repeat (intro K hK)
  refine ⟨by simp,?_⟩
  simp [lvI,f196,fb]
  try exact dt
 ·refine dM8o ?_
  repeat (intro K hK)
  refine ⟨by simp,?_⟩
  simp [lvI,f196,fb]
  try exact dt
theorem s217 (X:AX) (hX:XOK prog X):PSd prog 217 (spF (ι:=Bool×Int) (fun x=>[B x.1,U x.2]) fun x=>rtO [U (fb x.1 x.2)]):=by
 refine psS hX mixed func217 rfl fun ⟨b,n⟩ w0 G=>⟨by show 2≤7;decide,rfl,?_⟩
 show AW ⟨prog,X,7,w0,.pure G⟩ _ _ _
 have hc:=okc hX 7 w0 G
 unfold U
 cases b
 ·refine dM8o ?_
  repeat (intro K hK)
  refine ⟨by simp,?_⟩
  simp [lvI,f217,fb]
  try exact dt
 ·refine dM8o ?_
  repeat (intro K hK)
  refine ⟨by simp,?_⟩
  simp [lvI,f217,fb]
  try exact dt
theorem s195 (X:AX) (hX:XOK prog X) (hw:X.W wT) (he:X.eqs 103=true):PSd prog 195 (spF (ι:={e:En // 0≤e.1∧e.1≤4}) (fun x=>[EnV x.1]) fun x=>rtO [B (frmE x.1)]):=by
 refine psS hX mixed func195 rfl fun ⟨⟨k,f,d,a,x,h⟩,hk1,hk2⟩ w0 G=>⟨by show 1≤32;decide,rfl,?_⟩
 show AW ⟨prog,X,32,w0,.pure G⟩ _ _ _
 have hc:=okc hX 32 w0 G
 simp only at hk1 hk2
 unfold EnV
 simp only
 have hk:k=0∨k=1∨k=2∨k=3∨k=4:=by omega
 rcases hk with rfl|rfl|rfl|rfl|rfl
 ·have zS:=jj he<|jj eqLs<|sameKs
  refine dM8 ?_
  repeat (intro K hK)
  clear zS
  refine ⟨by simp,?_⟩
  simp [lvI,f195,frmE,noFl]
  try exact dt
 ·have zS:=jj he<|jj eqLs<|sameKs
  refine dM8 ?_
  repeat (intro K hK)
  clear zS
  refine ⟨by simp,?_⟩
  simp [lvI,f195,frmE,noFl]
  try exact dt
 ·have zS:=jj he<|jj eqLs<|sameKs
  refine dM8 ?_
  repeat (intro K hK)
  clear zS
  refine ⟨by simp,?_⟩
  simp [lvI,f195,frmE,noFl]
  try exact dt
 ·have zS:=jj he<|jj eqLs<|sameKs
  refine dM8 ?_
  repeat (intro K hK)
  clear zS
  refine ⟨by simp,?_⟩
  simp [lvI,f195,frmE,noFl]
  try exact dt
 ·have zS:=jj he<|jj eqLs<|sameKs
  refine dM8 ?_
  repeat (intro K hK)
  clear zS
  refine ⟨by simp,?_⟩
  simp [lvI,f195,frmE,noFl]
  try exact dt
theorem s216 (X:AX) (hX:XOK prog X) (hw:X.W wT) (he:X.eqs 103=true):PSd prog 216 (spF (ι:={e:En // 0≤e.1∧e.1≤4}) (fun x=>[EnV x.1]) fun x=>rtO [B (frmE x.1)]):=by
 refine psS hX mixed func216 rfl fun ⟨⟨k,f,d,a,x,h⟩,hk1,hk2⟩ w0 G=>⟨by show 1≤45;decide,rfl,?_⟩
 show AW ⟨prog,X,45,w0,.pure G⟩ _ _ _
 have hc:=okc hX 45 w0 G
 simp only at hk1 hk2
 unfold EnV
 simp only
 have hk:k=0∨k=1∨k=2∨k=3∨k=4:=by omega
 rcases hk with rfl|rfl|rfl|rfl|rfl
 ·have zS:=jj he<|jj eqLs<|sameKs
  refine dM8 ?_
  repeat (intro K hK)
  clear zS
  refine ⟨by simp,?_⟩
  simp [lvI,f216,frmE,noFl]
  try exact dt
 ·repeat' (first|(apply aSk;intro K hK)|(refine aw_run hc (by first|exact aw_nod|(intro _;rw [ordB_w hw];kernel_rfl)|(intro _;rw [ordB_w0 hw0];kernel_rfl)|(intro _;kernel_rfl)) ?_;simp [List.zipIdx,he,eqL,sameK,-getM,gMh,gMm,gMn];(repeat (simp (disch:=first|omega|assumption|fail) only [if_pos,if_neg,wrap8];try simp [List.zipIdx,he,eqL,sameK,-getM,gMh,gMm,gMn]));try (repeat' (refine gQs (fun h=>?_) (fun h=>?_)<;>simp at h<;>(simp [List.zipIdx,he,eqL,sameK,-getM,gMh,gMm,gMn];(repeat (simp (disch:=first|omega|assumption|fail) only [if_pos,if_neg,wrap8];try simp [List.zipIdx,he,eqL,sameK,-getM,gMh,gMm,gMn]))))))|(refine eC (fun h=>?_) (fun h=>?_)<;>(try simp at h))|(refine aBl ?_)|(refine aw_skip ?_;simp only [thenQ,bkQ,if_true])|(refine aw_exit ?_;simp [thenQ,bkQ])|(refine aw_ret ?_;simp only [thenQ,bkQ])|(refine aRd ?_)|(refine hK _ ?_;clear hK)|(clear hK;refine hK _ ?_;clear hK)|(clear hK;clear hK;refine hK _ ?_;clear hK)|(clear hK;clear hK;clear hK;refine hK _ ?_;clear hK))
  refine ⟨by simp,?_⟩
  simp [lvI,f216,frmE,noFl]
  try exact dt
 ·repeat' (first|(apply aSk;intro K hK)|(refine aw_run hc (by first|exact aw_nod|(intro _;rw [ordB_w hw];kernel_rfl)|(intro _;rw [ordB_w0 hw0];kernel_rfl)|(intro _;kernel_rfl)) ?_;simp [List.zipIdx,he,eqL,sameK,-getM,gMh,gMm,gMn];(repeat (simp (disch:=first|omega|assumption|fail) only [if_pos,if_neg,wrap8];try simp [List.zipIdx,he,eqL,sameK,-getM,gMh,gMm,gMn]));try (repeat' (refine gQs (fun h=>?_) (fun h=>?_)<;>simp at h<;>(simp [List.zipIdx,he,eqL,sameK,-getM,gMh,gMm,gMn];(repeat (simp (disch:=first|omega|assumption|fail) only [if_pos,if_neg,wrap8];try simp [List.zipIdx,he,eqL,sameK,-getM,gMh,gMm,gMn]))))))|(refine eC (fun h=>?_) (fun h=>?_)<;>(try simp at h))|(refine aBl ?_)|(refine aw_skip ?_;simp only [thenQ,bkQ,if_true])|(refine aw_exit ?_;simp [thenQ,bkQ])|(refine aw_ret ?_;simp only [thenQ,bkQ])|(refine aRd ?_)|(refine hK _ ?_;clear hK)|(clear hK;refine hK _ ?_;clear hK)|(clear hK;clear hK;refine hK _ ?_;clear hK)|(clear hK;clear hK;clear hK;refine hK _ ?_;clear hK))
  all_goals (refine ⟨by simp,?_⟩;simp_all [lvI,frmE,noFl])
 ·repeat' (first|(apply aSk;intro K hK)|(refine aw_run hc (by first|exact aw_nod|(intro _;rw [ordB_w hw];kernel_rfl)|(intro _;rw [ordB_w0 hw0];kernel_rfl)|(intro _;kernel_rfl)) ?_;simp [List.zipIdx,he,eqL,sameK,-getM,gMh,gMm,gMn];(repeat (simp (disch:=first|omega|assumption|fail) only [if_pos,if_neg,wrap8];try simp [List.zipIdx,he,eqL,sameK,-getM,gMh,gMm,gMn]));try (repeat' (refine gQs (fun h=>?_) (fun h=>?_)<;>simp at h<;>(simp [List.zipIdx,he,eqL,sameK,-getM,gMh,gMm,gMn];(repeat (simp (disch:=first|omega|assumption|fail) only [if_pos,if_neg,wrap8];try simp [List.zipIdx,he,eqL,sameK,-getM,gMh,gMm,gMn]))))))|(refine eC (fun h=>?_) (fun h=>?_)<;>(try simp at h))|(refine aBl ?_)|(refine aw_skip ?_;simp only [thenQ,bkQ,if_true])|(refine aw_exit ?_;simp [thenQ,bkQ])|(refine aw_ret ?_;simp only [thenQ,bkQ])|(refine aRd ?_)|(refine hK _ ?_;clear hK)|(clear hK;refine hK _ ?_;clear hK)|(clear hK;clear hK;refine hK _ ?_;clear hK)|(clear hK;clear hK;clear hK;refine hK _ ?_;clear hK))
  all_goals (refine ⟨by simp,?_⟩;simp_all [lvI,frmE,noFl])
 ·repeat' (first|(apply aSk;intro K hK)|(refine aw_run hc (by first|exact aw_nod|(intro _;rw [ordB_w hw];kernel_rfl)|(intro _;rw [ordB_w0 hw0];kernel_rfl)|(intro _;kernel_rfl)) ?_;simp [List.zipIdx,he,eqL,sameK,-getM,gMh,gMm,gMn];(repeat (simp (disch:=first|omega|assumption|fail) only [if_pos,if_neg,wrap8];try simp [List.zipIdx,he,eqL,sameK,-getM,gMh,gMm,gMn]));try (repeat' (refine gQs (fun h=>?_) (fun h=>?_)<;>simp at h<;>(simp [List.zipIdx,he,eqL,sameK,-getM,gMh,gMm,gMn];(repeat (simp (disch:=first|omega|assumption|fail) only [if_pos,if_neg,wrap8];try simp [List.zipIdx,he,eqL,sameK,-getM,gMh,gMm,gMn]))))))|(refine eC (fun h=>?_) (fun h=>?_)<;>(try simp at h))|(refine aBl ?_)|(refine aw_skip ?_;simp only [thenQ,bkQ,if_true])|(refine aw_exit ?_;simp [thenQ,bkQ])|(refine aw_ret ?_;simp only [thenQ,bkQ])|(refine aRd ?_)|(refine hK _ ?_;clear hK)|(clear hK;refine hK _ ?_;clear hK)|(clear hK;clear hK;refine hK _ ?_;clear hK)|(clear hK;clear hK;clear hK;refine hK _ ?_;clear hK))
  all_goals (refine ⟨by simp,?_⟩;simp_all [lvI,frmE,noFl])
end Go.AM
namespace Go.AM
open Go
theorem wrapU {n:Nat} (h:n<2^64):IntKind.u64.wrap (n:Int)=n:=by
 have:(2:Nat)^64=18446744073709551616:=by decide
 simp [IntKind.wrap,IntKind.signed,IntKind.bits]
 omega
theorem toNat_u {n:Nat} (h:n<2^64):(BitVec.ofInt 64 (n:Int)).toNat=n:=by
 rw [BitVec.toNat_ofInt]
 omega
theorem bitI_or {x y j:Nat} (hx:x<2^j) (h:x+y*2^j<2^64):bitI .or .u64 (x:Int) ((y*2^j:Nat):Int)=((x+y*2^j:Nat):Int):=by
 unfold bitI
 have e:(BitVec.ofInt 64 (x:Int) ||| BitVec.ofInt 64 ((y*2^j:Nat):Int)).toNat=x+y*2^j:=by
  rw [BitVec.toNat_or,toNat_u (by omega),toNat_u (by omega)]
  have:=Nat.shiftLeft_add_eq_or_of_lt hx y
  rw [Nat.shiftLeft_eq] at this
  rw [Nat.or_comm,← this,Nat.add_comm]
 show IntKind.u64.wrap (((BitVec.ofInt 64 (x:Int) ||| BitVec.ofInt 64 ((y*2^j:Nat):Int)).toNat:Nat):Int)=_
 rw [e]
 exact wrapU h
theorem bitI_and {x y:Nat} (hx:x<2^64) (hy:y<2^64):bitI .and .u64 (x:Int) (y:Int)=((x &&& y:Nat):Int):=by
 unfold bitI
 show IntKind.u64.wrap (((BitVec.ofInt 64 (x:Int) &&& BitVec.ofInt 64 (y:Int)).toNat:Nat):Int)=_
 rw [BitVec.toNat_and,toNat_u hx,toNat_u hy]
 exact wrapU (Nat.lt_of_le_of_lt Nat.and_le_left hx)
theorem and_mask (x j:Nat):x &&& (2^j - 1)=x%2^j:=Nat.and_two_pow_sub_one_eq_mod x j
theorem and_bit (x j:Nat):x &&& 2^j=if x.testBit j then 2^j else 0:=by
 refine Nat.eq_of_testBit_eq fun i=>?_
 rw [Nat.testBit_and,Nat.testBit_two_pow]
 by_cases h:j=i
 ·subst h
  cases hx:x.testBit j<;>simp [Nat.testBit_two_pow]
 ·have:¬ i=j:=fun e=>h e.symm
  cases hx:x.testBit j<;>simp [Nat.testBit_two_pow,h]
end Go.AM
namespace Go.AM
open Go Go.Proofs Tryz
theorem fb_rng (b:Bool) {n:Int} (h:0≤n):0≤fb b n∧fb b n≤n:=by
 unfold fb;cases b<;>simp<;>omega
theorem or_fb {x:Int} (b:Bool) {j:Nat} (h0:0≤x) (h1:x<2^j) (h2:j<63):bitI .or .u64 x (fb b (2^j))=x+fb b (2^j):=by
 obtain ⟨n,rfl⟩:∃ n:Nat,x=n:=⟨x.toNat,by omega⟩
 have hn:n<2^j:=by exact_mod_cast h1
 have hp:2^j≤2^62:=Nat.pow_le_pow_right (by omega) (by omega)
 have h62:(2:Nat)^62=4611686018427387904:=by decide
 have h64:(2:Nat)^64=18446744073709551616:=by decide
 have:=bitI_or (x:=n) (y:=if b then 1 else 0) (j:=j) hn (by cases b<;>simp<;>omega)
 unfold fb
 cases b
 ·simpa using this
 ·simpa using this
theorem or8 {x:Int} (b:Bool) (h0:0≤x) (h1:x<8):bitI .or .u64 x (fb b 8)=x+fb b 8:=or_fb b (j:=3) h0 h1 (by omega)
theorem or16 {x:Int} (b:Bool) (h0:0≤x) (h1:x<16):bitI .or .u64 x (fb b 16)=x+fb b 16:=or_fb b (j:=4) h0 h1 (by omega)
theorem or32 {x:Int} (b:Bool) (h0:0≤x) (h1:x<32):bitI .or .u64 x (fb b 32)=x+fb b 32:=or_fb b (j:=5) h0 h1 (by omega)
theorem or64 {x:Int} (b:Bool) (h0:0≤x) (h1:x<64):bitI .or .u64 x (fb b 64)=x+fb b 64:=or_fb b (j:=6) h0 h1 (by omega)
theorem or_top {x f:Int} (h0:0≤x) (h1:x<256) (h2:0≤f) (h3:f≤4294967295):bitI .or .u64 x (f*256)=x+f*256:=by
 obtain ⟨n,rfl⟩:∃ n:Nat,x=n:=⟨x.toNat,by omega⟩
 obtain ⟨m,rfl⟩:∃ m:Nat,f=m:=⟨f.toNat,by omega⟩
 have h64:(2:Nat)^64=18446744073709551616:=by decide
 have:=bitI_or (x:=n) (y:=m) (j:=8) (by omega) (by omega)
 simpa using this
def encW (e:En):Int:=e.1+fb e.2.2.1 8+fb e.2.2.2.1 16+fb e.2.2.2.2.1 32+fb e.2.2.2.2.2 64+e.2.1*256
def badF (e:En):Prop:=e.2.1<0∨4294967295<e.2.1∨e.1=1∧e.2.2.2.2.2=true∧4294967288<e.2.1
instance (e:En):Decidable (badF e):=by unfold badF;infer_instance
def encR (e:En):Int×Int:=if 0≤e.1∧e.1≤4 then (if badF e then (0,2) else if frmE e=true then (encW e,0) else (0,3)) else (0,1)
theorem encR_k {e:En} (h:¬ (0≤e.1∧e.1≤4)):encR e=(0,1):=by unfold encR;rw [if_neg h]
theorem encR_f {e:En} (h:0≤e.1∧e.1≤4) (h2:badF e):encR e=(0,2):=by unfold encR;rw [if_pos h,if_pos h2]
theorem encR_m {e:En} (h:0≤e.1∧e.1≤4) (h2:¬ badF e) (h3:frmE e=false):encR e=(0,3):=by unfold encR;rw [if_pos h,if_neg h2,h3];rfl
theorem encR_z {e:En} (h:0≤e.1∧e.1≤4) (h2:¬ badF e) (h3:frmE e=true):encR e=(encW e,0):=by unfold encR;rw [if_pos h,if_neg h2,if_pos h3]
theorem encSteps {k f:Int} {d a x h:Bool} (hk:0≤k∧k≤4) (hf:0≤f∧f≤4294967295):∃ w1 w2 w3 w4:Int,bitI .or .u64 k (fb d 8)=w1∧bitI .or .u64 w1 (fb a 16)=w2∧bitI .or .u64 w2 (fb x 32)=w3∧bitI .or .u64 w3 (fb h 64)=w4∧bitI .or .u64 w4 (f*256)=encW (k,f,d,a,x,h):=by
 have r1:=fb_rng d (n:=8) (by omega)
 have r2:=fb_rng a (n:=16) (by omega)
 have r3:=fb_rng x (n:=32) (by omega)
 have r4:=fb_rng h (n:=64) (by omega)
 refine ⟨_,_,_,_,or8 d (by omega) (by omega),or16 a (by omega) (by omega),or32 x (by omega) (by omega),or64 h (by omega) (by omega),?_⟩
 rw [or_top (by omega) (by omega) hf.1 hf.2]
 rfl
theorem wrapF {f:Int} (hf:0≤f∧f≤4294967295):IntKind.u64.wrap f=f∧IntKind.u64.wrap (f*256)=f*256:=by
 constructor
 ·exact wrapU64 ⟨by omega,by omega⟩
 ·exact wrapU64 ⟨by omega,by omega⟩
theorem encAll {k f:Int} {d a x h:Bool} (hk:0≤k∧k≤4) (hf:0≤f∧f≤4294967295) :
  bitI .or .u64 (bitI .or .u64 (bitI .or .u64 (bitI .or .u64 (bitI .or .u64 (IntKind.u64.wrap k) (fb d 8)) (fb a 16)) (fb x 32)) (fb h 64)) (IntKind.u64.wrap (IntKind.u64.wrap f*2^min 8 IntKind.u64.bits))=encW (k,f,d,a,x,h):=by
 obtain ⟨w1,w2,w3,w4,v1,v2,v3,v4,v5⟩:=encSteps (d:=d) (a:=a) (x:=x) (h:=h) hk hf
 have e1:f*2^min 8 IntKind.u64.bits=f*256:=by simp [IntKind.bits]
 have e2:IntKind.u64.wrap k=k:=wrapU64 ⟨by omega,by omega⟩
 rw [(wrapF hf).1,e1,e2,(wrapF hf).2,v1,v2,v3,v4,v5]
set_option maxHeartbeats 2000000 in
theorem s143 (X:AX) (hX:XOK prog X) (hw:X.W wT) (hfo:∀ k f d a x h,0≤k∧k≤4→∀ M n,X.call 195 [.agg [I k,I f,B d,B a,B x,B h]] M n=some (B (frmE (k,f,d,a,x,h)),[]))
  (hfl:∀ b c M n,X.call 196 [B b,.v (.int .u64 c)] M n=some (.v (.int .u64 (fb b c)),[])):PSd prog 143 (spF (ι:=En) (fun x=>[EnV x]) fun x=>rtO [U (encR x).1,I (encR x).2]):=by
 refine psS hX mixed func143 rfl fun ⟨k,f,d,a,x,h⟩ w0 G=>⟨by show 1≤63;decide,rfl,?_⟩
 show AW ⟨prog,X,63,w0,.pure G⟩ _ _ _
 have hc:=okc hX 63 w0 G
 unfold EnV U
 simp only
 rcases dE (0≤k∧k≤4) with hk|hk
 ·have hfo':=hfo k f d a x h hk
  rcases dE (badF (k,f,d,a,x,h)) with hb|hb
  ·rw [encR_f hk hb]
   unfold badF at hb
   simp only at hb
   rcases (by omega:k=0∨k=1∨k=2∨k=3∨k=4) with rfl|rfl|rfl|rfl|rfl
   ·rcases dE (f<0) with g1|g1
    ·have zS:=g1
     refine dM8 ?_
     repeat (intro K hK)
     clear zS
     refine ⟨by simp,?_⟩
     simp [lvI,f143]
     try exact dt
    ·have g2:4294967295<f:=by
      rcases hb with hb|hb|hb
      ·exact absurd hb g1
      ·exact hb
      ·exact absurd hb.1 (by omega)
     have zS:=jj g1<|g2
     refine dM8 ?_
     repeat (intro K hK)
     clear zS
     refine ⟨by simp,?_⟩
     simp [lvI,f143]
     try exact dt
   ·rcases dE (f<0) with g1|g1
    ·have zS:=g1
     refine dM8 ?_
     repeat (intro K hK)
     clear zS
     refine ⟨by simp,?_⟩
     simp [lvI,f143]
     try exact dt
    ·rcases dE (4294967295<f) with g2|g2
     ·have zS:=jj g1<|g2
      refine dM8 ?_
      repeat (intro K hK)
      clear zS
      refine ⟨by simp,?_⟩
      simp [lvI,f143]
      try exact dt
     ·have g3:h=true∧4294967288<f:=by
       rcases hb with hb|hb|hb
       ·exact absurd hb g1
       ·exact absurd hb g2
       ·exact hb.2
      obtain ⟨rfl,g3⟩:=g3
      have zS:=jj g1<|jj g2<|g3
      refine dM8 ?_
      repeat (intro K hK)
      clear zS
      refine ⟨by simp,?_⟩
      simp [lvI,f143]
      try exact dt
   ·rcases dE (f<0) with g1|g1
    ·have zS:=g1
     refine dM8 ?_
     repeat (intro K hK)
     clear zS
     refine ⟨by simp,?_⟩
     simp [lvI,f143]
     try exact dt
    ·have g2:4294967295<f:=by
      rcases hb with hb|hb|hb
      ·exact absurd hb g1
      ·exact hb
      ·exact absurd hb.1 (by omega)
     have zS:=jj g1<|g2
     refine dM8 ?_
     repeat (intro K hK)
     clear zS
     refine ⟨by simp,?_⟩
     simp [lvI,f143]
     try exact dt
   ·rcases dE (f<0) with g1|g1
    ·have zS:=g1
     refine dM8 ?_
     repeat (intro K hK)
     clear zS
     refine ⟨by simp,?_⟩
     simp [lvI,f143]
     try exact dt
    ·have g2:4294967295<f:=by
      rcases hb with hb|hb|hb
      ·exact absurd hb g1
      ·exact hb
      ·exact absurd hb.1 (by omega)
     have zS:=jj g1<|g2
     refine dM8 ?_
     repeat (intro K hK)
     clear zS
     refine ⟨by simp,?_⟩
     simp [lvI,f143]
     try exact dt
   ·rcases dE (f<0) with g1|g1
    ·have zS:=g1
     refine dM8 ?_
     repeat (intro K hK)
     clear zS
     refine ⟨by simp,?_⟩
     simp [lvI,f143]
     try exact dt
    ·have g2:4294967295<f:=by
      rcases hb with hb|hb|hb
      ·exact absurd hb g1
      ·exact hb
      ·exact absurd hb.1 (by omega)
     have zS:=jj g1<|g2
     refine dM8 ?_
     repeat (intro K hK)
     clear zS
     refine ⟨by simp,?_⟩
     simp [lvI,f143]
     try exact dt
  ·have hb':=hb
   unfold badF at hb'
   simp only [not_or] at hb'
   have g1:¬ f<0:=hb'.1
   have g2:¬ 4294967295<f:=hb'.2.1
   have g3:=hb'.2.2
   have e5:=@encR_m (k,f,d,a,x,h) hk hb
   have e6:=@encR_z (k,f,d,a,x,h) hk hb
   obtain ⟨W,hW⟩:∃ W,W=encW (k,f,d,a,x,h):=⟨_,rfl⟩
   rw [← hW] at e6
   cases hfm:frmE (k,f,d,a,x,h) with
   | false =>
    rw [e5 hfm]
    rw [hfm] at hfo'
    rcases (by omega:k=0∨k=1∨k=2∨k=3∨k=4) with rfl|rfl|rfl|rfl|rfl
    ·have zS:=jj g1<|jj g2<|hfo'
     refine dM8 ?_
     repeat (intro K hK)
     clear zS
     refine ⟨by simp,?_⟩
     simp [lvI,f143]
     try exact dt
    ·have g4:¬ (h=true∧4294967288<f):=fun hh=>g3 ⟨rfl,hh⟩
     cases h
     ·have zS:=jj g1<|jj g2<|hfo'
      refine dM8 ?_
      repeat (intro K hK)
      clear zS
      refine ⟨by simp,?_⟩
      simp [lvI,f143]
      try exact dt
     ·have g5:¬ 4294967288<f:=fun hh=>g4 ⟨rfl,hh⟩
      have zS:=jj g1<|jj g2<|jj g5<|hfo'
      refine dM8 ?_
      repeat (intro K hK)
      clear zS
      refine ⟨by simp,?_⟩
      simp [lvI,f143]
      try exact dt
    ·have zS:=jj g1<|jj g2<|hfo'
     refine dM8 ?_
     repeat (intro K hK)
     clear zS
     refine ⟨by simp,?_⟩
     simp [lvI,f143]
     try exact dt
    ·have zS:=jj g1<|jj g2<|hfo'
     refine dM8 ?_
     repeat (intro K hK)
     clear zS
     refine ⟨by simp,?_⟩
     simp [lvI,f143]
     try exact dt
    ·have zS:=jj g1<|jj g2<|hfo'
     refine dM8 ?_
     repeat (intro K hK)
     clear zS
     refine ⟨by simp,?_⟩
     simp [lvI,f143]
     try exact dt
   | true =>
    rw [e6 hfm]
    rw [hfm] at hfo'
    clear e5 e6 hfm
    rcases (by omega:k=0∨k=1∨k=2∨k=3∨k=4) with rfl|rfl|rfl|rfl|rfl
    ·have zS:=jj g1<|jj g2<|jj hfo'<|hfl
     refine dM8 ?_
     repeat (intro K hK)
     clear zS
     refine ⟨by simp,?_⟩
     simp [lvI,f143]
     try exact dt
     (rw [hW];refine (encAll ?_ ?_).symm<;>constructor<;>omega)
    ·have g4:¬ (h=true∧4294967288<f):=fun hh=>g3 ⟨rfl,hh⟩
     cases h
     ·have zS:=jj g1<|jj g2<|jj hfo'<|hfl
      refine dM8 ?_
      repeat (intro K hK)
      clear zS
      refine ⟨by simp,?_⟩
      simp [lvI,f143]
      try exact dt
      (rw [hW];refine (encAll ?_ ?_).symm<;>constructor<;>omega)
     ·have g5:¬ 4294967288<f:=fun hh=>g4 ⟨rfl,hh⟩
      have zS:=jj g1<|jj g2<|jj g5<|jj hfo'<|hfl
      refine dM8 ?_
      repeat (intro K hK)
      clear zS
      refine ⟨by simp,?_⟩
      simp [lvI,f143]
      try exact dt
      (rw [hW];refine (encAll ?_ ?_).symm<;>constructor<;>omega)
    ·have zS:=jj g1<|jj g2<|jj hfo'<|hfl
     refine dM8 ?_
     repeat (intro K hK)
     clear zS
     refine ⟨by simp,?_⟩
     simp [lvI,f143]
     try exact dt
     (rw [hW];refine (encAll ?_ ?_).symm<;>constructor<;>omega)
    ·have zS:=jj g1<|jj g2<|jj hfo'<|hfl
     refine dM8 ?_
     repeat (intro K hK)
     clear zS
     refine ⟨by simp,?_⟩
     simp [lvI,f143]
     try exact dt
     (rw [hW];refine (encAll ?_ ?_).symm<;>constructor<;>omega)
    ·have zS:=jj g1<|jj g2<|jj hfo'<|hfl
     refine dM8 ?_
     repeat (intro K hK)
     clear zS
     refine ⟨by simp,?_⟩
     simp [lvI,f143]
     try exact dt
     (rw [hW];refine (encAll ?_ ?_).symm<;>constructor<;>omega)
 ·rw [encR_k hk]
  have e0:¬ k=0:=by omega
  have e1:¬ k=1:=by omega
  have e2:¬ k=2:=by omega
  have e3:¬ k=3:=by omega
  have e4:¬ k=4:=by omega
  have zS:=jj e0<|jj e1<|jj e2<|jj e3<|e4
  refine dM8 ?_
  repeat (intro K hK)
  clear zS
  refine ⟨by simp,?_⟩
  simp [lvI,f143]
  try exact dt
set_option maxHeartbeats 2000000 in
theorem s187 (X:AX) (hX:XOK prog X) (hw:X.W wT) (hfo:∀ k f d a x h,0≤k∧k≤4→∀ M n,X.call 216 [.agg [I k,I f,B d,B a,B x,B h]] M n=some (B (frmE (k,f,d,a,x,h)),[]))
  (hfl:∀ b c M n,X.call 217 [B b,.v (.int .u64 c)] M n=some (.v (.int .u64 (fb b c)),[])):PSd prog 187 (spF (ι:=En) (fun x=>[EnV x]) fun x=>rtO [U (encR x).1,I (encR x).2]):=by
 refine psS hX mixed func187 rfl fun ⟨k,f,d,a,x,h⟩ w0 G=>⟨by show 1≤61;decide,rfl,?_⟩
 show AW ⟨prog,X,61,w0,.pure G⟩ _ _ _
 have hc:=okc hX 61 w0 G
 unfold EnV U
 simp only
 rcases dE (0≤k∧k≤4) with hk|hk
 ·have hfo':=hfo k f d a x h hk
  rcases dE (badF (k,f,d,a,x,h)) with hb|hb
  ·rw [encR_f hk hb]
   unfold badF at hb
   simp only at hb
   rcases (by omega:k=0∨k=1∨k=2∨k=3∨k=4) with rfl|rfl|rfl|rfl|rfl
   ·rcases dE (f<0) with g1|g1
    ·have zS:=g1
     refine dM8 ?_
     repeat (intro K hK)
     clear zS
     refine ⟨by simp,?_⟩
     simp [lvI,f187]
     try exact dt
    ·have g2:4294967295<f:=by
      rcases hb with hb|hb|hb
      ·exact absurd hb g1
      ·exact hb
      ·exact absurd hb.1 (by omega)
     have zS:=jj g1<|g2
     refine dM8 ?_
     repeat (intro K hK)
     clear zS
     refine ⟨by simp,?_⟩
     simp [lvI,f187]
     try exact dt
   ·rcases dE (f<0) with g1|g1
    ·have zS:=g1
     refine dM8 ?_
     repeat (intro K hK)
     clear zS
     refine ⟨by simp,?_⟩
     simp [lvI,f187]
     try exact dt
    ·rcases dE (4294967295<f) with g2|g2
     ·have zS:=jj g1<|g2
      refine dM8 ?_
      repeat (intro K hK)
      clear zS
      refine ⟨by simp,?_⟩
      simp [lvI,f187]
      try exact dt
     ·have g3:h=true∧4294967288<f:=by
       rcases hb with hb|hb|hb
       ·exact absurd hb g1
       ·exact absurd hb g2
       ·exact hb.2
      obtain ⟨rfl,g3⟩:=g3
      have zS:=jj g1<|jj g2<|g3
      refine dM8 ?_
      repeat (intro K hK)
      clear zS
      refine ⟨by simp,?_⟩
      simp [lvI,f187]
      try exact dt
   ·rcases dE (f<0) with g1|g1
    ·have zS:=g1
     refine dM8 ?_
     repeat (intro K hK)
     clear zS
     refine ⟨by simp,?_⟩
     simp [lvI,f187]
     try exact dt
    ·have g2:4294967295<f:=by
      rcases hb with hb|hb|hb
      ·exact absurd hb g1
      ·exact hb
      ·exact absurd hb.1 (by omega)
     have zS:=jj g1<|g2
     refine dM8 ?_
     repeat (intro K hK)
     clear zS
     refine ⟨by simp,?_⟩
     simp [lvI,f187]
     try exact dt
   ·rcases dE (f<0) with g1|g1
    ·have zS:=g1
     refine dM8 ?_
     repeat (intro K hK)
     clear zS
     refine ⟨by simp,?_⟩
     simp [lvI,f187]
     try exact dt
    ·have g2:4294967295<f:=by
      rcases hb with hb|hb|hb
      ·exact absurd hb g1
      ·exact hb
      ·exact absurd hb.1 (by omega)
     have zS:=jj g1<|g2
     refine dM8 ?_
     repeat (intro K hK)
     clear zS
     refine ⟨by simp,?_⟩
     simp [lvI,f187]
     try exact dt
   ·rcases dE (f<0) with g1|g1
    ·have zS:=g1
     refine dM8 ?_
     repeat (intro K hK)
     clear zS
     refine ⟨by simp,?_⟩
     simp [lvI,f187]
     try exact dt
    ·have g2:4294967295<f:=by
      rcases hb with hb|hb|hb
      ·exact absurd hb g1
      ·exact hb
      ·exact absurd hb.1 (by omega)
     have zS:=jj g1<|g2
     refine dM8 ?_
     repeat (intro K hK)
     clear zS
     refine ⟨by simp,?_⟩
     simp [lvI,f187]
     try exact dt
  ·have hb':=hb
   unfold badF at hb'
   simp only [not_or] at hb'
   have g1:¬ f<0:=hb'.1
   have g2:¬ 4294967295<f:=hb'.2.1
   have g3:=hb'.2.2
   have e5:=@encR_m (k,f,d,a,x,h) hk hb
   have e6:=@encR_z (k,f,d,a,x,h) hk hb
   obtain ⟨W,hW⟩:∃ W,W=encW (k,f,d,a,x,h):=⟨_,rfl⟩
   rw [← hW] at e6
   cases hfm:frmE (k,f,d,a,x,h) with
   | false =>
    rw [e5 hfm]
    rw [hfm] at hfo'
    rcases (by omega:k=0∨k=1∨k=2∨k=3∨k=4) with rfl|rfl|rfl|rfl|rfl
    ·have zS:=jj g1<|jj g2<|hfo'
     refine dM8 ?_
     repeat (intro K hK)
     clear zS
     refine ⟨by simp,?_⟩
     simp [lvI,f187]
     try exact dt
    ·have g4:¬ (h=true∧4294967288<f):=fun hh=>g3 ⟨rfl,hh⟩
     cases h
     ·have zS:=jj g1<|jj g2<|hfo'
      refine dM8 ?_
      repeat (intro K hK)
      clear zS
      refine ⟨by simp,?_⟩
      simp [lvI,f187]
      try exact dt
     ·have g5:¬ 4294967288<f:=fun hh=>g4 ⟨rfl,hh⟩
      have zS:=jj g1<|jj g2<|jj g5<|hfo'
      refine dM8 ?_
      repeat (intro K hK)
      clear zS
      refine ⟨by simp,?_⟩
      simp [lvI,f187]
      try exact dt
    ·have zS:=jj g1<|jj g2<|hfo'
     refine dM8 ?_
     repeat (intro K hK)
     clear zS
     refine ⟨by simp,?_⟩
     simp [lvI,f187]
     try exact dt
    ·have zS:=jj g1<|jj g2<|hfo'
     refine dM8 ?_
     repeat (intro K hK)
     clear zS
     refine ⟨by simp,?_⟩
     simp [lvI,f187]
     try exact dt
    ·have zS:=jj g1<|jj g2<|hfo'
     refine dM8 ?_
     repeat (intro K hK)
     clear zS
     refine ⟨by simp,?_⟩
     simp [lvI,f187]
     try exact dt
   | true =>
    rw [e6 hfm]
    rw [hfm] at hfo'
    clear e5 e6 hfm
    rcases (by omega:k=0∨k=1∨k=2∨k=3∨k=4) with rfl|rfl|rfl|rfl|rfl
    ·have zS:=jj g1<|jj g2<|jj hfo'<|hfl
     refine dM8 ?_
     repeat (intro K hK)
     clear zS
     refine ⟨by simp,?_⟩
     simp [lvI,f187]
     try exact dt
     (rw [hW];refine (encAll ?_ ?_).symm<;>constructor<;>omega)
    ·have g4:¬ (h=true∧4294967288<f):=fun hh=>g3 ⟨rfl,hh⟩
     cases h
     ·have zS:=jj g1<|jj g2<|jj hfo'<|hfl
      refine dM8 ?_
      repeat (intro K hK)
      clear zS
      refine ⟨by simp,?_⟩
      simp [lvI,f187]
      try exact dt
      (rw [hW];refine (encAll ?_ ?_).symm<;>constructor<;>omega)
     ·have g5:¬ 4294967288<f:=fun hh=>g4 ⟨rfl,hh⟩
      have zS:=jj g1<|jj g2<|jj g5<|jj hfo'<|hfl
      refine dM8 ?_
      repeat (intro K hK)
      clear zS
      refine ⟨by simp,?_⟩
      simp [lvI,f187]
      try exact dt
      (rw [hW];refine (encAll ?_ ?_).symm<;>constructor<;>omega)
    ·have zS:=jj g1<|jj g2<|jj hfo'<|hfl
     refine dM8 ?_
     repeat (intro K hK)
     clear zS
     refine ⟨by simp,?_⟩
     simp [lvI,f187]
     try exact dt
     (rw [hW];refine (encAll ?_ ?_).symm<;>constructor<;>omega)
    ·have zS:=jj g1<|jj g2<|jj hfo'<|hfl
     refine dM8 ?_
     repeat (intro K hK)
     clear zS
     refine ⟨by simp,?_⟩
     simp [lvI,f187]
     try exact dt
     (rw [hW];refine (encAll ?_ ?_).symm<;>constructor<;>omega)
    ·have zS:=jj g1<|jj g2<|jj hfo'<|hfl
     refine dM8 ?_
     repeat (intro K hK)
     clear zS
     refine ⟨by simp,?_⟩
     simp [lvI,f187]
     try exact dt
     (rw [hW];refine (encAll ?_ ?_).symm<;>constructor<;>omega)
 ·rw [encR_k hk]
  rcases dE (k<0) with e0|e0
  ·have zS:=e0
   refine dM8 ?_
   repeat (intro K hK)
   clear zS
   refine ⟨by simp,?_⟩
   simp [lvI,f187]
   try exact dt
  ·have e1:4<k:=by omega
   have zS:=jj e0<|e1
   refine dM8 ?_
   repeat (intro K hK)
   clear zS
   refine ⟨by simp,?_⟩
   simp [lvI,f187]
   try exact dt
set_option maxHeartbeats 2000000
def prs (n:Nat):En:=(((n%8:Nat):Int),((n/256%4294967296:Nat):Int),n.testBit 3,n.testBit 4,n.testBit 5,n.testBit 6)
def zE:En:=(0,0,false,false,false,false)
def decR (n:Nat):En×Int:=if encR (prs n)=((n:Int),0) then (prs n,0) else (zE,3)
theorem decR_z {n:Nat} (h:encR (prs n)=((n:Int),0)):decR n=(prs n,0):=by unfold decR;rw [if_pos h]
theorem decR_n {n:Nat} (h:¬ encR (prs n)=((n:Int),0)):decR n=(zE,3):=by unfold decR;rw [if_neg h]
theorem fb_zero (b:Bool) {n:Int} (h:n≠0):(fb b n=0)=(b=false):=by
 unfold fb;cases b<;>simp [h]
theorem fb_pos (b:Bool) {n:Int} (h:0<n):(0<fb b n)=(b=true):=by
 unfold fb;cases b<;>simp [h]
theorem and_fb {n:Nat} (hn:n<2^64) {j:Nat} (hj:j<63):bitI .and .u64 (n:Int) ((2^j:Nat):Int)=fb (n.testBit j) ((2^j:Nat):Int):=by
 have hp:2^j<2^64:=Nat.pow_lt_pow_right (by omega) (by omega)
 rw [bitI_and hn hp,and_bit]
 unfold fb
 cases n.testBit j<;>simp
theorem and7 {n:Nat} (hn:n<2^64):bitI .and .u64 (n:Int) 7=((n%8:Nat):Int):=by
 have:=bitI_and (x:=n) (y:=7) hn (by decide)
 rw [show (7:Nat)=2^3 - 1 from rfl,and_mask] at this
 exact this
theorem andF {n:Nat} (hn:n<2^64):bitI .and .u64 ((n:Int)/2^min 8 IntKind.u64.bits) 4294967295=((n/256%4294967296:Nat):Int):=by
 have e:(n:Int)/2^min 8 IntKind.u64.bits=((n/256:Nat):Int):=by
  rw [show (2:Int)^min 8 IntKind.u64.bits=256 by simp [IntKind.bits]]
  omega
 rw [e]
 have:=bitI_and (x:=n/256) (y:=4294967295) (by omega) (by decide)
 rw [show (4294967295:Nat)=2^32 - 1 from rfl,and_mask] at this
 exact this
theorem prs_rng (n:Nat):(0≤(prs n).1∧(prs n).1≤7)∧0≤(prs n).2.1∧(prs n).2.1≤4294967295:=by
 unfold prs
 simp only
 omega
theorem s56 (X:AX) (hX:XOK prog X) (hw:X.W wT) (hen:∀ k f d a x h M n,X.call 143 [.agg [I k,I f,B d,B a,B x,B h]] M n=some (.tup [U (encR (k,f,d,a,x,h)).1,I (encR (k,f,d,a,x,h)).2],[])) :
  PSd prog 56 (spF (ι:={n:Nat // n<2^64}) (fun x=>[U x.1]) fun x=>rtO [EnV (decR x.1).1,I (decR x.1).2]):=by
 refine psS hX mixed func56 rfl fun ⟨n,hn⟩ w0 G=>⟨by show 1≤41;decide,rfl,?_⟩
 show AW ⟨prog,X,41,w0,.pure G⟩ _ _ _
 have hc:=okc hX 41 w0 G
 simp only at hn ⊢
 have p1:=and7 hn
 have p2:=andF hn
 have p3:=and_fb hn (j:=3) (by omega)
 have p4:=and_fb hn (j:=4) (by omega)
 have p5:=and_fb hn (j:=5) (by omega)
 have p6:=and_fb hn (j:=6) (by omega)
 simp only [show ((2^3:Nat):Int)=8 from rfl,show ((2^4:Nat):Int)=16 from rfl,show ((2^5:Nat):Int)=32 from rfl,show ((2^6:Nat):Int)=64 from rfl] at p3 p4 p5 p6
 have hrg:=prs_rng n
 have z3:=fb_zero (n.testBit 3) (n:=8) (by omega)
 have z4:=fb_zero (n.testBit 4) (n:=16) (by omega)
 have z5:=fb_zero (n.testBit 5) (n:=32) (by omega)
 have z6:=fb_zero (n.testBit 6) (n:=64) (by omega)
 have y3:=fb_pos (n.testBit 3) (n:=8) (by omega)
 have y4:=fb_pos (n.testBit 4) (n:=16) (by omega)
 have y5:=fb_pos (n.testBit 5) (n:=32) (by omega)
 have y6:=fb_pos (n.testBit 6) (n:=64) (by omega)
 have hdz:=@decR_z n
 have hdn:=@decR_n n
 obtain ⟨⟨k,f,d,a,x,h⟩,he⟩:∃ e,e=prs n:=⟨_,rfl⟩
 rw [← he] at hrg hdz hdn
 unfold prs at he
 simp only [pJ] at he
 obtain ⟨e1,e2,e3,e4,e5,e6⟩:=he
 rw [← e1] at p1
 rw [← e2] at p2
 rw [← e3] at p3 z3 y3
 rw [← e4] at p4 z4 y4
 rw [← e5] at p5 z5 y5
 rw [← e6] at p6 z6 y6
 clear e1 e2 e3 e4 e5 e6
 simp only at hrg
 have hk:=w64_ (n:=k) (by omega)
 have hf:=w64_ (n:=f) (by omega)
 have hen':=hen k f d a x h
 obtain ⟨⟨W,c⟩,hR⟩:∃ r,r=encR (k,f,d,a,x,h):=⟨_,rfl⟩
 rw [← hR] at hen' hdz hdn
 simp only [pJ] at hdz hdn
 simp only [U] at hen'
 unfold U
 rcases dE (c=0) with h0|h0
 ·rcases dE (W=(n:Int)) with h1|h1
  ·rw [hdz ⟨h1,h0⟩]
   subst h1 h0
   have zS:=jj p1<|jj p2<|jj p3<|jj p4<|jj p5<|jj p6<|jj z3<|jj z4<|jj z5<|jj z6<|jj y3<|jj y4<|jj y5<|jj y6<|jj hk<|jj hf<|hen'
   refine dM8 ?_
   repeat (intro K hK)
   clear zS
   refine ⟨by simp,?_⟩
   simp [lvI,f56,EnV]
   try exact dt
  ·rw [hdn fun hh=>h1 hh.1]
   subst h0
   have zS:=jj p1<|jj p2<|jj p3<|jj p4<|jj p5<|jj p6<|jj z3<|jj z4<|jj z5<|jj z6<|jj y3<|jj y4<|jj y5<|jj y6<|jj hk<|jj hf<|jj hen'<|h1
   refine dM8 ?_
   repeat (intro K hK)
   clear zS
   refine ⟨by simp,?_⟩
   simp [lvI,f56,EnV,zE]
   try exact dt
 ·rw [hdn fun hh=>h0 hh.2]
  have zS:=jj p1<|jj p2<|jj p3<|jj p4<|jj p5<|jj p6<|jj z3<|jj z4<|jj z5<|jj z6<|jj y3<|jj y4<|jj y5<|jj y6<|jj hk<|jj hf<|jj hen'<|h0
  refine dM8 ?_
  repeat (intro K hK)
  clear zS
  refine ⟨by simp,?_⟩
  simp [lvI,f56,EnV,zE]
  try exact dt
theorem s131 (X:AX) (hX:XOK prog X) (hw:X.W wT) (hen:∀ k f d a x h M n,X.call 187 [.agg [I k,I f,B d,B a,B x,B h]] M n=some (.tup [U (encR (k,f,d,a,x,h)).1,I (encR (k,f,d,a,x,h)).2],[])) :
  PSd prog 131 (spF (ι:={n:Nat // n<2^64}) (fun x=>[U x.1]) fun x=>rtO [EnV (decR x.1).1,I (decR x.1).2]):=by
 refine psS hX mixed func131 rfl fun ⟨n,hn⟩ w0 G=>⟨by show 1≤41;decide,rfl,?_⟩
 show AW ⟨prog,X,41,w0,.pure G⟩ _ _ _
 have hc:=okc hX 41 w0 G
 simp only at hn ⊢
 have p1:=and7 hn
 have p2:=andF hn
 have p3:=and_fb hn (j:=3) (by omega)
 have p4:=and_fb hn (j:=4) (by omega)
 have p5:=and_fb hn (j:=5) (by omega)
 have p6:=and_fb hn (j:=6) (by omega)
 simp only [show ((2^3:Nat):Int)=8 from rfl,show ((2^4:Nat):Int)=16 from rfl,show ((2^5:Nat):Int)=32 from rfl,show ((2^6:Nat):Int)=64 from rfl] at p3 p4 p5 p6
 have hrg:=prs_rng n
 have z3:=fb_zero (n.testBit 3) (n:=8) (by omega)
 have z4:=fb_zero (n.testBit 4) (n:=16) (by omega)
 have z5:=fb_zero (n.testBit 5) (n:=32) (by omega)
 have z6:=fb_zero (n.testBit 6) (n:=64) (by omega)
 have y3:=fb_pos (n.testBit 3) (n:=8) (by omega)
 have y4:=fb_pos (n.testBit 4) (n:=16) (by omega)
 have y5:=fb_pos (n.testBit 5) (n:=32) (by omega)
 have y6:=fb_pos (n.testBit 6) (n:=64) (by omega)
 have hdz:=@decR_z n
 have hdn:=@decR_n n
 obtain ⟨⟨k,f,d,a,x,h⟩,he⟩:∃ e,e=prs n:=⟨_,rfl⟩
 rw [← he] at hrg hdz hdn
 unfold prs at he
 simp only [pJ] at he
 obtain ⟨e1,e2,e3,e4,e5,e6⟩:=he
 rw [← e1] at p1
 rw [← e2] at p2
 rw [← e3] at p3 z3 y3
 rw [← e4] at p4 z4 y4
 rw [← e5] at p5 z5 y5
 rw [← e6] at p6 z6 y6
 clear e1 e2 e3 e4 e5 e6
 simp only at hrg
 have hk:=w64_ (n:=k) (by omega)
 have hf:=w64_ (n:=f) (by omega)
 have hen':=hen k f d a x h
 obtain ⟨⟨W,c⟩,hR⟩:∃ r,r=encR (k,f,d,a,x,h):=⟨_,rfl⟩
 rw [← hR] at hen' hdz hdn
 simp only [pJ] at hdz hdn
 simp only [U] at hen'
 unfold U
 rcases dE (c=0) with h0|h0
 ·rcases dE (W=(n:Int)) with h1|h1
  ·rw [hdz ⟨h1,h0⟩]
   subst h1 h0
   have zS:=jj p1<|jj p2<|jj p3<|jj p4<|jj p5<|jj p6<|jj z3<|jj z4<|jj z5<|jj z6<|jj y3<|jj y4<|jj y5<|jj y6<|jj hk<|jj hf<|hen'
   refine dM8 ?_
   repeat (intro K hK)
   clear zS
   refine ⟨by simp,?_⟩
   simp [lvI,f131,EnV]
   try exact dt
  ·rw [hdn fun hh=>h1 hh.1]
   subst h0
   have zS:=jj p1<|jj p2<|jj p3<|jj p4<|jj p5<|jj p6<|jj z3<|jj z4<|jj z5<|jj z6<|jj y3<|jj y4<|jj y5<|jj y6<|jj hk<|jj hf<|jj hen'<|h1
   refine dM8 ?_
   repeat (intro K hK)
   clear zS
   refine ⟨by simp,?_⟩
   simp [lvI,f131,EnV,zE]
   try exact dt
 ·rw [hdn fun hh=>h0 hh.2]
  have zS:=jj p1<|jj p2<|jj p3<|jj p4<|jj p5<|jj p6<|jj z3<|jj z4<|jj z5<|jj z6<|jj y3<|jj y4<|jj y5<|jj y6<|jj hk<|jj hf<|jj hen'<|h0
  refine dM8 ?_
  repeat (intro K hK)
  clear zS
  refine ⟨by simp,?_⟩
  simp [lvI,f131,EnV,zE]
  try exact dt
abbrev Nd:=Int×List Nat
abbrev Dp:=Int×Int
abbrev Tb:=Int×List Nd×List Dp
def wcs (l:List Nat):List AV:=l.map fun w:Nat=>U (w:Int)
theorem wcs_inj:∀ {p q:List Nat},wcs p=wcs q↔p=q
 | [],[]=>by simp
 | [],_::_=>by simp [wcs]
 | _::_,[]=>by simp [wcs]
 | x::p,y::q=>by
  have ih:=wcs_inj (p:=p) (q:=q)
  unfold wcs at ih ⊢
  rw [List.map_cons,List.map_cons,cJ,cJ,ih]
  simp [U]
  intro _
  omega
@[simp] theorem wcs_len (l:List Nat):(wcs l).length=l.length:=by simp [wcs]
def nrow (n:Nd):List AV:=I n.1::wcs n.2
def nrw (l:List Nd):List (List AV):=l.map nrow
def prw (l:List Dp):List (List AV):=l.map fun m=>[I m.1,I m.2]
def TbV (t:Tb):AV:=.agg [I t.1,.rd 9 (nrw t.2.1),.rd 2 (prw t.2.2)]
def ndOK (n:Nd):Prop:=n.2.length=8∧∀ w∈n.2,w<2^64
def tbOK (t:Tb):Prop:=(∀ n∈t.2.1,ndOK n)∧t.2.1.length≤1000000∧t.2.2.length≤1000000
@[simp] theorem nrows_length (l:List Nd):(nrw l).length=l.length:=by simp [nrw]
@[simp] theorem prows_length (l:List Dp):(prw l).length=l.length:=by simp [prw]
theorem nrow_inj {a b:Nd}:nrow a=nrow b↔a=b:=by
 obtain ⟨a1,a2⟩:=a
 obtain ⟨b1,b2⟩:=b
 simp only [nrow,cJ,wcs_inj,pJ,I,AV.v.injEq,Value.int.injEq,true_and]
theorem nrows_inj {l m:List Nd}:nrw l=nrw m↔l=m:=by
 unfold nrw
 induction l generalizing m with
 | nil=>cases m<;>simp
 | cons x l ih=>cases m with
  | nil=>simp
  | cons y m=>simp [ih,nrow_inj]
theorem prows_inj {l m:List Dp}:prw l=prw m↔l=m:=by
 unfold prw
 induction l generalizing m with
 | nil=>cases m<;>simp
 | cons x l ih=>cases m with
  | nil=>simp
  | cons y m =>
   obtain ⟨x1,x2⟩:=x
   obtain ⟨y1,y2⟩:=y
   simp [ih,I]
theorem TbJ {a b:Tb}:TbV a=TbV b↔a=b:=by
 obtain ⟨a1,a2,a3⟩:=a
 obtain ⟨b1,b2,b3⟩:=b
 simp [TbV,I,nrows_inj,prows_inj]
theorem s126 (X:AX) (hX:XOK prog X):PSd prog 126 (spF (ι:=Int) (fun x=>[I x]) fun x=>rtO [B (decide (0≤x∧x≤4294967295))]):=by
 refine psS hX mixed func126 rfl fun x w0 G=>⟨by show 1≤9;decide,rfl,?_⟩
 show AW ⟨prog,X,9,w0,.pure G⟩ _ _ _
 have hc:=okc hX 9 w0 G
 rcases dE (0≤x) with h1|h1
 ·have zS:=h1
  refine dM8 ?_
  repeat (intro K hK)
  clear zS
  refine ⟨by simp,?_⟩
  simp [lvI,f126,h1]
  try exact dt
 ·have zS:=h1
  refine dM8 ?_
  repeat (intro K hK)
  clear zS
  refine ⟨by simp,?_⟩
  simp [lvI,f126,h1]
  try exact dt
def dig (x l:Int):Int:=if l=2 then x/64 else if l=1 then x/8%8 else x%8
theorem s112 (X:AX) (hX:XOK prog X):PSd prog 112 (spF (ι:={x:Nat×Nat // x.1<512∧x.2≤2}) (fun x=>[I x.1.1,I x.1.2]) fun x=>rtO [I (dig x.1.1 x.1.2)]):=by
 refine psS hX mixed func112 rfl fun ⟨⟨n,l⟩,hn,hl⟩ w0 G=>⟨by show 2≤17;decide,rfl,?_⟩
 show AW ⟨prog,X,17,w0,.pure G⟩ _ _ _
 have hc:=okc hX 17 w0 G
 simp only at hn hl ⊢
 have m8:(n:Int).tmod 8=(n:Int)%8:=rfl
 have m88:((n:Int)/8).tmod 8=(n:Int)/8%8:=Int.tmod_eq_emod_of_nonneg (by omega)
 have w8:IntKind.i64.wrap ((n:Int)/8)=(n:Int)/8:=w64_ (by omega)
 have w64:IntKind.i64.wrap ((n:Int)/64)=(n:Int)/64:=w64_ (by omega)
 rcases (by omega:l=0∨l=1∨l=2) with rfl|rfl|rfl
 ·have zS:=jj m8<|jj m88<|jj w8<|w64
  refine dM8 ?_
  repeat (intro K hK)
  clear zS
  refine ⟨by simp,?_⟩
  simp [lvI,f112,dig]
  try exact dt
 ·have zS:=jj m8<|jj m88<|jj w8<|w64
  refine dM8 ?_
  repeat (intro K hK)
  clear zS
  refine ⟨by simp,?_⟩
  simp [lvI,f112,dig]
  try exact dt
 ·have zS:=jj m8<|jj m88<|jj w8<|w64
  refine dM8 ?_
  repeat (intro K hK)
  clear zS
  refine ⟨by simp,?_⟩
  simp [lvI,f112,dig]
  try exact dt
set_option maxHeartbeats 1000000
def suitB (e:En) (l:Nat):Bool :=
 if e.1=0 then true else if e.1=4 then decide (0<l)
 else if e.1=1 then (if l=0 then !e.2.2.2.2.2 else if l=1 then e.2.2.2.2.2 else false) else decide (l=0)
theorem s117 (X:AX) (hX:XOK prog X) (hw:X.W wT):PSd prog 117 (spF (ι:=En×Nat) (fun x=>[EnV x.1,I x.2]) fun x=>rtO [B (suitB x.1 x.2)]):=by
 refine psS hX mixed func117 rfl fun ⟨⟨k,f,d,a,x,h⟩,l⟩ w0 G=>⟨by show 2≤32;decide,rfl,?_⟩
 show AW ⟨prog,X,32,w0,.pure G⟩ _ _ _
 have hc:=okc hX 32 w0 G
 unfold EnV
 simp only
 rcases dE (k=0) with e0|e0
 ·subst e0
  refine dM8o ?_
  repeat (intro K hK)
  refine ⟨by simp,?_⟩
  simp [lvI,f117,suitB]
  try exact dt
 ·rcases dE (k=4) with e4|e4
  ·subst e4
   refine dM8o ?_
   repeat (intro K hK)
   refine ⟨by simp,?_⟩
   simp [lvI,f117,suitB]
   try exact dt
  ·rcases dE (k=1) with e1|e1
   ·subst e1
    rcases (by omega:l=0∨l=1∨(l≠0∧l≠1)) with rfl|rfl|⟨q0,q1⟩
    ·cases h
     ·refine dM8o ?_
      repeat (intro K hK)
      refine ⟨by simp,?_⟩
      simp [lvI,f117,suitB]
      try exact dt
     ·refine dM8o ?_
      repeat (intro K hK)
      refine ⟨by simp,?_⟩
      simp [lvI,f117,suitB]
      try exact dt
    ·cases h
     ·refine dM8o ?_
      repeat (intro K hK)
      refine ⟨by simp,?_⟩
      simp [lvI,f117,suitB]
      try exact dt
     ·refine dM8o ?_
      repeat (intro K hK)
      refine ⟨by simp,?_⟩
      simp [lvI,f117,suitB]
      try exact dt
    ·have z0:¬ (l:Int)=0:=by omega
     have z1:¬ (l:Int)=1:=by omega
     cases h
     ·have zS:=jj q0<|jj q1<|jj z0<|z1
      refine dM8 ?_
      repeat (intro K hK)
      clear zS
      refine ⟨by simp,?_⟩
      simp [lvI,f117,suitB,q0,q1]
      try exact dt
     ·have zS:=jj q0<|jj q1<|jj z0<|z1
      refine dM8 ?_
      repeat (intro K hK)
      clear zS
      refine ⟨by simp,?_⟩
      simp [lvI,f117,suitB,q0,q1]
      try exact dt
   ·have zS:=jj e0<|jj e4<|e1
    refine dM8 ?_
    repeat (intro K hK)
    clear zS
    refine ⟨by simp,?_⟩
    simp [lvI,f117,suitB,e0,e4,e1]
    try exact dt
theorem s132 (X:AX) (hX:XOK prog X) (hw:X.W wT):PSd prog 132 (spF (ι:=En×Nat) (fun x=>[EnV x.1,I x.2]) fun x=>rtO [B (suitB x.1 x.2)]):=by
 refine psS hX mixed func132 rfl fun ⟨⟨k,f,d,a,x,h⟩,l⟩ w0 G=>⟨by show 2≤32;decide,rfl,?_⟩
 show AW ⟨prog,X,32,w0,.pure G⟩ _ _ _
 have hc:=okc hX 32 w0 G
 unfold EnV
 simp only
 rcases dE (k=0) with e0|e0
 ·subst e0
  refine dM8o ?_
  repeat (intro K hK)
  refine ⟨by simp,?_⟩
  simp [lvI,f132,suitB]
  try exact dt
 ·rcases dE (k=4) with e4|e4
  ·subst e4
   refine dM8o ?_
   repeat (intro K hK)
   refine ⟨by simp,?_⟩
   simp [lvI,f132,suitB]
   try exact dt
  ·rcases dE (k=1) with e1|e1
   ·subst e1
    rcases (by omega:l=0∨l=1∨(l≠0∧l≠1)) with rfl|rfl|⟨q0,q1⟩
    ·cases h
     ·refine dM8o ?_
      repeat (intro K hK)
      refine ⟨by simp,?_⟩
      simp [lvI,f132,suitB]
      try exact dt
     ·refine dM8o ?_
      repeat (intro K hK)
      refine ⟨by simp,?_⟩
      simp [lvI,f132,suitB]
      try exact dt
    ·cases h
     ·refine dM8o ?_
      repeat (intro K hK)
      refine ⟨by simp,?_⟩
      simp [lvI,f132,suitB]
      try exact dt
     ·refine dM8o ?_
      repeat (intro K hK)
      refine ⟨by simp,?_⟩
      simp [lvI,f132,suitB]
      try exact dt
    ·have z0:¬ (l:Int)=0:=by omega
     have z1:¬ (l:Int)=1:=by omega
     cases h
     ·have zS:=jj q0<|jj q1<|jj z0<|z1
      refine dM8 ?_
      repeat (intro K hK)
      clear zS
      refine ⟨by simp,?_⟩
      simp [lvI,f132,suitB,q0,q1]
      try exact dt
     ·have zS:=jj q0<|jj q1<|jj z0<|z1
      refine dM8 ?_
      repeat (intro K hK)
      clear zS
      refine ⟨by simp,?_⟩
      simp [lvI,f132,suitB,q0,q1]
      try exact dt
   ·have zS:=jj e0<|jj e4<|e1
    refine dM8 ?_
    repeat (intro K hK)
    clear zS
    refine ⟨by simp,?_⟩
    simp [lvI,f132,suitB,e0,e4,e1]
    try exact dt
theorem s113 (X:AX) (hX:XOK prog X) (hw:X.W wT) (hd:∀ n:Nat,n<2^64→∀ M k,X.call 56 [U n] M k=some (.tup [EnV (decR n).1,I (decR n).2],[])) :
  PSd prog 113 (spF (ι:={n:Nat // n<2^64}) (fun x=>[U x.1]) fun x=>rtO [EnV (decR x.1).1]):=by
 refine psS hX mixed func113 rfl fun ⟨n,hn⟩ w0 G=>⟨by show 1≤11;decide,rfl,?_⟩
 show AW ⟨prog,X,11,w0,.pure G⟩ _ _ _
 have hc:=okc hX 11 w0 G
 have hn:n<2^64:=hn
 have hd':=hd n hn
 obtain ⟨⟨⟨k,f,d,a,x,h⟩,e⟩,hR⟩:∃ r,r=decR n:=⟨_,rfl⟩
 rw [← hR] at hd' ⊢
 simp only [EnV,U] at hd' ⊢
 have zS:=hd'
 refine dM8 ?_
 repeat (intro K hK)
 clear zS
 refine ⟨by simp,?_⟩
 simp [lvI,f113]
 try exact dt
def gn (l:List Nd) (n:Nat):Nd:=l.getD n (0,[])
def gp (l:List Dp) (n:Nat):Dp:=l.getD n (0,0)
theorem gn_eq {l:List Nd} {n:Nat} (h:n<l.length):gn l n=l[n]:=by
 unfold gn;rw [List.getD_eq_getElem?_getD,List.getElem?_eq_getElem h];rfl
theorem gp_eq {l:List Dp} {n:Nat} (h:n<l.length):gp l n=l[n]:=by
 unfold gp;rw [List.getD_eq_getElem?_getD,List.getElem?_eq_getElem h];rfl
theorem gn_mem {l:List Nd} {n:Nat} (h:n<l.length):gn l n∈l:=by rw [gn_eq h];exact List.getElem_mem h
theorem gp_mem {l:List Dp} {n:Nat} (h:n<l.length):gp l n∈l:=by rw [gp_eq h];exact List.getElem_mem h
theorem nrG {l:List Nd} {n:Nat} (h:n<l.length):(nrw l)[n]?=some (I (gn l n).1::wcs (gn l n).2):=by
 rw [gn_eq h];simp [nrw,nrow,h]
theorem nrE {l:List Nd} {n:Nat} (h:n<l.length):∀ h',(nrw l)[n]'(h')=I (gn l n).1::wcs (gn l n).2:=fun h'=>by
 have hg:=nrG h
 rw [List.getElem?_eq_getElem h'] at hg
 exact Option.some.inj hg
theorem prows_gi {l:List Dp} {n:Nat} (h:n<l.length):(prw l)[n]?=some [I (gp l n).1,I (gp l n).2]:=by
 rw [gp_eq h];simp [prw,h]
theorem prows_gE {l:List Dp} {n:Nat} (h:n<l.length):∀ h',(prw l)[n]'(h')=[I (gp l n).1,I (gp l n).2]:=fun h'=>by
 have hg:=prows_gi h
 rw [List.getElem?_eq_getElem h'] at hg
 exact Option.some.inj hg
def fstG {α:Type} (p:α→Bool) (l:List α):Int:=if l.findIdx p<l.length then (l.findIdx p:Int) else -1
theorem fstG_at {α:Type} {p:α→Bool} {l:List α} {i:Nat} (hi:i<l.length) (hp:p l[i]=true) (hn:∀ j (hj:j<i),p (l[j]'(by omega))=false):fstG p l=i:=by
 have:l.findIdx p=i:=by
  rw [List.findIdx_eq hi]
  exact ⟨hp,fun j hj=>hn j hj⟩
 unfold fstG
 rw [this,if_pos hi]
theorem fstG_not {α:Type} {p:α→Bool} {l:List α} (hn:∀ j (hj:j<l.length),p l[j]=false):fstG p l=-1:=by
 have:l.findIdx p=l.length:=by
  rw [List.findIdx_eq_length]
  intro x hx
  obtain ⟨j,hj,rfl⟩:=List.getElem_of_mem hx
  exact hn j hj
 unfold fstG
 rw [this,if_neg (by omega)]
theorem s122 (X:AX) (hX:XOK prog X):PSd prog 122 (spF (ι:={x:Tb×Int // tbOK x.1}) (fun x=>[TbV x.1.1,I x.1.2]) fun x=>rtO [I (fstG (fun n=>decide (n.1=x.1.2)) x.1.1.2.1)]):=by
 refine psS hX mixed func122 rfl fun ⟨⟨⟨r,ns,ds⟩,f⟩,ht⟩ w0 G=>⟨by show 2≤22;decide,rfl,?_⟩
 show AW ⟨prog,X,22,w0,.pure G⟩ _ _ _
 have hc:=okc hX 22 w0 G
 have hl:ns.length≤1000000:=ht.2.1
 simp only [TbV]
 repeat' (first|(refine aSk fun K hK=>?_)|(refine eMo ?_)|(refine eC (fun h=>?_) (fun h=>?_)<;>(try simp at h))|(refine hK _ ?_;clear hK)|(clear hK;refine hK _ ?_;clear hK))
 refine aLK (s0:=?lps1) (m0:=?lpm1) (ι:={i:Nat // i≤ns.length∧∀ j,j<i→¬ (gn ns j).1=f}) [1,2,8] (fun i=>[(9,I i.1)]) (fun _=>[]) (fun i=>ns.length - i.1) ⟨0,by omega,by omega⟩ ?lhs1 ?lhm1 ?_ ?_
 case lhs1=>first|(simp [kpS];done)|(simp [kpS];rfl)
 case lhm1=>first|rfl|(simp;done)|(simp;rfl)
 ·exact dle
 ·rintro ⟨i,hi,hinv⟩
  simp only
  rcases dE (i<ns.length) with hil|hil
  ·have hilI:(i:Int)<(ns.length:Int):=by omega
   have hg:=nrG hil
   have hgE:=nrE hil
   have hat:=fstG_at (p:=fun n:Nd=>decide (n.1=f)) hil
   rw [← gn_eq hil] at hat
   obtain ⟨⟨g,ws⟩,hm⟩:∃ m,m=gn ns i:=⟨_,rfl⟩
   rw [← hm] at hg hgE hat
   simp only at hg hgE hat
   rcases dE (g=f) with h1|h1
   ·subst h1
    have e:=hat (by simp) fun j hj=>by
     have:=hinv j hj
     rw [gn_eq (by omega)] at this
     simpa using this
    have zS:=jj hilI<|jj hg<|hgE
    repeat' (first|(refine aSk fun K hK=>?_)|(refine eM64 ?_)|(refine eC (fun h=>?_) (fun h=>?_)<;>(try simp at h))|(refine hK _ ?_;clear hK)|clear hK)
    all_goals clear zS
    refine ⟨by simp,?_⟩
    simp [lvI,f122,e]
    try exact dt
   ·have zS:=jj hilI<|jj hg<|jj hgE<|h1
    repeat' (first|(refine aSk fun K hK=>?_)|(refine eM64 ?_)|(refine eC (fun h=>?_) (fun h=>?_)<;>(try simp at h))|(refine hK _ ?_;clear hK)|clear hK)
    all_goals clear zS
    refine ⟨i+1,?_,⟨by omega,fun j hj=>?_⟩,by omega⟩
    ·exact dle
    ·rcases Nat.lt_succ_iff_lt_or_eq.1 hj with h2|rfl
     ·exact hinv j h2
     ·rw [← hm];exact h1
  ·obtain rfl:i=ns.length:=by omega
   have e:fstG (fun n:Nd=>decide (n.1=f)) ns=-1:=fstG_not fun j hj=>by
    have:=hinv j hj
    rw [gn_eq hj] at this
    simpa using this
   repeat' (first|(refine aSk fun K hK=>?_)|(refine eMo ?_)|(refine eC (fun h=>?_) (fun h=>?_)<;>(try simp at h))|(refine hK _ ?_;clear hK)|clear hK)
   refine ⟨by simp,?_⟩
   simp [lvI,f122,e]
   try exact dt
theorem s124 (X:AX) (hX:XOK prog X):PSd prog 124 (spF (ι:={x:Tb×Int // tbOK x.1}) (fun x=>[TbV x.1.1,I x.1.2]) fun x=>rtO [I (fstG (fun n=>decide (n.1=x.1.2)) x.1.1.2.2)]):=by
 refine psS hX mixed func124 rfl fun ⟨⟨⟨r,ns,ds⟩,f⟩,ht⟩ w0 G=>⟨by show 2≤22;decide,rfl,?_⟩
 show AW ⟨prog,X,22,w0,.pure G⟩ _ _ _
 have hc:=okc hX 22 w0 G
 have hl:ds.length≤1000000:=ht.2.2
 simp only [TbV]
 repeat' (first|(refine aSk fun K hK=>?_)|(refine eMo ?_)|(refine eC (fun h=>?_) (fun h=>?_)<;>(try simp at h))|(refine hK _ ?_;clear hK)|(clear hK;refine hK _ ?_;clear hK))
 refine aLK (s0:=?lps2) (m0:=?lpm2) (ι:={i:Nat // i≤ds.length∧∀ j,j<i→¬ (gp ds j).1=f}) [1,2,8] (fun i=>[(9,I i.1)]) (fun _=>[]) (fun i=>ds.length - i.1) ⟨0,by omega,by omega⟩ ?lhs2 ?lhm2 ?_ ?_
 case lhs2=>first|(simp [kpS];done)|(simp [kpS];rfl)
 case lhm2=>first|rfl|(simp;done)|(simp;rfl)
 ·exact dle
 ·rintro ⟨i,hi,hinv⟩
  simp only
  rcases dE (i<ds.length) with hil|hil
  ·have hilI:(i:Int)<(ds.length:Int):=by omega
   have hg:=prows_gi hil
   have hgE:=prows_gE hil
   have hat:=fstG_at (p:=fun n:Dp=>decide (n.1=f)) hil
   rw [← gp_eq hil] at hat
   obtain ⟨⟨g,ws⟩,hm⟩:∃ m,m=gp ds i:=⟨_,rfl⟩
   rw [← hm] at hg hgE hat
   simp only at hg hgE hat
   rcases dE (g=f) with h1|h1
   ·subst h1
    have e:=hat (by simp) fun j hj=>by
     have:=hinv j hj
     rw [gp_eq (by omega)] at this
     simpa using this
    have zS:=jj hilI<|jj hg<|hgE
    repeat' (first|(refine aSk fun K hK=>?_)|(refine eM64 ?_)|(refine eC (fun h=>?_) (fun h=>?_)<;>(try simp at h))|(refine hK _ ?_;clear hK)|clear hK)
    all_goals clear zS
    refine ⟨by simp,?_⟩
    simp [lvI,f124,e]
    try exact dt
   ·have zS:=jj hilI<|jj hg<|jj hgE<|h1
    repeat' (first|(refine aSk fun K hK=>?_)|(refine eM64 ?_)|(refine eC (fun h=>?_) (fun h=>?_)<;>(try simp at h))|(refine hK _ ?_;clear hK)|clear hK)
    all_goals clear zS
    refine ⟨i+1,?_,⟨by omega,fun j hj=>?_⟩,by omega⟩
    ·exact dle
    ·rcases Nat.lt_succ_iff_lt_or_eq.1 hj with h2|rfl
     ·exact hinv j h2
     ·rw [← hm];exact h1
  ·obtain rfl:i=ds.length:=by omega
   have e:fstG (fun n:Dp=>decide (n.1=f)) ds=-1:=fstG_not fun j hj=>by
    have:=hinv j hj
    rw [gp_eq hj] at this
    simpa using this
   repeat' (first|(refine aSk fun K hK=>?_)|(refine eMo ?_)|(refine eC (fun h=>?_) (fun h=>?_)<;>(try simp at h))|(refine hK _ ?_;clear hK)|clear hK)
   refine ⟨by simp,?_⟩
   simp [lvI,f124,e]
   try exact dt
def frmN (x:Int):Prop:=0≤x∧x≤4294967295
instance (x:Int):Decidable (frmN x):=by unfold frmN;infer_instance
def rngN (ns:List Nd):Prop:=∀ j,j<ns.length→frmN (gn ns j).1
def rngD (ds:List Dp):Prop:=∀ j,j<ds.length→frmN (gp ds j).2∧0≤(gp ds j).1∧(gp ds j).1<64
open Classical in
noncomputable def rngB (t:Tb):Bool:=decide (rngN t.2.1∧rngD t.2.2)
theorem rngB_iff {t:Tb}:rngB t=true↔rngN t.2.1∧rngD t.2.2:=by unfold rngB;simp
theorem rngB_no {t:Tb} (h:¬ (rngN t.2.1∧rngD t.2.2)):rngB t=false:=by
 rw [Bool.eq_false_iff];exact fun hh=>h (rngB_iff.1 hh)
set_option maxHeartbeats 1000000 in
theorem s119 (X:AX) (hX:XOK prog X):PSd prog 119 (spF (ι:={x:Tb // tbOK x}) (fun x=>[TbV x.1]) fun x=>rtO [B (rngB x.1)]):=by
 refine psS hX mixed func119 rfl fun ⟨⟨r,ns,ds⟩,ht⟩ w0 G=>⟨by show 1≤49;decide,rfl,?_⟩
 show AW ⟨prog,X,49,w0,.pure G⟩ _ _ _
 have hc:=okc hX 49 w0 G
 have hl1:ns.length≤1000000:=ht.2.1
 have hl2:ds.length≤1000000:=ht.2.2
 simp only [TbV]
 repeat' (first|(refine aSk fun K hK=>?_)|(refine eMo ?_)|(refine eC (fun h=>?_) (fun h=>?_)<;>(try simp at h))|(refine hK _ ?_;clear hK)|(clear hK;refine hK _ ?_;clear hK))
 refine aLK (s0:=?lps1) (m0:=?lpm1) (ι:={i:Nat // i≤ns.length∧∀ j,j<i→frmN (gn ns j).1}) [1,8,9] (fun i=>[(10,I i.1)]) (fun _=>[]) (fun i=>ns.length - i.1) ⟨0,by omega,by omega⟩ ?lhs1 ?lhm1 ?_ ?_
 case lhs1=>first|(simp [kpS];done)|(simp [kpS];rfl)
 case lhm1=>first|rfl|(simp;done)|(simp;rfl)
 ·exact dle
 ·rintro ⟨i,hi,hinv⟩
  simp only
  rcases dE (i<ns.length) with hil|hil
  ·have hilI:(i:Int)<(ns.length:Int):=by omega
   have hg:=nrG hil
   have hgE:=nrE hil
   have hno:¬ frmN (gn ns i).1→rngB (r,ns,ds)=false:=fun h=>rngB_no fun h2=>h (h2.1 i hil)
   have hlen:=(ht.1 _ (gn_mem hil)).1
   obtain ⟨⟨g,ws⟩,hm⟩:∃ m,m=gn ns i:=⟨_,rfl⟩
   rw [← hm] at hg hgE hno hlen
   simp only [frmN] at hg hgE hno hlen
   rcases dE (g<0) with h1|h1
   ·have zS:=jj hilI<|jj hg<|jj hgE<|jj h1<|hlen
    repeat' (first|(refine aSk fun K hK=>?_)|(refine eM64 ?_)|(refine eC (fun h=>?_) (fun h=>?_)<;>(try simp at h))|(refine hK _ ?_;clear hK)|clear hK)
    all_goals clear zS
    refine ⟨by simp,?_⟩
    simp [lvI,f119,hno (by omega)]
    try exact dt
   ·rcases dE (4294967295<g) with h2|h2
    ·have zS:=jj hilI<|jj hg<|jj hgE<|jj h1<|jj h2<|hlen
     repeat' (first|(refine aSk fun K hK=>?_)|(refine eM64 ?_)|(refine eC (fun h=>?_) (fun h=>?_)<;>(try simp at h))|(refine hK _ ?_;clear hK)|clear hK)
     all_goals clear zS
     refine ⟨by simp,?_⟩
     simp [lvI,f119,hno (by omega)]
     try exact dt
    ·have zS:=jj hilI<|jj hg<|jj hgE<|jj h1<|jj h2<|hlen
     repeat' (first|(refine aSk fun K hK=>?_)|(refine eM64 ?_)|(refine eC (fun h=>?_) (fun h=>?_)<;>(try simp at h))|(refine hK _ ?_;clear hK)|clear hK)
     all_goals clear zS
     refine ⟨i+1,?_,⟨by omega,fun j hj=>?_⟩,by omega⟩
     ·exact dle
     ·rcases Nat.lt_succ_iff_lt_or_eq.1 hj with h3|rfl
      ·exact hinv j h3
      ·rw [← hm];unfold frmN;simp only;omega
  ·obtain rfl:i=ns.length:=by omega
   repeat' (first|(refine aSk fun K hK=>?_)|(refine eMo ?_)|(refine eC (fun h=>?_) (fun h=>?_)<;>(try simp at h))|(refine hK _ ?_;clear hK)|(clear hK;refine hK _ ?_;clear hK))
   refine aLK (s0:=?lps2) (m0:=?lpm2) (ι:={i:Nat // i≤ds.length∧∀ j,j<i→frmN (gp ds j).2∧0≤(gp ds j).1∧(gp ds j).1<64}) [24,25] (fun i=>[(26,I i.1)]) (fun _=>[]) (fun i=>ds.length - i.1) ⟨0,by omega,by omega⟩ ?lhs2 ?lhm2 ?_ ?_
   case lhs2=>first|(simp [kpS];done)|(simp [kpS];rfl)
   case lhm2=>first|rfl|(simp;done)|(simp;rfl)
   ·exact dle
   ·rintro ⟨i,hi2,hinv2⟩
    simp only
    rcases dE (i<ds.length) with hil2|hil2
    ·have hilI2:(i:Int)<(ds.length:Int):=by omega
     have hg:=prows_gi hil2
     have hgE:=prows_gE hil2
     have hno:¬ (frmN (gp ds i).2∧0≤(gp ds i).1∧(gp ds i).1<64)→rngB (r,ns,ds)=false:=fun h=>rngB_no fun h2=>h (h2.2 i hil2)
     obtain ⟨⟨a,b⟩,hm⟩:∃ m,m=gp ds i:=⟨_,rfl⟩
     rw [← hm] at hg hgE hno
     simp only [frmN] at hg hgE hno
     rcases dE (b<0) with h1|h1
     ·have zS:=jj hilI2<|jj hg<|jj hgE<|h1
      repeat' (first|(refine aSk fun K hK=>?_)|(refine eM64 ?_)|(refine eC (fun h=>?_) (fun h=>?_)<;>(try simp at h))|(refine hK _ ?_;clear hK)|clear hK)
      all_goals clear zS
      refine ⟨by simp,?_⟩
      simp [lvI,f119,hno (by omega)]
      try exact dt
     ·rcases dE (4294967295<b) with h2|h2
      ·have zS:=jj hilI2<|jj hg<|jj hgE<|jj h1<|h2
       repeat' (first|(refine aSk fun K hK=>?_)|(refine eM64 ?_)|(refine eC (fun h=>?_) (fun h=>?_)<;>(try simp at h))|(refine hK _ ?_;clear hK)|clear hK)
       all_goals clear zS
       refine ⟨by simp,?_⟩
       simp [lvI,f119,hno (by omega)]
       try exact dt
      ·rcases dE (a<0) with h3|h3
       ·have zS:=jj hilI2<|jj hg<|jj hgE<|jj h1<|jj h2<|h3
        repeat' (first|(refine aSk fun K hK=>?_)|(refine eM64 ?_)|(refine eC (fun h=>?_) (fun h=>?_)<;>(try simp at h))|(refine hK _ ?_;clear hK)|clear hK)
        all_goals clear zS
        refine ⟨by simp,?_⟩
        simp [lvI,f119,hno (by omega)]
        try exact dt
       ·rcases dE (64≤a) with h4|h4
        ·have zS:=jj hilI2<|jj hg<|jj hgE<|jj h1<|jj h2<|jj h3<|h4
         repeat' (first|(refine aSk fun K hK=>?_)|(refine eM64 ?_)|(refine eC (fun h=>?_) (fun h=>?_)<;>(try simp at h))|(refine hK _ ?_;clear hK)|clear hK)
         all_goals clear zS
         refine ⟨by simp,?_⟩
         simp [lvI,f119,hno (by omega)]
         try exact dt
        ·have zS:=jj hilI2<|jj hg<|jj hgE<|jj h1<|jj h2<|jj h3<|h4
         repeat' (first|(refine aSk fun K hK=>?_)|(refine eM64 ?_)|(refine eC (fun h=>?_) (fun h=>?_)<;>(try simp at h))|(refine hK _ ?_;clear hK)|clear hK)
         all_goals clear zS
         refine ⟨i+1,?_,⟨by omega,fun j hj=>?_⟩,by omega⟩
         ·exact dle
         ·rcases Nat.lt_succ_iff_lt_or_eq.1 hj with h5|rfl
          ·exact hinv2 j h5
          ·rw [← hm];unfold frmN;simp only;omega
    ·obtain rfl:i=ds.length:=by omega
     have e:rngB (r,ns,ds)=true:=rngB_iff.2 ⟨fun j hj=>hinv j hj,fun j hj=>hinv2 j hj⟩
     repeat' (first|(refine aSk fun K hK=>?_)|(refine eMo ?_)|(refine eC (fun h=>?_) (fun h=>?_)<;>(try simp at h))|(refine hK _ ?_;clear hK)|clear hK)
     refine ⟨by simp,?_⟩
     simp [lvI,f119,e]
     try exact dt
open Classical in
noncomputable def ascB (t:Tb):Bool:=decide ((∀ j,j+1<t.2.1.length→(gn t.2.1 j).1<(gn t.2.1 (j+1)).1)∧∀ j,j+1<t.2.2.length→(gp t.2.2 j).1<(gp t.2.2 (j+1)).1)
theorem ascB_iff {t:Tb}:ascB t=true↔(∀ j,j+1<t.2.1.length→(gn t.2.1 j).1<(gn t.2.1 (j+1)).1)∧∀ j,j+1<t.2.2.length→(gp t.2.2 j).1<(gp t.2.2 (j+1)).1:=by unfold ascB;simp
theorem ascB_no {t:Tb} (h:¬ ((∀ j,j+1<t.2.1.length→(gn t.2.1 j).1<(gn t.2.1 (j+1)).1)∧∀ j,j+1<t.2.2.length→(gp t.2.2 j).1<(gp t.2.2 (j+1)).1)):ascB t=false:=by
 rw [Bool.eq_false_iff];exact fun hh=>h (ascB_iff.1 hh)
set_option maxHeartbeats 2000000 in
theorem s120 (X:AX) (hX:XOK prog X) (hw:X.W wT):PSd prog 120 (spF (ι:={x:Tb // tbOK x}) (fun x=>[TbV x.1]) fun x=>rtO [B (ascB x.1)]):=by
 refine psS hX mixed func120 rfl fun ⟨⟨r,ns,ds⟩,ht⟩ w0 G=>⟨by show 1≤47;decide,rfl,?_⟩
 show AW ⟨prog,X,47,w0,.pure G⟩ _ _ _
 have hc:=okc hX 47 w0 G
 have hl1:ns.length≤1000000:=ht.2.1
 have hl2:ds.length≤1000000:=ht.2.2
 simp only [TbV]
 repeat' (first|(refine aSk fun K hK=>?_)|(refine eMo ?_)|(refine eC (fun h=>?_) (fun h=>?_)<;>(try simp at h))|(refine hK _ ?_;clear hK)|(clear hK;refine hK _ ?_;clear hK))
 refine aLK (s0:=?lps1) (m0:=?lpm1) (ι:={k:Nat // k≤ns.length∧∀ j,j<k→(gn ns j).1<(gn ns (j+1)).1}) [1] (fun k=>[(3,I ((k.1:Int)+1))]) (fun _=>[]) (fun k=>ns.length - k.1) ⟨0,by omega,by omega⟩ ?lhs1 ?lhm1 ?_ ?_
 case lhs1=>first|(simp [kpS];done)|(simp [kpS];rfl)
 case lhm1=>first|rfl|(simp;done)|(simp;rfl)
 ·exact dle
 ·rintro ⟨k,hk,hinv⟩
  simp only
  rcases dE (k+1<ns.length) with hil|hil
  ·have hilI:(k:Int)+1<(ns.length:Int):=by omega
   have hk1:k<ns.length:=by omega
   have hk1I:(k:Int)<(ns.length:Int):=by omega
   have hg:=nrG hil
   have hgE:=nrE hil
   have hg2:=nrG hk1
   have hgE2:=nrE hk1
   have hno:¬ (gn ns k).1<(gn ns (k+1)).1→ascB (r,ns,ds)=false:=fun h=>ascB_no fun h2=>h (h2.1 k hil)
   obtain ⟨⟨a,b⟩,hm⟩:∃ m,m=gn ns (k+1):=⟨_,rfl⟩
   obtain ⟨⟨c,d⟩,hm2⟩:∃ m,m=gn ns k:=⟨_,rfl⟩
   rw [← hm] at hg hgE hno
   rw [← hm2] at hg2 hgE2 hno
   simp only at hg hgE hg2 hgE2 hno
   rcases dE (a≤c) with h1|h1
   ·have zS:=jj hil<|jj hilI<|jj hk1<|jj hk1I<|jj hg<|jj hgE<|jj hg2<|jj hgE2<|h1
    repeat' (first|(refine aSk fun K hK=>?_)|(refine eM64 ?_)|(refine eC (fun h=>?_) (fun h=>?_)<;>(try simp at h))|(refine hK _ ?_;clear hK)|clear hK)
    all_goals clear zS
    refine ⟨by simp,?_⟩
    simp [lvI,f120,hno (by omega)]
    try exact dt
   ·have zS:=jj hil<|jj hilI<|jj hk1<|jj hk1I<|jj hg<|jj hgE<|jj hg2<|jj hgE2<|h1
    repeat' (first|(refine aSk fun K hK=>?_)|(refine eM64 ?_)|(refine eC (fun h=>?_) (fun h=>?_)<;>(try simp at h))|(refine hK _ ?_;clear hK)|clear hK)
    all_goals clear zS
    refine ⟨k+1,?_,⟨by omega,fun j hj=>?_⟩,by omega⟩
    ·exact dle
    ·rcases Nat.lt_succ_iff_lt_or_eq.1 hj with h3|rfl
     ·exact hinv j h3
     ·rw [← hm,← hm2];simp only;omega
  ·have hilI:¬ (k:Int)+1<(ns.length:Int):=by omega
   clear hilI
   have hend:∀ j,j+1<ns.length→j<k:=fun j hj=>by omega
   have hordN:∀ j,j+1<ns.length→(gn ns j).1<(gn ns (j+1)).1:=fun j hj=>hinv j (hend j hj)
   have hilI:¬ (k:Int)+1<(ns.length:Int):=by omega
   have zS:=jj hil<|hilI
   repeat' (first|(refine aSk fun K hK=>?_)|(refine eM64 ?_)|(refine eC (fun h=>?_) (fun h=>?_)<;>(try simp at h))|(refine hK _ ?_;clear hK)|(clear hK;refine hK _ ?_;clear hK))
   all_goals clear zS
   refine aLK (s0:=?lps2) (m0:=?lpm2) (ι:={k:Nat // k≤ds.length∧∀ j,j<k→(gp ds j).1<(gp ds (j+1)).1}) [1] (fun k=>[(4,I ((k.1:Int)+1))]) (fun _=>[]) (fun k=>ds.length - k.1) ⟨0,by omega,by omega⟩ ?lhs2 ?lhm2 ?_ ?_
   case lhs2=>first|(simp [kpS];done)|(simp [kpS];rfl)
   case lhm2=>first|rfl|(simp;done)|(simp;rfl)
   ·exact dle
   ·rintro ⟨k2,hk2,hinv2⟩
    simp only
    rcases dE (k2+1<ds.length) with hilb|hilb
    ·have hilbI:(k2:Int)+1<(ds.length:Int):=by omega
     have hk3:k2<ds.length:=by omega
     have hk3I:(k2:Int)<(ds.length:Int):=by omega
     have hg:=prows_gi hilb
     have hgE:=prows_gE hilb
     have hg2:=prows_gi hk3
     have hgE2:=prows_gE hk3
     have hno:¬ (gp ds k2).1<(gp ds (k2+1)).1→ascB (r,ns,ds)=false:=fun h=>ascB_no fun h2=>h (h2.2 k2 hilb)
     obtain ⟨⟨a,b⟩,hm⟩:∃ m,m=gp ds (k2+1):=⟨_,rfl⟩
     obtain ⟨⟨c,d⟩,hm2⟩:∃ m,m=gp ds k2:=⟨_,rfl⟩
     rw [← hm] at hg hgE hno
     rw [← hm2] at hg2 hgE2 hno
     simp only at hg hgE hg2 hgE2 hno
     rcases dE (a≤c) with h1|h1
     ·have zS:=jj hilb<|jj hilbI<|jj hk3<|jj hk3I<|jj hg<|jj hgE<|jj hg2<|jj hgE2<|h1
      repeat' (first|(refine aSk fun K hK=>?_)|(refine eM64 ?_)|(refine eC (fun h=>?_) (fun h=>?_)<;>(try simp at h))|(refine hK _ ?_;clear hK)|clear hK)
      all_goals clear zS
      refine ⟨by simp,?_⟩
      simp [lvI,f120,hno (by omega)]
      try exact dt
     ·have zS:=jj hilb<|jj hilbI<|jj hk3<|jj hk3I<|jj hg<|jj hgE<|jj hg2<|jj hgE2<|h1
      repeat' (first|(refine aSk fun K hK=>?_)|(refine eM64 ?_)|(refine eC (fun h=>?_) (fun h=>?_)<;>(try simp at h))|(refine hK _ ?_;clear hK)|clear hK)
      all_goals clear zS
      refine ⟨k2+1,?_,⟨by omega,fun j hj=>?_⟩,by omega⟩
      ·exact dle
      ·rcases Nat.lt_succ_iff_lt_or_eq.1 hj with h3|rfl
       ·exact hinv2 j h3
       ·rw [← hm,← hm2];simp only;omega
    ·have hilbI:¬ (k2:Int)+1<(ds.length:Int):=by omega
     have e:ascB (r,ns,ds)=true:=ascB_iff.2 ⟨hordN,fun j hj=>hinv2 j (by have:j+1<ds.length:=hj;omega)⟩
     have zS:=jj hilb<|hilbI
     repeat' (first|(refine aSk fun K hK=>?_)|(refine eM64 ?_)|(refine eC (fun h=>?_) (fun h=>?_)<;>(try simp at h))|(refine hK _ ?_;clear hK)|clear hK)
     all_goals clear zS
     refine ⟨by simp,?_⟩
     simp [lvI,f120,e]
     try exact dt
theorem fstG_pos {α:Type} {p:α→Bool} {l:List α}:0≤fstG p l↔∃ j,∃ h:j<l.length,p l[j]=true:=by
 constructor
 ·intro h
  unfold fstG at h
  split at h
  ·rename_i hl
   exact ⟨_,hl,List.findIdx_getElem⟩
  ·omega
 ·rintro ⟨j,hj,hp⟩
  have:l.findIdx p<l.length:=List.findIdx_lt_length_of_exists ⟨_,List.getElem_mem hj,hp⟩
  unfold fstG
  rw [if_pos this];omega
theorem prows_take (l:List Dp) (n:Nat):(prw l).take n=prw (l.take n):=by simp [prw,List.map_take]
def twN (t:Tb) (i:Nat):Prop:=(∃ j,j<t.2.1.length∧(gn t.2.1 j).1=(gp t.2.2 i).2)∨∃ j,j<i∧(gp t.2.2 j).2=(gp t.2.2 i).2
open Classical in
noncomputable def twB (t:Tb):Bool:=decide (∃ i,i<t.2.2.length∧twN t i)
theorem twB_iff {t:Tb}:twB t=true↔∃ i,i<t.2.2.length∧twN t i:=by unfold twB;simp
theorem twB_no {t:Tb} (h:∀ i,i<t.2.2.length→¬ twN t i):twB t=false:=by
 rw [Bool.eq_false_iff]
 intro hh
 obtain ⟨i,hi,h2⟩:=twB_iff.1 hh
 exact h i hi h2
set_option maxHeartbeats 2000000 in
theorem s121 (X:AX) (hX:XOK prog X) (hw:X.W wT) (hfi:∀ (t:Tb) f,tbOK t→∀ M n,X.call 122 [TbV t,I f] M n=some (I (fstG (fun n=>decide (n.1=f)) t.2.1),[])) :
  PSd prog 121 (spF (ι:={x:Tb // tbOK x}) (fun x=>[TbV x.1]) fun x=>rtO [B (twB x.1)]):=by
 refine psS hX mixed func121 rfl fun ⟨⟨r,ns,ds⟩,ht⟩ w0 G=>⟨by show 1≤36;decide,rfl,?_⟩
 show AW ⟨prog,X,36,w0,.pure G⟩ _ _ _
 have hc:=okc hX 36 w0 G
 have hl1:ns.length≤1000000:=ht.2.1
 have hl2:ds.length≤1000000:=ht.2.2
 have hfi':=fun f=>hfi (r,ns,ds) f ht
 simp only [TbV] at hfi' ⊢
 repeat' (first|(refine aSk fun K hK=>?_)|(refine eMo ?_)|(refine eC (fun h=>?_) (fun h=>?_)<;>(try simp at h))|(refine hK _ ?_;clear hK)|(clear hK;refine hK _ ?_;clear hK))
 refine aLK (s0:=?lps1) (m0:=?lpm1) (ι:={i:Nat // i≤ds.length∧∀ j,j<i→¬ twN (r,ns,ds) j}) [1,8,9] (fun i=>[(10,I i.1)]) (fun _=>[]) (fun i=>ds.length - i.1) ⟨0,by omega,by omega⟩ ?lhs1 ?lhm1 ?_ ?_
 case lhs1=>first|(simp [kpS];done)|(simp [kpS];rfl)
 case lhm1=>first|rfl|(simp;done)|(simp;rfl)
 ·exact dle
 ·rintro ⟨i,hi,hinv⟩
  simp only
  rcases dE (i<ds.length) with hil|hil
  ·have hilI:(i:Int)<(ds.length:Int):=by omega
   have hg:=prows_gi hil
   have hgE:=prows_gE hil
   have hyes:twN (r,ns,ds) i→twB (r,ns,ds)=true:=fun h=>twB_iff.2 ⟨i,hil,h⟩
   have htw:∀ b,b=(gp ds i).2→(twN (r,ns,ds) i↔(0≤fstG (fun n:Nd=>decide (n.1=b)) ns)∨∃ j,j<i∧(gp ds j).2=b):=fun b hb=>by
    subst hb
    unfold twN
    rw [fstG_pos]
    refine or_congr_left ?_
    constructor
    ·rintro ⟨j,hj,e⟩
     exact ⟨j,hj,by rw [← gn_eq hj];simpa using e⟩
    ·rintro ⟨j,hj,e⟩
     exact ⟨j,hj,by rw [gn_eq hj];simpa using e⟩
   obtain ⟨⟨a,b⟩,hm⟩:∃ m,m=gp ds i:=⟨_,rfl⟩
   rw [← hm] at hg hgE
   have htb:=htw b (by rw [← hm])
   simp only at hg hgE
   have hfb:=hfi' b
   obtain ⟨q,hq⟩:∃ q,q=fstG (fun n:Nd=>decide (n.1=b)) ns:=⟨_,rfl⟩
   rw [← hq] at hfb htb
   rcases dE (0≤q) with h1|h1
   ·have e:=hyes (htb.2 (.inl h1))
    have zS:=jj hilI<|jj hg<|jj hgE<|jj hfb<|h1
    repeat' (first|(refine aSk fun K hK=>?_)|(refine eM64 ?_)|(refine eC (fun h=>?_) (fun h=>?_)<;>(try simp at h))|(refine hK _ ?_;clear hK)|clear hK)
    all_goals clear zS
    refine ⟨by simp,?_⟩
    simp [lvI,f121,e]
    try exact dt
   ·have hlt:(ds.take i).length=i:=by simp;omega
    have zS:=jj hilI<|jj hg<|jj hgE<|jj hfb<|jj h1<|jj @prows_take<|hi
    repeat' (first|(refine aSk fun K hK=>?_)|(refine eM64 ?_)|(refine eC (fun h=>?_) (fun h=>?_)<;>(try simp at h))|(refine hK _ ?_;clear hK)|(clear hK;refine hK _ ?_;clear hK))
    all_goals clear zS
    obtain ⟨E,hE⟩:∃ E,E=ds.take i:=⟨_,rfl⟩
    rw [← hE] at hlt
    rw [← hE]
    have hEg:∀ j,j<i→gp E j=gp ds j:=fun j hj=>by
     rw [gp_eq (by omega),gp_eq (by omega)]
     subst hE
     exact List.getElem_take
    refine aLK (s0:=?lps2) (m0:=?lpm2) (ι:={j:Nat // j≤i∧∀ k,k<j→¬ (gp ds k).2=b}) [1,4,8,9,10,23,24] (fun j=>[(25,I j.1)]) (fun _=>[]) (fun j=>i - j.1) ⟨0,by omega,by omega⟩ ?lhs2 ?lhm2 ?_ ?_
    case lhs2=>first|(simp [kpS];done)|(simp [kpS];rfl)
    case lhm2=>first|rfl|(simp;done)|(simp;rfl)
    ·exact dle
    ·rintro ⟨j,hj,hinv2⟩
     simp only
     rcases dE (j<i) with hjl|hjl
     ·have hjI:(j:Int)<(i:Int):=by omega
      have hg2:=prows_gi (l:=E) (n:=j) (by omega)
      have hgE2:=prows_gE (l:=E) (n:=j) (by omega)
      rw [hEg j hjl] at hg2 hgE2
      obtain ⟨⟨c,d⟩,hm2⟩:∃ m,m=gp ds j:=⟨_,rfl⟩
      rw [← hm2] at hg2 hgE2
      simp only at hg2 hgE2
      rcases dE (d=b) with h2|h2
      ·have e:=hyes (htb.2 (.inr ⟨j,hjl,by rw [← hm2];exact h2⟩))
       subst h2
       have zS:=jj hjl<|jj hjI<|jj hlt<|jj hg2<|hgE2
       repeat' (first|(refine aSk fun K hK=>?_)|(refine eM64 ?_)|(refine eC (fun h=>?_) (fun h=>?_)<;>(try simp at h))|(refine hK _ ?_;clear hK)|clear hK)
       all_goals clear zS
       refine ⟨by simp,?_⟩
       simp [lvI,f121,e]
       try exact dt
      ·have zS:=jj hjl<|jj hjI<|jj hlt<|jj hg2<|jj hgE2<|h2
       repeat' (first|(refine aSk fun K hK=>?_)|(refine eM64 ?_)|(refine eC (fun h=>?_) (fun h=>?_)<;>(try simp at h))|(refine hK _ ?_;clear hK)|clear hK)
       all_goals clear zS
       refine ⟨j+1,?_,⟨by omega,fun k hk=>?_⟩,by omega⟩
       ·exact dle
       ·rcases Nat.lt_succ_iff_lt_or_eq.1 hk with h3|rfl
        ·exact hinv2 k h3
        ·rw [← hm2];exact h2
     ·obtain rfl:j=i:=by omega
      have hjI:¬ (j:Int)<(j:Int):=by omega
      have zS:=hjI
      repeat' (first|(refine aSk fun K hK=>?_)|(refine eM64 ?_)|(refine eC (fun h=>?_) (fun h=>?_)<;>(try simp at h))|(refine hK _ ?_;clear hK)|clear hK)
      all_goals clear zS
      refine ⟨j+1,?_,⟨by omega,fun k hk=>?_⟩,by omega⟩
      ·exact dle
      ·rcases Nat.lt_succ_iff_lt_or_eq.1 hk with h3|rfl
       ·exact hinv k h3
       ·rw [htb]
        rintro (h4|⟨k2,h4,h5⟩)
        ·exact h1 h4
        ·exact hinv2 k2 h4 h5
  ·obtain rfl:i=ds.length:=by omega
   have e:twB (r,ns,ds)=false:=twB_no fun j hj=>hinv j hj
   repeat' (first|(refine aSk fun K hK=>?_)|(refine eMo ?_)|(refine eC (fun h=>?_) (fun h=>?_)<;>(try simp at h))|(refine hK _ ?_;clear hK)|clear hK)
   refine ⟨by simp,?_⟩
   simp [lvI,f121,e]
   try exact dt
@[simp] theorem tyMap:Types prog 175=some ⟨.map 3 3 (some (.int .i64 0)),1,8,[.map none]⟩:=by kernel_rfl
@[simp] theorem one_map (b:Option Nat):(Value.map b).oneCell'=true:=rfl
def idxE (l:List Nd):Nat→List (List Int×AV)
 | 0=>[]
 | k+1=>mset (idxE l k) [(gn l k).1] (I k)
attribute [simp] hintOK
set_option maxHeartbeats 1000000 in
theorem s115 (X:AX) (hX:XOK prog X) (hw:X.W wT):PSd prog 115 (spF (ι:={x:Tb // tbOK x}) (fun x=>[TbV x.1]) fun x=>rtO [.om 1 (idxE x.1.2.1 x.1.2.1.length)]):=by
 refine psS hX mixed func115 rfl fun ⟨⟨r,ns,ds⟩,ht⟩ w0 G=>⟨by show 1≤24;decide,rfl,?_⟩
 show AW ⟨prog,X,24,w0,.pure G⟩ _ _ _
 have hc:=okc hX 24 w0 G
 have hl1:ns.length≤1000000:=ht.2.1
 simp only [TbV]
 repeat' (first|(refine aSk fun K hK=>?_)|(refine eMo ?_)|(refine eC (fun h=>?_) (fun h=>?_)<;>(try simp at h))|(refine hK _ ?_;clear hK)|(clear hK;refine hK _ ?_;clear hK))
 refine aLK (s0:=?lps1) (m0:=?lpm1) (ι:={i:Nat // i≤ns.length}) [3,11,12] (fun i=>[(13,I i.1)]) (fun i=>[(80,.map 1 1 (idxE ns i.1))]) (fun i=>ns.length - i.1) ⟨0,by omega⟩ ?lhs1 ?lhm1 ?_ ?_
 case lhs1=>first|(simp [kpS];done)|(simp [kpS];rfl)
 case lhm1=>first|rfl|(simp;done)|(simp;rfl)
 ·simp only [idxE]
  exact dle
 ·rintro ⟨i,hi⟩
  simp only
  rcases dE (i<ns.length) with hil|hil
  ·have hilI:(i:Int)<(ns.length:Int):=by omega
   have hg:=nrG hil
   have hgE:=nrE hil
   have hlen:=(ht.1 _ (gn_mem hil)).1
   have hnx:idxE ns (i+1)=mset (idxE ns i) [(gn ns i).1] (I i):=rfl
   obtain ⟨S,hS⟩:∃ S,S=idxE ns i:=⟨_,rfl⟩
   rw [← hS] at hnx
   rw [← hS]
   obtain ⟨⟨g,ws⟩,hm⟩:∃ m,m=gn ns i:=⟨_,rfl⟩
   rw [← hm] at hg hgE hnx hlen
   simp only at hg hgE hnx hlen
   have zS:=jj hilI<|jj hg<|jj hgE<|hlen
   repeat' (first|(refine aSk fun K hK=>?_)|(refine eM64 ?_)|(refine eC (fun h=>?_) (fun h=>?_)<;>(try simp at h))|(refine hK _ ?_;clear hK)|clear hK)
   all_goals clear zS
   refine ⟨i+1,?_,by omega,by omega⟩
   simp only [hnx]
   refine le_turn (s1:=?tus2) (m1:=?tum2) [] [1,3,11,12,13] [0,80] ?tua2 ?tub2 ?tuc2 ?tud2 ?tue2 ?tuf2 ?tug2
   case tua2=>first|(simp [kpS];done)|(simp [kpS];rfl)
   case tub2=>first|(simp;done)|(simp;rfl)
   case tuc2=>simp
   case tud2=>simp
   case tue2=>simp
   case tuf2=>simp
   case tug2 =>
    simp [swp,vr]
    exact dle
  ·obtain rfl:i=ns.length:=by omega
   repeat' (first|(refine aSk fun K hK=>?_)|(refine eMo ?_)|(refine eC (fun h=>?_) (fun h=>?_)<;>(try simp at h))|(refine hK _ ?_;clear hK)|clear hK)
   refine ⟨by simp,?_⟩
   simp [lvI,f115]
   try exact dt
end Go.AM
namespace Go.AM
structure Wd where
 ok:Nat→Nat→Bool
 tab:Nat→Option Int
 hug:Nat→Bool
 adm:Int→Bool
abbrev NdL:=List (Int×List Nat)
def fnd (ns:NdL) (f:Int):Option Nat:=if ns.findIdx (fun n=>decide (n.1=f))<ns.length then some (ns.findIdx fun n=>decide (n.1=f)) else none
theorem fnd_lt {ns:NdL} {f:Int} {i:Nat} (h:fnd ns f=some i):i<ns.length:=by
 unfold fnd at h
 split at h
 ·simp only [Option.some.injEq] at h;omega
 ·simp at h
def wd (ns:NdL) (n i:Nat):Nat:=(ns.getD n (0,[])).2.getD i 0
abbrev WSt:=List Bool×List Int
section
variable (D:Wd) (ns:NdL)
def kid (w:Nat):Option Nat:=(D.tab w).bind (fnd ns)
def wkF (rc:Nat→Nat→WSt→Bool×WSt) (l n first:Nat):Nat→Nat→WSt→Bool×WSt
 | 0,_,st=>(true,st)
 | k+1,i,st =>
  if D.ok l (wd ns n i)=false then (false,st) else
  if D.hug (wd ns n i)=true∧D.adm (((first+i*8^l)/8:Nat):Int)=false then (false,st) else
  let st1:WSt:=if D.hug (wd ns n i)=true then (st.1,st.2++[(((first+i*8^l)/8:Nat):Int)]) else st
  match D.tab (wd ns n i) with
  | none=>wkF rc l n first k (i+1) st1
  | some g=>match fnd ns g with
   | none=>(false,st1)
   | some nx=>if (rc nx (first+i*8^l) st1).1=true then wkF rc l n first k (i+1) (rc nx (first+i*8^l) st1).2 else (false,(rc nx (first+i*8^l) st1).2)
def wk:Nat→Nat→Nat→WSt→Bool×WSt
 | 0,n,first,st=>if st.1.getD n false=true then (false,st) else wkF D ns (fun _ _ st=>(false,st)) 0 n first 8 0 (st.1.set n true,st.2)
 | l+1,n,first,st=>if st.1.getD n false=true then (false,st) else wkF D ns (wk l) (l+1) n first 8 0 (st.1.set n true,st.2)
def ids:Nat→Nat→List Nat
 | 0,n=>[n]
 | l+1,n=>n::(List.range 8).flatMap fun i=>match kid D ns (wd ns n i) with
  | some nx=>ids l nx
  | none=>[]
def hugs:Nat→Nat→Nat→List Int
 | l,n,first=>(List.range 8).flatMap fun i=>(if D.hug (wd ns n i)=true then [(((first+i*8^l)/8:Nat):Int)] else [])++(match l with
  | 0=>[]
  | l+1=>match kid D ns (wd ns n i) with
   | some nx=>hugs l nx (first+i*8^(l+1))
   | none=>[])
def okW (l n first i:Nat):Prop:=D.ok l (wd ns n i)=true∧(D.hug (wd ns n i)=true→D.adm (((first+i*8^l)/8:Nat):Int)=true)∧∀ g,D.tab (wd ns n i)=some g→∃ nx,fnd ns g=some nx
def good:Nat→Nat→Nat→Prop
 | 0,n,first=>∀ i,i<8→okW D ns 0 n first i
 | l+1,n,first=>∀ i,i<8→okW D ns (l+1) n first i∧∀ nx,kid D ns (wd ns n i)=some nx→good l nx (first+i*8^(l+1))
end
def markL (led:List Bool) (l:List Nat):List Bool:=l.foldl (fun a i=>a.set i true) led
@[simp] theorem markL_nil (led:List Bool):markL led []=led:=rfl
theorem markL_append (led:List Bool) (a b:List Nat):markL led (a++b)=markL (markL led a) b:=by simp [markL]
theorem markL_cons (led:List Bool) (a:Nat) (b:List Nat):markL led (a::b)=markL (led.set a true) b:=rfl
@[simp] theorem markL_len (led:List Bool) (l:List Nat):(markL led l).length=led.length:=by
 unfold markL
 induction l generalizing led with
 | nil=>rfl
 | cons a l ih=>simp [ih]
theorem set_getD (led:List Bool) {i:Nat} (j:Nat) (hi:i<led.length):(led.set i true).getD j false=(decide (i=j)||led.getD j false):=by
 simp only [List.getD_eq_getElem?_getD,List.getElem?_set]
 by_cases e:i=j
 ·subst e;simp [hi]
 ·simp [e]
theorem markL_getD {led:List Bool}:∀ {l:List Nat} {j:Nat},(∀ i∈l,i<led.length)→(markL led l).getD j false=(decide (j∈l)||led.getD j false):=by
 intro l
 induction l generalizing led with
 | nil=>intro j _;simp
 | cons a l ih =>
  intro j h
  rw [markL_cons,ih (led:=led.set a true) (by intro i hi;simp;exact h i (by simp [hi])),set_getD led j (h a (by simp))]
  by_cases e:a=j
  ·subst e;simp
  ·have:¬ j=a:=fun h=>e h.symm
   simp [e,this]
section
variable {D:Wd} {ns:NdL}
theorem kid_lt {w n:Nat} (h:kid D ns w=some n):n<ns.length:=by
 unfold kid at h
 cases ht:D.tab w with
 | none=>simp [ht] at h
 | some g=>simp [ht] at h;exact fnd_lt h
theorem ids_lt:∀ {l n:Nat},n<ns.length→∀ i∈ids D ns l n,i<ns.length
 | 0,n,h,i,hi=>by simp only [ids,List.mem_singleton] at hi;omega
 | l+1,n,h,i,hi=>by
  simp only [ids,List.mem_cons,List.mem_flatMap] at hi
  rcases hi with rfl|⟨j,_,hi⟩
  ·exact h
  ·split at hi
   ·rename_i nx hk
    exact ids_lt (kid_lt hk) i hi
   ·simp at hi
def RcOK (D:Wd) (ns:NdL) (rc:Nat→Nat→WSt→Bool×WSt) (gd:Nat→Nat→Prop) (is:Nat→List Nat) (hs:Nat→Nat→List Int):Prop :=
 ∀ n first st,n<ns.length→st.1.length=ns.length →
  (((rc n first st).1=true↔gd n first∧(is n).Nodup∧∀ i∈is n,st.1.getD i false=false)∧((rc n first st).1=true→(rc n first st).2=(markL st.1 (is n),st.2++hs n first)))
def subI (D:Wd) (ns:NdL) (is:Nat→List Nat) (n:Nat) (i:Nat):List Nat:=match kid D ns (wd ns n i) with
 | some nx=>is nx
 | none=>[]
def subH (D:Wd) (ns:NdL) (hs:Nat→Nat→List Int) (l n first i:Nat):List Int:=(if D.hug (wd ns n i)=true then [(((first+i*8^l)/8:Nat):Int)] else [])++match kid D ns (wd ns n i) with
 | some nx=>hs nx (first+i*8^l)
 | none=>[]
theorem wkF_ok {rc:Nat→Nat→WSt→Bool×WSt} {gd:Nat→Nat→Prop} {is:Nat→List Nat} {hs:Nat→Nat→List Int} (hrc:RcOK D ns rc gd is hs) (hlt:∀ n,n<ns.length→∀ i∈is n,i<ns.length) {l n first:Nat} :
  ∀ {k i:Nat} {st:WSt},st.1.length=ns.length →
  (((wkF D ns rc l n first k i st).1=true↔(∀ j,i≤j→j<i+k→okW D ns l n first j∧∀ nx,kid D ns (wd ns n j)=some nx→gd nx (first+j*8^l)) ∧
    ((List.range' i k).flatMap (subI D ns is n)).Nodup∧∀ j∈(List.range' i k).flatMap (subI D ns is n),st.1.getD j false=false) ∧
   ((wkF D ns rc l n first k i st).1=true→(wkF D ns rc l n first k i st).2=(markL st.1 ((List.range' i k).flatMap (subI D ns is n)),st.2++(List.range' i k).flatMap (subH D ns hs l n first)))):=by
 intro k
 induction k with
 | zero =>
  intro i st hl
  simp only [wkF,true_iff,List.range'_zero,List.flatMap_nil]
  exact ⟨⟨fun j h1 h2=>by omega,List.nodup_nil,by simp⟩,fun _=>by simp⟩
 | succ k ih =>
  intro i st hl
  simp only [wkF,List.range'_succ,List.flatMap_cons]
  cases hok:D.ok l (wd ns n i) with
  | false =>
   simp only [if_true]
   constructor
   ·constructor
    ·intro h;simp at h
    ·rintro ⟨h,_⟩
     have:=(h i (Nat.le_refl _) (by omega)).1.1
     rw [hok] at this;simp at this
   ·intro h;simp at h
  | true =>
   simp only [Bool.true_eq_false,if_false]
   rcases Decidable.em (D.hug (wd ns n i)=true∧D.adm (((first+i*8^l)/8:Nat):Int)=false) with had|had
   ·rw [if_pos had]
    refine ⟨⟨fun h=>by simp at h,fun h=>?_⟩,fun h=>by simp at h⟩
    have:=(h.1 i (Nat.le_refl _) (by omega)).1.2.1 had.1
    rw [had.2] at this;simp at this
   rw [if_neg had]
   have had':D.hug (wd ns n i)=true→D.adm (((first+i*8^l)/8:Nat):Int)=true:=fun h=>by
    cases ha:D.adm (((first+i*8^l)/8:Nat):Int) with
    | true=>rfl
    | false=>exact absurd ⟨h,ha⟩ had
   obtain ⟨st1,hst1⟩:∃ st1:WSt,st1=(if D.hug (wd ns n i)=true then (st.1,st.2++[(((first+i*8^l)/8:Nat):Int)]) else st):=⟨_,rfl⟩
   rw [← hst1]
   have e1:st1.1=st.1:=by subst hst1;split<;>rfl
   have e2:st1.2=st.2++(if D.hug (wd ns n i)=true then [(((first+i*8^l)/8:Nat):Int)] else []):=by subst hst1;split<;>simp
   cases ht:D.tab (wd ns n i) with
   | none =>
    have hk:kid D ns (wd ns n i)=none:=by unfold kid;rw [ht];rfl
    have hsI:subI D ns is n i=[]:=by unfold subI;rw [hk]
    have hsH:subH D ns hs l n first i=(if D.hug (wd ns n i)=true then [(((first+i*8^l)/8:Nat):Int)] else []):=by unfold subH;rw [hk];simp
    have:=ih (i:=i+1) (st:=st1) (by rw [e1];exact hl)
    simp only [hsI,List.nil_append,hsH]
    rw [e1,e2,List.append_assoc] at this
    refine ⟨this.1.trans ?_,this.2⟩
    refine and_congr_left fun _=>?_
    constructor
    ·intro h j h1 h2
     by_cases e:j=i
     ·subst e;exact ⟨⟨hok,had',by simp [ht]⟩,by simp [hk]⟩
     ·exact h j (by omega) (by omega)
    ·intro h j h1 h2
     exact h j (by omega) (by omega)
   | some g =>
    simp only
    cases hf:fnd ns g with
    | none =>
     simp only
     constructor
     ·constructor
      ·intro h;simp at h
      ·rintro ⟨h,_⟩
       obtain ⟨nx,h2⟩:=(h i (Nat.le_refl _) (by omega)).1.2.2 g ht
       rw [hf] at h2;simp at h2
     ·intro h;simp at h
    | some nx =>
     have hk:kid D ns (wd ns n i)=some nx:=by unfold kid;rw [ht];exact hf
     have hsI:subI D ns is n i=is nx:=by unfold subI;rw [hk]
     have hsH:subH D ns hs l n first i=(if D.hug (wd ns n i)=true then [(((first+i*8^l)/8:Nat):Int)] else [])++hs nx (first+i*8^l):=by unfold subH;rw [hk]
     have hnx:=kid_lt hk
     have h1:=hrc nx (first+i*8^l) st1 hnx (by rw [e1];exact hl)
     rw [e1,e2] at h1
     simp only
     obtain ⟨R,hR⟩:∃ R,R=rc nx (first+i*8^l) st1:=⟨_,rfl⟩
     rw [← hR] at h1 ⊢
     rw [hsI,hsH]
     cases hb:R.1 with
     | false =>
      rw [hb] at h1
      simp only [Bool.false_eq_true,if_false,false_iff]
      refine ⟨?_,fun h=>h.elim⟩
      rintro ⟨h2,h3,h4⟩
      refine absurd (h1.1.2 ⟨(h2 i (Nat.le_refl _) (by omega)).2 nx hk,(List.nodup_append.1 h3).1,fun j hj=>h4 j (by simp [hj])⟩) (by simp)
     | true =>
      rw [hb] at h1
      obtain ⟨⟨g1,g2,g3⟩,g4⟩:=And.intro (h1.1.1 rfl) (h1.2 rfl)
      simp only [if_true]
      have h5:=ih (i:=i+1) (st:=R.2) (by rw [g4];simp [hl])
      rw [g4] at h5 ⊢
      simp only at h5
      have hin:∀ j∈is nx,j<st.1.length:=by rw [hl];exact hlt nx hnx
      rw [← markL_append] at h5
      simp only [List.append_assoc] at h5 ⊢
      refine ⟨h5.1.trans ?_,h5.2⟩
      constructor
      ·rintro ⟨a1,a2,a3⟩
       refine ⟨fun j q1 q2=>?_,?_,fun j hj=>?_⟩
       ·by_cases e:j=i
        ·subst e
         refine ⟨⟨hok,had',fun g' hg'=>?_⟩,fun nx' hnx'=>?_⟩
         ·rw [ht] at hg';simp only [Option.some.injEq] at hg';subst hg';exact ⟨nx,hf⟩
         ·rw [hk] at hnx';simp only [Option.some.injEq] at hnx';subst hnx';exact g1
        ·exact a1 j (by omega) (by omega)
       ·refine List.nodup_append.2 ⟨g2,a2,fun a ha b hb e=>?_⟩
        subst e
        have:=a3 a hb
        rw [markL_getD hin] at this
        simp [ha] at this
       ·rcases List.mem_append.1 hj with hj|hj
        ·exact g3 j hj
        ·have:=a3 j hj
         rw [markL_getD hin] at this
         simp only [Bool.or_eq_false_iff] at this
         exact this.2
      ·rintro ⟨a1,a2,a3⟩
       have a2':=List.nodup_append.1 a2
       refine ⟨fun j q1 q2=>a1 j (by omega) (by omega),a2'.2.1,fun j hj=>?_⟩
       rw [markL_getD hin,a3 j (by simp [hj])]
       simp only [Bool.or_false,decide_eq_false_iff_not]
       exact fun h=>a2'.2.2 j h j hj rfl
theorem wk_ok (hz:∀ w,D.ok 0 w=true→D.tab w=none):∀ {l:Nat},RcOK D ns (wk D ns l) (good D ns l) (ids D ns l) (hugs D ns l)
 | 0=>fun n first st hn hl=>by
  have hrc:RcOK D ns (fun _ _ st=>(false,st)) (fun _ _=>False) (fun _=>[]) (fun _ _=>[]):=fun n first st _ _=>by simp
  have h1:=wkF_ok hrc (fun n hn=>by simp) (l:=0) (n:=n) (first:=first) (k:=8) (i:=0) (st:=(st.1.set n true,st.2)) (by simpa using hl)
  simp only [wk]
  cases hb:st.1.getD n false with
  | true =>
   simp only [if_true]
   refine ⟨⟨fun h=>by simp at h,fun h=>?_⟩,fun h=>by simp at h⟩
   have:=h.2.2 n (by simp [ids])
   rw [hb] at this;simp at this
  | false =>
   simp only [Bool.false_eq_true,if_false]
   have hr:List.range' 0 8=List.range 8:=List.range_eq_range'.symm
   rw [hr] at h1
   have e1:(List.range 8).flatMap (subI D ns (fun _=>[]) n)=[]:=by
    rw [List.flatMap_eq_nil_iff]
    intro x _
    unfold subI
    split<;>rfl
   have e2:(List.range 8).flatMap (subH D ns (fun _ _=>[]) 0 n first)=hugs D ns 0 n first:=by
    unfold subH hugs
    congr 1
    funext i
    congr 1
    split<;>rfl
   rw [e1,e2] at h1
   have e3:ids D ns 0 n=[n]:=rfl
   rw [e3]
   refine ⟨h1.1.trans ?_,fun h=>by rw [h1.2 h];simp [markL]⟩
   simp only [good]
   constructor
   ·rintro ⟨a1,_,_⟩
    refine ⟨fun i hi=>(a1 i (by omega) (by omega)).1,by simp,by simpa using hb⟩
   ·rintro ⟨a1,_,_⟩
    refine ⟨fun j _ hj=>⟨a1 j (by omega),fun nx h=>?_⟩,by simp,by simp⟩
    have:=hz _ (a1 j (by omega)).1
    unfold kid at h
    rw [this] at h
    simp at h
 | l+1=>fun n first st hn hl=>by
  have h1:=wkF_ok (wk_ok hz (l:=l)) (fun n hn=>ids_lt hn) (l:=l+1) (n:=n) (first:=first) (k:=8) (i:=0) (st:=(st.1.set n true,st.2)) (by simpa using hl)
  simp only [wk]
  cases hb:st.1.getD n false with
  | true =>
   simp only [if_true]
   refine ⟨⟨fun h=>by simp at h,fun h=>?_⟩,fun h=>by simp at h⟩
   have:=h.2.2 n (by simp [ids])
   rw [hb] at this;simp at this
  | false =>
   simp only [Bool.false_eq_true,if_false]
   have hr:List.range' 0 8=List.range 8:=List.range_eq_range'.symm
   rw [hr] at h1
   have hset:∀ j,(st.1.set n true).getD j false=(decide (n=j)||st.1.getD j false):=fun j=>set_getD _ j (by omega)
   have e1:(List.range 8).flatMap (subI D ns (ids D ns l) n)=(List.range 8).flatMap fun i=>match kid D ns (wd ns n i) with
    | some nx=>ids D ns l nx
    | none=>[]:=rfl
   have e2:(List.range 8).flatMap (subH D ns (hugs D ns l) (l+1) n first)=hugs D ns (l+1) n first:=rfl
   have e3:ids D ns (l+1) n=n::(List.range 8).flatMap (subI D ns (ids D ns l) n):=rfl
   rw [e2] at h1
   rw [e3,markL_cons,List.nodup_cons]
   refine ⟨h1.1.trans ?_,h1.2⟩
   simp only [good]
   constructor
   ·rintro ⟨a1,a2,a3⟩
    refine ⟨fun i hi=>a1 i (by omega) (by omega),⟨fun hm=>?_,a2⟩,fun i hi=>?_⟩
    ·have:=a3 n hm
     rw [hset] at this;simp at this
    ·rcases List.mem_cons.1 hi with rfl|hi
     ·exact hb
     ·have:=a3 i hi
      rw [hset] at this
      simp only [Bool.or_eq_false_iff] at this
      exact this.2
   ·rintro ⟨a1,a2,a3⟩
    refine ⟨fun j _ hj=>a1 j (by omega),a2.2,fun j hj=>?_⟩
    rw [hset,a3 j (by simp [hj])]
    simp only [Bool.or_false,decide_eq_false_iff_not]
    rintro rfl
    exact a2.1 hj
end
end Go.AM
namespace Go.AM
theorem flatMap_congr' {α β:Type} {l:List α} {f g:α→List β} (h:∀ a∈l,f a=g a):l.flatMap f=l.flatMap g:=by
 induction l with
 | nil=>rfl
 | cons a l ih=>rw [List.flatMap_cons,List.flatMap_cons,h a (by simp),ih fun b hb=>h b (by simp [hb])]
theorem filterMap_congr' {α β:Type} {l:List α} {f g:α→Option β} (h:∀ a∈l,f a=g a):l.filterMap f=l.filterMap g:=by
 induction l with
 | nil=>rfl
 | cons a l ih=>rw [List.filterMap_cons,List.filterMap_cons,h a (by simp),ih fun b hb=>h b (by simp [hb])]
def plN (D:Wd) (ns:NdL) (r:Nat):Nat→Nat→Option Nat
 | 0,_=>some r
 | d+1,q=>(plN D ns r d (q/8)).bind fun n=>kid D ns (wd ns n (q%8))
def Pos:List (Nat×Nat):=(0,0)::(List.range 8).flatMap fun i=>(1,i)::(List.range 8).map fun j=>(2,i*8+j)
theorem mem_Pos {x:Nat×Nat}:x∈Pos↔(x.1=0∧x.2=0)∨(x.1=1∧x.2<8)∨(x.1=2∧x.2<64):=by
 obtain ⟨a,b⟩:=x
 simp only [Pos,List.mem_cons,Prod.mk.injEq,List.mem_flatMap,List.mem_range,List.mem_map]
 constructor
 ·rintro (⟨rfl,rfl⟩|⟨i,hi,⟨rfl,rfl⟩|⟨j,hj,rfl,rfl⟩⟩)
  ·exact .inl ⟨rfl,rfl⟩
  ·exact .inr (.inl ⟨rfl,hi⟩)
  ·exact .inr (.inr ⟨rfl,by omega⟩)
 ·rintro (⟨rfl,rfl⟩|⟨rfl,h⟩|⟨rfl,h⟩)
  ·exact .inl ⟨rfl,rfl⟩
  ·exact .inr ⟨b,h,.inl ⟨rfl,rfl⟩⟩
  ·exact .inr ⟨b/8,by omega,.inr ⟨b%8,by omega,rfl,by omega⟩⟩
theorem Pos_nodup:Pos.Nodup:=by decide +kernel
section
variable {D:Wd} {ns:NdL} {r:Nat}
theorem ids_pos:ids D ns 2 r=Pos.filterMap fun x=>plN D ns r x.1 x.2:=by
 simp only [ids,Pos,List.filterMap_cons,plN]
 congr 1
 rw [List.filterMap_flatMap]
 refine flatMap_congr' fun i hi=>?_
 have hi':i<8:=List.mem_range.1 hi
 simp only [List.filterMap_cons,plN,List.filterMap_map]
 have e1:i%8=i:=by omega
 simp only [Option.bind_some,e1]
 have e2:∀ j∈List.range 8,(match kid D ns (wd ns r i) with|some n=>kid D ns (wd ns n j)|none=>none)=((fun x:Nat×Nat=>plN D ns r x.1 x.2) ∘ fun j=>(2,i*8+j)) j:=fun j hj=>by
  have hj':j<8:=List.mem_range.1 hj
  have e3:(i*8+j)/8=i:=by omega
  have e4:(i*8+j)%8=j:=by omega
  simp only [Function.comp,plN,Option.bind_some,e3,e4,e1]
  cases kid D ns (wd ns r i)<;>rfl
 cases hk:kid D ns (wd ns r i) with
 | none =>
  simp only [hk] at e2 ⊢
  symm
  rw [List.filterMap_eq_nil_iff]
  intro j hj
  rw [← e2 j hj]
 | some n =>
  simp only [hk] at e2 ⊢
  congr 1
  have:List.filterMap ((fun x:Nat×Nat=>plN D ns r x.1 x.2) ∘ fun j=>(2,i*8+j)) (List.range 8)=List.filterMap (fun j=>kid D ns (wd ns n j)) (List.range 8):=by
   exact filterMap_congr' fun j hj=>(e2 j hj).symm
  rw [this]
  induction (List.range 8) with
  | nil=>rfl
  | cons a l ih=>rw [List.flatMap_cons,List.filterMap_cons,ih];cases kid D ns (wd ns n a)<;>rfl
theorem ids_nodup:(ids D ns 2 r).Nodup↔∀ x∈Pos,∀ y∈Pos,∀ n,plN D ns r x.1 x.2=some n→plN D ns r y.1 y.2=some n→x=y:=by
 rw [ids_pos]
 unfold List.Nodup
 rw [List.pairwise_filterMap]
 constructor
 ·intro h x hx y hy n h1 h2
  rw [List.pairwise_iff_getElem] at h
  obtain ⟨i,hi,rfl⟩:=List.getElem_of_mem hx
  obtain ⟨j,hj,rfl⟩:=List.getElem_of_mem hy
  rcases Nat.lt_trichotomy i j with hij|rfl|hij
  ·exact absurd rfl (h i j hi hj hij n h1 n h2)
  ·rfl
  ·exact absurd rfl (h j i hj hi hij n h2 n h1)
 ·intro h
  have:=List.pairwise_iff_getElem.1 Pos_nodup
  refine List.pairwise_iff_getElem.2 fun i j hi hj hij b h1 b' h2 e=>?_
  subst e
  exact this i j hi hj hij (h _ (List.getElem_mem hi) _ (List.getElem_mem hj) b h1 h2)
theorem mem_ids {n:Nat}:n∈ids D ns 2 r↔∃ x∈Pos,plN D ns r x.1 x.2=some n:=by
 rw [ids_pos,List.mem_filterMap]
structure WdOK (D:Wd):Prop where
 flat:∀ w,D.ok 0 w=true→D.tab w=none
 one:∀ l w,D.ok l w=true→D.hug w=true→l=1
 notab:∀ w,D.hug w=true→D.tab w=none
theorem good_pos (hD:WdOK D):good D ns 2 r 0↔∀ x∈Pos,∀ n,plN D ns r x.1 x.2=some n→∀ i,i<8→D.ok (2 - x.1) (wd ns n i)=true∧(x.1=1→D.hug (wd ns n i)=true→D.adm ((x.2*8+i:Nat):Int)=true)∧∀ g,D.tab (wd ns n i)=some g→∃ nx,fnd ns g=some nx:=by
 constructor
 ·intro h x hx n hn i hi
  rcases mem_Pos.1 hx with ⟨h1,h2⟩|⟨h1,h2⟩|⟨h1,h2⟩
  ·obtain ⟨a,b⟩:=x
   simp only at h1 h2
   subst h1 h2
   simp only [plN,Option.some.injEq] at hn
   subst hn
   have:=(h i hi).1
   exact ⟨this.1,fun e=>by simp at e,this.2.2⟩
  ·obtain ⟨a,b⟩:=x
   simp only at h1 h2
   subst h1
   simp only [plN,Option.bind_some,show b%8=b by omega] at hn
   have:=((h b h2).2 n hn i hi).1
   refine ⟨this.1,fun _ hh=>?_,this.2.2⟩
   have:=this.2.1 hh
   simp only at this ⊢
   rw [show (0+b*8^(1+1)+i*8^(0+1))/8=b*8+i by omega] at this
   exact this
  ·obtain ⟨a,b⟩:=x
   simp only at h1 h2
   subst h1
   simp only [plN,Option.bind_some] at hn
   cases hk:kid D ns (wd ns r (b/8%8)) with
   | none=>rw [hk] at hn;simp at hn
   | some m =>
    rw [hk] at hn
    simp only [Option.bind_some] at hn
    have:=((h (b/8) (by omega)).2 m (by rw [show b/8%8=b/8 by omega] at hk;exact hk) (b%8) (by omega)).2 n hn i hi
    exact ⟨this.1,fun e=>by simp at e,this.2.2⟩
 ·intro h i hi
  have h0:=h (0,0) (by simp [Pos]) r rfl
  have hnh:∀ {l w:Nat},l≠1→D.ok l w=true→D.hug w=true→False:=fun hl h1 h2=>hl (hD.one _ _ h1 h2)
  refine ⟨⟨(h0 i hi).1,fun hh=>(hnh (by decide) (h0 i hi).1 hh).elim,(h0 i hi).2.2⟩,fun n1 hk=>?_⟩
  have h1:=h (1,i) (mem_Pos.2 (.inr (.inl ⟨rfl,hi⟩))) n1 (by simp only [plN,Option.bind_some,show i%8=i by omega];exact hk)
  intro j hj
  refine ⟨⟨(h1 j hj).1,fun hh=>?_,(h1 j hj).2.2⟩,fun n2 hk2=>?_⟩
  ·have:=(h1 j hj).2.1 rfl hh
   simp only at this
   rw [show (0+i*8^(1+1)+j*8^(0+1))/8=i*8+j by omega]
   exact this
  ·have h2:=h (2,i*8+j) (mem_Pos.2 (.inr (.inr ⟨rfl,by show i*8+j<64;omega⟩))) n2 (by
    simp only [plN,Option.bind_some,show (i*8+j)/8=i by omega,show (i*8+j)%8=j by omega,show i%8=i by omega]
    rw [hk];exact hk2)
   intro k hk3
   exact ⟨(h2 k hk3).1,fun hh=>(hnh (l:=0) (by decide) (h2 k hk3).1 hh).elim,(h2 k hk3).2.2⟩
def hugP (D:Wd) (ns:NdL) (r:Nat) (g:Nat):Bool:=match plN D ns r 1 (g/8) with
 | some n=>D.hug (wd ns n (g%8))
 | none=>false
def hugL (D:Wd) (ns:NdL) (r:Nat):List Int:=((List.range 64).filter (hugP D ns r)).map fun g:Nat=>(g:Int)
theorem range64:List.range 64=(List.range 8).flatMap fun i=>(List.range 8).map fun j=>i*8+j:=by decide +kernel
theorem hugs_pos (hD:WdOK D) (hg:good D ns 2 r 0):hugs D ns 2 r 0=hugL D ns r:=by
 unfold hugL
 rw [range64,List.filter_flatMap,List.map_flatMap]
 unfold hugs
 refine flatMap_congr' fun i hi=>?_
 have hi':i<8:=List.mem_range.1 hi
 have h0:=(hg i hi').1
 have:D.hug (wd ns r i)=false:=by
  cases hh:D.hug (wd ns r i) with
  | false=>rfl
  | true=>exact absurd (hD.one _ _ h0.1 hh) (by decide)
 simp only [this,Bool.false_eq_true,if_false,List.nil_append]
 rw [List.filter_map,List.map_map]
 have e:∀ j,j<8→hugP D ns r (i*8+j)=(match kid D ns (wd ns r i) with|some n=>D.hug (wd ns n j)|none=>false):=fun j hj=>by
  unfold hugP
  simp only [plN,Option.bind_some,show (i*8+j)/8=i by omega,show (i*8+j)%8=j by omega,show i%8=i by omega]
 cases hk:kid D ns (wd ns r i) with
 | none =>
  simp only
  symm
  rw [List.map_eq_nil_iff,List.filter_eq_nil_iff]
  intro j hj
  have:=e j (List.mem_range.1 hj)
  rw [hk] at this
  simp [this]
 | some n =>
  simp only
  have h1:=(hg i hi').2 n hk
  unfold hugs
  rw [hk] at e
  simp only at e
  have hn0:∀ j,j<8→(match kid D ns (wd ns n j) with|some nx=>hugs D ns 0 nx (0+i*8^(1+1)+j*8^(0+1))|none=>[])=[]:=fun j hj=>by
   cases hk2:kid D ns (wd ns n j) with
   | none=>rfl
   | some m =>
    simp only
    unfold hugs
    rw [List.flatMap_eq_nil_iff]
    intro k hk3
    have h2:=(h1 j hj).2 m hk2 k (List.mem_range.1 hk3)
    have:D.hug (wd ns m k)=false:=by
     cases hh:D.hug (wd ns m k) with
     | false=>rfl
     | true=>exact absurd (hD.one _ _ h2.1 hh) (by decide)
    simp [this]
  have:∀ l:List Nat,(∀ j∈l,j<8)→(l.flatMap fun j=>(if D.hug (wd ns n j)=true then [(((0+i*8^(1+1)+j*8^(0+1))/8:Nat):Int)] else [])++(match kid D ns (wd ns n j) with|some nx=>hugs D ns 0 nx (0+i*8^(1+1)+j*8^(0+1))|none=>[]))=List.map ((fun g:Nat=>(g:Int)) ∘ fun j=>i*8+j) (List.filter (hugP D ns r ∘ fun j=>i*8+j) l):=by
   intro l hl
   induction l with
   | nil=>rfl
   | cons j l ih =>
    rw [List.flatMap_cons,ih fun k hk=>hl k (by simp [hk]),hn0 j (hl j (by simp)),List.append_nil,List.filter_cons]
    simp only [Function.comp,e j (hl j (by simp))]
    rw [show (0+i*8^(1+1)+j*8^(0+1))/8=i*8+j by omega]
    cases D.hug (wd ns n j)<;>simp
  exact this _ fun j hj=>List.mem_range.1 hj
end
end Go.AM
