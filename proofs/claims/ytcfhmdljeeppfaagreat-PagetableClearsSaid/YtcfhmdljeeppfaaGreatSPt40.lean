/- A part of the proof: what functions of the program compute, by abstract execution of their code. Its theorems hold without further condition. -/
import Derived.Test.YtcfhmdljeeppfaaGreatSPt38
import Derived.Shelf.SlSortFuncK.WholeK
import Derived.Test.YtcfhmdljeeppfaaGreatSAmTa
import Derived.Test.YtcfhmdljeeppfaaGreatSPt5
import Derived.Test.YtcfhmdljeeppfaaGreatSPtM
import Derived.Deep.RegionHeld3
import Derived.LoopN
import Derived.WalkKit
set_option linter.all false
namespace Go.AM
open Go Go.Proofs
theorem prows_append (a b:List Dp):prows a++prows b=prows (a++b):=by simp [prows]
theorem prows_drop (l:List Dp) (n:Nat):(prows l).drop n=prows (l.drop n):=by simp [prows,List.map_drop]
theorem prow_flat {l:List Dp}:(AV.ow 2 (prows l)).flat:=by
 simp only [AV.flat,AV.flatV,AV.flat1]
 intro e he a ha
 obtain ⟨x,_,rfl⟩:=List.mem_map.1 he
 simp at ha
 rcases ha with rfl|rfl<;>trivial
theorem xOvl:ExtOK Tryz.prog 218 ovlF :=
 ovl_ok (tR:=4) Tryz.func218 (by kernel_rfl) (by kernel_rfl) (by kernel_rfl) (by kernel_rfl) tyDs rfl tyD
def two2 (_:Nat):Nat:=2
theorem prows_replicate (n:Nat):List.replicate n [AV.v (.int .i64 0),AV.v (.int .i64 0)]=prows (List.replicate n (0,0)):=by simp [prows,I]
theorem nrows_replicate (n:Nat):List.replicate n [AV.v (.int .i64 0),AV.v (.int .u64 0),AV.v (.int .u64 0),AV.v (.int .u64 0),AV.v (.int .u64 0),AV.v (.int .u64 0),AV.v (.int .u64 0),AV.v (.int .u64 0),AV.v (.int .u64 0)]=nrows (List.replicate n (0,zs8)):=by
 simp only [nrows,List.map_replicate];rfl
theorem nrows_append (a b:List Nd):nrows a++nrows b=nrows (a++b):=by simp [nrows]
theorem ins_shift {α:Type} {L P S A:List α} {x:α} {i n:Nat} (hL:L=P++S) (hi:P.length=i) (hn:L.length=n) (h1:1≤A.length) (hS:i<n) :
  P++x::S=List.take (n+1) (List.take i (List.take (i+1) (L++A)++(List.take (n - i) (List.take (n+1 - i) (List.drop i (L++A)))++List.drop (i+1+(n - i)) (L++A))) ++
   (List.take 1 [x]++List.drop (i+1) (List.take (i+1) (L++A)++(List.take (n - i) (List.take (n+1 - i) (List.drop i (L++A)))++List.drop (i+1+(n - i)) (L++A))))):=by
 subst hL hi
 obtain ⟨s,S,rfl⟩:∃ s S',S=s::S':=by cases S with|nil=>simp at hn;omega|cons a b=>exact ⟨a,b,rfl⟩
 obtain ⟨a,A,rfl⟩:∃ s S',A=s::S':=by cases A with|nil=>simp at h1|cons a b=>exact ⟨a,b,rfl⟩
 subst hn
 rw [List.length_append]
 have e1:List.take (P.length+1) (P++s::S++a::A)=P++[s]:=by simp [List.take_append,List.take_of_length_le]
 have e2:List.drop P.length (P++s::S++a::A)=s::S++a::A:=by simp
 have e3:P.length+(s::S).length - P.length=(s::S).length:=by omega
 have e4:P.length+(s::S).length+1 - P.length=(s::S).length+1:=by omega
 have e5:List.take (s::S).length (List.take ((s::S).length+1) (s::S++a::A))=s::S:=by rw [List.take_take,Nat.min_eq_left (by omega)];simp
 have e6:List.drop (P.length+1+(s::S).length) (P++s::S++a::A)=A:=by
  rw [show P.length+1+(s::S).length=(P++s::S).length+1 by simp;omega,← List.drop_drop,List.drop_left];simp
 rw [e1,e2,e3,e4,e5,e6]
 have e7:List.take P.length (P++[s]++(s::S++A))=P:=by simp
 have e8:List.drop (P.length+1) (P++[s]++(s::S++A))=s::S++A:=by
  rw [show P.length+1=(P++[s]).length by simp,List.drop_left]
 rw [e7,e8]
 have e9:P++([x].take 1++(s::S++A))=(P++x::s::S)++A:=by simp
 rw [e9,show P.length+(s::S).length+1=(P++x::s::S).length by simp;omega,List.take_left]
theorem ins_grow {α:Type} {L P S Z D:List α} {x:α} {i n:Nat} (hL:L=P++S) (hi:P.length=i) (hn:L.length=n) :
  P++x::S=List.take (n+1) (List.take (i+1) (List.take i (List.take i (L++[])++Z)++(List.take 1 [x]++List.drop (i+1) (List.take i (L++[])++Z)))++(List.take (n - i) (List.take (n - i) (List.drop i (L++[])))++D)):=by
 subst hL hi hn
 rw [List.length_append]
 have e0:List.take P.length (P++S++[])=P:=by simp
 have e1:List.take P.length (P++Z)=P:=by simp
 have e2:List.take (P.length+1) (P++(List.take 1 [x]++List.drop (P.length+1) (P++Z)))=P++[x]:=by simp [List.take_append,List.take_of_length_le]
 have e4:List.take (P.length+S.length - P.length) (List.take (P.length+S.length - P.length) (List.drop P.length (P++S++[])))=S:=by
  rw [show P.length+S.length - P.length=S.length by omega];simp
 rw [e0,e1,e2,e4]
 have e3:P++[x]++(S++D)=(P++x::S)++D:=by simp
 rw [e3,show P.length+S.length+1=(P++x::S).length by simp;omega,List.take_left]
theorem s190 (X:AX) (hX:XOK Tryz.prog X) (h42:X.call 218=ovlF):MSound Tryz.prog 190 (specM (ι:={x:List Dp×Nat×Dp // x.2.1≤x.1.length∧x.1.length≤1000000}) (fun x=>.ow 2 (prows x.1.1)) (fun x=>[I x.1.2.1,.rd 2 (prows [x.1.2.2])]) (fun x=>retOf [.ow 2 (prows (x.1.1.take x.1.2.1++x.1.2.2::x.1.1.drop x.1.2.1))]) fun _=>.any):=by
 refine msound_cap_spec Tryz.func190 rfl X fun ⟨⟨l,i,x⟩,hi,hl⟩ w0 bl E m=>⟨by show 3≤95;decide,rfl,?_⟩
 simp only at hi hl
 show AW ⟨Tryz.prog,X,95,w0,⟨bl,E,1⟩⟩ _ _ _
 have hc:Cx.OK ⟨Tryz.prog,X,95,w0,⟨bl,E,1⟩⟩:=⟨hX,mixed⟩
 have hm:m=0∨1≤m:=by omega
 have hP:prows l=prows (l.take i)++prows (l.drop i):=by rw [prows_append,List.take_append_drop]
 have hR:prows (l.take i++x::l.drop i)=prows (l.take i)++[I x.1,I x.2]::prows (l.drop i):=by simp [prows]
 have hPl:(prows (l.take i)).length=i:=by simp;omega
 rcases hm with rfl|hm
 ·repeat' (first|(apply aw_seq_k;intro K hK)|(refine aw_run hc (by first|exact aw_nod|(intro _;rw [ordB_w hw];kernel_rfl)|(intro _;rw [ordB_w0 hw0];kernel_rfl)|(intro _;kernel_rfl)) ?_;simp (disch:=first|omega|assumption|(simp;done)|fail) [if_pos,if_neg,List.zipIdx,Int.ofNat_inj,h42,ovlF,wrap64];try (repeat' (refine guardQ_split (fun h=>?_) (fun h=>?_)<;>simp at h<;>simp (disch:=first|omega|assumption|(simp;done)|fail) [if_pos,if_neg,List.zipIdx,Int.ofNat_inj,h42,ovlF,wrap64])))|(refine aw_cond (b:=_) (by exact rfl) (fun h=>?_) (fun h=>?_)<;>(try simp at h))|(refine aw_block ?_)|(refine aw_skip ?_;simp only [thenQ,blockQ,if_true])|(refine aw_exit ?_;simp [thenQ,blockQ])|(refine aw_ret ?_;simp only [thenQ,blockQ])|(refine hK _ ?_;clear hK)|(clear hK;refine hK _ ?_;clear hK)|(clear hK;clear hK;refine hK _ ?_;clear hK)|(clear hK;clear hK;clear hK;refine hK _ ?_;clear hK))
  all_goals first|(exfalso;omega)|skip
  all_goals (refine ⟨by simp,leavesM_any ?_⟩;simp (disch:=first|omega|assumption|(simp;done)|fail) [if_pos,if_neg,leaves_iff,Tryz.f190])
  ·subst h
   rw [prows_append]
   simp [List.take_of_length_le]
  ·rw [hR]
   exact ins_grow hP hPl (prows_length l)
 ·repeat' (first|(apply aw_seq_k;intro K hK)|(refine aw_run hc (by first|exact aw_nod|(intro _;rw [ordB_w hw];kernel_rfl)|(intro _;rw [ordB_w0 hw0];kernel_rfl)|(intro _;kernel_rfl)) ?_;simp (disch:=first|omega|assumption|(simp;done)|fail) [if_pos,if_neg,List.zipIdx,Int.ofNat_inj,h42,ovlF,wrap64];try (repeat' (refine guardQ_split (fun h=>?_) (fun h=>?_)<;>simp at h<;>simp (disch:=first|omega|assumption|(simp;done)|fail) [if_pos,if_neg,List.zipIdx,Int.ofNat_inj,h42,ovlF,wrap64])))|(refine aw_cond (b:=_) (by exact rfl) (fun h=>?_) (fun h=>?_)<;>(try simp at h))|(refine aw_block ?_)|(refine aw_skip ?_;simp only [thenQ,blockQ,if_true])|(refine aw_exit ?_;simp [thenQ,blockQ])|(refine aw_ret ?_;simp only [thenQ,blockQ])|(refine hK _ ?_;clear hK)|(clear hK;refine hK _ ?_;clear hK)|(clear hK;clear hK;refine hK _ ?_;clear hK)|(clear hK;clear hK;clear hK;refine hK _ ?_;clear hK))
  all_goals first|(exfalso;omega)|skip
  all_goals (refine ⟨by simp,leavesM_any ?_⟩;simp (disch:=first|omega|assumption|(simp;done)|fail) [if_pos,if_neg,leaves_iff,Tryz.f190])
  ·subst h
   rw [← List.append_assoc,prows_append,List.take_append_of_le_length (by simp),List.take_of_length_le (by simp)]
   simp [List.take_of_length_le]
  ·rw [hR]
   exact ins_shift hP hPl (prows_length l) (by simpa using hm) (by omega)
theorem s192 (X:AX) (hX:XOK Tryz.prog X) (hw:X.W wT):MSound Tryz.prog 192 (specM (ι:={x:List Dp×Nat×Nat // x.2.1≤x.2.2∧x.2.2≤x.1.length∧x.1.length≤1000000}) (fun x=>.ow 2 (prows x.1.1)) (fun x=>[I x.1.2.1,I x.1.2.2]) (fun x=>retOf [.ow 2 (prows (x.1.1.take x.1.2.1++x.1.1.drop x.1.2.2))]) fun _=>.any):=by
 refine msound_spec Tryz.func192 rfl X fun ⟨⟨l,i,j⟩,hij,hj,hl⟩ w0 bl E=>⟨by show 3≤33;decide,rfl,?_⟩
 simp only at hij hj hl
 show AW ⟨Tryz.prog,X,33,w0,⟨bl,E,1⟩⟩ _ _ _
 have hc:Cx.OK ⟨Tryz.prog,X,33,w0,⟨bl,E,1⟩⟩:=⟨hX,mixed⟩
 repeat' (first|(apply aw_seq_k;intro K hK)|(refine aw_run hc (by first|exact aw_nod|(intro _;rw [ordB_w hw];kernel_rfl)|(intro _;rw [ordB_w0 hw0];kernel_rfl)|(intro _;kernel_rfl)) ?_;simp (disch:=first|omega|assumption|(simp;done)|fail) [if_pos,if_neg,List.zipIdx,Int.ofNat_inj];try (repeat' (refine guardQ_split (fun h=>?_) (fun h=>?_)<;>simp at h<;>simp (disch:=first|omega|assumption|(simp;done)|fail) [if_pos,if_neg,List.zipIdx,Int.ofNat_inj])))|(refine aw_cond (b:=_) (by exact rfl) (fun h=>?_) (fun h=>?_)<;>(try simp at h))|(refine aw_block ?_)|(refine aw_skip ?_;simp only [thenQ,blockQ,if_true])|(refine aw_exit ?_;simp [thenQ,blockQ])|(refine aw_ret ?_;simp only [thenQ,blockQ])|(refine hK _ ?_;clear hK)|(clear hK;refine hK _ ?_;clear hK)|(clear hK;clear hK;refine hK _ ?_;clear hK)|(clear hK;clear hK;clear hK;refine hK _ ?_;clear hK))
 ·refine ⟨by simp,leavesM_any ?_⟩
  simp (disch:=first|omega|assumption|(simp;done)|fail) [if_pos,if_neg,leaves_iff,Tryz.f192]
  subst h
  simp [List.take_of_length_le]
 ·refine ⟨by simp,leavesM_any ?_⟩
  simp (disch:=first|omega|assumption|(simp;done)|fail) [if_pos,if_neg,leaves_iff,Tryz.f192,prows_take,prows_drop,prows_append,prows_replicate]
  have e1:l.take i++((l.drop j).take (l.length - j)++l.drop (i+(l.length - j)))=(l.take i++l.drop j)++l.drop (i+(l.length - j)):=by
   rw [List.take_of_length_le (l:=l.drop j) (by simp),List.append_assoc]
  have e2:(l.take i++l.drop j).length=i+(l.length - j):=by simp;omega
  have key:∀ (A B C:List Dp) n,A.length=n→A=((A++B).take n++C).take n:=by
   intro A B C n h
   subst h
   simp
  rw [e1]
  exact congrArg prows (key _ _ _ _ e2)
noncomputable def FInsD:AV→List AV→Option (AV×AV):=specM (ι:={x:List Dp×Nat×Dp // x.2.1≤x.1.length∧x.1.length≤1000000}) (fun x=>.ow 2 (prows x.1.1)) (fun x=>[I x.1.2.1,.rd 2 (prows [x.1.2.2])]) (fun x=>retOf [.ow 2 (prows (x.1.1.take x.1.2.1++x.1.2.2::x.1.1.drop x.1.2.1))]) fun _=>.any
theorem FInsD_at (l:List Dp) (i:Nat) (a b:Int) (h:i≤l.length∧l.length≤1000000):FInsD (.ow 2 (prows l)) [I i,.rd 2 [[I a,I b]]]=some (.ow 2 (prows (l.take i++(a,b)::l.drop i)),.any) :=
 specM_eq (A0:=fun x:{x:List Dp×Nat×Dp // x.2.1≤x.1.length∧x.1.length≤1000000}=>AV.ow 2 (prows x.1.1)) (A:=fun x=>[I x.1.2.1,.rd 2 (prows [x.1.2.2])]) (R:=fun x=>retOf [.ow 2 (prows (x.1.1.take x.1.2.1++x.1.2.2::x.1.1.drop x.1.2.1))]) (O:=fun _=>.any) ⟨(l,i,(a,b)),h⟩ (by
  rintro ⟨⟨l',i',x'⟩,h1,h2⟩ e1 e2
  simp only [AV.ow.injEq,prows_inj,true_and] at e1
  simp only [List.cons.injEq,AV.v.injEq,Value.int.injEq,true_and,AV.rd.injEq,prows_inj,and_true,Int.ofNat_inj] at e2
  obtain ⟨rfl,rfl⟩:=e2
  subst e1
  exact ⟨rfl,rfl⟩)
noncomputable def FDelD:AV→List AV→Option (AV×AV):=specM (ι:={x:List Dp×Nat×Nat // x.2.1≤x.2.2∧x.2.2≤x.1.length∧x.1.length≤1000000}) (fun x=>.ow 2 (prows x.1.1)) (fun x=>[I x.1.2.1,I x.1.2.2]) (fun x=>retOf [.ow 2 (prows (x.1.1.take x.1.2.1++x.1.1.drop x.1.2.2))]) fun _=>.any
theorem FDelD_at (l:List Dp) (i j:Nat) (h:i≤j∧j≤l.length∧l.length≤1000000):FDelD (.ow 2 (prows l)) [I i,I j]=some (.ow 2 (prows (l.take i++l.drop j)),.any) :=
 specM_eq (A0:=fun x:{x:List Dp×Nat×Nat // x.2.1≤x.2.2∧x.2.2≤x.1.length∧x.1.length≤1000000}=>AV.ow 2 (prows x.1.1)) (A:=fun x=>[I x.1.2.1,I x.1.2.2]) (R:=fun x=>retOf [.ow 2 (prows (x.1.1.take x.1.2.1++x.1.1.drop x.1.2.2))]) (O:=fun _=>.any) ⟨(l,i,j),h⟩ (by
  rintro ⟨⟨l',i',j'⟩,h1,h2⟩ e1 e2
  simp only [AV.ow.injEq,prows_inj,true_and] at e1
  simp only [List.cons.injEq,AV.v.injEq,Value.int.injEq,true_and,and_true,Int.ofNat_inj] at e2
  obtain ⟨rfl,rfl⟩:=e2
  subst e1
  exact ⟨rfl,rfl⟩)
theorem FInsD_flat {a0:AV} {avs:List AV} {r o:AV} (h:FInsD a0 avs=some (r,o)):r.flat∧o.flatO:=by
 obtain ⟨i,_,_,h3,h4⟩:=specM_some h
 subst h3 h4
 exact ⟨prow_flat,trivial⟩
theorem FDelD_flat {a0:AV} {avs:List AV} {r o:AV} (h:FDelD a0 avs=some (r,o)):r.flat∧o.flatO:=by
 obtain ⟨i,_,_,h3,h4⟩:=specM_some h
 subst h3 h4
 exact ⟨prow_flat,trivial⟩
end Go.AM
set_option maxHeartbeats 4000000
namespace Go.AM
open Go Go.Proofs
@[simp] theorem tyPtab:Types Tryz.prog 186=some ⟨.pointer 63,1,8,[.pointer none]⟩:=by kernel_rfl
def scM (t:Tb) (g:Int):List AO:=[.box [.bp 1 0],.box [I t.1,.sl 2 1 9 0 t.2.1.length,.sl 3 1 2 0 t.2.2.length],.vec 1 9 false (nrows t.2.1),.vec 1 2 false (prows t.2.2),.box [I g]]
theorem scM_inj {t t':Tb} {g g':Int} (h:scM t g=scM t' g'):t=t'∧g=g':=by
 obtain ⟨r,ns,ds⟩:=t
 obtain ⟨r',ns',ds'⟩:=t'
 simp only [scM,List.cons.injEq,AO.box.injEq,I,AV.v.injEq,Value.int.injEq,true_and,AO.vec.injEq,nrows_inj,prows_inj,and_true] at h
 obtain ⟨⟨h1,_⟩,h2,h3,h4⟩:=h
 exact ⟨by rw [h1,h2,h3],h4⟩
abbrev ScD:=Tb×Int×Nat
noncomputable def clS:List AV→List AO→Option (AV×List AO):=specG (ι:={x:ScD // tbOK x.1∧x.2.2<x.1.2.2.length}) (fun x=>[I x.1.2.2,.bp 0 0,.bp 4 0]) (fun x=>scM x.1.1 x.1.2.1) (fun x=>retOf [B (decide (x.1.2.1≤(gp x.1.1.2.2 x.1.2.2).1))]) fun x=>scM x.1.1 x.1.2.1
theorem clS_at {t:Tb} {g:Int} {i:Nat} (ht:tbOK t) (hi:i<t.2.2.length):clS [I i,.bp 0 0,.bp 4 0] (scM t g)=some (B (decide (g≤(gp t.2.2 i).1)),scM t g):=by
 refine specG_eq (ι:={x:ScD // tbOK x.1∧x.2.2<x.1.2.2.length}) (A:=fun x=>[I x.1.2.2,.bp 0 0,.bp 4 0]) (M:=fun x=>scM x.1.1 x.1.2.1) (R:=fun x=>retOf [B (decide (x.1.2.1≤(gp x.1.1.2.2 x.1.2.2).1))]) (O:=fun x=>scM x.1.1 x.1.2.1) ⟨(t,g,i),ht,hi⟩ fun j hA hM=>?_
 obtain ⟨⟨t',g',i'⟩,h'⟩:=j
 obtain ⟨rfl,rfl⟩:=scM_inj hM
 simp only [List.cons.injEq,I,AV.v.injEq,Value.int.injEq,true_and,and_true] at hA
 have:i'=i:=by omega
 subst this
 exact ⟨rfl,rfl⟩
theorem s189 (X:AX) (hX:XOK Tryz.prog X) (hw:X.W wT):GSound Tryz.prog 189 clS:=by
 unfold clS
 refine gsound_spec Tryz.func189 rfl X fun ⟨⟨⟨r,ns,ds⟩,g,i⟩,ht,hi⟩ w0 L E=>⟨by show 3≤15;decide,?_⟩
 have hi:i<ds.length:=hi
 have hl2:ds.length≤1000000:=ht.2.2
 simp only [scM]
 show AW ⟨Tryz.prog,X,15,w0,⟨L,E,5⟩⟩ _ _ _
 have hc:Cx.OK ⟨Tryz.prog,X,15,w0,⟨L,E,5⟩⟩:=⟨hX,mixed⟩
 have hiI:(i:Int)<(ds.length:Int):=by omega
 have hg:=prows_gi hi
 have hgE:=prows_gE hi
 obtain ⟨⟨a,b⟩,hm⟩:∃ m,m=gp ds i:=⟨_,rfl⟩
 rw [← hm] at hg hgE
 try simp only at hg hgE
 have hm1:(gp ds i).1=a:=by rw [← hm]
 have zS:=jj hi<|jj hiI<|jj hg<|hgE
 refine dM64 ?_
 repeat (intro K hK)
 clear zS
 refine ⟨by simp,_,by simp [aResults,aResult,Tryz.f189];rfl,?_⟩
 simp only [idx,hm1]
 exact dle
theorem s191 (X:AX) (hX:XOK Tryz.prog X) (hw:X.W wT):GSound Tryz.prog 191 clS:=by
 unfold clS
 refine gsound_spec Tryz.func191 rfl X fun ⟨⟨⟨r,ns,ds⟩,g,i⟩,ht,hi⟩ w0 L E=>⟨by show 3≤15;decide,?_⟩
 have hi:i<ds.length:=hi
 have hl2:ds.length≤1000000:=ht.2.2
 simp only [scM]
 show AW ⟨Tryz.prog,X,15,w0,⟨L,E,5⟩⟩ _ _ _
 have hc:Cx.OK ⟨Tryz.prog,X,15,w0,⟨L,E,5⟩⟩:=⟨hX,mixed⟩
 have hiI:(i:Int)<(ds.length:Int):=by omega
 have hg:=prows_gi hi
 have hgE:=prows_gE hi
 obtain ⟨⟨a,b⟩,hm⟩:∃ m,m=gp ds i:=⟨_,rfl⟩
 rw [← hm] at hg hgE
 try simp only at hg hgE
 have hm1:(gp ds i).1=a:=by rw [← hm]
 have zS:=jj hi<|jj hiI<|jj hg<|hgE
 refine dM64 ?_
 repeat (intro K hK)
 clear zS
 refine ⟨by simp,_,by simp [aResults,aResult,Tryz.f191];rfl,?_⟩
 simp only [idx,hm1]
 exact dle
set_option maxRecDepth 4000 in
theorem callCl {t:Tb} {g:Int} {i:Nat} (ht:tbOK t) (hi:i<t.2.2.length) (M:Nat→AO) (nid:Nat)
  (h0:M 0=.box [.bp 1 0]) (h1:M 1=.box [I t.1,.sl 2 1 9 0 t.2.1.length,.sl 3 1 2 0 t.2.2.length]) (h2:M 2=.vec 1 9 false (nrows t.2.1)) (h3:M 3=.vec 1 2 false (prows t.2.2)) (h4:M 4=.box [I g]) :
  callG clS [I i,.bp 0 0,.bp 4 0] M nid=some (B (decide (g≤(gp t.2.2 i).1)),[(0,.box [.bp 1 0]),(1,.box [I t.1,.sl 2 1 9 0 t.2.1.length,.sl 3 1 2 0 t.2.2.length]),(2,.vec 1 9 false (nrows t.2.1)),(3,.vec 1 2 false (prows t.2.2)),(4,.box [I g])]):=by
 have hF:=clS_at (g:=g) ht hi
 simp only [scM] at hF
 unfold callG
 have hg:gat M 64 (nmsL [I i,.bp 0 0,.bp 4 0]) []=[0,1,2,3,4]:=by
  simp [gat,nmsL,AV.nms,AO.nms,h0,h1,h2,h3,h4]
 simp only [hg]
 rw [if_pos ?cg]
 case cg=>simp [CallG,nmsL,AV.nms,AO.nms,Led,curBL,AV.curB,AO.curB,verOf,notDead,h0,h1,h2,h3,h4]
 simp [renL,AV.ren,AO.ren,posN,canO,nmsL,h0,h1,h2,h3,h4,hF,RetG,getL,AV.nms,AO.nms,updN,nmN,shN,verOf,rng,Led]
@[simp] theorem tyUint:Types Tryz.prog 199=some ⟨.int .u64,1,8,[.int .u64 0]⟩:=by kernel_rfl
def lowD (ds:List Dp) (g:Int):Nat:=ds.findIdx fun d=>decide (g≤d.1)
theorem lowD_le {ds:List Dp} {g:Int}:lowD ds g≤ds.length:=List.findIdx_le_length
noncomputable def seS (c:FuncId):List AV→List AO→Option (AV×List AO):=specG (ι:={x:Tb×Int // tbOK x.1∧ascK x.1.2.2}) (fun x=>[I x.1.1.2.2.length,.fn c [.bp 0 0,.bp 4 0]]) (fun x=>scM x.1.1 x.1.2) (fun x=>retOf [I (lowD x.1.1.2.2 x.1.2)]) fun x=>scM x.1.1 x.1.2
theorem seS_at {c:FuncId} {t:Tb} {g:Int} (ht:tbOK t) (ha:ascK t.2.2):seS c [I t.2.2.length,.fn c [.bp 0 0,.bp 4 0]] (scM t g)=some (I (lowD t.2.2 g),scM t g):=by
 refine specG_eq (ι:={x:Tb×Int // tbOK x.1∧ascK x.1.2.2}) (A:=fun x=>[I x.1.1.2.2.length,.fn c [.bp 0 0,.bp 4 0]]) (M:=fun x=>scM x.1.1 x.1.2) (R:=fun x=>retOf [I (lowD x.1.1.2.2 x.1.2)]) (O:=fun x=>scM x.1.1 x.1.2) ⟨(t,g),ht,ha⟩ fun j hA hM=>?_
 obtain ⟨⟨t',g'⟩,h'⟩:=j
 obtain ⟨rfl,rfl⟩:=scM_inj hM
 exact ⟨rfl,rfl⟩
theorem gp_asc {ds:List Dp} (h:ascK ds) {i j:Nat} (hij:i<j) (hj:j<ds.length):(gp ds i).1<(gp ds j).1:=by
 have:=List.pairwise_iff_getElem.1 h i j (by omega) hj hij
 rw [gp_eq (by omega),gp_eq hj];exact this
theorem lowD_at {ds:List Dp} {g:Int} {i:Nat} (hi:i≤ds.length) (h1:∀ k,k<i→¬ g≤(gp ds k).1) (h2:i<ds.length→g≤(gp ds i).1):lowD ds g=i:=by
 unfold lowD
 rcases Nat.lt_or_ge i ds.length with h|h
 ·rw [List.findIdx_eq h]
  refine ⟨by have:=h2 h;rw [gp_eq h] at this;simpa using this,fun j hj=>?_⟩
  have:=h1 j hj
  rw [gp_eq (by omega)] at this
  simpa using this
 ·have:i=ds.length:=by omega
  subst this
  rw [List.findIdx_eq_length]
  intro x hx
  obtain ⟨j,hj,rfl⟩:=List.getElem_of_mem hx
  have:=h1 j hj
  rw [gp_eq hj] at this
  simpa using this
theorem s188 (X:AX) (hX:XOK Tryz.prog X) (hw:X.W wT) (c:FuncId) (hcl:X.call c=callG clS):GSound Tryz.prog 188 (seS c):=by
 unfold seS
 refine gsound_spec Tryz.func188 rfl X fun ⟨⟨⟨r,ns,ds⟩,g⟩,ht,ha⟩ w0 L E=>⟨by show 2≤26;decide,?_⟩
 simp only at ha
 have hl1:ns.length≤1000000:=ht.2.1
 have hl2:ds.length≤1000000:=ht.2.2
 simp only [scM]
 show AW ⟨Tryz.prog,X,26,w0,⟨L,E,5⟩⟩ _ _ _
 have hc:Cx.OK ⟨Tryz.prog,X,26,w0,⟨L,E,5⟩⟩:=⟨hX,mixed⟩
 repeat' (first|(apply aw_seq_k;intro K hK)|(refine eM64o ?_)|(refine aw_cond (b:=_) (by exact rfl) (fun h=>?_) (fun h=>?_)<;>(try simp at h))|(refine eB ?_)|(refine hK _ ?_;clear hK)|(clear hK;refine hK _ ?_;clear hK)|(clear hK;clear hK;refine hK _ ?_;clear hK)|(clear hK;clear hK;clear hK;refine hK _ ?_;clear hK))
 refine aw_loopK (s0:=?lps1) (m0:=?lpm1) (ι:={s:Nat×Nat // s.1≤s.2∧s.2≤ds.length∧(∀ k,k<s.1→¬ g≤(gp ds k).1)∧∀ k,s.2≤k→k<ds.length→g≤(gp ds k).1}) [1] (fun s=>[(5,I s.1.1),(6,I s.1.2)]) (fun _=>[]) (fun s=>s.1.2 - s.1.1) ⟨(0,ds.length),by simp,by simp,by simp,by simp only;omega⟩ ?lhs1 ?lhm1 ?_ ?_
 case lhs1=>first|(simp [keepS];done)|(simp [keepS];rfl)
 case lhm1=>first|rfl|(simp;done)|(simp;rfl)
 ·exact dle
 ·rintro ⟨⟨i,j⟩,hij,hj,h1,h2⟩
  simp only at hij hj h1 h2 ⊢
  rcases Decidable.em (i<j) with hl|hl
  ·have hlI:(i:Int)<(j:Int):=by omega
   obtain ⟨md,hh⟩:∃ md,md=(i+j)/2:=⟨_,rfl⟩
   have hhl:md<ds.length:=by omega
   have hcall:=@callCl (r,ns,ds) g md ht hhl
   simp only at hcall
   rw [← hcl] at hcall
   have hhI:((i:Int)+(j:Int))/2=(md:Int):=by rw [hh];omega
   have hs1:IntKind.u64.wrap ((i:Int)+(j:Int))=(i:Int)+j:=wrapU64 ⟨by omega,by omega⟩
   have hs2:((i:Int)+(j:Int))/2^min 1 IntKind.u64.bits=(md:Int):=by
    rw [show (2:Int)^min 1 IntKind.u64.bits=2 by simp [IntKind.bits]];exact hhI
   rcases Decidable.em (g≤(gp ds md).1) with hq|hq
   ·rw [decide_eq_true hq] at hcall
    have zS:=jj hlI<|jj hcall<|jj hhI<|jj hs1<|hs2
    repeat' (first|(apply aw_seq_k;intro K hK)|(refine eM64 ?_)|(refine aw_cond (b:=_) (by exact rfl) (fun h=>?_) (fun h=>?_)<;>(try simp at h))|(refine eB ?_)|(refine hK _ ?_;clear hK)|(clear hK;refine hK _ ?_;clear hK)|(clear hK;clear hK;refine hK _ ?_;clear hK)|(clear hK;clear hK;clear hK;refine hK _ ?_;clear hK))
    all_goals clear zS
    refine ⟨i,md,?_,⟨by omega,by omega,fun k hk=>by have:=h1 k hk;omega,fun k hk hk2=>?_⟩,by omega⟩
    ·exact dle
    ·rcases Nat.lt_or_ge md k with h3|h3
     ·have:=gp_asc ha h3 hk2;omega
     ·obtain rfl:k=md:=by omega
      exact hq
   ·rw [decide_eq_false hq] at hcall
    have zS:=jj hlI<|jj hcall<|jj hhI<|jj hs1<|hs2
    repeat' (first|(apply aw_seq_k;intro K hK)|(refine eM64 ?_)|(refine aw_cond (b:=_) (by exact rfl) (fun h=>?_) (fun h=>?_)<;>(try simp at h))|(refine eB ?_)|(refine hK _ ?_;clear hK)|(clear hK;refine hK _ ?_;clear hK)|(clear hK;clear hK;refine hK _ ?_;clear hK)|(clear hK;clear hK;clear hK;refine hK _ ?_;clear hK))
    all_goals clear zS
    refine ⟨md+1,j,?_,⟨by omega,by omega,fun k hk=>?_,h2⟩,by omega⟩
    ·exact dle
    ·rcases Nat.lt_or_ge k md with h3|h3
     ·have:=gp_asc ha h3 hhl;omega
     ·obtain rfl:k=md:=by omega
      omega
  ·obtain rfl:i=j:=by omega
   have e:lowD ds g=i:=lowD_at (by omega) h1 fun h=>h2 i (Nat.le_refl _) h
   repeat' (first|(apply aw_seq_k;intro K hK)|(refine eM64o ?_)|(refine aw_cond (b:=_) (by exact rfl) (fun h=>?_) (fun h=>?_)<;>(try simp at h))|(refine eB ?_)|(refine hK _ ?_;clear hK)|(clear hK;refine hK _ ?_;clear hK)|(clear hK;clear hK;refine hK _ ?_;clear hK)|(clear hK;clear hK;clear hK;refine hK _ ?_;clear hK))
   refine ⟨by simp,_,by simp [aResults,aResult,Tryz.f188];rfl,?_⟩
   simp only [idx,e]
   exact dle
end Go.AM
namespace Go.AM
open Go Go.Proofs
def sortRen:Go.Shelf.Ren :=
 {f:=fun x=>match x with
   | 6=>214
   | 10=>238
   | 11=>239
   | 12=>240
   | 13=>213
   | 14=>241
   | 24=>236
   | 25=>237
   | 26=>260
   | 27=>261
   | 28=>262
   | 29=>263
   | 30=>264
   | 31=>265
   | 32=>266
   | 33=>267
   | 34=>271
   | 35=>272
   | 36=>273
   | 37=>274
   | 38=>275
   | 39=>276
   | n=>n
  t:=fun x=>match x with
   | 20=>20
   | 26=>250
   | 35=>274
   | 0=>0
   | 37=>145
   | 3=>3
   | 41=>199
   | 44=>280
   | 49=>238
   | 51=>76
   | 4=>4
   | 54=>292
   | 53=>291
   | 58=>179
   | 5=>5
   | 9=>9
   | 60=>301
   | 64=>183
   | 66=>304
   | 67=>79
   | 17=>17
   | 32=>271
   | 33=>272
   | 82=>319
   | 12=>12
   | 75=>312
   | 76=>313
   | 77=>314
   | 78=>315
   | 79=>316
   | 80=>317
   | n=>n
  g:=fun n=>n }
theorem laySort:Go.Proofs.LaysGg.n6 Tryz.prog sortRen :=
 {mixed:=mixed
  f6:=Tryz.func214.trans (congrArg some (by kernel_rfl))
  f10:=Tryz.func238.trans (congrArg some (by kernel_rfl))
  f11:=Tryz.func239.trans (congrArg some (by kernel_rfl))
  f12:=Tryz.func240.trans (congrArg some (by kernel_rfl))
  f13:=Tryz.func213.trans (congrArg some (by kernel_rfl))
  f14:=Tryz.func241.trans (congrArg some (by kernel_rfl))
  f24:=Tryz.func236.trans (congrArg some (by kernel_rfl))
  f25:=Tryz.func237.trans (congrArg some (by kernel_rfl))
  f26:=Tryz.func260.trans (congrArg some (by kernel_rfl))
  f27:=Tryz.func261.trans (congrArg some (by kernel_rfl))
  f28:=Tryz.func262.trans (congrArg some (by kernel_rfl))
  f29:=Tryz.func263.trans (congrArg some (by kernel_rfl))
  f30:=Tryz.func264.trans (congrArg some (by kernel_rfl))
  f31:=Tryz.func265.trans (congrArg some (by kernel_rfl))
  f32:=Tryz.func266.trans (congrArg some (by kernel_rfl))
  f33:=Tryz.func267.trans (congrArg some (by kernel_rfl))
  f34:=Tryz.func271.trans (congrArg some (by kernel_rfl))
  f35:=Tryz.func272.trans (congrArg some (by kernel_rfl))
  f36:=Tryz.func273.trans (congrArg some (by kernel_rfl))
  f37:=Tryz.func274.trans (congrArg some (by kernel_rfl))
  f38:=Tryz.func275.trans (congrArg some (by kernel_rfl))
  f39:=Tryz.func276.trans (congrArg some (by kernel_rfl))
  t0:=Tryz.underlying0
  a0:=Tryz.isAgg0
  z0:=Tryz.sizeOf0
  v0:=Tryz.zeroValue0
  t3:=Tryz.underlying3
  a3:=Tryz.isAgg3
  z3:=Tryz.sizeOf3
  v3:=Tryz.zeroValue3
  t4:=Tryz.underlying4
  a4:=Tryz.isAgg4
  z4:=Tryz.sizeOf4
  v4:=Tryz.zeroValue4
  t5:=Tryz.underlying5
  a5:=Tryz.isAgg5
  z5:=Tryz.sizeOf5
  v5:=Tryz.zeroValue5
  t9:=Tryz.underlying9
  a9:=Tryz.isAgg9
  z9:=Tryz.sizeOf9
  v9:=Tryz.zeroValue9
  t12:=Tryz.underlying12
  a12:=Tryz.isAgg12
  z12:=Tryz.sizeOf12
  v12:=Tryz.zeroValue12
  t17:=Tryz.underlying17
  a17:=Tryz.isAgg17
  z17:=Tryz.sizeOf17
  v17:=Tryz.zeroValue17
  t20:=Tryz.underlying20
  a20:=Tryz.isAgg20
  z20:=Tryz.sizeOf20
  v20:=Tryz.zeroValue20
  t26:=Tryz.underlying250
  a26:=Tryz.isAgg250
  z26:=Tryz.sizeOf250
  v26:=Tryz.zeroValue250
  t32:=Tryz.underlying271
  a32:=Tryz.isAgg271
  z32:=Tryz.sizeOf271
  v32:=Tryz.zeroValue271
  t33:=Tryz.underlying272
  a33:=Tryz.isAgg272
  z33:=Tryz.sizeOf272
  v33:=Tryz.zeroValue272
  t35:=Tryz.underlying274
  a35:=Tryz.isAgg274
  z35:=Tryz.sizeOf274
  v35:=Tryz.zeroValue274
  t37:=Tryz.underlying145
  a37:=Tryz.isAgg145
  z37:=Tryz.sizeOf145
  v37:=Tryz.zeroValue145
  t41:=Tryz.underlying199
  a41:=Tryz.isAgg199
  z41:=Tryz.sizeOf199
  v41:=Tryz.zeroValue199
  t44:=Tryz.underlying280
  a44:=Tryz.isAgg280
  z44:=Tryz.sizeOf280
  v44:=Tryz.zeroValue280
  t49:=Tryz.underlying238
  a49:=Tryz.isAgg238
  z49:=Tryz.sizeOf238
  v49:=Tryz.zeroValue238
  t51:=Tryz.underlying76
  a51:=Tryz.isAgg76
  z51:=Tryz.sizeOf76
  v51:=Tryz.zeroValue76
  t53:=Tryz.underlying291
  a53:=Tryz.isAgg291
  z53:=Tryz.sizeOf291
  v53:=Tryz.zeroValue291
  t54:=Tryz.underlying292
  a54:=Tryz.isAgg292
  z54:=Tryz.sizeOf292
  v54:=Tryz.zeroValue292
  t58:=Tryz.underlying179
  a58:=Tryz.isAgg179
  z58:=Tryz.sizeOf179
  v58:=Tryz.zeroValue179
  t60:=Tryz.underlying301
  a60:=Tryz.isAgg301
  z60:=Tryz.sizeOf301
  v60:=Tryz.zeroValue301
  t64:=Tryz.underlying183
  a64:=Tryz.isAgg183
  z64:=Tryz.sizeOf183
  v64:=Tryz.zeroValue183
  t66:=Tryz.underlying304
  a66:=Tryz.isAgg304
  z66:=Tryz.sizeOf304
  v66:=Tryz.zeroValue304
  t67:=Tryz.underlying79
  a67:=Tryz.isAgg79
  z67:=Tryz.sizeOf79
  v67:=Tryz.zeroValue79
  t75:=Tryz.underlying312
  a75:=Tryz.isAgg312
  z75:=Tryz.sizeOf312
  v75:=Tryz.zeroValue312
  t76:=Tryz.underlying313
  a76:=Tryz.isAgg313
  z76:=Tryz.sizeOf313
  v76:=Tryz.zeroValue313
  t77:=Tryz.underlying314
  a77:=Tryz.isAgg314
  z77:=Tryz.sizeOf314
  v77:=Tryz.zeroValue314
  t78:=Tryz.underlying315
  a78:=Tryz.isAgg315
  z78:=Tryz.sizeOf315
  v78:=Tryz.zeroValue315
  t79:=Tryz.underlying316
  a79:=Tryz.isAgg316
  z79:=Tryz.sizeOf316
  v79:=Tryz.zeroValue316
  t80:=Tryz.underlying317
  a80:=Tryz.isAgg317
  z80:=Tryz.sizeOf317
  v80:=Tryz.zeroValue317
  t82:=Tryz.underlying319
  a82:=Tryz.isAgg319
  z82:=Tryz.sizeOf319
  v82:=Tryz.zeroValue319
  i0:=by kernel_rfl
  i3:=by kernel_rfl
  i4:=by kernel_rfl
  i5:=by kernel_rfl
  i9:=by kernel_rfl
  i12:=by kernel_rfl
  i17:=by kernel_rfl
  i20:=by kernel_rfl
  i26:=by kernel_rfl
  i32:=by kernel_rfl
  i33:=by kernel_rfl
  i35:=by kernel_rfl
  i37:=by kernel_rfl
  i41:=by kernel_rfl
  i44:=by kernel_rfl
  i49:=by kernel_rfl
  i51:=by kernel_rfl
  i53:=by kernel_rfl
  i54:=by kernel_rfl
  i58:=by kernel_rfl
  i60:=by kernel_rfl
  i64:=by kernel_rfl
  i66:=by kernel_rfl
  i67:=by kernel_rfl
  i75:=by kernel_rfl
  i76:=by kernel_rfl
  i77:=by kernel_rfl
  i78:=by kernel_rfl
  i79:=by kernel_rfl
  i80:=by kernel_rfl
  i82:=by kernel_rfl }
end Go.AM
namespace Go.Proofs
open Go Go.Shelf Go.RowKit Go.Lib Go.Sort
noncomputable def Ptn.svT:TypeInfo:=(Tryz.prog.info? 60).get (by kernel_rfl)
noncomputable def Ptn.svE:TypeInfo:=(Tryz.prog.info? 150).get (by kernel_rfl)
theorem Ptn.svK (n:Nat) (h2:2≤n):Lib.swapperK n Ptn.svE 25=9:=by
 have a:Ptn.svE.hasPointers=false:=by kernel_rfl
 have b:Ptn.svE.bytes=72:=by kernel_rfl
 have c:(n == 0)=false:=by simp;omega
 have d:(n == 1)=false:=by simp;omega
 simp [Lib.swapperK,a,b,c,d]
set_option maxRecDepth 100000 in
set_option maxHeartbeats 2000000 in
theorem Ptn.less (blk off c Bs tb size:Nat) (W:World) (G:Nat→Int) (hb:W.cell? ⟨Bs,0,none⟩=some (.pointer (some ⟨tb,0,none⟩))) (hs:W.cell? ⟨tb,1,none⟩=some (.slice (some ⟨blk,off,none⟩) size c))
  (hc:∀ t,t<size→W.cell? ⟨blk,off+t*9,none⟩=some (.int .i64 (G t))) (i j:Nat) (hi:i<size) (hj:j<size) :
  Calls Tryz.prog 215 #[.int .i64 i,.int .i64 j,.pointer (some ⟨Bs,0,none⟩)] W fun e w'=>e=.returned (.bool (decide (G i<G j)))∧∃ q,w'=W.drewN q:=by
 have ci:=hc i hi
 have cj:=hc j hj
 go_enter Tryz.func215,Tryz.ntmps215
 go_wp2
 go_quiet (fail)
 go_wp2
 go_ret
 exact ⟨rfl,nq,rfl⟩
end Go.Proofs
