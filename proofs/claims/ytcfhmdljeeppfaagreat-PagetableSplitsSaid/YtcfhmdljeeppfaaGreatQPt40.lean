/- A part of the proof; no condition. -/
import Derived.Test.YtcfhmdljeeppfaaGreatQPt31
import Derived.Shelf.SlSortFuncK.WholeK
import Derived.Test.YtcfhmdljeeppfaaGreatQAmDs
import Derived.Test.YtcfhmdljeeppfaaGreatQPt6
import Derived.Test.YtcfhmdljeeppfaaGreatQPt14
import Derived.Deep.RegionHeld3
import Derived.LoopN
import Derived.WalkKit
import Derived.Test.YtcfhmdljeeppfaaGreatQAmT
set_option linter.all false
namespace Go.AM
open Go Go.Proofs
theorem prows_append (a b:List Dp):prows a++prows b=prows (a++b):=by simp [prows]
theorem prows_drop (l:List Dp) (n:Nat):(prows l).drop n=prows (l.drop n):=by simp [prows,List.map_drop]
theorem prow_flat {l:List Dp}:(AV.ow 2 (prows l)).flat:=by
 simp only [AV.flat,AV.flatV,AV.flat1]
 intro e he a ha
 obtain ⟨x,_,rfl⟩:=List.mem_map.1 he
 simp at ha
 rcases ha with rfl|rfl<;>trivial
theorem nrow_flat {l:List Nd}:(AV.ow 9 (nrows l)).flat:=by
 simp only [AV.flat,AV.flatV,AV.flat1]
 intro e he a ha
 obtain ⟨x,_,rfl⟩:=List.mem_map.1 he
 rcases List.mem_cons.1 ha with rfl|ha
 ·trivial
 ·obtain ⟨w,_,rfl⟩:=List.mem_map.1 ha
  trivial
theorem xOvl:ExtOK Tryz.prog 218 ovlF :=
 ovl_ok (tR:=4) Tryz.func218 (by kernel_rfl) (by kernel_rfl) (by kernel_rfl) (by kernel_rfl) tyDs rfl tyD
def two2 (_:Nat):Nat:=2
def nine9 (_:Nat):Nat:=9
theorem prows_replicate (n:Nat):List.replicate n [AV.v (.int .i64 0),AV.v (.int .i64 0)]=prows (List.replicate n (0,0)):=by simp [prows,I]
theorem nrows_replicate (n:Nat):List.replicate n [AV.v (.int .i64 0),AV.v (.int .u64 0),AV.v (.int .u64 0),AV.v (.int .u64 0),AV.v (.int .u64 0),AV.v (.int .u64 0),AV.v (.int .u64 0),AV.v (.int .u64 0),AV.v (.int .u64 0)]=nrows (List.replicate n (0,zs8)):=by
 simp only [nrows,List.map_replicate];rfl
theorem nrows_append (a b:List Nd):nrows a++nrows b=nrows (a++b):=by simp [nrows]
theorem nrows_drop (l:List Nd) (n:Nat):(nrows l).drop n=nrows (l.drop n):=by simp [nrows,List.map_drop]
theorem ins_shift {α:Type} {L P S A:List α} {x:α} {i n:Nat} (hL:L=P++S) (hi:P.length=i) (hn:L.length=n) (h1:1≤A.length) (hS:i<n) :
  P++x::S=List.take (n+1) (List.take i (List.take (i+1) (L++A)++(List.take (n - i) (List.take (n+1 - i) (List.drop i (L++A)))++List.drop (i+1+(n - i)) (L++A))) ++
   (List.take 1 [x]++List.drop (i+1) (List.take (i+1) (L++A)++(List.take (n - i) (List.take (n+1 - i) (List.drop i (L++A)))++List.drop (i+1+(n - i)) (L++A))))):=by
 subst hL hi
 obtain ⟨s,S,rfl⟩:∃ s S',S=s::S':=by cases S with|nil=>simp at hn;omega|cons a b=>exact ⟨a,b,rfl⟩
 obtain ⟨a,A,rfl⟩:∃ s S',A=s::S':=by cases A with|nil=>simp at h1|cons a b=>exact ⟨a,b,rfl⟩
 subst hn
 rw [List.length_append]
 have e1:List.take (P.length+1) (P++s::S++a::A)=P++[s]:=by simp [List.take_append,List.take_of_length_le]
 have e2:List.drop P.length (P++s::S++a::A)=s::S++a::A:=by simp
 have e3:P.length+(s::S).length - P.length=(s::S).length:=by omega
 have e4:P.length+(s::S).length+1 - P.length=(s::S).length+1:=by omega
 have e5:List.take (s::S).length (List.take ((s::S).length+1) (s::S++a::A))=s::S:=by rw [List.take_take,Nat.min_eq_left (by omega)];simp
 have e6:List.drop (P.length+1+(s::S).length) (P++s::S++a::A)=A:=by
  rw [show P.length+1+(s::S).length=(P++s::S).length+1 by simp;omega,← List.drop_drop,List.drop_left];simp
 rw [e1,e2,e3,e4,e5,e6]
 have e7:List.take P.length (P++[s]++(s::S++A))=P:=by simp
 have e8:List.drop (P.length+1) (P++[s]++(s::S++A))=s::S++A:=by
  rw [show P.length+1=(P++[s]).length by simp,List.drop_left]
 rw [e7,e8]
 have e9:P++([x].take 1++(s::S++A))=(P++x::s::S)++A:=by simp
 rw [e9,show P.length+(s::S).length+1=(P++x::s::S).length by simp;omega,List.take_left]
theorem ins_grow {α:Type} {L P S Z D:List α} {x:α} {i n:Nat} (hL:L=P++S) (hi:P.length=i) (hn:L.length=n) :
  P++x::S=List.take (n+1) (List.take (i+1) (List.take i (List.take i (L++[])++Z)++(List.take 1 [x]++List.drop (i+1) (List.take i (L++[])++Z)))++(List.take (n - i) (List.take (n - i) (List.drop i (L++[])))++D)):=by
 subst hL hi hn
 rw [List.length_append]
 have e0:List.take P.length (P++S++[])=P:=by simp
 have e1:List.take P.length (P++Z)=P:=by simp
 have e2:List.take (P.length+1) (P++(List.take 1 [x]++List.drop (P.length+1) (P++Z)))=P++[x]:=by simp [List.take_append,List.take_of_length_le]
 have e4:List.take (P.length+S.length - P.length) (List.take (P.length+S.length - P.length) (List.drop P.length (P++S++[])))=S:=by
  rw [show P.length+S.length - P.length=S.length by omega];simp
 rw [e0,e1,e2,e4]
 have e3:P++[x]++(S++D)=(P++x::S)++D:=by simp
 rw [e3,show P.length+S.length+1=(P++x::S).length by simp;omega,List.take_left]
theorem s190 (X:AX) (hX:XOK Tryz.prog X) (h42:X.call 218=ovlF):MSound Tryz.prog 190 (specM (ι:={x:List Dp×Nat×Dp // x.2.1≤x.1.length∧x.1.length≤1000000}) (fun x=>.ow 2 (prows x.1.1)) (fun x=>[I x.1.2.1,.rd 2 (prows [x.1.2.2])]) (fun x=>retOf [.ow 2 (prows (x.1.1.take x.1.2.1++x.1.2.2::x.1.1.drop x.1.2.1))]) fun _=>.any):=by
 refine msound_cap_spec Tryz.func190 rfl X fun ⟨⟨l,i,x⟩,hi,hl⟩ w0 bl E m=>⟨by show 3≤95;decide,rfl,?_⟩
 simp only at hi hl
 show AW ⟨Tryz.prog,X,95,w0,⟨bl,E,1⟩⟩ _ _ _
 have hc:Cx.OK ⟨Tryz.prog,X,95,w0,⟨bl,E,1⟩⟩:=⟨hX,mixed⟩
 have hm:m=0∨1≤m:=by omega
 have hP:prows l=prows (l.take i)++prows (l.drop i):=by rw [prows_append,List.take_append_drop]
 have hR:prows (l.take i++x::l.drop i)=prows (l.take i)++[I x.1,I x.2]::prows (l.drop i):=by simp [prows]
 have hPl:(prows (l.take i)).length=i:=by simp;omega
 rcases hm with rfl|hm
 ·repeat' (first|(apply aw_seq_k;intro K hK)|(refine aw_run hc (by first|exact aw_nod|(intro _;rw [ordB_w hw];kernel_rfl)|(intro _;rw [ordB_w0 hw0];kernel_rfl)|(intro _;kernel_rfl)) ?_;simp (disch:=first|omega|assumption|(simp;done)|fail) [if_pos,if_neg,List.zipIdx,Int.ofNat_inj,h42,ovlF,wrap64];try (repeat' (refine guardQ_split (fun h=>?_) (fun h=>?_)<;>simp at h<;>simp (disch:=first|omega|assumption|(simp;done)|fail) [if_pos,if_neg,List.zipIdx,Int.ofNat_inj,h42,ovlF,wrap64])))|(refine aw_cond (b:=_) (by exact rfl) (fun h=>?_) (fun h=>?_)<;>(try simp at h))|(refine aw_block ?_)|(refine aw_skip ?_;simp only [thenQ,blockQ,if_true])|(refine aw_exit ?_;simp [thenQ,blockQ])|(refine aw_ret ?_;simp only [thenQ,blockQ])|(refine hK _ ?_;clear hK)|(clear hK;refine hK _ ?_;clear hK)|(clear hK;clear hK;refine hK _ ?_;clear hK)|(clear hK;clear hK;clear hK;refine hK _ ?_;clear hK))
  all_goals first|(exfalso;omega)|skip
  all_goals (refine ⟨by simp,leavesM_any ?_⟩;simp (disch:=first|omega|assumption|(simp;done)|fail) [if_pos,if_neg,leaves_iff,Tryz.f190])
  ·subst h
   rw [prows_append]
   simp [List.take_of_length_le]
  ·rw [hR]
   exact ins_grow hP hPl (prows_length l)
 ·repeat' (first|(apply aw_seq_k;intro K hK)|(refine aw_run hc (by first|exact aw_nod|(intro _;rw [ordB_w hw];kernel_rfl)|(intro _;rw [ordB_w0 hw0];kernel_rfl)|(intro _;kernel_rfl)) ?_;simp (disch:=first|omega|assumption|(simp;done)|fail) [if_pos,if_neg,List.zipIdx,Int.ofNat_inj,h42,ovlF,wrap64];try (repeat' (refine guardQ_split (fun h=>?_) (fun h=>?_)<;>simp at h<;>simp (disch:=first|omega|assumption|(simp;done)|fail) [if_pos,if_neg,List.zipIdx,Int.ofNat_inj,h42,ovlF,wrap64])))|(refine aw_cond (b:=_) (by exact rfl) (fun h=>?_) (fun h=>?_)<;>(try simp at h))|(refine aw_block ?_)|(refine aw_skip ?_;simp only [thenQ,blockQ,if_true])|(refine aw_exit ?_;simp [thenQ,blockQ])|(refine aw_ret ?_;simp only [thenQ,blockQ])|(refine hK _ ?_;clear hK)|(clear hK;refine hK _ ?_;clear hK)|(clear hK;clear hK;refine hK _ ?_;clear hK)|(clear hK;clear hK;clear hK;refine hK _ ?_;clear hK))
  all_goals first|(exfalso;omega)|skip
  all_goals (refine ⟨by simp,leavesM_any ?_⟩;simp (disch:=first|omega|assumption|(simp;done)|fail) [if_pos,if_neg,leaves_iff,Tryz.f190])
  ·subst h
   rw [← List.append_assoc,prows_append,List.take_append_of_le_length (by simp),List.take_of_length_le (by simp)]
   simp [List.take_of_length_le]
  ·rw [hR]
   exact ins_shift hP hPl (prows_length l) (by simpa using hm) (by omega)
theorem s192 (X:AX) (hX:XOK Tryz.prog X) (hw:X.W wT):MSound Tryz.prog 192 (specM (ι:={x:List Dp×Nat×Nat // x.2.1≤x.2.2∧x.2.2≤x.1.length∧x.1.length≤1000000}) (fun x=>.ow 2 (prows x.1.1)) (fun x=>[I x.1.2.1,I x.1.2.2]) (fun x=>retOf [.ow 2 (prows (x.1.1.take x.1.2.1++x.1.1.drop x.1.2.2))]) fun _=>.any):=by
 refine msound_spec Tryz.func192 rfl X fun ⟨⟨l,i,j⟩,hij,hj,hl⟩ w0 bl E=>⟨by show 3≤33;decide,rfl,?_⟩
 simp only at hij hj hl
 show AW ⟨Tryz.prog,X,33,w0,⟨bl,E,1⟩⟩ _ _ _
 have hc:Cx.OK ⟨Tryz.prog,X,33,w0,⟨bl,E,1⟩⟩:=⟨hX,mixed⟩
 repeat' (first|(apply aw_seq_k;intro K hK)|(refine aw_run hc (by first|exact aw_nod|(intro _;rw [ordB_w hw];kernel_rfl)|(intro _;rw [ordB_w0 hw0];kernel_rfl)|(intro _;kernel_rfl)) ?_;simp (disch:=first|omega|assumption|(simp;done)|fail) [if_pos,if_neg,List.zipIdx,Int.ofNat_inj];try (repeat' (refine guardQ_split (fun h=>?_) (fun h=>?_)<;>simp at h<;>simp (disch:=first|omega|assumption|(simp;done)|fail) [if_pos,if_neg,List.zipIdx,Int.ofNat_inj])))|(refine aw_cond (b:=_) (by exact rfl) (fun h=>?_) (fun h=>?_)<;>(try simp at h))|(refine aw_block ?_)|(refine aw_skip ?_;simp only [thenQ,blockQ,if_true])|(refine aw_exit ?_;simp [thenQ,blockQ])|(refine aw_ret ?_;simp only [thenQ,blockQ])|(refine hK _ ?_;clear hK)|(clear hK;refine hK _ ?_;clear hK)|(clear hK;clear hK;refine hK _ ?_;clear hK)|(clear hK;clear hK;clear hK;refine hK _ ?_;clear hK))
 ·refine ⟨by simp,leavesM_any ?_⟩
  simp (disch:=first|omega|assumption|(simp;done)|fail) [if_pos,if_neg,leaves_iff,Tryz.f192]
  subst h
  simp [List.take_of_length_le]
 ·refine ⟨by simp,leavesM_any ?_⟩
  simp (disch:=first|omega|assumption|(simp;done)|fail) [if_pos,if_neg,leaves_iff,Tryz.f192,prows_take,prows_drop,prows_append,prows_replicate]
  have e1:l.take i++((l.drop j).take (l.length - j)++l.drop (i+(l.length - j)))=(l.take i++l.drop j)++l.drop (i+(l.length - j)):=by
   rw [List.take_of_length_le (l:=l.drop j) (by simp),List.append_assoc]
  have e2:(l.take i++l.drop j).length=i+(l.length - j):=by simp;omega
  have key:∀ (A B C:List Dp) n,A.length=n→A=((A++B).take n++C).take n:=by
   intro A B C n h
   subst h
   simp
  rw [e1]
  exact congrArg prows (key _ _ _ _ e2)
theorem s153 (X:AX) (hX:XOK Tryz.prog X) (hw:X.W wT):MSound Tryz.prog 153 (specM (ι:={x:List Nd×Nat×Nat // x.2.1≤x.2.2∧x.2.2≤x.1.length∧x.1.length≤1000000}) (fun x=>.ow 9 (nrows x.1.1)) (fun x=>[I x.1.2.1,I x.1.2.2]) (fun x=>retOf [.ow 9 (nrows (x.1.1.take x.1.2.1++x.1.1.drop x.1.2.2))]) fun _=>.any):=by
 refine msound_spec Tryz.func153 rfl X fun ⟨⟨l,i,j⟩,hij,hj,hl⟩ w0 bl E=>⟨by show 3≤33;decide,rfl,?_⟩
 simp only at hij hj hl
 show AW ⟨Tryz.prog,X,33,w0,⟨bl,E,1⟩⟩ _ _ _
 have hc:Cx.OK ⟨Tryz.prog,X,33,w0,⟨bl,E,1⟩⟩:=⟨hX,mixed⟩
 repeat' (first|(apply aw_seq_k;intro K hK)|(refine aw_run hc (by first|exact aw_nod|(intro _;rw [ordB_w hw];kernel_rfl)|(intro _;rw [ordB_w0 hw0];kernel_rfl)|(intro _;kernel_rfl)) ?_;simp (disch:=first|omega|assumption|(simp;done)|fail) [if_pos,if_neg,List.zipIdx,Int.ofNat_inj];try (repeat' (refine guardQ_split (fun h=>?_) (fun h=>?_)<;>simp at h<;>simp (disch:=first|omega|assumption|(simp;done)|fail) [if_pos,if_neg,List.zipIdx,Int.ofNat_inj])))|(refine aw_cond (b:=_) (by exact rfl) (fun h=>?_) (fun h=>?_)<;>(try simp at h))|(refine aw_block ?_)|(refine aw_skip ?_;simp only [thenQ,blockQ,if_true])|(refine aw_exit ?_;simp [thenQ,blockQ])|(refine aw_ret ?_;simp only [thenQ,blockQ])|(refine hK _ ?_;clear hK)|(clear hK;refine hK _ ?_;clear hK)|(clear hK;clear hK;refine hK _ ?_;clear hK)|(clear hK;clear hK;clear hK;refine hK _ ?_;clear hK))
 ·refine ⟨by simp,leavesM_any ?_⟩
  simp (disch:=first|omega|assumption|(simp;done)|fail) [if_pos,if_neg,leaves_iff,Tryz.f153]
  subst h
  simp [List.take_of_length_le]
 ·refine ⟨by simp,leavesM_any ?_⟩
  simp (disch:=first|omega|assumption|(simp;done)|fail) [if_pos,if_neg,leaves_iff,Tryz.f153,nrows_take,nrows_drop,nrows_append,nrows_replicate]
  have e1:l.take i++((l.drop j).take (l.length - j)++l.drop (i+(l.length - j)))=(l.take i++l.drop j)++l.drop (i+(l.length - j)):=by
   rw [List.take_of_length_le (l:=l.drop j) (by simp),List.append_assoc]
  have e2:(l.take i++l.drop j).length=i+(l.length - j):=by simp;omega
  have key:∀ (A B C:List Nd) n,A.length=n→A=((A++B).take n++C).take n:=by
   intro A B C n h
   subst h
   simp
  rw [e1]
  exact congrArg nrows (key _ _ _ _ e2)
noncomputable def FInsD:AV→List AV→Option (AV×AV):=specM (ι:={x:List Dp×Nat×Dp // x.2.1≤x.1.length∧x.1.length≤1000000}) (fun x=>.ow 2 (prows x.1.1)) (fun x=>[I x.1.2.1,.rd 2 (prows [x.1.2.2])]) (fun x=>retOf [.ow 2 (prows (x.1.1.take x.1.2.1++x.1.2.2::x.1.1.drop x.1.2.1))]) fun _=>.any
theorem FInsD_at (l:List Dp) (i:Nat) (a b:Int) (h:i≤l.length∧l.length≤1000000):FInsD (.ow 2 (prows l)) [I i,.rd 2 [[I a,I b]]]=some (.ow 2 (prows (l.take i++(a,b)::l.drop i)),.any) :=
 specM_eq (A0:=fun x:{x:List Dp×Nat×Dp // x.2.1≤x.1.length∧x.1.length≤1000000}=>AV.ow 2 (prows x.1.1)) (A:=fun x=>[I x.1.2.1,.rd 2 (prows [x.1.2.2])]) (R:=fun x=>retOf [.ow 2 (prows (x.1.1.take x.1.2.1++x.1.2.2::x.1.1.drop x.1.2.1))]) (O:=fun _=>.any) ⟨(l,i,(a,b)),h⟩ (by
  rintro ⟨⟨l',i',x'⟩,h1,h2⟩ e1 e2
  simp only [AV.ow.injEq,prows_inj,true_and] at e1
  simp only [List.cons.injEq,AV.v.injEq,Value.int.injEq,true_and,AV.rd.injEq,prows_inj,and_true,Int.ofNat_inj] at e2
  obtain ⟨rfl,rfl⟩:=e2
  subst e1
  exact ⟨rfl,rfl⟩)
noncomputable def FDelD:AV→List AV→Option (AV×AV):=specM (ι:={x:List Dp×Nat×Nat // x.2.1≤x.2.2∧x.2.2≤x.1.length∧x.1.length≤1000000}) (fun x=>.ow 2 (prows x.1.1)) (fun x=>[I x.1.2.1,I x.1.2.2]) (fun x=>retOf [.ow 2 (prows (x.1.1.take x.1.2.1++x.1.1.drop x.1.2.2))]) fun _=>.any
theorem FDelD_at (l:List Dp) (i j:Nat) (h:i≤j∧j≤l.length∧l.length≤1000000):FDelD (.ow 2 (prows l)) [I i,I j]=some (.ow 2 (prows (l.take i++l.drop j)),.any) :=
 specM_eq (A0:=fun x:{x:List Dp×Nat×Nat // x.2.1≤x.2.2∧x.2.2≤x.1.length∧x.1.length≤1000000}=>AV.ow 2 (prows x.1.1)) (A:=fun x=>[I x.1.2.1,I x.1.2.2]) (R:=fun x=>retOf [.ow 2 (prows (x.1.1.take x.1.2.1++x.1.1.drop x.1.2.2))]) (O:=fun _=>.any) ⟨(l,i,j),h⟩ (by
  rintro ⟨⟨l',i',j'⟩,h1,h2⟩ e1 e2
  simp only [AV.ow.injEq,prows_inj,true_and] at e1
  simp only [List.cons.injEq,AV.v.injEq,Value.int.injEq,true_and,and_true,Int.ofNat_inj] at e2
  obtain ⟨rfl,rfl⟩:=e2
  subst e1
  exact ⟨rfl,rfl⟩)
noncomputable def FDelN:AV→List AV→Option (AV×AV):=specM (ι:={x:List Nd×Nat×Nat // x.2.1≤x.2.2∧x.2.2≤x.1.length∧x.1.length≤1000000}) (fun x=>.ow 9 (nrows x.1.1)) (fun x=>[I x.1.2.1,I x.1.2.2]) (fun x=>retOf [.ow 9 (nrows (x.1.1.take x.1.2.1++x.1.1.drop x.1.2.2))]) fun _=>.any
theorem FDelN_at (l:List Nd) (i j:Nat) (h:i≤j∧j≤l.length∧l.length≤1000000):FDelN (.ow 9 (nrows l)) [I i,I j]=some (.ow 9 (nrows (l.take i++l.drop j)),.any) :=
 specM_eq (A0:=fun x:{x:List Nd×Nat×Nat // x.2.1≤x.2.2∧x.2.2≤x.1.length∧x.1.length≤1000000}=>AV.ow 9 (nrows x.1.1)) (A:=fun x=>[I x.1.2.1,I x.1.2.2]) (R:=fun x=>retOf [.ow 9 (nrows (x.1.1.take x.1.2.1++x.1.1.drop x.1.2.2))]) (O:=fun _=>.any) ⟨(l,i,j),h⟩ (by
  rintro ⟨⟨l',i',j'⟩,h1,h2⟩ e1 e2
  simp only [AV.ow.injEq,nrows_inj,true_and] at e1
  simp only [List.cons.injEq,AV.v.injEq,Value.int.injEq,true_and,and_true,Int.ofNat_inj] at e2
  obtain ⟨rfl,rfl⟩:=e2
  subst e1
  exact ⟨rfl,rfl⟩)
theorem FInsD_flat {a0:AV} {avs:List AV} {r o:AV} (h:FInsD a0 avs=some (r,o)):r.flat∧o.flatO:=by
 obtain ⟨i,_,_,h3,h4⟩:=specM_some h
 subst h3 h4
 exact ⟨prow_flat,trivial⟩
theorem FDelD_flat {a0:AV} {avs:List AV} {r o:AV} (h:FDelD a0 avs=some (r,o)):r.flat∧o.flatO:=by
 obtain ⟨i,_,_,h3,h4⟩:=specM_some h
 subst h3 h4
 exact ⟨prow_flat,trivial⟩
theorem FDelN_flat {a0:AV} {avs:List AV} {r o:AV} (h:FDelN a0 avs=some (r,o)):r.flat∧o.flatO:=by
 obtain ⟨i,_,_,h3,h4⟩:=specM_some h
 subst h3 h4
 exact ⟨nrow_flat,trivial⟩
end Go.AM
set_option maxHeartbeats 4000000
namespace Go.AM
open Go Go.Proofs
@[simp] theorem tyPtab:Types Tryz.prog 186=some ⟨.pointer 63,1,8,[.pointer none]⟩:=by kernel_rfl
def scM (t:Tb) (g:Int):List AO:=[.box [.bp 1 0],.box [I t.1,.sl 2 1 9 0 t.2.1.length,.sl 3 1 2 0 t.2.2.length],.vec 1 9 false (nrows t.2.1),.vec 1 2 false (prows t.2.2),.box [I g]]
theorem scM_inj {t t':Tb} {g g':Int} (h:scM t g=scM t' g'):t=t'∧g=g':=by
 obtain ⟨r,ns,ds⟩:=t
 obtain ⟨r',ns',ds'⟩:=t'
 simp only [scM,List.cons.injEq,AO.box.injEq,I,AV.v.injEq,Value.int.injEq,true_and,AO.vec.injEq,nrows_inj,prows_inj,and_true] at h
 obtain ⟨⟨h1,_⟩,h2,h3,h4⟩:=h
 exact ⟨by rw [h1,h2,h3],h4⟩
abbrev ScD:=Tb×Int×Nat
noncomputable def clS:List AV→List AO→Option (AV×List AO):=specG (ι:={x:ScD // tbOK x.1∧x.2.2<x.1.2.2.length}) (fun x=>[I x.1.2.2,.bp 0 0,.bp 4 0]) (fun x=>scM x.1.1 x.1.2.1) (fun x=>retOf [B (decide (x.1.2.1≤(gp x.1.1.2.2 x.1.2.2).1))]) fun x=>scM x.1.1 x.1.2.1
theorem clS_at {t:Tb} {g:Int} {i:Nat} (ht:tbOK t) (hi:i<t.2.2.length):clS [I i,.bp 0 0,.bp 4 0] (scM t g)=some (B (decide (g≤(gp t.2.2 i).1)),scM t g):=by
 refine specG_eq (ι:={x:ScD // tbOK x.1∧x.2.2<x.1.2.2.length}) (A:=fun x=>[I x.1.2.2,.bp 0 0,.bp 4 0]) (M:=fun x=>scM x.1.1 x.1.2.1) (R:=fun x=>retOf [B (decide (x.1.2.1≤(gp x.1.1.2.2 x.1.2.2).1))]) (O:=fun x=>scM x.1.1 x.1.2.1) ⟨(t,g,i),ht,hi⟩ fun j hA hM=>?_
 obtain ⟨⟨t',g',i'⟩,h'⟩:=j
 obtain ⟨rfl,rfl⟩:=scM_inj hM
 simp only [List.cons.injEq,I,AV.v.injEq,Value.int.injEq,true_and,and_true] at hA
 have:i'=i:=by omega
 subst this
 exact ⟨rfl,rfl⟩
theorem s189 (X:AX) (hX:XOK Tryz.prog X) (hw:X.W wT):GSound Tryz.prog 189 clS:=by
 unfold clS
 refine gsound_spec Tryz.func189 rfl X fun ⟨⟨⟨r,ns,ds⟩,g,i⟩,ht,hi⟩ w0 L E=>⟨by show 3≤15;decide,?_⟩
 have hi:i<ds.length:=hi
 have hl2:ds.length≤1000000:=ht.2.2
 simp only [scM]
 show AW ⟨Tryz.prog,X,15,w0,⟨L,E,5⟩⟩ _ _ _
 have hc:Cx.OK ⟨Tryz.prog,X,15,w0,⟨L,E,5⟩⟩:=⟨hX,mixed⟩
 have hiI:(i:Int)<(ds.length:Int):=by omega
 have hg:=prows_gi hi
 have hgE:=prows_gE hi
 obtain ⟨⟨a,b⟩,hm⟩:∃ m,m=gp ds i:=⟨_,rfl⟩
 rw [← hm] at hg hgE
 try simp only at hg hgE
 have hm1:(gp ds i).1=a:=by rw [← hm]
 have zS:=jj hi<|jj hiI<|jj hg<|hgE
 refine dM64 ?_
 repeat (intro K hK)
 clear zS
 refine ⟨by simp,_,by simp [aResults,aResult,Tryz.f189];rfl,?_⟩
 simp only [idx,hm1]
 exact dle
theorem s191 (X:AX) (hX:XOK Tryz.prog X) (hw:X.W wT):GSound Tryz.prog 191 clS:=by
 unfold clS
 refine gsound_spec Tryz.func191 rfl X fun ⟨⟨⟨r,ns,ds⟩,g,i⟩,ht,hi⟩ w0 L E=>⟨by show 3≤15;decide,?_⟩
 have hi:i<ds.length:=hi
 have hl2:ds.length≤1000000:=ht.2.2
 simp only [scM]
 show AW ⟨Tryz.prog,X,15,w0,⟨L,E,5⟩⟩ _ _ _
 have hc:Cx.OK ⟨Tryz.prog,X,15,w0,⟨L,E,5⟩⟩:=⟨hX,mixed⟩
 have hiI:(i:Int)<(ds.length:Int):=by omega
 have hg:=prows_gi hi
 have hgE:=prows_gE hi
 obtain ⟨⟨a,b⟩,hm⟩:∃ m,m=gp ds i:=⟨_,rfl⟩
 rw [← hm] at hg hgE
 try simp only at hg hgE
 have hm1:(gp ds i).1=a:=by rw [← hm]
 have zS:=jj hi<|jj hiI<|jj hg<|hgE
 refine dM64 ?_
 repeat (intro K hK)
 clear zS
 refine ⟨by simp,_,by simp [aResults,aResult,Tryz.f191];rfl,?_⟩
 simp only [idx,hm1]
 exact dle
set_option maxRecDepth 4000 in
theorem callCl {t:Tb} {g:Int} {i:Nat} (ht:tbOK t) (hi:i<t.2.2.length) (M:Nat→AO) (nid:Nat)
  (h0:M 0=.box [.bp 1 0]) (h1:M 1=.box [I t.1,.sl 2 1 9 0 t.2.1.length,.sl 3 1 2 0 t.2.2.length]) (h2:M 2=.vec 1 9 false (nrows t.2.1)) (h3:M 3=.vec 1 2 false (prows t.2.2)) (h4:M 4=.box [I g]) :
  callG clS [I i,.bp 0 0,.bp 4 0] M nid=some (B (decide (g≤(gp t.2.2 i).1)),[(0,.box [.bp 1 0]),(1,.box [I t.1,.sl 2 1 9 0 t.2.1.length,.sl 3 1 2 0 t.2.2.length]),(2,.vec 1 9 false (nrows t.2.1)),(3,.vec 1 2 false (prows t.2.2)),(4,.box [I g])]):=by
 have hF:=clS_at (g:=g) ht hi
 simp only [scM] at hF
 unfold callG
 have hg:gat M 64 (nmsL [I i,.bp 0 0,.bp 4 0]) []=[0,1,2,3,4]:=by
  simp [gat,nmsL,AV.nms,AO.nms,h0,h1,h2,h3,h4]
 simp only [hg]
 rw [if_pos ?cg]
 case cg=>simp [CallG,nmsL,AV.nms,AO.nms,Led,curBL,AV.curB,AO.curB,verOf,notDead,h0,h1,h2,h3,h4]
 simp [renL,AV.ren,AO.ren,posN,canO,nmsL,h0,h1,h2,h3,h4,hF,RetG,getL,AV.nms,AO.nms,updN,nmN,shN,verOf,rng,Led]
@[simp] theorem tyUint:Types Tryz.prog 199=some ⟨.int .u64,1,8,[.int .u64 0]⟩:=by kernel_rfl
def lowD (ds:List Dp) (g:Int):Nat:=ds.findIdx fun d=>decide (g≤d.1)
theorem lowD_le {ds:List Dp} {g:Int}:lowD ds g≤ds.length:=List.findIdx_le_length
noncomputable def seS (c:FuncId):List AV→List AO→Option (AV×List AO):=specG (ι:={x:Tb×Int // tbOK x.1∧ascK x.1.2.2}) (fun x=>[I x.1.1.2.2.length,.fn c [.bp 0 0,.bp 4 0]]) (fun x=>scM x.1.1 x.1.2) (fun x=>retOf [I (lowD x.1.1.2.2 x.1.2)]) fun x=>scM x.1.1 x.1.2
theorem seS_at {c:FuncId} {t:Tb} {g:Int} (ht:tbOK t) (ha:ascK t.2.2):seS c [I t.2.2.length,.fn c [.bp 0 0,.bp 4 0]] (scM t g)=some (I (lowD t.2.2 g),scM t g):=by
 refine specG_eq (ι:={x:Tb×Int // tbOK x.1∧ascK x.1.2.2}) (A:=fun x=>[I x.1.1.2.2.length,.fn c [.bp 0 0,.bp 4 0]]) (M:=fun x=>scM x.1.1 x.1.2) (R:=fun x=>retOf [I (lowD x.1.1.2.2 x.1.2)]) (O:=fun x=>scM x.1.1 x.1.2) ⟨(t,g),ht,ha⟩ fun j hA hM=>?_
 obtain ⟨⟨t',g'⟩,h'⟩:=j
 obtain ⟨rfl,rfl⟩:=scM_inj hM
 exact ⟨rfl,rfl⟩
theorem gp_asc {ds:List Dp} (h:ascK ds) {i j:Nat} (hij:i<j) (hj:j<ds.length):(gp ds i).1<(gp ds j).1:=by
 have:=List.pairwise_iff_getElem.1 h i j (by omega) hj hij
 rw [gp_eq (by omega),gp_eq hj];exact this
theorem lowD_at {ds:List Dp} {g:Int} {i:Nat} (hi:i≤ds.length) (h1:∀ k,k<i→¬ g≤(gp ds k).1) (h2:i<ds.length→g≤(gp ds i).1):lowD ds g=i:=by
 unfold lowD
 rcases Nat.lt_or_ge i ds.length with h|h
 ·rw [List.findIdx_eq h]
  refine ⟨by have:=h2 h;rw [gp_eq h] at this;simpa using this,fun j hj=>?_⟩
  have:=h1 j hj
  rw [gp_eq (by omega)] at this
  simpa using this
 ·have:i=ds.length:=by omega
  subst this
  rw [List.findIdx_eq_length]
  intro x hx
  obtain ⟨j,hj,rfl⟩:=List.getElem_of_mem hx
  have:=h1 j hj
  rw [gp_eq hj] at this
  simpa using this
theorem s188 (X:AX) (hX:XOK Tryz.prog X) (hw:X.W wT) (c:FuncId) (hcl:X.call c=callG clS):GSound Tryz.prog 188 (seS c):=by
 unfold seS
 refine gsound_spec Tryz.func188 rfl X fun ⟨⟨⟨r,ns,ds⟩,g⟩,ht,ha⟩ w0 L E=>⟨by show 2≤26;decide,?_⟩
 simp only at ha
 have hl1:ns.length≤1000000:=ht.2.1
 have hl2:ds.length≤1000000:=ht.2.2
 simp only [scM]
 show AW ⟨Tryz.prog,X,26,w0,⟨L,E,5⟩⟩ _ _ _
 have hc:Cx.OK ⟨Tryz.prog,X,26,w0,⟨L,E,5⟩⟩:=⟨hX,mixed⟩
 repeat' (first|(apply aw_seq_k;intro K hK)|(refine eM64o ?_)|(refine aw_cond (b:=_) (by exact rfl) (fun h=>?_) (fun h=>?_)<;>(try simp at h))|(refine eB ?_)|(refine hK _ ?_;clear hK)|(clear hK;refine hK _ ?_;clear hK)|(clear hK;clear hK;refine hK _ ?_;clear hK)|(clear hK;clear hK;clear hK;refine hK _ ?_;clear hK))
 refine aw_loopK (s0:=?lps1) (m0:=?lpm1) (ι:={s:Nat×Nat // s.1≤s.2∧s.2≤ds.length∧(∀ k,k<s.1→¬ g≤(gp ds k).1)∧∀ k,s.2≤k→k<ds.length→g≤(gp ds k).1}) [1] (fun s=>[(5,I s.1.1),(6,I s.1.2)]) (fun _=>[]) (fun s=>s.1.2 - s.1.1) ⟨(0,ds.length),by simp,by simp,by simp,by simp only;omega⟩ ?lhs1 ?lhm1 ?_ ?_
 case lhs1=>first|(simp [keepS];done)|(simp [keepS];rfl)
 case lhm1=>first|rfl|(simp;done)|(simp;rfl)
 ·exact dle
 ·rintro ⟨⟨i,j⟩,hij,hj,h1,h2⟩
  simp only at hij hj h1 h2 ⊢
  rcases Decidable.em (i<j) with hl|hl
  ·have hlI:(i:Int)<(j:Int):=by omega
   obtain ⟨md,hh⟩:∃ md,md=(i+j)/2:=⟨_,rfl⟩
   have hhl:md<ds.length:=by omega
   have hcall:=@callCl (r,ns,ds) g md ht hhl
   simp only at hcall
   rw [← hcl] at hcall
   have hhI:((i:Int)+(j:Int))/2=(md:Int):=by rw [hh];omega
   have hs1:IntKind.u64.wrap ((i:Int)+(j:Int))=(i:Int)+j:=wrapU64 ⟨by omega,by omega⟩
   have hs2:((i:Int)+(j:Int))/2^min 1 IntKind.u64.bits=(md:Int):=by
    rw [show (2:Int)^min 1 IntKind.u64.bits=2 by simp [IntKind.bits]];exact hhI
   rcases Decidable.em (g≤(gp ds md).1) with hq|hq
   ·rw [decide_eq_true hq] at hcall
    have zS:=jj hlI<|jj hcall<|jj hhI<|jj hs1<|hs2
    repeat' (first|(apply aw_seq_k;intro K hK)|(refine eM64 ?_)|(refine aw_cond (b:=_) (by exact rfl) (fun h=>?_) (fun h=>?_)<;>(try simp at h))|(refine eB ?_)|(refine hK _ ?_;clear hK)|(clear hK;refine hK _ ?_;clear hK)|(clear hK;clear hK;refine hK _ ?_;clear hK)|(clear hK;clear hK;clear hK;refine hK _ ?_;clear hK))
    all_goals clear zS
    refine ⟨i,md,?_,⟨by omega,by omega,fun k hk=>by have:=h1 k hk;omega,fun k hk hk2=>?_⟩,by omega⟩
    ·exact dle
    ·rcases Nat.lt_or_ge md k with h3|h3
     ·have:=gp_asc ha h3 hk2;omega
     ·obtain rfl:k=md:=by omega
      exact hq
   ·rw [decide_eq_false hq] at hcall
    have zS:=jj hlI<|jj hcall<|jj hhI<|jj hs1<|hs2
    repeat' (first|(apply aw_seq_k;intro K hK)|(refine eM64 ?_)|(refine aw_cond (b:=_) (by exact rfl) (fun h=>?_) (fun h=>?_)<;>(try simp at h))|(refine eB ?_)|(refine hK _ ?_;clear hK)|(clear hK;refine hK _ ?_;clear hK)|(clear hK;clear hK;refine hK _ ?_;clear hK)|(clear hK;clear hK;clear hK;refine hK _ ?_;clear hK))
    all_goals clear zS
    refine ⟨md+1,j,?_,⟨by omega,by omega,fun k hk=>?_,h2⟩,by omega⟩
    ·exact dle
    ·rcases Nat.lt_or_ge k md with h3|h3
     ·have:=gp_asc ha h3 hhl;omega
     ·obtain rfl:k=md:=by omega
      omega
  ·obtain rfl:i=j:=by omega
   have e:lowD ds g=i:=lowD_at (by omega) h1 fun h=>h2 i (Nat.le_refl _) h
   repeat' (first|(apply aw_seq_k;intro K hK)|(refine eM64o ?_)|(refine aw_cond (b:=_) (by exact rfl) (fun h=>?_) (fun h=>?_)<;>(try simp at h))|(refine eB ?_)|(refine hK _ ?_;clear hK)|(clear hK;refine hK _ ?_;clear hK)|(clear hK;clear hK;refine hK _ ?_;clear hK)|(clear hK;clear hK;clear hK;refine hK _ ?_;clear hK))
   refine ⟨by simp,_,by simp [aResults,aResult,Tryz.f188];rfl,?_⟩
   simp only [idx,e]
   exact dle
end Go.AM
namespace Go.AM
open Go Go.Proofs
def sortRen:Go.Shelf.Ren :=
 {f:=fun x=>match x with
   | 6=>214
   | 10=>238
   | 11=>239
   | 12=>240
   | 13=>213
   | 14=>241
   | 24=>236
   | 25=>237
   | 26=>260
   | 27=>261
   | 28=>262
   | 29=>263
   | 30=>264
   | 31=>265
   | 32=>266
   | 33=>267
   | 34=>271
   | 35=>272
   | 36=>273
   | 37=>274
   | 38=>275
   | 39=>276
   | n=>n
  t:=fun x=>match x with
   | 20=>20
   | 26=>250
   | 35=>274
   | 0=>0
   | 37=>145
   | 3=>3
   | 41=>199
   | 44=>280
   | 49=>238
   | 51=>76
   | 4=>4
   | 54=>292
   | 53=>291
   | 58=>179
   | 5=>5
   | 9=>9
   | 60=>301
   | 64=>183
   | 66=>304
   | 67=>79
   | 17=>17
   | 32=>271
   | 33=>272
   | 82=>319
   | 12=>12
   | 75=>312
   | 76=>313
   | 77=>314
   | 78=>315
   | 79=>316
   | 80=>317
   | n=>n
  g:=fun n=>n }
theorem laySort:Go.Proofs.LaysGg.n6 Tryz.prog sortRen :=
 {mixed:=mixed
  f6:=Tryz.func214.trans (congrArg some (by kernel_rfl))
  f10:=Tryz.func238.trans (congrArg some (by kernel_rfl))
  f11:=Tryz.func239.trans (congrArg some (by kernel_rfl))
  f12:=Tryz.func240.trans (congrArg some (by kernel_rfl))
  f13:=Tryz.func213.trans (congrArg some (by kernel_rfl))
  f14:=Tryz.func241.trans (congrArg some (by kernel_rfl))
  f24:=Tryz.func236.trans (congrArg some (by kernel_rfl))
  f25:=Tryz.func237.trans (congrArg some (by kernel_rfl))
  f26:=Tryz.func260.trans (congrArg some (by kernel_rfl))
  f27:=Tryz.func261.trans (congrArg some (by kernel_rfl))
  f28:=Tryz.func262.trans (congrArg some (by kernel_rfl))
  f29:=Tryz.func263.trans (congrArg some (by kernel_rfl))
  f30:=Tryz.func264.trans (congrArg some (by kernel_rfl))
  f31:=Tryz.func265.trans (congrArg some (by kernel_rfl))
  f32:=Tryz.func266.trans (congrArg some (by kernel_rfl))
  f33:=Tryz.func267.trans (congrArg some (by kernel_rfl))
  f34:=Tryz.func271.trans (congrArg some (by kernel_rfl))
  f35:=Tryz.func272.trans (congrArg some (by kernel_rfl))
  f36:=Tryz.func273.trans (congrArg some (by kernel_rfl))
  f37:=Tryz.func274.trans (congrArg some (by kernel_rfl))
  f38:=Tryz.func275.trans (congrArg some (by kernel_rfl))
  f39:=Tryz.func276.trans (congrArg some (by kernel_rfl))
  t0:=Tryz.underlying0
  a0:=Tryz.isAgg0
  z0:=Tryz.sizeOf0
  v0:=Tryz.zeroValue0
  t3:=Tryz.underlying3
  a3:=Tryz.isAgg3
  z3:=Tryz.sizeOf3
  v3:=Tryz.zeroValue3
  t4:=Tryz.underlying4
  a4:=Tryz.isAgg4
  z4:=Tryz.sizeOf4
  v4:=Tryz.zeroValue4
  t5:=Tryz.underlying5
  a5:=Tryz.isAgg5
  z5:=Tryz.sizeOf5
  v5:=Tryz.zeroValue5
  t9:=Tryz.underlying9
  a9:=Tryz.isAgg9
  z9:=Tryz.sizeOf9
  v9:=Tryz.zeroValue9
  t12:=Tryz.underlying12
  a12:=Tryz.isAgg12
  z12:=Tryz.sizeOf12
  v12:=Tryz.zeroValue12
  t17:=Tryz.underlying17
  a17:=Tryz.isAgg17
  z17:=Tryz.sizeOf17
  v17:=Tryz.zeroValue17
  t20:=Tryz.underlying20
  a20:=Tryz.isAgg20
  z20:=Tryz.sizeOf20
  v20:=Tryz.zeroValue20
  t26:=Tryz.underlying250
  a26:=Tryz.isAgg250
  z26:=Tryz.sizeOf250
  v26:=Tryz.zeroValue250
  t32:=Tryz.underlying271
  a32:=Tryz.isAgg271
  z32:=Tryz.sizeOf271
  v32:=Tryz.zeroValue271
  t33:=Tryz.underlying272
  a33:=Tryz.isAgg272
  z33:=Tryz.sizeOf272
  v33:=Tryz.zeroValue272
  t35:=Tryz.underlying274
  a35:=Tryz.isAgg274
  z35:=Tryz.sizeOf274
  v35:=Tryz.zeroValue274
  t37:=Tryz.underlying145
  a37:=Tryz.isAgg145
  z37:=Tryz.sizeOf145
  v37:=Tryz.zeroValue145
  t41:=Tryz.underlying199
  a41:=Tryz.isAgg199
  z41:=Tryz.sizeOf199
  v41:=Tryz.zeroValue199
  t44:=Tryz.underlying280
  a44:=Tryz.isAgg280
  z44:=Tryz.sizeOf280
  v44:=Tryz.zeroValue280
  t49:=Tryz.underlying238
  a49:=Tryz.isAgg238
  z49:=Tryz.sizeOf238
  v49:=Tryz.zeroValue238
  t51:=Tryz.underlying76
  a51:=Tryz.isAgg76
  z51:=Tryz.sizeOf76
  v51:=Tryz.zeroValue76
  t53:=Tryz.underlying291
  a53:=Tryz.isAgg291
  z53:=Tryz.sizeOf291
  v53:=Tryz.zeroValue291
  t54:=Tryz.underlying292
  a54:=Tryz.isAgg292
  z54:=Tryz.sizeOf292
  v54:=Tryz.zeroValue292
  t58:=Tryz.underlying179
  a58:=Tryz.isAgg179
  z58:=Tryz.sizeOf179
  v58:=Tryz.zeroValue179
  t60:=Tryz.underlying301
  a60:=Tryz.isAgg301
  z60:=Tryz.sizeOf301
  v60:=Tryz.zeroValue301
  t64:=Tryz.underlying183
  a64:=Tryz.isAgg183
  z64:=Tryz.sizeOf183
  v64:=Tryz.zeroValue183
  t66:=Tryz.underlying304
  a66:=Tryz.isAgg304
  z66:=Tryz.sizeOf304
  v66:=Tryz.zeroValue304
  t67:=Tryz.underlying79
  a67:=Tryz.isAgg79
  z67:=Tryz.sizeOf79
  v67:=Tryz.zeroValue79
  t75:=Tryz.underlying312
  a75:=Tryz.isAgg312
  z75:=Tryz.sizeOf312
  v75:=Tryz.zeroValue312
  t76:=Tryz.underlying313
  a76:=Tryz.isAgg313
  z76:=Tryz.sizeOf313
  v76:=Tryz.zeroValue313
  t77:=Tryz.underlying314
  a77:=Tryz.isAgg314
  z77:=Tryz.sizeOf314
  v77:=Tryz.zeroValue314
  t78:=Tryz.underlying315
  a78:=Tryz.isAgg315
  z78:=Tryz.sizeOf315
  v78:=Tryz.zeroValue315
  t79:=Tryz.underlying316
  a79:=Tryz.isAgg316
  z79:=Tryz.sizeOf316
  v79:=Tryz.zeroValue316
  t80:=Tryz.underlying317
  a80:=Tryz.isAgg317
  z80:=Tryz.sizeOf317
  v80:=Tryz.zeroValue317
  t82:=Tryz.underlying319
  a82:=Tryz.isAgg319
  z82:=Tryz.sizeOf319
  v82:=Tryz.zeroValue319
  i0:=by kernel_rfl
  i3:=by kernel_rfl
  i4:=by kernel_rfl
  i5:=by kernel_rfl
  i9:=by kernel_rfl
  i12:=by kernel_rfl
  i17:=by kernel_rfl
  i20:=by kernel_rfl
  i26:=by kernel_rfl
  i32:=by kernel_rfl
  i33:=by kernel_rfl
  i35:=by kernel_rfl
  i37:=by kernel_rfl
  i41:=by kernel_rfl
  i44:=by kernel_rfl
  i49:=by kernel_rfl
  i51:=by kernel_rfl
  i53:=by kernel_rfl
  i54:=by kernel_rfl
  i58:=by kernel_rfl
  i60:=by kernel_rfl
  i64:=by kernel_rfl
  i66:=by kernel_rfl
  i67:=by kernel_rfl
  i75:=by kernel_rfl
  i76:=by kernel_rfl
  i77:=by kernel_rfl
  i78:=by kernel_rfl
  i79:=by kernel_rfl
  i80:=by kernel_rfl
  i82:=by kernel_rfl }
end Go.AM
namespace Go.Proofs
open Go Go.Shelf Go.RowKit Go.Lib Go.Sort
noncomputable def Ptn.svT:TypeInfo:=(Tryz.prog.info? 60).get (by kernel_rfl)
noncomputable def Ptn.svE:TypeInfo:=(Tryz.prog.info? 150).get (by kernel_rfl)
theorem Ptn.svK (n:Nat) (h2:2≤n):Lib.swapperK n Ptn.svE 25=9:=by
 have a:Ptn.svE.hasPointers=false:=by kernel_rfl
 have b:Ptn.svE.bytes=72:=by kernel_rfl
 have c:(n == 0)=false:=by simp;omega
 have d:(n == 1)=false:=by simp;omega
 simp [Lib.swapperK,a,b,c,d]
set_option maxRecDepth 100000 in
set_option maxHeartbeats 2000000 in
theorem Ptn.less (blk off c Bs tb size:Nat) (W:World) (G:Nat→Int) (hb:W.cell? ⟨Bs,0,none⟩=some (.pointer (some ⟨tb,0,none⟩))) (hs:W.cell? ⟨tb,1,none⟩=some (.slice (some ⟨blk,off,none⟩) size c))
  (hc:∀ t,t<size→W.cell? ⟨blk,off+t*9,none⟩=some (.int .i64 (G t))) (i j:Nat) (hi:i<size) (hj:j<size) :
  Calls Tryz.prog 215 #[.int .i64 i,.int .i64 j,.pointer (some ⟨Bs,0,none⟩)] W fun e w'=>e=.returned (.bool (decide (G i<G j)))∧∃ q,w'=W.drewN q:=by
 have ci:=hc i hi
 have cj:=hc j hj
 go_enter Tryz.func215,Tryz.ntmps215
 go_wp2
 go_quiet (fail)
 go_wp2
 go_ret
 exact ⟨rfl,nq,rfl⟩
end Go.Proofs
namespace Go.AM
open Go Go.Proofs Go.Sort
def encN (x:Nd):List Value:=.int .i64 x.1::(List.range 8).map fun i=>.int .u64 (x.2.getD i 0:Nat)
theorem encN_len (x:Nd):(encN x).length=9:=by simp [encN]
def ltN (a b:Nd):Bool:=decide (a.1<b.1)
theorem swoN:SWO ltN where
 irrefl x:=by simp [ltN]
 trans x y z h1 h2:=by simp only [ltN,decide_eq_true_eq] at *;omega
 ntrans x y z h1 h2:=by simp only [ltN,decide_eq_false_iff_not] at *;omega
theorem encN_one (x:Nd):∀ v∈encN x,v.oneCell'=true:=fun v hv=>by
 simp only [encN,List.mem_cons,List.mem_map] at hv
 rcases hv with rfl|⟨i,_,rfl⟩<;>rfl
theorem encN_row {x:Nd} (h8:x.2.length=8) {c:Nat} (hc:c<9):∃ y,(nrow x)[c]?=some (.v y)∧(encN x)[c]! = y:=by
 cases c with
 | zero=>exact ⟨_,rfl,rfl⟩
 | succ c =>
  refine ⟨.int .u64 (x.2.getD c 0:Nat),?_,?_⟩
  ·show (wcs x.2)[c]?=_
   unfold wcs
   rw [List.getElem?_map,List.getElem?_eq_getElem (by omega),List.getD_eq_getElem?_getD,List.getElem?_eq_getElem (by omega)]
   rfl
  ·have:c<8:=by omega
   simp [encN,this]
structure SortD where
 nd:Nat
 m:Nat
 n:Nat
 bs:Nat
 tb:Nat
 r:AV
 dsA:AV
 f:Bool
 l:List Nd
 x:Nd
def SortD.ok (D:SortD) (avs:List AV) (M:Nat→AO):Prop :=
 avs=[.ifc 60 [.sl D.nd D.m 9 0 D.n],.fn 215 [.bp D.bs 0]]∧M D.bs=.box [.bp D.tb 0]∧M D.tb=.box [D.r,.sl D.nd D.m 9 0 D.n,D.dsA]∧M D.nd=.vec D.m 9 D.f (nrows (D.l++[D.x]))∧D.n=(D.l++[D.x]).length ∧
  ascK D.l∧(∀ a∈D.l,a.1≠D.x.1)∧1≤D.l.length∧D.l.length<1000000000∧nds8 (D.l++[D.x])
open Classical in
noncomputable def sortN (avs:List AV) (M:Nat→AO) (_:Nat):Option (AV×List (Nat×AO)) :=
 if h:∃ D:SortD,D.ok avs M then some (.tup [],[(h.choose.nd,.vec h.choose.m 9 h.choose.f (nrows (insK h.choose.l h.choose.x)))]) else none
theorem sortN_at {D:SortD} {avs:List AV} {M:Nat→AO} {nid:Nat} (h:D.ok avs M):sortN avs M nid=some (.tup [],[(D.nd,.vec D.m 9 D.f (nrows (insK D.l D.x)))]):=by
 unfold sortN
 have hex:∃ D:SortD,D.ok avs M:=⟨D,h⟩
 rw [dif_pos hex]
 have hc:=hex.choose_spec
 obtain ⟨C,hC⟩:∃ C,C=hex.choose:=⟨_,rfl⟩
 rw [← hC] at hc ⊢
 obtain ⟨a1,a2,a3,a4,a5,_⟩:=h
 obtain ⟨b1,b2,b3,b4,b5,_⟩:=hc
 rw [a1] at b1
 simp only [List.cons.injEq,AV.ifc.injEq,AV.fn.injEq,AV.sl.injEq,AV.bp.injEq,and_true,true_and] at b1
 obtain ⟨⟨e1,e2,e3⟩,e4⟩:=b1
 rw [← e1] at b4
 rw [a4] at b4
 simp only [AO.vec.injEq,true_and,nrows_inj] at b4
 obtain ⟨_,e6,e7⟩:=b4
 obtain ⟨e8,e9⟩:=List.append_inj' e7 (by simp)
 simp only [List.cons.injEq,and_true] at e9
 rw [← e1,← e2,← e6,← e8,← e9]
theorem sort_ok:CallOK Tryz.prog 214 sortN:=by
 intro avs M nid av u hc w0 bl E w args hr hM hI _
 have htup:∀ (E':Env) (w':World),Rep E' w' (.tup []) (.tuple #[]):=fun E' w'=>by simp only [Rep];exact ⟨[],rfl,by simp [RepL]⟩
 by_cases hex:∃ D:SortD,D.ok avs M
 case neg=>unfold sortN at hc;rw [dif_neg hex] at hc;simp at hc
 obtain ⟨D,hD⟩:=hex
 rw [sortN_at hD] at hc
 simp only [Option.some.injEq,Prod.mk.injEq] at hc
 obtain ⟨rfl,rfl⟩:=hc
 obtain ⟨nd,m,n,bs,tb,r,dsA,f,l,x⟩:=D
 obtain ⟨ha,hbs,htb,hnd,hn,hasc,hne,h1l,hlt,h8⟩:=hD
 simp only at ha hbs htb hnd hn hasc hne h1l hlt h8 ⊢
 subst ha
 obtain ⟨L,hL⟩:∃ L,L=l++[x]:=⟨_,rfl⟩
 rw [← hL] at hnd hn h8
 have hLl:L.length=l.length+1:=by rw [hL];simp
 subst hn
 obtain ⟨v,y,rfl,hv,hy⟩:∃ v y,args=#[.iface 60 v,.func (.func 215) #[] #[y]]∧Rep E w (.sl nd m 9 0 L.length) v∧Rep E w (.bp bs 0) y:=by
  cases hargs:args.toList with
  | nil=>rw [hargs] at hr;simp [RepL] at hr
  | cons a1 rr =>
   rw [hargs] at hr
   simp only [RepL] at hr
   cases rr with
   | nil=>simp [RepL] at hr
   | cons a2 rr =>
    simp only [RepL] at hr
    cases rr with
    | cons a3 rr=>simp [RepL] at hr
    | nil =>
     obtain ⟨h1,h2,_⟩:=hr
     simp only [Rep] at h1 h2
     obtain ⟨v,rfl,h3⟩:=h1
     obtain ⟨vs,rfl,h4⟩:=h2
     simp only [RepL] at h3
     cases vs with
     | nil=>simp [RepL] at h4
     | cons y vs =>
      simp only [RepL] at h4
      cases vs with
      | cons z vs=>simp [RepL] at h4
      | nil=>exact ⟨v,y,by rw [← Array.toArray_toList (xs:=args),hargs],by simpa only [Rep] using h3.1,by simpa only [Rep] using h4.1⟩
 simp only [Rep] at hv hy
 obtain ⟨hal,h1,h2,p,c,rfl,hnc,hpn,hsl⟩:=hv
 obtain ⟨hbal,hbv,bblk,bsz,hbl,rfl⟩:=hy
 have ho:=hM nd hal
 rw [hnd] at ho
 simp only [ObjRep] at ho
 obtain ⟨hv,hm1,ho⟩:=ho
 cases hlc:E.loc nd with
 | none =>
  simp only [hlc] at ho
  have:L.length=0:=by
   have:=congrArg List.length ho
   rwa [nrows_length] at this
  omega
 | some LL =>
  obtain ⟨blk,base,sz⟩:=LL
  simp only [hlc] at ho
  obtain ⟨ca,t,hheap,hszc,honec,hfit,hff,hrows⟩:=ho
  have hs2:=hsl hv.symm
  simp only [hlc,SlAt] at hs2
  obtain ⟨a,rfl,haa,hcs⟩:=hs2
  have haa:=haa.resolve_left (by omega)
  simp only [Nat.zero_mul,Nat.add_zero] at haa
  subst haa
  have hblk:blk<w.heap.size:=(Array.getElem?_eq_some_iff.1 hheap).1
  have hob:=hM bs hbal
  rw [hbs] at hob
  simp only [ObjRep] at hob
  obtain ⟨_,bblk',bt,bvs,hbl2,hbheap,_,hbrep⟩:=hob
  rw [hbl] at hbl2
  simp only [Option.some.injEq,Prod.mk.injEq,true_and] at hbl2
  obtain ⟨rfl,rfl⟩:=hbl2
  obtain ⟨tp,rfl,htp⟩:∃ tp,bvs=[tp]∧Rep E w (.bp tb 0) tp:=by
   cases bvs with
   | nil=>simp [RepL] at hbrep
   | cons tp q=>cases q with
    | nil=>simp only [RepL] at hbrep;exact ⟨tp,rfl,hbrep.1⟩
    | cons z q=>simp [RepL] at hbrep
  simp only [Rep] at htp
  obtain ⟨htal,_,tblk,tsz,htl,rfl⟩:=htp
  have hot:=hM tb htal
  rw [htb] at hot
  simp only [ObjRep] at hot
  obtain ⟨_,tblk',tt,tvs,htl2,htheap,_,htrep⟩:=hot
  rw [htl] at htl2
  simp only [Option.some.injEq,Prod.mk.injEq,true_and] at htl2
  obtain ⟨rfl,rfl⟩:=htl2
  obtain ⟨t0,t1,t2,rfl,ht1⟩:∃ t0 t1 t2,tvs=[t0,t1,t2]∧Rep E w (.sl nd m 9 0 L.length) t1:=by
   match tvs,htrep with
   | [t0,t1,t2],h=>simp only [RepL] at h;exact ⟨t0,t1,t2,rfl,h.2.1⟩
   | [],h=>simp [RepL] at h
   | [_],h=>simp [RepL] at h
   | [_,_],h=>simp [RepL] at h
   | _::_::_::_::_,h=>simp [RepL] at h
  simp only [Rep] at ht1
  obtain ⟨_,_,_,p2,c2,rfl,hnc2,_,hsl2⟩:=ht1
  have hs3:=hsl2 hv.symm
  simp only [hlc,SlAt] at hs3
  obtain ⟨a2,rfl,ha2,_⟩:=hs3
  have ha2:=ha2.resolve_left (by omega)
  simp only [Nat.zero_mul,Nat.add_zero] at ha2
  subst ha2
  have hbne:bblk≠blk:=fun e=>by
   subst e
   have:=hI.apart bs nd bblk 0 _ base sz hbal hal hbl hlc
   subst this
   rw [hbs] at hnd;simp at hnd
  have htne:tblk≠blk:=fun e=>by
   subst e
   have:=hI.apart tb nd tblk 0 _ base sz htal hal htl hlc
   subst this
   rw [htb] at hnd;simp at hnd
  have hB1:bblk<w.heap.size:=(Array.getElem?_eq_some_iff.1 hbheap).1
  have hT1:tblk<w.heap.size:=(Array.getElem?_eq_some_iff.1 htheap).1
  have hBc:w.cell? ⟨bblk,0,none⟩=some (.pointer (some ⟨tblk,0,none⟩)):=by
   unfold World.cell?;rw [hbheap];rfl
  have hTc:w.cell? ⟨tblk,1,none⟩=some (.slice (some ⟨blk,base,none⟩) L.length c2):=by
   unfold World.cell?;rw [htheap];rfl
  have hcell:∀ i,i<L.length→∀ c',c'<9→w.cell? ⟨blk,base+i*9+c',none⟩=some ((encN (L[i]!))[c']!):=fun i hi c' hc'=>by
   have h3:=hrows.get (i:=i) (e:=nrow L[i]) (by simp [nrows,hi])
   rw [getElem!_pos L i hi]
   obtain ⟨y,hy1,hy2⟩:=encN_row (h8 _ (List.getElem_mem hi)) hc'
   obtain ⟨z,h4,_,h5⟩:=h3.2.get hy1
   simp only [CRep] at h5
   subst h5
   rw [hy2];exact h4
  have hfz:∀ j,w.frozen? ⟨blk,base+j,none⟩=false:=fun j=>by
   unfold World.frozen?
   rw [hheap]
   simp
  have hH:HoldsK encN 9 w blk base L.toArray:=fun j hj=>⟨by
   have hj2:j<L.toArray.size*9:=by simpa using hj
   have hjl:j<L.length*9:=by simpa using hj
   rw [get_flatK _ _ _ _ hj2]
   have:=hcell (j/9) (by omega) (j%9) (by omega)
   rw [show base+j/9*9+j%9=base+j by omega] at this
   rw [this]
   simp,hfz j⟩
  have hless:LessReadsK Tryz.prog 215 #[.pointer (some ⟨bblk,0,none⟩)] encN 9 ltN blk base L.toArray.size w:=by
   intro mm os dk hs i j hi hj
   have e:sortWorldK encN 9 w blk base mm dk os=putRowK encN 9 (grow (Sort.ahead w mm) os) blk base dk:=by
    unfold sortWorldK;rw [putRowK_grow _ _ (Sort.ahead w mm) _ blk base _ hblk]
   have hHg:HoldsK encN 9 (grow (Sort.ahead w mm) os) blk base L.toArray:=holdsK_grow _ _ _ _ blk base L.toArray hblk (holdsK_ahead _ _ _ _ _ _ _ hH)
   refine Ptn.less blk base c2 bblk tblk L.toArray.size _ (fun t=>dk[t]!.1) ?_ ?_ (fun t ht=>?_) i j hi hj
   ·rw [e,cell?_putRowK_other _ _ _ blk base dk _ hbne,cell?_grow _ _ _ (by exact hB1)];exact hBc
   ·rw [e,cell?_putRowK_other _ _ _ blk base dk _ htne,cell?_grow _ _ _ (by exact hT1)];simpa using hTc
   ·rw [e];exact ((holdsK_putRowK _ _ _ blk base L.toArray dk hHg hs).cell (i:=t) (c:=0) (by omega) (by omega)).1
  have:=Any.sort_Slice_cells_sorted laySort 60 150 Ptn.svT Ptn.svE (by kernel_rfl) (by kernel_rfl) (by kernel_rfl) (by kernel_rfl) 25 (fun _=>by kernel_rfl) encN 9 encN_len (by kernel_rfl) (fun _=>by kernel_rfl)
   encN_one ltN swoN 215 #[.pointer (some ⟨bblk,0,none⟩)] (enters_of Tryz.func215 (by kernel_rfl) rfl) blk base c L.toArray (by simp;omega) (by simp;omega) 259 (by rw [Ptn.svK _ (by simp;omega)];kernel_rfl) false
   (fun args W=>run_callFunc_extern Tryz.func259 (by kernel_rfl) (by kernel_rfl) (by kernel_rfl) (e:=Extern.ReflectliteSwapper.swap false) (by kernel_rfl) args W) w hless hH hblk
  have hnod:∀ a∈L,∀ b∈L,True:=fun _ _ _ _=>trivial
  refine Calls.mono (this:Calls Tryz.prog 214 _ _ _) fun e w' ⟨he,d',nn,os,hper,hsrt,hw⟩=>?_
  obtain ⟨hds,_,hperm⟩:=hper
  have hS:d'.toList=insK l x:=by
   refine insK_of_perm hasc hne ?_ ?_
   ·refine List.pairwise_iff_getElem.2 fun i j hi hj hij=>?_
    have hi':i<d'.size:=by simpa using hi
    have hj':j<d'.size:=by simpa using hj
    have:=hsrt i j (Nat.zero_le _) hij (by rw [← hds];exact hj')
    rw [getElem!_pos d' i hi',getElem!_pos d' j hj'] at this
    simp only [ltN,decide_eq_false_iff_not] at this
    simpa using this
   ·have e1:(d'.extract 0 L.toArray.size).toList=d'.toList:=by
     rw [← hds];simp
    have e2:(L.toArray.extract 0 L.toArray.size).toList=L:=by simp
    rw [e1,e2,hL] at hperm
    exact hperm
  obtain ⟨K,hK⟩:∃ K,K=insK l x:=⟨_,rfl⟩
  have hd':d'=K.toArray:=by rw [hK,← hS]
  have hKl:K.length=L.length:=by rw [hK,insK_len,hLl]
  have hK8:nds8 K:=fun a ha=>by
   rw [hK] at ha
   rcases mem_insK.1 ha with h|h
   ·exact h8 a (by rw [hL,h];simp)
   ·exact h8 a (by rw [hL];simp [h])
  subst hd'
  rw [← hK]
  have hsz1:K.toArray.size=L.toArray.size:=by simp [hKl]
  have hH2:HoldsK encN 9 w' blk base K.toArray:=by
   rw [hw,← putRowK_grow _ _ (Sort.ahead w nn) _ blk base _ hblk]
   exact holdsK_putRowK _ _ _ blk base L.toArray _ (holdsK_grow _ _ _ _ blk base L.toArray hblk (holdsK_ahead _ _ _ _ _ _ _ hH)) hsz1
  have hsize:w.heap.size≤w'.heap.size:=by
   have e1:(putRowK encN 9 (Sort.ahead w nn) blk base K.toArray).heap.size=w.heap.size:=by
    unfold putRowK
    simp only [putRow,mapBlock,Array.size_modify]
    rfl
   rw [hw,size_grow,e1]
   omega
  have hother:∀ k,k<w.heap.size→k≠blk→w'.heap[k]?=w.heap[k]?:=fun k hk hne=>by
   rw [hw]
   unfold putRowK
   rw [heap_grow_old _ _ (by simpa [ahead] using hk)]
   simp only [putRow,mapBlock,Array.getElem?_modify]
   rw [if_neg (fun e=>hne e.symm)]
   rfl
  have hown:w'.heap[blk]?=some (.cells (putCells id base (flatK encN 9 K.toArray) ca) t (0,0)):=by
   rw [hw]
   unfold putRowK
   rw [heap_grow_old _ _ (by simpa [ahead] using hblk)]
   simp only [putRow,mapBlock,Array.getElem?_modify,if_true]
   have e:∀ n,(Sort.ahead w n).heap=w.heap:=fun n=>rfl
   rw [e,hheap]
   rfl
  refine ⟨_,E.upd nd m (some (blk,base,sz)),he,?_,htup _ _⟩
  refine StepTo.one hI nd _ m _ (fun _=>.inl ⟨hv.symm,hlc.symm⟩) (fun blk' base' sz' e=>?_) hsize (by rw [hw];rfl) (by rw [hw];rfl) (fun k hk hn=>hother k hk fun e=>?_) ?_
  ·simp only [Option.some.injEq,Prod.mk.injEq] at e
   exact .inl ⟨base,sz,hal,by rw [hlc,e.1]⟩
  ·subst e;exact hn base sz hal hlc
  ·simp only [ObjRep,Env.upd,if_true]
   refine ⟨trivial,hm1,_,t,hown,by simpa [putCells] using hszc,fun y hy=>?_,by simpa [hKl] using hfit,fun hf=>by simpa [hKl] using hff hf,CRows.of_get fun i e hi=>?_⟩
   ·rw [Array.mem_toList_iff] at hy
    obtain ⟨k,hk,rfl⟩:=Array.mem_iff_getElem.1 hy
    simp only [putCells,Array.getElem_mapIdx]
    split
    ·rename_i hcond
     have hk2:k - base<K.toArray.size*9:=by
      have:=hcond.2
      rw [size_flatK] at this
      omega
     rw [get_flatK _ _ _ _ hk2]
     have hlen:=encN_len (K.toArray[(k - base)/9]!)
     refine encN_one (K.toArray[(k - base)/9]!) _ ?_
     rw [getElem!_pos (encN (K.toArray[(k - base)/9]!)) ((k - base)%9) (by rw [hlen];omega)]
     exact List.getElem_mem _
    ·exact honec _ (by rw [Array.mem_toList_iff];exact Array.getElem_mem _)
   ·have hil:i<K.length:=by
     have:=(List.getElem?_eq_some_iff.1 hi).1
     simpa using this
    simp only [nrows,List.getElem?_map,List.getElem?_eq_getElem hil,Option.map_some,Option.some.injEq] at hi
    subst hi
    have hi8:=hK8 _ (List.getElem_mem hil)
    refine ⟨by simp [nrow,hi8],CCells.of_get fun c a hc=>?_⟩
    have hc9:c<9:=by
     have:=(List.getElem?_eq_some_iff.1 hc).1
     simpa [nrow,hi8] using this
    have hA:=(hH2.cell (i:=i) (c:=c) (by simpa using hil) hc9).1
    simp only [List.getElem!_toArray] at hA
    rw [getElem!_pos K i hil] at hA
    obtain ⟨y,hy1,hy2⟩:=encN_row hi8 hc9
    rw [hy1] at hc
    simp only [Option.some.injEq] at hc
    subst hc
    rw [hy2] at hA
    refine ⟨y,hA,?_,by simp only [CRep]⟩
    refine encN_one K[i] _ ?_
    have hlen:=encN_len K[i]
    rw [← hy2,getElem!_pos (encN K[i]) c (by rw [hlen];omega)]
    exact List.getElem_mem _
theorem sort_keys {avs:List AV} {M:Nat→AO} {nid:Nat} {r:AV×List (Nat×AO)} (h:sortN avs M nid=some r):∀ b∈r.2.map (·.1),(nid≤b∧b<nid+16)∨M b≠.dead:=by
 by_cases hex:∃ D:SortD,D.ok avs M
 case neg=>unfold sortN at h;rw [dif_neg hex] at h;simp at h
 obtain ⟨D,hD⟩:=hex
 rw [sortN_at hD] at h
 simp only [Option.some.injEq] at h
 subst h
 intro b hb
 simp at hb
 subst hb
 exact .inr (by rw [hD.2.2.2.1];simp)
end Go.AM
set_option maxHeartbeats 4000000
namespace Go.AM
open Go Go.Proofs
def pMs (t:Tb) (v v2:Nat):List AO:=[.box [I t.1,.sl 1 v 9 0 t.2.1.length,.sl 2 v2 2 0 t.2.2.length],.vec v 9 false (nrows t.2.1),.vec v2 2 false (prows t.2.2)]
theorem pMs_inj {t t':Tb} {v v2:Nat} (h:pMs t v v2=pMs t' v v2):t=t':=by
 obtain ⟨r,ns,ds⟩:=t
 obtain ⟨r',ns',ds'⟩:=t'
 simp only [pMs,List.cons.injEq,AO.box.injEq,I,AV.v.injEq,Value.int.injEq,true_and,AO.vec.injEq,nrows_inj,prows_inj,and_true] at h
 obtain ⟨⟨h1,_⟩,h2,h3⟩:=h
 rw [h1,h2,h3]
def OwnR (X:AX) (f:FuncId) (D:Tb→Int→Prop) (R:Tb→Int→AV):Prop :=
 ∀ (r:Int) (ns:List Nd) (ds:List Dp) (x:Int),D (r,ns,ds) x→∀ (a va b vb:Nat) (f1 f2:Bool) (M:Nat→AO) (n:Nat),M a=.vec va 9 f1 (nrows ns)→M b=.vec vb 2 f2 (prows ds)→X.call f [.agg [I r,.sl a va 9 0 ns.length,.sl b vb 2 0 ds.length],I x] M n=some (R (r,ns,ds) x,[])
theorem nrows_setN {ns:List Nd} {n i w:Nat} (hn:n<ns.length):(nrows ns).set n (I (gn ns n).1::(wcs (gn ns n).2).set i (U w))=nrows (setN ns n i w):=by
 have:wcs ((gn ns n).2.set i w)=(wcs (gn ns n).2).set i (U w):=by simp [wcs,List.map_set]
 rw [← this]
 show (nrows ns).set n (nrow ((gn ns n).1,(gn ns n).2.set i w))=_
 unfold setN nrows
 rw [List.map_set]
 rfl
def putT (t:Tb) (p w:Nat):Tb:=(t.1,setN t.2.1 (lsT t p).1 (dgt p (lsT t p).2.1) w,t.2.2)
abbrev PuD:=Tb×Nat×Nat
noncomputable def puS:List AV→List AO→Option (AV×List AO):=specG (ι:={x:PuD // ptO x.1 x.2.1∧x.2.2<2^64}) (fun x=>[.bp 0 0,I x.1.2.1,U x.1.2.2]) (fun x=>pMs x.1.1 1 1) (fun x=>.tup []) fun x=>pMs (putT x.1.1 x.1.2.1 x.1.2.2) 1 1
theorem puS_at {t:Tb} {p w:Nat} (h:ptO t p) (hw:w<2^64):puS [.bp 0 0,I p,U w] (pMs t 1 1)=some (.tup [],pMs (putT t p w) 1 1):=by
 refine specG_eq (ι:={x:PuD // ptO x.1 x.2.1∧x.2.2<2^64}) (A:=fun x=>[.bp 0 0,I x.1.2.1,U x.1.2.2]) (M:=fun x=>pMs x.1.1 1 1) (R:=fun x=>.tup []) (O:=fun x=>pMs (putT x.1.1 x.1.2.1 x.1.2.2) 1 1) ⟨(t,p,w),h,hw⟩ fun j hA hM=>?_
 obtain ⟨⟨t',p',w'⟩,h'⟩:=j
 have e:=pMs_inj hM
 simp only at e
 subst e
 simp only [List.cons.injEq,I,U,AV.v.injEq,Value.int.injEq,true_and,and_true] at hA
 have e1:p'=p:=by omega
 have e2:w'=w:=by omega
 subst e1 e2
 exact ⟨rfl,rfl⟩
theorem s130 (X:AX) (hX:XOK Tryz.prog X) (hw:X.W wT) (hla:OwnR X 110 (fun t x=>0≤x∧ptO t x.toNat) fun t x=>stV (lsT t x.toNat)) (hdg:∀ (p l:Nat),p<512→l≤2→∀ M n,X.call 139 [I p,I l] M n=some (I (dgt p l),[])):GSound Tryz.prog 130 puS:=by
 unfold puS
 refine gsound_spec Tryz.func130 rfl X fun ⟨⟨⟨r,ns,ds⟩,p,w⟩,hpt,hw64⟩ w0 L E=>⟨by show 3≤26;decide,?_⟩
 simp only at hw64
 have hp:p<512:=hpt.2.2.1
 have hla':=hla r ns ds p ⟨by omega,hpt⟩
 obtain ⟨hlt1,hlt2⟩:(lsT (r,ns,ds) p).1<ns.length∧(lsT (r,ns,ds) p).2.1≤2:=by
  obtain ⟨_,_,_,⟨rt,hrt⟩,_⟩:=hpt
  exact lst_lt (by unfold rtN;rw [hrt];exact fnd_lt hrt)
 have ht:=hpt.1
 have hl1:ns.length≤1000000:=ht.2.1
 have hl2:ds.length≤1000000:=ht.2.2
 have hR:putT (r,ns,ds) p w=(r,setN ns (lsT (r,ns,ds) p).1 (dgt p (lsT (r,ns,ds) p).2.1) w,ds):=rfl
 obtain ⟨⟨a,b,c⟩,hS⟩:∃ S,S=lsT (r,ns,ds) p:=⟨_,rfl⟩
 simp only [Int.toNat_natCast] at hla'
 rw [← hS] at hla' hlt1 hlt2 hR
 simp only at hla' hlt1 hlt2 hR
 have hdg':=hdg p b hp hlt2
 have hdl:=dgt_lt p b
 have haN:(a:Int)<(ns.length:Int):=by omega
 have hgn:=nrows_gi hlt1
 have hgnE:=nrows_gE hlt1
 have h8:(gn ns a).2.length=8:=(ht.1 _ (gn_mem hlt1)).1
 have hset:=@nrows_setN ns a (dgt p b) w hlt1
 have hwl:(wcs (gn ns a).2).length=8:=by simp [h8]
 obtain ⟨NS,hNS⟩:∃ NS,NS=setN ns a (dgt p b) w:=⟨_,rfl⟩
 have hNl:NS.length=ns.length:=by rw [hNS];simp
 rw [← hNS] at hset hR
 obtain ⟨⟨fr,ws⟩,hm⟩:∃ m,m=gn ns a:=⟨_,rfl⟩
 rw [← hm] at hgn hgnE hwl hset
 simp only at hgn hgnE hwl hset
 obtain ⟨cs,hcs⟩:∃ cs,cs=wcs ws:=⟨_,rfl⟩
 rw [← hcs] at hgn hgnE hwl hset
 obtain ⟨dg,hdg0⟩:∃ dg,dg=dgt p b:=⟨_,rfl⟩
 rw [← hdg0] at hdl hdg' hset
 have hdI:(dg:Int)<8:=by omega
 clear hcs hm h8 hS
 simp only [pMs,hR,hNl,stV,srow,U] at hla' hset ⊢
 show AW ⟨Tryz.prog,X,26,w0,⟨L,E,3⟩⟩ _ _ _
 have hc:Cx.OK ⟨Tryz.prog,X,26,w0,⟨L,E,3⟩⟩:=⟨hX,mixed⟩
 have zS:=jj hla'<|jj hdg'<|jj hlt1<|jj haN<|jj hgn<|jj hgnE<|jj hwl<|jj hdl<|jj hdI<|hset
 refine dM64 ?_
 repeat (intro K hK)
 clear zS
 refine ⟨[],rfl,?_⟩
 have hs1:(I fr::cs).set (1+dg) (AV.v (.int .u64 w))=I fr::cs.set dg (AV.v (.int .u64 w)):=by rw [Nat.add_comm];rfl
 rw [hs1,hset]
 simp only [idx]
 exact dle
noncomputable def adS:List AV→List AO→Option (AV×List AO):=specG (ι:={x:Tb×Int // tbOK x.1∧ascN x.1.2.1∧(∀ n∈x.1.2.1,n.1≠x.2)∧1≤x.1.2.1.length}) (fun x=>[.bp 0 0,I x.1.2]) (fun x=>pMs x.1.1 1 1) (fun x=>.tup []) fun x=>pMs (x.1.1.1,insK x.1.1.2.1 (x.1.2,zs8),x.1.1.2.2) 2 1
theorem adS_at {t:Tb} {f:Int} (ht:tbOK t) (ha:ascN t.2.1) (hn:∀ n∈t.2.1,n.1≠f) (hl:1≤t.2.1.length):adS [.bp 0 0,I f] (pMs t 1 1)=some (.tup [],pMs (t.1,insK t.2.1 (f,zs8),t.2.2) 2 1):=by
 refine specG_eq (ι:={x:Tb×Int // tbOK x.1∧ascN x.1.2.1∧(∀ n∈x.1.2.1,n.1≠x.2)∧1≤x.1.2.1.length}) (A:=fun x=>[.bp 0 0,I x.1.2]) (M:=fun x=>pMs x.1.1 1 1) (R:=fun x=>.tup []) (O:=fun x=>pMs (x.1.1.1,insK x.1.1.2.1 (x.1.2,zs8),x.1.1.2.2) 2 1) ⟨(t,f),ht,ha,hn,hl⟩ fun j hA hM=>?_
 obtain ⟨⟨t',f'⟩,h'⟩:=j
 have e:=pMs_inj hM
 simp only at e
 subst e
 simp only [List.cons.injEq,I,AV.v.injEq,Value.int.injEq,true_and,and_true] at hA
 subst hA
 exact ⟨rfl,rfl⟩
theorem s186 (X:AX) (hX:XOK Tryz.prog X) (hw:X.W wT) (hso:X.call 214=sortN):GSound Tryz.prog 186 adS:=by
 unfold adS
 refine gsound_spec Tryz.func186 rfl X fun ⟨⟨⟨r,ns,ds⟩,f⟩,ht,ha,hn,hl⟩ w0 L E=>⟨by show 2≤22;decide,?_⟩
 simp only at ha hn hl
 have hl1:ns.length≤1000000:=ht.2.1
 have hl2:ds.length≤1000000:=ht.2.2
 have hil:=@insK_len _ (f,zs8) ns
 simp only [pMs,hil]
 show AW ⟨Tryz.prog,X,22,w0,⟨L,E,3⟩⟩ _ _ _
 have hc:Cx.OK ⟨Tryz.prog,X,22,w0,⟨L,E,3⟩⟩:=⟨hX,mixed⟩
 have tkn:List.take ns.length (nrows ns)=nrows ns:=List.take_of_length_le (by simp)
 have ha1z:nrows ns++[[I f,.v (.int .u64 0),.v (.int .u64 0),.v (.int .u64 0),.v (.int .u64 0),.v (.int .u64 0),.v (.int .u64 0),.v (.int .u64 0),.v (.int .u64 0)]]=nrows (ns++[(f,zs8)]):=(nrows_snoc ns (f,zs8)).symm
 have hsort:∀ (M:Nat→AO) (bs nid:Nat),M bs=.box [.bp 0 0]→M 0=.box [I r,.sl 1 2 9 0 (ns.length+1),.sl 2 1 2 0 ds.length]→M 1=.vec 2 9 false (nrows (ns++[(f,zs8)]))→X.call 214 [.ifc 60 [.sl 1 2 9 0 (ns.length+1)],.fn 215 [.bp bs 0]] M nid=some (.tup [],[(1,.vec 2 9 false (nrows (insK ns (f,zs8))))]):=fun M bs nid h1 h2 h3=>by
  rw [hso]
  refine sortN_at (D:=⟨1,2,ns.length+1,bs,0,I r,.sl 2 1 2 0 ds.length,false,ns,(f,zs8)⟩) ⟨rfl,h1,h2,h3,by simp,ha,hn,hl,by show ns.length<1000000000;omega,fun a ha=>?_⟩
  rcases List.mem_append.1 ha with h|h
  ·exact nds8_of ht a h
  ·simp at h;rw [h];rfl
 have zS:=jj tkn<|jj ha1z<|hsort
 refine dF64 ?_
 repeat (intro K hK)
 clear zS
 refine ⟨[],rfl,?_⟩
 simp only [idx]
 trace_state
 exact dle
end Go.AM
