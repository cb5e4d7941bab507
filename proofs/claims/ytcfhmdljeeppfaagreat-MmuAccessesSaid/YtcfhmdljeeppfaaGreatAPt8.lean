/- A part of the proof: what functions of the program compute, by abstract execution of their code. Its theorems hold without further condition. -/
import Derived.Test.YtcfhmdljeeppfaaGreatAAmTa
set_option linter.all false
namespace Go.AM
open Go Go.Proofs
abbrev Nd:=Int×List Nat
abbrev Dp:=Int×Int
abbrev Tb:=Int×List Nd×List Dp
def wcs (l:List Nat):List AV:=l.map fun w:Nat=>U (w:Int)
theorem wcs_inj:∀ {p q:List Nat},wcs p=wcs q↔p=q
 | [],[]=>by simp
 | [],_::_=>by simp [wcs]
 | _::_,[]=>by simp [wcs]
 | x::p,y::q=>by
  have ih:=wcs_inj (p:=p) (q:=q)
  unfold wcs at ih ⊢
  rw [List.map_cons,List.map_cons,List.cons.injEq,List.cons.injEq,ih]
  simp [U]
  intro _
  omega
@[simp] theorem wcs_len (l:List Nat):(wcs l).length=l.length:=by simp [wcs]
def nrow (n:Nd):List AV:=I n.1::wcs n.2
def nrows (l:List Nd):List (List AV):=l.map nrow
def prows (l:List Dp):List (List AV):=l.map fun m=>[I m.1,I m.2]
def TbV (t:Tb):AV:=.agg [I t.1,.rd 9 (nrows t.2.1),.rd 2 (prows t.2.2)]
def ndOK (n:Nd):Prop:=n.2.length=8∧∀ w∈n.2,w<2^64
def tbOK (t:Tb):Prop:=(∀ n∈t.2.1,ndOK n)∧t.2.1.length≤1000000∧t.2.2.length≤1000000
@[simp] theorem nrows_length (l:List Nd):(nrows l).length=l.length:=by simp [nrows]
@[simp] theorem prows_length (l:List Dp):(prows l).length=l.length:=by simp [prows]
theorem nrow_inj {a b:Nd}:nrow a=nrow b↔a=b:=by
 obtain ⟨a1,a2⟩:=a
 obtain ⟨b1,b2⟩:=b
 simp only [nrow,List.cons.injEq,wcs_inj,Prod.mk.injEq,I,AV.v.injEq,Value.int.injEq,true_and]
theorem nrows_inj {l m:List Nd}:nrows l=nrows m↔l=m:=by
 unfold nrows
 induction l generalizing m with
 | nil=>cases m<;>simp
 | cons x l ih=>cases m with
  | nil=>simp
  | cons y m=>simp [ih,nrow_inj]
theorem prows_inj {l m:List Dp}:prows l=prows m↔l=m:=by
 unfold prows
 induction l generalizing m with
 | nil=>cases m<;>simp
 | cons x l ih=>cases m with
  | nil=>simp
  | cons y m =>
   obtain ⟨x1,x2⟩:=x
   obtain ⟨y1,y2⟩:=y
   simp [ih,I]
theorem TbV_inj {a b:Tb}:TbV a=TbV b↔a=b:=by
 obtain ⟨a1,a2,a3⟩:=a
 obtain ⟨b1,b2,b3⟩:=b
 simp [TbV,I,nrows_inj,prows_inj]
theorem s126 (X:AX) (hX:XOK Tryz.prog X):PSound Tryz.prog 126 (specF (ι:=Int) (fun x=>[I x]) fun x=>retOf [B (decide (0≤x∧x≤4294967295))]):=by
 refine psound_spec hX mixed Tryz.func126 rfl fun x w0 G=>⟨by show 1≤9;decide,rfl,?_⟩
 show AW ⟨Tryz.prog,X,9,w0,.pure G⟩ _ _ _
 have hc:Cx.OK ⟨Tryz.prog,X,9,w0,.pure G⟩:=⟨hX,mixed⟩
 rcases Decidable.em (0≤x) with h1|h1
 ·have zS:=h1
  refine dM8 ?_
  repeat (intro K hK)
  clear zS
  refine ⟨by simp,?_⟩
  simp [leaves_iff,Tryz.f126,h1]
  try exact dt
 ·have zS:=h1
  refine dM8 ?_
  repeat (intro K hK)
  clear zS
  refine ⟨by simp,?_⟩
  simp [leaves_iff,Tryz.f126,h1]
  try exact dt
theorem s33 (X:AX) (hX:XOK Tryz.prog X):PSound Tryz.prog 33 (specF (ι:=Tb) (fun x=>[TbV x]) fun x=>retOf [B (decide (x.2.1.length≤80∧x.2.2.length≤70))]):=by
 refine psound_spec hX mixed Tryz.func33 rfl fun ⟨r,ns,ds⟩ w0 G=>⟨by show 1≤13;decide,rfl,?_⟩
 show AW ⟨Tryz.prog,X,13,w0,.pure G⟩ _ _ _
 have hc:Cx.OK ⟨Tryz.prog,X,13,w0,.pure G⟩:=⟨hX,mixed⟩
 unfold TbV
 simp only
 rcases Decidable.em ((ns.length:Int)≤80) with h1|h1
 ·have h2:ns.length≤80:=by omega
  have zS:=jj h1<|h2
  refine dM8 ?_
  repeat (intro K hK)
  clear zS
  refine ⟨by simp,?_⟩
  simp [leaves_iff,Tryz.f33,h2]
  try exact dt
 ·have h2:¬ ns.length≤80:=by omega
  have zS:=jj h1<|h2
  refine dM8 ?_
  repeat (intro K hK)
  clear zS
  refine ⟨by simp,?_⟩
  simp [leaves_iff,Tryz.f33,h2]
  try exact dt
def dig (x l:Int):Int:=if l=2 then x/64 else if l=1 then x/8%8 else x%8
theorem s112 (X:AX) (hX:XOK Tryz.prog X):PSound Tryz.prog 112 (specF (ι:={x:Nat×Nat // x.1<512∧x.2≤2}) (fun x=>[I x.1.1,I x.1.2]) fun x=>retOf [I (dig x.1.1 x.1.2)]):=by
 refine psound_spec hX mixed Tryz.func112 rfl fun ⟨⟨n,l⟩,hn,hl⟩ w0 G=>⟨by show 2≤17;decide,rfl,?_⟩
 show AW ⟨Tryz.prog,X,17,w0,.pure G⟩ _ _ _
 have hc:Cx.OK ⟨Tryz.prog,X,17,w0,.pure G⟩:=⟨hX,mixed⟩
 simp only at hn hl ⊢
 have m8:(n:Int).tmod 8=(n:Int)%8:=rfl
 have m88:((n:Int)/8).tmod 8=(n:Int)/8%8:=Int.tmod_eq_emod_of_nonneg (by omega)
 have w8:IntKind.i64.wrap ((n:Int)/8)=(n:Int)/8:=wrap64 (by omega)
 have w64:IntKind.i64.wrap ((n:Int)/64)=(n:Int)/64:=wrap64 (by omega)
 rcases (by omega:l=0∨l=1∨l=2) with rfl|rfl|rfl
 ·have zS:=jj m8<|jj m88<|jj w8<|w64
  refine dM8 ?_
  repeat (intro K hK)
  clear zS
  refine ⟨by simp,?_⟩
  simp [leaves_iff,Tryz.f112,dig]
  try exact dt
 ·have zS:=jj m8<|jj m88<|jj w8<|w64
  refine dM8 ?_
  repeat (intro K hK)
  clear zS
  refine ⟨by simp,?_⟩
  simp [leaves_iff,Tryz.f112,dig]
  try exact dt
 ·have zS:=jj m8<|jj m88<|jj w8<|w64
  refine dM8 ?_
  repeat (intro K hK)
  clear zS
  refine ⟨by simp,?_⟩
  simp [leaves_iff,Tryz.f112,dig]
  try exact dt
end Go.AM
set_option maxHeartbeats 1000000
namespace Go.AM
open Go Go.Proofs
def suitB (e:En) (l:Nat):Bool :=
 if e.1=0 then true else if e.1=4 then decide (0<l)
 else if e.1=1 then (if l=0 then !e.2.2.2.2.2 else if l=1 then e.2.2.2.2.2 else false) else decide (l=0)
theorem s117 (X:AX) (hX:XOK Tryz.prog X) (hw:X.W wT):PSound Tryz.prog 117 (specF (ι:=En×Nat) (fun x=>[EnV x.1,I x.2]) fun x=>retOf [B (suitB x.1 x.2)]):=by
 refine psound_spec hX mixed Tryz.func117 rfl fun ⟨⟨k,f,d,a,x,h⟩,l⟩ w0 G=>⟨by show 2≤32;decide,rfl,?_⟩
 show AW ⟨Tryz.prog,X,32,w0,.pure G⟩ _ _ _
 have hc:Cx.OK ⟨Tryz.prog,X,32,w0,.pure G⟩:=⟨hX,mixed⟩
 unfold EnV
 simp only
 rcases Decidable.em (k=0) with e0|e0
 ·subst e0
  refine dM8o ?_
  repeat (intro K hK)
  refine ⟨by simp,?_⟩
  simp [leaves_iff,Tryz.f117,suitB]
  try exact dt
 ·rcases Decidable.em (k=4) with e4|e4
  ·subst e4
   refine dM8o ?_
   repeat (intro K hK)
   refine ⟨by simp,?_⟩
   simp [leaves_iff,Tryz.f117,suitB]
   try exact dt
  ·rcases Decidable.em (k=1) with e1|e1
   ·subst e1
    rcases (by omega:l=0∨l=1∨(l≠0∧l≠1)) with rfl|rfl|⟨q0,q1⟩
    ·cases h
     ·refine dM8o ?_
      repeat (intro K hK)
      refine ⟨by simp,?_⟩
      simp [leaves_iff,Tryz.f117,suitB]
      try exact dt
     ·refine dM8o ?_
      repeat (intro K hK)
      refine ⟨by simp,?_⟩
      simp [leaves_iff,Tryz.f117,suitB]
      try exact dt
    ·cases h
     ·refine dM8o ?_
      repeat (intro K hK)
      refine ⟨by simp,?_⟩
      simp [leaves_iff,Tryz.f117,suitB]
      try exact dt
     ·refine dM8o ?_
      repeat (intro K hK)
      refine ⟨by simp,?_⟩
      simp [leaves_iff,Tryz.f117,suitB]
      try exact dt
    ·have z0:¬ (l:Int)=0:=by omega
     have z1:¬ (l:Int)=1:=by omega
     cases h
     ·have zS:=jj q0<|jj q1<|jj z0<|z1
      refine dM8 ?_
      repeat (intro K hK)
      clear zS
      refine ⟨by simp,?_⟩
      simp [leaves_iff,Tryz.f117,suitB,q0,q1]
      try exact dt
     ·have zS:=jj q0<|jj q1<|jj z0<|z1
      refine dM8 ?_
      repeat (intro K hK)
      clear zS
      refine ⟨by simp,?_⟩
      simp [leaves_iff,Tryz.f117,suitB,q0,q1]
      try exact dt
   ·have zS:=jj e0<|jj e4<|e1
    refine dM8 ?_
    repeat (intro K hK)
    clear zS
    refine ⟨by simp,?_⟩
    simp [leaves_iff,Tryz.f117,suitB,e0,e4,e1]
    try exact dt
theorem s132 (X:AX) (hX:XOK Tryz.prog X) (hw:X.W wT):PSound Tryz.prog 132 (specF (ι:=En×Nat) (fun x=>[EnV x.1,I x.2]) fun x=>retOf [B (suitB x.1 x.2)]):=by
 refine psound_spec hX mixed Tryz.func132 rfl fun ⟨⟨k,f,d,a,x,h⟩,l⟩ w0 G=>⟨by show 2≤32;decide,rfl,?_⟩
 show AW ⟨Tryz.prog,X,32,w0,.pure G⟩ _ _ _
 have hc:Cx.OK ⟨Tryz.prog,X,32,w0,.pure G⟩:=⟨hX,mixed⟩
 unfold EnV
 simp only
 rcases Decidable.em (k=0) with e0|e0
 ·subst e0
  refine dM8o ?_
  repeat (intro K hK)
  refine ⟨by simp,?_⟩
  simp [leaves_iff,Tryz.f132,suitB]
  try exact dt
 ·rcases Decidable.em (k=4) with e4|e4
  ·subst e4
   refine dM8o ?_
   repeat (intro K hK)
   refine ⟨by simp,?_⟩
   simp [leaves_iff,Tryz.f132,suitB]
   try exact dt
  ·rcases Decidable.em (k=1) with e1|e1
   ·subst e1
    rcases (by omega:l=0∨l=1∨(l≠0∧l≠1)) with rfl|rfl|⟨q0,q1⟩
    ·cases h
     ·refine dM8o ?_
      repeat (intro K hK)
      refine ⟨by simp,?_⟩
      simp [leaves_iff,Tryz.f132,suitB]
      try exact dt
     ·refine dM8o ?_
      repeat (intro K hK)
      refine ⟨by simp,?_⟩
      simp [leaves_iff,Tryz.f132,suitB]
      try exact dt
    ·cases h
     ·refine dM8o ?_
      repeat (intro K hK)
      refine ⟨by simp,?_⟩
      simp [leaves_iff,Tryz.f132,suitB]
      try exact dt
     ·refine dM8o ?_
      repeat (intro K hK)
      refine ⟨by simp,?_⟩
      simp [leaves_iff,Tryz.f132,suitB]
      try exact dt
    ·have z0:¬ (l:Int)=0:=by omega
     have z1:¬ (l:Int)=1:=by omega
     cases h
     ·have zS:=jj q0<|jj q1<|jj z0<|z1
      refine dM8 ?_
      repeat (intro K hK)
      clear zS
      refine ⟨by simp,?_⟩
      simp [leaves_iff,Tryz.f132,suitB,q0,q1]
      try exact dt
     ·have zS:=jj q0<|jj q1<|jj z0<|z1
      refine dM8 ?_
      repeat (intro K hK)
      clear zS
      refine ⟨by simp,?_⟩
      simp [leaves_iff,Tryz.f132,suitB,q0,q1]
      try exact dt
   ·have zS:=jj e0<|jj e4<|e1
    refine dM8 ?_
    repeat (intro K hK)
    clear zS
    refine ⟨by simp,?_⟩
    simp [leaves_iff,Tryz.f132,suitB,e0,e4,e1]
    try exact dt
theorem s113 (X:AX) (hX:XOK Tryz.prog X) (hw:X.W wT) (hd:∀ n:Nat,n<2^64→∀ M k,X.call 56 [U n] M k=some (.tup [EnV (decR n).1,I (decR n).2],[])) :
  PSound Tryz.prog 113 (specF (ι:={n:Nat // n<2^64}) (fun x=>[U x.1]) fun x=>retOf [EnV (decR x.1).1]):=by
 refine psound_spec hX mixed Tryz.func113 rfl fun ⟨n,hn⟩ w0 G=>⟨by show 1≤11;decide,rfl,?_⟩
 show AW ⟨Tryz.prog,X,11,w0,.pure G⟩ _ _ _
 have hc:Cx.OK ⟨Tryz.prog,X,11,w0,.pure G⟩:=⟨hX,mixed⟩
 have hn:n<2^64:=hn
 have hd':=hd n hn
 obtain ⟨⟨⟨k,f,d,a,x,h⟩,e⟩,hR⟩:∃ r,r=decR n:=⟨_,rfl⟩
 rw [← hR] at hd' ⊢
 simp only [EnV,U] at hd' ⊢
 have zS:=hd'
 refine dM8 ?_
 repeat (intro K hK)
 clear zS
 refine ⟨by simp,?_⟩
 simp [leaves_iff,Tryz.f113]
 try exact dt
theorem s103 (X:AX) (hX:XOK Tryz.prog X) (hw:X.W wT) (hd:∀ n:Nat,n<2^64→∀ M k,X.call 131 [U n] M k=some (.tup [EnV (decR n).1,I (decR n).2],[])) :
  PSound Tryz.prog 103 (specF (ι:={n:Nat // n<2^64}) (fun x=>[U x.1]) fun x=>retOf [EnV (decR x.1).1]):=by
 refine psound_spec hX mixed Tryz.func103 rfl fun ⟨n,hn⟩ w0 G=>⟨by show 1≤11;decide,rfl,?_⟩
 show AW ⟨Tryz.prog,X,11,w0,.pure G⟩ _ _ _
 have hc:Cx.OK ⟨Tryz.prog,X,11,w0,.pure G⟩:=⟨hX,mixed⟩
 have hn:n<2^64:=hn
 have hd':=hd n hn
 obtain ⟨⟨⟨k,f,d,a,x,h⟩,e⟩,hR⟩:∃ r,r=decR n:=⟨_,rfl⟩
 rw [← hR] at hd' ⊢
 simp only [EnV,U] at hd' ⊢
 have zS:=hd'
 refine dM8 ?_
 repeat (intro K hK)
 clear zS
 refine ⟨by simp,?_⟩
 simp [leaves_iff,Tryz.f103]
 try exact dt
end Go.AM
namespace Go.AM
open Go Go.Proofs
def gn (l:List Nd) (n:Nat):Nd:=l.getD n (0,[])
def gp (l:List Dp) (n:Nat):Dp:=l.getD n (0,0)
theorem gn_eq {l:List Nd} {n:Nat} (h:n<l.length):gn l n=l[n]:=by
 unfold gn;rw [List.getD_eq_getElem?_getD,List.getElem?_eq_getElem h];rfl
theorem gp_eq {l:List Dp} {n:Nat} (h:n<l.length):gp l n=l[n]:=by
 unfold gp;rw [List.getD_eq_getElem?_getD,List.getElem?_eq_getElem h];rfl
theorem gn_mem {l:List Nd} {n:Nat} (h:n<l.length):gn l n∈l:=by rw [gn_eq h];exact List.getElem_mem h
theorem gp_mem {l:List Dp} {n:Nat} (h:n<l.length):gp l n∈l:=by rw [gp_eq h];exact List.getElem_mem h
theorem nrows_gi {l:List Nd} {n:Nat} (h:n<l.length):(nrows l)[n]?=some (I (gn l n).1::wcs (gn l n).2):=by
 rw [gn_eq h];simp [nrows,nrow,h]
theorem nrows_gE {l:List Nd} {n:Nat} (h:n<l.length):∀ h',(nrows l)[n]'(h')=I (gn l n).1::wcs (gn l n).2:=fun h'=>by
 have hg:=nrows_gi h
 rw [List.getElem?_eq_getElem h'] at hg
 exact Option.some.inj hg
theorem prows_gi {l:List Dp} {n:Nat} (h:n<l.length):(prows l)[n]?=some [I (gp l n).1,I (gp l n).2]:=by
 rw [gp_eq h];simp [prows,h]
theorem prows_gE {l:List Dp} {n:Nat} (h:n<l.length):∀ h',(prows l)[n]'(h')=[I (gp l n).1,I (gp l n).2]:=fun h'=>by
 have hg:=prows_gi h
 rw [List.getElem?_eq_getElem h'] at hg
 exact Option.some.inj hg
def fstG {α:Type} (p:α→Bool) (l:List α):Int:=if l.findIdx p<l.length then (l.findIdx p:Int) else -1
theorem fstG_at {α:Type} {p:α→Bool} {l:List α} {i:Nat} (hi:i<l.length) (hp:p l[i]=true) (hn:∀ j (hj:j<i),p (l[j]'(by omega))=false):fstG p l=i:=by
 have:l.findIdx p=i:=by
  rw [List.findIdx_eq hi]
  exact ⟨hp,fun j hj=>hn j hj⟩
 unfold fstG
 rw [this,if_pos hi]
theorem fstG_not {α:Type} {p:α→Bool} {l:List α} (hn:∀ j (hj:j<l.length),p l[j]=false):fstG p l=-1:=by
 have:l.findIdx p=l.length:=by
  rw [List.findIdx_eq_length]
  intro x hx
  obtain ⟨j,hj,rfl⟩:=List.getElem_of_mem hx
  exact hn j hj
 unfold fstG
 rw [this,if_neg (by omega)]
theorem s122 (X:AX) (hX:XOK Tryz.prog X):PSound Tryz.prog 122 (specF (ι:={x:Tb×Int // tbOK x.1}) (fun x=>[TbV x.1.1,I x.1.2]) fun x=>retOf [I (fstG (fun n=>decide (n.1=x.1.2)) x.1.1.2.1)]):=by
 refine psound_spec hX mixed Tryz.func122 rfl fun ⟨⟨⟨r,ns,ds⟩,f⟩,ht⟩ w0 G=>⟨by show 2≤22;decide,rfl,?_⟩
 show AW ⟨Tryz.prog,X,22,w0,.pure G⟩ _ _ _
 have hc:Cx.OK ⟨Tryz.prog,X,22,w0,.pure G⟩:=⟨hX,mixed⟩
 have hl:ns.length≤1000000:=ht.2.1
 simp only [TbV]
 repeat' (first|(apply aw_seq_k;intro K hK)|(refine eM64o ?_)|(refine aw_cond (b:=_) (by exact rfl) (fun h=>?_) (fun h=>?_)<;>(try simp at h))|(refine eB ?_)|(refine hK _ ?_;clear hK)|(clear hK;refine hK _ ?_;clear hK)|(clear hK;clear hK;refine hK _ ?_;clear hK)|(clear hK;clear hK;clear hK;refine hK _ ?_;clear hK))
 refine aw_loopK (s0:=?lps1) (m0:=?lpm1) (ι:={i:Nat // i≤ns.length∧∀ j,j<i→¬ (gn ns j).1=f}) [1,2,8] (fun i=>[(9,I i.1)]) (fun _=>[]) (fun i=>ns.length - i.1) ⟨0,by omega,by omega⟩ ?lhs1 ?lhm1 ?_ ?_
 case lhs1=>first|(simp [keepS];done)|(simp [keepS];rfl)
 case lhm1=>first|rfl|(simp;done)|(simp;rfl)
 ·exact dle
 ·rintro ⟨i,hi,hinv⟩
  simp only
  rcases Decidable.em (i<ns.length) with hil|hil
  ·have hilI:(i:Int)<(ns.length:Int):=by omega
   have hg:=nrows_gi hil
   have hgE:=nrows_gE hil
   have hat:=fstG_at (p:=fun n:Nd=>decide (n.1=f)) hil
   rw [← gn_eq hil] at hat
   obtain ⟨⟨g,ws⟩,hm⟩:∃ m,m=gn ns i:=⟨_,rfl⟩
   rw [← hm] at hg hgE hat
   simp only at hg hgE hat
   rcases Decidable.em (g=f) with h1|h1
   ·subst h1
    have e:=hat (by simp) fun j hj=>by
     have:=hinv j hj
     rw [gn_eq (by omega)] at this
     simpa using this
    have zS:=jj hilI<|jj hg<|hgE
    repeat' (first|(apply aw_seq_k;intro K hK)|(refine eM64 ?_)|(refine aw_cond (b:=_) (by exact rfl) (fun h=>?_) (fun h=>?_)<;>(try simp at h))|(refine eB ?_)|(refine hK _ ?_;clear hK)|(clear hK;refine hK _ ?_;clear hK)|(clear hK;clear hK;refine hK _ ?_;clear hK)|(clear hK;clear hK;clear hK;refine hK _ ?_;clear hK))
    all_goals clear zS
    refine ⟨by simp,?_⟩
    simp [leaves_iff,Tryz.f122,e]
    try exact dt
   ·have zS:=jj hilI<|jj hg<|jj hgE<|h1
    repeat' (first|(apply aw_seq_k;intro K hK)|(refine eM64 ?_)|(refine aw_cond (b:=_) (by exact rfl) (fun h=>?_) (fun h=>?_)<;>(try simp at h))|(refine eB ?_)|(refine hK _ ?_;clear hK)|(clear hK;refine hK _ ?_;clear hK)|(clear hK;clear hK;refine hK _ ?_;clear hK)|(clear hK;clear hK;clear hK;refine hK _ ?_;clear hK))
    all_goals clear zS
    refine ⟨i+1,?_,⟨by omega,fun j hj=>?_⟩,by omega⟩
    ·exact dle
    ·rcases Nat.lt_succ_iff_lt_or_eq.1 hj with h2|rfl
     ·exact hinv j h2
     ·rw [← hm];exact h1
  ·obtain rfl:i=ns.length:=by omega
   have e:fstG (fun n:Nd=>decide (n.1=f)) ns=-1:=fstG_not fun j hj=>by
    have:=hinv j hj
    rw [gn_eq hj] at this
    simpa using this
   repeat' (first|(apply aw_seq_k;intro K hK)|(refine eM64o ?_)|(refine aw_cond (b:=_) (by exact rfl) (fun h=>?_) (fun h=>?_)<;>(try simp at h))|(refine eB ?_)|(refine hK _ ?_;clear hK)|(clear hK;refine hK _ ?_;clear hK)|(clear hK;clear hK;refine hK _ ?_;clear hK)|(clear hK;clear hK;clear hK;refine hK _ ?_;clear hK))
   refine ⟨by simp,?_⟩
   simp [leaves_iff,Tryz.f122,e]
   try exact dt
theorem s124 (X:AX) (hX:XOK Tryz.prog X):PSound Tryz.prog 124 (specF (ι:={x:Tb×Int // tbOK x.1}) (fun x=>[TbV x.1.1,I x.1.2]) fun x=>retOf [I (fstG (fun n=>decide (n.1=x.1.2)) x.1.1.2.2)]):=by
 refine psound_spec hX mixed Tryz.func124 rfl fun ⟨⟨⟨r,ns,ds⟩,f⟩,ht⟩ w0 G=>⟨by show 2≤22;decide,rfl,?_⟩
 show AW ⟨Tryz.prog,X,22,w0,.pure G⟩ _ _ _
 have hc:Cx.OK ⟨Tryz.prog,X,22,w0,.pure G⟩:=⟨hX,mixed⟩
 have hl:ds.length≤1000000:=ht.2.2
 simp only [TbV]
 repeat' (first|(apply aw_seq_k;intro K hK)|(refine eM64o ?_)|(refine aw_cond (b:=_) (by exact rfl) (fun h=>?_) (fun h=>?_)<;>(try simp at h))|(refine eB ?_)|(refine hK _ ?_;clear hK)|(clear hK;refine hK _ ?_;clear hK)|(clear hK;clear hK;refine hK _ ?_;clear hK)|(clear hK;clear hK;clear hK;refine hK _ ?_;clear hK))
 refine aw_loopK (s0:=?lps2) (m0:=?lpm2) (ι:={i:Nat // i≤ds.length∧∀ j,j<i→¬ (gp ds j).1=f}) [1,2,8] (fun i=>[(9,I i.1)]) (fun _=>[]) (fun i=>ds.length - i.1) ⟨0,by omega,by omega⟩ ?lhs2 ?lhm2 ?_ ?_
 case lhs2=>first|(simp [keepS];done)|(simp [keepS];rfl)
 case lhm2=>first|rfl|(simp;done)|(simp;rfl)
 ·exact dle
 ·rintro ⟨i,hi,hinv⟩
  simp only
  rcases Decidable.em (i<ds.length) with hil|hil
  ·have hilI:(i:Int)<(ds.length:Int):=by omega
   have hg:=prows_gi hil
   have hgE:=prows_gE hil
   have hat:=fstG_at (p:=fun n:Dp=>decide (n.1=f)) hil
   rw [← gp_eq hil] at hat
   obtain ⟨⟨g,ws⟩,hm⟩:∃ m,m=gp ds i:=⟨_,rfl⟩
   rw [← hm] at hg hgE hat
   simp only at hg hgE hat
   rcases Decidable.em (g=f) with h1|h1
   ·subst h1
    have e:=hat (by simp) fun j hj=>by
     have:=hinv j hj
     rw [gp_eq (by omega)] at this
     simpa using this
    have zS:=jj hilI<|jj hg<|hgE
    repeat' (first|(apply aw_seq_k;intro K hK)|(refine eM64 ?_)|(refine aw_cond (b:=_) (by exact rfl) (fun h=>?_) (fun h=>?_)<;>(try simp at h))|(refine eB ?_)|(refine hK _ ?_;clear hK)|(clear hK;refine hK _ ?_;clear hK)|(clear hK;clear hK;refine hK _ ?_;clear hK)|(clear hK;clear hK;clear hK;refine hK _ ?_;clear hK))
    all_goals clear zS
    refine ⟨by simp,?_⟩
    simp [leaves_iff,Tryz.f124,e]
    try exact dt
   ·have zS:=jj hilI<|jj hg<|jj hgE<|h1
    repeat' (first|(apply aw_seq_k;intro K hK)|(refine eM64 ?_)|(refine aw_cond (b:=_) (by exact rfl) (fun h=>?_) (fun h=>?_)<;>(try simp at h))|(refine eB ?_)|(refine hK _ ?_;clear hK)|(clear hK;refine hK _ ?_;clear hK)|(clear hK;clear hK;refine hK _ ?_;clear hK)|(clear hK;clear hK;clear hK;refine hK _ ?_;clear hK))
    all_goals clear zS
    refine ⟨i+1,?_,⟨by omega,fun j hj=>?_⟩,by omega⟩
    ·exact dle
    ·rcases Nat.lt_succ_iff_lt_or_eq.1 hj with h2|rfl
     ·exact hinv j h2
     ·rw [← hm];exact h1
  ·obtain rfl:i=ds.length:=by omega
   have e:fstG (fun n:Dp=>decide (n.1=f)) ds=-1:=fstG_not fun j hj=>by
    have:=hinv j hj
    rw [gp_eq hj] at this
    simpa using this
   repeat' (first|(apply aw_seq_k;intro K hK)|(refine eM64o ?_)|(refine aw_cond (b:=_) (by exact rfl) (fun h=>?_) (fun h=>?_)<;>(try simp at h))|(refine eB ?_)|(refine hK _ ?_;clear hK)|(clear hK;refine hK _ ?_;clear hK)|(clear hK;clear hK;refine hK _ ?_;clear hK)|(clear hK;clear hK;clear hK;refine hK _ ?_;clear hK))
   refine ⟨by simp,?_⟩
   simp [leaves_iff,Tryz.f124,e]
   try exact dt
end Go.AM
namespace Go.AM
open Go Go.Proofs
def frmN (x:Int):Prop:=0≤x∧x≤4294967295
instance (x:Int):Decidable (frmN x):=by unfold frmN;infer_instance
def rngN (ns:List Nd):Prop:=∀ j,j<ns.length→frmN (gn ns j).1
def rngD (ds:List Dp):Prop:=∀ j,j<ds.length→frmN (gp ds j).2∧0≤(gp ds j).1∧(gp ds j).1<64
open Classical in
noncomputable def rngB (t:Tb):Bool:=decide (rngN t.2.1∧rngD t.2.2)
theorem rngB_iff {t:Tb}:rngB t=true↔rngN t.2.1∧rngD t.2.2:=by unfold rngB;simp
theorem rngB_no {t:Tb} (h:¬ (rngN t.2.1∧rngD t.2.2)):rngB t=false:=by
 rw [Bool.eq_false_iff];exact fun hh=>h (rngB_iff.1 hh)
set_option maxHeartbeats 1000000 in
theorem s119 (X:AX) (hX:XOK Tryz.prog X):PSound Tryz.prog 119 (specF (ι:={x:Tb // tbOK x}) (fun x=>[TbV x.1]) fun x=>retOf [B (rngB x.1)]):=by
 refine psound_spec hX mixed Tryz.func119 rfl fun ⟨⟨r,ns,ds⟩,ht⟩ w0 G=>⟨by show 1≤49;decide,rfl,?_⟩
 show AW ⟨Tryz.prog,X,49,w0,.pure G⟩ _ _ _
 have hc:Cx.OK ⟨Tryz.prog,X,49,w0,.pure G⟩:=⟨hX,mixed⟩
 have hl1:ns.length≤1000000:=ht.2.1
 have hl2:ds.length≤1000000:=ht.2.2
 simp only [TbV]
 repeat' (first|(apply aw_seq_k;intro K hK)|(refine eM64o ?_)|(refine aw_cond (b:=_) (by exact rfl) (fun h=>?_) (fun h=>?_)<;>(try simp at h))|(refine eB ?_)|(refine hK _ ?_;clear hK)|(clear hK;refine hK _ ?_;clear hK)|(clear hK;clear hK;refine hK _ ?_;clear hK)|(clear hK;clear hK;clear hK;refine hK _ ?_;clear hK))
 refine aw_loopK (s0:=?lps1) (m0:=?lpm1) (ι:={i:Nat // i≤ns.length∧∀ j,j<i→frmN (gn ns j).1}) [1,8,9] (fun i=>[(10,I i.1)]) (fun _=>[]) (fun i=>ns.length - i.1) ⟨0,by omega,by omega⟩ ?lhs1 ?lhm1 ?_ ?_
 case lhs1=>first|(simp [keepS];done)|(simp [keepS];rfl)
 case lhm1=>first|rfl|(simp;done)|(simp;rfl)
 ·exact dle
 ·rintro ⟨i,hi,hinv⟩
  simp only
  rcases Decidable.em (i<ns.length) with hil|hil
  ·have hilI:(i:Int)<(ns.length:Int):=by omega
   have hg:=nrows_gi hil
   have hgE:=nrows_gE hil
   have hno:¬ frmN (gn ns i).1→rngB (r,ns,ds)=false:=fun h=>rngB_no fun h2=>h (h2.1 i hil)
   have hlen:=(ht.1 _ (gn_mem hil)).1
   obtain ⟨⟨g,ws⟩,hm⟩:∃ m,m=gn ns i:=⟨_,rfl⟩
   rw [← hm] at hg hgE hno hlen
   simp only [frmN] at hg hgE hno hlen
   rcases Decidable.em (g<0) with h1|h1
   ·have zS:=jj hilI<|jj hg<|jj hgE<|jj h1<|hlen
    repeat' (first|(apply aw_seq_k;intro K hK)|(refine eM64 ?_)|(refine aw_cond (b:=_) (by exact rfl) (fun h=>?_) (fun h=>?_)<;>(try simp at h))|(refine eB ?_)|(refine hK _ ?_;clear hK)|(clear hK;refine hK _ ?_;clear hK)|(clear hK;clear hK;refine hK _ ?_;clear hK)|(clear hK;clear hK;clear hK;refine hK _ ?_;clear hK))
    all_goals clear zS
    refine ⟨by simp,?_⟩
    simp [leaves_iff,Tryz.f119,hno (by omega)]
    try exact dt
   ·rcases Decidable.em (4294967295<g) with h2|h2
    ·have zS:=jj hilI<|jj hg<|jj hgE<|jj h1<|jj h2<|hlen
     repeat' (first|(apply aw_seq_k;intro K hK)|(refine eM64 ?_)|(refine aw_cond (b:=_) (by exact rfl) (fun h=>?_) (fun h=>?_)<;>(try simp at h))|(refine eB ?_)|(refine hK _ ?_;clear hK)|(clear hK;refine hK _ ?_;clear hK)|(clear hK;clear hK;refine hK _ ?_;clear hK)|(clear hK;clear hK;clear hK;refine hK _ ?_;clear hK))
     all_goals clear zS
     refine ⟨by simp,?_⟩
     simp [leaves_iff,Tryz.f119,hno (by omega)]
     try exact dt
    ·have zS:=jj hilI<|jj hg<|jj hgE<|jj h1<|jj h2<|hlen
     repeat' (first|(apply aw_seq_k;intro K hK)|(refine eM64 ?_)|(refine aw_cond (b:=_) (by exact rfl) (fun h=>?_) (fun h=>?_)<;>(try simp at h))|(refine eB ?_)|(refine hK _ ?_;clear hK)|(clear hK;refine hK _ ?_;clear hK)|(clear hK;clear hK;refine hK _ ?_;clear hK)|(clear hK;clear hK;clear hK;refine hK _ ?_;clear hK))
     all_goals clear zS
     refine ⟨i+1,?_,⟨by omega,fun j hj=>?_⟩,by omega⟩
     ·exact dle
     ·rcases Nat.lt_succ_iff_lt_or_eq.1 hj with h3|rfl
      ·exact hinv j h3
      ·rw [← hm];unfold frmN;simp only;omega
  ·obtain rfl:i=ns.length:=by omega
   repeat' (first|(apply aw_seq_k;intro K hK)|(refine eM64o ?_)|(refine aw_cond (b:=_) (by exact rfl) (fun h=>?_) (fun h=>?_)<;>(try simp at h))|(refine eB ?_)|(refine hK _ ?_;clear hK)|(clear hK;refine hK _ ?_;clear hK)|(clear hK;clear hK;refine hK _ ?_;clear hK)|(clear hK;clear hK;clear hK;refine hK _ ?_;clear hK))
   refine aw_loopK (s0:=?lps2) (m0:=?lpm2) (ι:={i:Nat // i≤ds.length∧∀ j,j<i→frmN (gp ds j).2∧0≤(gp ds j).1∧(gp ds j).1<64}) [24,25] (fun i=>[(26,I i.1)]) (fun _=>[]) (fun i=>ds.length - i.1) ⟨0,by omega,by omega⟩ ?lhs2 ?lhm2 ?_ ?_
   case lhs2=>first|(simp [keepS];done)|(simp [keepS];rfl)
   case lhm2=>first|rfl|(simp;done)|(simp;rfl)
   ·exact dle
   ·rintro ⟨i,hi2,hinv2⟩
    simp only
    rcases Decidable.em (i<ds.length) with hil2|hil2
    ·have hilI2:(i:Int)<(ds.length:Int):=by omega
     have hg:=prows_gi hil2
     have hgE:=prows_gE hil2
     have hno:¬ (frmN (gp ds i).2∧0≤(gp ds i).1∧(gp ds i).1<64)→rngB (r,ns,ds)=false:=fun h=>rngB_no fun h2=>h (h2.2 i hil2)
     obtain ⟨⟨a,b⟩,hm⟩:∃ m,m=gp ds i:=⟨_,rfl⟩
     rw [← hm] at hg hgE hno
     simp only [frmN] at hg hgE hno
     rcases Decidable.em (b<0) with h1|h1
     ·have zS:=jj hilI2<|jj hg<|jj hgE<|h1
      repeat' (first|(apply aw_seq_k;intro K hK)|(refine eM64 ?_)|(refine aw_cond (b:=_) (by exact rfl) (fun h=>?_) (fun h=>?_)<;>(try simp at h))|(refine eB ?_)|(refine hK _ ?_;clear hK)|(clear hK;refine hK _ ?_;clear hK)|(clear hK;clear hK;refine hK _ ?_;clear hK)|(clear hK;clear hK;clear hK;refine hK _ ?_;clear hK))
      all_goals clear zS
      refine ⟨by simp,?_⟩
      simp [leaves_iff,Tryz.f119,hno (by omega)]
      try exact dt
     ·rcases Decidable.em (4294967295<b) with h2|h2
      ·have zS:=jj hilI2<|jj hg<|jj hgE<|jj h1<|h2
       repeat' (first|(apply aw_seq_k;intro K hK)|(refine eM64 ?_)|(refine aw_cond (b:=_) (by exact rfl) (fun h=>?_) (fun h=>?_)<;>(try simp at h))|(refine eB ?_)|(refine hK _ ?_;clear hK)|(clear hK;refine hK _ ?_;clear hK)|(clear hK;clear hK;refine hK _ ?_;clear hK)|(clear hK;clear hK;clear hK;refine hK _ ?_;clear hK))
       all_goals clear zS
       refine ⟨by simp,?_⟩
       simp [leaves_iff,Tryz.f119,hno (by omega)]
       try exact dt
      ·rcases Decidable.em (a<0) with h3|h3
       ·have zS:=jj hilI2<|jj hg<|jj hgE<|jj h1<|jj h2<|h3
        repeat' (first|(apply aw_seq_k;intro K hK)|(refine eM64 ?_)|(refine aw_cond (b:=_) (by exact rfl) (fun h=>?_) (fun h=>?_)<;>(try simp at h))|(refine eB ?_)|(refine hK _ ?_;clear hK)|(clear hK;refine hK _ ?_;clear hK)|(clear hK;clear hK;refine hK _ ?_;clear hK)|(clear hK;clear hK;clear hK;refine hK _ ?_;clear hK))
        all_goals clear zS
        refine ⟨by simp,?_⟩
        simp [leaves_iff,Tryz.f119,hno (by omega)]
        try exact dt
       ·rcases Decidable.em (64≤a) with h4|h4
        ·have zS:=jj hilI2<|jj hg<|jj hgE<|jj h1<|jj h2<|jj h3<|h4
         repeat' (first|(apply aw_seq_k;intro K hK)|(refine eM64 ?_)|(refine aw_cond (b:=_) (by exact rfl) (fun h=>?_) (fun h=>?_)<;>(try simp at h))|(refine eB ?_)|(refine hK _ ?_;clear hK)|(clear hK;refine hK _ ?_;clear hK)|(clear hK;clear hK;refine hK _ ?_;clear hK)|(clear hK;clear hK;clear hK;refine hK _ ?_;clear hK))
         all_goals clear zS
         refine ⟨by simp,?_⟩
         simp [leaves_iff,Tryz.f119,hno (by omega)]
         try exact dt
        ·have zS:=jj hilI2<|jj hg<|jj hgE<|jj h1<|jj h2<|jj h3<|h4
         repeat' (first|(apply aw_seq_k;intro K hK)|(refine eM64 ?_)|(refine aw_cond (b:=_) (by exact rfl) (fun h=>?_) (fun h=>?_)<;>(try simp at h))|(refine eB ?_)|(refine hK _ ?_;clear hK)|(clear hK;refine hK _ ?_;clear hK)|(clear hK;clear hK;refine hK _ ?_;clear hK)|(clear hK;clear hK;clear hK;refine hK _ ?_;clear hK))
         all_goals clear zS
         refine ⟨i+1,?_,⟨by omega,fun j hj=>?_⟩,by omega⟩
         ·exact dle
         ·rcases Nat.lt_succ_iff_lt_or_eq.1 hj with h5|rfl
          ·exact hinv2 j h5
          ·rw [← hm];unfold frmN;simp only;omega
    ·obtain rfl:i=ds.length:=by omega
     have e:rngB (r,ns,ds)=true:=rngB_iff.2 ⟨fun j hj=>hinv j hj,fun j hj=>hinv2 j hj⟩
     repeat' (first|(apply aw_seq_k;intro K hK)|(refine eM64o ?_)|(refine aw_cond (b:=_) (by exact rfl) (fun h=>?_) (fun h=>?_)<;>(try simp at h))|(refine eB ?_)|(refine hK _ ?_;clear hK)|(clear hK;refine hK _ ?_;clear hK)|(clear hK;clear hK;refine hK _ ?_;clear hK)|(clear hK;clear hK;clear hK;refine hK _ ?_;clear hK))
     refine ⟨by simp,?_⟩
     simp [leaves_iff,Tryz.f119,e]
     try exact dt
end Go.AM
namespace Go.AM
open Go Go.Proofs
open Classical in
noncomputable def ascB (t:Tb):Bool:=decide ((∀ j,j+1<t.2.1.length→(gn t.2.1 j).1<(gn t.2.1 (j+1)).1)∧∀ j,j+1<t.2.2.length→(gp t.2.2 j).1<(gp t.2.2 (j+1)).1)
theorem ascB_iff {t:Tb}:ascB t=true↔(∀ j,j+1<t.2.1.length→(gn t.2.1 j).1<(gn t.2.1 (j+1)).1)∧∀ j,j+1<t.2.2.length→(gp t.2.2 j).1<(gp t.2.2 (j+1)).1:=by unfold ascB;simp
theorem ascB_no {t:Tb} (h:¬ ((∀ j,j+1<t.2.1.length→(gn t.2.1 j).1<(gn t.2.1 (j+1)).1)∧∀ j,j+1<t.2.2.length→(gp t.2.2 j).1<(gp t.2.2 (j+1)).1)):ascB t=false:=by
 rw [Bool.eq_false_iff];exact fun hh=>h (ascB_iff.1 hh)
set_option maxHeartbeats 2000000 in
theorem s120 (X:AX) (hX:XOK Tryz.prog X) (hw:X.W wT):PSound Tryz.prog 120 (specF (ι:={x:Tb // tbOK x}) (fun x=>[TbV x.1]) fun x=>retOf [B (ascB x.1)]):=by
 refine psound_spec hX mixed Tryz.func120 rfl fun ⟨⟨r,ns,ds⟩,ht⟩ w0 G=>⟨by show 1≤47;decide,rfl,?_⟩
 show AW ⟨Tryz.prog,X,47,w0,.pure G⟩ _ _ _
 have hc:Cx.OK ⟨Tryz.prog,X,47,w0,.pure G⟩:=⟨hX,mixed⟩
 have hl1:ns.length≤1000000:=ht.2.1
 have hl2:ds.length≤1000000:=ht.2.2
 simp only [TbV]
 repeat' (first|(apply aw_seq_k;intro K hK)|(refine eM64o ?_)|(refine aw_cond (b:=_) (by exact rfl) (fun h=>?_) (fun h=>?_)<;>(try simp at h))|(refine eB ?_)|(refine hK _ ?_;clear hK)|(clear hK;refine hK _ ?_;clear hK)|(clear hK;clear hK;refine hK _ ?_;clear hK)|(clear hK;clear hK;clear hK;refine hK _ ?_;clear hK))
 refine aw_loopK (s0:=?lps1) (m0:=?lpm1) (ι:={k:Nat // k≤ns.length∧∀ j,j<k→(gn ns j).1<(gn ns (j+1)).1}) [1] (fun k=>[(3,I ((k.1:Int)+1))]) (fun _=>[]) (fun k=>ns.length - k.1) ⟨0,by omega,by omega⟩ ?lhs1 ?lhm1 ?_ ?_
 case lhs1=>first|(simp [keepS];done)|(simp [keepS];rfl)
 case lhm1=>first|rfl|(simp;done)|(simp;rfl)
 ·exact dle
 ·rintro ⟨k,hk,hinv⟩
  simp only
  rcases Decidable.em (k+1<ns.length) with hil|hil
  ·have hilI:(k:Int)+1<(ns.length:Int):=by omega
   have hk1:k<ns.length:=by omega
   have hk1I:(k:Int)<(ns.length:Int):=by omega
   have hg:=nrows_gi hil
   have hgE:=nrows_gE hil
   have hg2:=nrows_gi hk1
   have hgE2:=nrows_gE hk1
   have hno:¬ (gn ns k).1<(gn ns (k+1)).1→ascB (r,ns,ds)=false:=fun h=>ascB_no fun h2=>h (h2.1 k hil)
   obtain ⟨⟨a,b⟩,hm⟩:∃ m,m=gn ns (k+1):=⟨_,rfl⟩
   obtain ⟨⟨c,d⟩,hm2⟩:∃ m,m=gn ns k:=⟨_,rfl⟩
   rw [← hm] at hg hgE hno
   rw [← hm2] at hg2 hgE2 hno
   simp only at hg hgE hg2 hgE2 hno
   rcases Decidable.em (a≤c) with h1|h1
   ·have zS:=jj hil<|jj hilI<|jj hk1<|jj hk1I<|jj hg<|jj hgE<|jj hg2<|jj hgE2<|h1
    repeat' (first|(apply aw_seq_k;intro K hK)|(refine eM64 ?_)|(refine aw_cond (b:=_) (by exact rfl) (fun h=>?_) (fun h=>?_)<;>(try simp at h))|(refine eB ?_)|(refine hK _ ?_;clear hK)|(clear hK;refine hK _ ?_;clear hK)|(clear hK;clear hK;refine hK _ ?_;clear hK)|(clear hK;clear hK;clear hK;refine hK _ ?_;clear hK))
    all_goals clear zS
    refine ⟨by simp,?_⟩
    simp [leaves_iff,Tryz.f120,hno (by omega)]
    try exact dt
   ·have zS:=jj hil<|jj hilI<|jj hk1<|jj hk1I<|jj hg<|jj hgE<|jj hg2<|jj hgE2<|h1
    repeat' (first|(apply aw_seq_k;intro K hK)|(refine eM64 ?_)|(refine aw_cond (b:=_) (by exact rfl) (fun h=>?_) (fun h=>?_)<;>(try simp at h))|(refine eB ?_)|(refine hK _ ?_;clear hK)|(clear hK;refine hK _ ?_;clear hK)|(clear hK;clear hK;refine hK _ ?_;clear hK)|(clear hK;clear hK;clear hK;refine hK _ ?_;clear hK))
    all_goals clear zS
    refine ⟨k+1,?_,⟨by omega,fun j hj=>?_⟩,by omega⟩
    ·exact dle
    ·rcases Nat.lt_succ_iff_lt_or_eq.1 hj with h3|rfl
     ·exact hinv j h3
     ·rw [← hm,← hm2];simp only;omega
  ·have hilI:¬ (k:Int)+1<(ns.length:Int):=by omega
   clear hilI
   have hend:∀ j,j+1<ns.length→j<k:=fun j hj=>by omega
   have hordN:∀ j,j+1<ns.length→(gn ns j).1<(gn ns (j+1)).1:=fun j hj=>hinv j (hend j hj)
   have hilI:¬ (k:Int)+1<(ns.length:Int):=by omega
   have zS:=jj hil<|hilI
   repeat' (first|(apply aw_seq_k;intro K hK)|(refine eM64 ?_)|(refine aw_cond (b:=_) (by exact rfl) (fun h=>?_) (fun h=>?_)<;>(try simp at h))|(refine eB ?_)|(refine hK _ ?_;clear hK)|(clear hK;refine hK _ ?_;clear hK)|(clear hK;clear hK;refine hK _ ?_;clear hK)|(clear hK;clear hK;clear hK;refine hK _ ?_;clear hK))
   all_goals clear zS
   refine aw_loopK (s0:=?lps2) (m0:=?lpm2) (ι:={k:Nat // k≤ds.length∧∀ j,j<k→(gp ds j).1<(gp ds (j+1)).1}) [1] (fun k=>[(4,I ((k.1:Int)+1))]) (fun _=>[]) (fun k=>ds.length - k.1) ⟨0,by omega,by omega⟩ ?lhs2 ?lhm2 ?_ ?_
   case lhs2=>first|(simp [keepS];done)|(simp [keepS];rfl)
   case lhm2=>first|rfl|(simp;done)|(simp;rfl)
   ·exact dle
   ·rintro ⟨k2,hk2,hinv2⟩
    simp only
    rcases Decidable.em (k2+1<ds.length) with hilb|hilb
    ·have hilbI:(k2:Int)+1<(ds.length:Int):=by omega
     have hk3:k2<ds.length:=by omega
     have hk3I:(k2:Int)<(ds.length:Int):=by omega
     have hg:=prows_gi hilb
     have hgE:=prows_gE hilb
     have hg2:=prows_gi hk3
     have hgE2:=prows_gE hk3
     have hno:¬ (gp ds k2).1<(gp ds (k2+1)).1→ascB (r,ns,ds)=false:=fun h=>ascB_no fun h2=>h (h2.2 k2 hilb)
     obtain ⟨⟨a,b⟩,hm⟩:∃ m,m=gp ds (k2+1):=⟨_,rfl⟩
     obtain ⟨⟨c,d⟩,hm2⟩:∃ m,m=gp ds k2:=⟨_,rfl⟩
     rw [← hm] at hg hgE hno
     rw [← hm2] at hg2 hgE2 hno
     simp only at hg hgE hg2 hgE2 hno
     rcases Decidable.em (a≤c) with h1|h1
     ·have zS:=jj hilb<|jj hilbI<|jj hk3<|jj hk3I<|jj hg<|jj hgE<|jj hg2<|jj hgE2<|h1
      repeat' (first|(apply aw_seq_k;intro K hK)|(refine eM64 ?_)|(refine aw_cond (b:=_) (by exact rfl) (fun h=>?_) (fun h=>?_)<;>(try simp at h))|(refine eB ?_)|(refine hK _ ?_;clear hK)|(clear hK;refine hK _ ?_;clear hK)|(clear hK;clear hK;refine hK _ ?_;clear hK)|(clear hK;clear hK;clear hK;refine hK _ ?_;clear hK))
      all_goals clear zS
      refine ⟨by simp,?_⟩
      simp [leaves_iff,Tryz.f120,hno (by omega)]
      try exact dt
     ·have zS:=jj hilb<|jj hilbI<|jj hk3<|jj hk3I<|jj hg<|jj hgE<|jj hg2<|jj hgE2<|h1
      repeat' (first|(apply aw_seq_k;intro K hK)|(refine eM64 ?_)|(refine aw_cond (b:=_) (by exact rfl) (fun h=>?_) (fun h=>?_)<;>(try simp at h))|(refine eB ?_)|(refine hK _ ?_;clear hK)|(clear hK;refine hK _ ?_;clear hK)|(clear hK;clear hK;refine hK _ ?_;clear hK)|(clear hK;clear hK;clear hK;refine hK _ ?_;clear hK))
      all_goals clear zS
      refine ⟨k2+1,?_,⟨by omega,fun j hj=>?_⟩,by omega⟩
      ·exact dle
      ·rcases Nat.lt_succ_iff_lt_or_eq.1 hj with h3|rfl
       ·exact hinv2 j h3
       ·rw [← hm,← hm2];simp only;omega
    ·have hilbI:¬ (k2:Int)+1<(ds.length:Int):=by omega
     have e:ascB (r,ns,ds)=true:=ascB_iff.2 ⟨hordN,fun j hj=>hinv2 j (by have:j+1<ds.length:=hj;omega)⟩
     have zS:=jj hilb<|hilbI
     repeat' (first|(apply aw_seq_k;intro K hK)|(refine eM64 ?_)|(refine aw_cond (b:=_) (by exact rfl) (fun h=>?_) (fun h=>?_)<;>(try simp at h))|(refine eB ?_)|(refine hK _ ?_;clear hK)|(clear hK;refine hK _ ?_;clear hK)|(clear hK;clear hK;refine hK _ ?_;clear hK)|(clear hK;clear hK;clear hK;refine hK _ ?_;clear hK))
     all_goals clear zS
     refine ⟨by simp,?_⟩
     simp [leaves_iff,Tryz.f120,e]
     try exact dt
end Go.AM
namespace Go.AM
open Go Go.Proofs
theorem fstG_pos {α:Type} {p:α→Bool} {l:List α}:0≤fstG p l↔∃ j,∃ h:j<l.length,p l[j]=true:=by
 constructor
 ·intro h
  unfold fstG at h
  split at h
  ·rename_i hl
   exact ⟨_,hl,List.findIdx_getElem⟩
  ·omega
 ·rintro ⟨j,hj,hp⟩
  have:l.findIdx p<l.length:=List.findIdx_lt_length_of_exists ⟨_,List.getElem_mem hj,hp⟩
  unfold fstG
  rw [if_pos this];omega
theorem prows_take (l:List Dp) (n:Nat):(prows l).take n=prows (l.take n):=by simp [prows,List.map_take]
def twN (t:Tb) (i:Nat):Prop:=(∃ j,j<t.2.1.length∧(gn t.2.1 j).1=(gp t.2.2 i).2)∨∃ j,j<i∧(gp t.2.2 j).2=(gp t.2.2 i).2
open Classical in
noncomputable def twB (t:Tb):Bool:=decide (∃ i,i<t.2.2.length∧twN t i)
theorem twB_iff {t:Tb}:twB t=true↔∃ i,i<t.2.2.length∧twN t i:=by unfold twB;simp
theorem twB_no {t:Tb} (h:∀ i,i<t.2.2.length→¬ twN t i):twB t=false:=by
 rw [Bool.eq_false_iff]
 intro hh
 obtain ⟨i,hi,h2⟩:=twB_iff.1 hh
 exact h i hi h2
set_option maxHeartbeats 2000000 in
theorem s121 (X:AX) (hX:XOK Tryz.prog X) (hw:X.W wT) (hfi:∀ (t:Tb) f,tbOK t→∀ M n,X.call 122 [TbV t,I f] M n=some (I (fstG (fun n=>decide (n.1=f)) t.2.1),[])) :
  PSound Tryz.prog 121 (specF (ι:={x:Tb // tbOK x}) (fun x=>[TbV x.1]) fun x=>retOf [B (twB x.1)]):=by
 refine psound_spec hX mixed Tryz.func121 rfl fun ⟨⟨r,ns,ds⟩,ht⟩ w0 G=>⟨by show 1≤36;decide,rfl,?_⟩
 show AW ⟨Tryz.prog,X,36,w0,.pure G⟩ _ _ _
 have hc:Cx.OK ⟨Tryz.prog,X,36,w0,.pure G⟩:=⟨hX,mixed⟩
 have hl1:ns.length≤1000000:=ht.2.1
 have hl2:ds.length≤1000000:=ht.2.2
 have hfi':=fun f=>hfi (r,ns,ds) f ht
 simp only [TbV] at hfi' ⊢
 repeat' (first|(apply aw_seq_k;intro K hK)|(refine eM64o ?_)|(refine aw_cond (b:=_) (by exact rfl) (fun h=>?_) (fun h=>?_)<;>(try simp at h))|(refine eB ?_)|(refine hK _ ?_;clear hK)|(clear hK;refine hK _ ?_;clear hK)|(clear hK;clear hK;refine hK _ ?_;clear hK)|(clear hK;clear hK;clear hK;refine hK _ ?_;clear hK))
 refine aw_loopK (s0:=?lps1) (m0:=?lpm1) (ι:={i:Nat // i≤ds.length∧∀ j,j<i→¬ twN (r,ns,ds) j}) [1,8,9] (fun i=>[(10,I i.1)]) (fun _=>[]) (fun i=>ds.length - i.1) ⟨0,by omega,by omega⟩ ?lhs1 ?lhm1 ?_ ?_
 case lhs1=>first|(simp [keepS];done)|(simp [keepS];rfl)
 case lhm1=>first|rfl|(simp;done)|(simp;rfl)
 ·exact dle
 ·rintro ⟨i,hi,hinv⟩
  simp only
  rcases Decidable.em (i<ds.length) with hil|hil
  ·have hilI:(i:Int)<(ds.length:Int):=by omega
   have hg:=prows_gi hil
   have hgE:=prows_gE hil
   have hyes:twN (r,ns,ds) i→twB (r,ns,ds)=true:=fun h=>twB_iff.2 ⟨i,hil,h⟩
   have htw:∀ b,b=(gp ds i).2→(twN (r,ns,ds) i↔(0≤fstG (fun n:Nd=>decide (n.1=b)) ns)∨∃ j,j<i∧(gp ds j).2=b):=fun b hb=>by
    subst hb
    unfold twN
    rw [fstG_pos]
    refine or_congr_left ?_
    constructor
    ·rintro ⟨j,hj,e⟩
     exact ⟨j,hj,by rw [← gn_eq hj];simpa using e⟩
    ·rintro ⟨j,hj,e⟩
     exact ⟨j,hj,by rw [gn_eq hj];simpa using e⟩
   obtain ⟨⟨a,b⟩,hm⟩:∃ m,m=gp ds i:=⟨_,rfl⟩
   rw [← hm] at hg hgE
   have htb:=htw b (by rw [← hm])
   simp only at hg hgE
   have hfb:=hfi' b
   obtain ⟨q,hq⟩:∃ q,q=fstG (fun n:Nd=>decide (n.1=b)) ns:=⟨_,rfl⟩
   rw [← hq] at hfb htb
   rcases Decidable.em (0≤q) with h1|h1
   ·have e:=hyes (htb.2 (.inl h1))
    have zS:=jj hilI<|jj hg<|jj hgE<|jj hfb<|h1
    repeat' (first|(apply aw_seq_k;intro K hK)|(refine eM64 ?_)|(refine aw_cond (b:=_) (by exact rfl) (fun h=>?_) (fun h=>?_)<;>(try simp at h))|(refine eB ?_)|(refine hK _ ?_;clear hK)|(clear hK;refine hK _ ?_;clear hK)|(clear hK;clear hK;refine hK _ ?_;clear hK)|(clear hK;clear hK;clear hK;refine hK _ ?_;clear hK))
    all_goals clear zS
    refine ⟨by simp,?_⟩
    simp [leaves_iff,Tryz.f121,e]
    try exact dt
   ·have hlt:(ds.take i).length=i:=by simp;omega
    have zS:=jj hilI<|jj hg<|jj hgE<|jj hfb<|jj h1<|jj @prows_take<|hi
    repeat' (first|(apply aw_seq_k;intro K hK)|(refine eM64 ?_)|(refine aw_cond (b:=_) (by exact rfl) (fun h=>?_) (fun h=>?_)<;>(try simp at h))|(refine eB ?_)|(refine hK _ ?_;clear hK)|(clear hK;refine hK _ ?_;clear hK)|(clear hK;clear hK;refine hK _ ?_;clear hK)|(clear hK;clear hK;clear hK;refine hK _ ?_;clear hK))
    all_goals clear zS
    obtain ⟨E,hE⟩:∃ E,E=ds.take i:=⟨_,rfl⟩
    rw [← hE] at hlt
    rw [← hE]
    have hEg:∀ j,j<i→gp E j=gp ds j:=fun j hj=>by
     rw [gp_eq (by omega),gp_eq (by omega)]
     subst hE
     exact List.getElem_take
    refine aw_loopK (s0:=?lps2) (m0:=?lpm2) (ι:={j:Nat // j≤i∧∀ k,k<j→¬ (gp ds k).2=b}) [1,4,8,9,10,23,24] (fun j=>[(25,I j.1)]) (fun _=>[]) (fun j=>i - j.1) ⟨0,by omega,by omega⟩ ?lhs2 ?lhm2 ?_ ?_
    case lhs2=>first|(simp [keepS];done)|(simp [keepS];rfl)
    case lhm2=>first|rfl|(simp;done)|(simp;rfl)
    ·exact dle
    ·rintro ⟨j,hj,hinv2⟩
     simp only
     rcases Decidable.em (j<i) with hjl|hjl
     ·have hjI:(j:Int)<(i:Int):=by omega
      have hg2:=prows_gi (l:=E) (n:=j) (by omega)
      have hgE2:=prows_gE (l:=E) (n:=j) (by omega)
      rw [hEg j hjl] at hg2 hgE2
      obtain ⟨⟨c,d⟩,hm2⟩:∃ m,m=gp ds j:=⟨_,rfl⟩
      rw [← hm2] at hg2 hgE2
      simp only at hg2 hgE2
      rcases Decidable.em (d=b) with h2|h2
      ·have e:=hyes (htb.2 (.inr ⟨j,hjl,by rw [← hm2];exact h2⟩))
       subst h2
       have zS:=jj hjl<|jj hjI<|jj hlt<|jj hg2<|hgE2
       repeat' (first|(apply aw_seq_k;intro K hK)|(refine eM64 ?_)|(refine aw_cond (b:=_) (by exact rfl) (fun h=>?_) (fun h=>?_)<;>(try simp at h))|(refine eB ?_)|(refine hK _ ?_;clear hK)|(clear hK;refine hK _ ?_;clear hK)|(clear hK;clear hK;refine hK _ ?_;clear hK)|(clear hK;clear hK;clear hK;refine hK _ ?_;clear hK))
       all_goals clear zS
       refine ⟨by simp,?_⟩
       simp [leaves_iff,Tryz.f121,e]
       try exact dt
      ·have zS:=jj hjl<|jj hjI<|jj hlt<|jj hg2<|jj hgE2<|h2
       repeat' (first|(apply aw_seq_k;intro K hK)|(refine eM64 ?_)|(refine aw_cond (b:=_) (by exact rfl) (fun h=>?_) (fun h=>?_)<;>(try simp at h))|(refine eB ?_)|(refine hK _ ?_;clear hK)|(clear hK;refine hK _ ?_;clear hK)|(clear hK;clear hK;refine hK _ ?_;clear hK)|(clear hK;clear hK;clear hK;refine hK _ ?_;clear hK))
       all_goals clear zS
       refine ⟨j+1,?_,⟨by omega,fun k hk=>?_⟩,by omega⟩
       ·exact dle
       ·rcases Nat.lt_succ_iff_lt_or_eq.1 hk with h3|rfl
        ·exact hinv2 k h3
        ·rw [← hm2];exact h2
     ·obtain rfl:j=i:=by omega
      have hjI:¬ (j:Int)<(j:Int):=by omega
      have zS:=hjI
      repeat' (first|(apply aw_seq_k;intro K hK)|(refine eM64 ?_)|(refine aw_cond (b:=_) (by exact rfl) (fun h=>?_) (fun h=>?_)<;>(try simp at h))|(refine eB ?_)|(refine hK _ ?_;clear hK)|(clear hK;refine hK _ ?_;clear hK)|(clear hK;clear hK;refine hK _ ?_;clear hK)|(clear hK;clear hK;clear hK;refine hK _ ?_;clear hK))
      all_goals clear zS
      refine ⟨j+1,?_,⟨by omega,fun k hk=>?_⟩,by omega⟩
      ·exact dle
      ·rcases Nat.lt_succ_iff_lt_or_eq.1 hk with h3|rfl
       ·exact hinv k h3
       ·rw [htb]
        rintro (h4|⟨k2,h4,h5⟩)
        ·exact h1 h4
        ·exact hinv2 k2 h4 h5
  ·obtain rfl:i=ds.length:=by omega
   have e:twB (r,ns,ds)=false:=twB_no fun j hj=>hinv j hj
   repeat' (first|(apply aw_seq_k;intro K hK)|(refine eM64o ?_)|(refine aw_cond (b:=_) (by exact rfl) (fun h=>?_) (fun h=>?_)<;>(try simp at h))|(refine eB ?_)|(refine hK _ ?_;clear hK)|(clear hK;refine hK _ ?_;clear hK)|(clear hK;clear hK;refine hK _ ?_;clear hK)|(clear hK;clear hK;clear hK;refine hK _ ?_;clear hK))
   refine ⟨by simp,?_⟩
   simp [leaves_iff,Tryz.f121,e]
   try exact dt
end Go.AM
namespace Go.AM
open Go Go.Proofs
@[simp] theorem tyMap:Types Tryz.prog 175=some ⟨.map 3 3 (some (.int .i64 0)),1,8,[.map none]⟩:=by kernel_rfl
@[simp] theorem one_map (b:Option Nat):(Value.map b).oneCell'=true:=rfl
def idxE (l:List Nd):Nat→List (List Int×AV)
 | 0=>[]
 | k+1=>mset (idxE l k) [(gn l k).1] (I k)
attribute [simp] hintOK
set_option maxHeartbeats 1000000 in
theorem s115 (X:AX) (hX:XOK Tryz.prog X) (hw:X.W wT):PSound Tryz.prog 115 (specF (ι:={x:Tb // tbOK x}) (fun x=>[TbV x.1]) fun x=>retOf [.om 1 (idxE x.1.2.1 x.1.2.1.length)]):=by
 refine psound_spec hX mixed Tryz.func115 rfl fun ⟨⟨r,ns,ds⟩,ht⟩ w0 G=>⟨by show 1≤24;decide,rfl,?_⟩
 show AW ⟨Tryz.prog,X,24,w0,.pure G⟩ _ _ _
 have hc:Cx.OK ⟨Tryz.prog,X,24,w0,.pure G⟩:=⟨hX,mixed⟩
 have hl1:ns.length≤1000000:=ht.2.1
 simp only [TbV]
 repeat' (first|(apply aw_seq_k;intro K hK)|(refine eM64o ?_)|(refine aw_cond (b:=_) (by exact rfl) (fun h=>?_) (fun h=>?_)<;>(try simp at h))|(refine eB ?_)|(refine hK _ ?_;clear hK)|(clear hK;refine hK _ ?_;clear hK)|(clear hK;clear hK;refine hK _ ?_;clear hK)|(clear hK;clear hK;clear hK;refine hK _ ?_;clear hK))
 refine aw_loopK (s0:=?lps1) (m0:=?lpm1) (ι:={i:Nat // i≤ns.length}) [3,11,12] (fun i=>[(13,I i.1)]) (fun i=>[(80,.map 1 1 (idxE ns i.1))]) (fun i=>ns.length - i.1) ⟨0,by omega⟩ ?lhs1 ?lhm1 ?_ ?_
 case lhs1=>first|(simp [keepS];done)|(simp [keepS];rfl)
 case lhm1=>first|rfl|(simp;done)|(simp;rfl)
 ·simp only [idxE]
  exact dle
 ·rintro ⟨i,hi⟩
  simp only
  rcases Decidable.em (i<ns.length) with hil|hil
  ·have hilI:(i:Int)<(ns.length:Int):=by omega
   have hg:=nrows_gi hil
   have hgE:=nrows_gE hil
   have hlen:=(ht.1 _ (gn_mem hil)).1
   have hnx:idxE ns (i+1)=mset (idxE ns i) [(gn ns i).1] (I i):=rfl
   obtain ⟨S,hS⟩:∃ S,S=idxE ns i:=⟨_,rfl⟩
   rw [← hS] at hnx
   rw [← hS]
   obtain ⟨⟨g,ws⟩,hm⟩:∃ m,m=gn ns i:=⟨_,rfl⟩
   rw [← hm] at hg hgE hnx hlen
   simp only at hg hgE hnx hlen
   have zS:=jj hilI<|jj hg<|jj hgE<|hlen
   repeat' (first|(apply aw_seq_k;intro K hK)|(refine eM64 ?_)|(refine aw_cond (b:=_) (by exact rfl) (fun h=>?_) (fun h=>?_)<;>(try simp at h))|(refine eB ?_)|(refine hK _ ?_;clear hK)|(clear hK;refine hK _ ?_;clear hK)|(clear hK;clear hK;refine hK _ ?_;clear hK)|(clear hK;clear hK;clear hK;refine hK _ ?_;clear hK))
   all_goals clear zS
   refine ⟨i+1,?_,by omega,by omega⟩
   simp only [hnx]
   refine le_turn (s1:=?tus2) (m1:=?tum2) [] [1,3,11,12,13] [0,80] ?tua2 ?tub2 ?tuc2 ?tud2 ?tue2 ?tuf2 ?tug2
   case tua2=>first|(simp [keepS];done)|(simp [keepS];rfl)
   case tub2=>first|(simp;done)|(simp;rfl)
   case tuc2=>simp
   case tud2=>simp
   case tue2=>simp
   case tuf2=>simp
   case tug2 =>
    simp [swp,vr]
    exact dle
  ·obtain rfl:i=ns.length:=by omega
   repeat' (first|(apply aw_seq_k;intro K hK)|(refine eM64o ?_)|(refine aw_cond (b:=_) (by exact rfl) (fun h=>?_) (fun h=>?_)<;>(try simp at h))|(refine eB ?_)|(refine hK _ ?_;clear hK)|(clear hK;refine hK _ ?_;clear hK)|(clear hK;clear hK;refine hK _ ?_;clear hK)|(clear hK;clear hK;clear hK;refine hK _ ?_;clear hK))
   refine ⟨by simp,?_⟩
   simp [leaves_iff,Tryz.f115]
   try exact dt
end Go.AM
namespace Go.AM
structure Wd where
 ok:Nat→Nat→Bool
 tab:Nat→Option Int
 hug:Nat→Bool
 adm:Int→Bool
abbrev NdL:=List (Int×List Nat)
def fnd (ns:NdL) (f:Int):Option Nat:=if ns.findIdx (fun n=>decide (n.1=f))<ns.length then some (ns.findIdx fun n=>decide (n.1=f)) else none
theorem fnd_lt {ns:NdL} {f:Int} {i:Nat} (h:fnd ns f=some i):i<ns.length:=by
 unfold fnd at h
 split at h
 ·simp only [Option.some.injEq] at h;omega
 ·simp at h
def wd (ns:NdL) (n i:Nat):Nat:=(ns.getD n (0,[])).2.getD i 0
abbrev WSt:=List Bool×List Int
section
variable (D:Wd) (ns:NdL)
def kid (w:Nat):Option Nat:=(D.tab w).bind (fnd ns)
def wkF (rc:Nat→Nat→WSt→Bool×WSt) (l n first:Nat):Nat→Nat→WSt→Bool×WSt
 | 0,_,st=>(true,st)
 | k+1,i,st =>
  if D.ok l (wd ns n i)=false then (false,st) else
  if D.hug (wd ns n i)=true∧D.adm (((first+i*8^l)/8:Nat):Int)=false then (false,st) else
  let st1:WSt:=if D.hug (wd ns n i)=true then (st.1,st.2++[(((first+i*8^l)/8:Nat):Int)]) else st
  match D.tab (wd ns n i) with
  | none=>wkF rc l n first k (i+1) st1
  | some g=>match fnd ns g with
   | none=>(false,st1)
   | some nx=>if (rc nx (first+i*8^l) st1).1=true then wkF rc l n first k (i+1) (rc nx (first+i*8^l) st1).2 else (false,(rc nx (first+i*8^l) st1).2)
def wk:Nat→Nat→Nat→WSt→Bool×WSt
 | 0,n,first,st=>if st.1.getD n false=true then (false,st) else wkF D ns (fun _ _ st=>(false,st)) 0 n first 8 0 (st.1.set n true,st.2)
 | l+1,n,first,st=>if st.1.getD n false=true then (false,st) else wkF D ns (wk l) (l+1) n first 8 0 (st.1.set n true,st.2)
def ids:Nat→Nat→List Nat
 | 0,n=>[n]
 | l+1,n=>n::(List.range 8).flatMap fun i=>match kid D ns (wd ns n i) with
  | some nx=>ids l nx
  | none=>[]
def hugs:Nat→Nat→Nat→List Int
 | l,n,first=>(List.range 8).flatMap fun i=>(if D.hug (wd ns n i)=true then [(((first+i*8^l)/8:Nat):Int)] else [])++(match l with
  | 0=>[]
  | l+1=>match kid D ns (wd ns n i) with
   | some nx=>hugs l nx (first+i*8^(l+1))
   | none=>[])
def okW (l n first i:Nat):Prop:=D.ok l (wd ns n i)=true∧(D.hug (wd ns n i)=true→D.adm (((first+i*8^l)/8:Nat):Int)=true)∧∀ g,D.tab (wd ns n i)=some g→∃ nx,fnd ns g=some nx
def good:Nat→Nat→Nat→Prop
 | 0,n,first=>∀ i,i<8→okW D ns 0 n first i
 | l+1,n,first=>∀ i,i<8→okW D ns (l+1) n first i∧∀ nx,kid D ns (wd ns n i)=some nx→good l nx (first+i*8^(l+1))
end
def markL (led:List Bool) (l:List Nat):List Bool:=l.foldl (fun a i=>a.set i true) led
@[simp] theorem markL_nil (led:List Bool):markL led []=led:=rfl
theorem markL_append (led:List Bool) (a b:List Nat):markL led (a++b)=markL (markL led a) b:=by simp [markL]
theorem markL_cons (led:List Bool) (a:Nat) (b:List Nat):markL led (a::b)=markL (led.set a true) b:=rfl
@[simp] theorem markL_len (led:List Bool) (l:List Nat):(markL led l).length=led.length:=by
 unfold markL
 induction l generalizing led with
 | nil=>rfl
 | cons a l ih=>simp [ih]
theorem set_getD (led:List Bool) {i:Nat} (j:Nat) (hi:i<led.length):(led.set i true).getD j false=(decide (i=j)||led.getD j false):=by
 simp only [List.getD_eq_getElem?_getD,List.getElem?_set]
 by_cases e:i=j
 ·subst e;simp [hi]
 ·simp [e]
theorem markL_getD {led:List Bool}:∀ {l:List Nat} {j:Nat},(∀ i∈l,i<led.length)→(markL led l).getD j false=(decide (j∈l)||led.getD j false):=by
 intro l
 induction l generalizing led with
 | nil=>intro j _;simp
 | cons a l ih =>
  intro j h
  rw [markL_cons,ih (led:=led.set a true) (by intro i hi;simp;exact h i (by simp [hi])),set_getD led j (h a (by simp))]
  by_cases e:a=j
  ·subst e;simp
  ·have:¬ j=a:=fun h=>e h.symm
   simp [e,this]
section
variable {D:Wd} {ns:NdL}
theorem kid_lt {w n:Nat} (h:kid D ns w=some n):n<ns.length:=by
 unfold kid at h
 cases ht:D.tab w with
 | none=>simp [ht] at h
 | some g=>simp [ht] at h;exact fnd_lt h
theorem ids_lt:∀ {l n:Nat},n<ns.length→∀ i∈ids D ns l n,i<ns.length
 | 0,n,h,i,hi=>by simp only [ids,List.mem_singleton] at hi;omega
 | l+1,n,h,i,hi=>by
  simp only [ids,List.mem_cons,List.mem_flatMap] at hi
  rcases hi with rfl|⟨j,_,hi⟩
  ·exact h
  ·split at hi
   ·rename_i nx hk
    exact ids_lt (kid_lt hk) i hi
   ·simp at hi
def RcOK (D:Wd) (ns:NdL) (rc:Nat→Nat→WSt→Bool×WSt) (gd:Nat→Nat→Prop) (is:Nat→List Nat) (hs:Nat→Nat→List Int):Prop :=
 ∀ n first st,n<ns.length→st.1.length=ns.length →
  (((rc n first st).1=true↔gd n first∧(is n).Nodup∧∀ i∈is n,st.1.getD i false=false)∧((rc n first st).1=true→(rc n first st).2=(markL st.1 (is n),st.2++hs n first)))
def subI (D:Wd) (ns:NdL) (is:Nat→List Nat) (n:Nat) (i:Nat):List Nat:=match kid D ns (wd ns n i) with
 | some nx=>is nx
 | none=>[]
def subH (D:Wd) (ns:NdL) (hs:Nat→Nat→List Int) (l n first i:Nat):List Int:=(if D.hug (wd ns n i)=true then [(((first+i*8^l)/8:Nat):Int)] else [])++match kid D ns (wd ns n i) with
 | some nx=>hs nx (first+i*8^l)
 | none=>[]
theorem wkF_ok {rc:Nat→Nat→WSt→Bool×WSt} {gd:Nat→Nat→Prop} {is:Nat→List Nat} {hs:Nat→Nat→List Int} (hrc:RcOK D ns rc gd is hs) (hlt:∀ n,n<ns.length→∀ i∈is n,i<ns.length) {l n first:Nat} :
  ∀ {k i:Nat} {st:WSt},st.1.length=ns.length →
  (((wkF D ns rc l n first k i st).1=true↔(∀ j,i≤j→j<i+k→okW D ns l n first j∧∀ nx,kid D ns (wd ns n j)=some nx→gd nx (first+j*8^l)) ∧
    ((List.range' i k).flatMap (subI D ns is n)).Nodup∧∀ j∈(List.range' i k).flatMap (subI D ns is n),st.1.getD j false=false) ∧
   ((wkF D ns rc l n first k i st).1=true→(wkF D ns rc l n first k i st).2=(markL st.1 ((List.range' i k).flatMap (subI D ns is n)),st.2++(List.range' i k).flatMap (subH D ns hs l n first)))):=by
 intro k
 induction k with
 | zero =>
  intro i st hl
  simp only [wkF,true_iff,List.range'_zero,List.flatMap_nil]
  exact ⟨⟨fun j h1 h2=>by omega,List.nodup_nil,by simp⟩,fun _=>by simp⟩
 | succ k ih =>
  intro i st hl
  simp only [wkF,List.range'_succ,List.flatMap_cons]
  cases hok:D.ok l (wd ns n i) with
  | false =>
   simp only [if_true]
   constructor
   ·constructor
    ·intro h;simp at h
    ·rintro ⟨h,_⟩
     have:=(h i (Nat.le_refl _) (by omega)).1.1
     rw [hok] at this;simp at this
   ·intro h;simp at h
  | true =>
   simp only [Bool.true_eq_false,if_false]
   rcases Decidable.em (D.hug (wd ns n i)=true∧D.adm (((first+i*8^l)/8:Nat):Int)=false) with had|had
   ·rw [if_pos had]
    refine ⟨⟨fun h=>by simp at h,fun h=>?_⟩,fun h=>by simp at h⟩
    have:=(h.1 i (Nat.le_refl _) (by omega)).1.2.1 had.1
    rw [had.2] at this;simp at this
   rw [if_neg had]
   have had':D.hug (wd ns n i)=true→D.adm (((first+i*8^l)/8:Nat):Int)=true:=fun h=>by
    cases ha:D.adm (((first+i*8^l)/8:Nat):Int) with
    | true=>rfl
    | false=>exact absurd ⟨h,ha⟩ had
   obtain ⟨st1,hst1⟩:∃ st1:WSt,st1=(if D.hug (wd ns n i)=true then (st.1,st.2++[(((first+i*8^l)/8:Nat):Int)]) else st):=⟨_,rfl⟩
   rw [← hst1]
   have e1:st1.1=st.1:=by subst hst1;split<;>rfl
   have e2:st1.2=st.2++(if D.hug (wd ns n i)=true then [(((first+i*8^l)/8:Nat):Int)] else []):=by subst hst1;split<;>simp
   cases ht:D.tab (wd ns n i) with
   | none =>
    have hk:kid D ns (wd ns n i)=none:=by unfold kid;rw [ht];rfl
    have hsI:subI D ns is n i=[]:=by unfold subI;rw [hk]
    have hsH:subH D ns hs l n first i=(if D.hug (wd ns n i)=true then [(((first+i*8^l)/8:Nat):Int)] else []):=by unfold subH;rw [hk];simp
    have:=ih (i:=i+1) (st:=st1) (by rw [e1];exact hl)
    simp only [hsI,List.nil_append,hsH]
    rw [e1,e2,List.append_assoc] at this
    refine ⟨this.1.trans ?_,this.2⟩
    refine and_congr_left fun _=>?_
    constructor
    ·intro h j h1 h2
     by_cases e:j=i
     ·subst e;exact ⟨⟨hok,had',by simp [ht]⟩,by simp [hk]⟩
     ·exact h j (by omega) (by omega)
    ·intro h j h1 h2
     exact h j (by omega) (by omega)
   | some g =>
    simp only
    cases hf:fnd ns g with
    | none =>
     simp only
     constructor
     ·constructor
      ·intro h;simp at h
      ·rintro ⟨h,_⟩
       obtain ⟨nx,h2⟩:=(h i (Nat.le_refl _) (by omega)).1.2.2 g ht
       rw [hf] at h2;simp at h2
     ·intro h;simp at h
    | some nx =>
     have hk:kid D ns (wd ns n i)=some nx:=by unfold kid;rw [ht];exact hf
     have hsI:subI D ns is n i=is nx:=by unfold subI;rw [hk]
     have hsH:subH D ns hs l n first i=(if D.hug (wd ns n i)=true then [(((first+i*8^l)/8:Nat):Int)] else [])++hs nx (first+i*8^l):=by unfold subH;rw [hk]
     have hnx:=kid_lt hk
     have h1:=hrc nx (first+i*8^l) st1 hnx (by rw [e1];exact hl)
     rw [e1,e2] at h1
     simp only
     obtain ⟨R,hR⟩:∃ R,R=rc nx (first+i*8^l) st1:=⟨_,rfl⟩
     rw [← hR] at h1 ⊢
     rw [hsI,hsH]
     cases hb:R.1 with
     | false =>
      rw [hb] at h1
      simp only [Bool.false_eq_true,if_false,false_iff]
      refine ⟨?_,fun h=>h.elim⟩
      rintro ⟨h2,h3,h4⟩
      refine absurd (h1.1.2 ⟨(h2 i (Nat.le_refl _) (by omega)).2 nx hk,(List.nodup_append.1 h3).1,fun j hj=>h4 j (by simp [hj])⟩) (by simp)
     | true =>
      rw [hb] at h1
      obtain ⟨⟨g1,g2,g3⟩,g4⟩:=And.intro (h1.1.1 rfl) (h1.2 rfl)
      simp only [if_true]
      have h5:=ih (i:=i+1) (st:=R.2) (by rw [g4];simp [hl])
      rw [g4] at h5 ⊢
      simp only at h5
      have hin:∀ j∈is nx,j<st.1.length:=by rw [hl];exact hlt nx hnx
      rw [← markL_append] at h5
      simp only [List.append_assoc] at h5 ⊢
      refine ⟨h5.1.trans ?_,h5.2⟩
      constructor
      ·rintro ⟨a1,a2,a3⟩
       refine ⟨fun j q1 q2=>?_,?_,fun j hj=>?_⟩
       ·by_cases e:j=i
        ·subst e
         refine ⟨⟨hok,had',fun g' hg'=>?_⟩,fun nx' hnx'=>?_⟩
         ·rw [ht] at hg';simp only [Option.some.injEq] at hg';subst hg';exact ⟨nx,hf⟩
         ·rw [hk] at hnx';simp only [Option.some.injEq] at hnx';subst hnx';exact g1
        ·exact a1 j (by omega) (by omega)
       ·refine List.nodup_append.2 ⟨g2,a2,fun a ha b hb e=>?_⟩
        subst e
        have:=a3 a hb
        rw [markL_getD hin] at this
        simp [ha] at this
       ·rcases List.mem_append.1 hj with hj|hj
        ·exact g3 j hj
        ·have:=a3 j hj
         rw [markL_getD hin] at this
         simp only [Bool.or_eq_false_iff] at this
         exact this.2
      ·rintro ⟨a1,a2,a3⟩
       have a2':=List.nodup_append.1 a2
       refine ⟨fun j q1 q2=>a1 j (by omega) (by omega),a2'.2.1,fun j hj=>?_⟩
       rw [markL_getD hin,a3 j (by simp [hj])]
       simp only [Bool.or_false,decide_eq_false_iff_not]
       exact fun h=>a2'.2.2 j h j hj rfl
theorem wk_ok (hz:∀ w,D.ok 0 w=true→D.tab w=none):∀ {l:Nat},RcOK D ns (wk D ns l) (good D ns l) (ids D ns l) (hugs D ns l)
 | 0=>fun n first st hn hl=>by
  have hrc:RcOK D ns (fun _ _ st=>(false,st)) (fun _ _=>False) (fun _=>[]) (fun _ _=>[]):=fun n first st _ _=>by simp
  have h1:=wkF_ok hrc (fun n hn=>by simp) (l:=0) (n:=n) (first:=first) (k:=8) (i:=0) (st:=(st.1.set n true,st.2)) (by simpa using hl)
  simp only [wk]
  cases hb:st.1.getD n false with
  | true =>
   simp only [if_true]
   refine ⟨⟨fun h=>by simp at h,fun h=>?_⟩,fun h=>by simp at h⟩
   have:=h.2.2 n (by simp [ids])
   rw [hb] at this;simp at this
  | false =>
   simp only [Bool.false_eq_true,if_false]
   have hr:List.range' 0 8=List.range 8:=List.range_eq_range'.symm
   rw [hr] at h1
   have e1:(List.range 8).flatMap (subI D ns (fun _=>[]) n)=[]:=by
    rw [List.flatMap_eq_nil_iff]
    intro x _
    unfold subI
    split<;>rfl
   have e2:(List.range 8).flatMap (subH D ns (fun _ _=>[]) 0 n first)=hugs D ns 0 n first:=by
    unfold subH hugs
    congr 1
    funext i
    congr 1
    split<;>rfl
   rw [e1,e2] at h1
   have e3:ids D ns 0 n=[n]:=rfl
   rw [e3]
   refine ⟨h1.1.trans ?_,fun h=>by rw [h1.2 h];simp [markL]⟩
   simp only [good]
   constructor
   ·rintro ⟨a1,_,_⟩
    refine ⟨fun i hi=>(a1 i (by omega) (by omega)).1,by simp,by simpa using hb⟩
   ·rintro ⟨a1,_,_⟩
    refine ⟨fun j _ hj=>⟨a1 j (by omega),fun nx h=>?_⟩,by simp,by simp⟩
    have:=hz _ (a1 j (by omega)).1
    unfold kid at h
    rw [this] at h
    simp at h
 | l+1=>fun n first st hn hl=>by
  have h1:=wkF_ok (wk_ok hz (l:=l)) (fun n hn=>ids_lt hn) (l:=l+1) (n:=n) (first:=first) (k:=8) (i:=0) (st:=(st.1.set n true,st.2)) (by simpa using hl)
  simp only [wk]
  cases hb:st.1.getD n false with
  | true =>
   simp only [if_true]
   refine ⟨⟨fun h=>by simp at h,fun h=>?_⟩,fun h=>by simp at h⟩
   have:=h.2.2 n (by simp [ids])
   rw [hb] at this;simp at this
  | false =>
   simp only [Bool.false_eq_true,if_false]
   have hr:List.range' 0 8=List.range 8:=List.range_eq_range'.symm
   rw [hr] at h1
   have hset:∀ j,(st.1.set n true).getD j false=(decide (n=j)||st.1.getD j false):=fun j=>set_getD _ j (by omega)
   have e1:(List.range 8).flatMap (subI D ns (ids D ns l) n)=(List.range 8).flatMap fun i=>match kid D ns (wd ns n i) with
    | some nx=>ids D ns l nx
    | none=>[]:=rfl
   have e2:(List.range 8).flatMap (subH D ns (hugs D ns l) (l+1) n first)=hugs D ns (l+1) n first:=rfl
   have e3:ids D ns (l+1) n=n::(List.range 8).flatMap (subI D ns (ids D ns l) n):=rfl
   rw [e2] at h1
   rw [e3,markL_cons,List.nodup_cons]
   refine ⟨h1.1.trans ?_,h1.2⟩
   simp only [good]
   constructor
   ·rintro ⟨a1,a2,a3⟩
    refine ⟨fun i hi=>a1 i (by omega) (by omega),⟨fun hm=>?_,a2⟩,fun i hi=>?_⟩
    ·have:=a3 n hm
     rw [hset] at this;simp at this
    ·rcases List.mem_cons.1 hi with rfl|hi
     ·exact hb
     ·have:=a3 i hi
      rw [hset] at this
      simp only [Bool.or_eq_false_iff] at this
      exact this.2
   ·rintro ⟨a1,a2,a3⟩
    refine ⟨fun j _ hj=>a1 j (by omega),a2.2,fun j hj=>?_⟩
    rw [hset,a3 j (by simp [hj])]
    simp only [Bool.or_false,decide_eq_false_iff_not]
    rintro rfl
    exact a2.1 hj
end
end Go.AM
