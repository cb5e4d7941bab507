/- A part of the proof. -/
import Derived.Test.YtcfhmdljeeppfaaGreatGMqf2
import Derived.Test.YtcfhmdljeeppfaaGreatGAmO
import Derived.Test.YtcfhmdljeeppfaaGreatGAmW
import Derived.Test.YtcfhmdljeeppfaaGreatGPt62
import Derived.Test.YtcfhmdljeeppfaaGreatGPt36
import Derived.Test.YtcfhmdljeeppfaaGreatGPt20
set_option linter.all false
namespace Go.AM
open Go Go.Proofs Tryz
noncomputable section
theorem zcW:prw []=[]:=rfl
def zpa:List Dp->Dp->List Dp
 | [],m=>[m]
 | x::r,m=>if ltM m x then m::x::r else x::zpa r m
@[simp] theorem zzv (A:List Dp):List.take A.length (prw A)=prw A:=tkL (by simp)
open Classical in
def zhj (l:List Dp) (m:Dp):List Dp×Int :=if zgw l=0 then (if zgx m then (if m∈l then ([],7) else (zpa l m,0)) else ([],2)) else ([],zgw l)
def zq1 (l:List Dp) (m:Dp):List Dp:=l.filter fun x=>!decide (x=m)
open Classical in
def zgS (l:List Dp) (m:Dp):List Dp×Int :=if zgw l=0 then (if m∈l then (zq1 l m,0) else ([],6)) else ([],zgw l)
def zgA (l:List Dp) (m:Dp):Nat:=l.countP fun x=>decide (ltM x m)
theorem zr6 {l:List Dp} {m:Dp} {i:Nat} (hi:i<=l.length) (h1:∀ j,j<i->ltM (gp l j) m) (h2:∀ j,i<=j->j<l.length->¬ ltM (gp l j) m):zgA l m=i:=by
 unfold zgA
 conv=>lhs;rw [<- List.take_append_drop i l]
 rw [List.countP_append];have e1:(l.take i).countP (fun x=>decide (ltM x m))=(l.take i).length:=by
  rw [List.countP_eq_length];intro y hy;obtain ⟨j,hj,rfl⟩:=List.getElem_of_mem hy;have hj':j<i:=by simp at hj;omega
  have:=h1 j hj';rw [zax (by omega)] at this;simpa using this
 have e2:(l.drop i).countP (fun x=>decide (ltM x m))=0:=by rw [List.countP_eq_zero];intro y hy;obtain ⟨j,hj,rfl⟩:=List.getElem_of_mem hy;simp at hj;have:=h2 (i+j) (by omega) (by omega);rw [zax (by omega)] at this;simpa using this
 rw [e1,e2];simp;omega
theorem zBx (X:AX) (hX:XOK prog X) (hw:X.W wT)
  (h27:∀ a b c d M n,X.call 202 [.agg [I a,I b],.agg [I c,I d]] M n=some (I (zd3 (a,b) (c,d)),[])) :
  PSd prog 201 (spF (ι:={x:List Dp×Dp // x.1.length<=1000000∧zdH x.1}) (fun x=>[.rd 2 (prw x.1.1),MpV x.1.2,.fn 202 []]) fun x=>rtO [I (zgA x.1.1 x.1.2),B (decide (x.1.2∈x.1.1))]):=by
 refine psS hX mixed func201 rfl fun ⟨⟨l,a,b⟩,hl,hO⟩ w0 G=>⟨by show 3<=49;decide,rfl,?_⟩
 show AW ⟨prog,X,49,w0,.pure G⟩ _ _ _;have hc:=okc hX 49 w0 G;simp only at hl hO ⊢;unfold MpV;simp only;repeat' (first|(refine aSk fun K hK=>?_)|(refine eMo ?_)|(refine eC (fun h=>?_) (fun h=>?_)<;>(try simp at h))|(refine hK _ ?_;clear hK)|(clear hK;refine hK _ ?_;clear hK))
 refine aLK (s0:=?lps1) (m0:=?lpm1) (ι:={p:Nat×Nat // p.1<=p.2∧p.2<=l.length∧(∀ j,j<p.1->ltM (gp l j) (a,b))∧(∀ j,p.2<=j->j<l.length->¬ ltM (gp l j) (a,b))}) [0,2,4,8] (fun i=>[(9,I i.1.1),(10,I i.1.2)]) (fun _=>[]) (fun i=>i.1.2 - i.1.1) ⟨(0,l.length),by simp;omega⟩ ?lhs1 ?lhm1 ?_ ?_
 case lhs1=>first|(simp [kpS];done)|(simp [kpS];rfl)
 case lhm1=>first|rfl|(simp;done)|(simp;rfl)
 ·exact dle
 ·rintro ⟨⟨i,j⟩,hij,hj,h1,h2⟩;simp only at hij hj h1 h2;simp only;rcases dE (i<j) with hlt|hlt
  ·have hltI:(i:Int)<(j:Int):=by omega
   obtain ⟨m,hh,him,hmj⟩:∃ m:Nat,((i:Int)+j)/2=m∧i<=m∧m<j:=⟨(i+j)/2,by omega,by omega,by omega⟩
   have hml:m<l.length:=by omega
   have hmlI:(m:Int)<(l.length:Int):=by omega
   have hg:=zab hml;have hgE:=zac hml;obtain ⟨⟨x,y⟩,hm⟩:∃ m',m'=gp l m:=⟨_,rfl⟩
   rw [<- hm] at hg hgE;simp only at hg hgE;have hcm:=zjm (a:=(x,y)) (b:=(a,b));obtain ⟨q,hq⟩:∃ q,q=zd3 (x,y) (a,b):=⟨_,rfl⟩
   have h27':=fun M n=>h27 x y a b M n;rw [<- hq] at hcm h27';rcases dE (q<0) with hv|hv
   ·repeat' (first|(apply aSk;intro K hK)|(refine zae hc (by first|exact zau|(intro _;rw [zat hw];kernel_rfl)|(intro _;rw [ordB_w0 hw0];kernel_rfl)|(intro _;kernel_rfl)) ?_;simp [List.zipIdx,hltI,hg,hgE,hmlI,hh,h27',hv,(show IntKind.u64.bits=64 from rfl),Int.toNat_natCast,-zb,gMh,gMm,gMn];(repeat (simp (disch:=first|omega|assumption|fail) only [if_pos,if_neg,zm,zbj];try simp [List.zipIdx,hltI,hg,hgE,hmlI,hh,h27',hv,(show IntKind.u64.bits=64 from rfl),Int.toNat_natCast,-zb,gMh,gMm,gMn]));try (repeat' (refine gQs (fun h=>?_) (fun h=>?_)<;>simp at h<;>(simp [List.zipIdx,hltI,hg,hgE,hmlI,hh,h27',hv,(show IntKind.u64.bits=64 from rfl),Int.toNat_natCast,-zb,gMh,gMm,gMn];(repeat (simp (disch:=first|omega|assumption|fail) only [if_pos,if_neg,zm,zbj];try simp [List.zipIdx,hltI,hg,hgE,hmlI,hh,h27',hv,(show IntKind.u64.bits=64 from rfl),Int.toNat_natCast,-zb,gMh,gMm,gMn]))))))|(refine eC (fun h=>?_) (fun h=>?_)<;>(try simp at h))|(refine aBl ?_)|(refine zaf ?_;simp only [ze,bkQ,if_true])|(refine zag ?_;simp [ze,bkQ])|(refine zar ?_;simp only [ze,bkQ])|(refine aRd ?_)|(refine hK _ ?_;clear hK)|(clear hK;refine hK _ ?_;clear hK)|(clear hK;clear hK;refine hK _ ?_;clear hK)|(clear hK;clear hK;clear hK;refine hK _ ?_;clear hK))
    refine ⟨m+1,j,?_,⟨by omega,hj,fun k hk=>?_,h2⟩,by omega⟩
    ·exact dle
    ·have hxm:=hcm.1 hv;rw [hm] at hxm;rcases Nat.lt_succ_iff_lt_or_eq.1 hk with h|rfl
     ·exact za3 (zez hO h hml) hxm
     ·exact hxm
   ·repeat' (first|(apply aSk;intro K hK)|(refine zae hc (by first|exact zau|(intro _;rw [zat hw];kernel_rfl)|(intro _;rw [ordB_w0 hw0];kernel_rfl)|(intro _;kernel_rfl)) ?_;simp [List.zipIdx,hltI,hg,hgE,hmlI,hh,h27',hv,(show IntKind.u64.bits=64 from rfl),Int.toNat_natCast,-zb,gMh,gMm,gMn];(repeat (simp (disch:=first|omega|assumption|fail) only [if_pos,if_neg,zm,zbj];try simp [List.zipIdx,hltI,hg,hgE,hmlI,hh,h27',hv,(show IntKind.u64.bits=64 from rfl),Int.toNat_natCast,-zb,gMh,gMm,gMn]));try (repeat' (refine gQs (fun h=>?_) (fun h=>?_)<;>simp at h<;>(simp [List.zipIdx,hltI,hg,hgE,hmlI,hh,h27',hv,(show IntKind.u64.bits=64 from rfl),Int.toNat_natCast,-zb,gMh,gMm,gMn];(repeat (simp (disch:=first|omega|assumption|fail) only [if_pos,if_neg,zm,zbj];try simp [List.zipIdx,hltI,hg,hgE,hmlI,hh,h27',hv,(show IntKind.u64.bits=64 from rfl),Int.toNat_natCast,-zb,gMh,gMm,gMn]))))))|(refine eC (fun h=>?_) (fun h=>?_)<;>(try simp at h))|(refine aBl ?_)|(refine zaf ?_;simp only [ze,bkQ,if_true])|(refine zag ?_;simp [ze,bkQ])|(refine zar ?_;simp only [ze,bkQ])|(refine aRd ?_)|(refine hK _ ?_;clear hK)|(clear hK;refine hK _ ?_;clear hK)|(clear hK;clear hK;refine hK _ ?_;clear hK)|(clear hK;clear hK;clear hK;refine hK _ ?_;clear hK))
    refine ⟨i,m,?_,⟨by omega,by omega,h1,fun k hk hk2 h3=>?_⟩,by omega⟩
    ·exact dle
    ·rcases Nat.lt_or_eq_of_le hk with h|rfl
     ·exact hv (hcm.2 (by rw [hm];exact za3 (zez hO h hk2) h3))
     ·exact hv (hcm.2 (by rw [hm];exact h3))
  ·obtain rfl:i=j:=by omega
   have hlw:=zr6 hj h1 h2;rcases dE (i<l.length) with hil|hil
   ·have hilI:(i:Int)<(l.length:Int):=by omega
    have hg:=zab hil;have hgE:=zac hil;obtain ⟨⟨x,y⟩,hm⟩:∃ m',m'=gp l i:=⟨_,rfl⟩
    have hcm:=zmv (a:=(x,y)) (b:=(a,b));have hmem:zd3 (x,y) (a,b)=0↔(a,b)∈l:=by
     rw [hcm];constructor
     ·intro e;rw [<- e,hm];exact zlq hil
     ·intro e;obtain ⟨k,hk,e2⟩:=List.getElem_of_mem e;rw [<- zax hk] at e2;rcases Nat.lt_trichotomy k i with h|h|h
      ·exact absurd (h1 k h) (by rw [e2];exact zbM _)
      ·rw [hm,<- h,e2]
      ·have:=zez hO h hk;rw [e2] at this;exact absurd this (h2 i (Nat.le_refl _) hil)
    rw [<- hm] at hg hgE;simp only at hg hgE;obtain ⟨q,hq⟩:∃ q,q=zd3 (x,y) (a,b):=⟨_,rfl⟩
    have h27':=fun M n=>h27 x y a b M n;rw [<- hq] at h27' hmem;rcases dE (q=0) with hv|hv
    ·have hb:=hmem.1 hv;have zS:=jj hilI<|jj hg<|jj hgE<|jj h27'<|hv;repeat' (first|(refine aSk fun K hK=>?_)|(refine zi ?_)|(refine eC (fun h=>?_) (fun h=>?_)<;>(try simp at h))|(refine hK _ ?_;clear hK)|clear hK)
     all_goals clear zS
     refine ⟨by simp,?_⟩;simp [lvI,f201,hb];try exact dt
    ·have hb:¬ (a,b)∈l:=fun h=>hv (hmem.2 h);have zS:=jj hilI<|jj hg<|jj hgE<|jj h27'<|hv;repeat' (first|(refine aSk fun K hK=>?_)|(refine zi ?_)|(refine eC (fun h=>?_) (fun h=>?_)<;>(try simp at h))|(refine hK _ ?_;clear hK)|clear hK)
     all_goals clear zS
     refine ⟨by simp,?_⟩;simp [lvI,f201,hb];try exact dt
   ·have hilI:¬ (i:Int)<(l.length:Int):=by omega
    have hb:¬ (a,b)∈l:=fun e=>by obtain ⟨k,hk,e2⟩:=List.getElem_of_mem e;rw [<- zax hk] at e2;exact absurd (h1 k (by omega)) (by rw [e2];exact zbM _)
    have zS:=hilI;repeat' (first|(refine aSk fun K hK=>?_)|(refine zi ?_)|(refine eC (fun h=>?_) (fun h=>?_)<;>(try simp at h))|(refine hK _ ?_;clear hK)|clear hK)
    all_goals clear zS
    refine ⟨by simp,?_⟩;simp [lvI,f201,hb];try exact dt
theorem zBu (X:AX) (hX:XOK prog X):PSd prog 204 (spF (ι:={x:List Dp // x.length<=1000000}) (fun x=>[.rd 2 (prw x.1)]) fun x=>rtO [.ow 2 (prw x.1)]):=by
 refine psS hX mixed func204 rfl fun ⟨l,hl⟩ w0 G=>⟨by show 1<=8;decide,rfl,?_⟩
 show AW ⟨prog,X,8,w0,.pure G⟩ _ _ _;have hc:=okc hX 8 w0 G;cases l with
 | nil =>
  refine zba 0 2 rfl ?_ fun p n=>?_
  ·repeat' (first|(apply aSk;intro K hK)|(refine zae hc (by first|exact zau|(intro _;rw [zat hw];kernel_rfl)|(intro _;rw [ordB_w0 hw0];kernel_rfl)|(intro _;kernel_rfl)) ?_;simp (disch:=first|omega|assumption|(simp;done)|fail) [if_pos,if_neg,List.zipIdx];try (repeat' (refine gQs (fun h=>?_) (fun h=>?_)<;>simp at h<;>simp (disch:=first|omega|assumption|(simp;done)|fail) [if_pos,if_neg,List.zipIdx])))|(refine eC (fun h=>?_) (fun h=>?_)<;>(try simp at h))|(refine aBl ?_)|(refine zaf ?_;simp only [ze,bkQ,if_true])|(refine zag ?_;simp [ze,bkQ])|(refine zar ?_;simp only [ze,bkQ])|(refine hK _ ?_;clear hK)|(clear hK;refine hK _ ?_;clear hK)|(clear hK;clear hK;refine hK _ ?_;clear hK)|(clear hK;clear hK;clear hK;refine hK _ ?_;clear hK))
   refine ⟨by simp,?_⟩;simp [lvI,f204,prw];try exact dt
  ·repeat' (first|(apply aSk;intro K hK)|(refine zae hc (by first|exact zau|(intro _;rw [zat hw];kernel_rfl)|(intro _;rw [ordB_w0 hw0];kernel_rfl)|(intro _;kernel_rfl)) ?_;simp (disch:=first|omega|assumption|(simp;done)|fail) [if_pos,if_neg,List.zipIdx];try (repeat' (refine gQs (fun h=>?_) (fun h=>?_)<;>simp at h<;>simp (disch:=first|omega|assumption|(simp;done)|fail) [if_pos,if_neg,List.zipIdx])))|(refine eC (fun h=>?_) (fun h=>?_)<;>(try simp at h))|(refine aBl ?_)|(refine zaf ?_;simp only [ze,bkQ,if_true])|(refine zag ?_;simp [ze,bkQ])|(refine zar ?_;simp only [ze,bkQ])|(refine hK _ ?_;clear hK)|(clear hK;refine hK _ ?_;clear hK)|(clear hK;clear hK;refine hK _ ?_;clear hK)|(clear hK;clear hK;clear hK;refine hK _ ?_;clear hK))
   refine ⟨by simp,?_⟩;simp [lvI,f204,prw];try exact dt
 | cons x r =>
  simp at hl;repeat' (first|(apply aSk;intro K hK)|(refine zae hc (by first|exact zau|(intro _;rw [zat hw];kernel_rfl)|(intro _;rw [ordB_w0 hw0];kernel_rfl)|(intro _;kernel_rfl)) ?_;simp (disch:=first|omega|assumption|(simp;done)|fail) [if_pos,if_neg,List.zipIdx,prw];try (repeat' (refine gQs (fun h=>?_) (fun h=>?_)<;>simp at h<;>simp (disch:=first|omega|assumption|(simp;done)|fail) [if_pos,if_neg,List.zipIdx,prw])))|(refine eC (fun h=>?_) (fun h=>?_)<;>(try simp at h))|(refine aBl ?_)|(refine zaf ?_;simp only [ze,bkQ,if_true])|(refine zag ?_;simp [ze,bkQ])|(refine zar ?_;simp only [ze,bkQ])|(refine hK _ ?_;clear hK)|(clear hK;refine hK _ ?_;clear hK)|(clear hK;clear hK;refine hK _ ?_;clear hK)|(clear hK;clear hK;clear hK;refine hK _ ?_;clear hK))
  refine ⟨by simp,?_⟩;simp [lvI,f204,prw];try exact dt
  rw [tkL (by simp)]
theorem zBt (X:AX) (hX:XOK prog X) (hw:X.W wT):zdS prog 205 (zed (ι:={x:List Dp×Nat×Nat // x.2.1<=x.2.2∧x.2.2<=x.1.length∧x.1.length<=1000000}) (fun x=>.ow 2 (prw x.1.1)) (fun x=>[I x.1.2.1,I x.1.2.2]) (fun x=>rtO [.ow 2 (prw (x.1.1.take x.1.2.1++x.1.1.drop x.1.2.2))]) fun _=>.any):=by
 refine zfW func205 rfl X fun ⟨⟨l,i,j⟩,hij,hj,hl⟩ w0 bl E=>⟨by show 3<=33;decide,rfl,?_⟩
 simp only at hij hj hl;show AW ⟨prog,X,33,w0,⟨bl,E,1⟩⟩ _ _ _;have hc:Cx.OK ⟨prog,X,33,w0,⟨bl,E,1⟩⟩:=⟨hX,mixed⟩
 repeat' (first|(apply aSk;intro K hK)|(refine zae hc (by first|exact zau|(intro _;rw [zat hw];kernel_rfl)|(intro _;rw [ordB_w0 hw0];kernel_rfl)|(intro _;kernel_rfl)) ?_;simp (disch:=first|omega|assumption|(simp;done)|fail) [if_pos,if_neg,List.zipIdx,Int.ofNat_inj];try (repeat' (refine gQs (fun h=>?_) (fun h=>?_)<;>simp at h<;>simp (disch:=first|omega|assumption|(simp;done)|fail) [if_pos,if_neg,List.zipIdx,Int.ofNat_inj])))|(refine eC (fun h=>?_) (fun h=>?_)<;>(try simp at h))|(refine aBl ?_)|(refine zaf ?_;simp only [ze,bkQ,if_true])|(refine zag ?_;simp [ze,bkQ])|(refine zar ?_;simp only [ze,bkQ])|(refine hK _ ?_;clear hK)|(clear hK;refine hK _ ?_;clear hK)|(clear hK;clear hK;refine hK _ ?_;clear hK)|(clear hK;clear hK;clear hK;refine hK _ ?_;clear hK))
 ·refine ⟨by simp,lMa ?_⟩;simp (disch:=first|omega|assumption|(simp;done)|fail) [if_pos,if_neg,lvI,f205];subst h;simp [tkL]
 ·refine ⟨by simp,lMa ?_⟩;simp (disch:=first|omega|assumption|(simp;done)|fail) [if_pos,if_neg,lvI,f205,zgT,zgU,zaG,zcV];have e1:l.take i++((l.drop j).take (l.length - j)++l.drop (i+(l.length - j)))=(l.take i++l.drop j)++l.drop (i+(l.length - j)):=by rw [tkL (l:=l.drop j) (by simp),List.append_assoc]
  have e2:(l.take i++l.drop j).length=i+(l.length - j):=by simp;omega
  have key:∀ (A B C:List Dp) n,A.length=n->A=((A++B).take n++C).take n:=by intro A B C n h;subst h;simp
  rw [e1];exact congrArg prw (key _ _ _ _ e2)
theorem zhf {x:Dp} {r:List Dp} (h:zdH (x::r)):zdH r:=fun i hi=>by have:=h (i+1) (by simpa using hi);simpa [gp] using this
theorem zds {x:Dp} {r:List Dp} (h:zdH (x::r)):∀ y∈r,ltM x y:=fun y hy=>by obtain ⟨j,hj,rfl⟩:=List.getElem_of_mem hy;have:=zez h (i:=0) (j:=j+1) (by omega) (by simpa using hj);rw [zax (by simp),zax (by simpa using hj)] at this;simpa using this
theorem ziZ (x:Dp) (r:List Dp) (m:Dp):zgA (x::r) m=zgA r m+if ltM x m then 1 else 0:=by unfold zgA;rw [List.countP_cons];simp
theorem zr5 (l:List Dp) (m:Dp):zgA l m<=l.length:=List.countP_le_length
theorem zn3:∀ {l:List Dp} (m:Dp),zdH l->m ∉ l->l.take (zgA l m)++m::l.drop (zgA l m)=zpa l m
 | [],m,_,_=>rfl
 | x::r,m,h,hm=>by
  have hm':m≠x∧m ∉ r:=by simpa using hm
  rw [ziZ];simp only [zpa];rcases znL m x with h1|h1|h1
  ·rw [if_pos h1];have h2:¬ ltM x m:=fun h2=>zbM _ (za3 h1 h2);rw [if_neg h2];have h3:zgA r m=0:=by unfold zgA;rw [List.countP_eq_zero];intro y hy;have:=za3 h1 (zds h y hy);simp only [decide_eq_true_eq];exact fun h4=>zbM _ (za3 this h4)
   rw [h3];rfl
  ·exact absurd h1 hm'.1
  ·have h2:¬ ltM m x:=fun h2=>zbM _ (za3 h1 h2);rw [if_neg h2,if_pos h1,<- zn3 m (zhf h) hm'.2];rfl
theorem zot:∀ {l:List Dp} (m:Dp),zdH l->m∈l->l.take (zgA l m)++l.drop (zgA l m+1)=zq1 l m∧zgA l m<l.length
 | [],m,_,h=>by simp at h
 | x::r,m,h,hm=>by
  rw [ziZ];by_cases e:x=m
  ·subst e;rw [if_neg (zbM _)];have h3:zgA r x=0:=by unfold zgA;rw [List.countP_eq_zero];intro y hy;have:=zds h y hy;simp only [decide_eq_true_eq];exact fun h4=>zbM _ (za3 this h4)
   rw [h3];refine ⟨?_,by simp⟩;show r=_;unfold zq1;rw [List.filter_cons];simp only [decide_true,Bool.not_true,Bool.false_eq_true,if_false];rw [eq_comm,List.filter_eq_self];intro y hy;have h5:¬ y=x:=fun e=>by have:=zds h y hy;rw [e] at this;exact zbM _ this
   simp [h5]
  ·have hm':m∈r:=by
    rcases List.mem_cons.1 hm with h1|h1
    ·exact absurd h1.symm e
    ·exact h1
   have h1:=zds h m hm';rw [if_pos h1];obtain ⟨ih,hl⟩:=zot m (zhf h) hm';refine ⟨?_,by simp;exact hl⟩;unfold zq1 at ih ⊢;rw [List.filter_cons];simp only [e,decide_false,Bool.not_false,if_true];rw [<- ih];rfl
def zl6 (_:Nat):Nat:=2
def zy3:List AV->Option AV:=spF (ι:={x:List Dp×Dp // x.1.length<=1000000∧zdH x.1}) (fun x=>[.rd 2 (prw x.1.1),MpV x.1.2,.fn 202 []]) fun x=>rtO [I (zgA x.1.1 x.1.2),B (decide (x.1.2∈x.1.1))]
theorem zo4 (l:List Dp) (a b:Int) (h:l.length<=1000000∧zdH l):zy3 [.rd 2 (prw l),.agg [I a,I b],.fn 202 []]=some (.tup [I (zgA l (a,b)),B (decide ((a,b)∈l))]) :=sFe (ι:={x:List Dp×Dp // x.1.length<=1000000∧zdH x.1}) (A:=fun x=>[.rd 2 (prw x.1.1),MpV x.1.2,.fn 202 []]) (R:=fun x=>rtO [I (zgA x.1.1 x.1.2),B (decide (x.1.2∈x.1.1))]) ⟨(l,(a,b)),h⟩ (by rintro ⟨⟨k,c⟩,h⟩ e;simp [zaa,zaF] at e;obtain ⟨rfl,rfl⟩:=e;rfl)
def zy1:List AV->Option AV:=spF (ι:={x:List Dp // x.length<=1000000}) (fun x=>[.rd 2 (prw x.1)]) fun x=>rtO [.ow 2 (prw x.1)]
theorem zo3 (l:List Dp) (h:l.length<=1000000):zy1 [.rd 2 (prw l)]=some (.ow 2 (prw l)) :=sFe (ι:={x:List Dp // x.length<=1000000}) (A:=fun x=>[.rd 2 (prw x.1)]) (R:=fun x=>rtO [.ow 2 (prw x.1)]) ⟨l,h⟩ (by rintro ⟨k,h⟩ e;simp [zaa] at e;subst e;rfl)
def zwR:AV->List AV->Option (AV×AV):=zed (ι:={x:List Dp×Nat×Dp // x.2.1<=x.1.length∧x.1.length<=1000000}) (fun x=>.ow 2 (prw x.1.1)) (fun x=>[I x.1.2.1,.rd 2 (prw [x.1.2.2])]) (fun x=>rtO [.ow 2 (prw (x.1.1.take x.1.2.1++x.1.2.2::x.1.1.drop x.1.2.1))]) fun _=>.any
theorem ztd (l:List Dp) (i:Nat) (a b:Int) (h:i<=l.length∧l.length<=1000000):zwR (.ow 2 (prw l)) [I i,.rd 2 [[I a,I b]]]=some (.ow 2 (prw (l.take i++(a,b)::l.drop i)),.any) :=zfh (A0:=fun x:{x:List Dp×Nat×Dp // x.2.1<=x.1.length∧x.1.length<=1000000}=>AV.ow 2 (prw x.1.1)) (A:=fun x=>[I x.1.2.1,.rd 2 (prw [x.1.2.2])]) (R:=fun x=>rtO [.ow 2 (prw (x.1.1.take x.1.2.1++x.1.2.2::x.1.1.drop x.1.2.1))]) (O:=fun _=>.any) ⟨(l,i,(a,b)),h⟩ (by rintro ⟨⟨l',i',x'⟩,h1,h2⟩ e1 e2;simp only [AV.ow.injEq,zaa,true_and] at e1;simp only [cJ,AV.v.injEq,Value.int.injEq,true_and,AV.rd.injEq,zaa,and_true,Int.ofNat_inj] at e2;obtain ⟨rfl,rfl⟩:=e2;subst e1;exact ⟨rfl,rfl⟩)
def zv4:AV->List AV->Option (AV×AV):=zed (ι:={x:List Dp×Nat×Nat // x.2.1<=x.2.2∧x.2.2<=x.1.length∧x.1.length<=1000000}) (fun x=>.ow 2 (prw x.1.1)) (fun x=>[I x.1.2.1,I x.1.2.2]) (fun x=>rtO [.ow 2 (prw (x.1.1.take x.1.2.1++x.1.1.drop x.1.2.2))]) fun _=>.any
theorem ztf (l:List Dp) (i j:Nat) (h:i<=j∧j<=l.length∧l.length<=1000000):zv4 (.ow 2 (prw l)) [I i,I j]=some (.ow 2 (prw (l.take i++l.drop j)),.any) :=zfh (A0:=fun x:{x:List Dp×Nat×Nat // x.2.1<=x.2.2∧x.2.2<=x.1.length∧x.1.length<=1000000}=>AV.ow 2 (prw x.1.1)) (A:=fun x=>[I x.1.2.1,I x.1.2.2]) (R:=fun x=>rtO [.ow 2 (prw (x.1.1.take x.1.2.1++x.1.1.drop x.1.2.2))]) (O:=fun _=>.any) ⟨(l,i,j),h⟩ (by rintro ⟨⟨l',i',j'⟩,h1,h2⟩ e1 e2;simp only [AV.ow.injEq,zaa,true_and] at e1;simp only [cJ,AV.v.injEq,Value.int.injEq,true_and,and_true,Int.ofNat_inj] at e2;obtain ⟨rfl,rfl⟩:=e2;subst e1;exact ⟨rfl,rfl⟩)
structure RmX (X:AX):Prop where
 ok:XOK prog X
 w:X.W wT
 eq:X.eqs 133=true
 h26:∀ a b M n,X.call 200 [.agg [I a,I b]] M n=some (B (decide (zgx (a,b))),[])
 h10:X.call 199=caP ztg
 h29:X.call 201=caP zy3
 h31:X.call 204=caP zy1
 h30:X.call 203=callM false zl6 zwR
 h37:X.call 205=callM false zl6 zv4
theorem zBR (X:AX) (L:RmX X) :
  PSd prog 158 (spF (ι:={x:List Dp×Dp // x.1.length<=1000000}) (fun x=>[.rd 2 (prw x.1.1),MpV x.1.2]) fun x=>rtO [.ow 2 (prw (zhj x.1.1 x.1.2).1),I (zhj x.1.1 x.1.2).2]):=by
 have tw2m:∀ k,zl6 k=2:=fun _=>rfl;have hX:=L.ok;have hw:=L.w;refine psS hX mixed func158 rfl fun ⟨⟨l,a,b⟩,hl⟩ w0 G=>⟨by show 2<=30;decide,rfl,?_⟩
 show AW ⟨prog,X,30,w0,.pure G⟩ _ _ _;have hc:=okc hX 30 w0 G;simp only at hl ⊢;unfold MpV zhj;simp only;have hF:=zl3 l hl;rcases dE (zgw l=0) with h0|h0
 ·rw [if_pos h0];rw [h0] at hF;have hO:=(zjt.1 h0).2;have hG:=zo4 l a b ⟨hl,hO⟩;rcases dE (zgx (a,b)) with hv|hv
  ·rw [if_pos hv];rcases dE ((a,b)∈l) with hm|hm
   ·rw [if_pos hm];simp only [hm,decide_true] at hG;have zS:=jj L.h10<|jj hF<|jj L.h26<|jj L.h29<|jj hG<|hv;refine zl ?_;repeat (intro K hK)
    clear zS;refine ⟨by simp,?_⟩;simp [lvI,f158,zcW];try exact dt
   ·rw [if_neg hm];simp only [hm,decide_false] at hG;have hI:=zn3 (a,b) hO hm;have hle:=zr5 l (a,b);obtain ⟨i,hi⟩:∃ i,i=zgA l (a,b):=⟨_,rfl⟩
    rw [<- hi] at hG hI hle;have hC:=zo3 l hl;have hN:=ztd l i a b ⟨hle,hl⟩;rw [hI] at hN;have zS:=jj L.h10<|jj hF<|jj L.h26<|jj L.h29<|jj L.h31<|jj L.h30<|jj hC<|jj hN<|jj hG<|jj hv<|jj zzv<|tw2m;repeat' (first|(refine aSk fun K hK=>?_)|(refine zi ?_)|(refine eC (fun h=>?_) (fun h=>?_)<;>(try simp at h))|(refine hK _ ?_;clear hK)|clear hK)
    all_goals clear zS
    refine ⟨by simp,?_⟩;simp [lvI,f158];try exact dt
  ·rw [if_neg hv];have zS:=jj L.h10<|jj hF<|jj L.h26<|hv;refine zl ?_;repeat (intro K hK)
   clear zS;refine ⟨by simp,?_⟩;simp [lvI,f158,zcW];try exact dt
 ·rw [if_neg h0];obtain ⟨c,hcc⟩:∃ c,c=zgw l:=⟨_,rfl⟩
  rw [<- hcc] at hF h0 ⊢;have zS:=jj L.h10<|jj hF<|h0;refine zl ?_;repeat (intro K hK)
  clear zS;refine ⟨by simp,?_⟩;simp [lvI,f158,zcW];try exact dt
theorem zBQ (X:AX) (L:RmX X) :
  PSd prog 159 (spF (ι:={x:List Dp×Dp // x.1.length<=1000000}) (fun x=>[.rd 2 (prw x.1.1),MpV x.1.2]) fun x=>rtO [.ow 2 (prw (zgS x.1.1 x.1.2).1),I (zgS x.1.1 x.1.2).2]):=by
 have tw2m:∀ k,zl6 k=2:=fun _=>rfl;have hX:=L.ok;have hw:=L.w;refine psS hX mixed func159 rfl fun ⟨⟨l,a,b⟩,hl⟩ w0 G=>⟨by show 2<=28;decide,rfl,?_⟩
 show AW ⟨prog,X,28,w0,.pure G⟩ _ _ _;have hc:=okc hX 28 w0 G;simp only at hl ⊢;unfold MpV zgS;simp only;have hF:=zl3 l hl;rcases dE (zgw l=0) with h0|h0
 ·rw [if_pos h0];rw [h0] at hF;have hO:=(zjt.1 h0).2;have hG:=zo4 l a b ⟨hl,hO⟩;rcases dE ((a,b)∈l) with hm|hm
  ·rw [if_pos hm];simp only [hm,decide_true] at hG;obtain ⟨hI,hle⟩:=zot (a,b) hO hm;obtain ⟨i,hi⟩:∃ i,i=zgA l (a,b):=⟨_,rfl⟩
   rw [<- hi] at hG hI hle;have hC:=zo3 l hl;have hN:=ztf l i (i+1) ⟨by omega,by omega,hl⟩;rw [hI] at hN;have hiI:(i:Int)<=1000000:=by omega
   have hN':zv4 (.ow 2 (prw l)) [I i,I ((i:Int)+1)]=some (.ow 2 (prw (zq1 l (a,b))),.any):=hN;have zS:=jj L.h10<|jj hF<|jj L.h29<|jj L.h31<|jj L.h37<|jj hC<|jj hN'<|jj hG<|jj zzv<|tw2m;repeat' (first|(refine aSk fun K hK=>?_)|(refine zi ?_)|(refine eC (fun h=>?_) (fun h=>?_)<;>(try simp at h))|(refine hK _ ?_;clear hK)|clear hK)
   all_goals clear zS
   refine ⟨by simp,?_⟩;simp [lvI,f159];try exact dt
  ·rw [if_neg hm];simp only [hm,decide_false] at hG;have zS:=jj L.h10<|jj hF<|jj L.h29<|hG;refine zl ?_;repeat (intro K hK)
   clear zS;refine ⟨by simp,?_⟩;simp [lvI,f159,zcW];try exact dt
 ·rw [if_neg h0];obtain ⟨c,hcc⟩:∃ c,c=zgw l:=⟨_,rfl⟩
  rw [<- hcc] at hF h0 ⊢;have zS:=jj L.h10<|jj hF<|h0;refine zl ?_;repeat (intro K hK)
  clear zS;refine ⟨by simp,?_⟩;simp [lvI,f159,zcW];try exact dt
end
end Go.AM
namespace Go.AM
open Go
def Env.shut (E:Env) (b:Nat):Env:={ G:=fun k=>E.G k∨∃ base sz,E.loc b=some (k,base,sz),alive:=E.alive,ver:=fun c=>if c=b then E.ver c+1 else E.ver c,loc:=fun c=>if c=b then none else E.loc c }
theorem zdd.shut {N:Nat} {w0:World} {bl:Bk} {E:Env} {a:Act} {w:World} {g:Nat->AV} {m:Nat->AO} {b v s:Nat} {f:Bool} {xs:List (List AV)} (h:zdd N w0 bl E a w g m) (hb:E.alive b) (hm:m b=.vec v s f xs) :
  zdd N w0 bl (E.shut b) a w g (fun c=>if c=b then .dead else m c)∧E.Le (E.shut b)∧∀ x,Rep E w (.sl b v s 0 xs.length) x->Rep (E.shut b) w (.rd s xs) x:=by
 have ho:=h.mem b hb;rw [hm] at ho;simp only [ObR] at ho;obtain ⟨o1,o2,o3⟩:=ho;have hle:E.Le (E.shut b):=⟨fun k hk=>.inl hk,fun c hc=>hc,fun c hc=>by
  by_cases e:c=b
  ·subst e;exact .inr ⟨by rw [o1];exact o2,by simp [Env.shut]⟩
  ·exact .inl (by simp [Env.shut,e])⟩
 have hG:∀ k,(E.shut b).G k->E.G k∨∃ base sz,E.loc b=some (k,base,sz):=fun k hk=>hk;have I:=h.inv;refine ⟨⟨h.defers,h.size,⟨I.frame,I.gin.trans hle,I.low,fun k hk=>?_,fun k hk=>?_,fun c blk base sz hc hl=>?_,fun c c' blk base sz base' sz' hc hc' hl hl'=>?_⟩,fun c hc=>?_,fun t=>(h.slots t).mono hle fun _ _=>rfl⟩,hle,fun x hx=>?_⟩
 ·rcases hG k hk with hk|⟨base,sz,hl⟩
  ·exact I.gout k hk
  ·exact .inr (I.locs b k base sz hb hl).2.2
 ·rcases hG k hk with hk|⟨base,sz,hl⟩
  ·exact I.good k hk
  ·exact (I.locs b k base sz hb hl).1
 ·by_cases e:c=b
  ·simp [Env.shut,e] at hl
  ·simp only [Env.shut,if_neg e] at hl;obtain ⟨l1,l2,l3⟩:=I.locs c blk base sz hc hl;refine ⟨l1,fun hk=>?_,l3⟩;rcases hG blk hk with hk|⟨base',sz',hl'⟩
   ·exact l2 hk
   ·exact e (I.apart c b blk base sz base' sz' hc hb hl hl')
 ·by_cases e:c=b
  ·simp [Env.shut,e] at hl
  ·by_cases e':c'=b
   ·simp [Env.shut,e'] at hl'
   ·simp only [Env.shut,if_neg e] at hl;simp only [Env.shut,if_neg e'] at hl';exact I.apart c c' blk base sz base' sz' hc hc' hl hl'
 ·by_cases e:c=b
  ·simp only [e,if_true];trivial
  ·simp only [if_neg e];exact ObR.mono hle (fun _ _=>rfl) (by simp [Env.shut,e]) (by simp [Env.shut,e]) (fun _ _ _ _=>rfl) (h.mem c hc)
 ·simp only [Rep] at hx;obtain ⟨_,_,_,p,c,rfl,h2,h3,h4⟩:=hx;have h4:=h4 o1.symm;simp only [Rep,zd];refine ⟨p,c,rfl,h2,h3,?_⟩;cases hl:E.loc b with
  | none=>rw [hl] at o3;exact .inl o3
  | some l =>
   obtain ⟨blk,base,sz⟩:=l;rw [hl] at h4 o3;simp only [zcd] at h4 o3;obtain ⟨ad,rfl,h5,_⟩:=h4;obtain ⟨cs,t,_,_,_,_,_,hr⟩:=o3;by_cases e:xs=[]
   ·exact .inl e
   ·right;have:0<xs.length:=List.length_pos_iff.2 e;refine ⟨blk,base,?_,.inr ⟨base,sz,hl⟩,hr.mono (fun k hk=>.inl hk) (fun _ _=>rfl) (.inl rfl)⟩;rcases h5 with h5|h5
    ·omega
    ·rw [h5];simp
theorem znS {n:Nat} {s:List (Nat×AV)} {m:List (Nat×AO)} {nx t b v sz:Nat} {f:Bool} {xs:List (List AV)} (ht:zn s t=.sl b v sz 0 xs.length) (hm:zb m b=.vec v sz f xs) :
  Le n ⟨s,m,nx⟩ ⟨(t,.rd sz xs)::s,(b,.dead)::m,nx⟩:=fun N w0 bl a w _ ⟨E,hs,h1,h2⟩=>by
 have hr:=hs.slots t;rw [ht] at hr;have hb:E.alive b:=by simp only [Rep] at hr;exact hr.1
 obtain ⟨k1,k2,k3⟩:=hs.shut hb hm;refine ⟨_,⟨k1.defers,k1.size,k1.inv,fun c hc=>?_,fun k=>?_⟩,fun k hk=>h1 k hk,fun k hk=>?_⟩
 ·have:=k1.mem c hc;simp only [zb];by_cases e:b=c
  ·subst e;simpa using this
  ·rw [if_neg e];rw [if_neg (Ne.symm e)] at this;exact this
 ·simp only [zn];by_cases e:t=k
  ·subst e;rw [if_pos rfl];exact k3 _ hr
  ·rw [if_neg e];exact k1.slots k
 ·simp only [zb] at hk;split at hk
  ·exact absurd rfl hk
  ·exact h2 k hk
theorem zen {n:Nat} {s:List (Nat×AV)} {m:List (Nat×AO)} {nx b:Nat} {o:AO} (hd:zb m b≠.dead) (h:∀ E w,ObR E w b (zb m b)->ObR E w b o) :
  Le n ⟨s,m,nx⟩ ⟨s,(b,o)::m,nx⟩:=fun N w0 bl a w _ ⟨E,hs,h1,h2⟩=>by
 refine ⟨E,⟨hs.defers,hs.size,hs.inv,fun d hda=>?_,hs.slots⟩,h1,fun k hk=>?_⟩
 ·simp only [zb];by_cases e:b=d
  ·subst e;rw [if_pos rfl];exact h E w (hs.mem b hda)
  ·rw [if_neg e];exact hs.mem d hda
 ·simp only [zb] at hk;by_cases e:b=k
  ·subst e;exact h2 b hd
  ·rw [if_neg e] at hk;exact h2 k hk
theorem zr7 {n:Nat} {s:List (Nat×AV)} {m:List (Nat×AO)} {nx b v sz:Nat} {f:Bool} {xs:List (List AV)} {e:List AV} (k:Nat) (hm:zb m b=.vec v sz f xs) (hk:xs[k]?=some e) :
  Le n ⟨s,m,nx⟩ ⟨s,(b,.vo v sz xs k e)::m,nx⟩:=zen (by rw [hm];simp) fun E w h=>by
 rw [hm] at h;simp only [ObR] at h ⊢;obtain ⟨h1,h2,h3⟩:=h;have hkl:=(List.getElem?_eq_some_iff.1 hk).1;cases hl:E.loc b with
 | none =>
  rw [hl] at h3;simp only at h3;rw [h3] at hkl;simp at hkl
 | some L =>obtain ⟨blk,base,sz'⟩:=L;rw [hl] at h3;simp only at h3;obtain ⟨c,t,k4,k5,k5',k6,k6',k7⟩:=h3;obtain ⟨l1,l2⟩:=k7.get hk;obtain ⟨vs,n1,n2,n3,n4⟩:=l2.vals;exact ⟨h1,h2,hkl,l1,blk,base,sz',c,t,vs,rfl,k4,k5,k5',k6,fun i r _ hr=>k7.get hr,Rep.of_c.go n2,n3,n4⟩
theorem zeA {w:World} {G:Nat->Prop} {blk:Nat}:∀ {cs:List AV} {vs:List Value} {off:Nat},CRL w G cs vs->(∀ y∈vs,y.oneCell'=true)->(∀ j v,vs[j]?=some v->w.cell? ⟨blk,off+j,none⟩=some v)->CCs w G blk off cs
 | [],[],_,_,_,_=>by simp [CCs]
 | a::cs,x::vs,off,h1,h2,h3=>by
  simp only [CRL] at h1;simp only [CCs];refine ⟨⟨x,by simpa using h3 0 x (by simp),h2 x (by simp),h1.1⟩,zeA h1.2 (fun y hy=>h2 y (by simp [hy])) fun j v hv=>?_⟩;have:=h3 (j+1) v (by simpa using hv);rwa [show off+(j+1)=off+1+j by omega] at this
 | [],_::_,_,h,_,_=>by simp [CRL] at h
 | _::_,[],_,h,_,_=>by simp [CRL] at h
theorem zdl {n:Nat} {s:List (Nat×AV)} {m:List (Nat×AO)} {nx b v sz k:Nat} {xs:List (List AV)} {e:List AV} (hm:zb m b=.vo v sz xs k e) (he:e.all AV.isClosed=true) :
  Le n ⟨s,m,nx⟩ ⟨s,(b,.vec v sz false (xs.set k e))::m,nx⟩:=zen (by rw [hm];simp) fun E w h=>by
 rw [hm] at h;simp only [ObR] at h ⊢;obtain ⟨k1,k2,kk,ke,blk,base,sz',c,t,vs,hl,k4,k5,k5',k6,k7,k8,k8',k9⟩:=h;rw [hl];refine ⟨k1,k2,c,t,k4,k5,k5',by simpa using k6,fun h=>by simp at h,CRows.of_get fun i r hr=>?_⟩;by_cases hik:i=k
 ·subst hik;rw [List.getElem?_set_self kk] at hr;simp only [oJ] at hr;subst hr;exact ⟨ke,zeA (k8.to_c he) k8' k9⟩
 ·rw [List.getElem?_set_ne (Ne.symm hik)] at hr;exact k7 i r hik hr
theorem zem {n:Nat} {s:List (Nat×AV)} {m:List (Nat×AO)} {nx c i k b v v' sz s':Nat} {cs:List AV} {f:Bool} {xs ys:List (List AV)} (hc:zb m c=.vo v' s' ys k cs) (hi:cs[i]?=some (.sl b v sz 0 xs.length)) (hm:zb m b=.vec v sz f xs) :
  Le n ⟨s,m,nx⟩ ⟨s,(c,.vo v' s' ys k (cs.set i (.rd sz xs)))::(b,.dead)::m,nx⟩:=fun N w0 bl a w _ ⟨E,hs,h1,h2⟩=>by
 have hbc:b≠c:=fun e=>by rw [e,hc] at hm;cases hm
 have hnx:∀ j,zb ((c,AO.vo v' s' ys k (cs.set i (.rd sz xs)))::(b,.dead)::m) j≠.dead->j<nx:=fun j hj=>by
  simp only [zb] at hj;split at hj
  ·rename_i e;subst e;exact h2 c (by rw [hc];simp)
  ·split at hj
   ·exact absurd rfl hj
   ·exact h2 j hj
 by_cases hca:E.alive c
 case neg =>
  refine ⟨E,⟨hs.defers,hs.size,hs.inv,fun d hd=>?_,hs.slots⟩,h1,hnx⟩;simp only [zb];rw [if_neg (fun e=>hca (by rw [e];exact hd))];split
  ·trivial
  ·exact hs.mem d hd
 have hoc:=hs.mem c hca;rw [hc] at hoc;simp only [ObR] at hoc;obtain ⟨g1,g2,kk,ke,blk,base,sz',cc,t,vs,hl,k4,k5,k5',k6,k7,k8,k8',k9⟩:=hoc;obtain ⟨x,q1,q2⟩:=k8.get hi;have hb:E.alive b:=by simp only [Rep] at q2;exact q2.1
 obtain ⟨z1,z2,z3⟩:=hs.shut hb hm;refine ⟨_,⟨z1.defers,z1.size,z1.inv,fun d hd=>?_,z1.slots⟩,fun j hj=>h1 j hj,hnx⟩;simp only [zb];by_cases e:c=d
 ·subst e;rw [if_pos rfl];simp only [ObR];exact ⟨by simp [Env.shut,Ne.symm hbc,g1],g2,kk,by simpa using ke,blk,base,sz',cc,t,vs,by simp [Env.shut,Ne.symm hbc,hl],k4,k5,k5',k6,fun j r hj hr=>⟨(k7 j r hj hr).1,(k7 j r hj hr).2.mono z2.G (fun _ _=>rfl) (.inl rfl)⟩,(k8.mono z2 fun _ _=>rfl).set' q1 (z3 _ q2),k8',k9⟩
 ·rw [if_neg e];have:=z1.mem d hd;by_cases e2:b=d
  ·subst e2;simp at this ⊢;exact this
  ·rw [if_neg e2];rw [if_neg (Ne.symm e2)] at this;exact this
theorem zb3 {c:Cx} {st:St} {Q:Exit->St->Prop} {id:Nat} {ops:Array Oper} {b:Bool} (h:AW c (.region id ops b) st Q):AW c (.region id ops b) st Q:=h
theorem zpF {n:Nat} {s:List (Nat×AV)} {m:List (Nat×AO)} {nx b v sz k i:Nat} {xs:List (List AV)} {e:List AV} (z:Nat) (hm:zb m b=.vo v sz xs k e) (hi:e[i]?=some (.v (.slice none 0 0))) :
  Le n ⟨s,m,nx⟩ ⟨s,(b,.vo v sz xs k (e.set i (.rd z [])))::m,nx⟩:=zen (by rw [hm];simp) fun E w h=>by rw [hm] at h;simp only [ObR] at h ⊢;obtain ⟨k1,k2,kk,ke,blk,base,sz',c,t,vs,hl,k4,k5,k5',k6,k7,k8,k8',k9⟩:=h;obtain ⟨x,q1,q2⟩:=k8.get hi;refine ⟨k1,k2,kk,by simpa using ke,blk,base,sz',c,t,vs,hl,k4,k5,k5',k6,k7,k8.set' q1 ?_,k8',k9⟩;simp only [Rep,zd] at q2 ⊢;subst q2;exact ⟨none,0,rfl,by simp,fun _=>rfl,.inl trivial⟩
theorem znR {n:Nat} {s:List (Nat×AV)} {m:List (Nat×AO)} {nx c i k b v v' sz s' t:Nat} {cs:List AV} {f:Bool} {xs ys:List (List AV)} (hc:zb m c=.vo v' s' ys k cs) (hi:cs[i]?=some (.sl b v sz 0 xs.length)) (hm:zb m b=.vec v sz f xs) (ht:zn s t=.sl b v sz 0 xs.length) :
  Le n ⟨s,m,nx⟩ ⟨(t,.rd sz xs)::s,(c,.vo v' s' ys k (cs.set i (.rd sz xs)))::(b,.dead)::m,nx⟩:=fun N w0 bl a w _ ⟨E,hs,h1,h2⟩=>by
 have hbc:b≠c:=fun e=>by rw [e,hc] at hm;cases hm
 have hr:=hs.slots t;rw [ht] at hr;have hb:E.alive b:=by simp only [Rep] at hr;exact hr.1
 have hnx:∀ j,zb ((c,AO.vo v' s' ys k (cs.set i (.rd sz xs)))::(b,.dead)::m) j≠.dead->j<nx:=fun j hj=>by
  simp only [zb] at hj;split at hj
  ·rename_i e;subst e;exact h2 c (by rw [hc];simp)
  ·split at hj
   ·exact absurd rfl hj
   ·exact h2 j hj
 obtain ⟨z1,z2,z3⟩:=hs.shut hb hm;refine ⟨_,⟨z1.defers,z1.size,z1.inv,fun d hd=>?_,fun j=>?_⟩,fun j hj=>h1 j hj,hnx⟩
 ·simp only [zb];by_cases e:c=d
  ·subst e;rw [if_pos rfl];have hoc:=hs.mem c hd;rw [hc] at hoc;simp only [ObR] at hoc;obtain ⟨g1,g2,kk,ke,blk,base,sz',cc,t',vs,hl,k4,k5,k5',k6,k7,k8,k8',k9⟩:=hoc;obtain ⟨x,q1,q2⟩:=k8.get hi;simp only [ObR];exact ⟨by simp [Env.shut,Ne.symm hbc,g1],g2,kk,by simpa using ke,blk,base,sz',cc,t',vs,by simp [Env.shut,Ne.symm hbc,hl],k4,k5,k5',k6,fun j r hj hr=>⟨(k7 j r hj hr).1,(k7 j r hj hr).2.mono z2.G (fun _ _=>rfl) (.inl rfl)⟩,(k8.mono z2 fun _ _=>rfl).set' q1 (z3 _ q2),k8',k9⟩
  ·rw [if_neg e];have:=z1.mem d hd;by_cases e2:b=d
   ·subst e2;simp at this ⊢;exact this
   ·rw [if_neg e2];rw [if_neg (Ne.symm e2)] at this;exact this
 ·simp only [zn];by_cases e:t=j
  ·subst e;rw [if_pos rfl];exact z3 _ hr
  ·rw [if_neg e];exact z1.slots j
end Go.AM
namespace Go.AM
open Go Go.Proofs Tryz
@[simp] theorem zzu:za prog 54=some ⟨.struct [(0,51,1),(1,52,1),(2,3,1)],3,56,[.slice none 0 0,.slice none 0 0,.int .i64 0]⟩:=by kernel_rfl
abbrev BtD:=List Tb×List (List Dp)×Int
def btR (b:BtD):AV:=.rp [.rd 3 (zc b.1),.rd 1 (zg b.2.1),I b.2.2]
def btM (b:BtD):List AO:=[.box [.sl 1 1 3 0 b.1.length,.sl 2 1 1 0 b.2.1.length,I b.2.2],.vec 1 3 false (zc b.1),.vec 1 1 false (zg b.2.1)]
structure BtX (X:AX):Prop where
 ok:XOK prog X
 w:X.W wT
 wa:∀ (t:Tb) (x:Int),zf t->∀ M n,X.call 35 [TbV t,I x] M n=some (.tup [U (zaK t x).1,I (zaK t x).2.1,I (zaK t x).2.2],[])
 de:∀ w:Nat,w<2^64->∀ M k,X.call 56 [U w] M k=some (.tup [EnV (zj w).1,I (zj w).2],[])
 en:∀ (k f:Int) (d a x h:Bool) M n,X.call 143 [.agg [I k,I f,B d,B a,B x,B h]] M n=some (.tup [U (zdq (k,f,d,a,x,h)).1,I (zdq (k,f,d,a,x,h)).2],[])
 mi:∀ (t:Tb) (x:Int),zf t->∀ M n,X.call 37 [TbV t,I x] M n=some (.tup [I (zaq t x).1,I (zaq t x).2],[])
 se:∀ (t:Tb) (p:Int) (w:Nat) (fs:List Int),ztZ (t,p,w,fs)->∀ M n,X.call 51 [TbV t,I p,U w,.rd 1 (irw fs)] M n=some (.tup [TbV (zdD t p w fs).1,I (zdD t p w fs).2],[])
 cl:∀ (t:Tb) (p:Int),zf t∧t.2.1.length<=999000->∀ M n,X.call 55 [TbV t,I p] M n=some (.tup [TbV (zcM t p).1,U (zcM t p).2.1,.rd 1 (irw (zcM t p).2.2.1),I (zcM t p).2.2.2],[])
 ad:∀ (l:List Dp) (a b:Int),l.length<=1000000->∀ M n,X.call 158 [.rd 2 (prw l),.agg [I a,I b]] M n=some (.tup [.rd 2 (prw (zhj l (a,b)).1),I (zhj l (a,b)).2],[])
 re:∀ (l:List Dp) (a b:Int),l.length<=1000000->∀ M n,X.call 159 [.rd 2 (prw l),.agg [I a,I b]] M n=some (.tup [.rd 2 (prw (zgS l (a,b)).1),I (zgS l (a,b)).2],[])
noncomputable def atT (T:List Tb) (s:Nat) (p:Int):Int:=if (zaK (tbG T s) p).2.2=0∧(zj (zaK (tbG T s) p).1).2=0∧(zaK (tbG T s) p).2.1=0∧(zj (zaK (tbG T s) p).1).1.1=1 then (zj (zaK (tbG T s) p).1).1.2.1 else -1
noncomputable def FBa:List AV->Option AV:=spF (ι:={x:BtD×Nat×Int // x.2.1<x.1.1.length∧x.1.1.length<=1000∧zf (tbG x.1.1 x.2.1)∧(zaK (tbG x.1.1 x.2.1) x.2.2).1<2^64}) (fun x=>[btR x.1.1,I x.1.2.1,I x.1.2.2]) fun x=>rtO [I (atT x.1.1.1 x.1.2.1 x.1.2.2)]
set_option maxHeartbeats 4000000 in
theorem s83 (X:AX) (L:BtX X):PSd prog 83 FBa:=by
 have hX:=L.ok;have hw:=L.w;unfold FBa;refine psS hX mixed func83 rfl fun ⟨⟨⟨T,ms,nx⟩,s,p⟩,hs,hl,ht,hu⟩ w0 G=>⟨by show 3<=47;decide,rfl,?_⟩
 show AW ⟨prog,X,47,w0,.pure G⟩ _ _ _;have hc:=okc hX 47 w0 G;simp only at hs hl ht hu ⊢;have wa:=L.wa _ p ht;unfold atT;have hg:=zcf hs;have hgE:=zcS hs;have hsI:(s:Int)<(T.length:Int):=by omega
 obtain ⟨⟨wd,lv,er⟩,hx⟩:∃ x,x=zaK (tbG T s) p:=⟨_,rfl⟩
 rw [<- hx] at wa hu ⊢;simp only at wa hu ⊢;have de:=L.de wd hu;obtain ⟨⟨r,ns,ds⟩,hT⟩:∃ t,t=tbG T s:=⟨_,rfl⟩
 rw [<- hT] at wa hg hgE;obtain ⟨⟨⟨k,num,b1,b2,b3,b4⟩,e2⟩,hD⟩:∃ x,x=zj wd:=⟨_,rfl⟩
 rw [<- hD] at de ⊢;simp only [EnV,TbV,btR] at de wa hg hgE ⊢;rcases dE (er=0) with h1|h1
 ·rcases dE (e2=0) with h2|h2
  ·rcases dE (lv=0) with h3|h3
   ·rcases dE (k=1) with h4|h4
    ·rw [if_pos ⟨h1,h2,h3,h4⟩];subst h1 h2 h3 h4;have zS:=jj hs<|jj hsI<|jj hg<|jj hgE<|jj wa<|de;refine zl ?_;repeat (intro K hK)
     clear zS;refine ⟨by simp,?_⟩;simp [lvI,f83];try exact dt
    ·rw [if_neg fun h=>h4 h.2.2.2];subst h1 h2 h3;have zS:=jj hs<|jj hsI<|jj hg<|jj hgE<|jj wa<|jj de<|h4;refine zl ?_;repeat (intro K hK)
     clear zS;refine ⟨by simp,?_⟩;simp [lvI,f83];try exact dt
   ·rw [if_neg fun h=>h3 h.2.2.1];have h3I:¬ (lv:Int)=0:=by omega
    subst h1 h2;have zS:=jj hs<|jj hsI<|jj hg<|jj hgE<|jj wa<|jj de<|jj h3<|h3I;refine zl ?_;repeat (intro K hK)
    clear zS;refine ⟨by simp,?_⟩;simp [lvI,f83];try exact dt
  ·rw [if_neg fun h=>h2 h.2.1];subst h1;have zS:=jj hs<|jj hsI<|jj hg<|jj hgE<|jj wa<|jj de<|h2;refine zl ?_;repeat (intro K hK)
   clear zS;refine ⟨by simp,?_⟩;simp [lvI,f83];try exact dt
 ·rw [if_neg fun h=>h1 h.1];have zS:=jj hs<|jj hsI<|jj hg<|jj hgE<|jj wa<|jj de<|h1;refine zl ?_;repeat (intro K hK)
  clear zS;refine ⟨by simp,?_⟩;simp [lvI,f83];try exact dt
theorem zm6 {T:List Tb} {s:Nat} {t:Tb}:(zc T).set s [I t.1,.rd 9 (nrw t.2.1),.rd 2 (prw t.2.2)]=zc (T.set s t):=by simp [zc,List.map_set,tbR]
theorem zg3 {ms:List (List Dp)} {i:Nat} {R:List Dp}:(zg ms).set i [.rd 2 (prw R)]=zg (ms.set i R):=by simp [zg,List.map_set,zuB]
theorem zkw {b c:BtD} (h:btM b=btM c):b=c:=by obtain ⟨T,M,n⟩:=b;obtain ⟨T',M',n'⟩:=c;simp [btM,I,zbk,zck] at h;obtain ⟨⟨_,_,rfl⟩,rfl,rfl⟩:=h;rfl
abbrev RmI:={x:BtD×Nat×Int×Nat // x.2.1<x.1.1.length∧x.1.1.length<=1000∧x.2.2.2<x.1.2.1.length∧x.1.2.1.length<=1000∧zf (tbG x.1.1 x.2.1)∧(tbG x.1.1 x.2.1).2.1.length<=999000∧(zcM (tbG x.1.1 x.2.1) x.2.2.1).2.2.2=0 ∧
  (gmm x.1.2.1 x.2.2.2).length<=1000000∧(zgS (gmm x.1.2.1 x.2.2.2) ((x.2.1:Int),x.2.2.1)).2=0}
noncomputable def rmO (x:BtD×Nat×Int×Nat):BtD:=(x.1.1.set x.2.1 (zcM (tbG x.1.1 x.2.1) x.2.2.1).1,x.1.2.1.set x.2.2.2 (zgS (gmm x.1.2.1 x.2.2.2) ((x.2.1:Int),x.2.2.1)).1,x.1.2.2)
noncomputable def rmS:List AV->List AO->Option (AV×List AO):=za1 (ι:=RmI) (fun x=>[.bp 0 0,I x.1.2.1,I x.1.2.2.1,I x.1.2.2.2]) (fun x=>btM x.1.1) (fun _=>rtO [B true]) fun x=>btM (rmO x.1)
set_option maxHeartbeats 8000000 in
theorem s75 (X:AX) (L:BtX X):GSd prog 75 rmS:=by
 have hX:=L.ok;have hw:=L.w;unfold rmS;refine gsS func75 rfl X fun ⟨⟨⟨T,ms,nx⟩,s,p,f⟩,hs,hl,hf,hfl,ht,htl,hc0,hgl,hr0⟩ w0 L' E=>⟨by show 4<=63;decide,?_⟩
 simp only at hs hl hf hfl ht htl hc0 hgl hr0 ⊢;unfold rmO;simp only [btM];show AW ⟨prog,X,63,w0,⟨L',E,3⟩⟩ _ _ _;have hc:Cx.OK ⟨prog,X,63,w0,⟨L',E,3⟩⟩:=⟨hX,mixed⟩
 have hg:=zcf hs;have hgE:=zcS hs;have hm:=zdj hf;have hmE:=zfl hf;have hsI:(s:Int)<(T.length:Int):=by omega
 have hfI:(f:Int)<(ms.length:Int):=by omega
 have cl:=L.cl _ p ⟨ht,htl⟩;have re:=L.re _ (s:Int) p hgl;rw [hc0] at cl;rw [hr0] at re;have hts:=@zm6 T s (zcM (tbG T s) p).1;have hms:=@zg3 ms f (zgS (gmm ms f) ((s:Int),p)).1;obtain ⟨⟨r',ns',ds'⟩,hC⟩:∃ x,x=(zcM (tbG T s) p).1:=⟨_,rfl⟩
 obtain ⟨R',hR⟩:∃ x,x=(zgS (gmm ms f) ((s:Int),p)).1:=⟨_,rfl⟩
 rw [<- hC] at cl hts ⊢;rw [<- hR] at re hms ⊢;obtain ⟨⟨r,ns,ds⟩,hT⟩:∃ t,t=tbG T s:=⟨_,rfl⟩
 obtain ⟨R,hRR⟩:∃ t,t=gmm ms f:=⟨_,rfl⟩
 rw [<- hT] at cl hg hgE;rw [<- hRR] at re hm hmE;simp only [TbV] at cl hg hgE hts;have zS:=jj hs<|jj hsI<|jj hg<|jj hgE<|jj hf<|jj hfI<|jj hm<|jj hmE<|jj cl<|jj re<|jj hts<|hms;refine zhd ?_;repeat (intro K hK)
 clear zS;refine ⟨by simp,_,by simp [aRs,aRt,f75];rfl,?_⟩;simp only [idx,List.length_set];exact dle
theorem zht {x:Nat} {g:Int} (h:zbc x=some g):0<=g∧g<=4294967295∧x=g.toNat*256+4:=by
 have hr:=zfs x;unfold zbc at h;split at h
 case isFalse=>simp at h
 rename_i hk;simp only [oJ] at h;rw [h] at hr;refine ⟨hr.1,hr.2,?_⟩;by_cases he:zdq (prs x)=((x:Int),0)
 ·rw [zjl he] at hk h;simp only at hk h;have hb:¬ zky (prs x):=fun hb=>by rw [zor (by rw [hk];decide) hb] at he;simp at he
  cases hf:zhX (prs x) with
  | false=>rw [zoq (by rw [hk];decide) hb hf] at he;simp at he
  | true =>rw [zhb (by rw [hk];decide) hb hf] at he;simp only [pJ,and_true] at he;unfold zhX zpv at hf;rw [if_neg (by rw [hk];decide),if_neg (by rw [hk];decide),if_neg (by rw [hk];decide),if_pos (.inr hk)] at hf;simp only [Bool.and_eq_true,Bool.not_eq_true'] at hf;unfold zmR fb at he;rw [hk,h,hf.1,hf.2.1,hf.2.2.1,hf.2.2.2] at he;simp at he;omega
 ·rw [zou he] at hk;exact absurd hk (by decide)
def ztt (w:Nat) (ws:List Nat):List Nat:=ws.map fun x=>if x=w then 0 else x
def unl (w:Nat) (ns:NdL):NdL:=ns.map fun n=>(n.1,ztt w n.2)
@[simp] theorem zrq {w:Nat} {ns:NdL}:(unl w ns).length=ns.length:=by simp [unl]
@[simp] theorem zwi {w:Nat} {ws:List Nat}:(ztt w ws).length=ws.length:=by simp [ztt]
theorem zsp {w:Nat} {ns:NdL} {f:Int}:fnd (unl w ns) f=fnd ns f:=by unfold fnd unl;rw [List.findIdx_map,List.length_map];rfl
theorem zs5 {w:Nat} {ns:NdL} {f:Int}:Mof (unl w ns) f=(Mof ns f).map (ztt w):=by
 unfold Mof;rw [zsp];cases fnd ns f with
 | none=>rfl
 | some i =>simp only [Option.map_some,unl,List.getD_eq_getElem?_getD,List.getElem?_map];cases ns[i]?<;>rfl
theorem zrr {w:Nat} {ns:NdL} (h:zby ns):zby (unl w ns):=by unfold zby unl;rw [List.pairwise_map];exact h
theorem ztS {w:Nat} {ns:NdL} (h:∀ x∈ns,zis x):∀ x∈unl w ns,zis x:=fun x hx=>by
 obtain ⟨y,hy,rfl⟩:=List.mem_map.1 hx;refine ⟨by simp [(h y hy).1],fun z hz=>?_⟩;obtain ⟨u,hu,rfl⟩:=List.mem_map.1 hz;have:=(h y hy).2 u hu;split
 ·decide
 ·exact this
theorem zsw {ns:NdL} {g:Int} (h:∀ x∈ns,zis x):∀ x∈zev ns g,zis x:=fun x hx=>h x (zei.1 hx).1
theorem zrp {M:Mm} {root:Int} (hV:VM WA M root) {d q:Nat} (hx:(d,q)∈Pos) (hd:d<2) {f:Int} (hf:frP WA M root d q=some f) {i:Nat} (hi:i<8) {g:Int} (h0:zbc (wM M f i)=some g) {h:Int} {us:List Nat} (hm:M h=some us) :
  ztt (g.toNat*256+4) us=if h=f then us.set i 0 else us:=by
 obtain ⟨g0,g1,gw⟩:=zht h0;obtain ⟨d',q',hx',hf'⟩:=hV.all h us hm;obtain ⟨us',hm',h8,hok⟩:=hV.nd d' q' hx' h hf';rw [hm] at hm';simp only [oJ] at hm';subst hm';have hgP:frP WA M root (d+1) (q*8+i)=some g:=by simp only [frP];rw [show (q*8+i)/8=q by omega,show (q*8+i)%8=i by omega,hf];exact h0
 have key:∀ j,j<8->us.getD j 0=g.toNat*256+4->h=f∧j=i:=fun j hj e=>by
  have hj':=hok j hj;have htw:zbc (us.getD j 0)=some g:=by rw [e,zjR (g:=g.toNat) (by omega),Int.toNat_of_nonneg g0]
  have hd':d'<=2:=by have:=za0.1 hx';simp only at this;omega
  by_cases e2:d'=2
  ·subst e2;have:=(zeY fun _=>true).flat _ hj';rw [show (WD fun _=>true).tab=zbc from rfl,htw] at this;simp at this
  ·have hgP':frP WA M root (d'+1) (q'*8+j)=some g:=by simp only [frP];rw [show (q'*8+j)/8=q' by omega,show (q'*8+j)%8=j by omega,hf'];show zbc (wM M h j)=some g;unfold wM;rw [hm];exact htw
   have hin:=hV.inj _ _ _ _ (zgt hx' (by omega) hj) (zgt hx hd hi) g hgP' hgP;have e3:d'=d:=by omega
   have e4:q'=q:=by omega
   subst e3 e4;rw [hf] at hf';simp only [oJ] at hf';exact ⟨hf'.symm,by omega⟩
 refine List.ext_getElem (by split<;>simp) fun j h1 h2=>?_;have hj:j<8:=by simp at h1;omega
 have hg:us.getD j 0=us[j]'(by simpa using h1):=by rw [List.getD_eq_getElem?_getD,List.getElem?_eq_getElem (by simpa using h1)];rfl
 have k:=key j hj;rw [hg] at k;simp only [ztt,List.getElem_map];by_cases e:us[j]'(by simpa using h1)=g.toNat*256+4
 ·obtain ⟨rfl,rfl⟩:=k e;rw [if_pos e];simp
 ·rw [if_neg e];by_cases e2:h=f
  ·subst e2;simp only [if_true];rw [List.getElem_set];split
   ·rename_i e3;subst e3;exfalso;apply e;unfold wM at gw;rw [hm] at gw;simp only at gw;rw [<- hg];exact gw
   ·rfl
  ·simp only [if_neg e2]
theorem zl2 {ns:NdL} (ha:zby ns) {fr:List Int} (x:Int):Mof (kpF fr ns) x=if x∈fr then none else Mof ns x:=by
 have hk:zby (kpF fr ns):=List.Pairwise.filter _ ha;split
 ·rename_i h;refine (zaZ hk).2 fun n hn e=>?_;have:=(List.mem_filter.1 hn).2;unfold inF at this;rw [e] at this;simp [h] at this
 ·rename_i h;cases hm:Mof ns x with
  | none=>exact (zaZ hk).2 fun n hn=>(zaZ ha).1 hm n (List.mem_filter.1 hn).1
  | some us =>refine (mMo hk).1 (List.mem_filter.2 ⟨(mMo ha).2 hm,?_⟩);unfold inF;simp [h]
theorem znU {ns:NdL} (ha:zby ns) {fr:List Int}:zby (kpF fr ns):=List.Pairwise.filter _ ha
theorem zhl {M:Mm} {g:Int} (h:M g=some zs8):∀ j,j<8->zbc (wM M g j)=none:=fun j _=>by
 have:wM M g j=0:=by unfold wM;rw [h];exact zcr j
 rw [this];exact zm7
theorem round {r:Int} {ns:NdL} {ds:List Dp} (h:Pv (r,ns,ds)) (ht:zf (r,ns,ds)) {p:Nat} (hp:p<512) {g:Int} {l w:Nat} (hw:wlk (Mof ns) r p=(g,l,w)) (hl:l<2) (hlf:∀ j,j<8->zbc (wM (Mof ns) g j)=none) :
  ∃ f k,frP WA (Mof ns) r (1 - l) (p/8^(l+2))=some f∧zbc (wM (Mof ns) f (dgt p (l+1)))=some g∧fnd ns f=some k∧f≠g∧0<=g∧g<=4294967295 ∧
   Mof (unl (g.toNat*256+4) (zev ns g))=zaW (zcs (Mof ns) f (dgt p (l+1)) 0) g none∧Pv (r,unl (g.toNat*256+4) (zev ns g),ds)∧zf (r,unl (g.toNat*256+4) (zev ns g),ds) ∧
   wlk (Mof (unl (g.toNat*256+4) (zev ns g))) r p=(f,l+1,0)∧unl (g.toNat*256+4) (zev ns g)=kpF [g] (zo ns k (dgt p (l+1)) 0):=by
 obtain ⟨a1,a2,a3,a4,a5,a6⟩:=zap h.vm hp hw;simp only at a3;have hq:p/8^(l+1)=p/8^(l+2)*8+dgt p (l+1):=by unfold dgt;rw [Nat.pow_succ 8 (l+1),<- Nat.div_div_eq_div_mul];omega
 have hd8:=zbA p (l+1);obtain ⟨f,hf,htb⟩:∃ f,frP WA (Mof ns) r (1 - l) (p/8^(l+2))=some f∧zbc (wM (Mof ns) f (dgt p (l+1)))=some g:=by
  rw [show 2 - l=(1 - l)+1 by omega,hq] at a3;simp only [frP] at a3;rw [show (p/8^(l+2)*8+dgt p (l+1))/8=p/8^(l+2) by omega,show (p/8^(l+2)*8+dgt p (l+1))%8=dgt p (l+1) by omega] at a3;cases hc:frP WA (Mof ns) r (1 - l) (p/8^(l+2)) with
  | none=>rw [hc] at a3;simp at a3
  | some f=>rw [hc] at a3;exact ⟨f,rfl,a3⟩
 have hx:(1 - l,p/8^(l+2))∈Pos:=by have:=zgs (d:=1 - l) (q:=p/8^(l+1)) (by rw [show 1 - l+1=2 - l by omega];exact a2);rwa [hq,show (p/8^(l+2)*8+dgt p (l+1))/8=p/8^(l+2) by omega] at this
 obtain ⟨g0,g1,gw⟩:=zht htb;have hpr:=h.vm.prune hx (by omega) hf hd8 (w:=0) htb hlf zm7 (ok0 (2 - (1 - l)));obtain ⟨us,hus,hu8,_⟩:=h.vm.nd _ _ hx f hf;obtain ⟨k,hk,_⟩:=zaB.1 hus;have hfg:f≠g:=fun e=>by have:=h.vm.inj _ _ _ _ hx a2 f hf (by rw [e];exact a3);omega
 have hM:Mof (unl (g.toNat*256+4) (zev ns g))=zaW (zcs (Mof ns) f (dgt p (l+1)) 0) g none:=by
  refine zgu fun x=>?_;rw [zs5,zs9 h.asc];unfold zaW zcs;by_cases e:x=g
  ·simp [e]
  ·simp only [if_neg e];cases hm:Mof ns x with
   | none =>
    split
    ·rename_i e2;rw [e2,hus] at hm;simp at hm
    ·rfl
   | some vs =>
    simp only [Option.map_some];rw [zrp h.vm hx (by omega) hf hd8 htb hm];by_cases e2:x=f
    ·subst e2;rw [hm];simp
    ·simp [e2]
 have hasc:zby (unl (g.toNat*256+4) (zev ns g)):=zrr (zlG h.asc);have hsa:=zbS h.asc (i:=dgt p (l+1)) (w:=0) (zay hk);refine ⟨f,k,hf,htb,hk,hfg,g0,g1,hM,⟨hasc,?_⟩,⟨ztS (zsw ht.1),?_,ht.2.2⟩,?_,?_⟩
 ·show VM WA (Mof (unl _ _)) r;rw [hM];exact hpr.1
 ·have h1:(zev ns g).length<=ns.length:=List.length_filter_le _ _;have h2:=ht.2.1;show (unl _ _).length<=_;simp only [zrq];simp only at h2;omega
 ·have hfr:frP WA (Mof (unl (g.toNat*256+4) (zev ns g))) r (2 - (l+1)) (p/8^(l+1+1))=some f:=by rw [hM,show 2 - (l+1)=1 - l by omega,hpr.2 _ _ hx,if_neg (by omega)];exact hf
  have hwf:wM (Mof (unl (g.toNat*256+4) (zev ns g))) f (dgt p (l+1))=0:=by rw [hM,zeb,if_neg hfg,zcP hus (by omega),if_pos ⟨rfl,rfl⟩]
  rw [zdK hp (by omega) hfr (.inl (by rw [hwf];exact zm7)),hwf]
 ·refine zon hasc (znU hsa) fun x=>?_;rw [hM,zl2 hsa,ziq h.asc hk];unfold zaW;simp
def zjo (r:Int) (ds:List Dp) (p:Nat):Nat->NdL->NdL×List Int
 | 0,ns=>(ns,[])
 | k+1,ns=>if (gn ns (lsT (r,ns,ds) p).1).2=zs8 then
   ((zjo r ds p k (unl ((gn ns (lsT (r,ns,ds) p).1).1.toNat*256+4) (zev ns (gn ns (lsT (r,ns,ds) p).1).1))).1,(gn ns (lsT (r,ns,ds) p).1).1::(zjo r ds p k (unl ((gn ns (lsT (r,ns,ds) p).1).1.toNat*256+4) (zev ns (gn ns (lsT (r,ns,ds) p).1).1))).2)
  else (ns,[])
theorem zjk {r:Int} {ns:NdL} {ds:List Dp} (h:Pv (r,ns,ds)) {p:Nat} (hp:p<512) {g:Int} {l w:Nat} (hw:wlk (Mof ns) r p=(g,l,w)):fnd ns g=some (lsT (r,ns,ds) p).1∧(lsT (r,ns,ds) p).2=(l,w)∧(gn ns (lsT (r,ns,ds) p).1).1=g∧Mof ns g=some (gn ns (lsT (r,ns,ds) p).1).2∧(lsT (r,ns,ds) p).1<ns.length:=by have h1:=h.walk hp;simp only at h1;rw [hw] at h1;exact ⟨h1.2.1,h1.2.2,fFr h1.2.1,zaB.2 ⟨_,h1.2.1,rfl⟩,zay h1.2.1⟩
theorem zrI {r:Int} {ns:NdL} {ds:List Dp} (h:Pv (r,ns,ds)) {p:Nat} (hp:p<512) (hl:(lsT (r,ns,ds) p).2.1=0):∃ n2 w2 n1 w1 g1 g0,ptL (r,ns,ds) p=[(n2,2,w2),(n1,1,w1),lsT (r,ns,ds) p]∧fnd ns r=some n2∧fnd ns g1=some n1∧fnd ns g0=some (lsT (r,ns,ds) p).1 ∧
  frP WA (Mof ns) r 1 (p/64)=some g1∧frP WA (Mof ns) r 2 (p/8)=some g0:=by
 have hr:=h.root;simp only at hr;have d2:dgt p 2=p/64:=zq0 hp;have d1:dgt p 1=p/8%8:=zos;have f1:frP WA (Mof ns) r 1 (p/64)=zbc (wd ns (rtN (r,ns,ds)) (p/64)):=by simp only [frP,Option.bind_some];rw [show p/64%8=p/64 by omega,zbR hr];rfl
 have f2:frP WA (Mof ns) r 2 (p/8)=(frP WA (Mof ns) r 1 (p/64)).bind fun f=>zbc (wM (Mof ns) f (p/8%8)):=by show (frP WA (Mof ns) r 1 (p/8/8)).bind _=_;rw [show p/8/8=p/64 by omega];rfl
 unfold lsT ptL at *
 simp only [lst,pth,d2,d1] at hl ⊢;cases h2:kid WA ns (wd ns (rtN (r,ns,ds)) (p/64)) with
 | none=>rw [h2] at hl;simp at hl
 | some n1 =>
  rw [h2] at hl;simp only at hl ⊢;cases h1:kid WA ns (wd ns n1 (p/8%8)) with
  | none=>rw [h1] at hl;simp at hl
  | some n0 =>obtain ⟨g1,t1,hg1⟩:=zb0.1 h2;obtain ⟨g0,t0,hg0⟩:=zb0.1 h1;rw [show WA.tab=zbc from rfl] at t1 t0;rw [t1] at f1;rw [f1,Option.bind_some,zbR hg1,t0] at f2;exact ⟨_,_,n1,_,g1,g0,rfl,hr,hg1,hg0,f1,f2⟩
theorem zoz {r:Int} {ns:NdL} {ds:List Dp} (h:Pv (r,ns,ds)) (ht:zf (r,ns,ds)) {p:Nat} (hp:p<512) {g:Int} {l w:Nat} (hw:wlk (Mof ns) r p=(g,l,w)) :
  let ns1:=zo ns (lsT (r,ns,ds) p).1 (dgt p l) 0
  Pv (r,ns1,ds)∧zf (r,ns1,ds)∧wlk (Mof ns1) r p=(g,l,0)∧(∀ d q,(d,q)∈Pos->frP WA (Mof ns1) r d q=frP WA (Mof ns) r d q):=by
 obtain ⟨a1,a2,a3,a4,a5,a6⟩:=zap h.vm hp hw;obtain ⟨e1,e2,_⟩:=zjk h hp hw;obtain ⟨b1,b2,b3,b4,b5⟩:=h.put ht hp hw (w:=0) (by omega) zm7 (ok0 _);have hst:(zb7 (r,ns,ds) p 0).2.1=zo ns (lsT (r,ns,ds) p).1 (dgt p l) 0:=by unfold zb7;simp only [e2]
 rw [hst] at b1 b2 b3 b4;exact ⟨b1,b2,ze2 h.vm hp hw zm7 b3 b4,b4⟩
theorem zxK {r:Int} {ns:NdL} {ds:List Dp} (h:Pv (r,ns,ds)) (ht:zf (r,ns,ds)) {p:Nat} (hp:p<512) (hl:(lsT (r,ns,ds) p).2.1=0) :
  (zjo r ds p 2 (zo ns (lsT (r,ns,ds) p).1 (dgt p 0) 0)).1=kpF (zgh p ns (ptL (r,ns,ds) p).reverse).2 (zgh p ns (ptL (r,ns,ds) p).reverse).1∧(zjo r ds p 2 (zo ns (lsT (r,ns,ds) p).1 (dgt p 0) 0)).2=(zgh p ns (ptL (r,ns,ds) p).reverse).2:=by
 obtain ⟨g,l,w,hw⟩:∃ f l w,wlk (Mof ns) r p=(f,l,w):=⟨_,_,_,rfl⟩
 obtain ⟨e1,e2,e3,e4,e5⟩:=zjk h hp hw;obtain rfl:l=0:=by rw [e2] at hl;exact hl
 obtain ⟨n2,w2,n1,w1,g1,g0,hpt,q2,q1,q0,f1,f0⟩:=zrI h hp hl;obtain rfl:g0=g:=by have k1:=fFr q0;have k2:=fFr e1;rw [<- k1,k2]
 obtain ⟨b1,b2,b3,b4⟩:=zoz h ht hp hw;obtain ⟨ns1,hns1⟩:∃ x,x=zo ns (lsT (r,ns,ds) p).1 (dgt p 0) 0:=⟨_,rfl⟩
 rw [<- hns1] at b1 b2 b3 b4;obtain ⟨a1,a2,a3,a4,a5⟩:=zjk b1 hp b3;have hfnd:∀ x,fnd ns1 x=fnd ns x:=fun x=>by rw [hns1];exact zko e5 x
 have hpos:(lsT (r,ns1,ds) p).1=(lsT (r,ns,ds) p).1:=by rw [hfnd,e1] at a1;simpa using a1.symm
 rw [hpos] at a3 a4 a5;rw [hpt];simp only [List.reverse_cons,List.reverse_nil,List.nil_append,List.cons_append];have hs:(lsT (r,ns,ds) p).2.1=0:=hl;unfold zjo;rw [<- hns1,hpos,a3];simp only [zgh,hs,<- hns1];by_cases hz:(gn ns1 (lsT (r,ns,ds) p).1).2=zs8
 ·rw [if_pos hz,if_pos hz];obtain ⟨f,k,c1,c2,c3,c4,c5,c6,c7,c8,c9,c10,c11⟩:=round b1 b2 hp b3 (by omega) (zhl (by rw [a4,hz]));have hfg:f=g1:=by have hx1:(1,p/64)∈Pos:=ztG (by omega);rw [show 1 - 0=1 from rfl,show p/8^(0+2)=p/64 by simp,b4 _ _ hx1,f1] at c1;simpa using c1.symm
  subst hfg;have hk:k=n1:=by rw [hfnd,q1] at c3;simpa using c3.symm
  subst hk;simp only [Nat.zero_add] at c2 c7 c10 c11;obtain ⟨d1,d2,d3,d4,d5⟩:=zjk c8 hp c10;have hg0:(gn ns (lsT (r,ns,ds) p).1).1=g0:=e3;obtain ⟨nsB,hnsB⟩:∃ x,x=unl (g0.toNat*256+4) (zev ns1 g0):=⟨_,rfl⟩
  rw [<- hnsB] at c7 c8 c9 c10 c11 d1 d2 d3 d4 d5 ⊢;obtain ⟨ns2,hns2⟩:∃ x,x=zo ns1 k (dgt p 1) 0:=⟨_,rfl⟩
  rw [<- hns2] at c11 ⊢;have hkl:k<ns1.length:=zay c3;have hasc2:zby ns2:=by rw [hns2];exact zbS b1.asc hkl
  have hfk2:fnd ns2 f=some k:=by rw [hns2,zko hkl];exact c3
  have hmid:(gn nsB (lsT (r,nsB,ds) p).1).2=(gn ns2 k).2:=by
   have h1:Mof nsB f=some (gn ns2 k).2:=by rw [c11,zl2 hasc2,if_neg (by simpa using c4)];exact zaB.2 ⟨k,hfk2,rfl⟩
   rw [d4] at h1;simpa using h1
  unfold zjo;rw [d3,hmid,hg0];by_cases hz2:(gn ns2 k).2=zs8
  ·rw [if_pos hz2,if_pos hz2];have hzB:Mof nsB f=some zs8:=by rw [d4,hmid,hz2]
   obtain ⟨f',k',i1,i2,i3,i4,i5,i6,i7,i8,i9,i10,i11⟩:=round c8 c9 hp c10 (by omega) (zhl hzB);have hfr:f'=r:=by rw [show 1 - 1=0 from rfl] at i1;simp only [frP,oJ] at i1;exact i1.symm
   subst hfr;simp only [zjo];have hfk:(gn ns1 k).1=f:=fFr c3;rw [hfk];refine ⟨?_,rfl⟩;have hk2:n2<ns2.length:=by rw [hns2,sNl,hns1,sNl];exact zay q2
   have hasc3:zby (zo ns2 n2 (dgt p 2) 0):=zbS hasc2 hk2;have hr2:fnd ns2 f'=some n2:=by rw [hns2,zko hkl,hfnd];exact q2
   have hg0r:g0≠f':=by intro e;have:=h.vm.inj _ _ _ _ (zwP (q:=p/8) (by omega)) zs3 g0 f0 (by rw [e];rfl);omega
   refine zon i8.asc (znU hasc3) fun x=>?_;rw [i7,zl2 hasc3,ziq hasc2 hr2];unfold zaW;rw [show Mof nsB=fun x=>if x∈[g0] then none else Mof ns2 x from zgu fun x=>by rw [c11,zl2 hasc2]];unfold zcs;by_cases x1:x=f
   ·simp [x1]
   ·by_cases x2:x=f'
    ·subst x2;have:¬ x=g0:=fun e=>hg0r e.symm;simp [x1,this]
    ·simp [x1,x2]
  ·rw [if_neg hz2,if_neg hz2];exact ⟨c11,rfl⟩
 ·rw [if_neg hz,if_neg hz];exact ⟨znT.symm,rfl⟩
section
variable {M M':Mm} {root:Int} {p p':Nat}
theorem zu2 (hp:p<512):frP WA M root 1 (p/64)=zbc (wM M root (p/64)):=by simp only [frP,Option.bind_some];rw [show p/64%8=p/64 by omega];rfl
theorem zu1:frP WA M root 2 (p/8)=(frP WA M root 1 (p/64)).bind fun f=>zbc (wM M f (p/8%8)):=by show (frP WA M root 1 (p/8/8)).bind _=_;rw [show p/8/8=p/64 by omega];rfl
theorem ztB (hp:p<512) {l:Nat} (hl:l<=2):(2 - l,p/8^(l+1))∈Pos:=by rcases (by omega:l=0∨l=1∨l=2) with rfl|rfl|rfl<;>rw [za0]<;>simp<;>omega
theorem zhm (hp:p<512) (h:∀ l,l<=2->∀ f,frP WA M root (2 - l) (p/8^(l+1))=some f->wM M' f (dgt p l)=wM M f (dgt p l)):wlk M' root p=wlk M root p:=by
 have h2:wM M' root (p/64)=wM M root (p/64):=by have:=h 2 (by omega) root rfl;rwa [zq0 hp] at this
 have h1:∀ f,frP WA M root 1 (p/64)=some f->wM M' f (p/8%8)=wM M f (p/8%8):=fun f hf=>by have:=h 1 (by omega) f (by rw [show p/8^(1+1)=p/64 by simp];exact hf);rwa [zos] at this
 have h0:∀ f,frP WA M root 2 (p/8)=some f->wM M' f (p%8)=wM M f (p%8):=fun f hf=>by have:=h 0 (by omega) f (by rw [show p/8^(0+1)=p/8 by simp];exact hf);rwa [zwu] at this
 have e1:frP WA M' root 1 (p/64)=frP WA M root 1 (p/64):=by rw [zu2 hp,zu2 hp,h2]
 have e2:frP WA M' root 2 (p/8)=frP WA M root 2 (p/8):=by
  rw [zu1,zu1,e1];cases hx:frP WA M root 1 (p/64) with
  | none=>rfl
  | some f=>simp only [Option.bind_some];rw [h1 f hx]
 unfold wlk;rw [e2,e1];cases hx:frP WA M root 2 (p/8) with
 | some f=>simp only;rw [h0 f hx]
 | none =>
  simp only;cases hy:frP WA M root 1 (p/64) with
  | some f=>simp only;rw [h1 f hy]
  | none=>simp only;rw [h2]
theorem zku {l:Nat} (h1:p'/8^(l+1)=p/8^(l+1)) (hd:dgt p' l=dgt p l):p'/8^l=p/8^l:=by unfold dgt at hd;rw [Nat.pow_succ,<- Nat.div_div_eq_div_mul,<- Nat.div_div_eq_div_mul] at h1;omega
theorem zl4 (hV:VM WA M root) (hp:p<512) {f:Int} {l w0 w:Nat} (hw:wlk M root p=(f,l,w0)) (hM:M'=zcs M f (dgt p l) w) (hp':p'<512) (hne:p'/8^l≠p/8^l):wlk M' root p'=wlk M root p':=by
 obtain ⟨a1,a2,a3,a4,a5,a6⟩:=zap hV hp hw;obtain ⟨ws,c1,c2,_⟩:=hV.nd _ _ a2 f a3;refine zhm hp' fun l' hl' f' hf'=>?_;rw [hM,zcP c1 (by have:=zbA p l;omega),if_neg];rintro ⟨rfl,hd⟩;obtain ⟨i1,i2⟩:=hV.inj _ _ _ _ (ztB hp' hl') a2 _ hf' a3;obtain rfl:l'=l:=by omega
 exact hne (zku i2 hd)
theorem zjM (hV:VM WA M root) (hp:p<512) {f:Int} {l w x:Nat} {g:Int} (hw:wlk M root p=(f,l,w)) (hg:M g=none) (hM:M'=zaW (zcs M f (dgt p l) x) g (some zs8)) (hp':p'<512) (hne:p'/8^l≠p/8^l):wlk M' root p'=wlk M root p':=by
 obtain ⟨a1,a2,a3,a4,a5,a6⟩:=zap hV hp hw;obtain ⟨ws,c1,c2,_⟩:=hV.nd _ _ a2 f a3;refine zhm hp' fun l' hl' f' hf'=>?_;obtain ⟨ws',c1',_⟩:=hV.nd _ _ (ztB hp' hl') f' hf';rw [hM,zeb,if_neg (by rintro rfl;rw [hg] at c1';cases c1'),zcP c1 (by have:=zbA p l;omega),if_neg];rintro ⟨rfl,hd⟩;obtain ⟨i1,i2⟩:=hV.inj _ _ _ _ (ztB hp' hl') a2 _ hf' a3;obtain rfl:l'=l:=by omega
 exact hne (zku i2 hd)
theorem zpO {x:Nat} {f:Int} (h:zbc x=some f):zeP x=false:=by obtain ⟨h1,h2,h3⟩:=zht h;unfold zeP;rw [h3,zks (by omega)];rfl
theorem hBw (hV:VM WA M root) {g:Nat} (hg:g<64) {f:Int} {l w:Nat} (hw:wlk M root (g*8)=(f,l,w)):zpc M root g=(decide (l=1)&&zeP w):=by
 have hp:g*8<512:=by omega
 obtain ⟨a1,a2,a3,a4,a5,a6⟩:=zap hV hp hw;have e1:g*8/64=g/8:=by omega
 have e2:g*8/8=g:=by omega
 rcases (by omega:l=0∨l=1∨l=2) with rfl|rfl|rfl
 ·rw [show g*8/8^(0+1)=g*8/8 by simp] at a3;have a3':frP WA M root 2 (g*8/8)=some f:=a3;rw [zu1,e1,e2] at a3';unfold zpc;cases hx:frP WA M root 1 (g/8) with
  | none=>rfl
  | some f1 =>rw [hx] at a3';simp only [Option.bind_some] at a3';simp only;rw [zpO a3'];rfl
 ·rw [show g*8/8^(1+1)=g*8/64 by simp,e1] at a3;have a3':frP WA M root 1 (g/8)=some f:=a3;rw [zos,e2] at a4;unfold zpc;rw [a3'];simp only;rw [<- a4];simp
 ·have a3':frP WA M root 0 (g*8/8^(2+1))=some f:=a3;simp only [frP,oJ] at a3';subst a3';rw [zq0 hp] at a4;have:frP WA M root 1 (g/8)=none:=by rw [<- e1,zu2 hp,<- a4,a5]
  unfold zpc;rw [this];rfl
end
end Go.AM
namespace Go.AM
open Go Go.Proofs Tryz
section
variable {M M':Mm} {root:Int} {p p':Nat}
theorem zsD {l:Nat} (h:p'/8^l=p/8^l):p'/8^(l+1)=p/8^(l+1)∧dgt p' l=dgt p l:=by refine ⟨?_,by unfold dgt;rw [h]⟩;rw [Nat.pow_succ,<- Nat.div_div_eq_div_mul,<- Nat.div_div_eq_div_mul,h]
theorem zea (hV:VM WA M root) (hp:p<512) {f:Int} {l w:Nat} (hw:wlk M root p=(f,l,w)) (hp':p'<512) (he:p'/8^l=p/8^l):wlk M root p'=(f,l,w):=by obtain ⟨a1,a2,a3,a4,a5,a6⟩:=zap hV hp hw;obtain ⟨c1,c2⟩:=zsD he;have:=zdK (M:=M) (root:=root) hp' a1 (f:=f) (by rw [c1];exact a3) (.inl (by rw [c2,<- a4];exact a5));rw [this,c2,<- a4]
theorem zfz (hV':VM WA M' root) (hp:p<512) {l:Nat} {g:Int} (hw:wlk M' root p=(g,l,0)) (hg:M' g=some zs8) (hp':p'<512) (he:p'/8^(l+1)=p/8^(l+1)):wlk M' root p'=(g,l,0):=by
 obtain ⟨a1,a2,a3,a4,a5,a6⟩:=zap hV' hp hw;have hz:wM M' g (dgt p' l)=0:=by unfold wM;rw [hg];exact zcr _
 have:=zdK (M:=M') (root:=root) hp' a1 (f:=g) (by rw [he];exact a3) (.inl (by rw [hz];exact zm7));rw [this,hz]
end
theorem zlp:zeP 0=false:=by unfold zeP;rw [zew];rfl
theorem zeQ {M M':Mm} {root:Int} (h:∀ k,k<64->zpc M' root k=zpc M root k):zn8 M' root=zn8 M root:=by unfold zn8;congr 1;exact List.filter_congr fun k hk=>h k (List.mem_range.1 hk)
theorem zro {r:Int} {ns:NdL} {ds:List Dp} (hv:Vt (r,ns,ds)) (ht:zf (r,ns,ds)) {p:Nat} (hp:p<512) {g:Nat} (hg:g<=4294967295) (hn:∀ n∈ns,n.1≠(g:Int)) (hd:∀ d∈ds,d.2≠(g:Int)) {f:Int} {l:Nat} (hw:wlk (Mof ns) r p=(f,l+1,0)) (hlen:ns.length<1000000) :
  Vt (r,stD r ds p ns g,ds)∧zf (r,stD r ds p ns g,ds)∧wlk (Mof (stD r ds p ns g)) r p=((g:Int),l,0)∧(stD r ds p ns g).length=ns.length+1 ∧
  ∀ p',p'<512->(wlk (Mof (stD r ds p ns g)) r p').2.2=(wlk (Mof ns) r p').2.2:=by
 obtain ⟨d1,d2,d3,d4,d5,d6⟩:=hv.pv.grow ht hp hg hn hw hlen;obtain ⟨N,hN⟩:∃ N,N=stD r ds p ns g:=⟨_,rfl⟩
 rw [<- hN] at d1 d2 d3 d4 d5 d6 ⊢;have hMg:Mof ns g=none:=(zaZ hv.num.asc).2 hn;have hMf:Mof N g=some zs8:=by rw [d3];simp [zaW]
 have hne:=fun p' (hp':p'<512) (h:p'/8^(l+1)≠p/8^(l+1))=>zjM hv.vm hp hw hMg d3 hp' h;have heq:=fun p' (hp':p'<512) (h:p'/8^(l+1)=p/8^(l+1))=>zfz d1.vm hp d4 hMf hp' h;have heq0:=fun p' (hp':p'<512) (h:p'/8^(l+1)=p/8^(l+1))=>zea hv.vm hp hw hp' h;refine ⟨⟨⟨fun n hn'=>?_,hv.num.df,d1.asc,hv.num.dasc,fun d hd' n hn'=>?_,hv.num.once,?_⟩,d1.vm,?_⟩,d2,d4,d5,fun p' hp'=>?_⟩
 ·rcases d6 n hn' with e|⟨m,hm,e⟩
  ·rw [e];exact ⟨by omega,by omega⟩
  ·rw [e];exact hv.num.fr m hm
 ·rcases d6 n hn' with e|⟨m,hm,e⟩
  ·rw [e];exact fun k=>hd d hd' k.symm
  ·rw [e];exact hv.num.apart d hd' m hm
 ·obtain ⟨ws,m1,_⟩:=d1.vm.nd 0 0 zs3 r rfl;exact ⟨(r,ws),(mMo d1.asc).2 m1,rfl⟩
 ·have hdp:=hv.dep;simp only at hdp ⊢;rw [hdp];refine (zeQ fun k hk=>?_).symm;have hk8:k*8<512:=by omega
  by_cases h:k*8/8^(l+1)=p/8^(l+1)
  ·rw [hBw d1.vm hk (heq _ hk8 h),hBw hv.vm hk (heq0 _ hk8 h),zlp];simp
  ·obtain ⟨f',l',w',hwk⟩:∃ f l w,wlk (Mof ns) r (k*8)=(f,l,w):=⟨_,_,_,rfl⟩
   rw [hBw d1.vm hk ((hne _ hk8 h).trans hwk),hBw hv.vm hk hwk]
 ·by_cases h:p'/8^(l+1)=p/8^(l+1)
  ·rw [heq _ hp' h,heq0 _ hp' h]
  ·rw [hne _ hp' h]
theorem zqv {r:Int} {ns:NdL} {ds:List Dp} (hv:Vt (r,ns,ds)) (ht:zf (r,ns,ds)) {p:Nat} (hp:p<512) {f:Int} {l w0 w:Nat} (hw:wlk (Mof ns) r p=(f,l,w0)) (h0:zeP w0=false) (hw64:w<2^64) (htb:zbc w=none) (hok:zcO l w=true) (hh:zeP w=false) :
  Vt (r,(zb7 (r,ns,ds) p w).2.1,ds)∧zf (r,(zb7 (r,ns,ds) p w).2.1,ds)∧wlk (Mof (zb7 (r,ns,ds) p w).2.1) r p=(f,l,w)∧(zb7 (r,ns,ds) p w).2.1.length=ns.length ∧
  ∀ p',p'<512->p'/8^l≠p/8^l->wlk (Mof (zb7 (r,ns,ds) p w).2.1) r p'=wlk (Mof ns) r p':=by
 obtain ⟨c1,c2,c3,c4,c5⟩:=hv.pv.put ht hp hw hw64 htb hok;have c6:=ze2 hv.vm hp hw htb c3 c4;have hnl:=(zg6 hv.pv hp).1;have hfr:∀ n∈(zb7 (r,ns,ds) p w).2.1,∃ m∈ns,m.1=n.1:=fun n hn=>by
  rcases List.mem_or_eq_of_mem_set hn with h1|h1
  ·exact ⟨n,h1,rfl⟩
  ·exact ⟨_,zaL hnl,by rw [h1];rfl⟩
 obtain ⟨N,hN⟩:∃ N,N=(zb7 (r,ns,ds) p w).2.1:=⟨_,rfl⟩
 rw [<- hN] at c1 c2 c3 c4 c5 c6 hfr ⊢;have hne:=fun p' (hp':p'<512) (h:p'/8^l≠p/8^l)=>zl4 hv.vm hp hw c3 hp' h;refine ⟨⟨⟨fun n hn'=>?_,hv.num.df,c1.asc,hv.num.dasc,fun d hd' n hn'=>?_,hv.num.once,?_⟩,c1.vm,?_⟩,c2,c6,c5,hne⟩
 ·obtain ⟨m,hm,e⟩:=hfr n hn';rw [<- e];exact hv.num.fr m hm
 ·obtain ⟨m,hm,e⟩:=hfr n hn';rw [<- e];exact hv.num.apart d hd' m hm
 ·obtain ⟨ws,m1,_⟩:=c1.vm.nd 0 0 zs3 r rfl;exact ⟨(r,ws),(mMo c1.asc).2 m1,rfl⟩
 ·have hdp:=hv.dep;simp only at hdp ⊢;rw [hdp];refine (zeQ fun k hk=>?_).symm;have hk8:k*8<512:=by omega
  by_cases h:k*8/8^l=p/8^l
  ·rw [hBw c1.vm hk (zea c1.vm hp c6 hk8 h),hBw hv.vm hk (zea hv.vm hp hw hk8 h),hh,h0]
  ·obtain ⟨f',l',w',hwk⟩:∃ f l w,wlk (Mof ns) r (k*8)=(f,l,w):=⟨_,_,_,rfl⟩
   rw [hBw c1.vm hk ((hne _ hk8 h).trans hwk),hBw hv.vm hk hwk]
theorem zfA {r:Int} {ns:NdL} {ds:List Dp} (hv:Vt (r,ns,ds)) (ht:zf (r,ns,ds)) {p:Nat} (hp:p<512) {fs:List Int} (hu:usB ns ds fs=true) (hlen:ns.length<=999000) {f:Int} {l:Nat} (hw:wlk (Mof ns) r p=(f,l,0)):∀ i,i<=fs.length->i<=l ->
  Vt (r,dpN r ds p ns (fs.take i),ds)∧zf (r,dpN r ds p ns (fs.take i),ds)∧(∃ f',wlk (Mof (dpN r ds p ns (fs.take i))) r p=(f',l - i,0))∧(dpN r ds p ns (fs.take i)).length=ns.length+i ∧
  (∀ n∈dpN r ds p ns (fs.take i),(∃ m∈ns,n.1=m.1)∨∃ j,j<i∧n.1=gi fs j)∧∀ p',p'<512->(wlk (Mof (dpN r ds p ns (fs.take i))) r p').2.2=(wlk (Mof ns) r p').2.2
 | 0,_,_=>⟨by rw [zeU];exact hv,by rw [zeU];exact ht,⟨f,by rw [zeU];exact hw⟩,by rw [zeU];rfl,fun n hn=>.inl ⟨n,by rw [zeU] at hn;exact hn,rfl⟩,fun p' _=>by rw [zeU]⟩
 | i+1,hi,hil=>by
  have hl2:=(zap hv.vm hp hw).1;obtain ⟨h1,h2,⟨f',h3⟩,h4,h5,h6⟩:=zfA hv ht hp hu hlen hw i (by omega) (by omega);obtain ⟨⟨g0,g1⟩,u2,u3,u4⟩:=zcQ.1 hu i (by omega);obtain ⟨g,hg⟩:=Int.eq_ofNat_of_zero_le g0;rw [zp2 (by omega)];rw [hg] at g1 u2 u3 u4 ⊢;obtain ⟨L,hL⟩:∃ L,l - i=L+1:=⟨l - i - 1,by omega⟩
  rw [hL] at h3;have hnew:∀ n∈dpN r ds p ns (fs.take i),n.1≠(g:Int):=fun n hn e=>by
   rcases h5 n hn with ⟨m,hm,k⟩|⟨j,hj,k⟩
   ·exact u2 m hm (by rw [<- k];exact e)
   ·exact u4 j hj (by rw [<- k];exact e)
  have hdn:∀ d∈ds,d.2≠(g:Int):=fun d hd=>by obtain ⟨k,hk,rfl⟩:=List.getElem_of_mem hd;rw [<- zax hk];exact u3 k hk
  obtain ⟨_,_,_,_,_,k6⟩:=h1.pv.grow h2 hp (g:=g) (by omega) hnew h3 (by omega);obtain ⟨k1,k2,k3,k4,k5⟩:=zro h1 h2 hp (g:=g) (by omega) hnew hdn h3 (by omega);refine ⟨k1,k2,⟨_,by rw [show l - (i+1)=L by omega];exact k3⟩,by rw [k4,h4];omega,fun n hn=>?_,fun p' hp'=>by rw [k5 p' hp',h6 p' hp']⟩;rcases k6 n hn with e|⟨m,hm,e⟩
  ·exact .inr ⟨i,by omega,by rw [e,hg]⟩
  ·rcases h5 m hm with ⟨m2,hm2,k⟩|⟨j,hj,k⟩
   ·exact .inl ⟨m2,hm2,by rw [e,k]⟩
   ·exact .inr ⟨j,by omega,by rw [e,k]⟩
theorem zqA {r:Int} {ns:NdL} {ds:List Dp} (ht:zf (r,ns,ds)) (hl9:ns.length<=999000) {p:Int} {w:Nat} (hw64:w<2^64) {fs:List Int} {u:Tb} (h:zdD (r,ns,ds) p w fs=(u,0)) :
  ∃ (q:Nat) (f f':Int),p=q∧q<512∧Vt (r,ns,ds)∧(zj w).2=0∧zeP w=false∧zbc w=none∧w≠0∧wlk (Mof ns) r q=(f,fs.length,0)∧usB ns ds fs=true ∧
   u=(r,(zb7 (r,dpN r ds q ns fs,ds) q w).2.1,ds)∧Vt u∧zf u∧u.2.1.length=ns.length+fs.length∧wlk (Mof u.2.1) r q=(f',0,w) ∧
   ∀ p',p'<512->p'≠q->(wlk (Mof u.2.1) r p').2.2=(wlk (Mof ns) r p').2.2:=by
 unfold zdD at h;split at h
 ·rename_i hk;simp only [pJ] at h;exact absurd h.2 hk
 rename_i hk;obtain ⟨hpv,hp0,hp1⟩:=zoE ht hk;have hv:=zq5 ht hk;obtain ⟨q,rfl⟩:=Int.eq_ofNat_of_zero_le hp0;have hq:q<512:=by omega
 split at h
 ·simp at h
 rename_i he;rw [Int.toNat_natCast] at h;split at h
 ·simp at h
 rename_i h0;split at h
 ·rename_i hc;simp only [pJ,and_true] at h;obtain ⟨hlf,hu⟩:=hc;have hls:=(hpv.walk hq).2.2;simp only at hls h0 hlf hu h;obtain ⟨f,l,w0,hw⟩:∃ f l w,wlk (Mof ns) r q=(f,l,w):=⟨_,_,_,rfl⟩
  rw [hw] at hls;rw [hls] at hlf h0;simp only at hlf h0;obtain rfl:w0=0:=by omega
  have hl2:=(zap hpv.vm hq hw).1;obtain ⟨d1,d2,⟨f',d3⟩,d4,d5,d6⟩:=zfA hv ht hq hu hl9 hw fs.length (Nat.le_refl _) (by omega);rw [List.take_length] at d1 d2 d3 d4 d5 d6;rw [show l - fs.length=0 by omega] at d3;have hd0:(zj w).2=0:=by
   by_cases k:(zj w).2=0
   ·exact k
   ·exact absurd (.inl k) he
  have hfl:(zj w).1.2.2.2.2.2=false:=by
   cases k:(zj w).1.2.2.2.2.2
   ·rfl
   ·exact absurd (.inr (.inr (.inr k))) he
  have hk4:(zj w).1.1≠4:=fun k=>he (.inr (.inr (.inl k)));have hk0:(zj w).1.1≠0:=fun k=>he (.inr (.inl k));have hhw:zeP w=false:=by unfold zeP;rw [hfl];simp
  have htb:zbc w=none:=by unfold zbc;rw [if_neg hk4]
  have hw0:w≠0:=fun k=>hk0 (by rw [k,zew];rfl);have hok:zcO 0 w=true:=by unfold zcO zaO;rw [hd0,if_neg hk0,if_neg hk4,hfl];by_cases k1:(zj w).1.1=1<;>simp [k1]
  obtain ⟨e1,e2,e3,e4,e5⟩:=zqv d1 d2 hq d3 zlp hw64 htb hok hhw;have hu':u=(r,(zb7 (r,dpN r ds q ns fs,ds) q w).2.1,ds):=h.symm;refine ⟨q,f,f',rfl,hq,hv,hd0,hhw,htb,hw0,by rw [hw,hlf],hu,hu',?_⟩;rw [hu'];refine ⟨e1,e2,by show (zb7 _ _ _).2.1.length=_;rw [e4,d4],e3,fun p' hp' hne=>?_⟩;show (wlk (Mof (zb7 _ _ _).2.1) r p').2.2=_;rw [e5 p' hp' (by simpa using hne),d6 p' hp']
 ·simp at h
end Go.AM
namespace Go.AM
open Go Go.Proofs Tryz
section
variable {M M':Mm} {root:Int} {p p':Nat}
theorem zix (hV:VM WA M root) (hp:p<512) {f g:Int} {l w:Nat} (hw:wlk M root p=(g,l,w)) (hl:l<2) (hx:(1 - l,p/8^(l+2))∈Pos) (hf:frP WA M root (1 - l) (p/8^(l+2))=some f) (hM:M'=zaW (zcs M f (dgt p (l+1)) 0) g none) (hp':p'<512) (hne:p'/8^(l+1)≠p/8^(l+1)):wlk M' root p'=wlk M root p':=by
 obtain ⟨a1,a2,a3,a4,a5,a6⟩:=zap hV hp hw;obtain ⟨ws,c1,c2,_⟩:=hV.nd _ _ hx f hf;refine zhm hp' fun l' hl' f' hf'=>?_;have hg':f'≠g:=by
  rintro rfl;obtain ⟨i1,i2⟩:=hV.inj _ _ _ _ (ztB hp' hl') a2 _ hf' a3;obtain rfl:l'=l:=by omega
  exact hne i2
 rw [hM,zeb,if_neg hg',zcP c1 (by have:=zbA p (l+1);omega),if_neg];rintro ⟨rfl,hd⟩;obtain ⟨i1,i2⟩:=hV.inj _ _ _ _ (ztB hp' hl') hx _ hf' hf;obtain rfl:l'=l+1:=by omega
 exact hne (zku i2 hd)
end
theorem zph {r:Int} {ns:NdL} {ds:List Dp} (hv:Vt (r,ns,ds)) (ht:zf (r,ns,ds)) {p:Nat} (hp:p<512) {g:Int} {l w:Nat} (hw:wlk (Mof ns) r p=(g,l,w)) (hl:l<2) (hz:Mof ns g=some zs8) :
  Vt (r,unl (g.toNat*256+4) (zev ns g),ds)∧zf (r,unl (g.toNat*256+4) (zev ns g),ds)∧(∃ f,frP WA (Mof ns) r (1 - l) (p/8^(l+2))=some f∧f≠g∧wlk (Mof (unl (g.toNat*256+4) (zev ns g))) r p=(f,l+1,0)∧Mof (unl (g.toNat*256+4) (zev ns g))=zaW (zcs (Mof ns) f (dgt p (l+1)) 0) g none) ∧
  (∀ n∈unl (g.toNat*256+4) (zev ns g),∃ m∈ns,m.1=n.1)∧(∀ p',p'<512->(wlk (Mof (unl (g.toNat*256+4) (zev ns g))) r p').2.2=(wlk (Mof ns) r p').2.2) ∧
  ∀ d q,(d,q)∈Pos->∀ x,frP WA (Mof (unl (g.toNat*256+4) (zev ns g))) r d q=some x->frP WA (Mof ns) r d q=some x:=by
 obtain ⟨f,k,c1,c2,c3,c4,c5,c6,c7,c8,c9,c10,c11⟩:=round hv.pv ht hp hw hl (zhl hz);have hasc2:zby (unl (g.toNat*256+4) (zev ns g)):=c8.asc;have hfr:∀ n∈unl (g.toNat*256+4) (zev ns g),∃ m∈ns,m.1=n.1:=fun n hn=>by obtain ⟨m,hm,rfl⟩:=List.mem_map.1 hn;exact ⟨m,(zei.1 hm).1,rfl⟩
 obtain ⟨N,hN⟩:∃ N,N=unl (g.toNat*256+4) (zev ns g):=⟨_,rfl⟩
 rw [<- hN] at c7 c8 c9 c10 hfr hasc2 ⊢;have hx:(1 - l,p/8^(l+2))∈Pos:=by have:=ztB hp (l:=l+1) (by omega);rwa [show 2 - (l+1)=1 - l by omega] at this
 have hw0:w=0:=by obtain ⟨a1,a2,a3,a4,a5,a6⟩:=zap hv.vm hp hw;rw [a4];unfold wM;rw [hz];exact zcr _
 subst hw0;have hne:=fun p' (hp':p'<512) (h:p'/8^(l+1)≠p/8^(l+1))=>zix hv.vm hp hw hl hx c1 c7 hp' h;have heq0:=fun p' (hp':p'<512) (h:p'/8^(l+1)=p/8^(l+1))=>zfz hv.vm hp hw hz hp' h;have heq:=fun p' (hp':p'<512) (h:p'/8^(l+1)=p/8^(l+1))=>zea c8.vm hp c10 hp' h;refine ⟨⟨⟨fun n hn'=>?_,hv.num.df,hasc2,hv.num.dasc,fun d hd' n hn'=>?_,hv.num.once,?_⟩,c8.vm,?_⟩,c9,⟨f,c1,c4,c10,c7⟩,hfr,fun p' hp'=>?_,fun d q hq x hxx=>?_⟩
 ·obtain ⟨m,hm,e⟩:=hfr n hn';rw [<- e];exact hv.num.fr m hm
 ·obtain ⟨m,hm,e⟩:=hfr n hn';rw [<- e];exact hv.num.apart d hd' m hm
 ·obtain ⟨ws,m1,_⟩:=c8.vm.nd 0 0 zs3 r rfl;exact ⟨(r,ws),(mMo c8.asc).2 m1,rfl⟩
 ·have hdp:=hv.dep;simp only at hdp ⊢;rw [hdp];refine (zeQ fun k hk=>?_).symm;have hk8:k*8<512:=by omega
  by_cases h:k*8/8^(l+1)=p/8^(l+1)
  ·rw [hBw c8.vm hk (heq _ hk8 h),hBw hv.vm hk (heq0 _ hk8 h),zlp];simp
  ·obtain ⟨f',l',w',hwk⟩:∃ f l w,wlk (Mof ns) r (k*8)=(f,l,w):=⟨_,_,_,rfl⟩
   rw [hBw c8.vm hk ((hne _ hk8 h).trans hwk),hBw hv.vm hk hwk]
 ·by_cases h:p'/8^(l+1)=p/8^(l+1)
  ·rw [heq _ hp' h,heq0 _ hp' h]
  ·rw [hne _ hp' h]
 ·have hpr:=hv.vm.prune hx (by omega) c1 (zbA p (l+1)) (w:=0) c2 (zhl hz) zm7 (ok0 (2 - (1 - l)));rw [c7,hpr.2 d q hq] at hxx;split at hxx
  ·simp at hxx
  ·exact hxx
theorem zoA {r:Int} {ds:List Dp} {p:Nat} (hp:p<512):∀ (k:Nat) {ns:NdL} (hv:Vt (r,ns,ds)) (ht:zf (r,ns,ds)) {g:Int} {l:Nat} (hw:wlk (Mof ns) r p=(g,l,0)) (hk:l+k=2),Vt (r,(zjo r ds p k ns).1,ds)∧zf (r,(zjo r ds p k ns).1,ds)∧(∃ g' l',wlk (Mof (zjo r ds p k ns).1) r p=(g',l',0)∧(l'=2∨Mof (zjo r ds p k ns).1 g'≠some zs8)) ∧
  (∀ n∈(zjo r ds p k ns).1,∃ m∈ns,m.1=n.1)∧(∀ p',p'<512->(wlk (Mof (zjo r ds p k ns).1) r p').2.2=(wlk (Mof ns) r p').2.2) ∧
  ∀ d q,(d,q)∈Pos->∀ x,frP WA (Mof (zjo r ds p k ns).1) r d q=some x->frP WA (Mof ns) r d q=some x
 | 0,ns,hv,ht,g,l,hw,hk=>⟨hv,ht,⟨g,l,hw,.inl (by omega)⟩,fun n hn=>⟨n,hn,rfl⟩,fun _ _=>rfl,fun _ _ _ _ h=>h⟩
 | k+1,ns,hv,ht,g,l,hw,hk=>by
  obtain ⟨e1,e2,e3,e4,e5⟩:=zjk hv.pv hp hw;unfold zjo;by_cases hz:(gn ns (lsT (r,ns,ds) p).1).2=zs8
  ·rw [if_pos hz];simp only;rw [e3];rw [hz] at e4;obtain ⟨v1,v2,⟨f,v3,v4,v5,v6⟩,v7,v8,v9⟩:=zph hv ht hp hw (by omega) e4;obtain ⟨u1,u2,u3,u4,u5,u6⟩:=zoA hp k v1 v2 v5 (by omega);refine ⟨u1,u2,u3,fun n hn=>?_,fun p' hp'=>by rw [u5 p' hp',v8 p' hp'],fun d q hq x hx=>v9 d q hq x (u6 d q hq x hx)⟩;obtain ⟨m,hm,em⟩:=u4 n hn;obtain ⟨m2,hm2,em2⟩:=v7 m hm;exact ⟨m2,hm2,em2.trans em⟩
  ·rw [if_neg hz];refine ⟨hv,ht,⟨g,l,hw,.inr ?_⟩,fun n hn=>⟨n,hn,rfl⟩,fun _ _=>rfl,fun _ _ _ _ h=>h⟩;simp only;rw [e4];simpa using hz
theorem zrO {w:Nat} (h:zcO 0 w=true):zeP w=false:=by
 unfold zcO zaO at h;unfold zeP;by_cases h0:(zj w).1.1=0
 ·simp [h0]
 ·by_cases h4:(zj w).1.1=4
  ·simp [h4]
  ·by_cases h1:(zj w).1.1=1
   ·simp [h1] at h;simp [h.2]
   ·simp [h1]
theorem zvp {r:Int} {ns:NdL} {ds:List Dp} (hv:Vt (r,ns,ds)) (ht:zf (r,ns,ds)) {p:Nat} (hp:p<512) {f:Int} {w:Nat} (hw:wlk (Mof ns) r p=(f,0,w)) (h0:w≠0) :
  zcM (r,ns,ds) (p:Int)=((r,(zjo r ds p 2 (zb7 (r,ns,ds) p 0).2.1).1,ds),w,(zjo r ds p 2 (zb7 (r,ns,ds) p 0).2.1).2,0):=by
 have hck:ckd (r,ns,ds) (p:Int) 512=0:=zoD ((zcH ht).2 hv) (by omega) (by omega);have hls:=(hv.pv.walk hp).2.2;simp only at hls;rw [hw] at hls;have hl:(lsT (r,ns,ds) p).2.1=0:=by rw [hls]
 have hw2:(lsT (r,ns,ds) p).2.2=w:=by rw [hls]
 obtain ⟨k1,k2⟩:=zxK hv.pv ht hp hl;have hst:(zb7 (r,ns,ds) p 0).2.1=zo ns (lsT (r,ns,ds) p).1 (dgt p 0) 0:=by unfold zb7;simp only [hl]
 unfold zcM;rw [if_neg (by simp [hck]),Int.toNat_natCast,hw2,if_neg h0];have ha:zpe (r,ns,ds) p=(zgh p ns (ptL (r,ns,ds) p).reverse).2:=by unfold zpe zwz;rw [if_neg (by omega)];rfl
 have hd:zq3 (r,ns,ds) p=ds:=by unfold zq3;rw [if_neg (by omega)]
 rw [ha,hd,hst,k1,k2]
theorem zvo {r:Int} {ns:NdL} {ds:List Dp} (hv:Vt (r,ns,ds)) (ht:zf (r,ns,ds)) {p:Nat} (hp:p<512) {f:Int} {w:Nat} (hw:wlk (Mof ns) r p=(f,0,w)) (h0:w≠0) :
  ∃ N A,zcM (r,ns,ds) (p:Int)=((r,N,ds),w,A,0)∧Vt (r,N,ds)∧zf (r,N,ds)∧(∃ g' l',wlk (Mof N) r p=(g',l',0)∧(l'=2∨Mof N g'≠some zs8)) ∧
  (∀ n∈N,∃ m∈ns,m.1=n.1)∧(∀ p',p'<512->p'≠p->(wlk (Mof N) r p').2.2=(wlk (Mof ns) r p').2.2) ∧
  ∀ d q,(d,q)∈Pos->∀ x,frP WA (Mof N) r d q=some x->frP WA (Mof ns) r d q=some x:=by
 obtain ⟨a1,a2,a3,a4,a5,a6⟩:=zap hv.vm hp hw;obtain ⟨c1,c2,c3,c4,c5⟩:=zqv hv ht hp hw (zrO a6) (w:=0) (by omega) zm7 (ok0 0) zlp;obtain ⟨b1,b2,b3,b4,b5⟩:=hv.pv.put ht hp hw (w:=0) (by omega) zm7 (ok0 _);have hfr:∀ n∈(zb7 (r,ns,ds) p 0).2.1,∃ m∈ns,m.1=n.1:=fun n hn=>by
  rcases List.mem_or_eq_of_mem_set hn with h1|h1
  ·exact ⟨n,h1,rfl⟩
  ·exact ⟨_,zaL (zg6 hv.pv hp).1,by rw [h1];rfl⟩
 obtain ⟨u1,u2,u3,u4,u5,u6⟩:=zoA hp 2 c1 c2 c3 rfl;refine ⟨_,_,zvp hv ht hp hw h0,u1,u2,u3,fun n hn=>?_,fun p' hp' hne=>?_,fun d q hq x hx=>?_⟩
 ·obtain ⟨m,hm,em⟩:=u4 n hn;obtain ⟨m2,hm2,em2⟩:=hfr m hm;exact ⟨m2,hm2,em2.trans em⟩
 ·rw [u5 p' hp',c5 p' hp' (by simpa using hne)]
 ·have:=u6 d q hq x hx;rwa [b4 d q hq] at this
end Go.AM
namespace Go.AM
open Go Go.Proofs Tryz
theorem zuG {r:Int} {ns:NdL} (hv:Vt (r,ns,[])) {p:Nat} (hp:p<512) {f:Int} {l w:Nat} (hw:wlk (Mof ns) r p=(f,l,w)) (h0:w≠0):l=0:=by
 obtain ⟨a1,a2,a3,a4,a5,a6⟩:=zap hv.vm hp hw;by_cases hl:l=0
 ·exact hl
 exfalso;apply h0;refine (zpH a6).1 ?_;have hd:=hv.dep;simp only [List.map_nil] at hd;have hh:l=1->zeP w=false:=by
  rintro rfl;have hk:p/8<64:=by omega
  have hc:=zea hv.vm hp hw (p':=p/8*8) (by omega) (by simp);have hb:=hBw hv.vm hk hc;cases hx:zeP w with
  | false=>rfl
  | true =>rw [hx] at hb;have:((p/8:Nat):Int)∈zn8 (Mof ns) r:=zfm.2 ⟨p/8,hk,rfl,by rw [hb];rfl⟩;rw [<- hd] at this;simp at this
 by_cases k0:(zj w).1.1=0
 ·exact k0
 exfalso;have k4:(zj w).1.1≠4:=fun k=>by unfold zbc at a5;rw [if_pos k] at a5;simp at a5
 unfold zcO zaO at a6;rw [if_neg k0,if_neg k4] at a6;by_cases k1:(zj w).1.1=1
 ·rw [if_pos k1,if_neg hl] at a6;by_cases hl1:l=1
  ·have h1:=hh hl1;unfold zeP at h1;rw [k1] at h1;simp at h1;rw [if_pos hl1,h1] at a6;simp at a6
  ·rw [if_neg hl1] at a6;simp at a6
 ·rw [if_neg k1] at a6;simp [hl] at a6
theorem zsi {r:Int} {ns:NdL} {ds:List Dp} (hv:Pv (r,ns,ds)) (ht:zf (r,ns,ds)) {p:Nat} (hp:p<512) {g:Nat} (hg:g<=4294967295) (hn:∀ n∈ns,n.1≠(g:Int)) {f:Int} {l w:Nat} (hw:wlk (Mof ns) r p=(f,l+1,w)) (hlen:ns.length<1000000) {d q:Nat} (hq:(d,q)∈Pos) {x:Int} (hx:frP WA (Mof (stD r ds p ns g)) r d q=some x) :
  frP WA (Mof ns) r d q=some x∨q=p/8^(3 - d):=by
 obtain ⟨d1,d2,d3,d4,d5,d6⟩:=hv.grow ht hp hg hn hw hlen;obtain ⟨a1,a2,a3,a4,a5,a6⟩:=zap hv.vm hp hw;have hDg:Mof ns (g:Int)=none:=(zaZ hv.asc).2 hn;have hgr:=hv.vm.grow (wdZ fun _=>true) a2 (by omega) a3 (i:=dgt p (l+1)) (w:=g*256+4) (zbA p (l+1)) (by simp only at a4;rw [<- a4];exact a5) hDg (zjR (by omega)) (by show zcO (2 - (2 - (l+1))) _=true;exact znt (by omega) (by omega));rw [d3,hgr.2 d q hq] at hx;split at hx
 ·rename_i h;right;obtain ⟨rfl,rfl⟩:=h;rw [show 3 - (2 - (l+1)+1)=l+1 by omega];unfold dgt;rw [Nat.pow_succ,<- Nat.div_div_eq_div_mul];omega
 ·exact .inl hx
theorem zkr {r:Int} {ns:NdL} {ds:List Dp} (hv:Vt (r,ns,ds)) (ht:zf (r,ns,ds)) {p:Nat} (hp:p<512) {fs:List Int} (hu:usB ns ds fs=true) (hlen:ns.length<=999000) {f:Int} {l:Nat} (hw:wlk (Mof ns) r p=(f,l,0)) {d q:Nat} (hq:(d,q)∈Pos) {x:Int}:∀ i,i<=fs.length->i<=l ->
  frP WA (Mof (dpN r ds p ns (fs.take i))) r d q=some x->frP WA (Mof ns) r d q=some x∨q=p/8^(3 - d)
 | 0,_,_,hx=>by rw [zeU] at hx;exact .inl hx
 | i+1,hi,hil,hx=>by
  have hl2:=(zap hv.vm hp hw).1;obtain ⟨h1,h2,⟨f',h3⟩,h4,h5,h6⟩:=zfA hv ht hp hu hlen hw i (by omega) (by omega);obtain ⟨⟨g0,g1⟩,u2,u3,u4⟩:=zcQ.1 hu i (by omega);obtain ⟨g,hg⟩:=Int.eq_ofNat_of_zero_le g0;rw [zp2 (by omega)] at hx;rw [hg] at g1 u2 u3 u4 hx;obtain ⟨L,hL⟩:∃ L,l - i=L+1:=⟨l - i - 1,by omega⟩
  rw [hL] at h3;have hnew:∀ n∈dpN r ds p ns (fs.take i),n.1≠(g:Int):=fun n hn e=>by
   rcases h5 n hn with ⟨m,hm,k⟩|⟨j,hj,k⟩
   ·exact u2 m hm (by rw [<- k];exact e)
   ·exact u4 j hj (by rw [<- k];exact e)
  rcases zsi h1.pv h2 hp (g:=g) (by omega) hnew h3 (by omega) hq hx with h|h
  ·exact zkr hv ht hp hu hlen hw hq i (by omega) (by omega) h
  ·exact .inr h
structure IsM (ns:NdL) (m:List Nat) (nx:Nat):Prop where
 v:Vt (0,ns,[])
 ok:zf (0,ns,[])
 len:m.length=512
 w:∀ p,p<512->(wlk (Mof ns) 0 p).2.2=m.getD p 0
 f:∀ d q,(d,q)∈Pos->0<d->∀ x,frP WA (Mof ns) 0 d q=some x->∃ p,p<512∧p/8^(3 - d)=q∧m.getD p 0≠0
 fr:∀ n∈ns,n.1<nx
 u64:∀ w∈m,w<2^64
theorem zhH:∀ {l m:List Int},l.Nodup->(∀ x∈l,x∈m)->l.length<=m.length
 | [],_,_,_=>by simp
 | x::l,m,h,hs=>by
  rw [List.nodup_cons] at h;have h1:=zhH (l:=l) (m:=m.erase x) h.2 fun y hy=>by have:y≠x:=fun e=>h.1 (e ▸ hy);exact (List.mem_erase_of_ne this).2 (hs y (by simp [hy]))
  rw [List.length_erase_of_mem (hs x (by simp))] at h1;have:0<m.length:=List.length_pos_of_mem (hs x (by simp));simp only [List.length_cons];omega
def zug (M:Mm) (r:Int):List Int:=Pos.filterMap fun x=>frP WA M r x.1 x.2
theorem zc4 {α:Type} {f:α->Option Int}:∀ {l:List α},l.Nodup->(∀ a∈l,∀ b∈l,∀ x,f a=some x->f b=some x->a=b)->(l.filterMap f).Nodup
 | [],_,_=>by simp
 | a::l,h,hi=>by
  rw [List.nodup_cons] at h;have ih:=zc4 (l:=l) h.2 fun x hx y hy=>hi x (by simp [hx]) y (by simp [hy]);rw [List.filterMap_cons];cases hf:f a with
  | none=>exact ih
  | some x =>simp only;rw [List.nodup_cons];refine ⟨fun hx=>?_,ih⟩;obtain ⟨b,hb,e⟩:=List.mem_filterMap.1 hx;have:=hi a (by simp) b (by simp [hb]) x hf e;exact h.1 (this ▸ hb)
theorem zk5 {r:Int} {ns:NdL} (ha:zby ns) (hV:VM WA (Mof ns) r):ns.length=(zug (Mof ns) r).length:=by
 have h1:(ns.map (·.1)).Nodup:=by unfold List.Nodup;rw [List.pairwise_map];exact List.Pairwise.imp (fun h=>Int.ne_of_lt h) ha
 have h2:(zug (Mof ns) r).Nodup:=by refine zc4 zjE fun a ha' b hb x h3 h4=>?_;obtain ⟨a1,a2⟩:=a;obtain ⟨b1,b2⟩:=b;obtain ⟨e1,e2⟩:=hV.inj _ _ _ _ ha' hb x h3 h4;rw [e1,e2]
 have k1:=zhH h1 (m:=zug (Mof ns) r) fun x hx=>by obtain ⟨n,hn,rfl⟩:=List.mem_map.1 hx;obtain ⟨d,q,hq,e⟩:=hV.all n.1 n.2 ((mMo ha).1 hn);exact List.mem_filterMap.2 ⟨(d,q),hq,e⟩
 have k2:=zhH h2 (m:=ns.map (·.1)) fun x hx=>by obtain ⟨⟨d,q⟩,hq,e⟩:=List.mem_filterMap.1 hx;obtain ⟨ws,m1,_⟩:=hV.nd d q hq x e;exact List.mem_map.2 ⟨(x,ws),(mMo ha).2 m1,rfl⟩
 simp only [List.length_map] at k1 k2;omega
theorem znl {M:Mm} {r:Int}:(zug M r).length<=73:=by
 have:=List.length_filterMap_le (fun x:Nat×Nat=>frP WA M r x.1 x.2) Pos;have h2:Pos.length=73:=by decide
 unfold zug;omega
theorem IsM.le {ns:NdL} {m:List Nat} {nx:Nat} (h:IsM ns m nx):ns.length<=73:=by rw [zk5 h.v.num.asc h.v.vm];exact znl
def nxF (nx k:Nat):List Int:=(List.range k).map fun i=>((nx+i:Nat):Int)
@[simp] theorem znx {nx k:Nat}:(nxF nx k).length=k:=by simp [nxF]
theorem zg0 {nx k i:Nat} (h:i<k):gi (nxF nx k) i=((nx+i:Nat):Int):=by rw [zgG (by simpa using h)];simp [nxF]
theorem za5 {m:List Nat} {p q w:Nat} (hp:p<m.length):(m.set p w).getD q 0=if q=p then w else m.getD q 0:=by
 rw [List.getD_eq_getElem?_getD,List.getElem?_set];by_cases e:p=q
 ·subst e;simp [hp]
 ·have:¬ q=p:=fun h=>e h.symm;simp [e,this,List.getD_eq_getElem?_getD]
theorem IsM.set {ns:NdL} {m:List Nat} {nx:Nat} (h:IsM ns m nx) {p:Nat} (hp:p<512) (h0:m.getD p 0=0) {w:Nat} (hw64:w<2^64) (e1:(zj w).2=0) (e2:(zj w).1.1≠0) (e3:(zj w).1.1≠4) (e4:(zj w).1.2.2.2.2.2=false) (hnx:nx+2<=4294967295) :
  ∃ k N,zaq (0,ns,[]) p=(k,0)∧k<=2∧zdD (0,ns,[]) p w (nxF nx k)=((0,N,[]),0)∧IsM N (m.set p w) (nx+k):=by
 have hck:ckd (0,ns,[]) (p:Int) 512=0:=zoD ((zcH h.ok).2 h.v) (by omega) (by omega);have hls:=(h.v.pv.walk hp).2.2;have hle:=h.le;simp only at hls;obtain ⟨f,l,w0,hw⟩:∃ f l w,wlk (Mof ns) 0 p=(f,l,w):=⟨_,_,_,rfl⟩
 have hw0:w0=0:=by have:=h.w p hp;rw [hw,h0] at this;exact this
 subst hw0;rw [hw] at hls;have hl2:=(zap h.v.vm hp hw).1;have hmi:zaq (0,ns,[]) p=(l,0):=by unfold zaq;rw [if_pos hck,Int.toNat_natCast,hls];simp only;rw [if_neg];rintro ⟨_,hx⟩;rw [zew] at hx;simp [zE] at hx
 have hus:usB ns [] (nxF nx l)=true:=by
  refine zcQ.2 fun i hi=>?_;simp only [znx] at hi;unfold usC;rw [zg0 hi];refine ⟨⟨by omega,by omega⟩,fun n hn=>?_,fun k hk=>by simp at hk,fun j hj=>?_⟩
  ·have:=h.fr n hn;omega
  ·rw [zg0 (by omega)];omega
 have hse:∃ N,zdD (0,ns,[]) p w (nxF nx l)=((0,N,[]),0):=by unfold zdD;rw [if_neg (by simp [hck]),if_neg (by simp [e1,e2,e3,e4]),Int.toNat_natCast,hls];simp only;rw [if_neg (by simp),if_pos ⟨by simp,hus⟩];exact ⟨_,rfl⟩
 obtain ⟨N,hN⟩:=hse;obtain ⟨q,f1,f',hpq,hq,hv,h1,h2,h3,h4,hwq,hu,hue,v1,v2,v3,v4,v5⟩:=zqA h.ok (by omega) hw64 hN;obtain rfl:p=q:=by omega
 refine ⟨l,N,hmi,hl2,hN,?_⟩;obtain ⟨d1,d2,⟨f2,d3⟩,d4,d5,d6⟩:=zfA h.v h.ok hp hus (by omega) hw l (by simp) (Nat.le_refl _);rw [tkL (by simp)] at d1 d2 d3 d4 d5;have hok0:zcO 0 w=true:=(zap v1.vm hp v4).2.2.2.2.2;simp only [pJ,true_and,and_true] at hue;obtain ⟨b1,b2,b3,b4,b5⟩:=d1.pv.put d2 hp (by rw [Nat.sub_self] at d3;exact d3) hw64 h3 hok0;have hpl:p<m.length:=by rw [h.len];exact hp
 refine ⟨v1,v2,by simp [h.len],fun q hq'=>?_,fun d q hq' hd x hx=>?_,fun n hn=>?_,fun x hx=>?_⟩
 ·rw [za5 hpl];by_cases e:q=p
  ·subst e;rw [if_pos rfl];simp only at v4;rw [v4]
  ·rw [if_neg e,<- h.w q hq'];exact v5 q hq' e
 ·rw [hue] at hx;rw [b4 d q hq'] at hx;rcases zkr h.v h.ok hp hus (by omega) hw hq' (i:=l) (by simp) (Nat.le_refl _) (by rw [tkL (by simp)];exact hx) with h6|h6
  ·obtain ⟨p',k1,k2,k3⟩:=h.f d q hq' hd x h6;refine ⟨p',k1,k2,?_⟩;rw [za5 hpl];split
   ·exact h4
   ·exact k3
  ·refine ⟨p,hp,h6.symm,?_⟩;rw [za5 hpl,if_pos rfl];exact h4
 ·rw [hue] at hn;have hfr:∃ m∈dpN 0 [] p ns (nxF nx l),m.1=n.1:=by
   rcases List.mem_or_eq_of_mem_set hn with h7|h7
   ·exact ⟨n,h7,rfl⟩
   ·exact ⟨_,zaL (zg6 d1.pv hp).1,by rw [h7];rfl⟩
  obtain ⟨n2,hn2,e⟩:=hfr;rw [<- e];rcases d5 n2 hn2 with ⟨n3,hn3,e5⟩|⟨j,hj,e5⟩
  ·have:=h.fr n3 hn3;omega
  ·rw [zg0 hj] at e5;omega
 ·rcases List.mem_or_eq_of_mem_set hx with h7|h7
  ·exact h.u64 x h7
  ·rw [h7];exact hw64
def m0:List Nat:=List.replicate 512 0
theorem zuF:m0.length=512:=List.length_replicate
theorem znK {p:Nat}:m0.getD p 0=0:=by unfold m0;rw [List.getD_eq_getElem?_getD,List.getElem?_replicate];split<;>rfl
def zvv (m:List Nat) (i j n:Nat):Bool:=(List.range n).any fun k=>decide (m.getD (i*64+j*8+k) 0≠0)
def zCd (m:List Nat) (i n:Nat):Nat:=((List.range n).filter fun j=>zvv m i j 8).length
def zCe (m:List Nat) (i n:Nat):Bool:=(List.range n).any fun j=>zvv m i j 8
def zxj (m:List Nat):Nat->Nat
 | 0=>1
 | n+1=>zxj m n+(zCd m n 8+if zCe m n 8=true then 1 else 0)
def zo8 (m:List Nat):Nat->List Pe
 | 0=>[]
 | n+1=>zo8 m n++if m.getD n 0≠0 then [((n:Int),m.getD n 0)] else []
theorem IsM.chk {ns:NdL} {m:List Nat} {nx:Nat} (h:IsM ns m nx):chk (0,ns,[])=0:=(zcH h.ok).2 h.v
theorem IsM.lst {ns:NdL} {m:List Nat} {nx:Nat} (h:IsM ns m nx):zq (0,ns,[])=zo8 m 512:=by
 unfold zq;rw [if_pos h.chk];have key:∀ n,n<=512->lsA (0,ns,[]) n=zo8 m n:=by
  intro n;induction n with
  | zero=>intro _;rfl
  | succ n ih =>
   intro hn;have hp:n<512:=by omega
   simp only [lsA,zo8];rw [ih (by omega)];congr 1;unfold lsF;obtain ⟨f,l,w,hw⟩:∃ f l w,wlk (Mof ns) 0 n=(f,l,w):=⟨_,_,_,rfl⟩
   have hwm:=h.w n hp;have hls:=(h.v.pv.walk hp).2.2;simp only at hls;rw [hw] at hwm hls;simp only at hwm;rw [hls,<- hwm];by_cases h0:w=0
   ·simp [h0]
   ·have hl:=zuG h.v hp hw h0;rw [if_pos ⟨h0,.inl hl⟩,if_pos h0]
 exact key 512 (Nat.le_refl _)
structure ziw (r:Int) (ns:NdL) (m:List Nat) (nx:Nat):Prop where
 v:Vt (r,ns,[])
 ok:zf (r,ns,[])
 len:m.length=512
 w:∀ p,p<512->(wlk (Mof ns) r p).2.2=m.getD p 0
 f:∀ d q,(d,q)∈Pos->0<d->∀ x,frP WA (Mof ns) r d q=some x->∃ p,p<512∧p/8^(3 - d)=q∧m.getD p 0≠0
 fr:∀ n∈ns,n.1<nx
 u64:∀ w∈m,w<2^64
theorem ziw.le {r:Int} {ns:NdL} {m:List Nat} {nx:Nat} (h:ziw r ns m nx):ns.length<=73:=by rw [zk5 h.v.num.asc h.v.vm];exact znl
theorem ziw.set {r:Int} {ns:NdL} {m:List Nat} {nx:Nat} (h:ziw r ns m nx) {p:Nat} (hp:p<512) (h0:m.getD p 0=0) {w:Nat} (hw64:w<2^64) (e1:(zj w).2=0) (e2:(zj w).1.1≠0) (e3:(zj w).1.1≠4) (e4:(zj w).1.2.2.2.2.2=false) (hnx:nx+2<=4294967295) :
  ∃ k N,zaq (r,ns,[]) p=(k,0)∧k<=2∧zdD (r,ns,[]) p w (nxF nx k)=((r,N,[]),0)∧ziw r N (m.set p w) (nx+k):=by
 have hck:ckd (r,ns,[]) (p:Int) 512=0:=zoD ((zcH h.ok).2 h.v) (by omega) (by omega);have hls:=(h.v.pv.walk hp).2.2;have hle:=h.le;simp only at hls;obtain ⟨f,l,w0,hw⟩:∃ f l w,wlk (Mof ns) r p=(f,l,w):=⟨_,_,_,rfl⟩
 have hw0:w0=0:=by have:=h.w p hp;rw [hw,h0] at this;exact this
 subst hw0;rw [hw] at hls;have hl2:=(zap h.v.vm hp hw).1;have hmi:zaq (r,ns,[]) p=(l,0):=by unfold zaq;rw [if_pos hck,Int.toNat_natCast,hls];simp only;rw [if_neg];rintro ⟨_,hx⟩;rw [zew] at hx;simp [zE] at hx
 have hus:usB ns [] (nxF nx l)=true:=by
  refine zcQ.2 fun i hi=>?_;simp only [znx] at hi;unfold usC;rw [zg0 hi];refine ⟨⟨by omega,by omega⟩,fun n hn=>?_,fun k hk=>by simp at hk,fun j hj=>?_⟩
  ·have:=h.fr n hn;omega
  ·rw [zg0 (by omega)];omega
 have hse:∃ N,zdD (r,ns,[]) p w (nxF nx l)=((r,N,[]),0):=by unfold zdD;rw [if_neg (by simp [hck]),if_neg (by simp [e1,e2,e3,e4]),Int.toNat_natCast,hls];simp only;rw [if_neg (by simp),if_pos ⟨by simp,hus⟩];exact ⟨_,rfl⟩
 obtain ⟨N,hN⟩:=hse;obtain ⟨q,f1,f',hpq,hq,hv,h1,h2,h3,h4,hwq,hu,hue,v1,v2,v3,v4,v5⟩:=zqA h.ok (by omega) hw64 hN;obtain rfl:p=q:=by omega
 refine ⟨l,N,hmi,hl2,hN,?_⟩;obtain ⟨d1,d2,⟨f2,d3⟩,d4,d5,d6⟩:=zfA h.v h.ok hp hus (by omega) hw l (by simp) (Nat.le_refl _);rw [tkL (by simp)] at d1 d2 d3 d4 d5;have hok0:zcO 0 w=true:=(zap v1.vm hp v4).2.2.2.2.2;simp only [pJ,true_and,and_true] at hue;obtain ⟨b1,b2,b3,b4,b5⟩:=d1.pv.put d2 hp (by rw [Nat.sub_self] at d3;exact d3) hw64 h3 hok0;have hpl:p<m.length:=by rw [h.len];exact hp
 refine ⟨v1,v2,by simp [h.len],fun q hq'=>?_,fun d q hq' hd x hx=>?_,fun n hn=>?_,fun x hx=>?_⟩
 ·rw [za5 hpl];by_cases e:q=p
  ·subst e;rw [if_pos rfl];simp only at v4;rw [v4]
  ·rw [if_neg e,<- h.w q hq'];exact v5 q hq' e
 ·rw [hue] at hx;rw [b4 d q hq'] at hx;rcases zkr h.v h.ok hp hus (by omega) hw hq' (i:=l) (by simp) (Nat.le_refl _) (by rw [tkL (by simp)];exact hx) with h6|h6
  ·obtain ⟨p',k1,k2,k3⟩:=h.f d q hq' hd x h6;refine ⟨p',k1,k2,?_⟩;rw [za5 hpl];split
   ·exact h4
   ·exact k3
  ·refine ⟨p,hp,h6.symm,?_⟩;rw [za5 hpl,if_pos rfl];exact h4
 ·rw [hue] at hn;have hfr:∃ m∈dpN r [] p ns (nxF nx l),m.1=n.1:=by
   rcases List.mem_or_eq_of_mem_set hn with h7|h7
   ·exact ⟨n,h7,rfl⟩
   ·exact ⟨_,zaL (zg6 d1.pv hp).1,by rw [h7];rfl⟩
  obtain ⟨n2,hn2,e⟩:=hfr;rw [<- e];rcases d5 n2 hn2 with ⟨n3,hn3,e5⟩|⟨j,hj,e5⟩
  ·have:=h.fr n3 hn3;omega
  ·rw [zg0 hj] at e5;omega
 ·rcases List.mem_or_eq_of_mem_set hx with h7|h7
  ·exact h.u64 x h7
  ·rw [h7];exact hw64
theorem ziw.clr {r:Int} {ns:NdL} {m:List Nat} {nx:Nat} (h:ziw r ns m nx) {p:Nat} (hp:p<512) (h0:m.getD p 0≠0) :
  ∃ N A,zcM (r,ns,[]) (p:Int)=((r,N,[]),m.getD p 0,A,0)∧ziw r N (m.set p 0) nx:=by
 obtain ⟨f,l,w,hw⟩:∃ f l w,wlk (Mof ns) r p=(f,l,w):=⟨_,_,_,rfl⟩
 have hwm:w=m.getD p 0:=by have:=h.w p hp;rw [hw] at this;exact this
 rw [<- hwm] at h0 ⊢;obtain rfl:=zuG h.v hp hw h0;obtain ⟨N,A,c1,c2,c3,⟨g,l,c4,c5⟩,c6,c7,c8⟩:=zvo h.v h.ok hp hw h0;have hpl:p<m.length:=by rw [h.len];exact hp
 refine ⟨N,A,c1,c2,c3,by simp [h.len],fun q hq=>?_,fun d q hq hd x hx=>?_,fun n hn=>?_,fun x hx=>?_⟩
 ·rw [za5 hpl];by_cases e:q=p
  ·subst e;rw [if_pos rfl,c4]
  ·rw [if_neg e,<- h.w q hq];exact c7 q hq e
 ·have hd2:d<=2:=by have:=za0.1 hq;simp only at this;omega
  by_cases hpq:q=p/8^(3 - d)
  ·obtain ⟨a1,a2,a3,a4,a5,a6⟩:=zap c2.vm hp c4;have hld:l<=2 - d:=by
    rcases (by omega:d=1∨d=2) with rfl|rfl
    ·rcases (by omega:l=0∨l=1∨l=2) with rfl|rfl|rfl
     ·omega
     ·omega
     ·exfalso;rw [hpq,show (8:Nat)^(3 - 1)=64 from rfl,zu2 hp] at hx;have a3':frP WA (Mof N) r 0 (p/8^(2+1))=some g:=a3;simp only [frP,oJ] at a3';rw [zq0 hp] at a4;rw [a3',<- a4,a5] at hx;simp at hx
    ·rcases (by omega:l=0∨l=1∨l=2) with rfl|rfl|rfl
     ·omega
     ·exfalso;rw [hpq,show p/8^(3 - 2)=p/8 by simp,zu1] at hx;have a3':frP WA (Mof N) r 1 (p/64)=some g:=by have:=a3;rwa [show p/8^(1+1)=p/64 by simp] at this
      rw [zos] at a4;rw [a3',Option.bind_some,<- a4,a5] at hx;simp at hx
     ·exfalso;rw [hpq,show p/8^(3 - 2)=p/8 by simp,zu1,zu2 hp] at hx;have a3':frP WA (Mof N) r 0 (p/8^(2+1))=some g:=a3;simp only [frP,oJ] at a3';rw [zq0 hp] at a4;rw [a3',<- a4,a5] at hx;simp at hx
   have hl1:l<=1:=by omega
   have hnz:=c5.resolve_left (by omega);obtain ⟨ws,m1,m2,m3⟩:=c2.vm.nd _ _ a2 g a3;obtain ⟨j,hj,hjw⟩:∃ j,j<8∧ws.getD j 0≠0:=by
    by_cases hall:∀ j,j<8->ws.getD j 0=0
    ·exfalso;apply hnz;rw [m1];congr 1;refine List.ext_getElem (by rw [m2];rfl) fun j h1 h2=>?_;have k1:=hall j (by omega);rw [List.getD_eq_getElem?_getD,List.getElem?_eq_getElem h1] at k1;simp only [Option.getD_some] at k1;rw [k1];exact (List.eq_of_mem_replicate (n:=8) (a:=0) (show zs8[j]∈List.replicate 8 0 from List.getElem_mem h2)).symm
    ·simp only [Classical.not_forall] at hall;obtain ⟨j,hj,hjw⟩:=hall;exact ⟨j,hj,hjw⟩
   have hjM:wM (Mof N) g j=ws.getD j 0:=by unfold wM;rw [m1]
   rcases (by omega:l=0∨l=1) with rfl|rfl
   ·have hp':p/8*8+j<512:=by omega
    have e8:(p/8*8+j)/8^(0+1)=p/8^(0+1):=by simp;omega
    have hwk:=zdK (M:=Mof N) (root:=r) hp' (l:=0) (by omega) (f:=g) (by rw [e8];exact a3) (.inr rfl);rw [zwu,show (p/8*8+j)%8=j by omega,hjM] at hwk;have hne:p/8*8+j≠p:=by intro e;rw [e,c4] at hwk;simp only [pJ] at hwk;exact hjw hwk.2.2.symm
    refine ⟨p/8*8+j,hp',?_,?_⟩
    ·rw [hpq];rcases (by omega:d=1∨d=2) with rfl|rfl<;>simp<;>omega
    ·rw [za5 hpl,if_neg hne,<- h.w _ hp',<- c7 _ hp' hne,hwk];exact hjw
   ·obtain rfl:d=1:=by omega
    have hp':p/64*64+j*8<512:=by omega
    have e8:(p/64*64+j*8)/8^(1+1)=p/8^(1+1):=by simp;omega
    have hjd:j≠dgt p 1:=by intro e;rw [e] at hjM hjw;rw [hjM] at a4;exact hjw a4.symm
    rw [zos] at hjd;cases htj:zbc (wM (Mof N) g j) with
    | none =>
     exfalso;have hwk:=zdK (M:=Mof N) (root:=r) hp' (l:=1) (by omega) (f:=g) (by rw [e8];exact a3) (.inl (by rw [zos,show (p/64*64+j*8)/8%8=j by omega];exact htj));rw [zos,show (p/64*64+j*8)/8%8=j by omega,hjM] at hwk;have:=zuG c2 hp' hwk hjw;omega
    | some g2 =>
     have hq2:(2,p/64*8+j)∈Pos:=zwP (by omega);have hf2:frP WA (Mof N) r 2 (p/64*8+j)=some g2:=by
      have a3':frP WA (Mof N) r 1 (p/64)=some g:=by have:=a3;rwa [show p/8^(1+1)=p/64 by simp] at this
      show (frP WA (Mof N) r 1 ((p/64*8+j)/8)).bind _=_;rw [show (p/64*8+j)/8=p/64 by omega,a3',show (p/64*8+j)%8=j by omega];exact htj
     obtain ⟨p',k1,k2,k3⟩:=h.f 2 _ hq2 (by omega) g2 (c8 _ _ hq2 _ hf2);have k2':p'/8=p/64*8+j:=by simpa using k2
     have hne:p'≠p:=by rintro rfl;omega
     refine ⟨p',k1,?_,?_⟩
     ·rw [hpq];simp;omega
     ·rw [za5 hpl,if_neg hne];exact k3
  ·obtain ⟨p',k1,k2,k3⟩:=h.f d q hq hd x (c8 d q hq x hx);refine ⟨p',k1,k2,?_⟩;rw [za5 hpl,if_neg]
   ·exact k3
   ·rintro rfl;exact hpq k2.symm
 ·obtain ⟨m2,hm2,e⟩:=c6 n hn;rw [<- e];exact h.fr m2 hm2
 ·rcases List.mem_or_eq_of_mem_set hx with h7|h7
  ·exact h.u64 x h7
  ·rw [h7];omega
theorem ziw.chk {r:Int} {ns:NdL} {m:List Nat} {nx:Nat} (h:ziw r ns m nx):chk (r,ns,[])=0:=(zcH h.ok).2 h.v
theorem ziw.lst {r:Int} {ns:NdL} {m:List Nat} {nx:Nat} (h:ziw r ns m nx):zq (r,ns,[])=zo8 m 512:=by
 unfold zq;rw [if_pos h.chk];have key:∀ n,n<=512->lsA (r,ns,[]) n=zo8 m n:=by
  intro n;induction n with
  | zero=>intro _;rfl
  | succ n ih =>
   intro hn;have hp:n<512:=by omega
   simp only [lsA,zo8];rw [ih (by omega)];congr 1;unfold lsF;obtain ⟨f,l,w,hw⟩:∃ f l w,wlk (Mof ns) r n=(f,l,w):=⟨_,_,_,rfl⟩
   have hwm:=h.w n hp;have hls:=(h.v.pv.walk hp).2.2;simp only at hls;rw [hw] at hwm hls;simp only at hwm;rw [hls,<- hwm];by_cases h0:w=0
   ·simp [h0]
   ·have hl:=zuG h.v hp hw h0;rw [if_pos ⟨h0,.inl hl⟩,if_pos h0]
 exact key 512 (Nat.le_refl _)
theorem ziw.walk {r:Int} {ns:NdL} {m:List Nat} {nx:Nat} (h:ziw r ns m nx) {p:Nat} (hp:p<512):∃ l,zaK (r,ns,[]) (p:Int)=(m.getD p 0,l,0):=by have hls:=(h.v.pv.walk hp).2.2;simp only at hls;rw [zjO (zoD h.chk (by omega) (by omega)),Int.toNat_natCast,<- h.w p hp,hls];exact ⟨_,rfl⟩
theorem ziw.walk0 {r:Int} {ns:NdL} {m:List Nat} {nx:Nat} (h:ziw r ns m nx) {p:Nat} (hp:p<512) (h0:m.getD p 0≠0):zaK (r,ns,[]) (p:Int)=(m.getD p 0,0,0):=by
 have hls:=(h.v.pv.walk hp).2.2;simp only at hls;rw [zjO (zoD h.chk (by omega) (by omega)),Int.toNat_natCast,<- h.w p hp,hls];obtain ⟨f,l,w,hw⟩:∃ f l w,wlk (Mof ns) r p=(f,l,w):=⟨_,_,_,rfl⟩
 have hwm:=h.w p hp;rw [hw] at hwm ⊢;simp only at hwm ⊢;rw [zuG h.v hp hw (by rw [hwm];exact h0)]
noncomputable section
theorem zuv {n k:Nat}:nxF n (k+1)=nxF n k++[((n+k:Nat):Int)]:=by unfold nxF;rw [List.range_succ,List.map_append];rfl
def wdE (f:Nat) (w:Bool):Nat:=(zdq (1,(f:Int),w,false,false,false)).1.toNat
theorem ziy {f:Nat} {w:Bool} (hf:f<=4294967295):zdq (1,(f:Int),w,false,false,false)=((wdE f w:Int),0)∧wdE f w<2^64∧zj (wdE f w)=((1,(f:Int),w,false,false,false),0):=by
 obtain ⟨n,h1,h2,h3⟩:=@zp5 1 (f:Int) w false false false (by decide) (by omega) (by unfold zky;simp only;simp;omega) (by cases w<;>rfl);have e:wdE f w=n:=by unfold wdE;rw [h1];rfl
 rw [e];exact ⟨h1,h2,h3⟩
abbrev InI:={x:(List Tb×List (List Dp)×Nat)×Nat×Int×Nat×Bool // x.2.1<x.1.1.length∧x.1.1.length<=1000∧x.2.2.2.1<x.1.2.1.length∧x.1.2.1.length<=1000∧zf (tbG x.1.1 x.2.1)∧(tbG x.1.1 x.2.1).2.1.length<=999000∧x.1.2.2<=4000000000 ∧
  (zaq (tbG x.1.1 x.2.1) x.2.2.1).2=0∧(zaq (tbG x.1.1 x.2.1) x.2.2.1).1<=2∧(zdD (tbG x.1.1 x.2.1) x.2.2.1 (wdE x.2.2.2.1 x.2.2.2.2) (nxF x.1.2.2 (zaq (tbG x.1.1 x.2.1) x.2.2.1).1)).2=0 ∧
  (gmm x.1.2.1 x.2.2.2.1).length<=1000000∧(zhj (gmm x.1.2.1 x.2.2.2.1) ((x.2.1:Int),x.2.2.1)).2=0}
def zuR (x:(List Tb×List (List Dp)×Nat)×Nat×Int×Nat×Bool):BtD :=(x.1.1.set x.2.1 (zdD (tbG x.1.1 x.2.1) x.2.2.1 (wdE x.2.2.2.1 x.2.2.2.2) (nxF x.1.2.2 (zaq (tbG x.1.1 x.2.1) x.2.2.1).1)).1,x.1.2.1.set x.2.2.2.1 (zhj (gmm x.1.2.1 x.2.2.2.1) ((x.2.1:Int),x.2.2.1)).1,((x.1.2.2+(zaq (tbG x.1.1 x.2.1) x.2.2.1).1:Nat):Int))
def zmx:List AV->List AO->Option (AV×List AO):=za1 (ι:=InI) (fun x=>[.bp 0 0,I x.1.2.1,I x.1.2.2.1,I x.1.2.2.2.1,B x.1.2.2.2.2]) (fun x=>btM (x.1.1.1,x.1.1.2.1,(x.1.1.2.2:Int))) (fun _=>rtO [B true]) fun x=>btM (zuR x.1)
set_option maxHeartbeats 8000000 in
theorem s74 (X:AX) (L:BtX X):GSd prog 74 zmx:=by
 have hX:=L.ok;have hw:=L.w;unfold zmx;refine gsS func74 rfl X fun ⟨⟨⟨T,ms,nx⟩,s,p,f,wr⟩,hs,hl,hf,hfl,ht,htl,hnx,hm0,hm2,hs0,hgl,hr0⟩ w0 L' E=>⟨by show 5<=117;decide,?_⟩
 simp only at hs hl hf hfl ht htl hnx hm0 hm2 hs0 hgl hr0 ⊢;unfold zuR;simp only [btM];show AW ⟨prog,X,117,w0,⟨L',E,3⟩⟩ _ _ _;have hc:Cx.OK ⟨prog,X,117,w0,⟨L',E,3⟩⟩:=⟨hX,mixed⟩
 have hg:=zcf hs;have hgE:=zcS hs;have hm:=zdj hf;have hmE:=zfl hf;have hsI:(s:Int)<(T.length:Int):=by omega
 have hfI:(f:Int)<(ms.length:Int):=by omega
 obtain ⟨w1,w2,w3⟩:=@ziy f wr (by omega);have en:=L.en 1 (f:Int) wr false false false;rw [w1] at en;have mi:=L.mi _ p ht;rw [hm0] at mi;obtain ⟨k,hkk⟩:∃ k,k=(zaq (tbG T s) p).1:=⟨_,rfl⟩
 rw [<- hkk] at mi hm2 hs0 ⊢;have se:=L.se (tbG T s) p (wdE f wr) (nxF nx k) ⟨ht,htl,w2,by simp;omega⟩;rw [hs0] at se;have ad:=L.ad _ (s:Int) p hgl;rw [hr0] at ad;obtain ⟨wd,hwd⟩:∃ w,w=wdE f wr:=⟨_,rfl⟩
 rw [<- hwd] at en se ⊢;have hts:=@zm6 T s (zdD (tbG T s) p wd (nxF nx k)).1;have hms:=@zg3 ms f (zhj (gmm ms f) ((s:Int),p)).1;obtain ⟨⟨r',ns',ds'⟩,hC⟩:∃ x,x=(zdD (tbG T s) p wd (nxF nx k)).1:=⟨_,rfl⟩
 obtain ⟨R',hR⟩:∃ x,x=(zhj (gmm ms f) ((s:Int),p)).1:=⟨_,rfl⟩
 rw [<- hC] at se hts ⊢;rw [<- hR] at ad hms ⊢;obtain ⟨⟨r,ns,ds⟩,hT⟩:∃ t,t=tbG T s:=⟨_,rfl⟩
 obtain ⟨R,hRR⟩:∃ t,t=gmm ms f:=⟨_,rfl⟩
 rw [<- hT] at mi se hg hgE;rw [<- hRR] at ad hm hmE;simp only [TbV] at mi se hg hgE hts;have hkI1:¬ (k:Int)<0:=by omega
 have hkI2:¬ (2:Int)<(k:Int):=by omega
 have hkN2:¬ 2<k:=by omega
 simp only [B,U] at en se;have zS:=jj hs<|jj hsI<|jj hg<|jj hgE<|jj en<|jj mi<|jj hkI1<|jj hkI2<|hkN2;repeat' (first|(refine aSk fun K hK=>?_)|(refine zp ?_)|(refine eC (fun h=>?_) (fun h=>?_)<;>(try simp at h))|(refine hK _ ?_;clear hK)|(clear hK;refine hK _ ?_;clear hK))
 all_goals clear zS
 refine zad (zeN (t:=15) (sz:=1) (by simp)) ?_;have hap:∀ i,irw (nxF nx i)++[[I ((nx:Int)+(i:Nat))]]=irw (nxF nx (i+1)):=fun i=>by rw [zuv,zpK];simp
 have htk:∀ i,List.take i (irw (nxF nx i))=irw (nxF nx i):=fun i=>tkL (by simp);refine aLK (s0:=?lps1) (m0:=?lpm1) (ι:={i:Nat // i<=k}) [0,1,2,3,11,51] (fun i=>[(52,I i.1),(15,.sl 659 1 1 0 i.1)]) (fun i=>[(0,.box [.sl 1 1 3 0 T.length,.sl 2 1 1 0 ms.length,I ((nx:Int)+i.1)]),(659,.vec 1 1 false (irw (nxF nx i.1)))]) (fun i=>k - i.1) ⟨0,by omega⟩ ?lhs1 ?lhm1 ?_ ?_
 case lhs1=>first|(simp [kpS];done)|(simp [kpS];rfl)
 case lhm1=>first|rfl|(simp;done)|(simp;rfl)
 ·simp only [show nxF nx 0=[] from rfl,Int.natCast_zero,Int.add_zero];exact zaN (by simp) (by simp [zdT,AV.under,AV.underL,irw]<;>omega) (by simp [zeE,AO.under,AV.underL,AV.under,irw]<;>omega)
 ·rintro ⟨i,hi⟩;simp only;rcases dE (i<k) with hil|hil
  ·have hilI:(i:Int)<(k:Int):=by omega
   have hilN:i<1000:=by omega
   have zS:=jj hilI<|jj hap<|htk;repeat' (first|(refine aSk fun K hK=>?_)|(refine zp ?_)|(refine eC (fun h=>?_) (fun h=>?_)<;>(try simp at h))|(refine hK _ ?_;clear hK)|clear hK)
   all_goals clear zS
   refine ⟨i+1,?_,by omega,by omega⟩;simp only [show (nx:Int)+((i+1:Nat):Int)=nx+i+1 by omega];refine zaI (s1:=?tus2) (m1:=?tum2) [] [0,1,2,3,4,11,12,13,14,15,51,52] [0,1,2,659] ?tua2 ?tub2 ?tuc2 ?tud2 ?tue2 ?tuf2 ?tug2
   case tua2=>first|(simp [kpS];done)|(simp [kpS];rfl)
   case tub2=>first|(simp;done)|(simp;rfl)
   case tuc2=>simp
   case tud2=>simp
   case tue2=>simp
   case tuf2=>simp
   case tug2 =>simp [swp,vr];exact dle
  ·obtain rfl:i=k:=by omega
   refine zad (znS (t:=15) (b:=659) (v:=1) (sz:=1) (f:=false) (xs:=irw (nxF nx i)) (by simp) (by simp)) ?_;have zS:=jj hs<|jj hsI<|jj hg<|jj hgE<|jj hf<|jj hfI<|jj hm<|jj hmE<|jj se<|jj ad<|jj hts<|hms;repeat' (first|(refine aSk fun K hK=>?_)|(refine zp ?_)|(refine eC (fun h=>?_) (fun h=>?_)<;>(try simp at h))|(refine hK _ ?_;clear hK)|clear hK)
   all_goals clear zS
   refine ⟨by simp,_,by simp [aRs,aRt,f74];rfl,?_⟩;simp only [idx,List.length_set,show ((nx+i:Nat):Int)=(nx:Int)+(i:Int) by omega];exact dle
end
theorem zmY {f:Nat} {w:Bool} (hf:f<=4294967295):wdE f w≠0:=fun e=>by obtain ⟨_,_,h3⟩:=@ziy f w hf;rw [e,zew] at h3;simp [zE] at h3
theorem zqL {f:Nat} {w:Bool} {p:Int} (hf:f<=4294967295):nmE (p,wdE f w)=[(p,(f:Int))]:=by obtain ⟨_,_,h3⟩:=@ziy f w hf;unfold nmE;rw [h3];simp
theorem zhL {m:List Nat} {x:Pe}:∀ {n:Nat},x∈zo8 m n↔∃ p,p<n∧m.getD p 0≠0∧x=((p:Int),m.getD p 0)
 | 0=>by simp [zo8]
 | n+1=>by
  have ih:=@zhL m x n;simp only [zo8,List.mem_append,ih];constructor
  ·rintro (⟨p,h1,h2,h3⟩|h)
   ·exact ⟨p,by omega,h2,h3⟩
   ·split at h
    ·rename_i h0;simp only [List.mem_singleton] at h;exact ⟨n,by omega,h0,h⟩
    ·simp at h
  ·rintro ⟨p,h1,h2,h3⟩;rcases Nat.lt_succ_iff_lt_or_eq.1 h1 with h4|rfl
   ·exact .inl ⟨p,h4,h2,h3⟩
   ·right;rw [if_pos h2];simpa using h3
structure TbI (N:Nat) (T:List Tb) (F:Nat->Nat->Int) (nx:Nat):Prop where
 n8:N<=8
 len:T.length=N
 rng:∀ s q,-1<=F s q∧F s q<32
 tb:∀ s,s<N->∃ ns m,tbG T s=(((100+s:Nat):Int),ns,[])∧ziw ((100+s:Nat):Int) ns m nx∧∀ p,p<512 ->
  (∃ q,q<4∧p=60+3*q∧∃ f:Nat,F s q=(f:Int)∧∃ w,m.getD p 0=wdE f w)∨((∀ q,q<4->p=60+3*q->F s q=-1)∧m.getD p 0=0)
theorem TbI.mem {N:Nat} {T:List Tb} {F:Nat->Nat->Int} {nx:Nat} (h:TbI N T F nx) {s:Nat} (hs:s<N) {a g:Int}:(a,g)∈nmT (zq (tbG T s))↔∃ q,q<4∧a=((60+3*q:Nat):Int)∧F s q=g∧0<=g:=by
 obtain ⟨ns,m,h1,h2,h3⟩:=h.tb s hs;rw [h1,h2.lst];unfold nmT;rw [List.mem_flatMap];constructor
 ·rintro ⟨x,hx,hm⟩;obtain ⟨p,hp,hp0,rfl⟩:=zhL.1 hx;rcases h3 p hp with ⟨q,hq,rfl,f,hf,w,hw⟩|⟨_,h0⟩
  ·have hr:=h.rng s q;rw [hw,zqL (by omega)] at hm;simp only [List.mem_singleton,pJ] at hm;exact ⟨q,hq,hm.1,by rw [hm.2];exact hf,by omega⟩
  ·exact absurd h0 hp0
 ·rintro ⟨q,hq,rfl,hF,h0⟩;rcases h3 (60+3*q) (by omega) with ⟨q',hq',e,f,hf,w,hw⟩|⟨hn,_⟩
  ·obtain rfl:q=q':=by omega
   have hr:=h.rng s q;refine ⟨(((60+3*q:Nat):Int),m.getD (60+3*q) 0),zhL.2 ⟨60+3*q,by omega,by rw [hw];exact zmY (by omega),rfl⟩,?_⟩;rw [hw,zqL (by omega)];simp only [List.mem_singleton,pJ,true_and];rw [<- hF];exact hf
  ·have:=hn q hq rfl;omega
theorem TbI.ok {N:Nat} {T:List Tb} {F:Nat->Nat->Int} {nx:Nat} (h:TbI N T F nx):∀ t∈T,zf t∧Vt t:=fun t ht=>by obtain ⟨s,hs,rfl⟩:=List.getElem_of_mem ht;obtain ⟨ns,m,h1,h2,_⟩:=h.tb s (by rw [<- h.len];exact hs);rw [<- zkT hs,h1];exact ⟨h2.ok,h2.v⟩
theorem TbI.of {N:Nat} {T:List Tb} {F:Nat->Nat->Int} {nx:Nat} (h:TbI N T F nx) {g:Int} (hg:0<=g) {x:Dp}:x∈ofT T g↔∃ s q,s<N∧q<4∧x=((s:Int),((60+3*q:Nat):Int))∧F s q=g:=by
 have e8:T.take 8=T:=tkL (by have:=h.n8;have:=h.len;omega);unfold ofT;rw [e8,zhG];constructor
 ·rintro ⟨s,hs,h1,h2⟩;obtain ⟨q,hq,h3,h4,_⟩:=(h.mem (by rw [<- h.len];exact hs)).1 h2;exact ⟨s,q,by rw [<- h.len];exact hs,hq,Prod.ext h1 h3,h4⟩
 ·rintro ⟨s,q,hs,hq,rfl,hF⟩;exact ⟨s,by rw [h.len];exact hs,rfl,(h.mem hs).2 ⟨q,hq,rfl,hF,hg⟩⟩
theorem TbI.asc {N:Nat} {T:List Tb} {F:Nat->Nat->Int} {nx:Nat} (h:TbI N T F nx) {g:Int}:(ofT T g).Pairwise ltM:=by have e8:T.take 8=T:=tkL (by have:=h.n8;have:=h.len;omega);unfold ofT;rw [e8];exact zj2 h.ok (Nat.le_refl _)
theorem TbI.chk {N:Nat} {T:List Tb} {F:Nat->Nat->Int} {nx:Nat} (h:TbI N T F nx) {g:Int}:zgw (ofT T g)=0:=by have e8:T.take 8=T:=tkL (by have:=h.n8;have:=h.len;omega);unfold ofT;rw [e8];exact zrR h.ok (by have:=h.n8;have:=h.len;omega)
theorem zb4:∀ {a b:List Dp},a.Pairwise ltM->b.Pairwise ltM->(∀ x,x∈a↔x∈b)->a=b
 | [],[],_,_,_=>rfl
 | [],y::b,_,_,h=>by have:=(h y).2 (by simp);simp at this
 | x::a,[],_,_,h=>by have:=(h x).1 (by simp);simp at this
 | x::a,y::b,ha,hb,h=>by
  rw [List.pairwise_cons] at ha hb;have exy:x=y:=by
   rcases List.mem_cons.1 ((h x).1 (by simp)) with e|e
   ·exact e
   ·rcases List.mem_cons.1 ((h y).2 (by simp)) with e2|e2
    ·exact e2.symm
    ·exact absurd (za3 (ha.1 y e2) (hb.1 x e)) (zbM x)
  subst exy;rw [zb4 ha.2 hb.2 fun z=>?_];constructor
  ·intro hz;rcases List.mem_cons.1 ((h z).1 (by simp [hz])) with e|e
   ·subst e;exact absurd (ha.1 z hz) (zbM z)
   ·exact e
  ·intro hz;rcases List.mem_cons.1 ((h z).2 (by simp [hz])) with e|e
   ·subst e;exact absurd (hb.1 z hz) (zbM z)
   ·exact e
theorem zpA {l:List Dp} {m x:Dp}:x∈zq1 l m↔x∈l∧x≠m:=by simp [zq1]
theorem zp3 {l:List Dp} {m:Dp} (h:l.Pairwise ltM):(zq1 l m).Pairwise ltM:=h.filter _
theorem zhM {m x:Dp}:∀ {l:List Dp},x∈zpa l m↔x=m∨x∈l
 | []=>by simp [zpa]
 | y::r=>by
  unfold zpa;split
  ·simp
  ·simp only [List.mem_cons,zhM (l:=r)];constructor
   ·rintro (h|h|h)
    ·exact .inr (.inl h)
    ·exact .inl h
    ·exact .inr (.inr h)
   ·rintro (h|h|h)
    ·exact .inr (.inl h)
    ·exact .inl h
    ·exact .inr (.inr h)
theorem zlm {m:Dp}:∀ {l:List Dp},l.Pairwise ltM->m ∉ l->(zpa l m).Pairwise ltM
 | [],_,_=>by simp [zpa]
 | y::r,h,hm=>by
  unfold zpa;split
  ·rename_i h1;rw [List.pairwise_cons] at h ⊢;refine ⟨fun z hz=>?_,List.pairwise_cons.2 h⟩;rcases List.mem_cons.1 hz with rfl|hz
   ·exact h1
   ·exact za3 h1 (h.1 z hz)
  ·rename_i h1;rw [List.pairwise_cons] at h ⊢;refine ⟨fun z hz=>?_,zlm h.2 fun hh=>hm (by simp [hh])⟩;rcases zhM.1 hz with rfl|hz
   ·rcases znL z y with h3|h3|h3
    ·exact absurd h3 h1
    ·exact absurd (by simp [h3]) hm
    ·exact h3
   ·exact h.1 z hz
def zr (F:Nat->Nat->Int) (s q:Nat) (v:Int):Nat->Nat->Int:=fun a b=>if a=s∧b=q then v else F a b
theorem zi7 {T:List Tb} {n f:Nat} (h:f<n):gmm (zh T n) f=ofT T (f:Int):=by rw [zi8 (by simp [zh];omega)];simp [zh]
theorem ziW {T T':List Tb} {n f:Nat} {R:List Dp} (hf:f<n) (h1:ofT T' (f:Int)=R) (h2:∀ g,g<n->g≠f->ofT T' (g:Int)=ofT T (g:Int)):(zh T n).set f R=zh T' n:=by
 apply List.ext_getElem
 ·simp [zh]
 ·intro i a b;have hi:i<n:=by simpa [zh] using b
  rw [List.getElem_set];by_cases e:f=i
  ·subst e;simp [zh,h1]
  ·rw [if_neg e];simp [zh,h2 i hi (fun h=>e h.symm)]
theorem zkS {T:List Tb} {s a:Nat} {t:Tb} (h:s<T.length):tbG (T.set s t) a=if a=s then t else tbG T a:=by
 unfold tbG;rw [List.getD_eq_getElem?_getD,List.getElem?_set];by_cases e:s=a
 ·subst e;simp [h]
 ·have:¬ a=s:=fun h=>e h.symm;simp [e,this,List.getD_eq_getElem?_getD]
variable {N:Nat} {T:List Tb} {F:Nat->Nat->Int} {nx:Nat}
theorem TbI.at (h:TbI N T F nx) {s q:Nat} (hs:s<N) (hq:q<4):atT T s ((60+3*q:Nat):Int)=F s q∧(zaK (tbG T s) ((60+3*q:Nat):Int)).1<2^64:=by
 obtain ⟨ns,m,h1,h2,h3⟩:=h.tb s hs;have hp:60+3*q<512:=by omega
 unfold atT;rw [h1];rcases h3 _ hp with ⟨q',hq',e,f,hf,w,hw⟩|⟨hn,h0⟩
 ·obtain rfl:q=q':=by omega
  have hr:=h.rng s q;have hf2:f<=4294967295:=by omega
  obtain ⟨_,w2,w3⟩:=@ziy f w hf2;rw [h2.walk0 hp (by rw [hw];exact zmY hf2),hw];simp only;rw [w3];exact ⟨by simp [hf],w2⟩
 ·obtain ⟨l,hl⟩:=h2.walk hp;rw [hl,h0];simp only;rw [zew];have:=hn q hq rfl;refine ⟨?_,by omega⟩;rw [if_neg (by simp [zE]),this]
theorem TbI.remove (h:TbI N T F nx) {s q f:Nat} (hs:s<N) (hq:q<4) (hf:F s q=(f:Int)) :
  (zcM (tbG T s) ((60+3*q:Nat):Int)).2.2.2=0∧TbI N (T.set s (zcM (tbG T s) ((60+3*q:Nat):Int)).1) (zr F s q (-1)) nx:=by
 obtain ⟨ns,m,h1,h2,h3⟩:=h.tb s hs;have hp:60+3*q<512:=by omega
 have hsl:s<T.length:=by rw [h.len];exact hs
 rcases h3 _ hp with ⟨q',hq',e,f',hf',w,hw⟩|⟨hn,_⟩
 ·obtain ⟨ns',A,c1,c2⟩:=h2.clr hp (by rw [hw];have:=h.rng s q';exact zmY (by omega));rw [h1,c1];refine ⟨rfl,h.n8,by simp [h.len],fun a b=>?_,fun a ha=>?_⟩
  ·unfold zr;split
   ·omega
   ·exact h.rng a b
  ·rw [zkS hsl];by_cases e2:a=s
   ·subst e2;rw [if_pos rfl];refine ⟨ns',m.set (60+3*q) 0,rfl,c2,fun p hp2=>?_⟩;rw [za5 (by rw [h2.len];exact hp)];by_cases e3:p=60+3*q
    ·rw [if_pos e3];right;refine ⟨fun b hb e4=>?_,rfl⟩;obtain rfl:b=q:=by omega
     unfold zr;rw [if_pos ⟨rfl,rfl⟩]
    ·rw [if_neg e3];rcases h3 p hp2 with ⟨b,hb,e4,g,hg,w',hw'⟩|⟨hn2,h0⟩
     ·left;refine ⟨b,hb,e4,g,?_,w',hw'⟩;unfold zr;rw [if_neg (fun hh=>e3 (by rw [e4,hh.2]))];exact hg
     ·right;refine ⟨fun b hb e4=>?_,h0⟩;unfold zr;rw [if_neg (fun hh=>e3 (by rw [e4,hh.2]))];exact hn2 b hb e4
   ·rw [if_neg e2];obtain ⟨ns2,m2,k1,k2,k3⟩:=h.tb a ha;refine ⟨ns2,m2,k1,k2,fun p hp2=>?_⟩;have e5:∀ b,zr F s q (-1) a b=F a b:=fun b=>by unfold zr;rw [if_neg fun hh=>e2 hh.1]
    simp only [e5];exact k3 p hp2
 ·have:=hn q hq rfl;omega
theorem TbI.install (h:TbI N T F nx) {s q f:Nat} (hs:s<N) (hq:q<4) (hF:F s q=-1) (hf:f<32) (w:Bool) (hnx:nx<=4000000000) :
  (zaq (tbG T s) ((60+3*q:Nat):Int)).2=0∧(zaq (tbG T s) ((60+3*q:Nat):Int)).1<=2∧(zdD (tbG T s) ((60+3*q:Nat):Int) (wdE f w) (nxF nx (zaq (tbG T s) ((60+3*q:Nat):Int)).1)).2=0 ∧
  TbI N (T.set s (zdD (tbG T s) ((60+3*q:Nat):Int) (wdE f w) (nxF nx (zaq (tbG T s) ((60+3*q:Nat):Int)).1)).1) (zr F s q (f:Int)) (nx+(zaq (tbG T s) ((60+3*q:Nat):Int)).1):=by
 obtain ⟨ns,m,h1,h2,h3⟩:=h.tb s hs;have hp:60+3*q<512:=by omega
 have hsl:s<T.length:=by rw [h.len];exact hs
 obtain ⟨_,w2,w3⟩:=@ziy f w (by omega);have h0:m.getD (60+3*q) 0=0:=by
  rcases h3 _ hp with ⟨q',hq',e,f',hf',w',hw'⟩|⟨_,h0⟩
  ·obtain rfl:q=q':=by omega
   omega
  ·exact h0
 obtain ⟨k,ns',c1,c2,c3,c4⟩:=h2.set hp h0 w2 (by rw [w3]) (by rw [w3];simp) (by rw [w3];simp) (by rw [w3]) (by omega);rw [h1,c1];simp only;rw [c3];refine ⟨trivial,c2,rfl,h.n8,by simp [h.len],fun a b=>?_,fun a ha=>?_⟩
 ·unfold zr;split
  ·omega
  ·exact h.rng a b
 ·rw [zkS hsl];by_cases e2:a=s
  ·subst e2;rw [if_pos rfl];refine ⟨ns',m.set (60+3*q) (wdE f w),rfl,c4,fun p hp2=>?_⟩;rw [za5 (by rw [h2.len];exact hp)];by_cases e3:p=60+3*q
   ·rw [if_pos e3];left;refine ⟨q,hq,e3,f,?_,w,rfl⟩;unfold zr;rw [if_pos ⟨rfl,rfl⟩]
   ·rw [if_neg e3];rcases h3 p hp2 with ⟨b,hb,e4,g,hg,w',hw'⟩|⟨hn2,h0⟩
    ·left;refine ⟨b,hb,e4,g,?_,w',hw'⟩;unfold zr;rw [if_neg (fun hh=>e3 (by rw [e4,hh.2]))];exact hg
    ·right;refine ⟨fun b hb e4=>?_,h0⟩;unfold zr;rw [if_neg (fun hh=>e3 (by rw [e4,hh.2]))];exact hn2 b hb e4
  ·rw [if_neg e2];obtain ⟨ns2,m2,k1,k2,k3⟩:=h.tb a ha;refine ⟨ns2,m2,k1,⟨k2.v,k2.ok,k2.len,k2.w,k2.f,fun n hn=>by have:=k2.fr n hn;omega,k2.u64⟩,fun p hp2=>?_⟩;have e5:∀ b,zr F s q (f:Int) a b=F a b:=fun b=>by unfold zr;rw [if_neg fun hh=>e2 hh.1]
   simp only [e5];exact k3 p hp2
theorem TbI.rem (h:TbI N T F nx) {s q f:Nat} (hs:s<N) (hq:q<4) (hf:F s q=(f:Int)) {T':List Tb} {nx':Nat} (h':TbI N T' (zr F s q (-1)) nx') (hf32:f<32) :
  zgS (ofT T (f:Int)) ((s:Int),((60+3*q:Nat):Int))=(ofT T' (f:Int),0)∧∀ g:Nat,g≠f->ofT T' (g:Int)=ofT T (g:Int):=by
 have hm:((s:Int),((60+3*q:Nat):Int))∈ofT T (f:Int):=(h.of (by omega)).2 ⟨s,q,hs,hq,rfl,hf⟩;constructor
 ·unfold zgS;rw [if_pos h.chk,if_pos hm];congr 1;refine zb4 (zp3 h.asc) h'.asc fun x=>?_;rw [zpA,h.of (by omega),h'.of (by omega)];constructor
  ·rintro ⟨⟨a,b,ha,hb,rfl,hF⟩,hne⟩;refine ⟨a,b,ha,hb,rfl,?_⟩;unfold zr;rw [if_neg]
   ·exact hF
   ·rintro ⟨rfl,rfl⟩;exact hne rfl
  ·rintro ⟨a,b,ha,hb,rfl,hF⟩;unfold zr at hF;split at hF
   ·omega
   ·rename_i hne;refine ⟨⟨a,b,ha,hb,rfl,hF⟩,fun e=>hne ?_⟩;simp only [pJ] at e;omega
 ·intro g hg;refine zb4 h'.asc h.asc fun x=>?_;rw [h.of (by omega),h'.of (by omega)];constructor
  ·rintro ⟨a,b,ha,hb,rfl,hF⟩;unfold zr at hF;split at hF
   ·omega
   ·exact ⟨a,b,ha,hb,rfl,hF⟩
  ·rintro ⟨a,b,ha,hb,rfl,hF⟩;refine ⟨a,b,ha,hb,rfl,?_⟩;unfold zr;rw [if_neg]
   ·exact hF
   ·rintro ⟨rfl,rfl⟩;rw [hf] at hF;omega
theorem TbI.add (h:TbI N T F nx) {s q f:Nat} (hs:s<N) (hq:q<4) (hF:F s q=-1) {T':List Tb} {nx':Nat} (h':TbI N T' (zr F s q (f:Int)) nx') (hf32:f<32) :
  zhj (ofT T (f:Int)) ((s:Int),((60+3*q:Nat):Int))=(ofT T' (f:Int),0)∧∀ g:Nat,g≠f->ofT T' (g:Int)=ofT T (g:Int):=by
 have hm:¬ ((s:Int),((60+3*q:Nat):Int))∈ofT T (f:Int):=fun hh=>by
  obtain ⟨a,b,ha,hb,e,hF2⟩:=(h.of (by omega)).1 hh;simp only [pJ] at e;obtain rfl:a=s:=by omega
  obtain rfl:b=q:=by omega
  omega
 have hN:=h.n8;constructor
 ·unfold zhj;rw [if_pos h.chk,if_pos (by unfold zgx;simp only;omega),if_neg hm];congr 1;refine zb4 (zlm h.asc hm) h'.asc fun x=>?_;rw [zhM,h.of (by omega),h'.of (by omega)];constructor
  ·rintro (rfl|⟨a,b,ha,hb,rfl,hF2⟩)
   ·refine ⟨s,q,hs,hq,rfl,?_⟩;unfold zr;rw [if_pos ⟨rfl,rfl⟩]
   ·refine ⟨a,b,ha,hb,rfl,?_⟩;unfold zr;rw [if_neg]
    ·exact hF2
    ·rintro ⟨rfl,rfl⟩;omega
  ·rintro ⟨a,b,ha,hb,rfl,hF2⟩;unfold zr at hF2;split at hF2
   ·rename_i hh;obtain ⟨rfl,rfl⟩:=hh;exact .inl rfl
   ·exact .inr ⟨a,b,ha,hb,rfl,hF2⟩
 ·intro g hg;refine zb4 h'.asc h.asc fun x=>?_;rw [h.of (by omega),h'.of (by omega)];constructor
  ·rintro ⟨a,b,ha,hb,rfl,hF2⟩;unfold zr at hF2;split at hF2
   ·omega
   ·exact ⟨a,b,ha,hb,rfl,hF2⟩
  ·rintro ⟨a,b,ha,hb,rfl,hF2⟩;refine ⟨a,b,ha,hb,rfl,?_⟩;unfold zr;rw [if_neg]
   ·exact hF2
   ·rintro ⟨rfl,rfl⟩;omega
theorem TbI.inv (h:TbI N T F nx):zsd T (zh T 32)=true:=by
 have e8:T.take 8=T:=tkL (by have:=h.n8;have:=h.len;omega);have hl:(zh T 32).length=32:=by simp [zh]
 rw [zsc,hl,e8,decide_eq_true rfl,Bool.and_true];have key:∀ k,k<=N->zeq T 32 k=true:=fun k=>by
  induction k with
  | zero=>intro _;rfl
  | succ k ih =>intro hk;simp only [zeq,ih (by omega),Bool.true_and,List.all_eq_true,decide_eq_true_eq];rintro ⟨a,g⟩ he;obtain ⟨q,hq,_,h2,_⟩:=(h.mem (by omega)).1 he;have:=h.rng k q;simp only;omega
 rw [h.len];exact key N (Nat.le_refl _)
end Go.AM
namespace Go.AM
open Go Go.Proofs Tryz
theorem zsP {b c:BtD} (h:btR b=btR c):b=c:=by obtain ⟨T,M,n⟩:=b;obtain ⟨T',M',n'⟩:=c;simp [btR,I,zbk,zck] at h;obtain ⟨rfl,rfl,rfl⟩:=h;rfl
theorem zvG {T:List Tb} {ms:List (List Dp)} {nx:Int} {s:Nat} {p:Int} (hs:s<T.length) (hl:T.length<=1000) (ht:zf (tbG T s)) (hu:(zaK (tbG T s) p).1<2^64) {a t m:Nat} (M:Nat->AO) (nid:Nat)
  (ha:M a=.box [.sl t 1 3 0 T.length,.sl m 1 1 0 ms.length,I nx]) (hT:M t=.vec 1 3 false (zc T)) (hm:M m=.vec 1 1 false (zg ms)) :
  caP FBa [.bp a 0,I s,I p] M nid=some (I (atT T s p),[]):=by
 have tk1:List.take T.length (zc T)=zc T:=tkL (by simp [zc]);have tk2:List.take ms.length (zg ms)=zg ms:=tkL (by simp);have hl1:(zc T).length=T.length:=by simp [zc]
 exact cPs (ι:={x:BtD×Nat×Int // x.2.1<x.1.1.length∧x.1.1.length<=1000∧zf (tbG x.1.1 x.2.1)∧(zaK (tbG x.1.1 x.2.1) x.2.2).1<2^64}) (A:=fun x=>[btR x.1.1,I x.1.2.1,I x.1.2.2]) (R:=fun x=>rtO [I (atT x.1.1.1 x.1.2.1 x.1.2.2)])
  (avs:=[.bp a 0,I s,I p]) (M:=M) (n:=nid) ⟨((T,ms,nx),s,p),hs,hl,ht,hu⟩ (by simp [zah,zbl,zbm,pLs,zaH,ha,hT,hm,tk1,tk2,hl1,btR]) (by rintro ⟨⟨b',s',p'⟩,h'⟩ e;simp only [cJ,I,AV.v.injEq,Value.int.injEq,true_and,and_true,Int.ofNat_inj] at e;obtain ⟨e1,rfl,rfl⟩:=e;have:=zsP e1;subst this;rfl) (by simp [rtO,oRt,oVs,oVl,oLs,oLf])
theorem zud (x:RmI):rmS [.bp 0 0,I x.1.2.1,I x.1.2.2.1,I x.1.2.2.2] (btM x.1.1)=some (B true,btM (rmO x.1)) :=sGe (ι:=RmI) (A:=fun x=>[.bp 0 0,I x.1.2.1,I x.1.2.2.1,I x.1.2.2.2]) (M:=fun x=>btM x.1.1) (R:=fun _=>rtO [B true]) (O:=fun x=>btM (rmO x.1)) x fun j hA hM=>by obtain ⟨⟨b,s,p,f⟩,h⟩:=x;obtain ⟨⟨b',s',p',f'⟩,h'⟩:=j;have:=zkw hM;simp only at this;subst this;simp only [cJ,I,AV.v.injEq,Value.int.injEq,true_and,and_true,Int.ofNat_inj] at hA;obtain ⟨rfl,rfl,rfl⟩:=hA;exact ⟨rfl,rfl⟩
theorem zsE {T:List Tb} {ms:List (List Dp)} {nx:Int} {s f:Nat} {p:Int} {T':List Tb} {ms':List (List Dp)} (h:s<T.length∧T.length<=1000∧f<ms.length∧ms.length<=1000∧zf (tbG T s)∧(tbG T s).2.1.length<=999000∧(zcM (tbG T s) p).2.2.2=0∧(gmm ms f).length<=1000000∧(zgS (gmm ms f) ((s:Int),p)).2=0)
  (hT':T.set s (zcM (tbG T s) p).1=T') (hM':ms.set f (zgS (gmm ms f) ((s:Int),p)).1=ms')
  {a t m:Nat} (hat:a≠t) (ham:a≠m) (htm:t≠m) (M:Nat->AO) (nid:Nat)
  (ha:M a=.box [.sl t 1 3 0 T.length,.sl m 1 1 0 ms.length,I nx]) (hT:M t=.vec 1 3 false (zc T)) (hm:M m=.vec 1 1 false (zg ms)) :
  caG rmS [.bp a 0,I s,I p,I f] M nid=some (B true,[(a,.box [.sl t 1 3 0 T.length,.sl m 1 1 0 ms.length,I nx]),(t,.vec 1 3 false (zc T')),(m,.vec 1 1 false (zg ms'))]):=by
 have hF:=zud ⟨((T,ms,nx),s,p,f),h⟩;have l1:T'.length=T.length:=by rw [<- hT'];simp
 have l2:ms'.length=ms.length:=by rw [<- hM'];simp
 simp only [btM,rmO,hT',hM',l1,l2] at hF;have hta:¬ t=a:=fun e=>hat e.symm;have hma:¬ m=a:=fun e=>ham e.symm;have hmt:¬ m=t:=fun e=>htm e.symm;unfold caG;simp [gat,nmsL,AV.nms,zbp,Led,curBL,AV.curB,renL,AV.ren,hF,zeZ,zcc,AO.nms,zdC,nmN,shN,rng,AO.ren,zdP,ha,hT,hm,hat,ham,htm,hta,hma,hmt,zbL,nDd,AO.curB,zaj,I,B]
theorem zqe (x:InI):zmx [.bp 0 0,I x.1.2.1,I x.1.2.2.1,I x.1.2.2.2.1,B x.1.2.2.2.2] (btM (x.1.1.1,x.1.1.2.1,(x.1.1.2.2:Int)))=some (B true,btM (zuR x.1)) :=sGe (ι:=InI) (A:=fun x=>[.bp 0 0,I x.1.2.1,I x.1.2.2.1,I x.1.2.2.2.1,B x.1.2.2.2.2]) (M:=fun x=>btM (x.1.1.1,x.1.1.2.1,(x.1.1.2.2:Int))) (R:=fun _=>rtO [B true]) (O:=fun x=>btM (zuR x.1)) x fun j hA hM=>by obtain ⟨⟨⟨T,M,n⟩,s,p,f,w⟩,h⟩:=x;obtain ⟨⟨⟨T',M',n'⟩,s',p',f',w'⟩,h'⟩:=j;have:=zkw hM;simp only [pJ,Int.ofNat_inj] at this;obtain ⟨rfl,rfl,rfl⟩:=this;simp only [cJ,I,B,AV.v.injEq,Value.int.injEq,Value.bool.injEq,true_and,and_true,Int.ofNat_inj] at hA;obtain ⟨rfl,rfl,rfl,rfl⟩:=hA;exact ⟨rfl,rfl⟩
theorem zsI {T:List Tb} {ms:List (List Dp)} {nx:Nat} {s f:Nat} {p:Int} {w:Bool} {T':List Tb} {ms':List (List Dp)} {nx':Nat}
  (h:s<T.length∧T.length<=1000∧f<ms.length∧ms.length<=1000∧zf (tbG T s)∧(tbG T s).2.1.length<=999000∧nx<=4000000000∧(zaq (tbG T s) p).2=0∧(zaq (tbG T s) p).1<=2∧(zdD (tbG T s) p (wdE f w) (nxF nx (zaq (tbG T s) p).1)).2=0∧(gmm ms f).length<=1000000∧(zhj (gmm ms f) ((s:Int),p)).2=0)
  (hT':T.set s (zdD (tbG T s) p (wdE f w) (nxF nx (zaq (tbG T s) p).1)).1=T') (hM':ms.set f (zhj (gmm ms f) ((s:Int),p)).1=ms') (hn':nx+(zaq (tbG T s) p).1=nx')
  {a t m:Nat} (hat:a≠t) (ham:a≠m) (htm:t≠m) (M:Nat->AO) (nid:Nat)
  (ha:M a=.box [.sl t 1 3 0 T.length,.sl m 1 1 0 ms.length,I nx]) (hT:M t=.vec 1 3 false (zc T)) (hm:M m=.vec 1 1 false (zg ms)) :
  caG zmx [.bp a 0,I s,I p,I f,B w] M nid=some (B true,[(a,.box [.sl t 1 3 0 T.length,.sl m 1 1 0 ms.length,I nx']),(t,.vec 1 3 false (zc T')),(m,.vec 1 1 false (zg ms'))]):=by
 have hF:=zqe ⟨((T,ms,nx),s,p,f,w),h⟩;have l1:T'.length=T.length:=by rw [<- hT'];simp
 have l2:ms'.length=ms.length:=by rw [<- hM'];simp
 simp only [btM,zuR,hT',hM',hn',l1,l2] at hF;have hta:¬ t=a:=fun e=>hat e.symm;have hma:¬ m=a:=fun e=>ham e.symm;have hmt:¬ m=t:=fun e=>htm e.symm;unfold caG;simp [gat,nmsL,AV.nms,zbp,Led,curBL,AV.curB,renL,AV.ren,hF,zeZ,zcc,AO.nms,zdC,nmN,shN,rng,AO.ren,zdP,ha,hT,hm,hat,ham,htm,hta,hma,hmt,zbL,nDd,AO.curB,zaj,I,B]
end Go.AM
