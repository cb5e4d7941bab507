/- A part of the proof. -/
import Derived.Test.YtcfhmdljeeppfaaGreatGPt1
import Derived.Shelf.SlSortFuncK.WholeK
import Derived.Deep.RegionHeld3
import Derived.LoopN
import Derived.WalkKit
set_option linter.all false
namespace Go.AM
open Go Go.Proofs Tryz
set_option maxHeartbeats 8000000 in
theorem zua (X:AX) (hX:XOK prog X) (hw:X.W wT) (hd:∀ n:Nat,n<2^64->∀ M k,X.call 56 [U n] M k=some (.tup [EnV (zj n).1,I (zj n).2],[]))
  (hsu:∀ (e:En) (l:Nat) M n,X.call 117 [EnV e,I l] M n=some (B (zaO e l),[])) (hrec:X.call 116=caG (ckS 0)):GSd prog 116 (ckS 1):=by
 unfold ckS;refine gsS func116 rfl X fun ⟨⟨⟨r,ns,ds⟩,n,first,led,hs⟩,hx⟩ w0 L E=>⟨by show 8<=96;decide,?_⟩
 obtain ⟨ht,ha,hn,hf,hled,hhs⟩:=hx;simp only [ckF,ckH] at ht ha hn hf hled hhs;show AW ⟨prog,X,96,w0,⟨L,E,8⟩⟩ _ _ _;have hc:Cx.OK ⟨prog,X,96,w0,⟨L,E,8⟩⟩:=⟨hX,mixed⟩
 have hl1:ns.length<=1000000:=ht.2.1;obtain ⟨R,hR⟩:∃ R,R=ckR 1 ((r,ns,ds),n,first,led,hs):=⟨_,rfl⟩
 simp only [<- hR,ckM,ckA];have hnl:n<led.length:=by omega
 have hnI:(n:Int)<(led.length:Int):=by omega
 have hnN:(n:Int)<(ns.length:Int):=by omega
 have hg0:=zcI hnl;have hgE0:=zdu hnl;unfold ckR at hR;simp only at hR;rw [wk] at hR;cases hb:led.getD n false with
 | true =>
  rw [hb] at hR hg0 hgE0;simp only [if_true] at hR;subst hR;simp only;have zS:=jj hnl<|jj hnI<|jj hg0<|hgE0;refine zl ?_;repeat (intro K hK)
  clear zS;refine ⟨by simp,_,by simp [aRs,aRt,f116];rfl,?_⟩;simp only [Nat.sub_self,Nat.add_zero,idx];exact dle
 | false =>
  rw [hb] at hR hg0 hgE0;simp only [Bool.false_eq_true,if_false] at hR;have hset:=@zgj led n true;obtain ⟨led1,hl1⟩:∃ l,l=led.set n true:=⟨_,rfl⟩
  have hled1:led1.length=led.length:=by rw [hl1];simp
  rw [<- hl1] at hR hset;have zS:=jj hnl<|jj hnI<|jj hg0<|jj hgE0<|hset;repeat' (first|(refine aSk fun K hK=>?_)|(refine zi ?_)|(refine eC (fun h=>?_) (fun h=>?_)<;>(try simp at h))|(refine hK _ ?_;clear hK)|(clear hK;refine hK _ ?_;clear hK))
  all_goals clear zS
  refine zif 2 (aRd ?_);repeat' (first|(refine aSk fun K hK=>?_)|(refine eMo ?_)|(refine eC (fun h=>?_) (fun h=>?_)<;>(try simp at h))|(refine hK _ ?_;clear hK)|(clear hK;refine hK _ ?_;clear hK))
  obtain ⟨h0,hh0⟩:∃ h0,h0=hs.length:=⟨_,rfl⟩
  obtain ⟨ln,hln⟩:∃ ln,ln=led.length:=⟨_,rfl⟩
  have hRl:R.2.1.length=ln:=by rw [hR,(zbB (b:=8) (zeG (l:=0)) 8 0 (led1,hs)).1,hln];exact hled1
  rw [hRl,<- hln];rw [<- hh0];refine aLK (s0:=?lps1) (m0:=?lpm1) (ι:={s:Nat×List Bool×List Int // s.1<=8∧s.2.1.length=ln∧h0<=s.2.2.length∧s.2.2.length<=h0+9*s.1∧wkF WA ns (wk WA ns 0) 1 n first (8 - s.1) s.1 (s.2.1,s.2.2)=R}) [0,1,2,4,5,6,7,12] (fun s=>[(31,I s.1.1)]) (fun s=>[(1,.vec 1 1 false (zaP s.1.2.1)),(3,.box [.sl 4 (1+(s.1.2.2.length - h0)) 1 0 s.1.2.2.length]),(4,.vec (1+(s.1.2.2.length - h0)) 1 false (irw s.1.2.2))]) (fun s=>8 - s.1.1) ⟨(0,led1,hs),by simp,by simp only;omega,by simp only;omega,by simp only;omega,hR.symm⟩ ?lhs1 ?lhm1 ?_ ?_
  case lhs1=>first|(simp [kpS];done)|(simp [kpS];rfl)
  case lhm1=>first|rfl|(simp;done)|(simp;rfl)
  ·simp only [<- hh0,Nat.sub_self,Nat.add_zero];exact dle
  ·clear hR hset hg0 hgE0 hb hnl hnI;clear hl1;rintro ⟨⟨i,led2,hs2⟩,hi,hl2,hh2,hb2,hst⟩;simp only at hi hl2 hh2 hb2 hst ⊢;obtain ⟨v,hv⟩:∃ v,v=1+(hs2.length - h0):=⟨_,rfl⟩
   rw [<- hv];have hv1:1<=v:=by omega
   rcases dE (i<8) with hi8|hi8
   ·have hiI:(i:Int)<8:=by omega
    have hgn:=nrG hn;have hgnE:=nrE hn;have h8:(gn ns n).2.length=8:=(ht.1 _ (zaL hn)).1;have hw8:=ziz (l:=(gn ns n).2) (i:=i) (by omega);have hwE:=zkP (l:=(gn ns n).2) (i:=i) (by omega);have hw64:=zmX ht (n:=n) (i:=i) hn;obtain ⟨k8,hk8⟩:∃ k,8 - i=k+1:=⟨7 - i,by omega⟩
    have hk7:8 - (i+1)=k8:=by omega
    rw [hk8] at hst;obtain ⟨w,hwd⟩:∃ w,w=wd ns n i:=⟨_,rfl⟩
    have hwg:(gn ns n).2.getD i 0=w:=hwd.symm;rw [hwg] at hw8 hwE;simp only at hw64;rw [<- hwd] at hw64;have hwl:(wcs (gn ns n).2).length=8:=by simp [h8]
    obtain ⟨⟨fr,ws⟩,hm⟩:∃ m,m=gn ns n:=⟨_,rfl⟩
    rw [<- hm] at hgn hgnE hw8 hwE hwl;simp only at hgn hgnE hw8 hwE hwl;obtain ⟨cs,hcs⟩:∃ cs,cs=wcs ws:=⟨_,rfl⟩
    rw [<- hcs] at hgn hgnE hw8 hwE hwl;clear hcs hm h8 hwg;have hd':=hd w hw64;have bad:=@zho WA ns (wk WA ns 0) 1 n first k8 i (led2,hs2)
    have pl:=@zkO WA ns (wk WA ns 0) 1 n first k8 i (led2,hs2)
    have hug:=@zjN WA ns (wk WA ns 0) 1 n first k8 i (led2,hs2)
    have lost:=fun g=>@zfg WA ns (wk WA ns 0) 1 n first k8 i (led2,hs2) g
    have rcr:=fun g nx=>@zhn WA ns (wk WA ns 0) 1 n first k8 i (led2,hs2) g nx
    have hone:=(zeY fun _=>true).one 1 w;have hflat:=(zeY fun _=>true).flat w;rw [<- hwd] at bad pl hug lost rcr;rw [hst] at bad pl hug lost rcr;have hsu':=fun e=>hsu e 1;obtain ⟨⟨⟨k,f,d,a,x,h⟩,e⟩,hE⟩:∃ r,r=zj w:=⟨_,rfl⟩
    have hok:WA.ok 1 w=(decide (e=0)&&zaO (k,f,d,a,x,h) 1):=by show zcO 1 w=_;unfold zcO;rw [<- hE]
    have hhg:WA.hug w=(decide (k=1)&&h):=by show zeP w=_;unfold zeP;rw [<- hE]
    have htb:WA.tab w=if k=4 then some f else none:=by show zbc w=_;unfold zbc;rw [<- hE]
    rw [<- hE] at hd';clear hE;simp only [EnV,U] at hd' hw8 hwE;have hsu2:∀ M n,X.call 117 [.agg [I k,I f,B d,B a,B x,B h],I 1] M n=some (B (zaO (k,f,d,a,x,h) 1),[]):=hsu' (k,f,d,a,x,h);rcases dE (e=0) with he|he
    ·subst he;cases hsb:zaO (k,f,d,a,x,h) 1 with
     | false =>
      rw [hsb] at hsu2;have hfin:=bad (by rw [hok,hsb];rfl);subst hfin;simp only;clear pl hug lost rcr hone hflat;have zS:=jj hiI<|jj hi8<|jj hgn<|jj hgnE<|jj hw8<|jj hwE<|jj hwl<|jj hd'<|jj hsu2<|jj hn<|hnN;repeat' (first|(refine aSk fun K hK=>?_)|(refine zi ?_)|(refine eC (fun h=>?_) (fun h=>?_)<;>(try simp at h))|(refine hK _ ?_;clear hK)|clear hK)
      all_goals clear zS
      refine ⟨by simp,_,by simp [aRs,aRt,f116];rfl,?_⟩;simp only [<- hv,idx];exact dle
     | true =>
      rw [hsb] at hsu2;have hok1:WA.ok 1 w=true:=by rw [hok,hsb];rfl
      rcases dE (k=1∧h=true) with hk|hk
      ·obtain ⟨rfl,rfl⟩:=hk;have hfin:=hug hok1 (by rw [hhg];rfl) rfl (by rw [htb];rfl);clear bad pl lost rcr hone hflat;have hq:((first:Int)+(i:Int)*8).tdiv 8=(((first+i*8^1)/8:Nat):Int):=by rw [Int.tdiv_eq_ediv_of_nonneg (by omega)];omega
       obtain ⟨gq,hgq⟩:∃ g:Int,g=(((first+i*8^1)/8:Nat):Int):=⟨_,rfl⟩
       rw [<- hgq] at hq hfin;have hq2:((first:Int)+(i:Int)*8)/8=gq:=by rw [hgq];omega
       have happ:List.take hs2.length (irw hs2)++[[I gq]]=irw (hs2++[gq]):=by rw [<- zi2,tkL (by simp)];rfl
       simp only [I] at happ;have zS:=jj hiI<|jj hi8<|jj hgn<|jj hgnE<|jj hw8<|jj hwE<|jj hwl<|jj hd'<|jj hsu2<|jj hn<|jj hnN<|jj hq<|hq2;repeat' (first|(refine aSk fun K hK=>?_)|(refine zi ?_)|(refine eC (fun h=>?_) (fun h=>?_)<;>(try simp at h))|(refine hK _ ?_;clear hK)|clear hK)
       all_goals clear zS
       refine ⟨i+1,led2,hs2++[gq],?_,⟨by omega,hl2,by simp only [List.length_append,List.length_singleton];omega,by simp only [List.length_append,List.length_singleton];omega,by rw [hk7];exact hfin.symm⟩,by omega⟩;simp only [List.length_append,List.length_singleton,show 1+(hs2.length+1 - h0)=v+1 by omega,<- happ];exact dle
      ·have hhf:(decide (k=1)&&h)=false:=by rw [Bool.eq_false_iff];intro hh;simp only [Bool.and_eq_true,decide_eq_true_eq] at hh;exact hk hh
       rw [hhf] at hhg;rcases dE (k=4) with hk4|hk4
       ·subst hk4;clear hone hflat hug pl bad;have hget:=zcE ha f;cases hfn:fnd ns f with
        | none =>
         rw [hfn] at hget;try simp only [Option.map_none] at hget
         have hfin:=lost f hok1 hhg (by rw [htb];rfl) hfn;subst hfin;simp only;clear lost rcr;have zS:=jj hiI<|jj hi8<|jj hgn<|jj hgnE<|jj hw8<|jj hwE<|jj hwl<|jj hd'<|jj hsu2<|jj hn<|jj hnN<|hget;repeat' (first|(refine aSk fun K hK=>?_)|(refine zi ?_)|(refine eC (fun h=>?_) (fun h=>?_)<;>(try simp at h))|(refine hK _ ?_;clear hK)|clear hK)
         all_goals clear zS
         refine ⟨by simp,_,by simp [aRs,aRt,f116];rfl,?_⟩;simp only [<- hv,idx];exact dle
        | some nx =>
         rw [hfn] at hget;try simp only [Option.map_some] at hget
         have hnx:=zay hfn;have hfin:=rcr f nx hok1 hhg (by rw [htb];rfl) hfn;clear lost rcr;have hckk:zq7 0 ((r,ns,ds),nx,first+i*8,led2,hs2):=⟨ht,ha,hnx,by simp only [ckF];omega,by simp only;omega,by simp only [ckH];omega⟩
         have hcall:=@zrb 0 (r,ns,ds) nx (first+i*8) led2 hs2 hckk v hv1 false false;have hckR:ckR 0 ((r,ns,ds),nx,first+i*8,led2,hs2)=wk WA ns 0 nx (first+i*8) (led2,hs2):=rfl;rw [hckR] at hcall;have hadd:=zeG (D:=WA) (ns:=ns) (l:=0) nx (first+i*8) (led2,hs2);rw [show (8:Nat)^1=8 from rfl] at hfin;obtain ⟨⟨b3,led3,hs3⟩,hR3⟩:∃ R,R=wk WA ns 0 nx (first+i*8) (led2,hs2):=⟨_,rfl⟩
         rw [<- hR3] at hcall hfin hadd;clear hR3 hckR hckk;simp only [zkD] at hcall hfin hadd;rw [hl2] at hcall hadd;rw [hadd.1] at hcall;rw [<- hrec] at hcall;have hfI:((first+i*8:Nat):Int)=(first:Int)+(i:Int)*8:=by omega
         rw [hfI,show ((0:Nat):Int)=(0:Int) from rfl] at hcall;obtain ⟨v3,hv3⟩:∃ v3,v3=v+(hs3.length - hs2.length):=⟨_,rfl⟩
         rw [<- hv3] at hcall;cases b3 with
         | false =>
          simp only [Bool.false_eq_true,if_false] at hfin;subst hfin;simp only;have zS:=jj hiI<|jj hi8<|jj hgn<|jj hgnE<|jj hw8<|jj hwE<|jj hwl<|jj hd'<|jj hsu2<|jj hn<|jj hnN<|jj hget<|hcall;repeat' (first|(refine aSk fun K hK=>?_)|(refine zi ?_)|(refine eC (fun h=>?_) (fun h=>?_)<;>(try simp at h))|(refine hK _ ?_;clear hK)|clear hK)
          all_goals clear zS
          refine ⟨by simp,_,by simp [aRs,aRt,f116];rfl,?_⟩;simp only [show 1+(hs3.length - h0)=v3 by omega,idx];exact dle
         | true =>
          simp only [if_true] at hfin;have zS:=jj hiI<|jj hi8<|jj hgn<|jj hgnE<|jj hw8<|jj hwE<|jj hwl<|jj hd'<|jj hsu2<|jj hn<|jj hnN<|jj hget<|hcall;repeat' (first|(refine aSk fun K hK=>?_)|(refine zi ?_)|(refine eC (fun h=>?_) (fun h=>?_)<;>(try simp at h))|(refine hK _ ?_;clear hK)|clear hK)
          all_goals clear zS
          refine ⟨i+1,led3,hs3,?_,⟨by omega,hadd.1,by omega,by omega,by rw [hk7];exact hfin.symm⟩,by omega⟩;simp only [show 1+(hs3.length - h0)=v3 by omega];exact dle
       ·have hfin:=pl hok1 hhg (by rw [htb,if_neg hk4]);clear bad hug lost rcr hone hflat;rcases dE (k=1) with hk1|hk1
        ·subst hk1;have hh0:h=false:=by cases h with|false=>rfl|true=>exact absurd ⟨rfl,rfl⟩ hk
         subst hh0;have zS:=jj hiI<|jj hi8<|jj hgn<|jj hgnE<|jj hw8<|jj hwE<|jj hwl<|jj hd'<|jj hsu2<|jj hn<|hnN;repeat' (first|(refine aSk fun K hK=>?_)|(refine zi ?_)|(refine eC (fun h=>?_) (fun h=>?_)<;>(try simp at h))|(refine hK _ ?_;clear hK)|clear hK)
         all_goals clear zS
         refine ⟨i+1,led2,hs2,?_,⟨by omega,hl2,by omega,by omega,by rw [hk7];exact hfin.symm⟩,by omega⟩;simp only [<- hv];exact dle
        ·have zS:=jj hiI<|jj hi8<|jj hgn<|jj hgnE<|jj hw8<|jj hwE<|jj hwl<|jj hd'<|jj hsu2<|jj hn<|jj hnN<|jj hk1<|hk4;repeat' (first|(refine aSk fun K hK=>?_)|(refine zi ?_)|(refine eC (fun h=>?_) (fun h=>?_)<;>(try simp at h))|(refine hK _ ?_;clear hK)|clear hK)
         all_goals clear zS
         refine ⟨i+1,led2,hs2,?_,⟨by omega,hl2,by omega,by omega,by rw [hk7];exact hfin.symm⟩,by omega⟩;simp only [<- hv];exact dle
    ·have hfin:=bad (by rw [hok];simp [he]);subst hfin;simp only;clear pl hug lost rcr hone hflat;have zS:=jj hiI<|jj hi8<|jj hgn<|jj hgnE<|jj hw8<|jj hwE<|jj hwl<|jj hd'<|jj he<|jj hn<|hnN;repeat' (first|(refine aSk fun K hK=>?_)|(refine zi ?_)|(refine eC (fun h=>?_) (fun h=>?_)<;>(try simp at h))|(refine hK _ ?_;clear hK)|clear hK)
     all_goals clear zS
     refine ⟨by simp,_,by simp [aRs,aRt,f116];rfl,?_⟩;simp only [<- hv,idx];exact dle
   ·obtain rfl:i=8:=by omega
    simp only [Nat.sub_self,wkF] at hst;subst hst;simp only;repeat' (first|(refine aSk fun K hK=>?_)|(refine eMo ?_)|(refine eC (fun h=>?_) (fun h=>?_)<;>(try simp at h))|(refine hK _ ?_;clear hK)|clear hK)
    refine ⟨by simp,_,by simp [aRs,aRt,f116];rfl,?_⟩;simp only [<- hv,idx];exact dle
set_option maxHeartbeats 8000000 in
theorem zt9 (X:AX) (hX:XOK prog X) (hw:X.W wT) (hd:∀ n:Nat,n<2^64->∀ M k,X.call 56 [U n] M k=some (.tup [EnV (zj n).1,I (zj n).2],[]))
  (hsu:∀ (e:En) (l:Nat) M n,X.call 117 [EnV e,I l] M n=some (B (zaO e l),[])) (hrec:X.call 116=caG (ckS 1)):GSd prog 116 (ckS 2):=by
 unfold ckS;refine gsS func116 rfl X fun ⟨⟨⟨r,ns,ds⟩,n,first,led,hs⟩,hx⟩ w0 L E=>⟨by show 8<=96;decide,?_⟩
 obtain ⟨ht,ha,hn,hf,hled,hhs⟩:=hx;simp only [ckF,ckH] at ht ha hn hf hled hhs;show AW ⟨prog,X,96,w0,⟨L,E,8⟩⟩ _ _ _;have hc:Cx.OK ⟨prog,X,96,w0,⟨L,E,8⟩⟩:=⟨hX,mixed⟩
 have hl1:ns.length<=1000000:=ht.2.1;obtain ⟨R,hR⟩:∃ R,R=ckR 2 ((r,ns,ds),n,first,led,hs):=⟨_,rfl⟩
 simp only [<- hR,ckM,ckA];have hnl:n<led.length:=by omega
 have hnI:(n:Int)<(led.length:Int):=by omega
 have hnN:(n:Int)<(ns.length:Int):=by omega
 have hg0:=zcI hnl;have hgE0:=zdu hnl;unfold ckR at hR;simp only at hR;rw [wk] at hR;cases hb:led.getD n false with
 | true =>
  rw [hb] at hR hg0 hgE0;simp only [if_true] at hR;subst hR;simp only;have zS:=jj hnl<|jj hnI<|jj hg0<|hgE0;refine zl ?_;repeat (intro K hK)
  clear zS;refine ⟨by simp,_,by simp [aRs,aRt,f116];rfl,?_⟩;simp only [Nat.sub_self,Nat.add_zero,idx];exact dle
 | false =>
  rw [hb] at hR hg0 hgE0;simp only [Bool.false_eq_true,if_false] at hR;have hset:=@zgj led n true;obtain ⟨led1,hl1⟩:∃ l,l=led.set n true:=⟨_,rfl⟩
  have hled1:led1.length=led.length:=by rw [hl1];simp
  rw [<- hl1] at hR hset;have zS:=jj hnl<|jj hnI<|jj hg0<|jj hgE0<|hset;repeat' (first|(refine aSk fun K hK=>?_)|(refine zi ?_)|(refine eC (fun h=>?_) (fun h=>?_)<;>(try simp at h))|(refine hK _ ?_;clear hK)|(clear hK;refine hK _ ?_;clear hK))
  all_goals clear zS
  refine zif 3 (aRd ?_);repeat' (first|(refine aSk fun K hK=>?_)|(refine eMo ?_)|(refine eC (fun h=>?_) (fun h=>?_)<;>(try simp at h))|(refine hK _ ?_;clear hK)|(clear hK;refine hK _ ?_;clear hK))
  obtain ⟨h0,hh0⟩:∃ h0,h0=hs.length:=⟨_,rfl⟩
  obtain ⟨ln,hln⟩:∃ ln,ln=led.length:=⟨_,rfl⟩
  have hRl:R.2.1.length=ln:=by rw [hR,(zbB (b:=72) (zeG (l:=1)) 8 0 (led1,hs)).1,hln];exact hled1
  rw [hRl,<- hln];rw [<- hh0];refine aLK (s0:=?lps1) (m0:=?lpm1) (ι:={s:Nat×List Bool×List Int // s.1<=8∧s.2.1.length=ln∧h0<=s.2.2.length∧s.2.2.length<=h0+73*s.1∧wkF WA ns (wk WA ns 1) 2 n first (8 - s.1) s.1 (s.2.1,s.2.2)=R}) [0,1,2,4,5,6,7,12] (fun s=>[(31,I s.1.1)]) (fun s=>[(1,.vec 1 1 false (zaP s.1.2.1)),(3,.box [.sl 4 (1+(s.1.2.2.length - h0)) 1 0 s.1.2.2.length]),(4,.vec (1+(s.1.2.2.length - h0)) 1 false (irw s.1.2.2))]) (fun s=>8 - s.1.1) ⟨(0,led1,hs),by simp,by simp only;omega,by simp only;omega,by simp only;omega,hR.symm⟩ ?lhs1 ?lhm1 ?_ ?_
  case lhs1=>first|(simp [kpS];done)|(simp [kpS];rfl)
  case lhm1=>first|rfl|(simp;done)|(simp;rfl)
  ·simp only [<- hh0,Nat.sub_self,Nat.add_zero];exact dle
  ·clear hR hset hg0 hgE0 hb hnl hnI;clear hl1;rintro ⟨⟨i,led2,hs2⟩,hi,hl2,hh2,hb2,hst⟩;simp only at hi hl2 hh2 hb2 hst ⊢;obtain ⟨v,hv⟩:∃ v,v=1+(hs2.length - h0):=⟨_,rfl⟩
   rw [<- hv];have hv1:1<=v:=by omega
   rcases dE (i<8) with hi8|hi8
   ·have hiI:(i:Int)<8:=by omega
    have hgn:=nrG hn;have hgnE:=nrE hn;have h8:(gn ns n).2.length=8:=(ht.1 _ (zaL hn)).1;have hw8:=ziz (l:=(gn ns n).2) (i:=i) (by omega);have hwE:=zkP (l:=(gn ns n).2) (i:=i) (by omega);have hw64:=zmX ht (n:=n) (i:=i) hn;obtain ⟨k8,hk8⟩:∃ k,8 - i=k+1:=⟨7 - i,by omega⟩
    have hk7:8 - (i+1)=k8:=by omega
    rw [hk8] at hst;obtain ⟨w,hwd⟩:∃ w,w=wd ns n i:=⟨_,rfl⟩
    have hwg:(gn ns n).2.getD i 0=w:=hwd.symm;rw [hwg] at hw8 hwE;simp only at hw64;rw [<- hwd] at hw64;have hwl:(wcs (gn ns n).2).length=8:=by simp [h8]
    obtain ⟨⟨fr,ws⟩,hm⟩:∃ m,m=gn ns n:=⟨_,rfl⟩
    rw [<- hm] at hgn hgnE hw8 hwE hwl;simp only at hgn hgnE hw8 hwE hwl;obtain ⟨cs,hcs⟩:∃ cs,cs=wcs ws:=⟨_,rfl⟩
    rw [<- hcs] at hgn hgnE hw8 hwE hwl;clear hcs hm h8 hwg;have hd':=hd w hw64;have bad:=@zho WA ns (wk WA ns 1) 2 n first k8 i (led2,hs2)
    have pl:=@zkO WA ns (wk WA ns 1) 2 n first k8 i (led2,hs2)
    have hug:=@zjN WA ns (wk WA ns 1) 2 n first k8 i (led2,hs2)
    have lost:=fun g=>@zfg WA ns (wk WA ns 1) 2 n first k8 i (led2,hs2) g
    have rcr:=fun g nx=>@zhn WA ns (wk WA ns 1) 2 n first k8 i (led2,hs2) g nx
    have hone:=(zeY fun _=>true).one 2 w;have hflat:=(zeY fun _=>true).flat w;rw [<- hwd] at bad pl hug lost rcr;rw [hst] at bad pl hug lost rcr;have hsu':=fun e=>hsu e 2;obtain ⟨⟨⟨k,f,d,a,x,h⟩,e⟩,hE⟩:∃ r,r=zj w:=⟨_,rfl⟩
    have hok:WA.ok 2 w=(decide (e=0)&&zaO (k,f,d,a,x,h) 2):=by show zcO 2 w=_;unfold zcO;rw [<- hE]
    have hhg:WA.hug w=(decide (k=1)&&h):=by show zeP w=_;unfold zeP;rw [<- hE]
    have htb:WA.tab w=if k=4 then some f else none:=by show zbc w=_;unfold zbc;rw [<- hE]
    rw [<- hE] at hd';clear hE;simp only [EnV,U] at hd' hw8 hwE;have hsu2:∀ M n,X.call 117 [.agg [I k,I f,B d,B a,B x,B h],I 2] M n=some (B (zaO (k,f,d,a,x,h) 2),[]):=hsu' (k,f,d,a,x,h);rcases dE (e=0) with he|he
    ·subst he;cases hsb:zaO (k,f,d,a,x,h) 2 with
     | false =>
      rw [hsb] at hsu2;have hfin:=bad (by rw [hok,hsb];rfl);subst hfin;simp only;clear pl hug lost rcr hone hflat;have zS:=jj hiI<|jj hi8<|jj hgn<|jj hgnE<|jj hw8<|jj hwE<|jj hwl<|jj hd'<|jj hsu2<|jj hn<|hnN;repeat' (first|(refine aSk fun K hK=>?_)|(refine zi ?_)|(refine eC (fun h=>?_) (fun h=>?_)<;>(try simp at h))|(refine hK _ ?_;clear hK)|clear hK)
      all_goals clear zS
      refine ⟨by simp,_,by simp [aRs,aRt,f116];rfl,?_⟩;simp only [<- hv,idx];exact dle
     | true =>
      rw [hsb] at hsu2;have hok1:WA.ok 2 w=true:=by rw [hok,hsb];rfl
      rcases dE (k=1∧h=true) with hk|hk
      ·obtain ⟨rfl,rfl⟩:=hk;exact absurd (hone hok1 (by rw [hhg];rfl)) (by decide)
      ·have hhf:(decide (k=1)&&h)=false:=by rw [Bool.eq_false_iff];intro hh;simp only [Bool.and_eq_true,decide_eq_true_eq] at hh;exact hk hh
       rw [hhf] at hhg;rcases dE (k=4) with hk4|hk4
       ·subst hk4;clear hone hflat hug pl bad;have hget:=zcE ha f;cases hfn:fnd ns f with
        | none =>
         rw [hfn] at hget;try simp only [Option.map_none] at hget
         have hfin:=lost f hok1 hhg (by rw [htb];rfl) hfn;subst hfin;simp only;clear lost rcr;have zS:=jj hiI<|jj hi8<|jj hgn<|jj hgnE<|jj hw8<|jj hwE<|jj hwl<|jj hd'<|jj hsu2<|jj hn<|jj hnN<|hget;repeat' (first|(refine aSk fun K hK=>?_)|(refine zi ?_)|(refine eC (fun h=>?_) (fun h=>?_)<;>(try simp at h))|(refine hK _ ?_;clear hK)|clear hK)
         all_goals clear zS
         refine ⟨by simp,_,by simp [aRs,aRt,f116];rfl,?_⟩;simp only [<- hv,idx];exact dle
        | some nx =>
         rw [hfn] at hget;try simp only [Option.map_some] at hget
         have hnx:=zay hfn;have hfin:=rcr f nx hok1 hhg (by rw [htb];rfl) hfn;clear lost rcr;have hckk:zq7 1 ((r,ns,ds),nx,first+i*64,led2,hs2):=⟨ht,ha,hnx,by simp only [ckF];omega,by simp only;omega,by simp only [ckH];omega⟩
         have hcall:=@zrb 1 (r,ns,ds) nx (first+i*64) led2 hs2 hckk v hv1 false false;have hckR:ckR 1 ((r,ns,ds),nx,first+i*64,led2,hs2)=wk WA ns 1 nx (first+i*64) (led2,hs2):=rfl;rw [hckR] at hcall;have hadd:=zeG (D:=WA) (ns:=ns) (l:=1) nx (first+i*64) (led2,hs2);rw [show (8:Nat)^2=64 from rfl] at hfin;obtain ⟨⟨b3,led3,hs3⟩,hR3⟩:∃ R,R=wk WA ns 1 nx (first+i*64) (led2,hs2):=⟨_,rfl⟩
         rw [<- hR3] at hcall hfin hadd;clear hR3 hckR hckk;simp only [zkD] at hcall hfin hadd;rw [hl2] at hcall hadd;rw [hadd.1] at hcall;rw [<- hrec] at hcall;have hfI:((first+i*64:Nat):Int)=(first:Int)+(i:Int)*64:=by omega
         rw [hfI,show ((1:Nat):Int)=(1:Int) from rfl] at hcall;obtain ⟨v3,hv3⟩:∃ v3,v3=v+(hs3.length - hs2.length):=⟨_,rfl⟩
         rw [<- hv3] at hcall;cases b3 with
         | false =>
          simp only [Bool.false_eq_true,if_false] at hfin;subst hfin;simp only;have zS:=jj hiI<|jj hi8<|jj hgn<|jj hgnE<|jj hw8<|jj hwE<|jj hwl<|jj hd'<|jj hsu2<|jj hn<|jj hnN<|jj hget<|hcall;repeat' (first|(refine aSk fun K hK=>?_)|(refine zi ?_)|(refine eC (fun h=>?_) (fun h=>?_)<;>(try simp at h))|(refine hK _ ?_;clear hK)|clear hK)
          all_goals clear zS
          refine ⟨by simp,_,by simp [aRs,aRt,f116];rfl,?_⟩;simp only [show 1+(hs3.length - h0)=v3 by omega,idx];exact dle
         | true =>
          simp only [if_true] at hfin;have zS:=jj hiI<|jj hi8<|jj hgn<|jj hgnE<|jj hw8<|jj hwE<|jj hwl<|jj hd'<|jj hsu2<|jj hn<|jj hnN<|jj hget<|hcall;repeat' (first|(refine aSk fun K hK=>?_)|(refine zi ?_)|(refine eC (fun h=>?_) (fun h=>?_)<;>(try simp at h))|(refine hK _ ?_;clear hK)|clear hK)
          all_goals clear zS
          refine ⟨i+1,led3,hs3,?_,⟨by omega,hadd.1,by omega,by omega,by rw [hk7];exact hfin.symm⟩,by omega⟩;simp only [show 1+(hs3.length - h0)=v3 by omega];exact dle
       ·have hfin:=pl hok1 hhg (by rw [htb,if_neg hk4]);clear bad hug lost rcr hone hflat;rcases dE (k=1) with hk1|hk1
        ·subst hk1;have hh0:h=false:=by cases h with|false=>rfl|true=>exact absurd ⟨rfl,rfl⟩ hk
         subst hh0;have zS:=jj hiI<|jj hi8<|jj hgn<|jj hgnE<|jj hw8<|jj hwE<|jj hwl<|jj hd'<|jj hsu2<|jj hn<|hnN;repeat' (first|(refine aSk fun K hK=>?_)|(refine zi ?_)|(refine eC (fun h=>?_) (fun h=>?_)<;>(try simp at h))|(refine hK _ ?_;clear hK)|clear hK)
         all_goals clear zS
         refine ⟨i+1,led2,hs2,?_,⟨by omega,hl2,by omega,by omega,by rw [hk7];exact hfin.symm⟩,by omega⟩;simp only [<- hv];exact dle
        ·have zS:=jj hiI<|jj hi8<|jj hgn<|jj hgnE<|jj hw8<|jj hwE<|jj hwl<|jj hd'<|jj hsu2<|jj hn<|jj hnN<|jj hk1<|hk4;repeat' (first|(refine aSk fun K hK=>?_)|(refine zi ?_)|(refine eC (fun h=>?_) (fun h=>?_)<;>(try simp at h))|(refine hK _ ?_;clear hK)|clear hK)
         all_goals clear zS
         refine ⟨i+1,led2,hs2,?_,⟨by omega,hl2,by omega,by omega,by rw [hk7];exact hfin.symm⟩,by omega⟩;simp only [<- hv];exact dle
    ·have hfin:=bad (by rw [hok];simp [he]);subst hfin;simp only;clear pl hug lost rcr hone hflat;have zS:=jj hiI<|jj hi8<|jj hgn<|jj hgnE<|jj hw8<|jj hwE<|jj hwl<|jj hd'<|jj he<|jj hn<|hnN;repeat' (first|(refine aSk fun K hK=>?_)|(refine zi ?_)|(refine eC (fun h=>?_) (fun h=>?_)<;>(try simp at h))|(refine hK _ ?_;clear hK)|clear hK)
     all_goals clear zS
     refine ⟨by simp,_,by simp [aRs,aRt,f116];rfl,?_⟩;simp only [<- hv,idx];exact dle
   ·obtain rfl:i=8:=by omega
    simp only [Nat.sub_self,wkF] at hst;subst hst;simp only;repeat' (first|(refine aSk fun K hK=>?_)|(refine eMo ?_)|(refine eC (fun h=>?_) (fun h=>?_)<;>(try simp at h))|(refine hK _ ?_;clear hK)|clear hK)
    refine ⟨by simp,_,by simp [aRs,aRt,f116];rfl,?_⟩;simp only [<- hv,idx];exact dle
noncomputable section
theorem zlv {α:Type} [DecidableEq α] {l:List α} {v:α}:0<=zdM (fun x=>decide (x=v)) l↔v∈l:=by
 rw [zpT];constructor
 ·rintro ⟨j,hj,e⟩;simp only [decide_eq_true_eq] at e;rw [<- e];exact List.getElem_mem hj
 ·intro h;obtain ⟨j,hj,e⟩:=List.getElem_of_mem h;exact ⟨j,hj,by simp [e]⟩
def zv6:List AV->Option AV:=spF (ι:={x:List Bool×Bool // x.1.length<=9223372036854775807}) (fun x=>[.rd 1 (zaP x.1.1),B x.1.2]) fun x=>rtO [I (zdM (fun y=>decide (y=x.1.2)) x.1.1)]
theorem ztj {l:List Bool} {v:Bool} (h:l.length<=9223372036854775807):zv6 [.rd 1 (zaP l),B v]=some (I (zdM (fun y=>decide (y=v)) l)):=by refine sFe (ι:={x:List Bool×Bool // x.1.length<=9223372036854775807}) (A:=fun x=>[.rd 1 (zaP x.1.1),B x.1.2]) (R:=fun x=>rtO [I (zdM (fun y=>decide (y=x.1.2)) x.1.1)]) ⟨(l,v),h⟩ fun j e=>?_;obtain ⟨⟨l',v'⟩,h'⟩:=j;simp only [cJ,AV.rd.injEq,true_and,zgk,B,AV.v.injEq,Value.bool.injEq,and_true] at e;obtain ⟨rfl,rfl⟩:=e;rfl
theorem zBM (X:AX) (hX:XOK prog X):PSd prog 182 zv6:=by
 unfold zv6;refine psS hX mixed func182 rfl fun ⟨⟨l,v⟩,hl⟩ w0 G=>⟨by show 2<=19;decide,rfl,?_⟩
 show AW ⟨prog,X,19,w0,.pure G⟩ _ _ _;have hc:=okc hX 19 w0 G;simp only at hl ⊢;repeat' (first|(refine aSk fun K hK=>?_)|(refine eMo ?_)|(refine eC (fun h=>?_) (fun h=>?_)<;>(try simp at h))|(refine hK _ ?_;clear hK)|(clear hK;refine hK _ ?_;clear hK))
 refine aLK (s0:=?lps1) (m0:=?lpm1) (ι:={i:Nat // i<=l.length∧∀ j,j<i->¬ l.getD j false=v}) [0,1,7] (fun i=>[(8,I i.1)]) (fun _=>[]) (fun i=>l.length - i.1) ⟨0,by omega,by omega⟩ ?lhs1 ?lhm1 ?_ ?_
 case lhs1=>first|(simp [kpS];done)|(simp [kpS];rfl)
 case lhm1=>first|rfl|(simp;done)|(simp;rfl)
 ·exact dle
 ·rintro ⟨i,hi,hinv⟩;simp only;rcases dE (i<l.length) with hil|hil
  ·have hilI:(i:Int)<(l.length:Int):=by omega
   have hg:=zcI hil;have hgE:=zdu hil;have hat:=zf9 (p:=fun y:Bool=>decide (y=v)) hil;have hge:l[i]=l.getD i false:=by rw [List.getD_eq_getElem?_getD,List.getElem?_eq_getElem hil];rfl
   rw [hge] at hat;obtain ⟨b,hb⟩:∃ b,b=l.getD i false:=⟨_,rfl⟩
   rw [<- hb] at hg hgE hat;rcases dE (b=v) with h1|h1
   ·subst h1;have e:=hat (by simp) fun j hj=>by have:=hinv j hj;rw [List.getD_eq_getElem?_getD,List.getElem?_eq_getElem (by omega)] at this;simpa using this
    have zS:=jj hilI<|jj hg<|hgE;repeat' (first|(refine aSk fun K hK=>?_)|(refine zi ?_)|(refine eC (fun h=>?_) (fun h=>?_)<;>(try simp at h))|(refine hK _ ?_;clear hK)|clear hK)
    all_goals clear zS
    refine ⟨by simp,?_⟩;simp [lvI,f182,e];try exact dt
   ·have h1':¬ v=b:=fun h=>h1 h.symm;have h1b:(v == b)=false:=by simpa using h1'
    have zS:=jj hilI<|jj hg<|jj hgE<|jj h1'<|h1b;repeat' (first|(refine aSk fun K hK=>?_)|(refine zi ?_)|(refine eC (fun h=>?_) (fun h=>?_)<;>(try simp at h))|(refine hK _ ?_;clear hK)|clear hK)
    all_goals clear zS
    refine ⟨i+1,?_,⟨by omega,fun j hj=>?_⟩,by omega⟩
    ·exact dle
    ·rcases Nat.lt_succ_iff_lt_or_eq.1 hj with h2|rfl
     ·exact hinv j h2
     ·first|(rw [<- hb];exact h1)|(rw [hb] at h1;simpa using h1)
  ·obtain rfl:i=l.length:=by omega
   have e:zdM (fun y:Bool=>decide (y=v)) l=-1:=zdo fun j hj=>by have:=hinv j hj;rw [List.getD_eq_getElem?_getD,List.getElem?_eq_getElem hj] at this;simpa using this
   repeat' (first|(refine aSk fun K hK=>?_)|(refine eMo ?_)|(refine eC (fun h=>?_) (fun h=>?_)<;>(try simp at h))|(refine hK _ ?_;clear hK)|clear hK)
   refine ⟨by simp,?_⟩;simp [lvI,f182,e];try exact dt
def zv9:List AV->Option AV:=spF (ι:={x:List Bool×Bool // x.1.length<=9223372036854775807}) (fun x=>[.rd 1 (zaP x.1.1),B x.1.2]) fun x=>rtO [B (decide (x.1.2∈x.1.1))]
theorem ztk {l:List Bool} {v:Bool} (h:l.length<=9223372036854775807):zv9 [.rd 1 (zaP l),B v]=some (B (decide (v∈l))):=by refine sFe (ι:={x:List Bool×Bool // x.1.length<=9223372036854775807}) (A:=fun x=>[.rd 1 (zaP x.1.1),B x.1.2]) (R:=fun x=>rtO [B (decide (x.1.2∈x.1.1))]) ⟨(l,v),h⟩ fun j e=>?_;obtain ⟨⟨l',v'⟩,h'⟩:=j;simp only [cJ,AV.rd.injEq,true_and,zgk,B,AV.v.injEq,Value.bool.injEq,and_true] at e;obtain ⟨rfl,rfl⟩:=e;rfl
theorem zB6 (X:AX) (hX:XOK prog X) (hi:X.call 182=caP zv6):PSd prog 118 zv9:=by
 unfold zv9;refine psS hX mixed func118 rfl fun ⟨⟨l,v⟩,hl⟩ w0 G=>⟨by show 2<=9;decide,rfl,?_⟩
 show AW ⟨prog,X,9,w0,.pure G⟩ _ _ _;have hc:=okc hX 9 w0 G;simp only at hl ⊢;have hat:=ztj (v:=v) hl;have hm:=zlv (l:=l) (v:=v);obtain ⟨q,hq⟩:∃ q,q=zdM (fun y=>decide (y=v)) l:=⟨_,rfl⟩
 rw [<- hq] at hat hm;rcases dE (0<=q) with h1|h1
 ·have e:decide (v∈l)=true:=decide_eq_true (hm.1 h1);have zS:=jj hi<|jj hat<|h1;refine zl ?_;repeat (intro K hK)
  clear zS;refine ⟨by simp,?_⟩;simp [lvI,f118,e];try exact dt
 ·have e:decide (v∈l)=false:=decide_eq_false fun h=>h1 (hm.2 h);have zS:=jj hi<|jj hat<|h1;refine zl ?_;repeat (intro K hK)
  clear zS;refine ⟨by simp,?_⟩;simp [lvI,f118,e];try exact dt
theorem zeo {l:List Int} {n:Nat} (h:n<l.length):∀ h',(irw l)[n]'(h')=[I (gi l n)]:=fun h'=>by have hg:=zb1 h;rw [List.getElem?_eq_getElem h'] at hg;exact Option.some.inj hg
def zv5:List AV->Option AV:=spF (ι:={x:List Int×Int // x.1.length<=9223372036854775807}) (fun x=>[.rd 1 (irw x.1.1),I x.1.2]) fun x=>rtO [I (zdM (fun y=>decide (y=x.1.2)) x.1.1)]
theorem zti {l:List Int} {v:Int} (h:l.length<=9223372036854775807):zv5 [.rd 1 (irw l),I v]=some (I (zdM (fun y=>decide (y=v)) l)):=by refine sFe (ι:={x:List Int×Int // x.1.length<=9223372036854775807}) (A:=fun x=>[.rd 1 (irw x.1.1),I x.1.2]) (R:=fun x=>rtO [I (zdM (fun y=>decide (y=x.1.2)) x.1.1)]) ⟨(l,v),h⟩ fun j e=>?_;obtain ⟨⟨l',v'⟩,h'⟩:=j;simp only [cJ,AV.rd.injEq,true_and,irI,I,AV.v.injEq,Value.int.injEq,and_true] at e;obtain ⟨rfl,rfl⟩:=e;rfl
theorem zBD (X:AX) (hX:XOK prog X):PSd prog 194 zv5:=by
 unfold zv5;refine psS hX mixed func194 rfl fun ⟨⟨l,v⟩,hl⟩ w0 G=>⟨by show 2<=19;decide,rfl,?_⟩
 show AW ⟨prog,X,19,w0,.pure G⟩ _ _ _;have hc:=okc hX 19 w0 G;simp only at hl ⊢;repeat' (first|(refine aSk fun K hK=>?_)|(refine eMo ?_)|(refine eC (fun h=>?_) (fun h=>?_)<;>(try simp at h))|(refine hK _ ?_;clear hK)|(clear hK;refine hK _ ?_;clear hK))
 refine aLK (s0:=?lps2) (m0:=?lpm2) (ι:={i:Nat // i<=l.length∧∀ j,j<i->¬ gi l j=v}) [0,1,7] (fun i=>[(8,I i.1)]) (fun _=>[]) (fun i=>l.length - i.1) ⟨0,by omega,by omega⟩ ?lhs2 ?lhm2 ?_ ?_
 case lhs2=>first|(simp [kpS];done)|(simp [kpS];rfl)
 case lhm2=>first|rfl|(simp;done)|(simp;rfl)
 ·exact dle
 ·rintro ⟨i,hi,hinv⟩;simp only;rcases dE (i<l.length) with hil|hil
  ·have hilI:(i:Int)<(l.length:Int):=by omega
   have hg:=zb1 hil;have hgE:=zeo hil;have hat:=zf9 (p:=fun y:Int=>decide (y=v)) hil;have hge:l[i]=gi l i:=(zgG hil).symm;rw [hge] at hat;obtain ⟨b,hb⟩:∃ b,b=gi l i:=⟨_,rfl⟩
   rw [<- hb] at hg hgE hat;rcases dE (b=v) with h1|h1
   ·subst h1;have e:=hat (by simp) fun j hj=>by have:=hinv j hj;rw [zgG (by omega)] at this;simpa using this
    have zS:=jj hilI<|jj hg<|hgE;repeat' (first|(refine aSk fun K hK=>?_)|(refine zi ?_)|(refine eC (fun h=>?_) (fun h=>?_)<;>(try simp at h))|(refine hK _ ?_;clear hK)|clear hK)
    all_goals clear zS
    refine ⟨by simp,?_⟩;simp [lvI,f194,e];try exact dt
   ·have h1':¬ v=b:=fun h=>h1 h.symm;have zS:=jj hilI<|jj hg<|jj hgE<|h1';repeat' (first|(refine aSk fun K hK=>?_)|(refine zi ?_)|(refine eC (fun h=>?_) (fun h=>?_)<;>(try simp at h))|(refine hK _ ?_;clear hK)|clear hK)
    all_goals clear zS
    refine ⟨i+1,?_,⟨by omega,fun j hj=>?_⟩,by omega⟩
    ·exact dle
    ·rcases Nat.lt_succ_iff_lt_or_eq.1 hj with h2|rfl
     ·exact hinv j h2
     ·first|(rw [<- hb];exact h1)|(rw [hb] at h1;simpa using h1)
  ·obtain rfl:i=l.length:=by omega
   have e:zdM (fun y:Int=>decide (y=v)) l=-1:=zdo fun j hj=>by have:=hinv j hj;rw [zgG hj] at this;simpa using this
   repeat' (first|(refine aSk fun K hK=>?_)|(refine eMo ?_)|(refine eC (fun h=>?_) (fun h=>?_)<;>(try simp at h))|(refine hK _ ?_;clear hK)|clear hK)
   refine ⟨by simp,?_⟩;simp [lvI,f194,e];try exact dt
def zv8:List AV->Option AV:=spF (ι:={x:List Int×Int // x.1.length<=9223372036854775807}) (fun x=>[.rd 1 (irw x.1.1),I x.1.2]) fun x=>rtO [B (decide (x.1.2∈x.1.1))]
theorem zBU (X:AX) (hX:XOK prog X) (hi:X.call 194=caP zv5):PSd prog 142 zv8:=by
 unfold zv8;refine psS hX mixed func142 rfl fun ⟨⟨l,v⟩,hl⟩ w0 G=>⟨by show 2<=9;decide,rfl,?_⟩
 show AW ⟨prog,X,9,w0,.pure G⟩ _ _ _;have hc:=okc hX 9 w0 G;simp only at hl ⊢;have hat:=zti (v:=v) hl;have hm:=zlv (l:=l) (v:=v);obtain ⟨q,hq⟩:∃ q,q=zdM (fun y=>decide (y=v)) l:=⟨_,rfl⟩
 rw [<- hq] at hat hm;rcases dE (0<=q) with h1|h1
 ·have e:decide (v∈l)=true:=decide_eq_true (hm.1 h1);have zS:=jj hi<|jj hat<|h1;refine zl ?_;repeat (intro K hK)
  clear zS;refine ⟨by simp,?_⟩;simp [lvI,f142,e];try exact dt
 ·have e:decide (v∈l)=false:=decide_eq_false fun h=>h1 (hm.2 h);have zS:=jj hi<|jj hat<|h1;refine zl ?_;repeat (intro K hK)
  clear zS;refine ⟨by simp,?_⟩;simp [lvI,f142,e];try exact dt
end
set_option maxHeartbeats 2000000 in
set_option maxRecDepth 4000 in
theorem zsM {l:Nat} {t:Tb} {n f:Nat} {led:List Bool} {hs:List Int} (h:zq7 l (t,n,f,led,hs)) {v:Nat} (hv:1<=v) {fl1 fl2:Bool} (M:Nat->AO) (nid:Nat)
  (h0:M 240=.box [.sl 224 1 1 0 led.length]) (h1:M 224=.vec 1 1 fl1 (zaP led)) (h2:M 0=.box [I t.1,.rd 9 (nrw t.2.1),.rd 2 (prw t.2.2)]) (h3:M 272=.box [.sl 336 v 1 0 hs.length]) (h4:M 336=.vec v 1 fl2 (irw hs)) (h5:M 144=.box [.mp 128 1]) (h6:M 128=.map 1 1 (zcF t.2.1 t.2.1.length)) (h7:M 288=.box [.fn 116 [.bp 240 0,.bp 0 0,.bp 272 0,.bp 144 0,.bp 288 0]]) :
  caG (ckS l) [I n,I l,I f,.bp 240 0,.bp 0 0,.bp 272 0,.bp 144 0,.bp 288 0] M nid=some (B (ckR l (t,n,f,led,hs)).1,[(240,.box [.sl 224 1 1 0 (ckR l (t,n,f,led,hs)).2.1.length]),(224,.vec 1 1 false (zaP (ckR l (t,n,f,led,hs)).2.1)),(0,.box [I t.1,.rd 9 (nrw t.2.1),.rd 2 (prw t.2.2)]),(272,.box [.sl 336 (v+((ckR l (t,n,f,led,hs)).2.2.length - hs.length)) 1 0 (ckR l (t,n,f,led,hs)).2.2.length]),(336,.vec (v+((ckR l (t,n,f,led,hs)).2.2.length - hs.length)) 1 false (irw (ckR l (t,n,f,led,hs)).2.2)),(144,.box [.mp 128 1]),(128,.map 1 1 (zcF t.2.1 t.2.1.length)),(288,.box [.fn 116 [.bp 240 0,.bp 0 0,.bp 272 0,.bp 144 0,.bp 288 0]])]):=by
 have hF:=zq6 h;simp only [ckA,ckM] at hF;obtain ⟨R,hR⟩:∃ R,R=ckR l (t,n,f,led,hs):=⟨_,rfl⟩
 rw [<- hR] at hF ⊢;have hvv:1+(R.2.2.length - hs.length)+(v - 1)=v+(R.2.2.length - hs.length):=by omega
 have hv0:¬ v=0:=by omega
 unfold caG;have hg:gat M 64 (nmsL [I n,I l,I f,.bp 240 0,.bp 0 0,.bp 272 0,.bp 144 0,.bp 288 0]) []=[240,224,0,272,336,144,128,288]:=by simp [gat,nmsL,AV.nms,AO.nms,h0,h1,h2,h3,h4,h5,h6,h7]
 simp only [hg];rw [if_pos ?cg]
 case cg=>simp [zbp,nmsL,AV.nms,AO.nms,Led,curBL,AV.curB,AO.curB,zaj,nDd,h0,h1,h2,h3,h4,h5,h6,h7]
 simp [renL,AV.ren,AO.ren,zbL,zdP,nmsL,h0,h1,h2,h3,h4,h5,h6,h7,hF,zeZ,zcc,AV.nms,AO.nms,zdC,nmN,shN,zaj,hvv,rng,Led]
def wkA (t:Tb):Bool×WSt:=wk WA t.2.1 2 ((fnd t.2.1 t.1).getD 0) 0 (List.replicate t.2.1.length false,[])
noncomputable def chk (t:Tb):Int:=if zdL t≠0 then zdL t else if (wkA t).1=true∧false ∉ (wkA t).2.1∧(wkA t).2.2=t.2.2.map (·.1) then 0 else 3
theorem zfT {t:Tb} (h:zdL t=0):zme t=true∧zmA t=true∧twB t=false∧∃ r,fnd t.2.1 t.1=some r:=by
 unfold zdL at h;cases h1:zme t with
 | false=>rw [if_pos h1] at h;simp at h
 | true =>
  rw [if_neg (by simp [h1])] at h;cases h2:zmA t with
  | false=>rw [if_pos h2] at h;simp at h
  | true =>
   rw [if_neg (by simp [h2])] at h;cases h3:twB t with
   | true=>rw [if_pos h3] at h;simp at h
   | false =>
    rw [if_neg (by simp [h3])] at h;cases h4:fnd t.2.1 t.1 with
    | none=>rw [if_pos h4] at h;simp at h
    | some r=>exact ⟨rfl,rfl,rfl,r,rfl⟩
theorem zu8 (n:Nat):List.replicate n [AV.v (.bool false)]=zaP (List.replicate n false):=by simp [zaP,B]
set_option maxHeartbeats 4000000 in
theorem s39 (X:AX) (hX:XOK prog X) (hw:X.W wT) (hnu:∀ t:Tb,zf t->∀ M n,X.call 114 [TbV t] M n=some (I (zdL t),[]))
  (hix:∀ t:Tb,zf t->∀ M n,X.call 115 [TbV t] M n=some (.mp n 1,[(n,.map 1 1 (zcF t.2.1 t.2.1.length))]))
  (hwa:X.call 116=caG (ckS 2)) (hco:X.call 118=caP zv9) :
  PSd prog 39 (spF (ι:={x:Tb // zf x}) (fun x=>[TbV x.1]) fun x=>rtO [I (chk x.1)]):=by
 refine psS hX mixed func39 rfl fun ⟨⟨r,ns,ds⟩,ht⟩ w0 G=>⟨by show 1<=57;decide,rfl,?_⟩
 show AW ⟨prog,X,57,w0,.pure G⟩ _ _ _;have hc:=okc hX 57 w0 G;have hl1:ns.length<=1000000:=ht.2.1;have hl2:ds.length<=1000000:=ht.2.2;have hix':=hix (r,ns,ds) ht;have hnu':=hnu (r,ns,ds) ht;have hcz:zdL (r,ns,ds)≠0->chk (r,ns,ds)=zdL (r,ns,ds):=fun h=>by unfold chk;rw [if_pos h]
 obtain ⟨c,hcc⟩:∃ c,c=zdL (r,ns,ds):=⟨_,rfl⟩
 simp only [TbV] at hix' hnu' ⊢;rw [<- hcc] at hnu' hcz;rcases dE (c=0) with h0|h0
 ·subst h0;obtain ⟨hR,hA,hT,rt,hrt⟩:=zfT hcc.symm;have hAN:=zib hA;simp only at hAN hrt;have hget:=zcE hAN r;rw [hrt] at hget;try simp only [Option.map_some] at hget
  have hrl:=zay hrt;have hfs:=zu8 ns.length;try simp only at hfs
  iterate 29 (first|(apply aSk;intro K hK)|(refine zae hc (by first|exact zau|(intro _;rw [zat hw];kernel_rfl)|(intro _;rw [ordB_w0 hw0];kernel_rfl)|(intro _;kernel_rfl)) ?_;simp [List.zipIdx,hnu',hix',hget,hfs,-zb,gMh,gMm,gMn];(repeat (simp (disch:=first|omega|assumption|fail) only [if_pos,if_neg,zm];try simp [List.zipIdx,hnu',hix',hget,hfs,-zb,gMh,gMm,gMn]));try (repeat' (refine gQs (fun h=>?_) (fun h=>?_)<;>simp at h<;>(simp [List.zipIdx,hnu',hix',hget,hfs,-zb,gMh,gMm,gMn];(repeat (simp (disch:=first|omega|assumption|fail) only [if_pos,if_neg,zm];try simp [List.zipIdx,hnu',hix',hget,hfs,-zb,gMh,gMm,gMn]))))))|(refine eC (fun h=>?_) (fun h=>?_)<;>(try simp at h))|(refine aBl ?_)|(refine zaf ?_;simp only [ze,bkQ,if_true])|(refine zag ?_;simp [ze,bkQ])|(refine zar ?_;simp only [ze,bkQ])|(refine aRd ?_)|(refine hK _ ?_;clear hK)|(clear hK;refine hK _ ?_;clear hK)|(clear hK;clear hK;refine hK _ ?_;clear hK)|(clear hK;clear hK;clear hK;refine hK _ ?_;clear hK))
  refine zad (zeO (b:=272) (i:=0) (sz:=1) rfl rfl) ?_;have hck:zq7 2 ((r,ns,ds),rt,0,List.replicate ns.length false,[]):=⟨ht,hAN,hrl,by simp,by simp,by simp⟩
  have hcall:=@zsM 2 (r,ns,ds) rt 0 (List.replicate ns.length false) [] hck 1 (Nat.le_refl _) false false;have hckR:ckR 2 ((r,ns,ds),rt,0,List.replicate ns.length false,[])=wkA (r,ns,ds):=by unfold ckR wkA;simp only;rw [hrt];rfl
  rw [hckR] at hcall;have hadd:=zeG (D:=WA) (ns:=ns) (l:=2) rt 0 (List.replicate ns.length false,[]);rw [show wk WA ns 2 rt 0 (List.replicate ns.length false,[])=wkA (r,ns,ds) from hckR] at hadd;have hfin:chk (r,ns,ds)=if (wkA (r,ns,ds)).1=true∧false ∉ (wkA (r,ns,ds)).2.1∧(wkA (r,ns,ds)).2.2=ds.map (·.1) then 0 else 3:=by unfold chk;rw [if_neg (by rw [<- hcc];simp)]
  obtain ⟨⟨b,led,hs⟩,hR3⟩:∃ R,R=wkA (r,ns,ds):=⟨_,rfl⟩
  rw [<- hR3] at hcall hadd hfin;simp only [List.length_replicate,zkD,List.length_nil] at hcall hadd hfin;rw [hadd.1] at hcall;rw [<- hwa,show ((2:Nat):Int)=(2:Int) from rfl,show ((0:Nat):Int)=(0:Int) from rfl] at hcall;obtain ⟨v,hv⟩:∃ v,v=1+(hs.length - 0):=⟨_,rfl⟩
  rw [<- hv] at hcall;have hirn:irw []=[]:=rfl;have hct:=ztk (l:=led) (v:=false) (by omega);have htk:List.take ns.length (zaP led)=zaP led:=tkL (by simp;omega);rw [hirn] at hcall;cases b with
  | false =>
   rw [hfin];have zS:=jj hcall<|hget;repeat' (first|(refine aSk fun K hK=>?_)|(refine zi ?_)|(refine eC (fun h=>?_) (fun h=>?_)<;>(try simp at h))|(refine hK _ ?_;clear hK)|clear hK)
   all_goals clear zS
   refine ⟨by simp,?_⟩;simp [lvI,f39];try exact dt
  | true =>
   rcases dE (false∈led) with h1|h1
   ·rw [decide_eq_true h1] at hct;rw [hfin,if_neg (fun h=>h.2.1 h1)];have zS:=jj hcall<|jj hget<|jj hco<|jj hct<|htk;repeat' (first|(refine aSk fun K hK=>?_)|(refine zi ?_)|(refine eC (fun h=>?_) (fun h=>?_)<;>(try simp at h))|(refine hK _ ?_;clear hK)|clear hK)
    all_goals clear zS
    refine ⟨by simp,?_⟩;simp [lvI,f39];try exact dt
   ·rw [decide_eq_false h1] at hct;rcases dE (hs.length=ds.length) with h2|h2
    ·have hfin2:chk (r,ns,ds)=if hs=ds.map (·.1) then 0 else 3:=by rw [hfin];simp [h1]
     have zS:=jj hcall<|jj hget<|jj hco<|jj hct<|jj htk<|h2;repeat' (first|(refine aSk fun K hK=>?_)|(refine zi ?_)|(refine eC (fun h=>?_) (fun h=>?_)<;>(try simp at h))|(refine hK _ ?_;clear hK)|(clear hK;refine hK _ ?_;clear hK))
     all_goals clear zS
     refine aLK (s0:=?lps1) (m0:=?lpm1) (ι:={i:Nat // i<=ds.length∧∀ j,j<i->gi hs j=(gp ds j).1}) [6,42,43] (fun i=>[(44,I i.1)]) (fun _=>[]) (fun i=>ds.length - i.1) ⟨0,by omega,by omega⟩ ?lhs1 ?lhm1 ?_ ?_
     case lhs1=>first|(simp [kpS];done)|(simp [kpS];rfl)
     case lhm1=>first|rfl|(simp;done)|(simp;rfl)
     ·exact dle
     ·rintro ⟨i,hi,hinv⟩;simp only;rcases dE (i<ds.length) with hil|hil
      ·have hilI:(i:Int)<(ds.length:Int):=by omega
       have hg:=zab hil;have hgE:=zac hil;have hg2:=zb1 (l:=hs) (n:=i) (by omega);have hgE2:=zeo (l:=hs) (n:=i) (by omega);have hno:¬ gi hs i=(gp ds i).1->chk (r,ns,ds)=3:=fun h=>by rw [hfin2,if_neg];intro e;refine h ?_;rw [zgG (by omega),zax hil];subst e;simp
       obtain ⟨x,hx⟩:∃ x,x=gi hs i:=⟨_,rfl⟩
       rw [<- hx] at hg2 hgE2 hno;obtain ⟨⟨a,b⟩,hm⟩:∃ m,m=gp ds i:=⟨_,rfl⟩
       rw [<- hm] at hg hgE hno;simp only at hg hgE hno;rcases dE (x=a) with h3|h3
       ·have zS:=jj hil<|jj hilI<|jj hg<|jj hgE<|jj hg2<|jj hgE2<|h3;repeat' (first|(refine aSk fun K hK=>?_)|(refine zi ?_)|(refine eC (fun h=>?_) (fun h=>?_)<;>(try simp at h))|(refine hK _ ?_;clear hK)|clear hK)
        all_goals clear zS
        refine ⟨i+1,?_,⟨by omega,fun j hj=>?_⟩,by omega⟩
        ·exact dle
        ·rcases Nat.lt_succ_iff_lt_or_eq.1 hj with h4|rfl
         ·exact hinv j h4
         ·rw [<- hx,<- hm];exact h3
       ·have e:=hno h3;have zS:=jj hil<|jj hilI<|jj hg<|jj hgE<|jj hg2<|jj hgE2<|h3;repeat' (first|(refine aSk fun K hK=>?_)|(refine zi ?_)|(refine eC (fun h=>?_) (fun h=>?_)<;>(try simp at h))|(refine hK _ ?_;clear hK)|clear hK)
        all_goals clear zS
        refine ⟨by simp,?_⟩;simp [lvI,f39,e];try exact dt
      ·obtain rfl:i=ds.length:=by omega
       have e:chk (r,ns,ds)=0:=by rw [hfin2,if_pos];refine List.ext_getElem (by simp [h2]) fun j hj hj2=>?_;have:=hinv j (by omega);rw [zgG hj,zax (by omega)] at this;simpa using this
       repeat' (first|(refine aSk fun K hK=>?_)|(refine eMo ?_)|(refine eC (fun h=>?_) (fun h=>?_)<;>(try simp at h))|(refine hK _ ?_;clear hK)|clear hK)
       refine ⟨by simp,?_⟩;simp [lvI,f39,e];try exact dt
    ·rw [hfin,if_neg (fun h=>h2 (by rw [h.2.2];simp))];have h2I:¬ (hs.length:Int)=(ds.length:Int):=by omega
     have zS:=jj hcall<|jj hget<|jj hco<|jj hct<|jj htk<|jj h2<|h2I;repeat' (first|(refine aSk fun K hK=>?_)|(refine zi ?_)|(refine eC (fun h=>?_) (fun h=>?_)<;>(try simp at h))|(refine hK _ ?_;clear hK)|clear hK)
     all_goals clear zS
     refine ⟨by simp,?_⟩;simp [lvI,f39];try exact dt
 ·rw [hcz h0];have zS:=jj hnu'<|h0;refine zl ?_;repeat (intro K hK)
  clear zS;refine ⟨by simp,?_⟩;simp [lvI,f39];try exact dt
theorem zga {a b:Int->Bool} {M:Mm} {root:Int}:∀ {d q:Nat},frP (WD a) M root d q=frP (WD b) M root d q
 | 0,q=>rfl
 | d+1,q=>by simp only [frP];rw [zga (a:=a) (b:=b)];rfl
theorem zv1 {a b:Int->Bool} {M:Mm} {root:Int} (h:VM (WD a) M root):VM (WD b) M root where
 nd:=fun d q hx f hf=>by rw [zga (b:=a)] at hf;exact h.nd d q hx f hf
 inj:=fun d q d' q' hx hy f hf hf'=>by rw [zga (b:=a)] at hf hf';exact h.inj d q d' q' hx hy f hf hf'
 all:=fun f ws hf=>by obtain ⟨d,q,hx,k⟩:=h.all f ws hf;exact ⟨d,q,hx,by rw [zga (b:=a)];exact k⟩
def zpc (M:Mm) (root:Int) (g:Nat):Bool:=match frP WA M root 1 (g/8) with
 | some f=>zeP (wM M f (g%8))
 | none=>false
def zn8 (M:Mm) (root:Int):List Int:=((List.range 64).filter (zpc M root)).map fun g:Nat=>(g:Int)
theorem zfm {M:Mm} {root:Int} {g:Int}:g∈zn8 M root↔∃ k:Nat,k<64∧g=k∧zpc M root k=true:=by
 unfold zn8;simp only [List.mem_map,List.mem_filter,List.mem_range];constructor
 ·rintro ⟨k,⟨h1,h2⟩,rfl⟩;exact ⟨k,h1,rfl,h2⟩
 ·rintro ⟨k,h1,rfl,h2⟩;exact ⟨k,⟨h1,h2⟩,rfl⟩
theorem zfp {M:Mm} {root:Int} {g:Nat}:zpc M root g=true↔∃ f,frP WA M root 1 (g/8)=some f∧zeP (wM M f (g%8))=true:=by unfold zpc;cases frP WA M root 1 (g/8)<;>simp
structure zs4 (t:Tb):Prop where
 fr:∀ n∈t.2.1,zha n.1
 df:∀ d∈t.2.2,zha d.2∧0<=d.1∧d.1<64
 asc:zby t.2.1
 dasc:t.2.2.Pairwise fun a b=>a.1<b.1
 apart:∀ d∈t.2.2,∀ n∈t.2.1,n.1≠d.2
 once:t.2.2.Pairwise fun a b=>a.2≠b.2
 root:∃ n∈t.2.1,n.1=t.1
theorem zkn {ns:List Nd} {f:Int} (h:∃ n∈ns,n.1=f):∃ r,fnd ns f=some r:=by obtain ⟨n,hn,e⟩:=h;unfold fnd;have:ns.findIdx (fun n=>decide (n.1=f))<ns.length:=List.findIdx_lt_length_of_exists ⟨n,hn,by simpa using e⟩;rw [if_pos this];exact ⟨_,rfl⟩
theorem zfS {t:Tb}:zdL t=0↔zs4 t:=by
 constructor
 ·intro h;obtain ⟨hR,hA,hT,r,hr⟩:=zfT h;obtain ⟨r1,r2⟩:=zfk.1 hR;obtain ⟨a1,a2⟩:=zeC.1 hA;have hno:∀ i,i<t.2.2.length->¬ twN t i:=fun i hi h=>by have:=zhq.2 ⟨i,hi,h⟩;rw [hT] at this;simp at this
  refine ⟨fun n hn=>?_,fun d hd=>?_,zib hA,?_,fun d hd n hn e=>?_,?_,?_⟩
  ·obtain ⟨i,hi,rfl⟩:=List.getElem_of_mem hn;rw [<- zcl hi];exact r1 i hi
  ·obtain ⟨i,hi,rfl⟩:=List.getElem_of_mem hd;rw [<- zax hi];exact r2 i hi
  ·refine List.pairwise_iff_getElem.2 fun i j hi hj hij=>?_;have key:∀ d,i+d+1<t.2.2.length->(gp t.2.2 i).1<(gp t.2.2 (i+d+1)).1:=by
    intro d;induction d with
    | zero=>intro h;exact a2 i h
    | succ d ih=>intro h;exact Int.lt_trans (ih (by omega)) (a2 (i+d+1) h)
   have:=key (j - i - 1) (by omega);rw [show i+(j - i - 1)+1=j by omega,zax hi,zax hj] at this;exact this
  ·obtain ⟨i,hi,rfl⟩:=List.getElem_of_mem hd;obtain ⟨j,hj,rfl⟩:=List.getElem_of_mem hn;exact hno i hi (.inl ⟨j,hj,by rw [zcl hj,zax hi];exact e⟩)
  ·refine List.pairwise_iff_getElem.2 fun i j hi hj hij e=>?_;exact hno j hj (.inr ⟨i,hij,by rw [zax hi,zax hj];exact e⟩)
  ·exact ⟨_,zaL (zay hr),fFr hr⟩
 ·intro h;have hR:zme t=true:=zfk.2 ⟨fun j hj=>h.fr _ (zaL hj),fun j hj=>h.df _ (zlq hj)⟩;have hA:zmA t=true:=zeC.2 ⟨fun j hj=>zoO h.asc (by omega) hj,fun j hj=>by have:=List.pairwise_iff_getElem.1 h.dasc j (j+1) (by omega) hj (by omega);rw [zax (by omega),zax hj];exact this⟩;have hT:twB t=false:=zqw fun i hi=>by
   rintro (⟨j,hj,e⟩|⟨j,hj,e⟩)
   ·exact h.apart _ (zlq hi) _ (zaL hj) e
   ·have:=List.pairwise_iff_getElem.1 h.once j i (by omega) hi hj;rw [zax (by omega),zax hi] at e;exact this e
  obtain ⟨r,hr⟩:=zkn h.root;exact zqJ hR hA hT (by rw [hr];simp)
theorem zhJ {t:Tb} (ht:zf t):zpy t.2.1:=fun n hn=>(ht.1 n hn).1
theorem ziV {n:Nat} {l:List Nat} (hl:∀ i∈l,i<n):false ∉ zdF (List.replicate n false) l↔∀ i,i<n->i∈l:=by
 have hg:∀ j,(zdF (List.replicate n false) l).getD j false=decide (j∈l):=fun j=>by
  rw [zdk (by simpa using hl)];have:(List.replicate n false).getD j false=false:=by rw [List.getD_eq_getElem?_getD,List.getElem?_replicate];split<;>rfl
  rw [this,Bool.or_false]
 constructor
 ·intro h i hi;have h1:=hg i;cases hd:decide (i∈l) with
  | true=>simpa using hd
  | false =>
   exfalso;rw [hd] at h1;have hlen:i<(zdF (List.replicate n false) l).length:=by simp [hi]
   rw [List.getD_eq_getElem?_getD,List.getElem?_eq_getElem hlen] at h1;simp only [Option.getD_some] at h1;have h3:=List.getElem_mem hlen;rw [h1] at h3;exact h h3
 ·intro h hm;obtain ⟨j,hj,e⟩:=List.getElem_of_mem hm;have h1:=hg j;rw [List.getD_eq_getElem?_getD,List.getElem?_eq_getElem hj] at h1;simp only [Option.getD_some] at h1;rw [e] at h1;have:=h j (by simpa using hj);simp [this] at h1
theorem zrl {adm:Int->Bool} {t:Tb} (ht:zf t) {r:Nat} (hr:fnd t.2.1 t.1=some r) (ha:zby t.2.1) :
  ((wk (WD adm) t.2.1 2 r 0 (List.replicate t.2.1.length false,[])).1=true∧false ∉ (wk (WD adm) t.2.1 2 r 0 (List.replicate t.2.1.length false,[])).2.1 ↔
   (VM WA (Mof t.2.1) t.1∧∀ g∈zn8 (Mof t.2.1) t.1,adm g=true)) ∧
  ((wk (WD adm) t.2.1 2 r 0 (List.replicate t.2.1.length false,[])).1=true->(wk (WD adm) t.2.1 2 r 0 (List.replicate t.2.1.length false,[])).2.2=zn8 (Mof t.2.1) t.1):=by
 have hrl:=zay hr;have h1:=ztN (D:=WD adm) (ns:=t.2.1) (fun w h=>(zeY adm).flat w h) (l:=2) r 0 (List.replicate t.2.1.length false,[]) hrl (by simp);have hlt:∀ i∈ids (WD adm) t.2.1 2 r,i<t.2.1.length:=zn7 hrl;have hgd:∀ i,(List.replicate t.2.1.length false).getD i false=false:=fun i=>by rw [List.getD_eq_getElem?_getD,List.getElem?_replicate];split<;>rfl
 have h2:=zm3 (D:=WD adm) (zeY adm) ha (zhJ ht) hr;have hadm:(VM (WD adm) (Mof t.2.1) t.1∧∀ q i f,q<8->i<8->frP (WD adm) (Mof t.2.1) t.1 1 q=some f->(WD adm).hug (wM (Mof t.2.1) f i)=true->(WD adm).adm ((q*8+i:Nat):Int)=true)↔(VM WA (Mof t.2.1) t.1∧∀ g∈zn8 (Mof t.2.1) t.1,adm g=true):=by
  constructor
  ·rintro ⟨a,b⟩;refine ⟨zv1 a,fun g hg=>?_⟩;obtain ⟨k,hk,rfl,hB⟩:=zfm.1 hg;obtain ⟨f,hf,hw⟩:=zfp.1 hB;have:=b (k/8) (k%8) f (by omega) (by omega) (by rw [zga (b:=fun _=>true)];exact hf) hw;rw [show k/8*8+k%8=k by omega] at this;exact this
  ·rintro ⟨a,b⟩;refine ⟨zv1 a,fun q i f hq hi hf hw=>?_⟩;refine b _ (zfm.2 ⟨q*8+i,by omega,rfl,zfp.2 ⟨f,?_,?_⟩⟩)
   ·rw [show (q*8+i)/8=q by omega,zga (b:=adm)];exact hf
   ·rw [show (q*8+i)%8=i by omega];exact hw
 obtain ⟨R,hR⟩:∃ R,R=wk (WD adm) t.2.1 2 r 0 (List.replicate t.2.1.length false,[]):=⟨_,rfl⟩
 rw [<- hR] at h1 ⊢;refine ⟨?_,fun hb=>?_⟩
 ·rw [<- hadm,<- h2];constructor
  ·rintro ⟨a,b⟩;obtain ⟨g1,g2,g3⟩:=h1.1.1 a;rw [h1.2 a] at b;simp only at b;exact ⟨g1,g2,(ziV hlt).1 b⟩
  ·rintro ⟨g1,g2,g3⟩;have a:=h1.1.2 ⟨g1,g2,fun i _=>hgd i⟩;refine ⟨a,?_⟩;rw [h1.2 a];exact (ziV hlt).2 g3
 ·rw [h1.2 hb];simp only [List.nil_append];obtain ⟨g1,g2,g3⟩:=h1.1.1 hb;rw [zpN (zeY adm) g1];unfold zxw zn8;congr 1;refine List.filter_congr fun g hg=>?_;have:=zpP (zeY adm) ha (zhJ ht) hr g1 (List.mem_range.1 hg);rw [Bool.eq_iff_iff,this,zfp];rw [zga (b:=fun _=>true)];exact Iff.rfl
structure Vt (t:Tb):Prop where
 num:zs4 t
 vm:VM WA (Mof t.2.1) t.1
 dep:t.2.2.map (·.1)=zn8 (Mof t.2.1) t.1
theorem zcH {t:Tb} (ht:zf t):chk t=0↔Vt t:=by
 unfold chk;by_cases hn:zdL t=0
 ·obtain ⟨hR,hA,hT,r,hr⟩:=zfT hn;have h1:=zrl (adm:=fun _=>true) ht hr (zib hA);rw [if_neg (by simp [hn])];have hw:wkA t=wk WA t.2.1 2 r 0 (List.replicate t.2.1.length false,[]):=by unfold wkA;rw [hr];rfl
  rw [hw];constructor
  ·intro h;split at h
   ·rename_i hh;have:=h1.1.1 ⟨hh.1,hh.2.1⟩;exact ⟨zfS.1 hn,this.1,by rw [<- hh.2.2];exact h1.2 hh.1⟩
   ·simp at h
  ·intro h;have:=h1.1.2 ⟨h.vm,fun _ _=>rfl⟩;rw [if_pos ⟨this.1,this.2,by rw [h1.2 this.1];exact h.dep.symm⟩]
 ·rw [if_pos hn];exact ⟨fun h=>absurd h hn,fun h=>absurd (zfS.2 h.num) hn⟩
set_option maxHeartbeats 4000000
@[simp] theorem zzn:za prog 192=some ⟨.slice 173,1,24,[.slice none 0 0]⟩:=by kernel_rfl
def dgt (p l:Nat):Nat:=p/8^l%8
theorem zbA (p l:Nat):dgt p l<8:=by unfold dgt;omega
theorem zBX (X:AX) (hX:XOK prog X) (hw:X.W wT):PSd prog 139 (spF (ι:={x:Nat×Nat // x.1<512∧x.2<=2}) (fun x=>[I x.1.1,I x.1.2]) fun x=>rtO [I (dgt x.1.1 x.1.2)]):=by
 refine psS hX mixed func139 rfl fun ⟨⟨n,l⟩,hn,hl⟩ w0 G=>⟨by show 2<=13;decide,rfl,?_⟩
 show AW ⟨prog,X,13,w0,.pure G⟩ _ _ _;have hc:=okc hX 13 w0 G;simp only at hn hl ⊢;have m1:(n:Int).tmod 8=((n%8:Nat):Int):=by rw [Int.tmod_eq_emod_of_nonneg (by omega)];omega
 have m2:((n:Int)/8).tmod 8=((n/8%8:Nat):Int):=by rw [Int.tmod_eq_emod_of_nonneg (by omega)];omega
 have m3:((n:Int)/8/8).tmod 8=((n/64%8:Nat):Int):=by rw [Int.tmod_eq_emod_of_nonneg (by omega)];omega
 have w8:IntKind.i64.wrap ((n:Int)/8)=(n:Int)/8:=zm (by omega);have w64:IntKind.i64.wrap ((n:Int)/8/8)=(n:Int)/8/8:=zm (by omega);have t8:((n:Int)/8).tdiv 8=(n:Int)/8/8:=Int.tdiv_eq_ediv_of_nonneg (by omega);rcases (by omega:l=0∨l=1∨l=2) with rfl|rfl|rfl
 ·have e:dgt n 0=n%8:=by unfold dgt;simp
  have zS:=jj m1<|jj m2<|jj m3<|jj w8<|jj w64<|t8;repeat' (first|(refine aSk fun K hK=>?_)|(refine zi ?_)|(refine eC (fun h=>?_) (fun h=>?_)<;>(try simp at h))|(refine hK _ ?_;clear hK)|(clear hK;refine hK _ ?_;clear hK))
  all_goals clear zS
  refine zif 1 (aRd ?_);have zS:=jj m1<|jj m2<|jj m3<|jj w8<|jj w64<|t8;repeat' (first|(refine aSk fun K hK=>?_)|(refine zi ?_)|(refine eC (fun h=>?_) (fun h=>?_)<;>(try simp at h))|(refine hK _ ?_;clear hK)|clear hK)
  all_goals clear zS
  refine ⟨by simp,?_⟩;simp [lvI,f139,e];try exact dt
 ·have e:dgt n 1=n/8%8:=by unfold dgt;simp
  have zS:=jj m1<|jj m2<|jj m3<|jj w8<|jj w64<|t8;repeat' (first|(refine aSk fun K hK=>?_)|(refine zi ?_)|(refine eC (fun h=>?_) (fun h=>?_)<;>(try simp at h))|(refine hK _ ?_;clear hK)|(clear hK;refine hK _ ?_;clear hK))
  all_goals clear zS
  refine zif 2 (aRd ?_);have zS:=jj m1<|jj m2<|jj m3<|jj w8<|jj w64<|t8;repeat' (first|(refine aSk fun K hK=>?_)|(refine zi ?_)|(refine eC (fun h=>?_) (fun h=>?_)<;>(try simp at h))|(refine hK _ ?_;clear hK)|clear hK)
  all_goals clear zS
  refine ⟨by simp,?_⟩;simp [lvI,f139,e];try exact dt
 ·have e:dgt n 2=n/64%8:=by unfold dgt;simp
  have zS:=jj m1<|jj m2<|jj m3<|jj w8<|jj w64<|t8;repeat' (first|(refine aSk fun K hK=>?_)|(refine zi ?_)|(refine eC (fun h=>?_) (fun h=>?_)<;>(try simp at h))|(refine hK _ ?_;clear hK)|(clear hK;refine hK _ ?_;clear hK))
  all_goals clear zS
  refine zif 3 (aRd ?_);have zS:=jj m1<|jj m2<|jj m3<|jj w8<|jj w64<|t8;repeat' (first|(refine aSk fun K hK=>?_)|(refine zi ?_)|(refine eC (fun h=>?_) (fun h=>?_)<;>(try simp at h))|(refine hK _ ?_;clear hK)|clear hK)
  all_goals clear zS
  refine ⟨by simp,?_⟩;simp [lvI,f139,e];try exact dt
abbrev Stp:=Nat×Nat×Nat
section
variable (ns:NdL) (p:Nat)
def pth:Nat->Nat->List Stp
 | 0,n=>[(n,0,wd ns n (dgt p 0))]
 | l+1,n=>(n,l+1,wd ns n (dgt p (l+1)))::(match kid WA ns (wd ns n (dgt p (l+1))) with
  | some nx=>pth l nx
  | none=>[])
def lst:Nat->Nat->Stp
 | 0,n=>(n,0,wd ns n (dgt p 0))
 | l+1,n=>match kid WA ns (wd ns n (dgt p (l+1))) with
  | some nx=>lst l nx
  | none=>(n,l+1,wd ns n (dgt p (l+1)))
def pok:Nat->Nat->Prop
 | 0,n=>zbc (wd ns n (dgt p 0))=none
 | l+1,n=>∀ g,zbc (wd ns n (dgt p (l+1)))=some g->∃ nx,fnd ns g=some nx∧pok l nx
end
theorem zjY {ns:NdL} {p:Nat}:∀ {l n:Nat},∃ i,pth ns p l n=i++[lst ns p l n]
 | 0,n=>⟨[],rfl⟩
 | l+1,n=>by
  simp only [pth,lst];cases kid WA ns (wd ns n (dgt p (l+1))) with
  | none=>exact ⟨[],rfl⟩
  | some nx =>obtain ⟨i,hi⟩:=zjY (ns:=ns) (p:=p) (l:=l) (n:=nx);simp only;rw [hi];exact ⟨(n,l+1,wd ns n (dgt p (l+1)))::i,rfl⟩
theorem zhD {ns:NdL} {p:Nat}:∀ {l n:Nat},(pth ns p l n).length<=l+1
 | 0,n=>by simp [pth]
 | l+1,n=>by
  simp only [pth];cases kid WA ns (wd ns n (dgt p (l+1))) with
  | none=>simp
  | some nx =>have:=zhD (ns:=ns) (p:=p) (l:=l) (n:=nx);simp;omega
theorem zg5 {ns:NdL} {p:Nat}:∀ {l n:Nat},n<ns.length->(lst ns p l n).1<ns.length∧(lst ns p l n).2.1<=l
 | 0,n,h=>⟨h,Nat.le_refl _⟩
 | l+1,n,h=>by
  simp only [lst];cases hk:kid WA ns (wd ns n (dgt p (l+1))) with
  | none=>exact ⟨h,Nat.le_refl _⟩
  | some nx =>have:=zg5 (ns:=ns) (p:=p) (l:=l) (znV hk);exact ⟨this.1,by simp only;omega⟩
theorem zld {ns:NdL} {p:Nat}:∀ {l n:Nat},(lst ns p l n).2.2=wd ns (lst ns p l n).1 (dgt p (lst ns p l n).2.1)
 | 0,n=>rfl
 | l+1,n=>by
  simp only [lst];cases hk:kid WA ns (wd ns n (dgt p (l+1))) with
  | none=>rfl
  | some nx=>exact zld
def zfa (s:Stp):List AV:=[I s.1,I s.2.1,U s.2.2]
def zbt (l:List Stp):List (List AV):=l.map zfa
@[simp] theorem zqy (l:List Stp):(zbt l).length=l.length:=by simp [zbt]
def stV (s:Stp):AV:=.agg (zfa s)
def rtN (t:Tb):Nat:=(fnd t.2.1 t.1).getD 0
def ptO (t:Tb) (p:Nat):Prop:=zf t∧zby t.2.1∧p<512∧(∃ r,fnd t.2.1 t.1=some r)∧pok t.2.1 p 2 (rtN t)
def ptL (t:Tb) (p:Nat):List Stp:=pth t.2.1 p 2 (rtN t)
def lsT (t:Tb) (p:Nat):Stp:=lst t.2.1 p 2 (rtN t)
theorem zlH {w:Nat}:zbc w=none↔(zj w).1.1≠4:=by unfold zbc;split<;>simp [*]
theorem zBZ (X:AX) (hX:XOK prog X) (hw:X.W wT) (hix:∀ t:Tb,zf t->∀ M n,X.call 115 [TbV t] M n=some (.mp n 1,[(n,.map 1 1 (zcF t.2.1 t.2.1.length))]))
  (hdg:∀ (p l:Nat),p<512->l<=2->∀ M n,X.call 139 [I p,I l] M n=some (I (dgt p l),[])) (hen:∀ w:Nat,w<2^64->∀ M n,X.call 113 [U w] M n=some (EnV (zj w).1,[])) :
  PSd prog 137 (spF (ι:={x:Tb×Nat // ptO x.1 x.2}) (fun x=>[TbV x.1.1,I x.1.2]) fun x=>rtO [.ow 3 (zbt (ptL x.1.1 x.1.2))]):=by
 refine psS hX mixed func137 rfl fun ⟨⟨⟨r,ns,ds⟩,p⟩,ht,ha,hp,⟨rt,hrt⟩,hpo⟩ w0 G=>⟨by show 2<=46;decide,rfl,?_⟩
 show AW ⟨prog,X,46,w0,.pure G⟩ _ _ _;have hc:=okc hX 46 w0 G;simp only at ha hp hrt hpo;have hix':=hix (r,ns,ds) ht;have hget:=zcE ha r;rw [hrt] at hget;try simp only [Option.map_some] at hget
 have hrl:=zay hrt;have hl1:ns.length<=1000000:=ht.2.1;have hrn:rtN (r,ns,ds)=rt:=by unfold rtN;simp only;rw [hrt];rfl
 rw [hrn] at hpo;obtain ⟨F,hF⟩:∃ F,F=ptL (r,ns,ds) p:=⟨_,rfl⟩
 simp only [TbV,<- hF] at hix' ⊢;unfold ptL at hF;rw [hrn] at hF;simp only at hF;have zS:=jj hix'<|hget;repeat' (first|(refine aSk fun K hK=>?_)|(refine zi ?_)|(refine eC (fun h=>?_) (fun h=>?_)<;>(try simp at h))|(refine hK _ ?_;clear hK)|(clear hK;refine hK _ ?_;clear hK))
 all_goals clear zS
 refine zad (zeN (t:=7) (sz:=3) (by simp)) ?_;refine aLK (s0:=?lps1) (m0:=?lpm1) (ι:={s:Nat×Nat×List Stp // s.1<=2∧s.2.1<ns.length∧pok ns p s.1 s.2.1∧s.2.2++pth ns p s.1 s.2.1=F}) [1,2,5] (fun s=>[(8,I s.1.1),(6,I s.1.2.1),(7,.sl 192 1 3 0 s.1.2.2.length)]) (fun s=>[(192,.vec 1 3 false (zbt s.1.2.2))]) (fun s=>s.1.1) ⟨(2,rt,[]),by simp,hrl,hpo,hF.symm⟩ ?lhs1 ?lhm1 ?_ ?_
 case lhs1=>first|(simp [kpS];done)|(simp [kpS];rfl)
 case lhm1=>first|rfl|(simp;done)|(simp;rfl)
 ·exact zaN (by simp) (by simp [zdT,AV.under,AV.underL,zbt]<;>omega) (by simp [zeE,AO.under,AV.underL,AV.under,zbt]<;>omega)
 ·rintro ⟨⟨l,n,acc⟩,hl,hn,hpk,hacc⟩;simp only at hl hn hpk hacc ⊢;have hnN:(n:Int)<(ns.length:Int):=by omega
  have hdl:=zbA p l;have hdI:(dgt p l:Int)<8:=by omega
  have hgn:=nrG hn;have hgnE:=nrE hn;have h8:(gn ns n).2.length=8:=(ht.1 _ (zaL hn)).1;have hw8:=ziz (l:=(gn ns n).2) (i:=dgt p l) (by omega);have hwE:=zkP (l:=(gn ns n).2) (i:=dgt p l) (by omega);have hw64:=zmX ht (n:=n) (i:=dgt p l) hn;have hdg':=hdg p l hp hl;have hlen:(acc++pth ns p l n).length<=3+acc.length:=by rw [List.length_append];have:=zhD (ns:=ns) (p:=p) (l:=l) (n:=n);omega
  obtain ⟨w,hwd⟩:∃ w,w=wd ns n (dgt p l):=⟨_,rfl⟩
  have hwg:(gn ns n).2.getD (dgt p l) 0=w:=hwd.symm;rw [hwg] at hw8 hwE;simp only at hw64;rw [<- hwd] at hw64;have hwl:(wcs (gn ns n).2).length=8:=by simp [h8]
  obtain ⟨⟨fr,ws⟩,hm⟩:∃ m,m=gn ns n:=⟨_,rfl⟩
  rw [<- hm] at hgn hgnE hw8 hwE hwl;simp only at hgn hgnE hw8 hwE hwl;obtain ⟨cs,hcs⟩:∃ cs,cs=wcs ws:=⟨_,rfl⟩
  rw [<- hcs] at hgn hgnE hw8 hwE hwl;clear hcs hm h8 hwg;have hen':=hen w hw64;have hst:∀ (x:List Stp),zbt acc++[[I n,I l,U w]]=zbt (acc++[(n,l,w)]):=fun _=>by simp [zbt,zfa]
  have hst:=hst [];have htk:List.take acc.length (zbt acc)=zbt acc:=tkL (by simp);have hal:acc.length<=1000:=by
   have h1:F.length<=3:=by rw [hF];exact zhD
   rw [<- hacc,List.length_append] at h1;omega
  have hdR:zbc w=if (zj w).1.1=4 then some (zj w).1.2.1 else none:=rfl
  obtain ⟨⟨⟨k,f,d,a,x,h⟩,e⟩,hE⟩:∃ r,r=zj w:=⟨_,rfl⟩
  rw [<- hE] at hen' hdR;clear hE;simp only [EnV,U] at hen' hw8 hwE hst hdR;obtain ⟨dg,hdg0⟩:∃ dg,dg=dgt p l:=⟨_,rfl⟩
  rw [<- hdg0] at hdl hdI hw8 hwE hdg' hwd;rcases dE (k=4) with hk|hk
  ·subst hk;simp only [if_true] at hdR;cases l with
   | zero =>
    simp only [pok] at hpk;rw [<- hdg0,<- hwd,hdR] at hpk;simp at hpk
   | succ l =>
    simp only [pok,pth] at hpk hacc;rw [<- hdg0,<- hwd] at hpk hacc;obtain ⟨nx,hfn,hpk2⟩:=hpk f hdR;have hkid:kid WA ns w=some nx:=zb0.2 ⟨f,hdR,hfn⟩;rw [hkid] at hacc;simp only at hacc;have hg2:=zcE ha f;rw [hfn] at hg2;try simp only [Option.map_some] at hg2
    have hnx:=zay hfn;have hlI:((l+1:Nat):Int)=(l:Int)+1:=by omega
    rw [hlI] at hdg' hst ⊢;have hl1I:((l:Int)+1 - 1)=(l:Int):=by omega
    have zS:=jj hdg'<|jj hn<|jj hnN<|jj hgn<|jj hgnE<|jj hw8<|jj hwE<|jj hwl<|jj hdl<|jj hdI<|jj hen'<|jj hg2<|jj htk<|jj hst<|jj hal<|hl1I;repeat' (first|(refine aSk fun K hK=>?_)|(refine zi ?_)|(refine eC (fun h=>?_) (fun h=>?_)<;>(try simp at h))|(refine hK _ ?_;clear hK)|clear hK)
    all_goals clear zS
    refine ⟨l,nx,acc++[(n,l+1,w)],?_,⟨by omega,hnx,hpk2,by simpa using hacc⟩,by omega⟩;simp only [List.length_append,List.length_singleton];refine zaI (s1:=?tus2) (m1:=?tum2) [] [1,2,5,6,7,8] [0,48,192] ?tua2 ?tub2 ?tuc2 ?tud2 ?tue2 ?tuf2 ?tug2
    case tua2=>first|(simp [kpS];done)|(simp [kpS];rfl)
    case tub2=>first|(simp;done)|(simp;rfl)
    case tuc2=>simp
    case tud2=>simp
    case tue2=>simp
    case tuf2=>simp
    case tug2 =>simp [swp,vr];exact dle
  ·have hkid:kid WA ns w=none:=by unfold kid;show (zbc w).bind _=none;rw [hdR,if_neg hk];rfl
   have hfin:F=acc++[(n,l,w)]:=by
    cases l with
    | zero=>simp only [pth] at hacc;rw [<- hdg0,<- hwd] at hacc;exact hacc.symm
    | succ l=>simp only [pth] at hacc;rw [<- hdg0,<- hwd,hkid] at hacc;exact hacc.symm
   rw [hfin];have zS:=jj hdg'<|jj hn<|jj hnN<|jj hgn<|jj hgnE<|jj hw8<|jj hwE<|jj hwl<|jj hdl<|jj hdI<|jj hen'<|jj hk<|jj htk<|jj hst<|hal;repeat' (first|(refine aSk fun K hK=>?_)|(refine zi ?_)|(refine eC (fun h=>?_) (fun h=>?_)<;>(try simp at h))|(refine hK _ ?_;clear hK)|clear hK)
   all_goals clear zS
   have htk2:List.take (acc.length+1) (zbt (acc++[(n,l,w)]))=zbt (acc++[(n,l,w)]):=tkL (by simp);refine ⟨by simp,?_⟩;simp [lvI,f137,htk2];try exact dt
end Go.AM
namespace Go.AM
open Go Go.Proofs Tryz
theorem zl9 {ns:NdL} {p l n:Nat}:(zbt (pth ns p l n))[(pth ns p l n).length - 1]?=some (zfa (lst ns p l n)):=by obtain ⟨i,hi⟩:=zjY (ns:=ns) (p:=p) (l:=l) (n:=n);rw [hi];simp [zbt]
theorem zrG {ns:NdL} {p l n:Nat}:1<=(pth ns p l n).length:=by obtain ⟨i,hi⟩:=zjY (ns:=ns) (p:=p) (l:=l) (n:=n);rw [hi];simp
set_option maxHeartbeats 2000000 in
theorem zCb (X:AX) (hX:XOK prog X) (hw:X.W wT) (hpa:∀ (t:Tb) (p:Nat),ptO t p->∀ M n,X.call 137 [TbV t,I p] M n=some (.sl n 1 3 0 (ptL t p).length,[(n,.vec 1 3 false (zbt (ptL t p)))])) :
  PSd prog 110 (spF (ι:={x:Tb×Nat // ptO x.1 x.2}) (fun x=>[TbV x.1.1,I x.1.2]) fun x=>rtO [stV (lsT x.1.1 x.1.2)]):=by
 refine psS hX mixed func110 rfl fun ⟨⟨⟨r,ns,ds⟩,p⟩,ht⟩ w0 G=>⟨by show 2<=15;decide,rfl,?_⟩
 show AW ⟨prog,X,15,w0,.pure G⟩ _ _ _;have hc:=okc hX 15 w0 G;have hpa':=hpa _ _ ht;have hla:=zl9 (ns:=ns) (p:=p) (l:=2) (n:=rtN (r,ns,ds));have hpo:=zrG (ns:=ns) (p:=p) (l:=2) (n:=rtN (r,ns,ds));have hle:=zhD (ns:=ns) (p:=p) (l:=2) (n:=rtN (r,ns,ds));have e1:ptL (r,ns,ds) p=pth ns p 2 (rtN (r,ns,ds)):=rfl;have e2:lsT (r,ns,ds) p=lst ns p 2 (rtN (r,ns,ds)):=rfl;simp only [e1,e2,TbV,stV] at hpa' ⊢;obtain ⟨L,hL⟩:∃ L,L=pth ns p 2 (rtN (r,ns,ds)):=⟨_,rfl⟩
 obtain ⟨⟨a,b,c⟩,hS⟩:∃ S,S=lst ns p 2 (rtN (r,ns,ds)):=⟨_,rfl⟩
 rw [<- hL] at hpa' hla hpo hle;rw [<- hS] at hla ⊢;obtain ⟨k,hk⟩:∃ k,L.length=k+1:=⟨L.length - 1,by omega⟩
 rw [hk] at hpa' hla;rw [Nat.add_sub_cancel] at hla;have hkI:((k+1:Nat):Int) - 1=k:=by omega
 have hkJ:((k:Int)+1) - 1=k:=by omega
 have hlE:∀ h',(zbt L)[k]'(h')=zfa (a,b,c):=fun h'=>by rw [List.getElem?_eq_getElem h'] at hla;exact Option.some.inj hla
 simp only [zfa,U] at hla hlE ⊢;have hk3:k<=2:=by omega
 have zS:=jj hpa'<|jj hkI<|jj hkJ<|jj hla<|jj hlE<|jj hk<|hk3;refine zl ?_;repeat (intro K hK)
 clear zS;refine ⟨by simp,?_⟩;simp [lvI,f110];try exact dt
noncomputable def ckd (t:Tb) (n lim:Int):Int:=if chk t≠0 then chk t else if n<0∨lim<=n then 2 else 0
theorem zCc (X:AX) (hX:XOK prog X) (hw:X.W wT) (hch:∀ t:Tb,zf t->∀ M n,X.call 39 [TbV t] M n=some (I (chk t),[])) :
  PSd prog 109 (spF (ι:={x:Tb×Int×Int // zf x.1}) (fun x=>[TbV x.1.1,I x.1.2.1,I x.1.2.2]) fun x=>rtO [I (ckd x.1.1 x.1.2.1 x.1.2.2)]):=by
 refine psS hX mixed func109 rfl fun ⟨⟨⟨r,ns,ds⟩,n,lim⟩,ht⟩ w0 G=>⟨by show 3<=20;decide,rfl,?_⟩
 show AW ⟨prog,X,20,w0,.pure G⟩ _ _ _;have hc:=okc hX 20 w0 G;have hch':=hch _ ht;unfold ckd;obtain ⟨c,hc0⟩:∃ c,c=chk (r,ns,ds):=⟨_,rfl⟩
 simp only [TbV,<- hc0] at hch' ⊢;rcases dE (c=0) with h0|h0
 ·subst h0;rcases dE (n<0) with h1|h1
  ·have zS:=jj hch'<|h1;refine zl ?_;repeat (intro K hK)
   clear zS;refine ⟨by simp,?_⟩;simp [lvI,f109,h1];try exact dt
  ·rcases dE (lim<=n) with h2|h2
   ·have zS:=jj hch'<|jj h1<|h2;refine zl ?_;repeat (intro K hK)
    clear zS;refine ⟨by simp,?_⟩;simp [lvI,f109,h1,h2];try exact dt
   ·have zS:=jj hch'<|jj h1<|h2;refine zl ?_;repeat (intro K hK)
    clear zS;refine ⟨by simp,?_⟩;simp [lvI,f109,h1,h2];try exact dt
 ·have zS:=jj hch'<|h0;refine zl ?_;repeat (intro K hK)
  clear zS;refine ⟨by simp,?_⟩;simp [lvI,f109,h0];try exact dt
structure Pv (t:Tb):Prop where
 asc:zby t.2.1
 vm:VM WA (Mof t.2.1) t.1
theorem Vt.pv {t:Tb} (h:Vt t):Pv t:=⟨h.num.asc,h.vm⟩
def wlk (M:Mm) (root:Int) (p:Nat):Int×Nat×Nat:=match frP WA M root 2 (p/8) with
 | some f=>(f,0,wM M f (p%8))
 | none=>match frP WA M root 1 (p/64) with
  | some f=>(f,1,wM M f (p/8%8))
  | none=>(root,2,wM M root (p/64))
theorem Pv.root {t:Tb} (h:Pv t):fnd t.2.1 t.1=some (rtN t):=by obtain ⟨ws,h1,_⟩:=h.vm.nd 0 0 zs3 t.1 rfl;obtain ⟨r,h2,_⟩:=zaB.1 h1;unfold rtN;rw [h2];rfl
theorem Pv.walk {t:Tb} (h:Pv t) {p:Nat} (hp:p<512):pok t.2.1 p 2 (rtN t)∧fnd t.2.1 (wlk (Mof t.2.1) t.1 p).1=some (lsT t p).1∧(lsT t p).2=(wlk (Mof t.2.1) t.1 p).2:=by
 have hr:=h.root;have d2:dgt p 2=p/64:=by unfold dgt;simp;omega
 have d1:dgt p 1=p/8%8:=by unfold dgt;simp
 have d0:dgt p 0=p%8:=by unfold dgt;simp
 unfold lsT wlk;simp only [pok,lst,d2,d1,d0];have q2:=h.vm.nd;have f1:frP WA (Mof t.2.1) t.1 1 (p/64)=zbc (wd t.2.1 (rtN t) (p/64)):=by simp only [frP,Option.bind_some];rw [show p/64%8=p/64 by omega,zbR hr];rfl
 have f2:frP WA (Mof t.2.1) t.1 2 (p/8)=(frP WA (Mof t.2.1) t.1 1 (p/64)).bind fun f=>zbc (wM (Mof t.2.1) f (p/8%8)):=by show (frP WA (Mof t.2.1) t.1 1 (p/8/8)).bind _=_;rw [show p/8/8=p/64 by omega];rfl
 cases h1:zbc (wd t.2.1 (rtN t) (p/64)) with
 | none =>
  rw [h1] at f1;rw [f1] at f2;have hk:kid WA t.2.1 (wd t.2.1 (rtN t) (p/64))=none:=by unfold kid;show (zbc _).bind _=none;rw [h1];rfl
  rw [f2,f1,hk];simp only [Option.bind_none];refine ⟨fun g hg=>by simp at hg,hr,?_⟩;rw [zbR hr]
 | some g1 =>
  rw [h1] at f1;rw [f1] at f2;simp only [Option.bind_some] at f2;obtain ⟨ws,m1,_⟩:=q2 1 (p/64) (ztG (by omega)) g1 f1;obtain ⟨n1,hn1,_⟩:=zaB.1 m1;have hk:kid WA t.2.1 (wd t.2.1 (rtN t) (p/64))=some n1:=zb0.2 ⟨g1,h1,hn1⟩;rw [hk,f1];rw [zbR hn1] at f2;simp only;cases h2:zbc (wd t.2.1 n1 (p/8%8)) with
  | none =>
   rw [h2] at f2;have hk2:kid WA t.2.1 (wd t.2.1 n1 (p/8%8))=none:=by unfold kid;show (zbc _).bind _=none;rw [h2];rfl
   rw [f2,hk2];simp only;refine ⟨fun g hg=>?_,hn1,?_⟩
   ·simp only [oJ] at hg;subst hg;exact ⟨n1,hn1,fun g hg=>by rw [h2] at hg;simp at hg⟩
   ·rw [zbR hn1]
  | some g2 =>
   rw [h2] at f2;obtain ⟨ws2,m2,_,m3⟩:=q2 2 (p/8) (zwP (by omega)) g2 f2;obtain ⟨n2,hn2,e2⟩:=zaB.1 m2;have hk2:kid WA t.2.1 (wd t.2.1 n1 (p/8%8))=some n2:=zb0.2 ⟨g2,h2,hn2⟩;rw [f2,hk2];simp only;refine ⟨fun g hg=>?_,hn2,?_⟩
   ·simp only [oJ] at hg;subst hg;refine ⟨n1,hn1,fun g hg=>?_⟩;rw [h2] at hg;simp only [oJ] at hg;subst hg;refine ⟨n2,hn2,?_⟩;have:=m3 (p%8) (by omega);refine (zeY fun _=>true).flat _ ?_;unfold wd;rw [e2];exact this
   ·rw [zbR hn2]
theorem Pv.pto {t:Tb} (h:Pv t) (ht:zf t) {p:Nat} (hp:p<512):ptO t p:=⟨ht,h.asc,hp,⟨_,h.root⟩,(h.walk hp).1⟩
theorem zg6 {t:Tb} (h:Pv t) {p:Nat} (hp:p<512):(lsT t p).1<t.2.1.length∧(lsT t p).2.1<=2:=zg5 (zay h.root)
theorem zjs {t:Tb} (ht:zf t) (h:chk t=0):Pv t:=((zcH ht).1 h).pv
set_option maxHeartbeats 2000000
noncomputable section
theorem zey (t:Tb) (n lim:Int):(ckd t n lim≠0)∨(ckd t n lim=0∧chk t=0∧0<=n∧n<lim):=by
 unfold ckd;by_cases h:chk t=0
 ·rw [if_neg (by simp [h])];split
  ·left;decide
  ·right;exact ⟨rfl,h,by omega,by omega⟩
 ·rw [if_pos h];exact .inl h
theorem zoD {t:Tb} {n lim:Int} (h:chk t=0) (h1:0<=n) (h2:n<lim):ckd t n lim=0:=by unfold ckd;rw [if_neg (by simp [h]),if_neg (by omega)]
def zaK (t:Tb) (n:Int):Nat×Nat×Int:=if ckd t n 512=0 then ((lsT t n.toNat).2.2,(lsT t n.toNat).2.1,0) else (0,0,ckd t n 512)
def zaq (t:Tb) (n:Int):Nat×Int:=if ckd t n 512=0 then (if (lsT t n.toNat).2.1=1∧(zj (lsT t n.toNat).2.2).1.2.2.2.2.2=true then (0,7) else ((lsT t n.toNat).2.1,0)) else (0,ckd t n 512)
def zsh (t:Tb) (g:Int):Bool:=if ckd t g 64=0 then (zj (lsT t (g.toNat*8)).2.2).1.2.2.2.2.2 else false
theorem zjO {t:Tb} {n:Int} (h:ckd t n 512=0):zaK t n=((lsT t n.toNat).2.2,(lsT t n.toNat).2.1,0):=by unfold zaK;rw [if_pos h]
theorem zrn {t:Tb} {n:Int} (h:¬ ckd t n 512=0):zaK t n=(0,0,ckd t n 512):=by unfold zaK;rw [if_neg h]
theorem zr1 {t:Tb} {n:Int} (h:ckd t n 512=0):zaq t n=if (lsT t n.toNat).2.1=1∧(zj (lsT t n.toNat).2.2).1.2.2.2.2.2=true then (0,7) else ((lsT t n.toNat).2.1,0):=by unfold zaq;rw [if_pos h]
theorem zr2 {t:Tb} {n:Int} (h:¬ ckd t n 512=0):zaq t n=(0,ckd t n 512):=by unfold zaq;rw [if_neg h]
theorem zj8 {t:Tb} (ht:zf t) (h:Pv t) {p:Nat} (hp:p<512):(lsT t p).2.2<2^64:=by have:=zld (ns:=t.2.1) (p:=p) (l:=2) (n:=rtN t);show (lst t.2.1 p 2 (rtN t)).2.2<_;rw [this];exact zmX ht (zg5 (zay h.root)).1
section
variable (X:AX) (hX:XOK prog X) (hw:X.W wT) (hck:∀ t:Tb,zf t->∀ (n lim:Int) M k,X.call 109 [TbV t,I n,I lim] M k=some (I (ckd t n lim),[]))
 (hla:∀ (t:Tb) (p:Nat),ptO t p->∀ M n,X.call 110 [TbV t,I p] M n=some (stV (lsT t p),[]))
 (hen:∀ w:Nat,w<2^64->∀ M n,X.call 113 [U w] M n=some (EnV (zj w).1,[]))
include hX hw hck hla
theorem s35:PSd prog 35 (spF (ι:={x:Tb×Int // zf x.1}) (fun x=>[TbV x.1.1,I x.1.2]) fun x=>rtO [U (zaK x.1.1 x.1.2).1,I (zaK x.1.1 x.1.2).2.1,I (zaK x.1.1 x.1.2).2.2]):=by
 refine psS hX mixed func35 rfl fun ⟨⟨⟨r,ns,ds⟩,n⟩,ht⟩ w0 G=>⟨by show 2<=22;decide,rfl,?_⟩
 show AW ⟨prog,X,22,w0,.pure G⟩ _ _ _;have hc:=okc hX 22 w0 G;have hck':=hck _ ht n 512;rcases zey (r,ns,ds) n 512 with h0|⟨h0,h1,h2,h3⟩
 ·have e:=zrn h0;obtain ⟨c,hc0⟩:∃ c,c=ckd (r,ns,ds) n 512:=⟨_,rfl⟩
  rw [<- hc0] at hck' e h0;simp only [TbV,e,U] at hck' ⊢;have zS:=jj hck'<|h0;refine zl ?_;repeat (intro K hK)
  clear zS;refine ⟨by simp,?_⟩;simp [lvI,f35];try exact dt
 ·have e:=zjO h0;obtain ⟨p,rfl⟩:∃ p:Nat,n=p:=⟨n.toNat,by omega⟩
  have hp:p<512:=by omega
  have hpto:=(zjs ht h1).pto ht hp;have hla':=hla _ p hpto;rw [h0] at hck';rw [Int.toNat_natCast] at e;obtain ⟨⟨a,b,c⟩,hS⟩:∃ S,S=lsT (r,ns,ds) p:=⟨_,rfl⟩
  rw [<- hS] at hla' e;simp only [TbV,e,stV,zfa,U] at hck' hla' ⊢;have zS:=jj hck'<|hla';refine zl ?_;repeat (intro K hK)
  clear zS;refine ⟨by simp,?_⟩;simp [lvI,f35];try exact dt
include hen
theorem s37:PSd prog 37 (spF (ι:={x:Tb×Int // zf x.1}) (fun x=>[TbV x.1.1,I x.1.2]) fun x=>rtO [I (zaq x.1.1 x.1.2).1,I (zaq x.1.1 x.1.2).2]):=by
 refine psS hX mixed func37 rfl fun ⟨⟨⟨r,ns,ds⟩,n⟩,ht⟩ w0 G=>⟨by show 2<=28;decide,rfl,?_⟩
 show AW ⟨prog,X,28,w0,.pure G⟩ _ _ _;have hc:=okc hX 28 w0 G;have hck':=hck _ ht n 512;rcases zey (r,ns,ds) n 512 with h0|⟨h0,h1,h2,h3⟩
 ·have e:=zr2 h0;obtain ⟨c,hc0⟩:∃ c,c=ckd (r,ns,ds) n 512:=⟨_,rfl⟩
  rw [<- hc0] at hck' e h0;simp only [TbV,e] at hck' ⊢;have zS:=jj hck'<|h0;refine zl ?_;repeat (intro K hK)
  clear zS;refine ⟨by simp,?_⟩;simp [lvI,f37];try exact dt
 ·have e:=zr1 h0;obtain ⟨p,rfl⟩:∃ p:Nat,n=p:=⟨n.toNat,by omega⟩
  have hp:p<512:=by omega
  have hpv:=zjs ht h1;have hpto:=hpv.pto ht hp;have hla':=hla _ p hpto;have hen':=hen _ (zj8 ht hpv hp);rw [h0] at hck';rw [Int.toNat_natCast] at e;obtain ⟨⟨a,b,c⟩,hS⟩:∃ S,S=lsT (r,ns,ds) p:=⟨_,rfl⟩
  rw [<- hS] at hla' e hen';obtain ⟨⟨⟨k,f,d,a2,x,h⟩,e2⟩,hE⟩:∃ r,r=zj c:=⟨_,rfl⟩
  simp only [<- hE] at hen' e;simp only [TbV,stV,zfa,U,EnV] at hck' hla' hen' ⊢;rcases dE (b=1) with hb|hb
  ·subst hb;cases h with
   | true =>
    simp only [and_self,if_true] at e;have zS:=jj hck'<|jj hla'<|hen';refine zl ?_;repeat (intro K hK)
    clear zS;refine ⟨by simp,?_⟩;simp [lvI,f37,e];try exact dt
   | false =>
    simp only [Bool.false_eq_true,and_false,if_false] at e;have zS:=jj hck'<|jj hla'<|hen';refine zl ?_;repeat (intro K hK)
    clear zS;refine ⟨by simp,?_⟩;simp [lvI,f37,e];try exact dt
  ·rw [if_neg (fun h=>hb h.1)] at e;have hbI:¬ (b:Int)=1:=by omega
   have zS:=jj hck'<|jj hla'<|jj hen'<|jj hb<|hbI;refine zl ?_;repeat (intro K hK)
   clear zS;refine ⟨by simp,?_⟩;simp [lvI,f37,e];try exact dt
end
end
end Go.AM
namespace Go.AM
theorem zgR {α:Type} {R:α->α->Prop} (hi:∀ a,¬ R a a) (ht:∀ {a b c},R a b->R b c->R a c):∀ {l m:List α},l.Pairwise R->m.Pairwise R->(∀ x,x∈l↔x∈m)->l=m
 | [],[],_,_,_=>rfl
 | [],y::m,_,_,h=>by have:=(h y).2 (by simp);simp at this
 | x::l,[],_,_,h=>by have:=(h x).1 (by simp);simp at this
 | x::l,y::m,hl,hm,h=>by
  rw [List.pairwise_cons] at hl hm;have e:x=y:=by
   rcases List.mem_cons.1 ((h x).1 (by simp)) with e|h1
   ·exact e
   ·rcases List.mem_cons.1 ((h y).2 (by simp)) with e|h2
    ·exact e.symm
    ·exact absurd (ht (hl.1 y h2) (hm.1 x h1)) (hi x)
  subst e;congr 1;refine zgR hi ht hl.2 hm.2 fun z=>?_;constructor
  ·intro hz;rcases List.mem_cons.1 ((h z).1 (by simp [hz])) with e|h1
   ·subst e;exact absurd (hl.1 z hz) (hi z)
   ·exact h1
  ·intro hz;rcases List.mem_cons.1 ((h z).2 (by simp [hz])) with e|h1
   ·subst e;exact absurd (hm.1 z hz) (hi z)
   ·exact h1
section
variable {β:Type}
def zfw (l:List (Int×β)):Prop:=l.Pairwise fun a b=>a.1<b.1
theorem zlP {l m:List (Int×β)} (hl:zfw l) (hm:zfw m) (h:∀ x,x∈l↔x∈m):l=m :=zgR (R:=fun a b:Int×β=>a.1<b.1) (fun a=>Int.lt_irrefl _) (fun h1 h2=>Int.lt_trans h1 h2) hl hm h
def zfo:List (Int×β)->Int×β->List (Int×β)
 | [],n=>[n]
 | a::r,n=>if n.1<a.1 then n::a::r else a::zfo r n
theorem zbG {n x:Int×β}:∀ {l:List (Int×β)},x∈zfo l n↔x=n∨x∈l
 | []=>by simp [zfo]
 | a::r=>by
  simp only [zfo];split
  ·simp
  ·simp only [List.mem_cons,zbG (l:=r)];constructor
   ·rintro (h|h|h)
    ·exact .inr (.inl h)
    ·exact .inl h
    ·exact .inr (.inr h)
   ·rintro (h|h|h)
    ·exact .inr (.inl h)
    ·exact .inl h
    ·exact .inr (.inr h)
theorem zb2 {n:Int×β}:∀ {l:List (Int×β)},(zfo l n).length=l.length+1
 | []=>rfl
 | a::r=>by
  simp only [zfo];split
  ·rfl
  ·simp [zb2 (l:=r)]
theorem zfn {n:Int×β}:∀ {l:List (Int×β)},zfw l->(∀ a∈l,a.1≠n.1)->zfw (zfo l n)
 | [],_,_=>by simp [zfo,zfw]
 | a::r,h,hn=>by
  unfold zfw at h ⊢;rw [List.pairwise_cons] at h;simp only [zfo];split
  ·rename_i hlt;refine List.pairwise_cons.2 ⟨fun b hb=>?_,List.pairwise_cons.2 h⟩;rcases List.mem_cons.1 hb with e|hb
   ·rw [e];exact hlt
   ·exact Int.lt_trans hlt (h.1 b hb)
  ·rename_i hlt;refine List.pairwise_cons.2 ⟨fun b hb=>?_,zfn h.2 fun b hb=>hn b (by simp [hb])⟩;rcases zbG.1 hb with e|hb
   ·have:=hn a (by simp);rw [e];omega
   ·exact h.1 b hb
def zev (l:List (Int×β)) (k:Int):List (Int×β):=l.filter fun a=>decide (a.1≠k)
theorem zei {l:List (Int×β)} {k:Int} {x:Int×β}:x∈zev l k↔x∈l∧x.1≠k:=by simp [zev]
theorem zlG {l:List (Int×β)} {k:Int} (h:zfw l):zfw (zev l k):=List.Pairwise.filter _ h
theorem zi5 {l m:List (Int×β)} {n:Int×β} (h:zfw l) (hn:∀ a∈l,a.1≠n.1) (hm:m.Pairwise fun a b=>¬ b.1<a.1) (hp:m.Perm (l++[n])):m=zfo l n:=by
 have hk:(m.map (·.1)).Nodup:=by
  have h1:((l++[n]).map (·.1)).Nodup:=by
   rw [List.map_append,List.map_singleton];refine List.nodup_append.2 ⟨?_,by simp,fun a ha b hb e=>?_⟩
   ·unfold List.Nodup;rw [List.pairwise_map];exact h.imp fun hab e=>by omega
   ·obtain ⟨x,hx,e1⟩:=List.mem_map.1 ha;simp at hb;exact hn x hx (by rw [e1,e,hb])
  exact (hp.map _).nodup_iff.2 h1
 have hma:zfw m:=by unfold List.Nodup at hk;rw [List.pairwise_map] at hk;exact List.Pairwise.imp (fun {a b} (hab:(¬ b.1<a.1)∧a.1≠b.1)=>by omega) (hm.and hk)
 refine zlP hma (zfn h hn) fun x=>?_;rw [hp.mem_iff,zbG];simp [or_comm]
end
section
variable {ns:NdL}
theorem mMo (ha:zby ns) {f:Int} {ws:List Nat}:(f,ws)∈ns↔Mof ns f=some ws:=by
 constructor
 ·intro h;obtain ⟨i,hi,e⟩:=List.getElem_of_mem h;have h1:=zlx ha hi;rw [List.getD_eq_getElem?_getD,List.getElem?_eq_getElem hi,Option.getD_some,e] at h1;refine zaB.2 ⟨i,h1,?_⟩;rw [List.getD_eq_getElem?_getD,List.getElem?_eq_getElem hi,Option.getD_some,e]
 ·intro h;obtain ⟨i,h1,rfl⟩:=zaB.1 h;have hi:=zay h1;have h2:=fFr h1;rw [<- h2];rw [List.getD_eq_getElem?_getD,List.getElem?_eq_getElem hi,Option.getD_some];exact List.getElem_mem hi
theorem zaZ (ha:zby ns) {f:Int}:Mof ns f=none↔∀ n∈ns,n.1≠f:=by
 constructor
 ·rintro h ⟨g,ws⟩ hn e;simp only at e;subst e;rw [(mMo ha).1 hn] at h;simp at h
 ·intro h;cases hm:Mof ns f with
  | none=>rfl
  | some ws=>exact absurd rfl (h _ ((mMo ha).2 hm))
theorem zon {ms:NdL} (ha:zby ns) (hb:zby ms) (h:∀ f,Mof ns f=Mof ms f):ns=ms:=by refine zlP ha hb fun x=>?_;obtain ⟨f,ws⟩:=x;rw [mMo ha,mMo hb,h]
theorem zs7 (ha:zby ns) {f:Int} {ws:List Nat} (hf:∀ n∈ns,n.1≠f):∀ g,Mof (zfo ns (f,ws)) g=zaW (Mof ns) f (some ws) g:=by
 intro g;have hi:zby (zfo ns (f,ws)):=zfn ha hf;unfold zaW;split
 ·rename_i e;subst e;exact (mMo hi).1 (zbG.2 (.inl rfl))
 ·rename_i e;cases h:Mof ns g with
  | none =>
   refine (zaZ hi).2 fun n hn=>?_;rcases zbG.1 hn with h1|h1
   ·rw [h1];exact fun h=>e h.symm
   ·exact (zaZ ha).1 h n h1
  | some us=>exact (mMo hi).1 (zbG.2 (.inr ((mMo ha).2 h)))
theorem zs9 (ha:zby ns) {f:Int}:∀ g,Mof (zev ns f) g=zaW (Mof ns) f none g:=by
 intro g;have hi:zby (zev ns f):=zlG ha;unfold zaW;split
 ·rename_i e;subst e;exact (zaZ hi).2 fun n hn=>(zei.1 hn).2
 ·rename_i e;cases h:Mof ns g with
  | none=>exact (zaZ hi).2 fun n hn=>(zaZ ha).1 h n (zei.1 hn).1
  | some us=>exact (mMo hi).1 (zei.2 ⟨(mMo ha).2 h,e⟩)
def zo (ns:NdL) (n i w:Nat):NdL:=ns.set n ((ns.getD n (0,[])).1,(ns.getD n (0,[])).2.set i w)
@[simp] theorem sNl {n i w:Nat}:(zo ns n i w).length=ns.length:=by simp [zo]
theorem zbS (ha:zby ns) {n i w:Nat} (hn:n<ns.length):zby (zo ns n i w):=by
 have hk:∀ j (hj:j<(zo ns n i w).length) (hj2:j<ns.length),((zo ns n i w)[j]).1=(ns[j]).1:=fun j hj hj2=>by
  unfold zo at hj ⊢;rw [List.getElem_set];split
  ·rename_i e;subst e;simp only;rw [List.getD_eq_getElem?_getD,List.getElem?_eq_getElem hn];rfl
  ·rfl
 refine List.pairwise_iff_getElem.2 fun a b h1 h2 h3=>?_;rw [hk a h1 (by simpa using h1),hk b h2 (by simpa using h2)];exact List.pairwise_iff_getElem.1 ha a b _ _ h3
theorem ziq (ha:zby ns) {f:Int} {n i w:Nat} (hf:fnd ns f=some n):∀ g,Mof (zo ns n i w) g=zcs (Mof ns) f i w g:=by
 intro g;have hn:=zay hf;have hi:zby (zo ns n i w):=zbS ha hn;have hfr:=fFr hf;have hmem:∀ x,x∈zo ns n i w↔x=(f,(ns.getD n (0,[])).2.set i w)∨(x∈ns∧x.1≠f):=fun x=>by
  constructor
  ·intro hx;obtain ⟨j,hj,rfl⟩:=List.getElem_of_mem hx;unfold zo at hj ⊢;rw [List.getElem_set];split
   ·rw [hfr];exact .inl rfl
   ·rename_i e;right;have hj2:j<ns.length:=by simpa using hj
    refine ⟨List.getElem_mem hj2,fun e2=>e ?_⟩;have h1:=zlx ha hj2;rw [List.getD_eq_getElem?_getD,List.getElem?_eq_getElem hj2,Option.getD_some,e2,hf] at h1;simpa using h1
  ·rintro (rfl|⟨h1,h2⟩)
   ·have:(zo ns n i w)[n]'(by simpa using hn)=(f,(ns.getD n (0,[])).2.set i w):=by unfold zo;rw [List.getElem_set,if_pos rfl,hfr]
    rw [<- this];exact List.getElem_mem _
   ·obtain ⟨j,hj,rfl⟩:=List.getElem_of_mem h1;have hjn:n≠j:=fun e=>h2 (by subst e;rw [List.getD_eq_getElem?_getD,List.getElem?_eq_getElem hj,Option.getD_some] at hfr;exact hfr);have:(zo ns n i w)[j]'(by simpa using hj)=ns[j]:=by unfold zo;rw [List.getElem_set,if_neg hjn]
    rw [<- this];exact List.getElem_mem _
 unfold zcs;split
 ·rename_i e;subst e;have h1:Mof ns g=some (ns.getD n (0,[])).2:=zaB.2 ⟨n,hf,rfl⟩;rw [h1];exact (mMo hi).1 ((hmem _).2 (.inl rfl))
 ·rename_i e;cases h:Mof ns g with
  | none =>
   refine (zaZ hi).2 fun x hx=>?_;rcases (hmem x).1 hx with rfl|⟨h1,h2⟩
   ·exact fun h=>e h.symm
   ·exact (zaZ ha).1 h x h1
  | some us=>exact (mMo hi).1 ((hmem _).2 (.inr ⟨(mMo ha).2 h,e⟩))
theorem zko {n i w:Nat} (hn:n<ns.length) (g:Int):fnd (zo ns n i w) g=fnd ns g:=by
 have:∀ j,((zo ns n i w)[j]?.map fun x:Int×List Nat=>x.1)=ns[j]?.map fun x:Int×List Nat=>x.1:=fun j=>by
  unfold zo;by_cases e:n=j
  ·subst e;rw [List.getElem?_set_self hn,List.getElem?_eq_getElem hn];simp [List.getD_eq_getElem?_getD,List.getElem?_eq_getElem hn]
  ·rw [List.getElem?_set_ne e]
 have hmap:((zo ns n i w).map fun x:Int×List Nat=>x.1)=ns.map fun x:Int×List Nat=>x.1:=List.ext_getElem? fun j=>by simpa using this j
 have hidx:∀ l:NdL,l.findIdx (fun n=>decide (n.1=g))=(l.map fun x:Int×List Nat=>x.1).findIdx (fun f=>decide (f=g)):=fun l=>by rw [List.findIdx_map];rfl
 unfold fnd;rw [hidx,hidx,hmap,sNl]
end
end Go.AM
namespace Go.AM
open Go Go.Proofs Tryz
theorem zcj (l:List Nd) (n:Nat):(nrw l).take n=nrw (l.take n):=by simp [nrw,List.map_take]
theorem zmj (l:List Nd) (x:Nd):nrw (l++[x])=nrw l++[zcq x]:=by simp [nrw]
theorem ziB {l:List Nd} {n:Nat} (h:n<l.length):l.take (n+1)=l.take n++[gn l n]:=by rw [zcl h,List.take_add_one,List.getElem?_eq_getElem h];rfl
noncomputable section
def zwc:List AV->Option AV:=spF (ι:={l:List Nd // zpy l∧l.length<=1000000}) (fun x=>[.rd 9 (nrw x.1)]) fun x=>rtO [.ow 9 (nrw x.1)]
def zwd:List AV->Option AV:=spF (ι:={l:List Dp // l.length<=1000000}) (fun x=>[.rd 2 (prw x.1)]) fun x=>rtO [.ow 2 (prw x.1)]
theorem zto {l:List Nd} (h:zpy l) (h2:l.length<=1000000):zwc [.rd 9 (nrw l)]=some (.ow 9 (nrw l)):=by refine sFe (ι:={l:List Nd // zpy l∧l.length<=1000000}) (A:=fun x=>[.rd 9 (nrw x.1)]) (R:=fun x=>rtO [.ow 9 (nrw x.1)]) ⟨l,h,h2⟩ fun j e=>?_;simp only [cJ,AV.rd.injEq,true_and,zbf,and_true] at e;rw [e]
theorem ztp {l:List Dp} (h2:l.length<=1000000):zwd [.rd 2 (prw l)]=some (.ow 2 (prw l)):=by refine sFe (ι:={l:List Dp // l.length<=1000000}) (A:=fun x=>[.rd 2 (prw x.1)]) (R:=fun x=>rtO [.ow 2 (prw x.1)]) ⟨l,h2⟩ fun j e=>?_;simp only [cJ,AV.rd.injEq,true_and,zaa,and_true] at e;rw [e]
theorem zCI (X:AX) (hX:XOK prog X) (hw:X.W wT):PSd prog 104 (spF (ι:={x:Tb // zf x}) (fun x=>[TbV x.1]) fun x=>rtO [.agg [I x.1.1,.ow 9 (nrw x.1.2.1),.ow 2 (prw x.1.2.2)]]):=by
 refine psS hX mixed func104 rfl fun ⟨⟨r,ns,ds⟩,ht⟩ w0 G=>⟨by show 1<=20;decide,rfl,?_⟩
 show AW ⟨prog,X,20,w0,.pure G⟩ _ _ _;have hc:=okc hX 20 w0 G;have hl1:ns.length<=1000000:=ht.2.1;have hl2:ds.length<=1000000:=ht.2.2;simp only [TbV];have tkn:List.take ns.length (nrw ns)=nrw ns:=tkL (by simp);have tkd:List.take ds.length (prw ds)=prw ds:=tkL (by simp);refine zfe ?_;repeat (intro K hK)
 refine ⟨by simp,?_⟩;simp [lvI,f104,tkn,tkd];try exact dt
theorem zB3 (X:AX) (hX:XOK prog X) (hw:X.W wT) (h1:X.call 184=callC zwc) (h2:X.call 185=callC zwd):PSd prog 128 (spF (ι:={x:Tb // zf x}) (fun x=>[TbV x.1]) fun x=>rtO [.agg [I x.1.1,.ow 9 (nrw x.1.2.1),.ow 2 (prw x.1.2.2)]]):=by
 refine psS hX mixed func128 rfl fun ⟨⟨r,ns,ds⟩,ht⟩ w0 G=>⟨by show 1<=12;decide,rfl,?_⟩
 show AW ⟨prog,X,12,w0,.pure G⟩ _ _ _;have hc:=okc hX 12 w0 G;have hl1:ns.length<=1000000:=ht.2.1;have hl2:ds.length<=1000000:=ht.2.2;simp only [TbV];have e1:=zto (zhJ ht) hl1;have e2:=ztp hl2;simp only at e1 e2;have tkn:List.take ns.length (nrw ns)=nrw ns:=tkL (by simp);have tkd:List.take ds.length (prw ds)=prw ds:=tkL (by simp);have zS:=jj h1<|jj h2<|jj e1<|e2;refine zl ?_;repeat (intro K hK)
 clear zS;refine ⟨by simp,?_⟩;simp [lvI,f128,tkn,tkd];try exact dt
theorem zBL (X:AX) (hX:XOK prog X) (hw:X.W wT):PSd prog 184 zwc:=by
 unfold zwc;refine psS hX mixed func184 rfl fun ⟨ns,h8,hl⟩ w0 G=>⟨by show 1<=8;decide,rfl,?_⟩
 show AW ⟨prog,X,8,w0,.pure G⟩ _ _ _;have hc:=okc hX 8 w0 G;simp only at h8 hl ⊢;have tkn:List.take ns.length (nrw ns)=nrw ns:=tkL (by simp);cases ns with
 | nil =>
  refine zba 0 9 (by simp [nrw,eSt]) ?_ fun p n=>?_
  ·refine zfe ?_;repeat (intro K hK)
   refine ⟨by simp,?_⟩;simp [lvI,f184,nrw];try exact dt
  ·refine zfe ?_;repeat (intro K hK)
   refine ⟨by simp,?_⟩;simp [lvI,f184,nrw];try exact dt
 | cons x ns =>
  have hl':ns.length+1<=1000000:=by simpa using hl
  obtain ⟨e,he⟩:∃ e,e=zcq x:=⟨_,rfl⟩
  obtain ⟨T,hT⟩:∃ T,T=nrw ns:=⟨_,rfl⟩
  have hc2:nrw (x::ns)=e::T:=by rw [he,hT];rfl
  have hTl:T.length=ns.length:=by rw [hT];simp
  have tk:List.take T.length T=T:=tkL (Nat.le_refl _);rw [hc2];clear he hT tkn;have zS:=tk;refine zl ?_;repeat (intro K hK)
  clear zS;refine ⟨by simp,?_⟩;simp [lvI,f184,tk];try exact dt
theorem zBK (X:AX) (hX:XOK prog X) (hw:X.W wT):PSd prog 185 zwd:=by
 unfold zwd;refine psS hX mixed func185 rfl fun ⟨ds,hl⟩ w0 G=>⟨by show 1<=8;decide,rfl,?_⟩
 show AW ⟨prog,X,8,w0,.pure G⟩ _ _ _;have hc:=okc hX 8 w0 G;simp only at hl ⊢;cases ds with
 | nil =>
  refine zba 0 2 (by simp [prw,eSt]) ?_ fun p n=>?_
  ·refine zfe ?_;repeat (intro K hK)
   refine ⟨by simp,?_⟩;simp [lvI,f185,prw];try exact dt
  ·refine zfe ?_;repeat (intro K hK)
   refine ⟨by simp,?_⟩;simp [lvI,f185,prw];try exact dt
 | cons x ds =>
  have hl':ds.length+1<=1000000:=by simpa using hl
  obtain ⟨e,he⟩:∃ e,e=[I x.1,I x.2]:=⟨_,rfl⟩
  obtain ⟨T,hT⟩:∃ T,T=prw ds:=⟨_,rfl⟩
  have hc2:prw (x::ds)=e::T:=by rw [he,hT];rfl
  have hTl:T.length=ds.length:=by rw [hT];simp
  have tk:List.take T.length T=T:=tkL (Nat.le_refl _);rw [hc2];clear he hT;have zS:=tk;refine zl ?_;repeat (intro K hK)
  clear zS;refine ⟨by simp,?_⟩;simp [lvI,f185,tk];try exact dt
def zmk (r:Int):Tb×Int:=if 0<=r∧r<=4294967295 then ((r,[(r,zs8)],[]),0) else ((0,[],[]),2)
def TbO (t:Tb):AV:=.agg [I t.1,.ow 9 (nrw t.2.1),.ow 2 (prw t.2.2)]
theorem s49 (X:AX) (hX:XOK prog X) (hw:X.W wT) (hfr:∀ x M n,X.call 126 [I x] M n=some (B (decide (0<=x∧x<=4294967295)),[])):PSd prog 49 (spF (ι:=Int) (fun x=>[I x]) fun x=>rtO [TbO (zmk x).1,I (zmk x).2]):=by
 refine psS hX mixed func49 rfl fun r w0 G=>⟨by show 1<=13;decide,rfl,?_⟩
 show AW ⟨prog,X,13,w0,.pure G⟩ _ _ _;have hc:=okc hX 13 w0 G;have hfr':=hfr r;unfold zmk TbO;rcases dE (0<=r∧r<=4294967295) with h1|h1
 ·rw [decide_eq_true h1] at hfr';rw [if_pos h1];have zS:=hfr';refine zl ?_;repeat (intro K hK)
  clear zS;refine ⟨by simp,?_⟩;simp [lvI,f49,nrw,zcq,wcs,prw,zs8,U];try exact dt
 ·rw [decide_eq_false h1] at hfr';rw [if_neg h1];have zS:=hfr';refine zl ?_;repeat (intro K hK)
  clear zS;refine ⟨by simp,?_⟩;simp [lvI,f49,nrw,zcq,wcs,prw,zs8,U];try exact dt
end
theorem zaG (a b:List Dp):prw a++prw b=prw (a++b):=by simp [prw]
theorem zgU (l:List Dp) (n:Nat):(prw l).drop n=prw (l.drop n):=by simp [prw,List.map_drop]
theorem zcg {l:List Dp}:(AV.ow 2 (prw l)).flat:=by simp only [AV.flat,AV.flatV,AV.flat1];intro e he a ha;obtain ⟨x,_,rfl⟩:=List.mem_map.1 he;simp at ha;rcases ha with rfl|rfl<;>trivial
theorem zA2:zmO prog 218 zir :=zqG (tR:=4) func218 (by kernel_rfl) (by kernel_rfl) (by kernel_rfl) (by kernel_rfl) zA8 rfl tyD
def ztu (_:Nat):Nat:=2
theorem zcV (n:Nat):List.replicate n [AV.v (.int .i64 0),AV.v (.int .i64 0)]=prw (List.replicate n (0,0)):=by simp [prw,I]
theorem zfU (n:Nat):List.replicate n [AV.v (.int .i64 0),AV.v (.int .u64 0),AV.v (.int .u64 0),AV.v (.int .u64 0),AV.v (.int .u64 0),AV.v (.int .u64 0),AV.v (.int .u64 0),AV.v (.int .u64 0),AV.v (.int .u64 0)]=nrw (List.replicate n (0,zs8)):=by simp only [nrw,List.map_replicate];rfl
theorem ziT (a b:List Nd):nrw a++nrw b=nrw (a++b):=by simp [nrw]
theorem zi4 {α:Type} {L P S A:List α} {x:α} {i n:Nat} (hL:L=P++S) (hi:P.length=i) (hn:L.length=n) (h1:1<=A.length) (hS:i<n) :
  P++x::S=List.take (n+1) (List.take i (List.take (i+1) (L++A)++(List.take (n - i) (List.take (n+1 - i) (List.drop i (L++A)))++List.drop (i+1+(n - i)) (L++A))) ++
   (List.take 1 [x]++List.drop (i+1) (List.take (i+1) (L++A)++(List.take (n - i) (List.take (n+1 - i) (List.drop i (L++A)))++List.drop (i+1+(n - i)) (L++A))))):=by
 subst hL hi;obtain ⟨s,S,rfl⟩:∃ s S',S=s::S':=by cases S with|nil=>simp at hn;omega|cons a b=>exact ⟨a,b,rfl⟩
 obtain ⟨a,A,rfl⟩:∃ s S',A=s::S':=by cases A with|nil=>simp at h1|cons a b=>exact ⟨a,b,rfl⟩
 subst hn;rw [List.length_append];have e1:List.take (P.length+1) (P++s::S++a::A)=P++[s]:=by simp [List.take_append,tkL]
 have e2:List.drop P.length (P++s::S++a::A)=s::S++a::A:=by simp
 have e3:P.length+(s::S).length - P.length=(s::S).length:=by omega
 have e4:P.length+(s::S).length+1 - P.length=(s::S).length+1:=by omega
 have e5:List.take (s::S).length (List.take ((s::S).length+1) (s::S++a::A))=s::S:=by rw [List.take_take,Nat.min_eq_left (by omega)];simp
 have e6:List.drop (P.length+1+(s::S).length) (P++s::S++a::A)=A:=by rw [show P.length+1+(s::S).length=(P++s::S).length+1 by simp;omega,<- List.drop_drop,List.drop_left];simp
 rw [e1,e2,e3,e4,e5,e6];have e7:List.take P.length (P++[s]++(s::S++A))=P:=by simp
 have e8:List.drop (P.length+1) (P++[s]++(s::S++A))=s::S++A:=by rw [show P.length+1=(P++[s]).length by simp,List.drop_left]
 rw [e7,e8];have e9:P++([x].take 1++(s::S++A))=(P++x::s::S)++A:=by simp
 rw [e9,show P.length+(s::S).length+1=(P++x::s::S).length by simp;omega,List.take_left]
theorem zll {α:Type} {L P S Z D:List α} {x:α} {i n:Nat} (hL:L=P++S) (hi:P.length=i) (hn:L.length=n) :
  P++x::S=List.take (n+1) (List.take (i+1) (List.take i (List.take i (L++[])++Z)++(List.take 1 [x]++List.drop (i+1) (List.take i (L++[])++Z)))++(List.take (n - i) (List.take (n - i) (List.drop i (L++[])))++D)):=by
 subst hL hi hn;rw [List.length_append];have e0:List.take P.length (P++S++[])=P:=by simp
 have e1:List.take P.length (P++Z)=P:=by simp
 have e2:List.take (P.length+1) (P++(List.take 1 [x]++List.drop (P.length+1) (P++Z)))=P++[x]:=by simp [List.take_append,tkL]
 have e4:List.take (P.length+S.length - P.length) (List.take (P.length+S.length - P.length) (List.drop P.length (P++S++[])))=S:=by rw [show P.length+S.length - P.length=S.length by omega];simp
 rw [e0,e1,e2,e4];have e3:P++[x]++(S++D)=(P++x::S)++D:=by simp
 rw [e3,show P.length+S.length+1=(P++x::S).length by simp;omega,List.take_left]
theorem zBH (X:AX) (hX:XOK prog X) (h42:X.call 218=zir):zdS prog 190 (zed (ι:={x:List Dp×Nat×Dp // x.2.1<=x.1.length∧x.1.length<=1000000}) (fun x=>.ow 2 (prw x.1.1)) (fun x=>[I x.1.2.1,.rd 2 (prw [x.1.2.2])]) (fun x=>rtO [.ow 2 (prw (x.1.1.take x.1.2.1++x.1.2.2::x.1.1.drop x.1.2.1))]) fun _=>.any):=by
 refine zc0 func190 rfl X fun ⟨⟨l,i,x⟩,hi,hl⟩ w0 bl E m=>⟨by show 3<=95;decide,rfl,?_⟩
 simp only at hi hl;show AW ⟨prog,X,95,w0,⟨bl,E,1⟩⟩ _ _ _;have hc:Cx.OK ⟨prog,X,95,w0,⟨bl,E,1⟩⟩:=⟨hX,mixed⟩
 have hm:m=0∨1<=m:=by omega
 have hP:prw l=prw (l.take i)++prw (l.drop i):=by rw [zaG,List.take_append_drop]
 have hR:prw (l.take i++x::l.drop i)=prw (l.take i)++[I x.1,I x.2]::prw (l.drop i):=by simp [prw]
 have hPl:(prw (l.take i)).length=i:=by simp;omega
 rcases hm with rfl|hm
 ·repeat' (first|(apply aSk;intro K hK)|(refine zae hc (by first|exact zau|(intro _;rw [zat hw];kernel_rfl)|(intro _;rw [ordB_w0 hw0];kernel_rfl)|(intro _;kernel_rfl)) ?_;simp (disch:=first|omega|assumption|(simp;done)|fail) [if_pos,if_neg,List.zipIdx,Int.ofNat_inj,h42,zir,zm];try (repeat' (refine gQs (fun h=>?_) (fun h=>?_)<;>simp at h<;>simp (disch:=first|omega|assumption|(simp;done)|fail) [if_pos,if_neg,List.zipIdx,Int.ofNat_inj,h42,zir,zm])))|(refine eC (fun h=>?_) (fun h=>?_)<;>(try simp at h))|(refine aBl ?_)|(refine zaf ?_;simp only [ze,bkQ,if_true])|(refine zag ?_;simp [ze,bkQ])|(refine zar ?_;simp only [ze,bkQ])|(refine hK _ ?_;clear hK)|(clear hK;refine hK _ ?_;clear hK)|(clear hK;clear hK;refine hK _ ?_;clear hK)|(clear hK;clear hK;clear hK;refine hK _ ?_;clear hK))
  all_goals first|(exfalso;omega)|skip
  all_goals (refine ⟨by simp,lMa ?_⟩;simp (disch:=first|omega|assumption|(simp;done)|fail) [if_pos,if_neg,lvI,f190])
  ·subst h;rw [zaG];simp [tkL]
  ·rw [hR];exact zll hP hPl (zbU l)
 ·repeat' (first|(apply aSk;intro K hK)|(refine zae hc (by first|exact zau|(intro _;rw [zat hw];kernel_rfl)|(intro _;rw [ordB_w0 hw0];kernel_rfl)|(intro _;kernel_rfl)) ?_;simp (disch:=first|omega|assumption|(simp;done)|fail) [if_pos,if_neg,List.zipIdx,Int.ofNat_inj,h42,zir,zm];try (repeat' (refine gQs (fun h=>?_) (fun h=>?_)<;>simp at h<;>simp (disch:=first|omega|assumption|(simp;done)|fail) [if_pos,if_neg,List.zipIdx,Int.ofNat_inj,h42,zir,zm])))|(refine eC (fun h=>?_) (fun h=>?_)<;>(try simp at h))|(refine aBl ?_)|(refine zaf ?_;simp only [ze,bkQ,if_true])|(refine zag ?_;simp [ze,bkQ])|(refine zar ?_;simp only [ze,bkQ])|(refine hK _ ?_;clear hK)|(clear hK;refine hK _ ?_;clear hK)|(clear hK;clear hK;refine hK _ ?_;clear hK)|(clear hK;clear hK;clear hK;refine hK _ ?_;clear hK))
  all_goals first|(exfalso;omega)|skip
  all_goals (refine ⟨by simp,lMa ?_⟩;simp (disch:=first|omega|assumption|(simp;done)|fail) [if_pos,if_neg,lvI,f190])
  ·subst h;rw [<- List.append_assoc,zaG,List.take_append_of_le_length (by simp),tkL (by simp)];simp [tkL]
  ·rw [hR];exact zi4 hP hPl (zbU l) (by simpa using hm) (by omega)
theorem zBF (X:AX) (hX:XOK prog X) (hw:X.W wT):zdS prog 192 (zed (ι:={x:List Dp×Nat×Nat // x.2.1<=x.2.2∧x.2.2<=x.1.length∧x.1.length<=1000000}) (fun x=>.ow 2 (prw x.1.1)) (fun x=>[I x.1.2.1,I x.1.2.2]) (fun x=>rtO [.ow 2 (prw (x.1.1.take x.1.2.1++x.1.1.drop x.1.2.2))]) fun _=>.any):=by
 refine zfW func192 rfl X fun ⟨⟨l,i,j⟩,hij,hj,hl⟩ w0 bl E=>⟨by show 3<=33;decide,rfl,?_⟩
 simp only at hij hj hl;show AW ⟨prog,X,33,w0,⟨bl,E,1⟩⟩ _ _ _;have hc:Cx.OK ⟨prog,X,33,w0,⟨bl,E,1⟩⟩:=⟨hX,mixed⟩
 repeat' (first|(apply aSk;intro K hK)|(refine zae hc (by first|exact zau|(intro _;rw [zat hw];kernel_rfl)|(intro _;rw [ordB_w0 hw0];kernel_rfl)|(intro _;kernel_rfl)) ?_;simp (disch:=first|omega|assumption|(simp;done)|fail) [if_pos,if_neg,List.zipIdx,Int.ofNat_inj];try (repeat' (refine gQs (fun h=>?_) (fun h=>?_)<;>simp at h<;>simp (disch:=first|omega|assumption|(simp;done)|fail) [if_pos,if_neg,List.zipIdx,Int.ofNat_inj])))|(refine eC (fun h=>?_) (fun h=>?_)<;>(try simp at h))|(refine aBl ?_)|(refine zaf ?_;simp only [ze,bkQ,if_true])|(refine zag ?_;simp [ze,bkQ])|(refine zar ?_;simp only [ze,bkQ])|(refine hK _ ?_;clear hK)|(clear hK;refine hK _ ?_;clear hK)|(clear hK;clear hK;refine hK _ ?_;clear hK)|(clear hK;clear hK;clear hK;refine hK _ ?_;clear hK))
 ·refine ⟨by simp,lMa ?_⟩;simp (disch:=first|omega|assumption|(simp;done)|fail) [if_pos,if_neg,lvI,f192];subst h;simp [tkL]
 ·refine ⟨by simp,lMa ?_⟩;simp (disch:=first|omega|assumption|(simp;done)|fail) [if_pos,if_neg,lvI,f192,zgT,zgU,zaG,zcV];have e1:l.take i++((l.drop j).take (l.length - j)++l.drop (i+(l.length - j)))=(l.take i++l.drop j)++l.drop (i+(l.length - j)):=by rw [tkL (l:=l.drop j) (by simp),List.append_assoc]
  have e2:(l.take i++l.drop j).length=i+(l.length - j):=by simp;omega
  have key:∀ (A B C:List Dp) n,A.length=n->A=((A++B).take n++C).take n:=by intro A B C n h;subst h;simp
  rw [e1];exact congrArg prw (key _ _ _ _ e2)
noncomputable def zo5:AV->List AV->Option (AV×AV):=zed (ι:={x:List Dp×Nat×Dp // x.2.1<=x.1.length∧x.1.length<=1000000}) (fun x=>.ow 2 (prw x.1.1)) (fun x=>[I x.1.2.1,.rd 2 (prw [x.1.2.2])]) (fun x=>rtO [.ow 2 (prw (x.1.1.take x.1.2.1++x.1.2.2::x.1.1.drop x.1.2.1))]) fun _=>.any
theorem zqr (l:List Dp) (i:Nat) (a b:Int) (h:i<=l.length∧l.length<=1000000):zo5 (.ow 2 (prw l)) [I i,.rd 2 [[I a,I b]]]=some (.ow 2 (prw (l.take i++(a,b)::l.drop i)),.any) :=zfh (A0:=fun x:{x:List Dp×Nat×Dp // x.2.1<=x.1.length∧x.1.length<=1000000}=>AV.ow 2 (prw x.1.1)) (A:=fun x=>[I x.1.2.1,.rd 2 (prw [x.1.2.2])]) (R:=fun x=>rtO [.ow 2 (prw (x.1.1.take x.1.2.1++x.1.2.2::x.1.1.drop x.1.2.1))]) (O:=fun _=>.any) ⟨(l,i,(a,b)),h⟩ (by rintro ⟨⟨l',i',x'⟩,h1,h2⟩ e1 e2;simp only [AV.ow.injEq,zaa,true_and] at e1;simp only [cJ,AV.v.injEq,Value.int.injEq,true_and,AV.rd.injEq,zaa,and_true,Int.ofNat_inj] at e2;obtain ⟨rfl,rfl⟩:=e2;subst e1;exact ⟨rfl,rfl⟩)
noncomputable def zo6:AV->List AV->Option (AV×AV):=zed (ι:={x:List Dp×Nat×Nat // x.2.1<=x.2.2∧x.2.2<=x.1.length∧x.1.length<=1000000}) (fun x=>.ow 2 (prw x.1.1)) (fun x=>[I x.1.2.1,I x.1.2.2]) (fun x=>rtO [.ow 2 (prw (x.1.1.take x.1.2.1++x.1.1.drop x.1.2.2))]) fun _=>.any
theorem zqs (l:List Dp) (i j:Nat) (h:i<=j∧j<=l.length∧l.length<=1000000):zo6 (.ow 2 (prw l)) [I i,I j]=some (.ow 2 (prw (l.take i++l.drop j)),.any) :=zfh (A0:=fun x:{x:List Dp×Nat×Nat // x.2.1<=x.2.2∧x.2.2<=x.1.length∧x.1.length<=1000000}=>AV.ow 2 (prw x.1.1)) (A:=fun x=>[I x.1.2.1,I x.1.2.2]) (R:=fun x=>rtO [.ow 2 (prw (x.1.1.take x.1.2.1++x.1.1.drop x.1.2.2))]) (O:=fun _=>.any) ⟨(l,i,j),h⟩ (by rintro ⟨⟨l',i',j'⟩,h1,h2⟩ e1 e2;simp only [AV.ow.injEq,zaa,true_and] at e1;simp only [cJ,AV.v.injEq,Value.int.injEq,true_and,and_true,Int.ofNat_inj] at e2;obtain ⟨rfl,rfl⟩:=e2;subst e1;exact ⟨rfl,rfl⟩)
theorem zmM {a0:AV} {avs:List AV} {r o:AV} (h:zo5 a0 avs=some (r,o)):r.flat∧o.flatO:=by obtain ⟨i,_,_,h3,h4⟩:=zbK h;subst h3 h4;exact ⟨zcg,trivial⟩
theorem zmN {a0:AV} {avs:List AV} {r o:AV} (h:zo6 a0 avs=some (r,o)):r.flat∧o.flatO:=by obtain ⟨i,_,_,h3,h4⟩:=zbK h;subst h3 h4;exact ⟨zcg,trivial⟩
set_option maxHeartbeats 4000000
@[simp] theorem zzo:za prog 186=some ⟨.pointer 63,1,8,[.pointer none]⟩:=by kernel_rfl
def scM (t:Tb) (g:Int):List AO:=[.box [.bp 1 0],.box [I t.1,.sl 2 1 9 0 t.2.1.length,.sl 3 1 2 0 t.2.2.length],.vec 1 9 false (nrw t.2.1),.vec 1 2 false (prw t.2.2),.box [I g]]
theorem znd {t t':Tb} {g g':Int} (h:scM t g=scM t' g'):t=t'∧g=g':=by obtain ⟨r,ns,ds⟩:=t;obtain ⟨r',ns',ds'⟩:=t';simp only [scM,cJ,AO.box.injEq,I,AV.v.injEq,Value.int.injEq,true_and,AO.vec.injEq,zbf,zaa,and_true] at h;obtain ⟨⟨h1,_⟩,h2,h3,h4⟩:=h;exact ⟨by rw [h1,h2,h3],h4⟩
abbrev ScD:=Tb×Int×Nat
noncomputable def clS:List AV->List AO->Option (AV×List AO):=za1 (ι:={x:ScD // zf x.1∧x.2.2<x.1.2.2.length}) (fun x=>[I x.1.2.2,.bp 0 0,.bp 4 0]) (fun x=>scM x.1.1 x.1.2.1) (fun x=>rtO [B (decide (x.1.2.1<=(gp x.1.1.2.2 x.1.2.2).1))]) fun x=>scM x.1.1 x.1.2.1
theorem zvs {t:Tb} {g:Int} {i:Nat} (ht:zf t) (hi:i<t.2.2.length):clS [I i,.bp 0 0,.bp 4 0] (scM t g)=some (B (decide (g<=(gp t.2.2 i).1)),scM t g):=by
 refine sGe (ι:={x:ScD // zf x.1∧x.2.2<x.1.2.2.length}) (A:=fun x=>[I x.1.2.2,.bp 0 0,.bp 4 0]) (M:=fun x=>scM x.1.1 x.1.2.1) (R:=fun x=>rtO [B (decide (x.1.2.1<=(gp x.1.1.2.2 x.1.2.2).1))]) (O:=fun x=>scM x.1.1 x.1.2.1) ⟨(t,g,i),ht,hi⟩ fun j hA hM=>?_;obtain ⟨⟨t',g',i'⟩,h'⟩:=j;obtain ⟨rfl,rfl⟩:=znd hM;simp only [cJ,I,AV.v.injEq,Value.int.injEq,true_and,and_true] at hA;have:i'=i:=by omega
 subst this;exact ⟨rfl,rfl⟩
theorem zBI (X:AX) (hX:XOK prog X) (hw:X.W wT):GSd prog 189 clS:=by
 unfold clS;refine gsS func189 rfl X fun ⟨⟨⟨r,ns,ds⟩,g,i⟩,ht,hi⟩ w0 L E=>⟨by show 3<=15;decide,?_⟩
 have hi:i<ds.length:=hi;have hl2:ds.length<=1000000:=ht.2.2;simp only [scM];show AW ⟨prog,X,15,w0,⟨L,E,5⟩⟩ _ _ _;have hc:Cx.OK ⟨prog,X,15,w0,⟨L,E,5⟩⟩:=⟨hX,mixed⟩
 have hiI:(i:Int)<(ds.length:Int):=by omega
 have hg:=zab hi;have hgE:=zac hi;obtain ⟨⟨a,b⟩,hm⟩:∃ m,m=gp ds i:=⟨_,rfl⟩
 rw [<- hm] at hg hgE;try simp only at hg hgE
 have hm1:(gp ds i).1=a:=by rw [<- hm]
 have zS:=jj hi<|jj hiI<|jj hg<|hgE;refine zl ?_;repeat (intro K hK)
 clear zS;refine ⟨by simp,_,by simp [aRs,aRt,f189];rfl,?_⟩;simp only [idx,hm1];exact dle
theorem zBG (X:AX) (hX:XOK prog X) (hw:X.W wT):GSd prog 191 clS:=by
 unfold clS;refine gsS func191 rfl X fun ⟨⟨⟨r,ns,ds⟩,g,i⟩,ht,hi⟩ w0 L E=>⟨by show 3<=15;decide,?_⟩
 have hi:i<ds.length:=hi;have hl2:ds.length<=1000000:=ht.2.2;simp only [scM];show AW ⟨prog,X,15,w0,⟨L,E,5⟩⟩ _ _ _;have hc:Cx.OK ⟨prog,X,15,w0,⟨L,E,5⟩⟩:=⟨hX,mixed⟩
 have hiI:(i:Int)<(ds.length:Int):=by omega
 have hg:=zab hi;have hgE:=zac hi;obtain ⟨⟨a,b⟩,hm⟩:∃ m,m=gp ds i:=⟨_,rfl⟩
 rw [<- hm] at hg hgE;try simp only at hg hgE
 have hm1:(gp ds i).1=a:=by rw [<- hm]
 have zS:=jj hi<|jj hiI<|jj hg<|hgE;refine zl ?_;repeat (intro K hK)
 clear zS;refine ⟨by simp,_,by simp [aRs,aRt,f191];rfl,?_⟩;simp only [idx,hm1];exact dle
set_option maxRecDepth 4000 in
theorem zvE {t:Tb} {g:Int} {i:Nat} (ht:zf t) (hi:i<t.2.2.length) (M:Nat->AO) (nid:Nat)
  (h0:M 0=.box [.bp 1 0]) (h1:M 1=.box [I t.1,.sl 2 1 9 0 t.2.1.length,.sl 3 1 2 0 t.2.2.length]) (h2:M 2=.vec 1 9 false (nrw t.2.1)) (h3:M 3=.vec 1 2 false (prw t.2.2)) (h4:M 4=.box [I g]) :
  caG clS [I i,.bp 0 0,.bp 4 0] M nid=some (B (decide (g<=(gp t.2.2 i).1)),[(0,.box [.bp 1 0]),(1,.box [I t.1,.sl 2 1 9 0 t.2.1.length,.sl 3 1 2 0 t.2.2.length]),(2,.vec 1 9 false (nrw t.2.1)),(3,.vec 1 2 false (prw t.2.2)),(4,.box [I g])]):=by
 have hF:=zvs (g:=g) ht hi;simp only [scM] at hF;unfold caG;have hg:gat M 64 (nmsL [I i,.bp 0 0,.bp 4 0]) []=[0,1,2,3,4]:=by simp [gat,nmsL,AV.nms,AO.nms,h0,h1,h2,h3,h4]
 simp only [hg];rw [if_pos ?cg]
 case cg=>simp [zbp,nmsL,AV.nms,AO.nms,Led,curBL,AV.curB,AO.curB,zaj,nDd,h0,h1,h2,h3,h4]
 simp [renL,AV.ren,AO.ren,zbL,zdP,nmsL,h0,h1,h2,h3,h4,hF,zeZ,zcc,AV.nms,AO.nms,zdC,nmN,shN,zaj,rng,Led]
@[simp] theorem zzl:za prog 199=some ⟨.int .u64,1,8,[.int .u64 0]⟩:=by kernel_rfl
def zdG (ds:List Dp) (g:Int):Nat:=ds.findIdx fun d=>decide (g<=d.1)
theorem znO {ds:List Dp} {g:Int}:zdG ds g<=ds.length:=List.findIdx_le_length
noncomputable def seS (c:FuncId):List AV->List AO->Option (AV×List AO):=za1 (ι:={x:Tb×Int // zf x.1∧zfw x.1.2.2}) (fun x=>[I x.1.1.2.2.length,.fn c [.bp 0 0,.bp 4 0]]) (fun x=>scM x.1.1 x.1.2) (fun x=>rtO [I (zdG x.1.1.2.2 x.1.2)]) fun x=>scM x.1.1 x.1.2
theorem zqB {c:FuncId} {t:Tb} {g:Int} (ht:zf t) (ha:zfw t.2.2):seS c [I t.2.2.length,.fn c [.bp 0 0,.bp 4 0]] (scM t g)=some (I (zdG t.2.2 g),scM t g):=by refine sGe (ι:={x:Tb×Int // zf x.1∧zfw x.1.2.2}) (A:=fun x=>[I x.1.1.2.2.length,.fn c [.bp 0 0,.bp 4 0]]) (M:=fun x=>scM x.1.1 x.1.2) (R:=fun x=>rtO [I (zdG x.1.1.2.2 x.1.2)]) (O:=fun x=>scM x.1.1 x.1.2) ⟨(t,g),ht,ha⟩ fun j hA hM=>?_;obtain ⟨⟨t',g'⟩,h'⟩:=j;obtain ⟨rfl,rfl⟩:=znd hM;exact ⟨rfl,rfl⟩
theorem zod {ds:List Dp} (h:zfw ds) {i j:Nat} (hij:i<j) (hj:j<ds.length):(gp ds i).1<(gp ds j).1:=by have:=List.pairwise_iff_getElem.1 h i j (by omega) hj hij;rw [zax (by omega),zax hj];exact this
theorem znP {ds:List Dp} {g:Int} {i:Nat} (hi:i<=ds.length) (h1:∀ k,k<i->¬ g<=(gp ds k).1) (h2:i<ds.length->g<=(gp ds i).1):zdG ds g=i:=by
 unfold zdG;rcases Nat.lt_or_ge i ds.length with h|h
 ·rw [List.findIdx_eq h];refine ⟨by have:=h2 h;rw [zax h] at this;simpa using this,fun j hj=>?_⟩;have:=h1 j hj;rw [zax (by omega)] at this;simpa using this
 ·have:i=ds.length:=by omega
  subst this;rw [List.findIdx_eq_length];intro x hx;obtain ⟨j,hj,rfl⟩:=List.getElem_of_mem hx;have:=h1 j hj;rw [zax hj] at this;simpa using this
theorem zAG (X:AX) (hX:XOK prog X) (hw:X.W wT) (c:FuncId) (hcl:X.call c=caG clS):GSd prog 188 (seS c):=by
 unfold seS;refine gsS func188 rfl X fun ⟨⟨⟨r,ns,ds⟩,g⟩,ht,ha⟩ w0 L E=>⟨by show 2<=26;decide,?_⟩
 simp only at ha;have hl1:ns.length<=1000000:=ht.2.1;have hl2:ds.length<=1000000:=ht.2.2;simp only [scM];show AW ⟨prog,X,26,w0,⟨L,E,5⟩⟩ _ _ _;have hc:Cx.OK ⟨prog,X,26,w0,⟨L,E,5⟩⟩:=⟨hX,mixed⟩
 repeat' (first|(refine aSk fun K hK=>?_)|(refine eMo ?_)|(refine eC (fun h=>?_) (fun h=>?_)<;>(try simp at h))|(refine hK _ ?_;clear hK)|(clear hK;refine hK _ ?_;clear hK))
 refine aLK (s0:=?lps1) (m0:=?lpm1) (ι:={s:Nat×Nat // s.1<=s.2∧s.2<=ds.length∧(∀ k,k<s.1->¬ g<=(gp ds k).1)∧∀ k,s.2<=k->k<ds.length->g<=(gp ds k).1}) [1] (fun s=>[(5,I s.1.1),(6,I s.1.2)]) (fun _=>[]) (fun s=>s.1.2 - s.1.1) ⟨(0,ds.length),by simp,by simp,by simp,by simp only;omega⟩ ?lhs1 ?lhm1 ?_ ?_
 case lhs1=>first|(simp [kpS];done)|(simp [kpS];rfl)
 case lhm1=>first|rfl|(simp;done)|(simp;rfl)
 ·exact dle
 ·rintro ⟨⟨i,j⟩,hij,hj,h1,h2⟩;simp only at hij hj h1 h2 ⊢;rcases dE (i<j) with hl|hl
  ·have hlI:(i:Int)<(j:Int):=by omega
   obtain ⟨md,hh⟩:∃ md,md=(i+j)/2:=⟨_,rfl⟩
   have hhl:md<ds.length:=by omega
   have hcall:=@zvE (r,ns,ds) g md ht hhl;simp only at hcall;rw [<- hcl] at hcall;have hhI:((i:Int)+(j:Int))/2=(md:Int):=by rw [hh];omega
   have hs1:IntKind.u64.wrap ((i:Int)+(j:Int))=(i:Int)+j:=zbj ⟨by omega,by omega⟩;have hs2:((i:Int)+(j:Int))/2^min 1 IntKind.u64.bits=(md:Int):=by rw [show (2:Int)^min 1 IntKind.u64.bits=2 by simp [IntKind.bits]];exact hhI
   rcases dE (g<=(gp ds md).1) with hq|hq
   ·rw [decide_eq_true hq] at hcall;have zS:=jj hlI<|jj hcall<|jj hhI<|jj hs1<|hs2;repeat' (first|(refine aSk fun K hK=>?_)|(refine zi ?_)|(refine eC (fun h=>?_) (fun h=>?_)<;>(try simp at h))|(refine hK _ ?_;clear hK)|clear hK)
    all_goals clear zS
    refine ⟨i,md,?_,⟨by omega,by omega,fun k hk=>by have:=h1 k hk;omega,fun k hk hk2=>?_⟩,by omega⟩
    ·exact dle
    ·rcases Nat.lt_or_ge md k with h3|h3
     ·have:=zod ha h3 hk2;omega
     ·obtain rfl:k=md:=by omega
      exact hq
   ·rw [decide_eq_false hq] at hcall;have zS:=jj hlI<|jj hcall<|jj hhI<|jj hs1<|hs2;repeat' (first|(refine aSk fun K hK=>?_)|(refine zi ?_)|(refine eC (fun h=>?_) (fun h=>?_)<;>(try simp at h))|(refine hK _ ?_;clear hK)|clear hK)
    all_goals clear zS
    refine ⟨md+1,j,?_,⟨by omega,by omega,fun k hk=>?_,h2⟩,by omega⟩
    ·exact dle
    ·rcases Nat.lt_or_ge k md with h3|h3
     ·have:=zod ha h3 hhl;omega
     ·obtain rfl:k=md:=by omega
      omega
  ·obtain rfl:i=j:=by omega
   have e:zdG ds g=i:=znP (by omega) h1 fun h=>h2 i (Nat.le_refl _) h;repeat' (first|(refine aSk fun K hK=>?_)|(refine eMo ?_)|(refine eC (fun h=>?_) (fun h=>?_)<;>(try simp at h))|(refine hK _ ?_;clear hK)|clear hK)
   refine ⟨by simp,_,by simp [aRs,aRt,f188];rfl,?_⟩;simp only [idx,e];exact dle
def zrA:Go.Shelf.Ren :=
 {f:=fun x=>match x with
   | 6=>214
   | 10=>238
   | 11=>239
   | 12=>240
   | 13=>213
   | 14=>241
   | 24=>236
   | 25=>237
   | 26=>260
   | 27=>261
   | 28=>262
   | 29=>263
   | 30=>264
   | 31=>265
   | 32=>266
   | 33=>267
   | 34=>271
   | 35=>272
   | 36=>273
   | 37=>274
   | 38=>275
   | 39=>276
   | n=>n
  t:=fun x=>match x with
   | 20=>20
   | 26=>250
   | 35=>274
   | 0=>0
   | 37=>145
   | 3=>3
   | 41=>199
   | 44=>280
   | 49=>238
   | 51=>76
   | 4=>4
   | 54=>292
   | 53=>291
   | 58=>179
   | 5=>5
   | 9=>9
   | 60=>301
   | 64=>183
   | 66=>304
   | 67=>79
   | 17=>17
   | 32=>271
   | 33=>272
   | 82=>319
   | 12=>12
   | 75=>312
   | 76=>313
   | 77=>314
   | 78=>315
   | 79=>316
   | 80=>317
   | n=>n
  g:=fun n=>n }
theorem zr8:Go.Proofs.LaysGg.n6 prog zrA :=
 {mixed:=mixed
  f6:=func214.trans (congrArg some (by kernel_rfl))
  f10:=func238.trans (congrArg some (by kernel_rfl))
  f11:=func239.trans (congrArg some (by kernel_rfl))
  f12:=func240.trans (congrArg some (by kernel_rfl))
  f13:=func213.trans (congrArg some (by kernel_rfl))
  f14:=func241.trans (congrArg some (by kernel_rfl))
  f24:=func236.trans (congrArg some (by kernel_rfl))
  f25:=func237.trans (congrArg some (by kernel_rfl))
  f26:=func260.trans (congrArg some (by kernel_rfl))
  f27:=func261.trans (congrArg some (by kernel_rfl))
  f28:=func262.trans (congrArg some (by kernel_rfl))
  f29:=func263.trans (congrArg some (by kernel_rfl))
  f30:=func264.trans (congrArg some (by kernel_rfl))
  f31:=func265.trans (congrArg some (by kernel_rfl))
  f32:=func266.trans (congrArg some (by kernel_rfl))
  f33:=func267.trans (congrArg some (by kernel_rfl))
  f34:=func271.trans (congrArg some (by kernel_rfl))
  f35:=func272.trans (congrArg some (by kernel_rfl))
  f36:=func273.trans (congrArg some (by kernel_rfl))
  f37:=func274.trans (congrArg some (by kernel_rfl))
  f38:=func275.trans (congrArg some (by kernel_rfl))
  f39:=func276.trans (congrArg some (by kernel_rfl))
  t0:=Tryz.underlying0
  a0:=Tryz.isAgg0
  z0:=Tryz.sizeOf0
  v0:=Tryz.zeroValue0
  t3:=Tryz.underlying3
  a3:=Tryz.isAgg3
  z3:=Tryz.sizeOf3
  v3:=Tryz.zeroValue3
  t4:=Tryz.underlying4
  a4:=Tryz.isAgg4
  z4:=Tryz.sizeOf4
  v4:=Tryz.zeroValue4
  t5:=Tryz.underlying5
  a5:=Tryz.isAgg5
  z5:=Tryz.sizeOf5
  v5:=Tryz.zeroValue5
  t9:=Tryz.underlying9
  a9:=Tryz.isAgg9
  z9:=Tryz.sizeOf9
  v9:=Tryz.zeroValue9
  t12:=Tryz.underlying12
  a12:=Tryz.isAgg12
  z12:=Tryz.sizeOf12
  v12:=Tryz.zeroValue12
  t17:=Tryz.underlying17
  a17:=Tryz.isAgg17
  z17:=Tryz.sizeOf17
  v17:=Tryz.zeroValue17
  t20:=Tryz.underlying20
  a20:=Tryz.isAgg20
  z20:=Tryz.sizeOf20
  v20:=Tryz.zeroValue20
  t26:=Tryz.underlying250
  a26:=Tryz.isAgg250
  z26:=Tryz.sizeOf250
  v26:=Tryz.zeroValue250
  t32:=Tryz.underlying271
  a32:=Tryz.isAgg271
  z32:=Tryz.sizeOf271
  v32:=Tryz.zeroValue271
  t33:=Tryz.underlying272
  a33:=Tryz.isAgg272
  z33:=Tryz.sizeOf272
  v33:=Tryz.zeroValue272
  t35:=Tryz.underlying274
  a35:=Tryz.isAgg274
  z35:=Tryz.sizeOf274
  v35:=Tryz.zeroValue274
  t37:=Tryz.underlying145
  a37:=Tryz.isAgg145
  z37:=Tryz.sizeOf145
  v37:=Tryz.zeroValue145
  t41:=Tryz.underlying199
  a41:=Tryz.isAgg199
  z41:=Tryz.sizeOf199
  v41:=Tryz.zeroValue199
  t44:=Tryz.underlying280
  a44:=Tryz.isAgg280
  z44:=Tryz.sizeOf280
  v44:=Tryz.zeroValue280
  t49:=Tryz.underlying238
  a49:=Tryz.isAgg238
  z49:=Tryz.sizeOf238
  v49:=Tryz.zeroValue238
  t51:=Tryz.underlying76
  a51:=Tryz.isAgg76
  z51:=Tryz.sizeOf76
  v51:=Tryz.zeroValue76
  t53:=Tryz.underlying291
  a53:=Tryz.isAgg291
  z53:=Tryz.sizeOf291
  v53:=Tryz.zeroValue291
  t54:=Tryz.underlying292
  a54:=Tryz.isAgg292
  z54:=Tryz.sizeOf292
  v54:=Tryz.zeroValue292
  t58:=Tryz.underlying179
  a58:=Tryz.isAgg179
  z58:=Tryz.sizeOf179
  v58:=Tryz.zeroValue179
  t60:=Tryz.underlying301
  a60:=Tryz.isAgg301
  z60:=Tryz.sizeOf301
  v60:=Tryz.zeroValue301
  t64:=Tryz.underlying183
  a64:=Tryz.isAgg183
  z64:=Tryz.sizeOf183
  v64:=Tryz.zeroValue183
  t66:=Tryz.underlying304
  a66:=Tryz.isAgg304
  z66:=Tryz.sizeOf304
  v66:=Tryz.zeroValue304
  t67:=Tryz.underlying79
  a67:=Tryz.isAgg79
  z67:=Tryz.sizeOf79
  v67:=Tryz.zeroValue79
  t75:=Tryz.underlying312
  a75:=Tryz.isAgg312
  z75:=Tryz.sizeOf312
  v75:=Tryz.zeroValue312
  t76:=Tryz.underlying313
  a76:=Tryz.isAgg313
  z76:=Tryz.sizeOf313
  v76:=Tryz.zeroValue313
  t77:=Tryz.underlying314
  a77:=Tryz.isAgg314
  z77:=Tryz.sizeOf314
  v77:=Tryz.zeroValue314
  t78:=Tryz.underlying315
  a78:=Tryz.isAgg315
  z78:=Tryz.sizeOf315
  v78:=Tryz.zeroValue315
  t79:=Tryz.underlying316
  a79:=Tryz.isAgg316
  z79:=Tryz.sizeOf316
  v79:=Tryz.zeroValue316
  t80:=Tryz.underlying317
  a80:=Tryz.isAgg317
  z80:=Tryz.sizeOf317
  v80:=Tryz.zeroValue317
  t82:=Tryz.underlying319
  a82:=Tryz.isAgg319
  z82:=Tryz.sizeOf319
  v82:=Tryz.zeroValue319
  i0:=by kernel_rfl
  i3:=by kernel_rfl
  i4:=by kernel_rfl
  i5:=by kernel_rfl
  i9:=by kernel_rfl
  i12:=by kernel_rfl
  i17:=by kernel_rfl
  i20:=by kernel_rfl
  i26:=by kernel_rfl
  i32:=by kernel_rfl
  i33:=by kernel_rfl
  i35:=by kernel_rfl
  i37:=by kernel_rfl
  i41:=by kernel_rfl
  i44:=by kernel_rfl
  i49:=by kernel_rfl
  i51:=by kernel_rfl
  i53:=by kernel_rfl
  i54:=by kernel_rfl
  i58:=by kernel_rfl
  i60:=by kernel_rfl
  i64:=by kernel_rfl
  i66:=by kernel_rfl
  i67:=by kernel_rfl
  i75:=by kernel_rfl
  i76:=by kernel_rfl
  i77:=by kernel_rfl
  i78:=by kernel_rfl
  i79:=by kernel_rfl
  i80:=by kernel_rfl
  i82:=by kernel_rfl }
end Go.AM
namespace Go.Proofs
open Go Go.Shelf Go.RowKit Go.Lib Go.Sort
noncomputable def Ptn.svT:TypeInfo:=(Tryz.prog.info? 60).get (by kernel_rfl)
noncomputable def Ptn.svE:TypeInfo:=(Tryz.prog.info? 150).get (by kernel_rfl)
theorem Ptn.svK (n:Nat) (h2:2<=n):Lib.swapperK n Ptn.svE 25=9:=by
 have a:Ptn.svE.hasPointers=false:=by kernel_rfl
 have b:Ptn.svE.bytes=72:=by kernel_rfl
 have c:(n == 0)=false:=by simp;omega
 have d:(n == 1)=false:=by simp;omega
 simp [Lib.swapperK,a,b,c,d]
set_option maxRecDepth 100000 in
set_option maxHeartbeats 2000000 in
theorem Ptn.less (blk off c Bs tb size:Nat) (W:World) (G:Nat->Int) (hb:W.cell? ⟨Bs,0,none⟩=some (.pointer (some ⟨tb,0,none⟩))) (hs:W.cell? ⟨tb,1,none⟩=some (.slice (some ⟨blk,off,none⟩) size c))
  (hc:∀ t,t<size->W.cell? ⟨blk,off+t*9,none⟩=some (.int .i64 (G t))) (i j:Nat) (hi:i<size) (hj:j<size) :
  Calls Tryz.prog 215 #[.int .i64 i,.int .i64 j,.pointer (some ⟨Bs,0,none⟩)] W fun e w'=>e=.returned (.bool (decide (G i<G j)))∧∃ q,w'=W.drewN q:=by
 have ci:=hc i hi;have cj:=hc j hj
 go_enter Tryz.func215,Tryz.ntmps215
 go_wp2
 go_quiet (fail)
 go_wp2
 go_ret
 exact ⟨rfl,nq,rfl⟩
end Go.Proofs
