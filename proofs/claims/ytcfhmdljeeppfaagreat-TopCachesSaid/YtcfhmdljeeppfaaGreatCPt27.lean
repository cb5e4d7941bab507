/- A part of the proof. -/
import Derived.Test.YtcfhmdljeeppfaaGreatCPtM
import Derived.Shelf.SlSortFuncK.WholeK
import Derived.Test.YtcfhmdljeeppfaaGreatCAmTa
import Derived.Deep.RegionHeld3
import Derived.LoopN
import Derived.WalkKit
set_option linter.all false
namespace Go.AM
open Go Go.Proofs Tryz
set_option maxHeartbeats 8000000 in
theorem s123_1 (X:AX) (hX:XOK prog X) (hw:X.W wT) (hd:∀ n:Nat,n<2^64→∀ M k,X.call 131 [U n] M k=some (.tup [EnV (decR n).1,I (decR n).2],[]))
  (hsu:∀ (e:En) (l:Nat) M n,X.call 132 [EnV e,I l] M n=some (B (suitB e l),[])) (hfi:∀ (t:Tb) f,tbOK t→∀ M n,X.call 122 [TbV t,I f] M n=some (I (fstG (fun n=>decide (n.1=f)) t.2.1),[]))
  (hde:∀ (t:Tb) f,tbOK t→∀ M n,X.call 124 [TbV t,I f] M n=some (I (fstG (fun n=>decide (n.1=f)) t.2.2),[])) (hrec:X.call 123=caG (rwS 0)):GSd prog 123 (rwS 1):=by
 unfold rwS
 refine gsS func123 rfl X fun ⟨⟨⟨r,ns,ds⟩,n,first,led,c⟩,hx⟩ w0 L E=>⟨by show 6≤96;decide,?_⟩
 obtain ⟨ht,hn,hf,hled,hcc⟩:=hx
 simp only [ckF,ckH] at ht hn hf hled hcc
 show AW ⟨prog,X,96,w0,⟨L,E,2⟩⟩ _ _ _
 have hc:Cx.OK ⟨prog,X,96,w0,⟨L,E,2⟩⟩:=⟨hX,mixed⟩
 have hl1:ns.length≤1000000:=ht.2.1
 have hfi':=fun f=>hfi (r,ns,ds) f ht
 have hde':=fun f=>hde (r,ns,ds) f ht
 obtain ⟨R,hR⟩:∃ R,R=rwR 1 ((r,ns,ds),n,first,led,c):=⟨_,rfl⟩
 simp only [← hR,rwM,rwA,TbV]
 simp only [TbV] at hfi' hde'
 have hnl:n<led.length:=by omega
 have hnI:(n:Int)<(led.length:Int):=by omega
 have hnN:(n:Int)<(ns.length:Int):=by omega
 have hg0:=brows_gi hnl
 have hgE0:=brows_gE hnl
 unfold rwR at hR
 simp only at hR
 rw [wk] at hR
 cases hb:led.getD n false with
 | true =>
  rw [hb] at hR hg0 hgE0
  simp only [if_true] at hR
  subst hR
  simp only
  have zS:=jj hnl<|jj hnI<|jj hg0<|hgE0
  refine dM64 ?_
  repeat (intro K hK)
  clear zS
  refine ⟨by simp,_,by simp [aRs,aRt,f123];rfl,?_⟩
  simp only [List.length_nil,Nat.add_zero,idx]
  exact dle
 | false =>
  rw [hb] at hR hg0 hgE0
  simp only [Bool.false_eq_true,if_false] at hR
  have hset:=@brows_set led n true
  obtain ⟨led1,hl1⟩:∃ l,l=led.set n true:=⟨_,rfl⟩
  have hled1:led1.length=led.length:=by rw [hl1];simp
  rw [← hl1] at hR hset
  have hgn:=nrG hn
  have hgnE:=nrE hn
  have h8:(gn ns n).2.length=8:=(ht.1 _ (gn_mem hn)).1
  have hw8:=fun i (h:i<8)=>wcs_gi (l:=(gn ns n).2) (i:=i) (by omega)
  have hwE:=fun i (h:i<8)=>wcs_gE (l:=(gn ns n).2) (i:=i) (by omega)
  have hwg:∀ i,(gn ns n).2.getD i 0=wd ns n i:=fun _=>rfl
  simp only [hwg] at hw8 hwE
  have hwl:(wcs (gn ns n).2).length=8:=by simp [h8]
  obtain ⟨⟨fr,ws⟩,hm⟩:∃ m,m=gn ns n:=⟨_,rfl⟩
  rw [← hm] at hgn hgnE hw8 hwE hwl
  simp only at hgn hgnE hw8 hwE hwl
  obtain ⟨cs,hcs⟩:∃ cs,cs=wcs ws:=⟨_,rfl⟩
  rw [← hcs] at hgn hgnE hw8 hwE hwl
  have hcu:∀ m,AV.underL m cs:=fun m=>underL_iff.2 fun a ha=>by
   rw [hcs] at ha
   obtain ⟨w,_,rfl⟩:=List.mem_map.1 ha
   trivial
  clear hcs hm h8 hwg
  have hct:List.take 8 cs=cs:=tkL (by omega)
  have zS:=jj hnl<|jj hnI<|jj hg0<|jj hgE0<|jj hset<|jj hgn<|jj hgnE<|jj hn<|jj hnN<|jj hwl<|hct
  repeat' (first|(refine aSk fun K hK=>?_)|(refine eM64 ?_)|(refine eC (fun h=>?_) (fun h=>?_)<;>(try simp at h))|(refine hK _ ?_;clear hK)|(clear hK;refine hK _ ?_;clear hK))
  all_goals clear zS
  obtain ⟨ln,hln⟩:∃ ln,ln=led.length:=⟨_,rfl⟩
  have hRl:R.2.1.length=ln:=by rw [hR,(wkF_adds (b:=8) (wk_adds (l:=0)) 8 0 (led1,[])).1,hln];exact hled1
  rw [← hln]
  refine aLK (s0:=?lps1) (m0:=?lpm1) (ι:={s:Nat×List Bool×List Int // s.1≤8∧s.2.1.length=ln∧s.2.2.length≤9*s.1∧wkF (WR ds) ns (wk (WR ds) ns 0) 1 n first (8 - s.1) s.1 (s.2.1,s.2.2)=R}) [2,3,4,5,6,31] (fun s=>[(32,I s.1.1)]) (fun s=>[(0,.vec 1 1 false (brows s.1.2.1)),(1,.box [I ((c+s.1.2.2.length:Nat):Int)])]) (fun s=>8 - s.1.1) ⟨(0,led1,[]),by simp,by simp only;omega,by simp,hR.symm⟩ ?lhs1 ?lhm1 ?_ ?_
  case lhs1=>first|(simp [kpS];done)|(simp [kpS];rfl)
  case lhm1=>first|rfl|(simp;done)|(simp;rfl)
  ·simp only [List.length_nil,Nat.add_zero]
   exact le_of3
  ·clear hR hset hg0 hgE0 hb hnl hnI
   clear hl1
   rintro ⟨⟨i,led2,hs2⟩,hi,hl2,hb2,hst⟩
   simp only at hi hl2 hb2 hst ⊢
   obtain ⟨cn,hcn⟩:∃ cn,cn=c+hs2.length:=⟨_,rfl⟩
   rw [← hcn]
   rcases dE (i<8) with hi8|hi8
   ·have hiI:(i:Int)<8:=by omega
    have hw8:=hw8 i hi8
    have hwE:=hwE i hi8
    have hw64:=wd_lt ht (n:=n) (i:=i) hn
    obtain ⟨k8,hk8⟩:∃ k,8 - i=k+1:=⟨7 - i,by omega⟩
    have hk7:8 - (i+1)=k8:=by omega
    rw [hk8] at hst
    obtain ⟨w,hwd⟩:∃ w,w=wd ns n i:=⟨_,rfl⟩
    simp only at hw64
    rw [← hwd] at hw64 hw8 hwE
    have hd':=hd w hw64
    have bad:=@wkF_bad (WR ds) ns (wk (WR ds) ns 0) 1 n first k8 i (led2,hs2)
    have pl:=@wkF_pl (WR ds) ns (wk (WR ds) ns 0) 1 n first k8 i (led2,hs2)
    have adm:=@wkF_adm (WR ds) ns (wk (WR ds) ns 0) 1 n first k8 i (led2,hs2)
    have hug:=@wkF_hug (WR ds) ns (wk (WR ds) ns 0) 1 n first k8 i (led2,hs2)
    have lost:=fun g=>@wkF_lost (WR ds) ns (wk (WR ds) ns 0) 1 n first k8 i (led2,hs2) g
    have rcr:=fun g nx=>@wkF_rec (WR ds) ns (wk (WR ds) ns 0) 1 n first k8 i (led2,hs2) g nx
    have hone:=(WD_ok (admR ds)).one 1 w
    have hflat:=(WD_ok (admR ds)).flat w
    rw [← hwd] at bad pl hug lost rcr adm
    rw [hst] at bad pl hug lost rcr adm
    have hsu':=fun e=>hsu e 1
    obtain ⟨⟨⟨k,f,d,a,x,h⟩,e⟩,hE⟩:∃ r,r=decR w:=⟨_,rfl⟩
    have hok:(WR ds).ok 1 w=(decide (e=0)&&suitB (k,f,d,a,x,h) 1):=by show okWb 1 w=_;unfold okWb;rw [← hE]
    have hhg:(WR ds).hug w=(decide (k=1)&&h):=by show hugW w=_;unfold hugW;rw [← hE]
    have htb:(WR ds).tab w=if k=4 then some f else none:=by show tabW w=_;unfold tabW;rw [← hE]
    rw [← hE] at hd'
    clear hE
    simp only [EnV,U] at hd' hw8 hwE
    have hsu2:∀ M n,X.call 132 [.agg [I k,I f,B d,B a,B x,B h],I 1] M n=some (B (suitB (k,f,d,a,x,h) 1),[]):=hsu' (k,f,d,a,x,h)
    rcases dE (e=0) with he|he
    ·subst he
     cases hsb:suitB (k,f,d,a,x,h) 1 with
     | false =>
      rw [hsb] at hsu2
      have hfin:=bad (by rw [hok,hsb];rfl)
      subst hfin
      simp only
      clear pl hug lost rcr hone hflat
      have zS:=jj hiI<|jj hi8<|jj hw8<|jj hwE<|jj hwl<|jj hd'<|hsu2
      repeat' (first|(refine aSk fun K hK=>?_)|(refine eM64 ?_)|(refine eC (fun h=>?_) (fun h=>?_)<;>(try simp at h))|(refine hK _ ?_;clear hK)|clear hK)
      all_goals clear zS
      refine ⟨by simp,_,by simp [aRs,aRt,f123];rfl,?_⟩
      try simp only [← hcn]
      simp only [idx]
      exact le_of3
     | true =>
      rw [hsb] at hsu2
      have hok1:(WR ds).ok 1 w=true:=by rw [hok,hsb];rfl
      rcases dE (k=1∧h=true) with hk|hk
      ·obtain ⟨rfl,rfl⟩:=hk
       obtain ⟨gq,hgq⟩:∃ g:Int,g=(((first+i*8^1)/8:Nat):Int):=⟨_,rfl⟩
       have hq2:(first:Int)/8+(i:Int)=gq:=by rw [hgq];omega
       have hadm:(WR ds).adm gq=decide (0≤fstG (fun n:Dp=>decide (n.1=gq)) ds):=rfl
       have hde2:=hde' gq
       rw [← hgq] at adm hug
       obtain ⟨q,hq⟩:∃ q,q=fstG (fun n:Dp=>decide (n.1=gq)) ds:=⟨_,rfl⟩
       rw [← hq] at hde2 hadm
       rcases dE (0≤q) with h9|h9
       ·rw [decide_eq_true h9] at hadm
        have hfin:=hug hok1 (by rw [hhg];rfl) hadm (by rw [htb];rfl)
        clear bad pl lost rcr hone hflat adm
        have h9n:¬ q<0:=by omega
        have zS:=jj hiI<|jj hi8<|jj hw8<|jj hwE<|jj hwl<|jj hd'<|jj hsu2<|jj hq2<|jj hde2<|h9n
        repeat' (first|(refine aSk fun K hK=>?_)|(refine eM64 ?_)|(refine eC (fun h=>?_) (fun h=>?_)<;>(try simp at h))|(refine hK _ ?_;clear hK)|clear hK)
        all_goals clear zS
        refine ⟨i+1,led2,hs2++[gq],?_,⟨by omega,hl2,by simp only [List.length_append,List.length_singleton];omega,by rw [hk7];exact hfin.symm⟩,by omega⟩
        try simp only [List.length_append,List.length_singleton]
        exact le_of3
       ·rw [decide_eq_false h9] at hadm
        have hfin:=adm hok1 (by rw [hhg];rfl) hadm
        subst hfin
        simp only
        clear bad pl lost rcr hone hflat hug
        have h9n:q<0:=by omega
        have zS:=jj hiI<|jj hi8<|jj hw8<|jj hwE<|jj hwl<|jj hd'<|jj hsu2<|jj hq2<|jj hde2<|h9n
        repeat' (first|(refine aSk fun K hK=>?_)|(refine eM64 ?_)|(refine eC (fun h=>?_) (fun h=>?_)<;>(try simp at h))|(refine hK _ ?_;clear hK)|clear hK)
        all_goals clear zS
        refine ⟨by simp,_,by simp [aRs,aRt,f123];rfl,?_⟩
        try simp only [← hcn]
        simp only [idx]
        exact le_of3
      ·have hhf:(decide (k=1)&&h)=false:=by
        rw [Bool.eq_false_iff];intro hh;simp only [Bool.and_eq_true,decide_eq_true_eq] at hh;exact hk hh
       rw [hhf] at hhg
       rcases dE (k=4) with hk4|hk4
       ·subst hk4
        clear hone hflat hug pl bad adm
        have hfi2:=hfi' f
        rw [fstG_fnd] at hfi2
        cases hfn:fnd ns f with
        | none =>
         rw [hfn] at hfi2
         simp only at hfi2
         have hfin:=lost f hok1 hhg (by rw [htb];rfl) hfn
         subst hfin
         simp only
         clear lost rcr
         have zS:=jj hiI<|jj hi8<|jj hw8<|jj hwE<|jj hwl<|jj hd'<|jj hsu2<|hfi2
         repeat' (first|(refine aSk fun K hK=>?_)|(refine eM64 ?_)|(refine eC (fun h=>?_) (fun h=>?_)<;>(try simp at h))|(refine hK _ ?_;clear hK)|clear hK)
         all_goals clear zS
         refine ⟨by simp,_,by simp [aRs,aRt,f123];rfl,?_⟩
         try simp only [← hcn]
         simp only [idx]
         exact le_of3
        | some nx =>
         rw [hfn] at hfi2
         simp only at hfi2
         have hnx:=fnd_lt hfn
         have hnx0:¬ (nx:Int)<0:=by omega
         have hfin:=rcr f nx hok1 hhg (by rw [htb];rfl) hfn
         clear lost rcr
         have hckk:rwOK 0 ((r,ns,ds),nx,first+i*8,led2,cn):=⟨ht,hnx,by simp only [ckF];omega,by simp only;omega,by simp only [ckH];omega⟩
         have hcall:=@callRw 0 (r,ns,ds) nx (first+i*8) led2 cn hckk false
         have hckR:rwR 0 ((r,ns,ds),nx,first+i*8,led2,cn)=wk (WR ds) ns 0 nx (first+i*8) (led2,[]):=rfl
         rw [hckR] at hcall
         have hadd:=wk_adds (D:=WR ds) (ns:=ns) (l:=0) nx (first+i*8) (led2,[])
         rw [show (8:Nat)^1=8 from rfl,wk_hom nx (first+i*8) led2 hs2] at hfin
         obtain ⟨⟨b3,led3,hs3⟩,hR3⟩:∃ R,R=wk (WR ds) ns 0 nx (first+i*8) (led2,[]):=⟨_,rfl⟩
         rw [← hR3] at hcall hfin hadd
         clear hR3 hckR hckk
         simp only [addsB,List.length_nil,Nat.zero_add] at hcall hfin hadd
         rw [hl2] at hcall hadd
         rw [← hrec] at hcall
         have hfI:((first+i*8:Nat):Int)=(first:Int)+(i:Int)*8:=by omega
         rw [hfI,show ((0:Nat):Int)=(0:Int) from rfl] at hcall
         obtain ⟨v3,hv3⟩:∃ v3,v3=cn+hs3.length:=⟨_,rfl⟩
         rw [← hv3] at hcall
         cases b3 with
         | false =>
          simp only [Bool.false_eq_true,if_false] at hfin
          subst hfin
          simp only [List.length_append]
          have zS:=jj hiI<|jj hi8<|jj hw8<|jj hwE<|jj hwl<|jj hd'<|jj hsu2<|jj hfi2<|jj hcall<|hnx0
          repeat' (first|(refine aSk fun K hK=>?_)|(refine eM64 ?_)|(refine eC (fun h=>?_) (fun h=>?_)<;>(try simp at h))|(refine hK _ ?_;clear hK)|clear hK)
          all_goals clear zS
          refine ⟨by simp,_,by simp [aRs,aRt,f123];rfl,?_⟩
          simp only [idx]
          exact le_of3
         | true =>
          simp only [if_true] at hfin
          have zS:=jj hiI<|jj hi8<|jj hw8<|jj hwE<|jj hwl<|jj hd'<|jj hsu2<|jj hfi2<|jj hcall<|hnx0
          repeat' (first|(refine aSk fun K hK=>?_)|(refine eM64 ?_)|(refine eC (fun h=>?_) (fun h=>?_)<;>(try simp at h))|(refine hK _ ?_;clear hK)|clear hK)
          all_goals clear zS
          refine ⟨i+1,led3,hs2++hs3,?_,⟨by omega,hadd.1,by simp only [List.length_append];omega,by rw [hk7];exact hfin.symm⟩,by omega⟩
          try simp only [List.length_append]
          exact le_of3
       ·have hfin:=pl hok1 hhg (by rw [htb,if_neg hk4])
        clear bad hug lost rcr hone hflat
        rcases dE (k=1) with hk1|hk1
        ·subst hk1
         have hh0:h=false:=by cases h with|false=>rfl|true=>exact absurd ⟨rfl,rfl⟩ hk
         subst hh0
         have zS:=jj hiI<|jj hi8<|jj hw8<|jj hwE<|jj hwl<|jj hd'<|hsu2
         repeat' (first|(refine aSk fun K hK=>?_)|(refine eM64 ?_)|(refine eC (fun h=>?_) (fun h=>?_)<;>(try simp at h))|(refine hK _ ?_;clear hK)|clear hK)
         all_goals clear zS
         refine ⟨i+1,led2,hs2,?_,⟨by omega,hl2,by omega,by rw [hk7];exact hfin.symm⟩,by omega⟩
         try simp only [← hcn]
         exact le_of3
        ·have zS:=jj hiI<|jj hi8<|jj hw8<|jj hwE<|jj hwl<|jj hd'<|jj hsu2<|jj hk1<|hk4
         repeat' (first|(refine aSk fun K hK=>?_)|(refine eM64 ?_)|(refine eC (fun h=>?_) (fun h=>?_)<;>(try simp at h))|(refine hK _ ?_;clear hK)|clear hK)
         all_goals clear zS
         refine ⟨i+1,led2,hs2,?_,⟨by omega,hl2,by omega,by rw [hk7];exact hfin.symm⟩,by omega⟩
         try simp only [← hcn]
         exact le_of3
    ·have hfin:=bad (by rw [hok];simp [he])
     subst hfin
     simp only
     clear pl hug lost rcr hone hflat
     have zS:=jj hiI<|jj hi8<|jj hw8<|jj hwE<|jj hwl<|jj hd'<|he
     repeat' (first|(refine aSk fun K hK=>?_)|(refine eM64 ?_)|(refine eC (fun h=>?_) (fun h=>?_)<;>(try simp at h))|(refine hK _ ?_;clear hK)|clear hK)
     all_goals clear zS
     refine ⟨by simp,_,by simp [aRs,aRt,f123];rfl,?_⟩
     try simp only [← hcn]
     simp only [idx]
     exact le_of3
   ·obtain rfl:i=8:=by omega
    simp only [Nat.sub_self,wkF] at hst
    subst hst
    simp only
    repeat' (first|(refine aSk fun K hK=>?_)|(refine eMo ?_)|(refine eC (fun h=>?_) (fun h=>?_)<;>(try simp at h))|(refine hK _ ?_;clear hK)|clear hK)
    refine ⟨by simp,_,by simp [aRs,aRt,f123];rfl,?_⟩
    try simp only [← hcn]
    simp only [idx]
    exact le_of3
set_option maxHeartbeats 8000000 in
theorem s123_2 (X:AX) (hX:XOK prog X) (hw:X.W wT) (hd:∀ n:Nat,n<2^64→∀ M k,X.call 131 [U n] M k=some (.tup [EnV (decR n).1,I (decR n).2],[]))
  (hsu:∀ (e:En) (l:Nat) M n,X.call 132 [EnV e,I l] M n=some (B (suitB e l),[])) (hfi:∀ (t:Tb) f,tbOK t→∀ M n,X.call 122 [TbV t,I f] M n=some (I (fstG (fun n=>decide (n.1=f)) t.2.1),[]))
  (hde:∀ (t:Tb) f,tbOK t→∀ M n,X.call 124 [TbV t,I f] M n=some (I (fstG (fun n=>decide (n.1=f)) t.2.2),[])) (hrec:X.call 123=caG (rwS 1)):GSd prog 123 (rwS 2):=by
 unfold rwS
 refine gsS func123 rfl X fun ⟨⟨⟨r,ns,ds⟩,n,first,led,c⟩,hx⟩ w0 L E=>⟨by show 6≤96;decide,?_⟩
 obtain ⟨ht,hn,hf,hled,hcc⟩:=hx
 simp only [ckF,ckH] at ht hn hf hled hcc
 show AW ⟨prog,X,96,w0,⟨L,E,2⟩⟩ _ _ _
 have hc:Cx.OK ⟨prog,X,96,w0,⟨L,E,2⟩⟩:=⟨hX,mixed⟩
 have hl1:ns.length≤1000000:=ht.2.1
 have hfi':=fun f=>hfi (r,ns,ds) f ht
 have hde':=fun f=>hde (r,ns,ds) f ht
 obtain ⟨R,hR⟩:∃ R,R=rwR 2 ((r,ns,ds),n,first,led,c):=⟨_,rfl⟩
 simp only [← hR,rwM,rwA,TbV]
 simp only [TbV] at hfi' hde'
 have hnl:n<led.length:=by omega
 have hnI:(n:Int)<(led.length:Int):=by omega
 have hnN:(n:Int)<(ns.length:Int):=by omega
 have hg0:=brows_gi hnl
 have hgE0:=brows_gE hnl
 unfold rwR at hR
 simp only at hR
 rw [wk] at hR
 cases hb:led.getD n false with
 | true =>
  rw [hb] at hR hg0 hgE0
  simp only [if_true] at hR
  subst hR
  simp only
  have zS:=jj hnl<|jj hnI<|jj hg0<|hgE0
  refine dM64 ?_
  repeat (intro K hK)
  clear zS
  refine ⟨by simp,_,by simp [aRs,aRt,f123];rfl,?_⟩
  simp only [List.length_nil,Nat.add_zero,idx]
  exact dle
 | false =>
  rw [hb] at hR hg0 hgE0
  simp only [Bool.false_eq_true,if_false] at hR
  have hset:=@brows_set led n true
  obtain ⟨led1,hl1⟩:∃ l,l=led.set n true:=⟨_,rfl⟩
  have hled1:led1.length=led.length:=by rw [hl1];simp
  rw [← hl1] at hR hset
  have hgn:=nrG hn
  have hgnE:=nrE hn
  have h8:(gn ns n).2.length=8:=(ht.1 _ (gn_mem hn)).1
  have hw8:=fun i (h:i<8)=>wcs_gi (l:=(gn ns n).2) (i:=i) (by omega)
  have hwE:=fun i (h:i<8)=>wcs_gE (l:=(gn ns n).2) (i:=i) (by omega)
  have hwg:∀ i,(gn ns n).2.getD i 0=wd ns n i:=fun _=>rfl
  simp only [hwg] at hw8 hwE
  have hwl:(wcs (gn ns n).2).length=8:=by simp [h8]
  obtain ⟨⟨fr,ws⟩,hm⟩:∃ m,m=gn ns n:=⟨_,rfl⟩
  rw [← hm] at hgn hgnE hw8 hwE hwl
  simp only at hgn hgnE hw8 hwE hwl
  obtain ⟨cs,hcs⟩:∃ cs,cs=wcs ws:=⟨_,rfl⟩
  rw [← hcs] at hgn hgnE hw8 hwE hwl
  have hcu:∀ m,AV.underL m cs:=fun m=>underL_iff.2 fun a ha=>by
   rw [hcs] at ha
   obtain ⟨w,_,rfl⟩:=List.mem_map.1 ha
   trivial
  clear hcs hm h8 hwg
  have hct:List.take 8 cs=cs:=tkL (by omega)
  have zS:=jj hnl<|jj hnI<|jj hg0<|jj hgE0<|jj hset<|jj hgn<|jj hgnE<|jj hn<|jj hnN<|jj hwl<|hct
  repeat' (first|(refine aSk fun K hK=>?_)|(refine eM64 ?_)|(refine eC (fun h=>?_) (fun h=>?_)<;>(try simp at h))|(refine hK _ ?_;clear hK)|(clear hK;refine hK _ ?_;clear hK))
  all_goals clear zS
  obtain ⟨ln,hln⟩:∃ ln,ln=led.length:=⟨_,rfl⟩
  have hRl:R.2.1.length=ln:=by rw [hR,(wkF_adds (b:=72) (wk_adds (l:=1)) 8 0 (led1,[])).1,hln];exact hled1
  rw [← hln]
  refine aLK (s0:=?lps1) (m0:=?lpm1) (ι:={s:Nat×List Bool×List Int // s.1≤8∧s.2.1.length=ln∧s.2.2.length≤73*s.1∧wkF (WR ds) ns (wk (WR ds) ns 1) 2 n first (8 - s.1) s.1 (s.2.1,s.2.2)=R}) [2,3,4,5,6,31] (fun s=>[(32,I s.1.1)]) (fun s=>[(0,.vec 1 1 false (brows s.1.2.1)),(1,.box [I ((c+s.1.2.2.length:Nat):Int)])]) (fun s=>8 - s.1.1) ⟨(0,led1,[]),by simp,by simp only;omega,by simp,hR.symm⟩ ?lhs1 ?lhm1 ?_ ?_
  case lhs1=>first|(simp [kpS];done)|(simp [kpS];rfl)
  case lhm1=>first|rfl|(simp;done)|(simp;rfl)
  ·simp only [List.length_nil,Nat.add_zero]
   exact le_of3
  ·clear hR hset hg0 hgE0 hb hnl hnI
   clear hl1
   rintro ⟨⟨i,led2,hs2⟩,hi,hl2,hb2,hst⟩
   simp only at hi hl2 hb2 hst ⊢
   obtain ⟨cn,hcn⟩:∃ cn,cn=c+hs2.length:=⟨_,rfl⟩
   rw [← hcn]
   rcases dE (i<8) with hi8|hi8
   ·have hiI:(i:Int)<8:=by omega
    have hw8:=hw8 i hi8
    have hwE:=hwE i hi8
    have hw64:=wd_lt ht (n:=n) (i:=i) hn
    obtain ⟨k8,hk8⟩:∃ k,8 - i=k+1:=⟨7 - i,by omega⟩
    have hk7:8 - (i+1)=k8:=by omega
    rw [hk8] at hst
    obtain ⟨w,hwd⟩:∃ w,w=wd ns n i:=⟨_,rfl⟩
    simp only at hw64
    rw [← hwd] at hw64 hw8 hwE
    have hd':=hd w hw64
    have bad:=@wkF_bad (WR ds) ns (wk (WR ds) ns 1) 2 n first k8 i (led2,hs2)
    have pl:=@wkF_pl (WR ds) ns (wk (WR ds) ns 1) 2 n first k8 i (led2,hs2)
    have adm:=@wkF_adm (WR ds) ns (wk (WR ds) ns 1) 2 n first k8 i (led2,hs2)
    have hug:=@wkF_hug (WR ds) ns (wk (WR ds) ns 1) 2 n first k8 i (led2,hs2)
    have lost:=fun g=>@wkF_lost (WR ds) ns (wk (WR ds) ns 1) 2 n first k8 i (led2,hs2) g
    have rcr:=fun g nx=>@wkF_rec (WR ds) ns (wk (WR ds) ns 1) 2 n first k8 i (led2,hs2) g nx
    have hone:=(WD_ok (admR ds)).one 2 w
    have hflat:=(WD_ok (admR ds)).flat w
    rw [← hwd] at bad pl hug lost rcr adm
    rw [hst] at bad pl hug lost rcr adm
    have hsu':=fun e=>hsu e 2
    obtain ⟨⟨⟨k,f,d,a,x,h⟩,e⟩,hE⟩:∃ r,r=decR w:=⟨_,rfl⟩
    have hok:(WR ds).ok 2 w=(decide (e=0)&&suitB (k,f,d,a,x,h) 2):=by show okWb 2 w=_;unfold okWb;rw [← hE]
    have hhg:(WR ds).hug w=(decide (k=1)&&h):=by show hugW w=_;unfold hugW;rw [← hE]
    have htb:(WR ds).tab w=if k=4 then some f else none:=by show tabW w=_;unfold tabW;rw [← hE]
    rw [← hE] at hd'
    clear hE
    simp only [EnV,U] at hd' hw8 hwE
    have hsu2:∀ M n,X.call 132 [.agg [I k,I f,B d,B a,B x,B h],I 2] M n=some (B (suitB (k,f,d,a,x,h) 2),[]):=hsu' (k,f,d,a,x,h)
    rcases dE (e=0) with he|he
    ·subst he
     cases hsb:suitB (k,f,d,a,x,h) 2 with
     | false =>
      rw [hsb] at hsu2
      have hfin:=bad (by rw [hok,hsb];rfl)
      subst hfin
      simp only
      clear pl hug lost rcr hone hflat
      have zS:=jj hiI<|jj hi8<|jj hw8<|jj hwE<|jj hwl<|jj hd'<|hsu2
      repeat' (first|(refine aSk fun K hK=>?_)|(refine eM64 ?_)|(refine eC (fun h=>?_) (fun h=>?_)<;>(try simp at h))|(refine hK _ ?_;clear hK)|clear hK)
      all_goals clear zS
      refine ⟨by simp,_,by simp [aRs,aRt,f123];rfl,?_⟩
      try simp only [← hcn]
      simp only [idx]
      exact le_of3
     | true =>
      rw [hsb] at hsu2
      have hok1:(WR ds).ok 2 w=true:=by rw [hok,hsb];rfl
      rcases dE (k=1∧h=true) with hk|hk
      ·obtain ⟨rfl,rfl⟩:=hk
       exact absurd (hone hok1 (by rw [hhg];rfl)) (by decide)
      ·have hhf:(decide (k=1)&&h)=false:=by
        rw [Bool.eq_false_iff];intro hh;simp only [Bool.and_eq_true,decide_eq_true_eq] at hh;exact hk hh
       rw [hhf] at hhg
       rcases dE (k=4) with hk4|hk4
       ·subst hk4
        clear hone hflat hug pl bad adm
        have hfi2:=hfi' f
        rw [fstG_fnd] at hfi2
        cases hfn:fnd ns f with
        | none =>
         rw [hfn] at hfi2
         simp only at hfi2
         have hfin:=lost f hok1 hhg (by rw [htb];rfl) hfn
         subst hfin
         simp only
         clear lost rcr
         have zS:=jj hiI<|jj hi8<|jj hw8<|jj hwE<|jj hwl<|jj hd'<|jj hsu2<|hfi2
         repeat' (first|(refine aSk fun K hK=>?_)|(refine eM64 ?_)|(refine eC (fun h=>?_) (fun h=>?_)<;>(try simp at h))|(refine hK _ ?_;clear hK)|clear hK)
         all_goals clear zS
         refine ⟨by simp,_,by simp [aRs,aRt,f123];rfl,?_⟩
         try simp only [← hcn]
         simp only [idx]
         exact le_of3
        | some nx =>
         rw [hfn] at hfi2
         simp only at hfi2
         have hnx:=fnd_lt hfn
         have hnx0:¬ (nx:Int)<0:=by omega
         have hfin:=rcr f nx hok1 hhg (by rw [htb];rfl) hfn
         clear lost rcr
         have hckk:rwOK 1 ((r,ns,ds),nx,first+i*64,led2,cn):=⟨ht,hnx,by simp only [ckF];omega,by simp only;omega,by simp only [ckH];omega⟩
         have hcall:=@callRw 1 (r,ns,ds) nx (first+i*64) led2 cn hckk false
         have hckR:rwR 1 ((r,ns,ds),nx,first+i*64,led2,cn)=wk (WR ds) ns 1 nx (first+i*64) (led2,[]):=rfl
         rw [hckR] at hcall
         have hadd:=wk_adds (D:=WR ds) (ns:=ns) (l:=1) nx (first+i*64) (led2,[])
         rw [show (8:Nat)^2=64 from rfl,wk_hom nx (first+i*64) led2 hs2] at hfin
         obtain ⟨⟨b3,led3,hs3⟩,hR3⟩:∃ R,R=wk (WR ds) ns 1 nx (first+i*64) (led2,[]):=⟨_,rfl⟩
         rw [← hR3] at hcall hfin hadd
         clear hR3 hckR hckk
         simp only [addsB,List.length_nil,Nat.zero_add] at hcall hfin hadd
         rw [hl2] at hcall hadd
         rw [← hrec] at hcall
         have hfI:((first+i*64:Nat):Int)=(first:Int)+(i:Int)*64:=by omega
         rw [hfI,show ((1:Nat):Int)=(1:Int) from rfl] at hcall
         obtain ⟨v3,hv3⟩:∃ v3,v3=cn+hs3.length:=⟨_,rfl⟩
         rw [← hv3] at hcall
         cases b3 with
         | false =>
          simp only [Bool.false_eq_true,if_false] at hfin
          subst hfin
          simp only [List.length_append]
          have zS:=jj hiI<|jj hi8<|jj hw8<|jj hwE<|jj hwl<|jj hd'<|jj hsu2<|jj hfi2<|jj hcall<|hnx0
          repeat' (first|(refine aSk fun K hK=>?_)|(refine eM64 ?_)|(refine eC (fun h=>?_) (fun h=>?_)<;>(try simp at h))|(refine hK _ ?_;clear hK)|clear hK)
          all_goals clear zS
          refine ⟨by simp,_,by simp [aRs,aRt,f123];rfl,?_⟩
          simp only [idx]
          exact le_of3
         | true =>
          simp only [if_true] at hfin
          have zS:=jj hiI<|jj hi8<|jj hw8<|jj hwE<|jj hwl<|jj hd'<|jj hsu2<|jj hfi2<|jj hcall<|hnx0
          repeat' (first|(refine aSk fun K hK=>?_)|(refine eM64 ?_)|(refine eC (fun h=>?_) (fun h=>?_)<;>(try simp at h))|(refine hK _ ?_;clear hK)|clear hK)
          all_goals clear zS
          refine ⟨i+1,led3,hs2++hs3,?_,⟨by omega,hadd.1,by simp only [List.length_append];omega,by rw [hk7];exact hfin.symm⟩,by omega⟩
          try simp only [List.length_append]
          exact le_of3
       ·have hfin:=pl hok1 hhg (by rw [htb,if_neg hk4])
        clear bad hug lost rcr hone hflat
        rcases dE (k=1) with hk1|hk1
        ·subst hk1
         have hh0:h=false:=by cases h with|false=>rfl|true=>exact absurd ⟨rfl,rfl⟩ hk
         subst hh0
         have zS:=jj hiI<|jj hi8<|jj hw8<|jj hwE<|jj hwl<|jj hd'<|hsu2
         repeat' (first|(refine aSk fun K hK=>?_)|(refine eM64 ?_)|(refine eC (fun h=>?_) (fun h=>?_)<;>(try simp at h))|(refine hK _ ?_;clear hK)|clear hK)
         all_goals clear zS
         refine ⟨i+1,led2,hs2,?_,⟨by omega,hl2,by omega,by rw [hk7];exact hfin.symm⟩,by omega⟩
         try simp only [← hcn]
         exact le_of3
        ·have zS:=jj hiI<|jj hi8<|jj hw8<|jj hwE<|jj hwl<|jj hd'<|jj hsu2<|jj hk1<|hk4
         repeat' (first|(refine aSk fun K hK=>?_)|(refine eM64 ?_)|(refine eC (fun h=>?_) (fun h=>?_)<;>(try simp at h))|(refine hK _ ?_;clear hK)|clear hK)
         all_goals clear zS
         refine ⟨i+1,led2,hs2,?_,⟨by omega,hl2,by omega,by rw [hk7];exact hfin.symm⟩,by omega⟩
         try simp only [← hcn]
         exact le_of3
    ·have hfin:=bad (by rw [hok];simp [he])
     subst hfin
     simp only
     clear pl hug lost rcr hone hflat
     have zS:=jj hiI<|jj hi8<|jj hw8<|jj hwE<|jj hwl<|jj hd'<|he
     repeat' (first|(refine aSk fun K hK=>?_)|(refine eM64 ?_)|(refine eC (fun h=>?_) (fun h=>?_)<;>(try simp at h))|(refine hK _ ?_;clear hK)|clear hK)
     all_goals clear zS
     refine ⟨by simp,_,by simp [aRs,aRt,f123];rfl,?_⟩
     try simp only [← hcn]
     simp only [idx]
     exact le_of3
   ·obtain rfl:i=8:=by omega
    simp only [Nat.sub_self,wkF] at hst
    subst hst
    simp only
    repeat' (first|(refine aSk fun K hK=>?_)|(refine eMo ?_)|(refine eC (fun h=>?_) (fun h=>?_)<;>(try simp at h))|(refine hK _ ?_;clear hK)|clear hK)
    refine ⟨by simp,_,by simp [aRs,aRt,f123];rfl,?_⟩
    try simp only [← hcn]
    simp only [idx]
    exact le_of3
set_option maxHeartbeats 2000000 in
set_option maxRecDepth 4000 in
theorem callRwT {l:Nat} {t:Tb} {n f:Nat} {led:List Bool} {c:Nat} (h:rwOK l (t,n,f,led,c)) {fl1:Bool} (M:Nat→AO) (nid:Nat)
  (h0:M 320=.vec 1 1 fl1 (brows led)) (h1:M 352=.box [I c]) :
  caG (rwS l) [.agg [I t.1,.rd 9 (nrw t.2.1),.rd 2 (prw t.2.2)],I n,I l,I f,.sl 320 1 1 0 led.length,.bp 352 0] M nid=some (B (rwR l (t,n,f,led,c)).1,[(320,.vec 1 1 false (brows (rwR l (t,n,f,led,c)).2.1)),(352,.box [I ((c+(rwR l (t,n,f,led,c)).2.2.length:Nat):Int)])]):=by
 have hF:=rwS_at h
 simp only [rwA,rwM,TbV] at hF
 obtain ⟨R,hR⟩:∃ R,R=rwR l (t,n,f,led,c):=⟨_,rfl⟩
 rw [← hR] at hF ⊢
 unfold caG
 have hg:gat M 64 (nmsL [.agg [I t.1,.rd 9 (nrw t.2.1),.rd 2 (prw t.2.2)],I n,I l,I f,.sl 320 1 1 0 led.length,.bp 352 0]) []=[320,352]:=by
  simp [gat,nmsL,AV.nms,AO.nms,h0,h1]
 simp only [hg]
 rw [if_pos ?cg]
 case cg=>simp [CallG,nmsL,AV.nms,AO.nms,Led,curBL,AV.curB,AO.curB,verOf,nDd,h0,h1]
 simp [renL,AV.ren,AO.ren,posN,canO,nmsL,h0,h1,hF,RetG,getL,AV.nms,AO.nms,updN,nmN,shN,verOf,rng,Led]
def wkAR (t:Tb):Bool×WSt:=wk (WR t.2.2) t.2.1 2 ((fnd t.2.1 t.1).getD 0) 0 (List.replicate t.2.1.length false,[])
noncomputable def chkR (t:Tb):Int:=if numB t≠0 then numB t else if (wkAR t).1=true∧(wkAR t).2.2.length=t.2.2.length∧false ∉ (wkAR t).2.1 then 0 else 3
set_option maxHeartbeats 4000000 in
theorem s40 (X:AX) (hX:XOK prog X) (hw:X.W wT) (hra:∀ t:Tb,tbOK t→∀ M n,X.call 119 [TbV t] M n=some (B (rngB t),[])) (hor:∀ t:Tb,tbOK t→∀ M n,X.call 120 [TbV t] M n=some (B (ascB t),[]))
  (htw:∀ t:Tb,tbOK t→∀ M n,X.call 121 [TbV t] M n=some (B (twB t),[])) (hfi:∀ (t:Tb) f,tbOK t→∀ M n,X.call 122 [TbV t,I f] M n=some (I (fstG (fun n=>decide (n.1=f)) t.2.1),[]))
  (hwa:X.call 123=caG (rwS 2)) :
  PSd prog 40 (spF (ι:={x:Tb // tbOK x}) (fun x=>[TbV x.1]) fun x=>rtO [I (chkR x.1)]):=by
 refine psS hX mixed func40 rfl fun ⟨⟨r,ns,ds⟩,ht⟩ w0 G=>⟨by show 1≤47;decide,rfl,?_⟩
 show AW ⟨prog,X,47,w0,.pure G⟩ _ _ _
 have hc:=okc hX 47 w0 G
 have hl1:ns.length≤1000000:=ht.2.1
 have hl2:ds.length≤1000000:=ht.2.2
 have hra':=hra (r,ns,ds) ht
 have hor':=hor (r,ns,ds) ht
 have htw':=htw (r,ns,ds) ht
 have hfi':=hfi (r,ns,ds) r ht
 rw [fstG_fnd] at hfi'
 have hcz:numB (r,ns,ds)≠0→chkR (r,ns,ds)=numB (r,ns,ds):=fun h=>by unfold chkR;rw [if_pos h]
 simp only [TbV] at hra' hor' htw' hfi' ⊢
 cases hR:rngB (r,ns,ds) with
 | false =>
  have e:=numB_2 hR
  rw [hcz (by rw [e];decide),e]
  rw [hR] at hra'
  have zS:=hra'
  refine dM64 ?_
  repeat (intro K hK)
  clear zS
  refine ⟨by simp,?_⟩
  simp [lvI,f40]
  try exact dt
 | true =>
  rw [hR] at hra'
  cases hA:ascB (r,ns,ds) with
  | false =>
   have e:=numB_10 hR hA
   rw [hcz (by rw [e];decide),e]
   rw [hA] at hor'
   have zS:=jj hra'<|hor'
   refine dM64 ?_
   repeat (intro K hK)
   clear zS
   refine ⟨by simp,?_⟩
   simp [lvI,f40]
   try exact dt
  | true =>
   rw [hA] at hor'
   have hAN:=ascN_of hA
   simp only at hAN
   cases hT:twB (r,ns,ds) with
   | true =>
    have e:=numB_7 hR hA hT
    rw [hcz (by rw [e];decide),e]
    rw [hT] at htw'
    have zS:=jj hra'<|jj hor'<|htw'
    refine dM64 ?_
    repeat (intro K hK)
    clear zS
    refine ⟨by simp,?_⟩
    simp [lvI,f40]
    try exact dt
   | false =>
    rw [hT] at htw'
    cases hrt:fnd ns r with
    | none =>
     have e:=numB_6 hR hA hT hrt
     rw [hcz (by rw [e];decide),e]
     rw [hrt] at hfi'
     simp only at hfi'
     have zS:=jj hra'<|jj hor'<|jj htw'<|hfi'
     refine dM64 ?_
     repeat (intro K hK)
     clear zS
     refine ⟨by simp,?_⟩
     simp [lvI,f40]
     try exact dt
    | some rt =>
     have hn0:=numB_0 hR hA hT (show fnd ns r≠none by rw [hrt];simp)
     rw [hrt] at hfi'
     simp only at hfi'
     have hrl:=fnd_lt hrt
     have hr0:¬ (rt:Int)<0:=by omega
     have hfs:=falses ns.length
     have hck:rwOK 2 ((r,ns,ds),rt,0,List.replicate ns.length false,0):=⟨ht,hrl,by simp,by simp,by simp⟩
     have hcall:=@callRwT 2 (r,ns,ds) rt 0 (List.replicate ns.length false) 0 hck false
     have hckR:rwR 2 ((r,ns,ds),rt,0,List.replicate ns.length false,0)=wkAR (r,ns,ds):=by unfold rwR wkAR;simp only;rw [hrt];rfl
     rw [hckR] at hcall
     have hadd:=wk_adds (D:=WR ds) (ns:=ns) (l:=2) rt 0 (List.replicate ns.length false,[])
     rw [show wk (WR ds) ns 2 rt 0 (List.replicate ns.length false,[])=wkAR (r,ns,ds) from hckR] at hadd
     have hfin:chkR (r,ns,ds)=if (wkAR (r,ns,ds)).1=true∧(wkAR (r,ns,ds)).2.2.length=ds.length∧false ∉ (wkAR (r,ns,ds)).2.1 then 0 else 3:=by unfold chkR;rw [if_neg (by rw [hn0];simp)]
     obtain ⟨⟨b,led,hs⟩,hR3⟩:∃ R,R=wkAR (r,ns,ds):=⟨_,rfl⟩
     rw [← hR3] at hcall hadd hfin
     simp only [List.length_replicate,addsB,List.length_nil,Nat.zero_add] at hcall hadd hfin
     rw [← hwa,show ((2:Nat):Int)=(2:Int) from rfl,show ((0:Nat):Int)=(0:Int) from rfl] at hcall
     cases b with
     | false =>
      rw [hfin]
      have zS:=jj hra'<|jj hor'<|jj htw'<|jj hfi'<|jj hfs<|jj hr0<|hcall
      refine dM64 ?_
      repeat (intro K hK)
      clear zS
      refine ⟨by simp,?_⟩
      simp [lvI,f40]
      try exact dt
     | true =>
      rcases dE (hs.length=ds.length) with h2|h2
      ·have hfin2:chkR (r,ns,ds)=if false ∉ led then 0 else 3:=by rw [hfin];simp [h2]
       have zS:=jj hra'<|jj hor'<|jj htw'<|jj hfi'<|jj hfs<|jj hr0<|jj hcall<|h2
       repeat' (first|(refine aSk fun K hK=>?_)|(refine eM64 ?_)|(refine eC (fun h=>?_) (fun h=>?_)<;>(try simp at h))|(refine hK _ ?_;clear hK)|(clear hK;refine hK _ ?_;clear hK))
       all_goals clear zS
       refine aLK (s0:=?lps1) (m0:=?lpm1) (ι:={i:Nat // i≤ns.length∧∀ j,j<i→led.getD j false=true}) [38,39] (fun i=>[(40,I i.1)]) (fun _=>[]) (fun i=>ns.length - i.1) ⟨0,by omega,by omega⟩ ?lhs1 ?lhm1 ?_ ?_
       case lhs1=>first|(simp [kpS];done)|(simp [kpS];rfl)
       case lhm1=>first|rfl|(simp;done)|(simp;rfl)
       ·exact dle
       ·rintro ⟨i,hi,hinv⟩
        simp only
        rcases dE (i<ns.length) with hil|hil
        ·have hilI:(i:Int)<(ns.length:Int):=by omega
         have hill:i<led.length:=by omega
         have hg:=brows_gi hill
         have hgE:=brows_gE hill
         cases hb:led.getD i false with
         | false =>
          rw [hb] at hg hgE
          have e:chkR (r,ns,ds)=3:=by
           rw [hfin2,if_neg]
           intro h
           refine h ?_
           rw [← hb,List.getD_eq_getElem?_getD,List.getElem?_eq_getElem hill]
           exact List.getElem_mem hill
          have zS:=jj hil<|jj hilI<|jj hill<|jj hg<|hgE
          repeat' (first|(refine aSk fun K hK=>?_)|(refine eM64 ?_)|(refine eC (fun h=>?_) (fun h=>?_)<;>(try simp at h))|(refine hK _ ?_;clear hK)|clear hK)
          all_goals clear zS
          refine ⟨by simp,?_⟩
          simp [lvI,f40,e]
          try exact dt
         | true =>
          rw [hb] at hg hgE
          have zS:=jj hil<|jj hilI<|jj hill<|jj hg<|hgE
          repeat' (first|(refine aSk fun K hK=>?_)|(refine eM64 ?_)|(refine eC (fun h=>?_) (fun h=>?_)<;>(try simp at h))|(refine hK _ ?_;clear hK)|clear hK)
          all_goals clear zS
          refine ⟨i+1,?_,⟨by omega,fun j hj=>?_⟩,by omega⟩
          ·exact dle
          ·rcases Nat.lt_succ_iff_lt_or_eq.1 hj with h4|rfl
           ·have:=hinv j h4
            simpa [List.getD_eq_getElem?_getD] using this
           ·simpa [List.getD_eq_getElem?_getD] using hb
        ·obtain rfl:i=ns.length:=by omega
         have e:chkR (r,ns,ds)=0:=by
          rw [hfin2,if_pos]
          intro h
          obtain ⟨j,hj,e⟩:=List.getElem_of_mem h
          have:=hinv j (by omega)
          rw [List.getD_eq_getElem?_getD,List.getElem?_eq_getElem hj,e] at this
          simp at this
         repeat' (first|(refine aSk fun K hK=>?_)|(refine eMo ?_)|(refine eC (fun h=>?_) (fun h=>?_)<;>(try simp at h))|(refine hK _ ?_;clear hK)|clear hK)
         refine ⟨by simp,?_⟩
         simp [lvI,f40,e]
         try exact dt
      ·rw [hfin,if_neg (fun h=>h2 h.2.1)]
       have h2I:¬ (hs.length:Int)=(ds.length:Int):=by omega
       have zS:=jj hra'<|jj hor'<|jj htw'<|jj hfi'<|jj hfs<|jj hr0<|jj hcall<|jj h2<|h2I
       refine dM64 ?_
       repeat (intro K hK)
       clear zS
       refine ⟨by simp,?_⟩
       simp [lvI,f40]
       try exact dt
theorem frP_WD {a b:Int→Bool} {M:Mm} {root:Int}:∀ {d q:Nat},frP (WD a) M root d q=frP (WD b) M root d q
 | 0,q=>rfl
 | d+1,q=>by simp only [frP];rw [frP_WD (a:=a) (b:=b)];rfl
theorem VM_WD {a b:Int→Bool} {M:Mm} {root:Int} (h:VM (WD a) M root):VM (WD b) M root where
 nd:=fun d q hx f hf=>by rw [frP_WD (b:=a)] at hf;exact h.nd d q hx f hf
 inj:=fun d q d' q' hx hy f hf hf'=>by rw [frP_WD (b:=a)] at hf hf';exact h.inj d q d' q' hx hy f hf hf'
 all:=fun f ws hf=>by
  obtain ⟨d,q,hx,k⟩:=h.all f ws hf
  exact ⟨d,q,hx,by rw [frP_WD (b:=a)];exact k⟩
def hugB (M:Mm) (root:Int) (g:Nat):Bool:=match frP WA M root 1 (g/8) with
 | some f=>hugW (wM M f (g%8))
 | none=>false
def hugM (M:Mm) (root:Int):List Int:=((List.range 64).filter (hugB M root)).map fun g:Nat=>(g:Int)
theorem hugM_asc {M:Mm} {root:Int}:(hugM M root).Pairwise (·<·):=by
 unfold hugM
 rw [List.pairwise_map]
 refine List.Pairwise.filter _ ?_
 exact (List.pairwise_lt_range (n:=64)).imp fun h=>by omega
theorem mem_hugM {M:Mm} {root:Int} {g:Int}:g∈hugM M root↔∃ k:Nat,k<64∧g=k∧hugB M root k=true:=by
 unfold hugM
 simp only [List.mem_map,List.mem_filter,List.mem_range]
 constructor
 ·rintro ⟨k,⟨h1,h2⟩,rfl⟩;exact ⟨k,h1,rfl,h2⟩
 ·rintro ⟨k,h1,rfl,h2⟩;exact ⟨k,⟨h1,h2⟩,rfl⟩
theorem hugB_iff {M:Mm} {root:Int} {g:Nat}:hugB M root g=true↔∃ f,frP WA M root 1 (g/8)=some f∧hugW (wM M f (g%8))=true:=by
 unfold hugB
 cases frP WA M root 1 (g/8)<;>simp
theorem asc_le:∀ {l m:List Int},l.Pairwise (·<·)→(∀ x∈l,x∈m)→l.length≤m.length
 | [],_,_,_=>by simp
 | x::l,m,h,hs=>by
  rw [List.pairwise_cons] at h
  have h1:=asc_le (l:=l) (m:=m.erase x) h.2 fun y hy=>by
   have:=h.1 y hy
   exact (List.mem_erase_of_ne (by omega)).2 (hs y (by simp [hy]))
  rw [List.length_erase_of_mem (hs x (by simp))] at h1
  have:0<m.length:=List.length_pos_of_mem (hs x (by simp))
  simp only [List.length_cons]
  omega
theorem asc_eq:∀ {l m:List Int},l.Pairwise (·<·)→m.Pairwise (·<·)→(∀ x∈l,x∈m)→l.length=m.length→l=m
 | [],[],_,_,_,_=>rfl
 | [],_::_,_,_,_,h=>by simp at h
 | _::_,[],_,_,_,h=>by simp at h
 | x::l,y::m,hl,hm,hs,hn=>by
  have hl0:=hl
  rw [List.pairwise_cons] at hl hm
  have hx:=hs x (by simp)
  have e:x=y:=by
   rcases List.mem_cons.1 hx with e|hxm
   ·exact e
   ·exfalso
    have hxy:=hm.1 x hxm
    have:=asc_le (l:=x::l) (m:=m) hl0 fun z hz=>by
     have hz2:=hs z hz
     rcases List.mem_cons.1 hz2 with e|h
     ·rcases List.mem_cons.1 hz with e2|h2
      ·omega
      ·have:=hl.1 z h2;omega
     ·exact h
    simp only [List.length_cons] at this hn
    omega
  subst e
  congr 1
  refine asc_eq hl.2 hm.2 (fun z hz=>?_) (by simpa using hn)
  rcases List.mem_cons.1 (hs z (by simp [hz])) with e|h
  ·have:=hl.1 z hz;omega
  ·exact h
structure NumOK (t:Tb):Prop where
 fr:∀ n∈t.2.1,frmN n.1
 df:∀ d∈t.2.2,frmN d.2∧0≤d.1∧d.1<64
 asc:ascN t.2.1
 dasc:t.2.2.Pairwise fun a b=>a.1<b.1
 apart:∀ d∈t.2.2,∀ n∈t.2.1,n.1≠d.2
 once:t.2.2.Pairwise fun a b=>a.2≠b.2
 root:∃ n∈t.2.1,n.1=t.1
theorem fnd_some_of {ns:List Nd} {f:Int} (h:∃ n∈ns,n.1=f):∃ r,fnd ns f=some r:=by
 obtain ⟨n,hn,e⟩:=h
 unfold fnd
 have:ns.findIdx (fun n=>decide (n.1=f))<ns.length:=List.findIdx_lt_length_of_exists ⟨n,hn,by simpa using e⟩
 rw [if_pos this]
 exact ⟨_,rfl⟩
theorem numOK_iff {t:Tb}:numB t=0↔NumOK t:=by
 constructor
 ·intro h
  obtain ⟨hR,hA,hT,r,hr⟩:=numB_zero h
  obtain ⟨r1,r2⟩:=rngB_iff.1 hR
  obtain ⟨a1,a2⟩:=ascB_iff.1 hA
  have hno:∀ i,i<t.2.2.length→¬ twN t i:=fun i hi h=>by
   have:=twB_iff.2 ⟨i,hi,h⟩
   rw [hT] at this;simp at this
  refine ⟨fun n hn=>?_,fun d hd=>?_,ascN_of hA,?_,fun d hd n hn e=>?_,?_,?_⟩
  ·obtain ⟨i,hi,rfl⟩:=List.getElem_of_mem hn
   rw [← gn_eq hi];exact r1 i hi
  ·obtain ⟨i,hi,rfl⟩:=List.getElem_of_mem hd
   rw [← gp_eq hi];exact r2 i hi
  ·refine List.pairwise_iff_getElem.2 fun i j hi hj hij=>?_
   have key:∀ d,i+d+1<t.2.2.length→(gp t.2.2 i).1<(gp t.2.2 (i+d+1)).1:=by
    intro d
    induction d with
    | zero=>intro h;exact a2 i h
    | succ d ih=>intro h;exact Int.lt_trans (ih (by omega)) (a2 (i+d+1) h)
   have:=key (j - i - 1) (by omega)
   rw [show i+(j - i - 1)+1=j by omega,gp_eq hi,gp_eq hj] at this
   exact this
  ·obtain ⟨i,hi,rfl⟩:=List.getElem_of_mem hd
   obtain ⟨j,hj,rfl⟩:=List.getElem_of_mem hn
   exact hno i hi (.inl ⟨j,hj,by rw [gn_eq hj,gp_eq hi];exact e⟩)
  ·refine List.pairwise_iff_getElem.2 fun i j hi hj hij e=>?_
   exact hno j hj (.inr ⟨i,hij,by rw [gp_eq hi,gp_eq hj];exact e⟩)
  ·exact ⟨_,gn_mem (fnd_lt hr),fFr hr⟩
 ·intro h
  have hR:rngB t=true:=rngB_iff.2 ⟨fun j hj=>h.fr _ (gn_mem hj),fun j hj=>h.df _ (gp_mem hj)⟩
  have hA:ascB t=true:=ascB_iff.2 ⟨fun j hj=>asc_lt h.asc (by omega) hj,fun j hj=>by
   have:=List.pairwise_iff_getElem.1 h.dasc j (j+1) (by omega) hj (by omega)
   rw [gp_eq (by omega),gp_eq hj];exact this⟩
  have hT:twB t=false:=twB_no fun i hi=>by
   rintro (⟨j,hj,e⟩|⟨j,hj,e⟩)
   ·exact h.apart _ (gp_mem hi) _ (gn_mem hj) e
   ·have:=List.pairwise_iff_getElem.1 h.once j i (by omega) hi hj
    rw [gp_eq (by omega),gp_eq hi] at e
    exact this e
  obtain ⟨r,hr⟩:=fnd_some_of h.root
  exact numB_0 hR hA hT (by rw [hr];simp)
theorem nds8_of {t:Tb} (ht:tbOK t):nds8 t.2.1:=fun n hn=>(ht.1 n hn).1
theorem markL_all {n:Nat} {l:List Nat} (hl:∀ i∈l,i<n):false ∉ markL (List.replicate n false) l↔∀ i,i<n→i∈l:=by
 have hg:∀ j,(markL (List.replicate n false) l).getD j false=decide (j∈l):=fun j=>by
  rw [markL_getD (by simpa using hl)]
  have:(List.replicate n false).getD j false=false:=by
   rw [List.getD_eq_getElem?_getD,List.getElem?_replicate];split<;>rfl
  rw [this,Bool.or_false]
 constructor
 ·intro h i hi
  have h1:=hg i
  cases hd:decide (i∈l) with
  | true=>simpa using hd
  | false =>
   exfalso
   rw [hd] at h1
   have hlen:i<(markL (List.replicate n false) l).length:=by simp [hi]
   rw [List.getD_eq_getElem?_getD,List.getElem?_eq_getElem hlen] at h1
   simp only [Option.getD_some] at h1
   have h3:=List.getElem_mem hlen
   rw [h1] at h3
   exact h h3
 ·intro h hm
  obtain ⟨j,hj,e⟩:=List.getElem_of_mem hm
  have h1:=hg j
  rw [List.getD_eq_getElem?_getD,List.getElem?_eq_getElem hj] at h1
  simp only [Option.getD_some] at h1
  rw [e] at h1
  have:=h j (by simpa using hj)
  simp [this] at h1
theorem wk_root {adm:Int→Bool} {t:Tb} (ht:tbOK t) {r:Nat} (hr:fnd t.2.1 t.1=some r) (ha:ascN t.2.1) :
  ((wk (WD adm) t.2.1 2 r 0 (List.replicate t.2.1.length false,[])).1=true∧false ∉ (wk (WD adm) t.2.1 2 r 0 (List.replicate t.2.1.length false,[])).2.1 ↔
   (VM WA (Mof t.2.1) t.1∧∀ g∈hugM (Mof t.2.1) t.1,adm g=true)) ∧
  ((wk (WD adm) t.2.1 2 r 0 (List.replicate t.2.1.length false,[])).1=true→(wk (WD adm) t.2.1 2 r 0 (List.replicate t.2.1.length false,[])).2.2=hugM (Mof t.2.1) t.1):=by
 have hrl:=fnd_lt hr
 have h1:=wk_ok (D:=WD adm) (ns:=t.2.1) (fun w h=>(WD_ok adm).flat w h) (l:=2) r 0 (List.replicate t.2.1.length false,[]) hrl (by simp)
 have hlt:∀ i∈ids (WD adm) t.2.1 2 r,i<t.2.1.length:=ids_lt hrl
 have hgd:∀ i,(List.replicate t.2.1.length false).getD i false=false:=fun i=>by
  rw [List.getD_eq_getElem?_getD,List.getElem?_replicate];split<;>rfl
 have h2:=valid_iff (D:=WD adm) (WD_ok adm) ha (nds8_of ht) hr
 have hadm:(VM (WD adm) (Mof t.2.1) t.1∧∀ q i f,q<8→i<8→frP (WD adm) (Mof t.2.1) t.1 1 q=some f→(WD adm).hug (wM (Mof t.2.1) f i)=true→(WD adm).adm ((q*8+i:Nat):Int)=true)↔(VM WA (Mof t.2.1) t.1∧∀ g∈hugM (Mof t.2.1) t.1,adm g=true):=by
  constructor
  ·rintro ⟨a,b⟩
   refine ⟨VM_WD a,fun g hg=>?_⟩
   obtain ⟨k,hk,rfl,hB⟩:=mem_hugM.1 hg
   obtain ⟨f,hf,hw⟩:=hugB_iff.1 hB
   have:=b (k/8) (k%8) f (by omega) (by omega) (by rw [frP_WD (b:=fun _=>true)];exact hf) hw
   rw [show k/8*8+k%8=k by omega] at this
   exact this
  ·rintro ⟨a,b⟩
   refine ⟨VM_WD a,fun q i f hq hi hf hw=>?_⟩
   refine b _ (mem_hugM.2 ⟨q*8+i,by omega,rfl,hugB_iff.2 ⟨f,?_,?_⟩⟩)
   ·rw [show (q*8+i)/8=q by omega,frP_WD (b:=adm)];exact hf
   ·rw [show (q*8+i)%8=i by omega];exact hw
 obtain ⟨R,hR⟩:∃ R,R=wk (WD adm) t.2.1 2 r 0 (List.replicate t.2.1.length false,[]):=⟨_,rfl⟩
 rw [← hR] at h1 ⊢
 refine ⟨?_,fun hb=>?_⟩
 ·rw [← hadm,← h2]
  constructor
  ·rintro ⟨a,b⟩
   obtain ⟨g1,g2,g3⟩:=h1.1.1 a
   rw [h1.2 a] at b
   simp only at b
   exact ⟨g1,g2,(markL_all hlt).1 b⟩
  ·rintro ⟨g1,g2,g3⟩
   have a:=h1.1.2 ⟨g1,g2,fun i _=>hgd i⟩
   refine ⟨a,?_⟩
   rw [h1.2 a]
   exact (markL_all hlt).2 g3
 ·rw [h1.2 hb]
  simp only [List.nil_append]
  obtain ⟨g1,g2,g3⟩:=h1.1.1 hb
  rw [hugs_pos (WD_ok adm) g1]
  unfold hugL hugM
  congr 1
  refine List.filter_congr fun g hg=>?_
  have:=hugP_iff (WD_ok adm) ha (nds8_of ht) hr g1 (List.mem_range.1 hg)
  rw [Bool.eq_iff_iff,this,hugB_iff]
  rw [frP_WD (b:=fun _=>true)]
  exact Iff.rfl
structure Vt (t:Tb):Prop where
 num:NumOK t
 vm:VM WA (Mof t.2.1) t.1
 dep:t.2.2.map (·.1)=hugM (Mof t.2.1) t.1
theorem chk_iff {t:Tb} (ht:tbOK t):chk t=0↔Vt t:=by
 unfold chk
 by_cases hn:numB t=0
 ·obtain ⟨hR,hA,hT,r,hr⟩:=numB_zero hn
  have h1:=wk_root (adm:=fun _=>true) ht hr (ascN_of hA)
  rw [if_neg (by simp [hn])]
  have hw:wkA t=wk WA t.2.1 2 r 0 (List.replicate t.2.1.length false,[]):=by unfold wkA;rw [hr];rfl
  rw [hw]
  constructor
  ·intro h
   split at h
   ·rename_i hh
    have:=h1.1.1 ⟨hh.1,hh.2.1⟩
    exact ⟨numOK_iff.1 hn,this.1,by rw [← hh.2.2];exact h1.2 hh.1⟩
   ·simp at h
  ·intro h
   have:=h1.1.2 ⟨h.vm,fun _ _=>rfl⟩
   rw [if_pos ⟨this.1,this.2,by rw [h1.2 this.1];exact h.dep.symm⟩]
 ·rw [if_pos hn]
  exact ⟨fun h=>absurd h hn,fun h=>absurd (numOK_iff.2 h.num) hn⟩
theorem chkR_eq {t:Tb} (ht:tbOK t):chkR t=chk t:=by
 unfold chkR chk
 by_cases hn:numB t=0
 ·obtain ⟨hR,hA,hT,r,hr⟩:=numB_zero hn
  have hN:=numOK_iff.1 hn
  have h1:=wk_root (adm:=fun _=>true) ht hr (ascN_of hA)
  have h2:=wk_root (adm:=admR t.2.2) ht hr (ascN_of hA)
  have hn2:¬ numB t≠0:=by simp [hn]
  rw [if_neg hn2,if_neg hn2]
  have hw:wkA t=wk WA t.2.1 2 r 0 (List.replicate t.2.1.length false,[]):=by unfold wkA;rw [hr];rfl
  have hw2:wkAR t=wk (WR t.2.2) t.2.1 2 r 0 (List.replicate t.2.1.length false,[]):=by unfold wkAR;rw [hr];rfl
  rw [hw,hw2]
  have hmem:∀ g:Int,admR t.2.2 g=true↔g∈t.2.2.map (·.1):=fun g=>by
   unfold admR
   rw [decide_eq_true_iff,fstG_pos]
   constructor
   ·rintro ⟨j,hj,e⟩
    exact List.mem_map.2 ⟨_,List.getElem_mem hj,by simpa using e⟩
   ·intro h
    obtain ⟨d,hd,e⟩:=List.mem_map.1 h
    obtain ⟨j,hj,rfl⟩:=List.getElem_of_mem hd
    exact ⟨j,hj,by simpa using e⟩
  have hda:(t.2.2.map (·.1)).Pairwise (·<·):=by rw [List.pairwise_map];exact hN.dasc
  refine ite_congr (propext ?_) (fun _=>rfl) fun _=>rfl
  constructor
  ·rintro ⟨a,b,c⟩
   obtain ⟨v,ad⟩:=h2.1.1 ⟨a,c⟩
   have:=h1.1.2 ⟨v,fun _ _=>rfl⟩
   refine ⟨this.1,this.2,?_⟩
   rw [h1.2 this.1]
   rw [h2.2 a] at b
   exact asc_eq hugM_asc hda (fun g hg=>(hmem g).1 (ad g hg)) (by simpa using b)
  ·rintro ⟨a,b,c⟩
   obtain ⟨v,_⟩:=h1.1.1 ⟨a,b⟩
   rw [h1.2 a] at c
   have:=h2.1.2 ⟨v,fun g hg=>(hmem g).2 (by rw [← c];exact hg)⟩
   refine ⟨this.1,?_,this.2⟩
   rw [h2.2 this.1,c]
   simp
 ·rw [if_pos hn,if_pos hn]
set_option maxHeartbeats 4000000
@[simp] theorem tyStps:Types prog 192=some ⟨.slice 173,1,24,[.slice none 0 0]⟩:=by kernel_rfl
def dgt (p l:Nat):Nat:=p/8^l%8
theorem dgt_lt (p l:Nat):dgt p l<8:=by unfold dgt;omega
theorem s139 (X:AX) (hX:XOK prog X) (hw:X.W wT):PSd prog 139 (spF (ι:={x:Nat×Nat // x.1<512∧x.2≤2}) (fun x=>[I x.1.1,I x.1.2]) fun x=>rtO [I (dgt x.1.1 x.1.2)]):=by
 refine psS hX mixed func139 rfl fun ⟨⟨n,l⟩,hn,hl⟩ w0 G=>⟨by show 2≤13;decide,rfl,?_⟩
 show AW ⟨prog,X,13,w0,.pure G⟩ _ _ _
 have hc:=okc hX 13 w0 G
 simp only at hn hl ⊢
 have m1:(n:Int).tmod 8=((n%8:Nat):Int):=by rw [Int.tmod_eq_emod_of_nonneg (by omega)];omega
 have m2:((n:Int)/8).tmod 8=((n/8%8:Nat):Int):=by rw [Int.tmod_eq_emod_of_nonneg (by omega)];omega
 have m3:((n:Int)/8/8).tmod 8=((n/64%8:Nat):Int):=by rw [Int.tmod_eq_emod_of_nonneg (by omega)];omega
 have w8:IntKind.i64.wrap ((n:Int)/8)=(n:Int)/8:=w64_ (by omega)
 have w64:IntKind.i64.wrap ((n:Int)/8/8)=(n:Int)/8/8:=w64_ (by omega)
 have t8:((n:Int)/8).tdiv 8=(n:Int)/8/8:=Int.tdiv_eq_ediv_of_nonneg (by omega)
 rcases (by omega:l=0∨l=1∨l=2) with rfl|rfl|rfl
 ·have e:dgt n 0=n%8:=by unfold dgt;simp
  have zS:=jj m1<|jj m2<|jj m3<|jj w8<|jj w64<|t8
  repeat' (first|(refine aSk fun K hK=>?_)|(refine eM64 ?_)|(refine eC (fun h=>?_) (fun h=>?_)<;>(try simp at h))|(refine hK _ ?_;clear hK)|(clear hK;refine hK _ ?_;clear hK))
  all_goals clear zS
  refine aRs_ 1 (aRd ?_)
  have zS:=jj m1<|jj m2<|jj m3<|jj w8<|jj w64<|t8
  repeat' (first|(refine aSk fun K hK=>?_)|(refine eM64 ?_)|(refine eC (fun h=>?_) (fun h=>?_)<;>(try simp at h))|(refine hK _ ?_;clear hK)|clear hK)
  all_goals clear zS
  refine ⟨by simp,?_⟩
  simp [lvI,f139,e]
  try exact dt
 ·have e:dgt n 1=n/8%8:=by unfold dgt;simp
  have zS:=jj m1<|jj m2<|jj m3<|jj w8<|jj w64<|t8
  repeat' (first|(refine aSk fun K hK=>?_)|(refine eM64 ?_)|(refine eC (fun h=>?_) (fun h=>?_)<;>(try simp at h))|(refine hK _ ?_;clear hK)|(clear hK;refine hK _ ?_;clear hK))
  all_goals clear zS
  refine aRs_ 2 (aRd ?_)
  have zS:=jj m1<|jj m2<|jj m3<|jj w8<|jj w64<|t8
  repeat' (first|(refine aSk fun K hK=>?_)|(refine eM64 ?_)|(refine eC (fun h=>?_) (fun h=>?_)<;>(try simp at h))|(refine hK _ ?_;clear hK)|clear hK)
  all_goals clear zS
  refine ⟨by simp,?_⟩
  simp [lvI,f139,e]
  try exact dt
 ·have e:dgt n 2=n/64%8:=by unfold dgt;simp
  have zS:=jj m1<|jj m2<|jj m3<|jj w8<|jj w64<|t8
  repeat' (first|(refine aSk fun K hK=>?_)|(refine eM64 ?_)|(refine eC (fun h=>?_) (fun h=>?_)<;>(try simp at h))|(refine hK _ ?_;clear hK)|(clear hK;refine hK _ ?_;clear hK))
  all_goals clear zS
  refine aRs_ 3 (aRd ?_)
  have zS:=jj m1<|jj m2<|jj m3<|jj w8<|jj w64<|t8
  repeat' (first|(refine aSk fun K hK=>?_)|(refine eM64 ?_)|(refine eC (fun h=>?_) (fun h=>?_)<;>(try simp at h))|(refine hK _ ?_;clear hK)|clear hK)
  all_goals clear zS
  refine ⟨by simp,?_⟩
  simp [lvI,f139,e]
  try exact dt
abbrev Stp:=Nat×Nat×Nat
section
variable (ns:NdL) (p:Nat)
def pth:Nat→Nat→List Stp
 | 0,n=>[(n,0,wd ns n (dgt p 0))]
 | l+1,n=>(n,l+1,wd ns n (dgt p (l+1)))::(match kid WA ns (wd ns n (dgt p (l+1))) with
  | some nx=>pth l nx
  | none=>[])
def lst:Nat→Nat→Stp
 | 0,n=>(n,0,wd ns n (dgt p 0))
 | l+1,n=>match kid WA ns (wd ns n (dgt p (l+1))) with
  | some nx=>lst l nx
  | none=>(n,l+1,wd ns n (dgt p (l+1)))
def pok:Nat→Nat→Prop
 | 0,n=>tabW (wd ns n (dgt p 0))=none
 | l+1,n=>∀ g,tabW (wd ns n (dgt p (l+1)))=some g→∃ nx,fnd ns g=some nx∧pok l nx
end
theorem pth_lst {ns:NdL} {p:Nat}:∀ {l n:Nat},∃ i,pth ns p l n=i++[lst ns p l n]
 | 0,n=>⟨[],rfl⟩
 | l+1,n=>by
  simp only [pth,lst]
  cases kid WA ns (wd ns n (dgt p (l+1))) with
  | none=>exact ⟨[],rfl⟩
  | some nx =>
   obtain ⟨i,hi⟩:=pth_lst (ns:=ns) (p:=p) (l:=l) (n:=nx)
   simp only
   rw [hi]
   exact ⟨(n,l+1,wd ns n (dgt p (l+1)))::i,rfl⟩
theorem pth_len {ns:NdL} {p:Nat}:∀ {l n:Nat},(pth ns p l n).length≤l+1
 | 0,n=>by simp [pth]
 | l+1,n=>by
  simp only [pth]
  cases kid WA ns (wd ns n (dgt p (l+1))) with
  | none=>simp
  | some nx =>
   have:=pth_len (ns:=ns) (p:=p) (l:=l) (n:=nx)
   simp;omega
theorem lst_lt {ns:NdL} {p:Nat}:∀ {l n:Nat},n<ns.length→(lst ns p l n).1<ns.length∧(lst ns p l n).2.1≤l
 | 0,n,h=>⟨h,Nat.le_refl _⟩
 | l+1,n,h=>by
  simp only [lst]
  cases hk:kid WA ns (wd ns n (dgt p (l+1))) with
  | none=>exact ⟨h,Nat.le_refl _⟩
  | some nx =>
   have:=lst_lt (ns:=ns) (p:=p) (l:=l) (kid_lt hk)
   exact ⟨this.1,by simp only;omega⟩
theorem lst_word {ns:NdL} {p:Nat}:∀ {l n:Nat},(lst ns p l n).2.2=wd ns (lst ns p l n).1 (dgt p (lst ns p l n).2.1)
 | 0,n=>rfl
 | l+1,n=>by
  simp only [lst]
  cases hk:kid WA ns (wd ns n (dgt p (l+1))) with
  | none=>rfl
  | some nx=>exact lst_word
def srow (s:Stp):List AV:=[I s.1,I s.2.1,U s.2.2]
def srows (l:List Stp):List (List AV):=l.map srow
@[simp] theorem srows_length (l:List Stp):(srows l).length=l.length:=by simp [srows]
def stV (s:Stp):AV:=.agg (srow s)
def rtN (t:Tb):Nat:=(fnd t.2.1 t.1).getD 0
def ptO (t:Tb) (p:Nat):Prop:=tbOK t∧ascN t.2.1∧p<512∧(∃ r,fnd t.2.1 t.1=some r)∧pok t.2.1 p 2 (rtN t)
def ptL (t:Tb) (p:Nat):List Stp:=pth t.2.1 p 2 (rtN t)
def lsT (t:Tb) (p:Nat):Stp:=lst t.2.1 p 2 (rtN t)
theorem decR_tab {w:Nat}:tabW w=none↔(decR w).1.1≠4:=by
 unfold tabW
 split<;>simp [*]
theorem s137 (X:AX) (hX:XOK prog X) (hw:X.W wT) (hix:∀ t:Tb,tbOK t→∀ M n,X.call 115 [TbV t] M n=some (.mp n 1,[(n,.map 1 1 (idxE t.2.1 t.2.1.length))]))
  (hdg:∀ (p l:Nat),p<512→l≤2→∀ M n,X.call 139 [I p,I l] M n=some (I (dgt p l),[])) (hen:∀ w:Nat,w<2^64→∀ M n,X.call 113 [U w] M n=some (EnV (decR w).1,[])) :
  PSd prog 137 (spF (ι:={x:Tb×Nat // ptO x.1 x.2}) (fun x=>[TbV x.1.1,I x.1.2]) fun x=>rtO [.ow 3 (srows (ptL x.1.1 x.1.2))]):=by
 refine psS hX mixed func137 rfl fun ⟨⟨⟨r,ns,ds⟩,p⟩,ht,ha,hp,⟨rt,hrt⟩,hpo⟩ w0 G=>⟨by show 2≤46;decide,rfl,?_⟩
 show AW ⟨prog,X,46,w0,.pure G⟩ _ _ _
 have hc:=okc hX 46 w0 G
 simp only at ha hp hrt hpo
 have hix':=hix (r,ns,ds) ht
 have hget:=idxE_get ha r
 rw [hrt] at hget
 try simp only [Option.map_some] at hget
 have hrl:=fnd_lt hrt
 have hl1:ns.length≤1000000:=ht.2.1
 have hrn:rtN (r,ns,ds)=rt:=by unfold rtN;simp only;rw [hrt];rfl
 rw [hrn] at hpo
 obtain ⟨F,hF⟩:∃ F,F=ptL (r,ns,ds) p:=⟨_,rfl⟩
 simp only [TbV,← hF] at hix' ⊢
 unfold ptL at hF
 rw [hrn] at hF
 simp only at hF
 have zS:=jj hix'<|hget
 repeat' (first|(refine aSk fun K hK=>?_)|(refine eM64 ?_)|(refine eC (fun h=>?_) (fun h=>?_)<;>(try simp at h))|(refine hK _ ?_;clear hK)|(clear hK;refine hK _ ?_;clear hK))
 all_goals clear zS
 refine aw_weaken (le_nilslot (t:=7) (sz:=3) (by simp)) ?_
 refine aLK (s0:=?lps1) (m0:=?lpm1) (ι:={s:Nat×Nat×List Stp // s.1≤2∧s.2.1<ns.length∧pok ns p s.1 s.2.1∧s.2.2++pth ns p s.1 s.2.1=F}) [1,2,5] (fun s=>[(8,I s.1.1),(6,I s.1.2.1),(7,.sl 192 1 3 0 s.1.2.2.length)]) (fun s=>[(192,.vec 1 3 false (srows s.1.2.2))]) (fun s=>s.1.1) ⟨(2,rt,[]),by simp,hrl,hpo,hF.symm⟩ ?lhs1 ?lhm1 ?_ ?_
 case lhs1=>first|(simp [kpS];done)|(simp [kpS];rfl)
 case lhm1=>first|rfl|(simp;done)|(simp;rfl)
 ·exact le_of2 (by simp) (by simp [AVle,AV.under,AV.underL,srows]<;>omega) (by simp [AOle,AO.under,AV.underL,AV.under,srows]<;>omega)
 ·rintro ⟨⟨l,n,acc⟩,hl,hn,hpk,hacc⟩
  simp only at hl hn hpk hacc ⊢
  have hnN:(n:Int)<(ns.length:Int):=by omega
  have hdl:=dgt_lt p l
  have hdI:(dgt p l:Int)<8:=by omega
  have hgn:=nrG hn
  have hgnE:=nrE hn
  have h8:(gn ns n).2.length=8:=(ht.1 _ (gn_mem hn)).1
  have hw8:=wcs_gi (l:=(gn ns n).2) (i:=dgt p l) (by omega)
  have hwE:=wcs_gE (l:=(gn ns n).2) (i:=dgt p l) (by omega)
  have hw64:=wd_lt ht (n:=n) (i:=dgt p l) hn
  have hdg':=hdg p l hp hl
  have hlen:(acc++pth ns p l n).length≤3+acc.length:=by rw [List.length_append];have:=pth_len (ns:=ns) (p:=p) (l:=l) (n:=n);omega
  obtain ⟨w,hwd⟩:∃ w,w=wd ns n (dgt p l):=⟨_,rfl⟩
  have hwg:(gn ns n).2.getD (dgt p l) 0=w:=hwd.symm
  rw [hwg] at hw8 hwE
  simp only at hw64
  rw [← hwd] at hw64
  have hwl:(wcs (gn ns n).2).length=8:=by simp [h8]
  obtain ⟨⟨fr,ws⟩,hm⟩:∃ m,m=gn ns n:=⟨_,rfl⟩
  rw [← hm] at hgn hgnE hw8 hwE hwl
  simp only at hgn hgnE hw8 hwE hwl
  obtain ⟨cs,hcs⟩:∃ cs,cs=wcs ws:=⟨_,rfl⟩
  rw [← hcs] at hgn hgnE hw8 hwE hwl
  clear hcs hm h8 hwg
  have hen':=hen w hw64
  have hst:∀ (x:List Stp),srows acc++[[I n,I l,U w]]=srows (acc++[(n,l,w)]):=fun _=>by simp [srows,srow]
  have hst:=hst []
  have htk:List.take acc.length (srows acc)=srows acc:=tkL (by simp)
  have hal:acc.length≤1000:=by
   have h1:F.length≤3:=by rw [hF];exact pth_len
   rw [← hacc,List.length_append] at h1;omega
  have hdR:tabW w=if (decR w).1.1=4 then some (decR w).1.2.1 else none:=rfl
  obtain ⟨⟨⟨k,f,d,a,x,h⟩,e⟩,hE⟩:∃ r,r=decR w:=⟨_,rfl⟩
  rw [← hE] at hen' hdR
  clear hE
  simp only [EnV,U] at hen' hw8 hwE hst hdR
  obtain ⟨dg,hdg0⟩:∃ dg,dg=dgt p l:=⟨_,rfl⟩
  rw [← hdg0] at hdl hdI hw8 hwE hdg' hwd
  rcases dE (k=4) with hk|hk
  ·subst hk
   simp only [if_true] at hdR
   cases l with
   | zero =>
    simp only [pok] at hpk
    rw [← hdg0,← hwd,hdR] at hpk
    simp at hpk
   | succ l =>
    simp only [pok,pth] at hpk hacc
    rw [← hdg0,← hwd] at hpk hacc
    obtain ⟨nx,hfn,hpk2⟩:=hpk f hdR
    have hkid:kid WA ns w=some nx:=kid_some.2 ⟨f,hdR,hfn⟩
    rw [hkid] at hacc
    simp only at hacc
    have hg2:=idxE_get ha f
    rw [hfn] at hg2
    try simp only [Option.map_some] at hg2
    have hnx:=fnd_lt hfn
    have hlI:((l+1:Nat):Int)=(l:Int)+1:=by omega
    rw [hlI] at hdg' hst ⊢
    have hl1I:((l:Int)+1 - 1)=(l:Int):=by omega
    have zS:=jj hdg'<|jj hn<|jj hnN<|jj hgn<|jj hgnE<|jj hw8<|jj hwE<|jj hwl<|jj hdl<|jj hdI<|jj hen'<|jj hg2<|jj htk<|jj hst<|jj hal<|hl1I
    repeat' (first|(refine aSk fun K hK=>?_)|(refine eM64 ?_)|(refine eC (fun h=>?_) (fun h=>?_)<;>(try simp at h))|(refine hK _ ?_;clear hK)|clear hK)
    all_goals clear zS
    refine ⟨l,nx,acc++[(n,l+1,w)],?_,⟨by omega,hnx,hpk2,by simpa using hacc⟩,by omega⟩
    simp only [List.length_append,List.length_singleton]
    refine le_turn (s1:=?tus2) (m1:=?tum2) [] [1,2,5,6,7,8] [0,48,192] ?tua2 ?tub2 ?tuc2 ?tud2 ?tue2 ?tuf2 ?tug2
    case tua2=>first|(simp [kpS];done)|(simp [kpS];rfl)
    case tub2=>first|(simp;done)|(simp;rfl)
    case tuc2=>simp
    case tud2=>simp
    case tue2=>simp
    case tuf2=>simp
    case tug2 =>
     simp [swp,vr]
     exact dle
  ·have hkid:kid WA ns w=none:=by unfold kid;show (tabW w).bind _=none;rw [hdR,if_neg hk];rfl
   have hfin:F=acc++[(n,l,w)]:=by
    cases l with
    | zero=>simp only [pth] at hacc;rw [← hdg0,← hwd] at hacc;exact hacc.symm
    | succ l=>simp only [pth] at hacc;rw [← hdg0,← hwd,hkid] at hacc;exact hacc.symm
   rw [hfin]
   have zS:=jj hdg'<|jj hn<|jj hnN<|jj hgn<|jj hgnE<|jj hw8<|jj hwE<|jj hwl<|jj hdl<|jj hdI<|jj hen'<|jj hk<|jj htk<|jj hst<|hal
   repeat' (first|(refine aSk fun K hK=>?_)|(refine eM64 ?_)|(refine eC (fun h=>?_) (fun h=>?_)<;>(try simp at h))|(refine hK _ ?_;clear hK)|clear hK)
   all_goals clear zS
   have htk2:List.take (acc.length+1) (srows (acc++[(n,l,w)]))=srows (acc++[(n,l,w)]):=tkL (by simp)
   refine ⟨by simp,?_⟩
   simp [lvI,f137,htk2]
   try exact dt
end Go.AM
namespace Go.AM
open Go Go.Proofs Tryz
theorem srows_last {ns:NdL} {p l n:Nat}:(srows (pth ns p l n))[(pth ns p l n).length - 1]?=some (srow (lst ns p l n)):=by
 obtain ⟨i,hi⟩:=pth_lst (ns:=ns) (p:=p) (l:=l) (n:=n)
 rw [hi]
 simp [srows]
theorem pth_pos {ns:NdL} {p l n:Nat}:1≤(pth ns p l n).length:=by
 obtain ⟨i,hi⟩:=pth_lst (ns:=ns) (p:=p) (l:=l) (n:=n)
 rw [hi];simp
set_option maxHeartbeats 2000000 in
theorem s110 (X:AX) (hX:XOK prog X) (hw:X.W wT) (hpa:∀ (t:Tb) (p:Nat),ptO t p→∀ M n,X.call 137 [TbV t,I p] M n=some (.sl n 1 3 0 (ptL t p).length,[(n,.vec 1 3 false (srows (ptL t p)))])) :
  PSd prog 110 (spF (ι:={x:Tb×Nat // ptO x.1 x.2}) (fun x=>[TbV x.1.1,I x.1.2]) fun x=>rtO [stV (lsT x.1.1 x.1.2)]):=by
 refine psS hX mixed func110 rfl fun ⟨⟨⟨r,ns,ds⟩,p⟩,ht⟩ w0 G=>⟨by show 2≤15;decide,rfl,?_⟩
 show AW ⟨prog,X,15,w0,.pure G⟩ _ _ _
 have hc:=okc hX 15 w0 G
 have hpa':=hpa _ _ ht
 have hla:=srows_last (ns:=ns) (p:=p) (l:=2) (n:=rtN (r,ns,ds))
 have hpo:=pth_pos (ns:=ns) (p:=p) (l:=2) (n:=rtN (r,ns,ds))
 have hle:=pth_len (ns:=ns) (p:=p) (l:=2) (n:=rtN (r,ns,ds))
 have e1:ptL (r,ns,ds) p=pth ns p 2 (rtN (r,ns,ds)):=rfl
 have e2:lsT (r,ns,ds) p=lst ns p 2 (rtN (r,ns,ds)):=rfl
 simp only [e1,e2,TbV,stV] at hpa' ⊢
 obtain ⟨L,hL⟩:∃ L,L=pth ns p 2 (rtN (r,ns,ds)):=⟨_,rfl⟩
 obtain ⟨⟨a,b,c⟩,hS⟩:∃ S,S=lst ns p 2 (rtN (r,ns,ds)):=⟨_,rfl⟩
 rw [← hL] at hpa' hla hpo hle
 rw [← hS] at hla ⊢
 obtain ⟨k,hk⟩:∃ k,L.length=k+1:=⟨L.length - 1,by omega⟩
 rw [hk] at hpa' hla
 rw [Nat.add_sub_cancel] at hla
 have hkI:((k+1:Nat):Int) - 1=k:=by omega
 have hkJ:((k:Int)+1) - 1=k:=by omega
 have hlE:∀ h',(srows L)[k]'(h')=srow (a,b,c):=fun h'=>by
  rw [List.getElem?_eq_getElem h'] at hla
  exact Option.some.inj hla
 simp only [srow,U] at hla hlE ⊢
 have hk3:k≤2:=by omega
 have zS:=jj hpa'<|jj hkI<|jj hkJ<|jj hla<|jj hlE<|jj hk<|hk3
 refine dM64 ?_
 repeat (intro K hK)
 clear zS
 refine ⟨by simp,?_⟩
 simp [lvI,f110]
 try exact dt
noncomputable def ckd (t:Tb) (n lim:Int):Int:=if chk t≠0 then chk t else if n<0∨lim≤n then 2 else 0
theorem s109 (X:AX) (hX:XOK prog X) (hw:X.W wT) (hch:∀ t:Tb,tbOK t→∀ M n,X.call 39 [TbV t] M n=some (I (chk t),[])) :
  PSd prog 109 (spF (ι:={x:Tb×Int×Int // tbOK x.1}) (fun x=>[TbV x.1.1,I x.1.2.1,I x.1.2.2]) fun x=>rtO [I (ckd x.1.1 x.1.2.1 x.1.2.2)]):=by
 refine psS hX mixed func109 rfl fun ⟨⟨⟨r,ns,ds⟩,n,lim⟩,ht⟩ w0 G=>⟨by show 3≤20;decide,rfl,?_⟩
 show AW ⟨prog,X,20,w0,.pure G⟩ _ _ _
 have hc:=okc hX 20 w0 G
 have hch':=hch _ ht
 unfold ckd
 obtain ⟨c,hc0⟩:∃ c,c=chk (r,ns,ds):=⟨_,rfl⟩
 simp only [TbV,← hc0] at hch' ⊢
 rcases dE (c=0) with h0|h0
 ·subst h0
  rcases dE (n<0) with h1|h1
  ·have zS:=jj hch'<|h1
   refine dM64 ?_
   repeat (intro K hK)
   clear zS
   refine ⟨by simp,?_⟩
   simp [lvI,f109,h1]
   try exact dt
  ·rcases dE (lim≤n) with h2|h2
   ·have zS:=jj hch'<|jj h1<|h2
    refine dM64 ?_
    repeat (intro K hK)
    clear zS
    refine ⟨by simp,?_⟩
    simp [lvI,f109,h1,h2]
    try exact dt
   ·have zS:=jj hch'<|jj h1<|h2
    refine dM64 ?_
    repeat (intro K hK)
    clear zS
    refine ⟨by simp,?_⟩
    simp [lvI,f109,h1,h2]
    try exact dt
 ·have zS:=jj hch'<|h0
  refine dM64 ?_
  repeat (intro K hK)
  clear zS
  refine ⟨by simp,?_⟩
  simp [lvI,f109,h0]
  try exact dt
structure Pv (t:Tb):Prop where
 asc:ascN t.2.1
 vm:VM WA (Mof t.2.1) t.1
theorem Vt.pv {t:Tb} (h:Vt t):Pv t:=⟨h.num.asc,h.vm⟩
def wlk (M:Mm) (root:Int) (p:Nat):Int×Nat×Nat:=match frP WA M root 2 (p/8) with
 | some f=>(f,0,wM M f (p%8))
 | none=>match frP WA M root 1 (p/64) with
  | some f=>(f,1,wM M f (p/8%8))
  | none=>(root,2,wM M root (p/64))
theorem Pv.root {t:Tb} (h:Pv t):fnd t.2.1 t.1=some (rtN t):=by
 obtain ⟨ws,h1,_⟩:=h.vm.nd 0 0 Pos0 t.1 rfl
 obtain ⟨r,h2,_⟩:=Mof_some.1 h1
 unfold rtN
 rw [h2];rfl
theorem Pv.walk {t:Tb} (h:Pv t) {p:Nat} (hp:p<512):pok t.2.1 p 2 (rtN t)∧fnd t.2.1 (wlk (Mof t.2.1) t.1 p).1=some (lsT t p).1∧(lsT t p).2=(wlk (Mof t.2.1) t.1 p).2:=by
 have hr:=h.root
 have d2:dgt p 2=p/64:=by unfold dgt;simp;omega
 have d1:dgt p 1=p/8%8:=by unfold dgt;simp
 have d0:dgt p 0=p%8:=by unfold dgt;simp
 unfold lsT wlk
 simp only [pok,lst,d2,d1,d0]
 have q2:=h.vm.nd
 have f1:frP WA (Mof t.2.1) t.1 1 (p/64)=tabW (wd t.2.1 (rtN t) (p/64)):=by
  simp only [frP,Option.bind_some]
  rw [show p/64%8=p/64 by omega,wM_Mof hr]
  rfl
 have f2:frP WA (Mof t.2.1) t.1 2 (p/8)=(frP WA (Mof t.2.1) t.1 1 (p/64)).bind fun f=>tabW (wM (Mof t.2.1) f (p/8%8)):=by
  show (frP WA (Mof t.2.1) t.1 1 (p/8/8)).bind _=_
  rw [show p/8/8=p/64 by omega]
  rfl
 cases h1:tabW (wd t.2.1 (rtN t) (p/64)) with
 | none =>
  rw [h1] at f1
  rw [f1] at f2
  have hk:kid WA t.2.1 (wd t.2.1 (rtN t) (p/64))=none:=by unfold kid;show (tabW _).bind _=none;rw [h1];rfl
  rw [f2,f1,hk]
  simp only [Option.bind_none]
  refine ⟨fun g hg=>by simp at hg,hr,?_⟩
  rw [wM_Mof hr]
 | some g1 =>
  rw [h1] at f1
  rw [f1] at f2
  simp only [Option.bind_some] at f2
  obtain ⟨ws,m1,_⟩:=q2 1 (p/64) (Pos1 (by omega)) g1 f1
  obtain ⟨n1,hn1,_⟩:=Mof_some.1 m1
  have hk:kid WA t.2.1 (wd t.2.1 (rtN t) (p/64))=some n1:=kid_some.2 ⟨g1,h1,hn1⟩
  rw [hk,f1]
  rw [wM_Mof hn1] at f2
  simp only
  cases h2:tabW (wd t.2.1 n1 (p/8%8)) with
  | none =>
   rw [h2] at f2
   have hk2:kid WA t.2.1 (wd t.2.1 n1 (p/8%8))=none:=by unfold kid;show (tabW _).bind _=none;rw [h2];rfl
   rw [f2,hk2]
   simp only
   refine ⟨fun g hg=>?_,hn1,?_⟩
   ·simp only [oJ] at hg
    subst hg
    exact ⟨n1,hn1,fun g hg=>by rw [h2] at hg;simp at hg⟩
   ·rw [wM_Mof hn1]
  | some g2 =>
   rw [h2] at f2
   obtain ⟨ws2,m2,_,m3⟩:=q2 2 (p/8) (Pos2 (by omega)) g2 f2
   obtain ⟨n2,hn2,e2⟩:=Mof_some.1 m2
   have hk2:kid WA t.2.1 (wd t.2.1 n1 (p/8%8))=some n2:=kid_some.2 ⟨g2,h2,hn2⟩
   rw [f2,hk2]
   simp only
   refine ⟨fun g hg=>?_,hn2,?_⟩
   ·simp only [oJ] at hg
    subst hg
    refine ⟨n1,hn1,fun g hg=>?_⟩
    rw [h2] at hg
    simp only [oJ] at hg
    subst hg
    refine ⟨n2,hn2,?_⟩
    have:=m3 (p%8) (by omega)
    refine (WD_ok fun _=>true).flat _ ?_
    unfold wd
    rw [e2]
    exact this
   ·rw [wM_Mof hn2]
theorem Pv.pto {t:Tb} (h:Pv t) (ht:tbOK t) {p:Nat} (hp:p<512):ptO t p:=⟨ht,h.asc,hp,⟨_,h.root⟩,(h.walk hp).1⟩
theorem Pv.lev {t:Tb} (h:Pv t) {p:Nat} (hp:p<512):(lsT t p).2.1=(wlk (Mof t.2.1) t.1 p).2.1∧(lsT t p).2.2=(wlk (Mof t.2.1) t.1 p).2.2:=by
 have:=(h.walk hp).2.2
 exact ⟨congrArg Prod.fst this,congrArg Prod.snd this⟩
theorem lsT_lt {t:Tb} (h:Pv t) {p:Nat} (hp:p<512):(lsT t p).1<t.2.1.length∧(lsT t p).2.1≤2:=lst_lt (fnd_lt h.root)
theorem chk_pv {t:Tb} (ht:tbOK t) (h:chk t=0):Pv t:=((chk_iff ht).1 h).pv
set_option maxHeartbeats 2000000
noncomputable section
theorem ckd_cases (t:Tb) (n lim:Int):(ckd t n lim≠0)∨(ckd t n lim=0∧chk t=0∧0≤n∧n<lim):=by
 unfold ckd
 by_cases h:chk t=0
 ·rw [if_neg (by simp [h])]
  split
  ·left;decide
  ·right;exact ⟨rfl,h,by omega,by omega⟩
 ·rw [if_pos h];exact .inl h
theorem ckd_z {t:Tb} {n lim:Int} (h:chk t=0) (h1:0≤n) (h2:n<lim):ckd t n lim=0:=by
 unfold ckd
 rw [if_neg (by simp [h]),if_neg (by omega)]
def walkT (t:Tb) (n:Int):Nat×Nat×Int:=if ckd t n 512=0 then ((lsT t n.toNat).2.2,(lsT t n.toNat).2.1,0) else (0,0,ckd t n 512)
def missT (t:Tb) (n:Int):Nat×Int:=if ckd t n 512=0 then (if (lsT t n.toNat).2.1=1∧(decR (lsT t n.toNat).2.2).1.2.2.2.2.2=true then (0,7) else ((lsT t n.toNat).2.1,0)) else (0,ckd t n 512)
def hugeT (t:Tb) (g:Int):Bool:=if ckd t g 64=0 then (decR (lsT t (g.toNat*8)).2.2).1.2.2.2.2.2 else false
theorem walkT_z {t:Tb} {n:Int} (h:ckd t n 512=0):walkT t n=((lsT t n.toNat).2.2,(lsT t n.toNat).2.1,0):=by unfold walkT;rw [if_pos h]
theorem walkT_n {t:Tb} {n:Int} (h:¬ ckd t n 512=0):walkT t n=(0,0,ckd t n 512):=by unfold walkT;rw [if_neg h]
theorem missT_z {t:Tb} {n:Int} (h:ckd t n 512=0):missT t n=if (lsT t n.toNat).2.1=1∧(decR (lsT t n.toNat).2.2).1.2.2.2.2.2=true then (0,7) else ((lsT t n.toNat).2.1,0):=by unfold missT;rw [if_pos h]
theorem missT_n {t:Tb} {n:Int} (h:¬ ckd t n 512=0):missT t n=(0,ckd t n 512):=by unfold missT;rw [if_neg h]
theorem lsT_u64 {t:Tb} (ht:tbOK t) (h:Pv t) {p:Nat} (hp:p<512):(lsT t p).2.2<2^64:=by
 have:=lst_word (ns:=t.2.1) (p:=p) (l:=2) (n:=rtN t)
 show (lst t.2.1 p 2 (rtN t)).2.2<_
 rw [this]
 exact wd_lt ht (lst_lt (fnd_lt h.root)).1
section
variable (X:AX) (hX:XOK prog X) (hw:X.W wT) (hck:∀ t:Tb,tbOK t→∀ (n lim:Int) M k,X.call 109 [TbV t,I n,I lim] M k=some (I (ckd t n lim),[]))
 (hla:∀ (t:Tb) (p:Nat),ptO t p→∀ M n,X.call 110 [TbV t,I p] M n=some (stV (lsT t p),[]))
 (hen:∀ w:Nat,w<2^64→∀ M n,X.call 113 [U w] M n=some (EnV (decR w).1,[]))
include hX hw hck hla
theorem s35:PSd prog 35 (spF (ι:={x:Tb×Int // tbOK x.1}) (fun x=>[TbV x.1.1,I x.1.2]) fun x=>rtO [U (walkT x.1.1 x.1.2).1,I (walkT x.1.1 x.1.2).2.1,I (walkT x.1.1 x.1.2).2.2]):=by
 refine psS hX mixed func35 rfl fun ⟨⟨⟨r,ns,ds⟩,n⟩,ht⟩ w0 G=>⟨by show 2≤22;decide,rfl,?_⟩
 show AW ⟨prog,X,22,w0,.pure G⟩ _ _ _
 have hc:=okc hX 22 w0 G
 have hck':=hck _ ht n 512
 rcases ckd_cases (r,ns,ds) n 512 with h0|⟨h0,h1,h2,h3⟩
 ·have e:=walkT_n h0
  obtain ⟨c,hc0⟩:∃ c,c=ckd (r,ns,ds) n 512:=⟨_,rfl⟩
  rw [← hc0] at hck' e h0
  simp only [TbV,e,U] at hck' ⊢
  have zS:=jj hck'<|h0
  refine dM64 ?_
  repeat (intro K hK)
  clear zS
  refine ⟨by simp,?_⟩
  simp [lvI,f35]
  try exact dt
 ·have e:=walkT_z h0
  obtain ⟨p,rfl⟩:∃ p:Nat,n=p:=⟨n.toNat,by omega⟩
  have hp:p<512:=by omega
  have hpto:=(chk_pv ht h1).pto ht hp
  have hla':=hla _ p hpto
  rw [h0] at hck'
  rw [Int.toNat_natCast] at e
  obtain ⟨⟨a,b,c⟩,hS⟩:∃ S,S=lsT (r,ns,ds) p:=⟨_,rfl⟩
  rw [← hS] at hla' e
  simp only [TbV,e,stV,srow,U] at hck' hla' ⊢
  have zS:=jj hck'<|hla'
  refine dM64 ?_
  repeat (intro K hK)
  clear zS
  refine ⟨by simp,?_⟩
  simp [lvI,f35]
  try exact dt
include hen
theorem s37:PSd prog 37 (spF (ι:={x:Tb×Int // tbOK x.1}) (fun x=>[TbV x.1.1,I x.1.2]) fun x=>rtO [I (missT x.1.1 x.1.2).1,I (missT x.1.1 x.1.2).2]):=by
 refine psS hX mixed func37 rfl fun ⟨⟨⟨r,ns,ds⟩,n⟩,ht⟩ w0 G=>⟨by show 2≤28;decide,rfl,?_⟩
 show AW ⟨prog,X,28,w0,.pure G⟩ _ _ _
 have hc:=okc hX 28 w0 G
 have hck':=hck _ ht n 512
 rcases ckd_cases (r,ns,ds) n 512 with h0|⟨h0,h1,h2,h3⟩
 ·have e:=missT_n h0
  obtain ⟨c,hc0⟩:∃ c,c=ckd (r,ns,ds) n 512:=⟨_,rfl⟩
  rw [← hc0] at hck' e h0
  simp only [TbV,e] at hck' ⊢
  have zS:=jj hck'<|h0
  refine dM64 ?_
  repeat (intro K hK)
  clear zS
  refine ⟨by simp,?_⟩
  simp [lvI,f37]
  try exact dt
 ·have e:=missT_z h0
  obtain ⟨p,rfl⟩:∃ p:Nat,n=p:=⟨n.toNat,by omega⟩
  have hp:p<512:=by omega
  have hpv:=chk_pv ht h1
  have hpto:=hpv.pto ht hp
  have hla':=hla _ p hpto
  have hen':=hen _ (lsT_u64 ht hpv hp)
  rw [h0] at hck'
  rw [Int.toNat_natCast] at e
  obtain ⟨⟨a,b,c⟩,hS⟩:∃ S,S=lsT (r,ns,ds) p:=⟨_,rfl⟩
  rw [← hS] at hla' e hen'
  obtain ⟨⟨⟨k,f,d,a2,x,h⟩,e2⟩,hE⟩:∃ r,r=decR c:=⟨_,rfl⟩
  simp only [← hE] at hen' e
  simp only [TbV,stV,srow,U,EnV] at hck' hla' hen' ⊢
  rcases dE (b=1) with hb|hb
  ·subst hb
   cases h with
   | true =>
    simp only [and_self,if_true] at e
    have zS:=jj hck'<|jj hla'<|hen'
    refine dM64 ?_
    repeat (intro K hK)
    clear zS
    refine ⟨by simp,?_⟩
    simp [lvI,f37,e]
    try exact dt
   | false =>
    simp only [Bool.false_eq_true,and_false,if_false] at e
    have zS:=jj hck'<|jj hla'<|hen'
    refine dM64 ?_
    repeat (intro K hK)
    clear zS
    refine ⟨by simp,?_⟩
    simp [lvI,f37,e]
    try exact dt
  ·rw [if_neg (fun h=>hb h.1)] at e
   have hbI:¬ (b:Int)=1:=by omega
   have zS:=jj hck'<|jj hla'<|jj hen'<|jj hb<|hbI
   refine dM64 ?_
   repeat (intro K hK)
   clear zS
   refine ⟨by simp,?_⟩
   simp [lvI,f37,e]
   try exact dt
theorem s41:PSd prog 41 (spF (ι:={x:Tb×Int // tbOK x.1}) (fun x=>[TbV x.1.1,I x.1.2]) fun x=>rtO [B (hugeT x.1.1 x.1.2)]):=by
 refine psS hX mixed func41 rfl fun ⟨⟨⟨r,ns,ds⟩,n⟩,ht⟩ w0 G=>⟨by show 2≤16;decide,rfl,?_⟩
 show AW ⟨prog,X,16,w0,.pure G⟩ _ _ _
 have hc:=okc hX 16 w0 G
 have hck':=hck _ ht n 64
 rcases ckd_cases (r,ns,ds) n 64 with h0|⟨h0,h1,h2,h3⟩
 ·have e:hugeT (r,ns,ds) n=false:=by unfold hugeT;rw [if_neg h0]
  obtain ⟨c,hc0⟩:∃ c,c=ckd (r,ns,ds) n 64:=⟨_,rfl⟩
  rw [← hc0] at hck' h0
  simp only [TbV,e] at hck' ⊢
  have zS:=jj hck'<|h0
  refine dM64 ?_
  repeat (intro K hK)
  clear zS
  refine ⟨by simp,?_⟩
  simp [lvI,f41]
  try exact dt
 ·have e:hugeT (r,ns,ds) n=(decR (lsT (r,ns,ds) (n.toNat*8)).2.2).1.2.2.2.2.2:=by unfold hugeT;rw [if_pos h0]
  obtain ⟨p,rfl⟩:∃ p:Nat,n=p:=⟨n.toNat,by omega⟩
  have hp:p*8<512:=by omega
  have hpv:=chk_pv ht h1
  have hpto:=hpv.pto ht hp
  have hla':=hla _ (p*8) hpto
  have hen':=hen _ (lsT_u64 ht hpv hp)
  rw [h0] at hck'
  rw [Int.toNat_natCast] at e
  rw [show ((p*8:Nat):Int)=(p:Int)*8 by omega] at hla'
  obtain ⟨⟨a,b,c⟩,hS⟩:∃ S,S=lsT (r,ns,ds) (p*8):=⟨_,rfl⟩
  rw [← hS] at hla' e hen'
  obtain ⟨⟨⟨k,f,d,a2,x,h⟩,e2⟩,hE⟩:∃ r,r=decR c:=⟨_,rfl⟩
  simp only [← hE] at hen' e
  simp only [TbV,stV,srow,U,EnV] at hck' hla' hen' ⊢
  have zS:=jj hck'<|jj hla'<|hen'
  refine dM64 ?_
  repeat (intro K hK)
  clear zS
  refine ⟨by simp,?_⟩
  simp [lvI,f41,e]
  try exact dt
end
end
end Go.AM
namespace Go.AM
theorem sorted_ext {α:Type} {R:α→α→Prop} (hi:∀ a,¬ R a a) (ht:∀ {a b c},R a b→R b c→R a c):∀ {l m:List α},l.Pairwise R→m.Pairwise R→(∀ x,x∈l↔x∈m)→l=m
 | [],[],_,_,_=>rfl
 | [],y::m,_,_,h=>by have:=(h y).2 (by simp);simp at this
 | x::l,[],_,_,h=>by have:=(h x).1 (by simp);simp at this
 | x::l,y::m,hl,hm,h=>by
  rw [List.pairwise_cons] at hl hm
  have e:x=y:=by
   rcases List.mem_cons.1 ((h x).1 (by simp)) with e|h1
   ·exact e
   ·rcases List.mem_cons.1 ((h y).2 (by simp)) with e|h2
    ·exact e.symm
    ·exact absurd (ht (hl.1 y h2) (hm.1 x h1)) (hi x)
  subst e
  congr 1
  refine sorted_ext hi ht hl.2 hm.2 fun z=>?_
  constructor
  ·intro hz
   rcases List.mem_cons.1 ((h z).1 (by simp [hz])) with e|h1
   ·subst e;exact absurd (hl.1 z hz) (hi z)
   ·exact h1
  ·intro hz
   rcases List.mem_cons.1 ((h z).2 (by simp [hz])) with e|h1
   ·subst e;exact absurd (hm.1 z hz) (hi z)
   ·exact h1
section
variable {β:Type}
def ascK (l:List (Int×β)):Prop:=l.Pairwise fun a b=>a.1<b.1
theorem ascK_ext {l m:List (Int×β)} (hl:ascK l) (hm:ascK m) (h:∀ x,x∈l↔x∈m):l=m :=
 sorted_ext (R:=fun a b:Int×β=>a.1<b.1) (fun a=>Int.lt_irrefl _) (fun h1 h2=>Int.lt_trans h1 h2) hl hm h
theorem ascK_uniq {l:List (Int×β)} (h:ascK l) {a b:Int×β} (ha:a∈l) (hb:b∈l) (e:a.1=b.1):a=b:=by
 obtain ⟨i,hi,rfl⟩:=List.getElem_of_mem ha
 obtain ⟨j,hj,rfl⟩:=List.getElem_of_mem hb
 rcases Nat.lt_trichotomy i j with h1|h1|h1
 ·have:=List.pairwise_iff_getElem.1 h i j hi hj h1;omega
 ·subst h1;rfl
 ·have:=List.pairwise_iff_getElem.1 h j i hj hi h1;omega
def insK:List (Int×β)→Int×β→List (Int×β)
 | [],n=>[n]
 | a::r,n=>if n.1<a.1 then n::a::r else a::insK r n
theorem mem_insK {n x:Int×β}:∀ {l:List (Int×β)},x∈insK l n↔x=n∨x∈l
 | []=>by simp [insK]
 | a::r=>by
  simp only [insK]
  split
  ·simp
  ·simp only [List.mem_cons,mem_insK (l:=r)]
   constructor
   ·rintro (h|h|h)
    ·exact .inr (.inl h)
    ·exact .inl h
    ·exact .inr (.inr h)
   ·rintro (h|h|h)
    ·exact .inr (.inl h)
    ·exact .inl h
    ·exact .inr (.inr h)
theorem insK_len {n:Int×β}:∀ {l:List (Int×β)},(insK l n).length=l.length+1
 | []=>rfl
 | a::r=>by
  simp only [insK]
  split
  ·rfl
  ·simp [insK_len (l:=r)]
theorem insK_asc {n:Int×β}:∀ {l:List (Int×β)},ascK l→(∀ a∈l,a.1≠n.1)→ascK (insK l n)
 | [],_,_=>by simp [insK,ascK]
 | a::r,h,hn=>by
  unfold ascK at h ⊢
  rw [List.pairwise_cons] at h
  simp only [insK]
  split
  ·rename_i hlt
   refine List.pairwise_cons.2 ⟨fun b hb=>?_,List.pairwise_cons.2 h⟩
   rcases List.mem_cons.1 hb with e|hb
   ·rw [e];exact hlt
   ·exact Int.lt_trans hlt (h.1 b hb)
  ·rename_i hlt
   refine List.pairwise_cons.2 ⟨fun b hb=>?_,insK_asc h.2 fun b hb=>hn b (by simp [hb])⟩
   rcases mem_insK.1 hb with e|hb
   ·have:=hn a (by simp);rw [e];omega
   ·exact h.1 b hb
def delK (l:List (Int×β)) (k:Int):List (Int×β):=l.filter fun a=>decide (a.1≠k)
theorem mem_delK {l:List (Int×β)} {k:Int} {x:Int×β}:x∈delK l k↔x∈l∧x.1≠k:=by simp [delK]
theorem delK_asc {l:List (Int×β)} {k:Int} (h:ascK l):ascK (delK l k):=List.Pairwise.filter _ h
theorem insK_of_perm {l m:List (Int×β)} {n:Int×β} (h:ascK l) (hn:∀ a∈l,a.1≠n.1) (hm:m.Pairwise fun a b=>¬ b.1<a.1) (hp:m.Perm (l++[n])):m=insK l n:=by
 have hk:(m.map (·.1)).Nodup:=by
  have h1:((l++[n]).map (·.1)).Nodup:=by
   rw [List.map_append,List.map_singleton]
   refine List.nodup_append.2 ⟨?_,by simp,fun a ha b hb e=>?_⟩
   ·unfold List.Nodup
    rw [List.pairwise_map]
    exact h.imp fun hab e=>by omega
   ·obtain ⟨x,hx,e1⟩:=List.mem_map.1 ha
    simp at hb
    exact hn x hx (by rw [e1,e,hb])
  exact (hp.map _).nodup_iff.2 h1
 have hma:ascK m:=by
  unfold List.Nodup at hk
  rw [List.pairwise_map] at hk
  exact List.Pairwise.imp (fun {a b} (hab:(¬ b.1<a.1)∧a.1≠b.1)=>by omega) (hm.and hk)
 refine ascK_ext hma (insK_asc h hn) fun x=>?_
 rw [hp.mem_iff,mem_insK]
 simp [or_comm]
end
section
variable {ns:NdL}
theorem mMo (ha:ascN ns) {f:Int} {ws:List Nat}:(f,ws)∈ns↔Mof ns f=some ws:=by
 constructor
 ·intro h
  obtain ⟨i,hi,e⟩:=List.getElem_of_mem h
  have h1:=fnd_at ha hi
  rw [List.getD_eq_getElem?_getD,List.getElem?_eq_getElem hi,Option.getD_some,e] at h1
  refine Mof_some.2 ⟨i,h1,?_⟩
  rw [List.getD_eq_getElem?_getD,List.getElem?_eq_getElem hi,Option.getD_some,e]
 ·intro h
  obtain ⟨i,h1,rfl⟩:=Mof_some.1 h
  have hi:=fnd_lt h1
  have h2:=fFr h1
  rw [← h2]
  rw [List.getD_eq_getElem?_getD,List.getElem?_eq_getElem hi,Option.getD_some]
  exact List.getElem_mem hi
theorem Mof_none (ha:ascN ns) {f:Int}:Mof ns f=none↔∀ n∈ns,n.1≠f:=by
 constructor
 ·rintro h ⟨g,ws⟩ hn e
  simp only at e
  subst e
  rw [(mMo ha).1 hn] at h;simp at h
 ·intro h
  cases hm:Mof ns f with
  | none=>rfl
  | some ws=>exact absurd rfl (h _ ((mMo ha).2 hm))
theorem ext_asc {ms:NdL} (ha:ascN ns) (hb:ascN ms) (h:∀ f,Mof ns f=Mof ms f):ns=ms:=by
 refine ascK_ext ha hb fun x=>?_
 obtain ⟨f,ws⟩:=x
 rw [mMo ha,mMo hb,h]
theorem Mof_ins (ha:ascN ns) {f:Int} {ws:List Nat} (hf:∀ n∈ns,n.1≠f):∀ g,Mof (insK ns (f,ws)) g=updM1 (Mof ns) f (some ws) g:=by
 intro g
 have hi:ascN (insK ns (f,ws)):=insK_asc ha hf
 unfold updM1
 split
 ·rename_i e
  subst e
  exact (mMo hi).1 (mem_insK.2 (.inl rfl))
 ·rename_i e
  cases h:Mof ns g with
  | none =>
   refine (Mof_none hi).2 fun n hn=>?_
   rcases mem_insK.1 hn with h1|h1
   ·rw [h1];exact fun h=>e h.symm
   ·exact (Mof_none ha).1 h n h1
  | some us=>exact (mMo hi).1 (mem_insK.2 (.inr ((mMo ha).2 h)))
theorem Mof_del (ha:ascN ns) {f:Int}:∀ g,Mof (delK ns f) g=updM1 (Mof ns) f none g:=by
 intro g
 have hi:ascN (delK ns f):=delK_asc ha
 unfold updM1
 split
 ·rename_i e
  subst e
  exact (Mof_none hi).2 fun n hn=>(mem_delK.1 hn).2
 ·rename_i e
  cases h:Mof ns g with
  | none=>exact (Mof_none hi).2 fun n hn=>(Mof_none ha).1 h n (mem_delK.1 hn).1
  | some us=>exact (mMo hi).1 (mem_delK.2 ⟨(mMo ha).2 h,e⟩)
def setN (ns:NdL) (n i w:Nat):NdL:=ns.set n ((ns.getD n (0,[])).1,(ns.getD n (0,[])).2.set i w)
@[simp] theorem sNl {n i w:Nat}:(setN ns n i w).length=ns.length:=by simp [setN]
theorem setN_asc (ha:ascN ns) {n i w:Nat} (hn:n<ns.length):ascN (setN ns n i w):=by
 have hk:∀ j (hj:j<(setN ns n i w).length) (hj2:j<ns.length),((setN ns n i w)[j]).1=(ns[j]).1:=fun j hj hj2=>by
  unfold setN at hj ⊢
  rw [List.getElem_set]
  split
  ·rename_i e
   subst e
   simp only
   rw [List.getD_eq_getElem?_getD,List.getElem?_eq_getElem hn];rfl
  ·rfl
 refine List.pairwise_iff_getElem.2 fun a b h1 h2 h3=>?_
 rw [hk a h1 (by simpa using h1),hk b h2 (by simpa using h2)]
 exact List.pairwise_iff_getElem.1 ha a b _ _ h3
theorem Mof_set (ha:ascN ns) {f:Int} {n i w:Nat} (hf:fnd ns f=some n):∀ g,Mof (setN ns n i w) g=updW (Mof ns) f i w g:=by
 intro g
 have hn:=fnd_lt hf
 have hi:ascN (setN ns n i w):=setN_asc ha hn
 have hfr:=fFr hf
 have hmem:∀ x,x∈setN ns n i w↔x=(f,(ns.getD n (0,[])).2.set i w)∨(x∈ns∧x.1≠f):=fun x=>by
  constructor
  ·intro hx
   obtain ⟨j,hj,rfl⟩:=List.getElem_of_mem hx
   unfold setN at hj ⊢
   rw [List.getElem_set]
   split
   ·rw [hfr];exact .inl rfl
   ·rename_i e
    right
    have hj2:j<ns.length:=by simpa using hj
    refine ⟨List.getElem_mem hj2,fun e2=>e ?_⟩
    have h1:=fnd_at ha hj2
    rw [List.getD_eq_getElem?_getD,List.getElem?_eq_getElem hj2,Option.getD_some,e2,hf] at h1
    simpa using h1
  ·rintro (rfl|⟨h1,h2⟩)
   ·have:(setN ns n i w)[n]'(by simpa using hn)=(f,(ns.getD n (0,[])).2.set i w):=by
     unfold setN;rw [List.getElem_set,if_pos rfl,hfr]
    rw [← this];exact List.getElem_mem _
   ·obtain ⟨j,hj,rfl⟩:=List.getElem_of_mem h1
    have hjn:n≠j:=fun e=>h2 (by
     subst e
     rw [List.getD_eq_getElem?_getD,List.getElem?_eq_getElem hj,Option.getD_some] at hfr
     exact hfr)
    have:(setN ns n i w)[j]'(by simpa using hj)=ns[j]:=by
     unfold setN;rw [List.getElem_set,if_neg hjn]
    rw [← this];exact List.getElem_mem _
 unfold updW
 split
 ·rename_i e
  subst e
  have h1:Mof ns g=some (ns.getD n (0,[])).2:=Mof_some.2 ⟨n,hf,rfl⟩
  rw [h1]
  exact (mMo hi).1 ((hmem _).2 (.inl rfl))
 ·rename_i e
  cases h:Mof ns g with
  | none =>
   refine (Mof_none hi).2 fun x hx=>?_
   rcases (hmem x).1 hx with rfl|⟨h1,h2⟩
   ·exact fun h=>e h.symm
   ·exact (Mof_none ha).1 h x h1
  | some us=>exact (mMo hi).1 ((hmem _).2 (.inr ⟨(mMo ha).2 h,e⟩))
theorem fnd_set {n i w:Nat} (hn:n<ns.length) (g:Int):fnd (setN ns n i w) g=fnd ns g:=by
 have:∀ j,((setN ns n i w)[j]?.map fun x:Int×List Nat=>x.1)=ns[j]?.map fun x:Int×List Nat=>x.1:=fun j=>by
  unfold setN
  by_cases e:n=j
  ·subst e
   rw [List.getElem?_set_self hn,List.getElem?_eq_getElem hn]
   simp [List.getD_eq_getElem?_getD,List.getElem?_eq_getElem hn]
  ·rw [List.getElem?_set_ne e]
 have hmap:((setN ns n i w).map fun x:Int×List Nat=>x.1)=ns.map fun x:Int×List Nat=>x.1:=List.ext_getElem? fun j=>by simpa using this j
 have hidx:∀ l:NdL,l.findIdx (fun n=>decide (n.1=g))=(l.map fun x:Int×List Nat=>x.1).findIdx (fun f=>decide (f=g)):=fun l=>by
  rw [List.findIdx_map];rfl
 unfold fnd
 rw [hidx,hidx,hmap,sNl]
end
end Go.AM
namespace Go.AM
section
variable {β:Type}
theorem insK_none {n:Int×β}:∀ {l:List (Int×β)},(∀ a∈l,¬ n.1<a.1)→insK l n=l++[n]
 | [],_=>rfl
 | a::r,h=>by
  simp only [insK]
  rw [if_neg (h a (by simp)),insK_none fun b hb=>h b (by simp [hb])]
  rfl
theorem insK_hit {n x:Int×β} {r:List (Int×β)}:∀ {l:List (Int×β)},(∀ a∈l,¬ n.1<a.1)→n.1<x.1→insK (l++x::r) n=l++n::x::r
 | [],_,h2=>by simp [insK,h2]
 | a::l,h,h2=>by
  simp only [List.cons_append,insK]
  rw [if_neg (h a (by simp)),insK_hit (fun b hb=>h b (by simp [hb])) h2]
def lastK (z:β) (k:Int) (l:List (Int×β)):β:=l.foldl (fun v d=>if d.1=k then d.2 else v) z
theorem lastK_at {z:β} {k:Int} {l:List (Int×β)} (h:ascK l) {v:β} (hv:(k,v)∈l):lastK z k l=v:=by
 have key:∀ (l:List (Int×β)) (z:β),(∀ d∈l,d.1=k→d.2=v)→((k,v)∈l∨z=v)→lastK z k l=v:=by
  intro l
  induction l with
  | nil=>intro z _ h;simpa [lastK] using h
  | cons d l ih =>
   intro z h1 h2
   show lastK (if d.1=k then d.2 else z) k l=v
   refine ih _ (fun e he=>h1 e (by simp [he])) ?_
   by_cases e:d.1=k
   ·rw [if_pos e];exact .inr (h1 d (by simp) e)
   ·rw [if_neg e]
    rcases h2 with h2|h2
    ·rcases List.mem_cons.1 h2 with h3|h3
     ·rw [← h3] at e;exact absurd rfl e
     ·exact .inl h3
    ·exact .inr h2
 exact key l z (fun d hd e=>by have:=ascK_uniq h hd hv e;rw [this]) (.inl hv)
end
end Go.AM
namespace Go.AM
open Go Go.Proofs Tryz
theorem nrows_take (l:List Nd) (n:Nat):(nrw l).take n=nrw (l.take n):=by simp [nrw,List.map_take]
theorem nrows_snoc (l:List Nd) (x:Nd):nrw (l++[x])=nrw l++[nrow x]:=by simp [nrw]
theorem take_succ_gn {l:List Nd} {n:Nat} (h:n<l.length):l.take (n+1)=l.take n++[gn l n]:=by
 rw [gn_eq h,List.take_add_one,List.getElem?_eq_getElem h];rfl
theorem delK_len {β:Type} {l:List (Int×β)} {k:Int}:(delK l k).length≤l.length:=List.length_filter_le _ _
noncomputable section
def FClN:List AV→Option AV:=spF (ι:={l:List Nd // nds8 l∧l.length≤1000000}) (fun x=>[.rd 9 (nrw x.1)]) fun x=>rtO [.ow 9 (nrw x.1)]
def FClD:List AV→Option AV:=spF (ι:={l:List Dp // l.length≤1000000}) (fun x=>[.rd 2 (prw x.1)]) fun x=>rtO [.ow 2 (prw x.1)]
theorem FClN_at {l:List Nd} (h:nds8 l) (h2:l.length≤1000000):FClN [.rd 9 (nrw l)]=some (.ow 9 (nrw l)):=by
 refine sFe (ι:={l:List Nd // nds8 l∧l.length≤1000000}) (A:=fun x=>[.rd 9 (nrw x.1)]) (R:=fun x=>rtO [.ow 9 (nrw x.1)]) ⟨l,h,h2⟩ fun j e=>?_
 simp only [cJ,AV.rd.injEq,true_and,nrows_inj,and_true] at e
 rw [e]
theorem FClD_at {l:List Dp} (h2:l.length≤1000000):FClD [.rd 2 (prw l)]=some (.ow 2 (prw l)):=by
 refine sFe (ι:={l:List Dp // l.length≤1000000}) (A:=fun x=>[.rd 2 (prw x.1)]) (R:=fun x=>rtO [.ow 2 (prw x.1)]) ⟨l,h2⟩ fun j e=>?_
 simp only [cJ,AV.rd.injEq,true_and,prows_inj,and_true] at e
 rw [e]
theorem s104 (X:AX) (hX:XOK prog X) (hw:X.W wT):PSd prog 104 (spF (ι:={x:Tb // tbOK x}) (fun x=>[TbV x.1]) fun x=>rtO [.agg [I x.1.1,.ow 9 (nrw x.1.2.1),.ow 2 (prw x.1.2.2)]]):=by
 refine psS hX mixed func104 rfl fun ⟨⟨r,ns,ds⟩,ht⟩ w0 G=>⟨by show 1≤20;decide,rfl,?_⟩
 show AW ⟨prog,X,20,w0,.pure G⟩ _ _ _
 have hc:=okc hX 20 w0 G
 have hl1:ns.length≤1000000:=ht.2.1
 have hl2:ds.length≤1000000:=ht.2.2
 simp only [TbV]
 have tkn:List.take ns.length (nrw ns)=nrw ns:=tkL (by simp)
 have tkd:List.take ds.length (prw ds)=prw ds:=tkL (by simp)
 refine dM64o ?_
 repeat (intro K hK)
 refine ⟨by simp,?_⟩
 simp [lvI,f104,tkn,tkd]
 try exact dt
theorem s128 (X:AX) (hX:XOK prog X) (hw:X.W wT) (h1:X.call 184=callC FClN) (h2:X.call 185=callC FClD):PSd prog 128 (spF (ι:={x:Tb // tbOK x}) (fun x=>[TbV x.1]) fun x=>rtO [.agg [I x.1.1,.ow 9 (nrw x.1.2.1),.ow 2 (prw x.1.2.2)]]):=by
 refine psS hX mixed func128 rfl fun ⟨⟨r,ns,ds⟩,ht⟩ w0 G=>⟨by show 1≤12;decide,rfl,?_⟩
 show AW ⟨prog,X,12,w0,.pure G⟩ _ _ _
 have hc:=okc hX 12 w0 G
 have hl1:ns.length≤1000000:=ht.2.1
 have hl2:ds.length≤1000000:=ht.2.2
 simp only [TbV]
 have e1:=FClN_at (nds8_of ht) hl1
 have e2:=FClD_at hl2
 simp only at e1 e2
 have tkn:List.take ns.length (nrw ns)=nrw ns:=tkL (by simp)
 have tkd:List.take ds.length (prw ds)=prw ds:=tkL (by simp)
 have zS:=jj h1<|jj h2<|jj e1<|e2
 refine dM64 ?_
 repeat (intro K hK)
 clear zS
 refine ⟨by simp,?_⟩
 simp [lvI,f128,tkn,tkd]
 try exact dt
theorem s184 (X:AX) (hX:XOK prog X) (hw:X.W wT):PSd prog 184 FClN:=by
 unfold FClN
 refine psS hX mixed func184 rfl fun ⟨ns,h8,hl⟩ w0 G=>⟨by show 1≤8;decide,rfl,?_⟩
 show AW ⟨prog,X,8,w0,.pure G⟩ _ _ _
 have hc:=okc hX 8 w0 G
 simp only at h8 hl ⊢
 have tkn:List.take ns.length (nrw ns)=nrw ns:=tkL (by simp)
 cases ns with
 | nil =>
  refine aw_cases_nil 0 9 (by simp [nrw,eSt]) ?_ fun p n=>?_
  ·refine dM64o ?_
   repeat (intro K hK)
   refine ⟨by simp,?_⟩
   simp [lvI,f184,nrw]
   try exact dt
  ·refine dM64o ?_
   repeat (intro K hK)
   refine ⟨by simp,?_⟩
   simp [lvI,f184,nrw]
   try exact dt
 | cons x ns =>
  have hl':ns.length+1≤1000000:=by simpa using hl
  obtain ⟨e,he⟩:∃ e,e=nrow x:=⟨_,rfl⟩
  obtain ⟨T,hT⟩:∃ T,T=nrw ns:=⟨_,rfl⟩
  have hc2:nrw (x::ns)=e::T:=by rw [he,hT];rfl
  have hTl:T.length=ns.length:=by rw [hT];simp
  have tk:List.take T.length T=T:=tkL (Nat.le_refl _)
  rw [hc2]
  clear he hT tkn
  have zS:=tk
  refine dM64 ?_
  repeat (intro K hK)
  clear zS
  refine ⟨by simp,?_⟩
  simp [lvI,f184,tk]
  try exact dt
theorem s185 (X:AX) (hX:XOK prog X) (hw:X.W wT):PSd prog 185 FClD:=by
 unfold FClD
 refine psS hX mixed func185 rfl fun ⟨ds,hl⟩ w0 G=>⟨by show 1≤8;decide,rfl,?_⟩
 show AW ⟨prog,X,8,w0,.pure G⟩ _ _ _
 have hc:=okc hX 8 w0 G
 simp only at hl ⊢
 cases ds with
 | nil =>
  refine aw_cases_nil 0 2 (by simp [prw,eSt]) ?_ fun p n=>?_
  ·refine dM64o ?_
   repeat (intro K hK)
   refine ⟨by simp,?_⟩
   simp [lvI,f185,prw]
   try exact dt
  ·refine dM64o ?_
   repeat (intro K hK)
   refine ⟨by simp,?_⟩
   simp [lvI,f185,prw]
   try exact dt
 | cons x ds =>
  have hl':ds.length+1≤1000000:=by simpa using hl
  obtain ⟨e,he⟩:∃ e,e=[I x.1,I x.2]:=⟨_,rfl⟩
  obtain ⟨T,hT⟩:∃ T,T=prw ds:=⟨_,rfl⟩
  have hc2:prw (x::ds)=e::T:=by rw [he,hT];rfl
  have hTl:T.length=ds.length:=by rw [hT];simp
  have tk:List.take T.length T=T:=tkL (Nat.le_refl _)
  rw [hc2]
  clear he hT
  have zS:=tk
  refine dM64 ?_
  repeat (intro K hK)
  clear zS
  refine ⟨by simp,?_⟩
  simp [lvI,f185,tk]
  try exact dt
def newT (r:Int):Tb×Int:=if 0≤r∧r≤4294967295 then ((r,[(r,zs8)],[]),0) else ((0,[],[]),2)
def TbO (t:Tb):AV:=.agg [I t.1,.ow 9 (nrw t.2.1),.ow 2 (prw t.2.2)]
theorem s49 (X:AX) (hX:XOK prog X) (hw:X.W wT) (hfr:∀ x M n,X.call 126 [I x] M n=some (B (decide (0≤x∧x≤4294967295)),[])):PSd prog 49 (spF (ι:=Int) (fun x=>[I x]) fun x=>rtO [TbO (newT x).1,I (newT x).2]):=by
 refine psS hX mixed func49 rfl fun r w0 G=>⟨by show 1≤13;decide,rfl,?_⟩
 show AW ⟨prog,X,13,w0,.pure G⟩ _ _ _
 have hc:=okc hX 13 w0 G
 have hfr':=hfr r
 unfold newT TbO
 rcases dE (0≤r∧r≤4294967295) with h1|h1
 ·rw [decide_eq_true h1] at hfr'
  rw [if_pos h1]
  have zS:=hfr'
  refine dM64 ?_
  repeat (intro K hK)
  clear zS
  refine ⟨by simp,?_⟩
  simp [lvI,f49,nrw,nrow,wcs,prw,zs8,U]
  try exact dt
 ·rw [decide_eq_false h1] at hfr'
  rw [if_neg h1]
  have zS:=hfr'
  refine dM64 ?_
  repeat (intro K hK)
  clear zS
  refine ⟨by simp,?_⟩
  simp [lvI,f49,nrw,nrow,wcs,prw,zs8,U]
  try exact dt
end
noncomputable section
theorem prows_append (a b:List Dp):prw a++prw b=prw (a++b):=by simp [prw]
theorem prows_drop (l:List Dp) (n:Nat):(prw l).drop n=prw (l.drop n):=by simp [prw,List.map_drop]
theorem prow_flat {l:List Dp}:(AV.ow 2 (prw l)).flat:=by
 simp only [AV.flat,AV.flatV,AV.flat1]
 intro e he a ha
 obtain ⟨x,_,rfl⟩:=List.mem_map.1 he
 simp at ha
 rcases ha with rfl|rfl<;>trivial
theorem nrow_flat {l:List Nd}:(AV.ow 9 (nrw l)).flat:=by
 simp only [AV.flat,AV.flatV,AV.flat1]
 intro e he a ha
 obtain ⟨x,_,rfl⟩:=List.mem_map.1 he
 rcases List.mem_cons.1 ha with rfl|ha
 ·trivial
 ·obtain ⟨w,_,rfl⟩:=List.mem_map.1 ha
  trivial
theorem xOvl:ExtOK prog 218 ovlF :=
 ovl_ok (tR:=4) func218 (by kernel_rfl) (by kernel_rfl) (by kernel_rfl) (by kernel_rfl) tyDs rfl tyD
def two2 (_:Nat):Nat:=2
def nine9 (_:Nat):Nat:=9
theorem prows_replicate (n:Nat):List.replicate n [AV.v (.int .i64 0),AV.v (.int .i64 0)]=prw (List.replicate n (0,0)):=by simp [prw,I]
theorem nrows_replicate (n:Nat):List.replicate n [AV.v (.int .i64 0),AV.v (.int .u64 0),AV.v (.int .u64 0),AV.v (.int .u64 0),AV.v (.int .u64 0),AV.v (.int .u64 0),AV.v (.int .u64 0),AV.v (.int .u64 0),AV.v (.int .u64 0)]=nrw (List.replicate n (0,zs8)):=by
 simp only [nrw,List.map_replicate];rfl
theorem nrows_append (a b:List Nd):nrw a++nrw b=nrw (a++b):=by simp [nrw]
theorem nrows_drop (l:List Nd) (n:Nat):(nrw l).drop n=nrw (l.drop n):=by simp [nrw,List.map_drop]
theorem ins_shift {α:Type} {L P S A:List α} {x:α} {i n:Nat} (hL:L=P++S) (hi:P.length=i) (hn:L.length=n) (h1:1≤A.length) (hS:i<n) :
  P++x::S=List.take (n+1) (List.take i (List.take (i+1) (L++A)++(List.take (n - i) (List.take (n+1 - i) (List.drop i (L++A)))++List.drop (i+1+(n - i)) (L++A))) ++
   (List.take 1 [x]++List.drop (i+1) (List.take (i+1) (L++A)++(List.take (n - i) (List.take (n+1 - i) (List.drop i (L++A)))++List.drop (i+1+(n - i)) (L++A))))):=by
 subst hL hi
 obtain ⟨s,S,rfl⟩:∃ s S',S=s::S':=by cases S with|nil=>simp at hn;omega|cons a b=>exact ⟨a,b,rfl⟩
 obtain ⟨a,A,rfl⟩:∃ s S',A=s::S':=by cases A with|nil=>simp at h1|cons a b=>exact ⟨a,b,rfl⟩
 subst hn
 rw [List.length_append]
 have e1:List.take (P.length+1) (P++s::S++a::A)=P++[s]:=by simp [List.take_append,tkL]
 have e2:List.drop P.length (P++s::S++a::A)=s::S++a::A:=by simp
 have e3:P.length+(s::S).length - P.length=(s::S).length:=by omega
 have e4:P.length+(s::S).length+1 - P.length=(s::S).length+1:=by omega
 have e5:List.take (s::S).length (List.take ((s::S).length+1) (s::S++a::A))=s::S:=by rw [List.take_take,Nat.min_eq_left (by omega)];simp
 have e6:List.drop (P.length+1+(s::S).length) (P++s::S++a::A)=A:=by
  rw [show P.length+1+(s::S).length=(P++s::S).length+1 by simp;omega,← List.drop_drop,List.drop_left];simp
 rw [e1,e2,e3,e4,e5,e6]
 have e7:List.take P.length (P++[s]++(s::S++A))=P:=by simp
 have e8:List.drop (P.length+1) (P++[s]++(s::S++A))=s::S++A:=by
  rw [show P.length+1=(P++[s]).length by simp,List.drop_left]
 rw [e7,e8]
 have e9:P++([x].take 1++(s::S++A))=(P++x::s::S)++A:=by simp
 rw [e9,show P.length+(s::S).length+1=(P++x::s::S).length by simp;omega,List.take_left]
theorem ins_grow {α:Type} {L P S Z D:List α} {x:α} {i n:Nat} (hL:L=P++S) (hi:P.length=i) (hn:L.length=n) :
  P++x::S=List.take (n+1) (List.take (i+1) (List.take i (List.take i (L++[])++Z)++(List.take 1 [x]++List.drop (i+1) (List.take i (L++[])++Z)))++(List.take (n - i) (List.take (n - i) (List.drop i (L++[])))++D)):=by
 subst hL hi hn
 rw [List.length_append]
 have e0:List.take P.length (P++S++[])=P:=by simp
 have e1:List.take P.length (P++Z)=P:=by simp
 have e2:List.take (P.length+1) (P++(List.take 1 [x]++List.drop (P.length+1) (P++Z)))=P++[x]:=by simp [List.take_append,tkL]
 have e4:List.take (P.length+S.length - P.length) (List.take (P.length+S.length - P.length) (List.drop P.length (P++S++[])))=S:=by
  rw [show P.length+S.length - P.length=S.length by omega];simp
 rw [e0,e1,e2,e4]
 have e3:P++[x]++(S++D)=(P++x::S)++D:=by simp
 rw [e3,show P.length+S.length+1=(P++x::S).length by simp;omega,List.take_left]
theorem s190 (X:AX) (hX:XOK prog X) (h42:X.call 218=ovlF):MSound prog 190 (specM (ι:={x:List Dp×Nat×Dp // x.2.1≤x.1.length∧x.1.length≤1000000}) (fun x=>.ow 2 (prw x.1.1)) (fun x=>[I x.1.2.1,.rd 2 (prw [x.1.2.2])]) (fun x=>rtO [.ow 2 (prw (x.1.1.take x.1.2.1++x.1.2.2::x.1.1.drop x.1.2.1))]) fun _=>.any):=by
 refine msound_cap_spec func190 rfl X fun ⟨⟨l,i,x⟩,hi,hl⟩ w0 bl E m=>⟨by show 3≤95;decide,rfl,?_⟩
 simp only at hi hl
 show AW ⟨prog,X,95,w0,⟨bl,E,1⟩⟩ _ _ _
 have hc:Cx.OK ⟨prog,X,95,w0,⟨bl,E,1⟩⟩:=⟨hX,mixed⟩
 have hm:m=0∨1≤m:=by omega
 have hP:prw l=prw (l.take i)++prw (l.drop i):=by rw [prows_append,List.take_append_drop]
 have hR:prw (l.take i++x::l.drop i)=prw (l.take i)++[I x.1,I x.2]::prw (l.drop i):=by simp [prw]
 have hPl:(prw (l.take i)).length=i:=by simp;omega
 rcases hm with rfl|hm
 ·repeat' (first|(apply aSk;intro K hK)|(refine aw_run hc (by first|exact aw_nod|(intro _;rw [ordB_w hw];kernel_rfl)|(intro _;rw [ordB_w0 hw0];kernel_rfl)|(intro _;kernel_rfl)) ?_;simp (disch:=first|omega|assumption|(simp;done)|fail) [if_pos,if_neg,List.zipIdx,Int.ofNat_inj,h42,ovlF,w64_];try (repeat' (refine gQs (fun h=>?_) (fun h=>?_)<;>simp at h<;>simp (disch:=first|omega|assumption|(simp;done)|fail) [if_pos,if_neg,List.zipIdx,Int.ofNat_inj,h42,ovlF,w64_])))|(refine eC (fun h=>?_) (fun h=>?_)<;>(try simp at h))|(refine aBl ?_)|(refine aw_skip ?_;simp only [thenQ,bkQ,if_true])|(refine aw_exit ?_;simp [thenQ,bkQ])|(refine aw_ret ?_;simp only [thenQ,bkQ])|(refine hK _ ?_;clear hK)|(clear hK;refine hK _ ?_;clear hK)|(clear hK;clear hK;refine hK _ ?_;clear hK)|(clear hK;clear hK;clear hK;refine hK _ ?_;clear hK))
  all_goals first|(exfalso;omega)|skip
  all_goals (refine ⟨by simp,lMa ?_⟩;simp (disch:=first|omega|assumption|(simp;done)|fail) [if_pos,if_neg,lvI,f190])
  ·subst h
   rw [prows_append]
   simp [tkL]
  ·rw [hR]
   exact ins_grow hP hPl (prows_length l)
 ·repeat' (first|(apply aSk;intro K hK)|(refine aw_run hc (by first|exact aw_nod|(intro _;rw [ordB_w hw];kernel_rfl)|(intro _;rw [ordB_w0 hw0];kernel_rfl)|(intro _;kernel_rfl)) ?_;simp (disch:=first|omega|assumption|(simp;done)|fail) [if_pos,if_neg,List.zipIdx,Int.ofNat_inj,h42,ovlF,w64_];try (repeat' (refine gQs (fun h=>?_) (fun h=>?_)<;>simp at h<;>simp (disch:=first|omega|assumption|(simp;done)|fail) [if_pos,if_neg,List.zipIdx,Int.ofNat_inj,h42,ovlF,w64_])))|(refine eC (fun h=>?_) (fun h=>?_)<;>(try simp at h))|(refine aBl ?_)|(refine aw_skip ?_;simp only [thenQ,bkQ,if_true])|(refine aw_exit ?_;simp [thenQ,bkQ])|(refine aw_ret ?_;simp only [thenQ,bkQ])|(refine hK _ ?_;clear hK)|(clear hK;refine hK _ ?_;clear hK)|(clear hK;clear hK;refine hK _ ?_;clear hK)|(clear hK;clear hK;clear hK;refine hK _ ?_;clear hK))
  all_goals first|(exfalso;omega)|skip
  all_goals (refine ⟨by simp,lMa ?_⟩;simp (disch:=first|omega|assumption|(simp;done)|fail) [if_pos,if_neg,lvI,f190])
  ·subst h
   rw [← List.append_assoc,prows_append,List.take_append_of_le_length (by simp),tkL (by simp)]
   simp [tkL]
  ·rw [hR]
   exact ins_shift hP hPl (prows_length l) (by simpa using hm) (by omega)
theorem s192 (X:AX) (hX:XOK prog X) (hw:X.W wT):MSound prog 192 (specM (ι:={x:List Dp×Nat×Nat // x.2.1≤x.2.2∧x.2.2≤x.1.length∧x.1.length≤1000000}) (fun x=>.ow 2 (prw x.1.1)) (fun x=>[I x.1.2.1,I x.1.2.2]) (fun x=>rtO [.ow 2 (prw (x.1.1.take x.1.2.1++x.1.1.drop x.1.2.2))]) fun _=>.any):=by
 refine msound_spec func192 rfl X fun ⟨⟨l,i,j⟩,hij,hj,hl⟩ w0 bl E=>⟨by show 3≤33;decide,rfl,?_⟩
 simp only at hij hj hl
 show AW ⟨prog,X,33,w0,⟨bl,E,1⟩⟩ _ _ _
 have hc:Cx.OK ⟨prog,X,33,w0,⟨bl,E,1⟩⟩:=⟨hX,mixed⟩
 repeat' (first|(apply aSk;intro K hK)|(refine aw_run hc (by first|exact aw_nod|(intro _;rw [ordB_w hw];kernel_rfl)|(intro _;rw [ordB_w0 hw0];kernel_rfl)|(intro _;kernel_rfl)) ?_;simp (disch:=first|omega|assumption|(simp;done)|fail) [if_pos,if_neg,List.zipIdx,Int.ofNat_inj];try (repeat' (refine gQs (fun h=>?_) (fun h=>?_)<;>simp at h<;>simp (disch:=first|omega|assumption|(simp;done)|fail) [if_pos,if_neg,List.zipIdx,Int.ofNat_inj])))|(refine eC (fun h=>?_) (fun h=>?_)<;>(try simp at h))|(refine aBl ?_)|(refine aw_skip ?_;simp only [thenQ,bkQ,if_true])|(refine aw_exit ?_;simp [thenQ,bkQ])|(refine aw_ret ?_;simp only [thenQ,bkQ])|(refine hK _ ?_;clear hK)|(clear hK;refine hK _ ?_;clear hK)|(clear hK;clear hK;refine hK _ ?_;clear hK)|(clear hK;clear hK;clear hK;refine hK _ ?_;clear hK))
 ·refine ⟨by simp,lMa ?_⟩
  simp (disch:=first|omega|assumption|(simp;done)|fail) [if_pos,if_neg,lvI,f192]
  subst h
  simp [tkL]
 ·refine ⟨by simp,lMa ?_⟩
  simp (disch:=first|omega|assumption|(simp;done)|fail) [if_pos,if_neg,lvI,f192,prows_take,prows_drop,prows_append,prows_replicate]
  have e1:l.take i++((l.drop j).take (l.length - j)++l.drop (i+(l.length - j)))=(l.take i++l.drop j)++l.drop (i+(l.length - j)):=by
   rw [tkL (l:=l.drop j) (by simp),List.append_assoc]
  have e2:(l.take i++l.drop j).length=i+(l.length - j):=by simp;omega
  have key:∀ (A B C:List Dp) n,A.length=n→A=((A++B).take n++C).take n:=by
   intro A B C n h
   subst h
   simp
  rw [e1]
  exact congrArg prw (key _ _ _ _ e2)
theorem s153 (X:AX) (hX:XOK prog X) (hw:X.W wT):MSound prog 153 (specM (ι:={x:List Nd×Nat×Nat // x.2.1≤x.2.2∧x.2.2≤x.1.length∧x.1.length≤1000000}) (fun x=>.ow 9 (nrw x.1.1)) (fun x=>[I x.1.2.1,I x.1.2.2]) (fun x=>rtO [.ow 9 (nrw (x.1.1.take x.1.2.1++x.1.1.drop x.1.2.2))]) fun _=>.any):=by
 refine msound_spec func153 rfl X fun ⟨⟨l,i,j⟩,hij,hj,hl⟩ w0 bl E=>⟨by show 3≤33;decide,rfl,?_⟩
 simp only at hij hj hl
 show AW ⟨prog,X,33,w0,⟨bl,E,1⟩⟩ _ _ _
 have hc:Cx.OK ⟨prog,X,33,w0,⟨bl,E,1⟩⟩:=⟨hX,mixed⟩
 repeat' (first|(apply aSk;intro K hK)|(refine aw_run hc (by first|exact aw_nod|(intro _;rw [ordB_w hw];kernel_rfl)|(intro _;rw [ordB_w0 hw0];kernel_rfl)|(intro _;kernel_rfl)) ?_;simp (disch:=first|omega|assumption|(simp;done)|fail) [if_pos,if_neg,List.zipIdx,Int.ofNat_inj];try (repeat' (refine gQs (fun h=>?_) (fun h=>?_)<;>simp at h<;>simp (disch:=first|omega|assumption|(simp;done)|fail) [if_pos,if_neg,List.zipIdx,Int.ofNat_inj])))|(refine eC (fun h=>?_) (fun h=>?_)<;>(try simp at h))|(refine aBl ?_)|(refine aw_skip ?_;simp only [thenQ,bkQ,if_true])|(refine aw_exit ?_;simp [thenQ,bkQ])|(refine aw_ret ?_;simp only [thenQ,bkQ])|(refine hK _ ?_;clear hK)|(clear hK;refine hK _ ?_;clear hK)|(clear hK;clear hK;refine hK _ ?_;clear hK)|(clear hK;clear hK;clear hK;refine hK _ ?_;clear hK))
 ·refine ⟨by simp,lMa ?_⟩
  simp (disch:=first|omega|assumption|(simp;done)|fail) [if_pos,if_neg,lvI,f153]
  subst h
  simp [tkL]
 ·refine ⟨by simp,lMa ?_⟩
  simp (disch:=first|omega|assumption|(simp;done)|fail) [if_pos,if_neg,lvI,f153,nrows_take,nrows_drop,nrows_append,nrows_replicate]
  have e1:l.take i++((l.drop j).take (l.length - j)++l.drop (i+(l.length - j)))=(l.take i++l.drop j)++l.drop (i+(l.length - j)):=by
   rw [tkL (l:=l.drop j) (by simp),List.append_assoc]
  have e2:(l.take i++l.drop j).length=i+(l.length - j):=by simp;omega
  have key:∀ (A B C:List Nd) n,A.length=n→A=((A++B).take n++C).take n:=by
   intro A B C n h
   subst h
   simp
  rw [e1]
  exact congrArg nrw (key _ _ _ _ e2)
def FInsD:AV→List AV→Option (AV×AV):=specM (ι:={x:List Dp×Nat×Dp // x.2.1≤x.1.length∧x.1.length≤1000000}) (fun x=>.ow 2 (prw x.1.1)) (fun x=>[I x.1.2.1,.rd 2 (prw [x.1.2.2])]) (fun x=>rtO [.ow 2 (prw (x.1.1.take x.1.2.1++x.1.2.2::x.1.1.drop x.1.2.1))]) fun _=>.any
theorem FInsD_at (l:List Dp) (i:Nat) (a b:Int) (h:i≤l.length∧l.length≤1000000):FInsD (.ow 2 (prw l)) [I i,.rd 2 [[I a,I b]]]=some (.ow 2 (prw (l.take i++(a,b)::l.drop i)),.any) :=
 specM_eq (A0:=fun x:{x:List Dp×Nat×Dp // x.2.1≤x.1.length∧x.1.length≤1000000}=>AV.ow 2 (prw x.1.1)) (A:=fun x=>[I x.1.2.1,.rd 2 (prw [x.1.2.2])]) (R:=fun x=>rtO [.ow 2 (prw (x.1.1.take x.1.2.1++x.1.2.2::x.1.1.drop x.1.2.1))]) (O:=fun _=>.any) ⟨(l,i,(a,b)),h⟩ (by
  rintro ⟨⟨l',i',x'⟩,h1,h2⟩ e1 e2
  simp only [AV.ow.injEq,prows_inj,true_and] at e1
  simp only [cJ,AV.v.injEq,Value.int.injEq,true_and,AV.rd.injEq,prows_inj,and_true,Int.ofNat_inj] at e2
  obtain ⟨rfl,rfl⟩:=e2
  subst e1
  exact ⟨rfl,rfl⟩)
def FDelD:AV→List AV→Option (AV×AV):=specM (ι:={x:List Dp×Nat×Nat // x.2.1≤x.2.2∧x.2.2≤x.1.length∧x.1.length≤1000000}) (fun x=>.ow 2 (prw x.1.1)) (fun x=>[I x.1.2.1,I x.1.2.2]) (fun x=>rtO [.ow 2 (prw (x.1.1.take x.1.2.1++x.1.1.drop x.1.2.2))]) fun _=>.any
theorem FDelD_at (l:List Dp) (i j:Nat) (h:i≤j∧j≤l.length∧l.length≤1000000):FDelD (.ow 2 (prw l)) [I i,I j]=some (.ow 2 (prw (l.take i++l.drop j)),.any) :=
 specM_eq (A0:=fun x:{x:List Dp×Nat×Nat // x.2.1≤x.2.2∧x.2.2≤x.1.length∧x.1.length≤1000000}=>AV.ow 2 (prw x.1.1)) (A:=fun x=>[I x.1.2.1,I x.1.2.2]) (R:=fun x=>rtO [.ow 2 (prw (x.1.1.take x.1.2.1++x.1.1.drop x.1.2.2))]) (O:=fun _=>.any) ⟨(l,i,j),h⟩ (by
  rintro ⟨⟨l',i',j'⟩,h1,h2⟩ e1 e2
  simp only [AV.ow.injEq,prows_inj,true_and] at e1
  simp only [cJ,AV.v.injEq,Value.int.injEq,true_and,and_true,Int.ofNat_inj] at e2
  obtain ⟨rfl,rfl⟩:=e2
  subst e1
  exact ⟨rfl,rfl⟩)
def FDelN:AV→List AV→Option (AV×AV):=specM (ι:={x:List Nd×Nat×Nat // x.2.1≤x.2.2∧x.2.2≤x.1.length∧x.1.length≤1000000}) (fun x=>.ow 9 (nrw x.1.1)) (fun x=>[I x.1.2.1,I x.1.2.2]) (fun x=>rtO [.ow 9 (nrw (x.1.1.take x.1.2.1++x.1.1.drop x.1.2.2))]) fun _=>.any
theorem FDelN_at (l:List Nd) (i j:Nat) (h:i≤j∧j≤l.length∧l.length≤1000000):FDelN (.ow 9 (nrw l)) [I i,I j]=some (.ow 9 (nrw (l.take i++l.drop j)),.any) :=
 specM_eq (A0:=fun x:{x:List Nd×Nat×Nat // x.2.1≤x.2.2∧x.2.2≤x.1.length∧x.1.length≤1000000}=>AV.ow 9 (nrw x.1.1)) (A:=fun x=>[I x.1.2.1,I x.1.2.2]) (R:=fun x=>rtO [.ow 9 (nrw (x.1.1.take x.1.2.1++x.1.1.drop x.1.2.2))]) (O:=fun _=>.any) ⟨(l,i,j),h⟩ (by
  rintro ⟨⟨l',i',j'⟩,h1,h2⟩ e1 e2
  simp only [AV.ow.injEq,nrows_inj,true_and] at e1
  simp only [cJ,AV.v.injEq,Value.int.injEq,true_and,and_true,Int.ofNat_inj] at e2
  obtain ⟨rfl,rfl⟩:=e2
  subst e1
  exact ⟨rfl,rfl⟩)
theorem FInsD_flat {a0:AV} {avs:List AV} {r o:AV} (h:FInsD a0 avs=some (r,o)):r.flat∧o.flatO:=by
 obtain ⟨i,_,_,h3,h4⟩:=specM_some h
 subst h3 h4
 exact ⟨prow_flat,trivial⟩
theorem FDelD_flat {a0:AV} {avs:List AV} {r o:AV} (h:FDelD a0 avs=some (r,o)):r.flat∧o.flatO:=by
 obtain ⟨i,_,_,h3,h4⟩:=specM_some h
 subst h3 h4
 exact ⟨prow_flat,trivial⟩
theorem FDelN_flat {a0:AV} {avs:List AV} {r o:AV} (h:FDelN a0 avs=some (r,o)):r.flat∧o.flatO:=by
 obtain ⟨i,_,_,h3,h4⟩:=specM_some h
 subst h3 h4
 exact ⟨nrow_flat,trivial⟩
end
set_option maxHeartbeats 4000000
@[simp] theorem tyPtab:Types prog 186=some ⟨.pointer 63,1,8,[.pointer none]⟩:=by kernel_rfl
def scM (t:Tb) (g:Int):List AO:=[.box [.bp 1 0],.box [I t.1,.sl 2 1 9 0 t.2.1.length,.sl 3 1 2 0 t.2.2.length],.vec 1 9 false (nrw t.2.1),.vec 1 2 false (prw t.2.2),.box [I g]]
theorem scM_inj {t t':Tb} {g g':Int} (h:scM t g=scM t' g'):t=t'∧g=g':=by
 obtain ⟨r,ns,ds⟩:=t
 obtain ⟨r',ns',ds'⟩:=t'
 simp only [scM,cJ,AO.box.injEq,I,AV.v.injEq,Value.int.injEq,true_and,AO.vec.injEq,nrows_inj,prows_inj,and_true] at h
 obtain ⟨⟨h1,_⟩,h2,h3,h4⟩:=h
 exact ⟨by rw [h1,h2,h3],h4⟩
abbrev ScD:=Tb×Int×Nat
noncomputable def clS:List AV→List AO→Option (AV×List AO):=specG (ι:={x:ScD // tbOK x.1∧x.2.2<x.1.2.2.length}) (fun x=>[I x.1.2.2,.bp 0 0,.bp 4 0]) (fun x=>scM x.1.1 x.1.2.1) (fun x=>rtO [B (decide (x.1.2.1≤(gp x.1.1.2.2 x.1.2.2).1))]) fun x=>scM x.1.1 x.1.2.1
theorem clS_at {t:Tb} {g:Int} {i:Nat} (ht:tbOK t) (hi:i<t.2.2.length):clS [I i,.bp 0 0,.bp 4 0] (scM t g)=some (B (decide (g≤(gp t.2.2 i).1)),scM t g):=by
 refine sGe (ι:={x:ScD // tbOK x.1∧x.2.2<x.1.2.2.length}) (A:=fun x=>[I x.1.2.2,.bp 0 0,.bp 4 0]) (M:=fun x=>scM x.1.1 x.1.2.1) (R:=fun x=>rtO [B (decide (x.1.2.1≤(gp x.1.1.2.2 x.1.2.2).1))]) (O:=fun x=>scM x.1.1 x.1.2.1) ⟨(t,g,i),ht,hi⟩ fun j hA hM=>?_
 obtain ⟨⟨t',g',i'⟩,h'⟩:=j
 obtain ⟨rfl,rfl⟩:=scM_inj hM
 simp only [cJ,I,AV.v.injEq,Value.int.injEq,true_and,and_true] at hA
 have:i'=i:=by omega
 subst this
 exact ⟨rfl,rfl⟩
theorem s189 (X:AX) (hX:XOK prog X) (hw:X.W wT):GSd prog 189 clS:=by
 unfold clS
 refine gsS func189 rfl X fun ⟨⟨⟨r,ns,ds⟩,g,i⟩,ht,hi⟩ w0 L E=>⟨by show 3≤15;decide,?_⟩
 have hi:i<ds.length:=hi
 have hl2:ds.length≤1000000:=ht.2.2
 simp only [scM]
 show AW ⟨prog,X,15,w0,⟨L,E,5⟩⟩ _ _ _
 have hc:Cx.OK ⟨prog,X,15,w0,⟨L,E,5⟩⟩:=⟨hX,mixed⟩
 have hiI:(i:Int)<(ds.length:Int):=by omega
 have hg:=prows_gi hi
 have hgE:=prows_gE hi
 obtain ⟨⟨a,b⟩,hm⟩:∃ m,m=gp ds i:=⟨_,rfl⟩
 rw [← hm] at hg hgE
 try simp only at hg hgE
 have hm1:(gp ds i).1=a:=by rw [← hm]
 have zS:=jj hi<|jj hiI<|jj hg<|hgE
 refine dM64 ?_
 repeat (intro K hK)
 clear zS
 refine ⟨by simp,_,by simp [aRs,aRt,f189];rfl,?_⟩
 simp only [idx,hm1]
 exact dle
theorem s191 (X:AX) (hX:XOK prog X) (hw:X.W wT):GSd prog 191 clS:=by
 unfold clS
 refine gsS func191 rfl X fun ⟨⟨⟨r,ns,ds⟩,g,i⟩,ht,hi⟩ w0 L E=>⟨by show 3≤15;decide,?_⟩
 have hi:i<ds.length:=hi
 have hl2:ds.length≤1000000:=ht.2.2
 simp only [scM]
 show AW ⟨prog,X,15,w0,⟨L,E,5⟩⟩ _ _ _
 have hc:Cx.OK ⟨prog,X,15,w0,⟨L,E,5⟩⟩:=⟨hX,mixed⟩
 have hiI:(i:Int)<(ds.length:Int):=by omega
 have hg:=prows_gi hi
 have hgE:=prows_gE hi
 obtain ⟨⟨a,b⟩,hm⟩:∃ m,m=gp ds i:=⟨_,rfl⟩
 rw [← hm] at hg hgE
 try simp only at hg hgE
 have hm1:(gp ds i).1=a:=by rw [← hm]
 have zS:=jj hi<|jj hiI<|jj hg<|hgE
 refine dM64 ?_
 repeat (intro K hK)
 clear zS
 refine ⟨by simp,_,by simp [aRs,aRt,f191];rfl,?_⟩
 simp only [idx,hm1]
 exact dle
set_option maxRecDepth 4000 in
theorem callCl {t:Tb} {g:Int} {i:Nat} (ht:tbOK t) (hi:i<t.2.2.length) (M:Nat→AO) (nid:Nat)
  (h0:M 0=.box [.bp 1 0]) (h1:M 1=.box [I t.1,.sl 2 1 9 0 t.2.1.length,.sl 3 1 2 0 t.2.2.length]) (h2:M 2=.vec 1 9 false (nrw t.2.1)) (h3:M 3=.vec 1 2 false (prw t.2.2)) (h4:M 4=.box [I g]) :
  caG clS [I i,.bp 0 0,.bp 4 0] M nid=some (B (decide (g≤(gp t.2.2 i).1)),[(0,.box [.bp 1 0]),(1,.box [I t.1,.sl 2 1 9 0 t.2.1.length,.sl 3 1 2 0 t.2.2.length]),(2,.vec 1 9 false (nrw t.2.1)),(3,.vec 1 2 false (prw t.2.2)),(4,.box [I g])]):=by
 have hF:=clS_at (g:=g) ht hi
 simp only [scM] at hF
 unfold caG
 have hg:gat M 64 (nmsL [I i,.bp 0 0,.bp 4 0]) []=[0,1,2,3,4]:=by
  simp [gat,nmsL,AV.nms,AO.nms,h0,h1,h2,h3,h4]
 simp only [hg]
 rw [if_pos ?cg]
 case cg=>simp [CallG,nmsL,AV.nms,AO.nms,Led,curBL,AV.curB,AO.curB,verOf,nDd,h0,h1,h2,h3,h4]
 simp [renL,AV.ren,AO.ren,posN,canO,nmsL,h0,h1,h2,h3,h4,hF,RetG,getL,AV.nms,AO.nms,updN,nmN,shN,verOf,rng,Led]
@[simp] theorem tyUint:Types prog 199=some ⟨.int .u64,1,8,[.int .u64 0]⟩:=by kernel_rfl
def lowD (ds:List Dp) (g:Int):Nat:=ds.findIdx fun d=>decide (g≤d.1)
theorem lowD_le {ds:List Dp} {g:Int}:lowD ds g≤ds.length:=List.findIdx_le_length
noncomputable def seS (c:FuncId):List AV→List AO→Option (AV×List AO):=specG (ι:={x:Tb×Int // tbOK x.1∧ascK x.1.2.2}) (fun x=>[I x.1.1.2.2.length,.fn c [.bp 0 0,.bp 4 0]]) (fun x=>scM x.1.1 x.1.2) (fun x=>rtO [I (lowD x.1.1.2.2 x.1.2)]) fun x=>scM x.1.1 x.1.2
theorem seS_at {c:FuncId} {t:Tb} {g:Int} (ht:tbOK t) (ha:ascK t.2.2):seS c [I t.2.2.length,.fn c [.bp 0 0,.bp 4 0]] (scM t g)=some (I (lowD t.2.2 g),scM t g):=by
 refine sGe (ι:={x:Tb×Int // tbOK x.1∧ascK x.1.2.2}) (A:=fun x=>[I x.1.1.2.2.length,.fn c [.bp 0 0,.bp 4 0]]) (M:=fun x=>scM x.1.1 x.1.2) (R:=fun x=>rtO [I (lowD x.1.1.2.2 x.1.2)]) (O:=fun x=>scM x.1.1 x.1.2) ⟨(t,g),ht,ha⟩ fun j hA hM=>?_
 obtain ⟨⟨t',g'⟩,h'⟩:=j
 obtain ⟨rfl,rfl⟩:=scM_inj hM
 exact ⟨rfl,rfl⟩
theorem gp_asc {ds:List Dp} (h:ascK ds) {i j:Nat} (hij:i<j) (hj:j<ds.length):(gp ds i).1<(gp ds j).1:=by
 have:=List.pairwise_iff_getElem.1 h i j (by omega) hj hij
 rw [gp_eq (by omega),gp_eq hj];exact this
theorem lowD_at {ds:List Dp} {g:Int} {i:Nat} (hi:i≤ds.length) (h1:∀ k,k<i→¬ g≤(gp ds k).1) (h2:i<ds.length→g≤(gp ds i).1):lowD ds g=i:=by
 unfold lowD
 rcases Nat.lt_or_ge i ds.length with h|h
 ·rw [List.findIdx_eq h]
  refine ⟨by have:=h2 h;rw [gp_eq h] at this;simpa using this,fun j hj=>?_⟩
  have:=h1 j hj
  rw [gp_eq (by omega)] at this
  simpa using this
 ·have:i=ds.length:=by omega
  subst this
  rw [List.findIdx_eq_length]
  intro x hx
  obtain ⟨j,hj,rfl⟩:=List.getElem_of_mem hx
  have:=h1 j hj
  rw [gp_eq hj] at this
  simpa using this
theorem s188 (X:AX) (hX:XOK prog X) (hw:X.W wT) (c:FuncId) (hcl:X.call c=caG clS):GSd prog 188 (seS c):=by
 unfold seS
 refine gsS func188 rfl X fun ⟨⟨⟨r,ns,ds⟩,g⟩,ht,ha⟩ w0 L E=>⟨by show 2≤26;decide,?_⟩
 simp only at ha
 have hl1:ns.length≤1000000:=ht.2.1
 have hl2:ds.length≤1000000:=ht.2.2
 simp only [scM]
 show AW ⟨prog,X,26,w0,⟨L,E,5⟩⟩ _ _ _
 have hc:Cx.OK ⟨prog,X,26,w0,⟨L,E,5⟩⟩:=⟨hX,mixed⟩
 repeat' (first|(refine aSk fun K hK=>?_)|(refine eMo ?_)|(refine eC (fun h=>?_) (fun h=>?_)<;>(try simp at h))|(refine hK _ ?_;clear hK)|(clear hK;refine hK _ ?_;clear hK))
 refine aLK (s0:=?lps1) (m0:=?lpm1) (ι:={s:Nat×Nat // s.1≤s.2∧s.2≤ds.length∧(∀ k,k<s.1→¬ g≤(gp ds k).1)∧∀ k,s.2≤k→k<ds.length→g≤(gp ds k).1}) [1] (fun s=>[(5,I s.1.1),(6,I s.1.2)]) (fun _=>[]) (fun s=>s.1.2 - s.1.1) ⟨(0,ds.length),by simp,by simp,by simp,by simp only;omega⟩ ?lhs1 ?lhm1 ?_ ?_
 case lhs1=>first|(simp [kpS];done)|(simp [kpS];rfl)
 case lhm1=>first|rfl|(simp;done)|(simp;rfl)
 ·exact dle
 ·rintro ⟨⟨i,j⟩,hij,hj,h1,h2⟩
  simp only at hij hj h1 h2 ⊢
  rcases dE (i<j) with hl|hl
  ·have hlI:(i:Int)<(j:Int):=by omega
   obtain ⟨md,hh⟩:∃ md,md=(i+j)/2:=⟨_,rfl⟩
   have hhl:md<ds.length:=by omega
   have hcall:=@callCl (r,ns,ds) g md ht hhl
   simp only at hcall
   rw [← hcl] at hcall
   have hhI:((i:Int)+(j:Int))/2=(md:Int):=by rw [hh];omega
   have hs1:IntKind.u64.wrap ((i:Int)+(j:Int))=(i:Int)+j:=wrapU64 ⟨by omega,by omega⟩
   have hs2:((i:Int)+(j:Int))/2^min 1 IntKind.u64.bits=(md:Int):=by
    rw [show (2:Int)^min 1 IntKind.u64.bits=2 by simp [IntKind.bits]];exact hhI
   rcases dE (g≤(gp ds md).1) with hq|hq
   ·rw [decide_eq_true hq] at hcall
    have zS:=jj hlI<|jj hcall<|jj hhI<|jj hs1<|hs2
    repeat' (first|(refine aSk fun K hK=>?_)|(refine eM64 ?_)|(refine eC (fun h=>?_) (fun h=>?_)<;>(try simp at h))|(refine hK _ ?_;clear hK)|clear hK)
    all_goals clear zS
    refine ⟨i,md,?_,⟨by omega,by omega,fun k hk=>by have:=h1 k hk;omega,fun k hk hk2=>?_⟩,by omega⟩
    ·exact dle
    ·rcases Nat.lt_or_ge md k with h3|h3
     ·have:=gp_asc ha h3 hk2;omega
     ·obtain rfl:k=md:=by omega
      exact hq
   ·rw [decide_eq_false hq] at hcall
    have zS:=jj hlI<|jj hcall<|jj hhI<|jj hs1<|hs2
    repeat' (first|(refine aSk fun K hK=>?_)|(refine eM64 ?_)|(refine eC (fun h=>?_) (fun h=>?_)<;>(try simp at h))|(refine hK _ ?_;clear hK)|clear hK)
    all_goals clear zS
    refine ⟨md+1,j,?_,⟨by omega,by omega,fun k hk=>?_,h2⟩,by omega⟩
    ·exact dle
    ·rcases Nat.lt_or_ge k md with h3|h3
     ·have:=gp_asc ha h3 hhl;omega
     ·obtain rfl:k=md:=by omega
      omega
  ·obtain rfl:i=j:=by omega
   have e:lowD ds g=i:=lowD_at (by omega) h1 fun h=>h2 i (Nat.le_refl _) h
   repeat' (first|(refine aSk fun K hK=>?_)|(refine eMo ?_)|(refine eC (fun h=>?_) (fun h=>?_)<;>(try simp at h))|(refine hK _ ?_;clear hK)|clear hK)
   refine ⟨by simp,_,by simp [aRs,aRt,f188];rfl,?_⟩
   simp only [idx,e]
   exact dle
def sortRen:Go.Shelf.Ren :=
 {f:=fun x=>match x with
   | 6=>214
   | 10=>238
   | 11=>239
   | 12=>240
   | 13=>213
   | 14=>241
   | 24=>236
   | 25=>237
   | 26=>260
   | 27=>261
   | 28=>262
   | 29=>263
   | 30=>264
   | 31=>265
   | 32=>266
   | 33=>267
   | 34=>271
   | 35=>272
   | 36=>273
   | 37=>274
   | 38=>275
   | 39=>276
   | n=>n
  t:=fun x=>match x with
   | 20=>20
   | 26=>250
   | 35=>274
   | 0=>0
   | 37=>145
   | 3=>3
   | 41=>199
   | 44=>280
   | 49=>238
   | 51=>76
   | 4=>4
   | 54=>292
   | 53=>291
   | 58=>179
   | 5=>5
   | 9=>9
   | 60=>301
   | 64=>183
   | 66=>304
   | 67=>79
   | 17=>17
   | 32=>271
   | 33=>272
   | 82=>319
   | 12=>12
   | 75=>312
   | 76=>313
   | 77=>314
   | 78=>315
   | 79=>316
   | 80=>317
   | n=>n
  g:=fun n=>n }
theorem laySort:Go.Proofs.LaysGg.n6 prog sortRen :=
 {mixed:=mixed
  f6:=func214.trans (congrArg some (by kernel_rfl))
  f10:=func238.trans (congrArg some (by kernel_rfl))
  f11:=func239.trans (congrArg some (by kernel_rfl))
  f12:=func240.trans (congrArg some (by kernel_rfl))
  f13:=func213.trans (congrArg some (by kernel_rfl))
  f14:=func241.trans (congrArg some (by kernel_rfl))
  f24:=func236.trans (congrArg some (by kernel_rfl))
  f25:=func237.trans (congrArg some (by kernel_rfl))
  f26:=func260.trans (congrArg some (by kernel_rfl))
  f27:=func261.trans (congrArg some (by kernel_rfl))
  f28:=func262.trans (congrArg some (by kernel_rfl))
  f29:=func263.trans (congrArg some (by kernel_rfl))
  f30:=func264.trans (congrArg some (by kernel_rfl))
  f31:=func265.trans (congrArg some (by kernel_rfl))
  f32:=func266.trans (congrArg some (by kernel_rfl))
  f33:=func267.trans (congrArg some (by kernel_rfl))
  f34:=func271.trans (congrArg some (by kernel_rfl))
  f35:=func272.trans (congrArg some (by kernel_rfl))
  f36:=func273.trans (congrArg some (by kernel_rfl))
  f37:=func274.trans (congrArg some (by kernel_rfl))
  f38:=func275.trans (congrArg some (by kernel_rfl))
  f39:=func276.trans (congrArg some (by kernel_rfl))
  t0:=Tryz.underlying0
  a0:=Tryz.isAgg0
  z0:=Tryz.sizeOf0
  v0:=Tryz.zeroValue0
  t3:=Tryz.underlying3
  a3:=Tryz.isAgg3
  z3:=Tryz.sizeOf3
  v3:=Tryz.zeroValue3
  t4:=Tryz.underlying4
  a4:=Tryz.isAgg4
  z4:=Tryz.sizeOf4
  v4:=Tryz.zeroValue4
  t5:=Tryz.underlying5
  a5:=Tryz.isAgg5
  z5:=Tryz.sizeOf5
  v5:=Tryz.zeroValue5
  t9:=Tryz.underlying9
  a9:=Tryz.isAgg9
  z9:=Tryz.sizeOf9
  v9:=Tryz.zeroValue9
  t12:=Tryz.underlying12
  a12:=Tryz.isAgg12
  z12:=Tryz.sizeOf12
  v12:=Tryz.zeroValue12
  t17:=Tryz.underlying17
  a17:=Tryz.isAgg17
  z17:=Tryz.sizeOf17
  v17:=Tryz.zeroValue17
  t20:=Tryz.underlying20
  a20:=Tryz.isAgg20
  z20:=Tryz.sizeOf20
  v20:=Tryz.zeroValue20
  t26:=Tryz.underlying250
  a26:=Tryz.isAgg250
  z26:=Tryz.sizeOf250
  v26:=Tryz.zeroValue250
  t32:=Tryz.underlying271
  a32:=Tryz.isAgg271
  z32:=Tryz.sizeOf271
  v32:=Tryz.zeroValue271
  t33:=Tryz.underlying272
  a33:=Tryz.isAgg272
  z33:=Tryz.sizeOf272
  v33:=Tryz.zeroValue272
  t35:=Tryz.underlying274
  a35:=Tryz.isAgg274
  z35:=Tryz.sizeOf274
  v35:=Tryz.zeroValue274
  t37:=Tryz.underlying145
  a37:=Tryz.isAgg145
  z37:=Tryz.sizeOf145
  v37:=Tryz.zeroValue145
  t41:=Tryz.underlying199
  a41:=Tryz.isAgg199
  z41:=Tryz.sizeOf199
  v41:=Tryz.zeroValue199
  t44:=Tryz.underlying280
  a44:=Tryz.isAgg280
  z44:=Tryz.sizeOf280
  v44:=Tryz.zeroValue280
  t49:=Tryz.underlying238
  a49:=Tryz.isAgg238
  z49:=Tryz.sizeOf238
  v49:=Tryz.zeroValue238
  t51:=Tryz.underlying76
  a51:=Tryz.isAgg76
  z51:=Tryz.sizeOf76
  v51:=Tryz.zeroValue76
  t53:=Tryz.underlying291
  a53:=Tryz.isAgg291
  z53:=Tryz.sizeOf291
  v53:=Tryz.zeroValue291
  t54:=Tryz.underlying292
  a54:=Tryz.isAgg292
  z54:=Tryz.sizeOf292
  v54:=Tryz.zeroValue292
  t58:=Tryz.underlying179
  a58:=Tryz.isAgg179
  z58:=Tryz.sizeOf179
  v58:=Tryz.zeroValue179
  t60:=Tryz.underlying301
  a60:=Tryz.isAgg301
  z60:=Tryz.sizeOf301
  v60:=Tryz.zeroValue301
  t64:=Tryz.underlying183
  a64:=Tryz.isAgg183
  z64:=Tryz.sizeOf183
  v64:=Tryz.zeroValue183
  t66:=Tryz.underlying304
  a66:=Tryz.isAgg304
  z66:=Tryz.sizeOf304
  v66:=Tryz.zeroValue304
  t67:=Tryz.underlying79
  a67:=Tryz.isAgg79
  z67:=Tryz.sizeOf79
  v67:=Tryz.zeroValue79
  t75:=Tryz.underlying312
  a75:=Tryz.isAgg312
  z75:=Tryz.sizeOf312
  v75:=Tryz.zeroValue312
  t76:=Tryz.underlying313
  a76:=Tryz.isAgg313
  z76:=Tryz.sizeOf313
  v76:=Tryz.zeroValue313
  t77:=Tryz.underlying314
  a77:=Tryz.isAgg314
  z77:=Tryz.sizeOf314
  v77:=Tryz.zeroValue314
  t78:=Tryz.underlying315
  a78:=Tryz.isAgg315
  z78:=Tryz.sizeOf315
  v78:=Tryz.zeroValue315
  t79:=Tryz.underlying316
  a79:=Tryz.isAgg316
  z79:=Tryz.sizeOf316
  v79:=Tryz.zeroValue316
  t80:=Tryz.underlying317
  a80:=Tryz.isAgg317
  z80:=Tryz.sizeOf317
  v80:=Tryz.zeroValue317
  t82:=Tryz.underlying319
  a82:=Tryz.isAgg319
  z82:=Tryz.sizeOf319
  v82:=Tryz.zeroValue319
  i0:=by kernel_rfl
  i3:=by kernel_rfl
  i4:=by kernel_rfl
  i5:=by kernel_rfl
  i9:=by kernel_rfl
  i12:=by kernel_rfl
  i17:=by kernel_rfl
  i20:=by kernel_rfl
  i26:=by kernel_rfl
  i32:=by kernel_rfl
  i33:=by kernel_rfl
  i35:=by kernel_rfl
  i37:=by kernel_rfl
  i41:=by kernel_rfl
  i44:=by kernel_rfl
  i49:=by kernel_rfl
  i51:=by kernel_rfl
  i53:=by kernel_rfl
  i54:=by kernel_rfl
  i58:=by kernel_rfl
  i60:=by kernel_rfl
  i64:=by kernel_rfl
  i66:=by kernel_rfl
  i67:=by kernel_rfl
  i75:=by kernel_rfl
  i76:=by kernel_rfl
  i77:=by kernel_rfl
  i78:=by kernel_rfl
  i79:=by kernel_rfl
  i80:=by kernel_rfl
  i82:=by kernel_rfl }
end Go.AM
namespace Go.Proofs
open Go Go.Shelf Go.RowKit Go.Lib Go.Sort
noncomputable def Ptn.svT:TypeInfo:=(Tryz.prog.info? 60).get (by kernel_rfl)
noncomputable def Ptn.svE:TypeInfo:=(Tryz.prog.info? 150).get (by kernel_rfl)
theorem Ptn.svK (n:Nat) (h2:2≤n):Lib.swapperK n Ptn.svE 25=9:=by
 have a:Ptn.svE.hasPointers=false:=by kernel_rfl
 have b:Ptn.svE.bytes=72:=by kernel_rfl
 have c:(n == 0)=false:=by simp;omega
 have d:(n == 1)=false:=by simp;omega
 simp [Lib.swapperK,a,b,c,d]
set_option maxRecDepth 100000 in
set_option maxHeartbeats 2000000 in
theorem Ptn.less (blk off c Bs tb size:Nat) (W:World) (G:Nat→Int) (hb:W.cell? ⟨Bs,0,none⟩=some (.pointer (some ⟨tb,0,none⟩))) (hs:W.cell? ⟨tb,1,none⟩=some (.slice (some ⟨blk,off,none⟩) size c))
  (hc:∀ t,t<size→W.cell? ⟨blk,off+t*9,none⟩=some (.int .i64 (G t))) (i j:Nat) (hi:i<size) (hj:j<size) :
  Calls Tryz.prog 215 #[.int .i64 i,.int .i64 j,.pointer (some ⟨Bs,0,none⟩)] W fun e w'=>e=.returned (.bool (decide (G i<G j)))∧∃ q,w'=W.drewN q:=by
 have ci:=hc i hi
 have cj:=hc j hj
 go_enter Tryz.func215,Tryz.ntmps215
 go_wp2
 go_quiet (fail)
 go_wp2
 go_ret
 exact ⟨rfl,nq,rfl⟩
end Go.Proofs
