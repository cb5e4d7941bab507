/- A part of the proof: what functions of the program compute, by abstract execution of their code. Its theorems hold without further condition. -/
import Derived.Test.YtcfhmdljeeppfaaGreatSPt24
set_option linter.all false
namespace Go.AM
open Go Go.Proofs
set_option maxHeartbeats 8000000 in
theorem s123_1 (X:AX) (hX:XOK Tryz.prog X) (hw:X.W wT) (hd:∀ n:Nat,n<2^64→∀ M k,X.call 131 [U n] M k=some (.tup [EnV (decR n).1,I (decR n).2],[]))
  (hsu:∀ (e:En) (l:Nat) M n,X.call 132 [EnV e,I l] M n=some (B (suitB e l),[])) (hfi:∀ (t:Tb) f,tbOK t→∀ M n,X.call 122 [TbV t,I f] M n=some (I (fstG (fun n=>decide (n.1=f)) t.2.1),[]))
  (hde:∀ (t:Tb) f,tbOK t→∀ M n,X.call 124 [TbV t,I f] M n=some (I (fstG (fun n=>decide (n.1=f)) t.2.2),[])) (hrec:X.call 123=callG (rwS 0)):GSound Tryz.prog 123 (rwS 1):=by
 unfold rwS
 refine gsound_spec Tryz.func123 rfl X fun ⟨⟨⟨r,ns,ds⟩,n,first,led,c⟩,hx⟩ w0 L E=>⟨by show 6≤96;decide,?_⟩
 obtain ⟨ht,hn,hf,hled,hcc⟩:=hx
 simp only [ckF,ckH] at ht hn hf hled hcc
 show AW ⟨Tryz.prog,X,96,w0,⟨L,E,2⟩⟩ _ _ _
 have hc:Cx.OK ⟨Tryz.prog,X,96,w0,⟨L,E,2⟩⟩:=⟨hX,mixed⟩
 have hl1:ns.length≤1000000:=ht.2.1
 have hfi':=fun f=>hfi (r,ns,ds) f ht
 have hde':=fun f=>hde (r,ns,ds) f ht
 obtain ⟨R,hR⟩:∃ R,R=rwR 1 ((r,ns,ds),n,first,led,c):=⟨_,rfl⟩
 simp only [← hR,rwM,rwA,TbV]
 simp only [TbV] at hfi' hde'
 have hnl:n<led.length:=by omega
 have hnI:(n:Int)<(led.length:Int):=by omega
 have hnN:(n:Int)<(ns.length:Int):=by omega
 have hg0:=brows_gi hnl
 have hgE0:=brows_gE hnl
 unfold rwR at hR
 simp only at hR
 rw [wk] at hR
 cases hb:led.getD n false with
 | true =>
  rw [hb] at hR hg0 hgE0
  simp only [if_true] at hR
  subst hR
  simp only
  have zS:=jj hnl<|jj hnI<|jj hg0<|hgE0
  refine dM64 ?_
  repeat (intro K hK)
  clear zS
  refine ⟨by simp,_,by simp [aResults,aResult,Tryz.f123];rfl,?_⟩
  simp only [List.length_nil,Nat.add_zero,idx]
  exact dle
 | false =>
  rw [hb] at hR hg0 hgE0
  simp only [Bool.false_eq_true,if_false] at hR
  have hset:=@brows_set led n true
  obtain ⟨led1,hl1⟩:∃ l,l=led.set n true:=⟨_,rfl⟩
  have hled1:led1.length=led.length:=by rw [hl1];simp
  rw [← hl1] at hR hset
  have hgn:=nrows_gi hn
  have hgnE:=nrows_gE hn
  have h8:(gn ns n).2.length=8:=(ht.1 _ (gn_mem hn)).1
  have hw8:=fun i (h:i<8)=>wcs_gi (l:=(gn ns n).2) (i:=i) (by omega)
  have hwE:=fun i (h:i<8)=>wcs_gE (l:=(gn ns n).2) (i:=i) (by omega)
  have hwg:∀ i,(gn ns n).2.getD i 0=wd ns n i:=fun _=>rfl
  simp only [hwg] at hw8 hwE
  have hwl:(wcs (gn ns n).2).length=8:=by simp [h8]
  obtain ⟨⟨fr,ws⟩,hm⟩:∃ m,m=gn ns n:=⟨_,rfl⟩
  rw [← hm] at hgn hgnE hw8 hwE hwl
  simp only at hgn hgnE hw8 hwE hwl
  obtain ⟨cs,hcs⟩:∃ cs,cs=wcs ws:=⟨_,rfl⟩
  rw [← hcs] at hgn hgnE hw8 hwE hwl
  have hcu:∀ m,AV.underL m cs:=fun m=>underL_iff.2 fun a ha=>by
   rw [hcs] at ha
   obtain ⟨w,_,rfl⟩:=List.mem_map.1 ha
   trivial
  clear hcs hm h8 hwg
  have hct:List.take 8 cs=cs:=List.take_of_length_le (by omega)
  have zS:=jj hnl<|jj hnI<|jj hg0<|jj hgE0<|jj hset<|jj hgn<|jj hgnE<|jj hn<|jj hnN<|jj hwl<|hct
  repeat' (first|(apply aw_seq_k;intro K hK)|(refine eM64 ?_)|(refine aw_cond (b:=_) (by exact rfl) (fun h=>?_) (fun h=>?_)<;>(try simp at h))|(refine eB ?_)|(refine hK _ ?_;clear hK)|(clear hK;refine hK _ ?_;clear hK)|(clear hK;clear hK;refine hK _ ?_;clear hK)|(clear hK;clear hK;clear hK;refine hK _ ?_;clear hK))
  all_goals clear zS
  obtain ⟨ln,hln⟩:∃ ln,ln=led.length:=⟨_,rfl⟩
  have hRl:R.2.1.length=ln:=by rw [hR,(wkF_adds (b:=8) (wk_adds (l:=0)) 8 0 (led1,[])).1,hln];exact hled1
  rw [← hln]
  refine aw_loopK (s0:=?lps1) (m0:=?lpm1) (ι:={s:Nat×List Bool×List Int // s.1≤8∧s.2.1.length=ln∧s.2.2.length≤9*s.1∧wkF (WR ds) ns (wk (WR ds) ns 0) 1 n first (8 - s.1) s.1 (s.2.1,s.2.2)=R}) [2,3,4,5,6,31] (fun s=>[(32,I s.1.1)]) (fun s=>[(0,.vec 1 1 false (brows s.1.2.1)),(1,.box [I ((c+s.1.2.2.length:Nat):Int)])]) (fun s=>8 - s.1.1) ⟨(0,led1,[]),by simp,by simp only;omega,by simp,hR.symm⟩ ?lhs1 ?lhm1 ?_ ?_
  case lhs1=>first|(simp [keepS];done)|(simp [keepS];rfl)
  case lhm1=>first|rfl|(simp;done)|(simp;rfl)
  ·simp only [List.length_nil,Nat.add_zero]
   exact le_of2 (by simp) (by simp [AVle,AV.under,AV.underL,hcu]<;>omega) (by simp [AOle,AO.under,AV.underL,AV.under,hcu]<;>omega)
  ·clear hR hset hg0 hgE0 hb hnl hnI
   clear hl1
   rintro ⟨⟨i,led2,hs2⟩,hi,hl2,hb2,hst⟩
   simp only at hi hl2 hb2 hst ⊢
   obtain ⟨cn,hcn⟩:∃ cn,cn=c+hs2.length:=⟨_,rfl⟩
   rw [← hcn]
   rcases Decidable.em (i<8) with hi8|hi8
   ·have hiI:(i:Int)<8:=by omega
    have hw8:=hw8 i hi8
    have hwE:=hwE i hi8
    have hw64:=wd_lt ht (n:=n) (i:=i) hn
    obtain ⟨k8,hk8⟩:∃ k,8 - i=k+1:=⟨7 - i,by omega⟩
    have hk7:8 - (i+1)=k8:=by omega
    rw [hk8] at hst
    obtain ⟨w,hwd⟩:∃ w,w=wd ns n i:=⟨_,rfl⟩
    simp only at hw64
    rw [← hwd] at hw64 hw8 hwE
    have hd':=hd w hw64
    have bad:=@wkF_bad (WR ds) ns (wk (WR ds) ns 0) 1 n first k8 i (led2,hs2)
    have pl:=@wkF_pl (WR ds) ns (wk (WR ds) ns 0) 1 n first k8 i (led2,hs2)
    have adm:=@wkF_adm (WR ds) ns (wk (WR ds) ns 0) 1 n first k8 i (led2,hs2)
    have hug:=@wkF_hug (WR ds) ns (wk (WR ds) ns 0) 1 n first k8 i (led2,hs2)
    have lost:=fun g=>@wkF_lost (WR ds) ns (wk (WR ds) ns 0) 1 n first k8 i (led2,hs2) g
    have rcr:=fun g nx=>@wkF_rec (WR ds) ns (wk (WR ds) ns 0) 1 n first k8 i (led2,hs2) g nx
    have hone:=(WD_ok (admR ds)).one 1 w
    have hflat:=(WD_ok (admR ds)).flat w
    rw [← hwd] at bad pl hug lost rcr adm
    rw [hst] at bad pl hug lost rcr adm
    have hsu':=fun e=>hsu e 1
    obtain ⟨⟨⟨k,f,d,a,x,h⟩,e⟩,hE⟩:∃ r,r=decR w:=⟨_,rfl⟩
    have hok:(WR ds).ok 1 w=(decide (e=0)&&suitB (k,f,d,a,x,h) 1):=by show okWb 1 w=_;unfold okWb;rw [← hE]
    have hhg:(WR ds).hug w=(decide (k=1)&&h):=by show hugW w=_;unfold hugW;rw [← hE]
    have htb:(WR ds).tab w=if k=4 then some f else none:=by show tabW w=_;unfold tabW;rw [← hE]
    rw [← hE] at hd'
    clear hE
    simp only [EnV,U] at hd' hw8 hwE
    have hsu2:∀ M n,X.call 132 [.agg [I k,I f,B d,B a,B x,B h],I 1] M n=some (B (suitB (k,f,d,a,x,h) 1),[]):=hsu' (k,f,d,a,x,h)
    rcases Decidable.em (e=0) with he|he
    ·subst he
     cases hsb:suitB (k,f,d,a,x,h) 1 with
     | false =>
      rw [hsb] at hsu2
      have hfin:=bad (by rw [hok,hsb];rfl)
      subst hfin
      simp only
      clear pl hug lost rcr hone hflat
      have zS:=jj hiI<|jj hi8<|jj hw8<|jj hwE<|jj hwl<|jj hd'<|hsu2
      repeat' (first|(apply aw_seq_k;intro K hK)|(refine eM64 ?_)|(refine aw_cond (b:=_) (by exact rfl) (fun h=>?_) (fun h=>?_)<;>(try simp at h))|(refine eB ?_)|(refine hK _ ?_;clear hK)|(clear hK;refine hK _ ?_;clear hK)|(clear hK;clear hK;refine hK _ ?_;clear hK)|(clear hK;clear hK;clear hK;refine hK _ ?_;clear hK))
      all_goals clear zS
      refine ⟨by simp,_,by simp [aResults,aResult,Tryz.f123];rfl,?_⟩
      try simp only [← hcn]
      simp only [idx]
      exact le_of2 (by simp) (by simp [AVle,AV.under,AV.underL,hcu]<;>omega) (by simp [AOle,AO.under,AV.underL,AV.under,hcu]<;>omega)
     | true =>
      rw [hsb] at hsu2
      have hok1:(WR ds).ok 1 w=true:=by rw [hok,hsb];rfl
      rcases Decidable.em (k=1∧h=true) with hk|hk
      ·obtain ⟨rfl,rfl⟩:=hk
       obtain ⟨gq,hgq⟩:∃ g:Int,g=(((first+i*8^1)/8:Nat):Int):=⟨_,rfl⟩
       have hq2:(first:Int)/8+(i:Int)=gq:=by rw [hgq];omega
       have hadm:(WR ds).adm gq=decide (0≤fstG (fun n:Dp=>decide (n.1=gq)) ds):=rfl
       have hde2:=hde' gq
       rw [← hgq] at adm hug
       obtain ⟨q,hq⟩:∃ q,q=fstG (fun n:Dp=>decide (n.1=gq)) ds:=⟨_,rfl⟩
       rw [← hq] at hde2 hadm
       rcases Decidable.em (0≤q) with h9|h9
       ·rw [decide_eq_true h9] at hadm
        have hfin:=hug hok1 (by rw [hhg];rfl) hadm (by rw [htb];rfl)
        clear bad pl lost rcr hone hflat adm
        have h9n:¬ q<0:=by omega
        have zS:=jj hiI<|jj hi8<|jj hw8<|jj hwE<|jj hwl<|jj hd'<|jj hsu2<|jj hq2<|jj hde2<|h9n
        repeat' (first|(apply aw_seq_k;intro K hK)|(refine eM64 ?_)|(refine aw_cond (b:=_) (by exact rfl) (fun h=>?_) (fun h=>?_)<;>(try simp at h))|(refine eB ?_)|(refine hK _ ?_;clear hK)|(clear hK;refine hK _ ?_;clear hK)|(clear hK;clear hK;refine hK _ ?_;clear hK)|(clear hK;clear hK;clear hK;refine hK _ ?_;clear hK))
        all_goals clear zS
        refine ⟨i+1,led2,hs2++[gq],?_,⟨by omega,hl2,by simp only [List.length_append,List.length_singleton];omega,by rw [hk7];exact hfin.symm⟩,by omega⟩
        try simp only [List.length_append,List.length_singleton]
        exact le_of2 (by simp) (by simp [AVle,AV.under,AV.underL,hcu]<;>omega) (by simp [AOle,AO.under,AV.underL,AV.under,hcu]<;>omega)
       ·rw [decide_eq_false h9] at hadm
        have hfin:=adm hok1 (by rw [hhg];rfl) hadm
        subst hfin
        simp only
        clear bad pl lost rcr hone hflat hug
        have h9n:q<0:=by omega
        have zS:=jj hiI<|jj hi8<|jj hw8<|jj hwE<|jj hwl<|jj hd'<|jj hsu2<|jj hq2<|jj hde2<|h9n
        repeat' (first|(apply aw_seq_k;intro K hK)|(refine eM64 ?_)|(refine aw_cond (b:=_) (by exact rfl) (fun h=>?_) (fun h=>?_)<;>(try simp at h))|(refine eB ?_)|(refine hK _ ?_;clear hK)|(clear hK;refine hK _ ?_;clear hK)|(clear hK;clear hK;refine hK _ ?_;clear hK)|(clear hK;clear hK;clear hK;refine hK _ ?_;clear hK))
        all_goals clear zS
        refine ⟨by simp,_,by simp [aResults,aResult,Tryz.f123];rfl,?_⟩
        try simp only [← hcn]
        simp only [idx]
        exact le_of2 (by simp) (by simp [AVle,AV.under,AV.underL,hcu]<;>omega) (by simp [AOle,AO.under,AV.underL,AV.under,hcu]<;>omega)
      ·have hhf:(decide (k=1)&&h)=false:=by
        rw [Bool.eq_false_iff];intro hh;simp only [Bool.and_eq_true,decide_eq_true_eq] at hh;exact hk hh
       rw [hhf] at hhg
       rcases Decidable.em (k=4) with hk4|hk4
       ·subst hk4
        clear hone hflat hug pl bad adm
        have hfi2:=hfi' f
        rw [fstG_fnd] at hfi2
        cases hfn:fnd ns f with
        | none =>
         rw [hfn] at hfi2
         simp only at hfi2
         have hfin:=lost f hok1 hhg (by rw [htb];rfl) hfn
         subst hfin
         simp only
         clear lost rcr
         have zS:=jj hiI<|jj hi8<|jj hw8<|jj hwE<|jj hwl<|jj hd'<|jj hsu2<|hfi2
         repeat' (first|(apply aw_seq_k;intro K hK)|(refine eM64 ?_)|(refine aw_cond (b:=_) (by exact rfl) (fun h=>?_) (fun h=>?_)<;>(try simp at h))|(refine eB ?_)|(refine hK _ ?_;clear hK)|(clear hK;refine hK _ ?_;clear hK)|(clear hK;clear hK;refine hK _ ?_;clear hK)|(clear hK;clear hK;clear hK;refine hK _ ?_;clear hK))
         all_goals clear zS
         refine ⟨by simp,_,by simp [aResults,aResult,Tryz.f123];rfl,?_⟩
         try simp only [← hcn]
         simp only [idx]
         exact le_of2 (by simp) (by simp [AVle,AV.under,AV.underL,hcu]<;>omega) (by simp [AOle,AO.under,AV.underL,AV.under,hcu]<;>omega)
        | some nx =>
         rw [hfn] at hfi2
         simp only at hfi2
         have hnx:=fnd_lt hfn
         have hnx0:¬ (nx:Int)<0:=by omega
         have hfin:=rcr f nx hok1 hhg (by rw [htb];rfl) hfn
         clear lost rcr
         have hckk:rwOK 0 ((r,ns,ds),nx,first+i*8,led2,cn):=⟨ht,hnx,by simp only [ckF];omega,by simp only;omega,by simp only [ckH];omega⟩
         have hcall:=@callRw 0 (r,ns,ds) nx (first+i*8) led2 cn hckk false
         have hckR:rwR 0 ((r,ns,ds),nx,first+i*8,led2,cn)=wk (WR ds) ns 0 nx (first+i*8) (led2,[]):=rfl
         rw [hckR] at hcall
         have hadd:=wk_adds (D:=WR ds) (ns:=ns) (l:=0) nx (first+i*8) (led2,[])
         rw [show (8:Nat)^1=8 from rfl,wk_hom nx (first+i*8) led2 hs2] at hfin
         obtain ⟨⟨b3,led3,hs3⟩,hR3⟩:∃ R,R=wk (WR ds) ns 0 nx (first+i*8) (led2,[]):=⟨_,rfl⟩
         rw [← hR3] at hcall hfin hadd
         clear hR3 hckR hckk
         simp only [addsB,List.length_nil,Nat.zero_add] at hcall hfin hadd
         rw [hl2] at hcall hadd
         rw [← hrec] at hcall
         have hfI:((first+i*8:Nat):Int)=(first:Int)+(i:Int)*8:=by omega
         rw [hfI,show ((0:Nat):Int)=(0:Int) from rfl] at hcall
         obtain ⟨v3,hv3⟩:∃ v3,v3=cn+hs3.length:=⟨_,rfl⟩
         rw [← hv3] at hcall
         cases b3 with
         | false =>
          simp only [Bool.false_eq_true,if_false] at hfin
          subst hfin
          simp only [List.length_append]
          have zS:=jj hiI<|jj hi8<|jj hw8<|jj hwE<|jj hwl<|jj hd'<|jj hsu2<|jj hfi2<|jj hcall<|hnx0
          repeat' (first|(apply aw_seq_k;intro K hK)|(refine eM64 ?_)|(refine aw_cond (b:=_) (by exact rfl) (fun h=>?_) (fun h=>?_)<;>(try simp at h))|(refine eB ?_)|(refine hK _ ?_;clear hK)|(clear hK;refine hK _ ?_;clear hK)|(clear hK;clear hK;refine hK _ ?_;clear hK)|(clear hK;clear hK;clear hK;refine hK _ ?_;clear hK))
          all_goals clear zS
          refine ⟨by simp,_,by simp [aResults,aResult,Tryz.f123];rfl,?_⟩
          simp only [idx]
          exact le_of2 (by simp) (by simp [AVle,AV.under,AV.underL,hcu]<;>omega) (by simp [AOle,AO.under,AV.underL,AV.under,hcu]<;>omega)
         | true =>
          simp only [if_true] at hfin
          have zS:=jj hiI<|jj hi8<|jj hw8<|jj hwE<|jj hwl<|jj hd'<|jj hsu2<|jj hfi2<|jj hcall<|hnx0
          repeat' (first|(apply aw_seq_k;intro K hK)|(refine eM64 ?_)|(refine aw_cond (b:=_) (by exact rfl) (fun h=>?_) (fun h=>?_)<;>(try simp at h))|(refine eB ?_)|(refine hK _ ?_;clear hK)|(clear hK;refine hK _ ?_;clear hK)|(clear hK;clear hK;refine hK _ ?_;clear hK)|(clear hK;clear hK;clear hK;refine hK _ ?_;clear hK))
          all_goals clear zS
          refine ⟨i+1,led3,hs2++hs3,?_,⟨by omega,hadd.1,by simp only [List.length_append];omega,by rw [hk7];exact hfin.symm⟩,by omega⟩
          try simp only [List.length_append]
          exact le_of2 (by simp) (by simp [AVle,AV.under,AV.underL,hcu]<;>omega) (by simp [AOle,AO.under,AV.underL,AV.under,hcu]<;>omega)
       ·have hfin:=pl hok1 hhg (by rw [htb,if_neg hk4])
        clear bad hug lost rcr hone hflat
        rcases Decidable.em (k=1) with hk1|hk1
        ·subst hk1
         have hh0:h=false:=by cases h with|false=>rfl|true=>exact absurd ⟨rfl,rfl⟩ hk
         subst hh0
         have zS:=jj hiI<|jj hi8<|jj hw8<|jj hwE<|jj hwl<|jj hd'<|hsu2
         repeat' (first|(apply aw_seq_k;intro K hK)|(refine eM64 ?_)|(refine aw_cond (b:=_) (by exact rfl) (fun h=>?_) (fun h=>?_)<;>(try simp at h))|(refine eB ?_)|(refine hK _ ?_;clear hK)|(clear hK;refine hK _ ?_;clear hK)|(clear hK;clear hK;refine hK _ ?_;clear hK)|(clear hK;clear hK;clear hK;refine hK _ ?_;clear hK))
         all_goals clear zS
         refine ⟨i+1,led2,hs2,?_,⟨by omega,hl2,by omega,by rw [hk7];exact hfin.symm⟩,by omega⟩
         try simp only [← hcn]
         exact le_of2 (by simp) (by simp [AVle,AV.under,AV.underL,hcu]<;>omega) (by simp [AOle,AO.under,AV.underL,AV.under,hcu]<;>omega)
        ·have zS:=jj hiI<|jj hi8<|jj hw8<|jj hwE<|jj hwl<|jj hd'<|jj hsu2<|jj hk1<|hk4
         repeat' (first|(apply aw_seq_k;intro K hK)|(refine eM64 ?_)|(refine aw_cond (b:=_) (by exact rfl) (fun h=>?_) (fun h=>?_)<;>(try simp at h))|(refine eB ?_)|(refine hK _ ?_;clear hK)|(clear hK;refine hK _ ?_;clear hK)|(clear hK;clear hK;refine hK _ ?_;clear hK)|(clear hK;clear hK;clear hK;refine hK _ ?_;clear hK))
         all_goals clear zS
         refine ⟨i+1,led2,hs2,?_,⟨by omega,hl2,by omega,by rw [hk7];exact hfin.symm⟩,by omega⟩
         try simp only [← hcn]
         exact le_of2 (by simp) (by simp [AVle,AV.under,AV.underL,hcu]<;>omega) (by simp [AOle,AO.under,AV.underL,AV.under,hcu]<;>omega)
    ·have hfin:=bad (by rw [hok];simp [he])
     subst hfin
     simp only
     clear pl hug lost rcr hone hflat
     have zS:=jj hiI<|jj hi8<|jj hw8<|jj hwE<|jj hwl<|jj hd'<|he
     repeat' (first|(apply aw_seq_k;intro K hK)|(refine eM64 ?_)|(refine aw_cond (b:=_) (by exact rfl) (fun h=>?_) (fun h=>?_)<;>(try simp at h))|(refine eB ?_)|(refine hK _ ?_;clear hK)|(clear hK;refine hK _ ?_;clear hK)|(clear hK;clear hK;refine hK _ ?_;clear hK)|(clear hK;clear hK;clear hK;refine hK _ ?_;clear hK))
     all_goals clear zS
     refine ⟨by simp,_,by simp [aResults,aResult,Tryz.f123];rfl,?_⟩
     try simp only [← hcn]
     simp only [idx]
     exact le_of2 (by simp) (by simp [AVle,AV.under,AV.underL,hcu]<;>omega) (by simp [AOle,AO.under,AV.underL,AV.under,hcu]<;>omega)
   ·obtain rfl:i=8:=by omega
    simp only [Nat.sub_self,wkF] at hst
    subst hst
    simp only
    repeat' (first|(apply aw_seq_k;intro K hK)|(refine eM64o ?_)|(refine aw_cond (b:=_) (by exact rfl) (fun h=>?_) (fun h=>?_)<;>(try simp at h))|(refine eB ?_)|(refine hK _ ?_;clear hK)|(clear hK;refine hK _ ?_;clear hK)|(clear hK;clear hK;refine hK _ ?_;clear hK)|(clear hK;clear hK;clear hK;refine hK _ ?_;clear hK))
    refine ⟨by simp,_,by simp [aResults,aResult,Tryz.f123];rfl,?_⟩
    try simp only [← hcn]
    simp only [idx]
    exact le_of2 (by simp) (by simp [AVle,AV.under,AV.underL,hcu]<;>omega) (by simp [AOle,AO.under,AV.underL,AV.under,hcu]<;>omega)
end Go.AM
namespace Go.AM
open Go Go.Proofs
set_option maxHeartbeats 8000000 in
theorem s123_2 (X:AX) (hX:XOK Tryz.prog X) (hw:X.W wT) (hd:∀ n:Nat,n<2^64→∀ M k,X.call 131 [U n] M k=some (.tup [EnV (decR n).1,I (decR n).2],[]))
  (hsu:∀ (e:En) (l:Nat) M n,X.call 132 [EnV e,I l] M n=some (B (suitB e l),[])) (hfi:∀ (t:Tb) f,tbOK t→∀ M n,X.call 122 [TbV t,I f] M n=some (I (fstG (fun n=>decide (n.1=f)) t.2.1),[]))
  (hde:∀ (t:Tb) f,tbOK t→∀ M n,X.call 124 [TbV t,I f] M n=some (I (fstG (fun n=>decide (n.1=f)) t.2.2),[])) (hrec:X.call 123=callG (rwS 1)):GSound Tryz.prog 123 (rwS 2):=by
 unfold rwS
 refine gsound_spec Tryz.func123 rfl X fun ⟨⟨⟨r,ns,ds⟩,n,first,led,c⟩,hx⟩ w0 L E=>⟨by show 6≤96;decide,?_⟩
 obtain ⟨ht,hn,hf,hled,hcc⟩:=hx
 simp only [ckF,ckH] at ht hn hf hled hcc
 show AW ⟨Tryz.prog,X,96,w0,⟨L,E,2⟩⟩ _ _ _
 have hc:Cx.OK ⟨Tryz.prog,X,96,w0,⟨L,E,2⟩⟩:=⟨hX,mixed⟩
 have hl1:ns.length≤1000000:=ht.2.1
 have hfi':=fun f=>hfi (r,ns,ds) f ht
 have hde':=fun f=>hde (r,ns,ds) f ht
 obtain ⟨R,hR⟩:∃ R,R=rwR 2 ((r,ns,ds),n,first,led,c):=⟨_,rfl⟩
 simp only [← hR,rwM,rwA,TbV]
 simp only [TbV] at hfi' hde'
 have hnl:n<led.length:=by omega
 have hnI:(n:Int)<(led.length:Int):=by omega
 have hnN:(n:Int)<(ns.length:Int):=by omega
 have hg0:=brows_gi hnl
 have hgE0:=brows_gE hnl
 unfold rwR at hR
 simp only at hR
 rw [wk] at hR
 cases hb:led.getD n false with
 | true =>
  rw [hb] at hR hg0 hgE0
  simp only [if_true] at hR
  subst hR
  simp only
  have zS:=jj hnl<|jj hnI<|jj hg0<|hgE0
  refine dM64 ?_
  repeat (intro K hK)
  clear zS
  refine ⟨by simp,_,by simp [aResults,aResult,Tryz.f123];rfl,?_⟩
  simp only [List.length_nil,Nat.add_zero,idx]
  exact dle
 | false =>
  rw [hb] at hR hg0 hgE0
  simp only [Bool.false_eq_true,if_false] at hR
  have hset:=@brows_set led n true
  obtain ⟨led1,hl1⟩:∃ l,l=led.set n true:=⟨_,rfl⟩
  have hled1:led1.length=led.length:=by rw [hl1];simp
  rw [← hl1] at hR hset
  have hgn:=nrows_gi hn
  have hgnE:=nrows_gE hn
  have h8:(gn ns n).2.length=8:=(ht.1 _ (gn_mem hn)).1
  have hw8:=fun i (h:i<8)=>wcs_gi (l:=(gn ns n).2) (i:=i) (by omega)
  have hwE:=fun i (h:i<8)=>wcs_gE (l:=(gn ns n).2) (i:=i) (by omega)
  have hwg:∀ i,(gn ns n).2.getD i 0=wd ns n i:=fun _=>rfl
  simp only [hwg] at hw8 hwE
  have hwl:(wcs (gn ns n).2).length=8:=by simp [h8]
  obtain ⟨⟨fr,ws⟩,hm⟩:∃ m,m=gn ns n:=⟨_,rfl⟩
  rw [← hm] at hgn hgnE hw8 hwE hwl
  simp only at hgn hgnE hw8 hwE hwl
  obtain ⟨cs,hcs⟩:∃ cs,cs=wcs ws:=⟨_,rfl⟩
  rw [← hcs] at hgn hgnE hw8 hwE hwl
  have hcu:∀ m,AV.underL m cs:=fun m=>underL_iff.2 fun a ha=>by
   rw [hcs] at ha
   obtain ⟨w,_,rfl⟩:=List.mem_map.1 ha
   trivial
  clear hcs hm h8 hwg
  have hct:List.take 8 cs=cs:=List.take_of_length_le (by omega)
  have zS:=jj hnl<|jj hnI<|jj hg0<|jj hgE0<|jj hset<|jj hgn<|jj hgnE<|jj hn<|jj hnN<|jj hwl<|hct
  repeat' (first|(apply aw_seq_k;intro K hK)|(refine eM64 ?_)|(refine aw_cond (b:=_) (by exact rfl) (fun h=>?_) (fun h=>?_)<;>(try simp at h))|(refine eB ?_)|(refine hK _ ?_;clear hK)|(clear hK;refine hK _ ?_;clear hK)|(clear hK;clear hK;refine hK _ ?_;clear hK)|(clear hK;clear hK;clear hK;refine hK _ ?_;clear hK))
  all_goals clear zS
  obtain ⟨ln,hln⟩:∃ ln,ln=led.length:=⟨_,rfl⟩
  have hRl:R.2.1.length=ln:=by rw [hR,(wkF_adds (b:=72) (wk_adds (l:=1)) 8 0 (led1,[])).1,hln];exact hled1
  rw [← hln]
  refine aw_loopK (s0:=?lps1) (m0:=?lpm1) (ι:={s:Nat×List Bool×List Int // s.1≤8∧s.2.1.length=ln∧s.2.2.length≤73*s.1∧wkF (WR ds) ns (wk (WR ds) ns 1) 2 n first (8 - s.1) s.1 (s.2.1,s.2.2)=R}) [2,3,4,5,6,31] (fun s=>[(32,I s.1.1)]) (fun s=>[(0,.vec 1 1 false (brows s.1.2.1)),(1,.box [I ((c+s.1.2.2.length:Nat):Int)])]) (fun s=>8 - s.1.1) ⟨(0,led1,[]),by simp,by simp only;omega,by simp,hR.symm⟩ ?lhs1 ?lhm1 ?_ ?_
  case lhs1=>first|(simp [keepS];done)|(simp [keepS];rfl)
  case lhm1=>first|rfl|(simp;done)|(simp;rfl)
  ·simp only [List.length_nil,Nat.add_zero]
   exact le_of2 (by simp) (by simp [AVle,AV.under,AV.underL,hcu]<;>omega) (by simp [AOle,AO.under,AV.underL,AV.under,hcu]<;>omega)
  ·clear hR hset hg0 hgE0 hb hnl hnI
   clear hl1
   rintro ⟨⟨i,led2,hs2⟩,hi,hl2,hb2,hst⟩
   simp only at hi hl2 hb2 hst ⊢
   obtain ⟨cn,hcn⟩:∃ cn,cn=c+hs2.length:=⟨_,rfl⟩
   rw [← hcn]
   rcases Decidable.em (i<8) with hi8|hi8
   ·have hiI:(i:Int)<8:=by omega
    have hw8:=hw8 i hi8
    have hwE:=hwE i hi8
    have hw64:=wd_lt ht (n:=n) (i:=i) hn
    obtain ⟨k8,hk8⟩:∃ k,8 - i=k+1:=⟨7 - i,by omega⟩
    have hk7:8 - (i+1)=k8:=by omega
    rw [hk8] at hst
    obtain ⟨w,hwd⟩:∃ w,w=wd ns n i:=⟨_,rfl⟩
    simp only at hw64
    rw [← hwd] at hw64 hw8 hwE
    have hd':=hd w hw64
    have bad:=@wkF_bad (WR ds) ns (wk (WR ds) ns 1) 2 n first k8 i (led2,hs2)
    have pl:=@wkF_pl (WR ds) ns (wk (WR ds) ns 1) 2 n first k8 i (led2,hs2)
    have adm:=@wkF_adm (WR ds) ns (wk (WR ds) ns 1) 2 n first k8 i (led2,hs2)
    have hug:=@wkF_hug (WR ds) ns (wk (WR ds) ns 1) 2 n first k8 i (led2,hs2)
    have lost:=fun g=>@wkF_lost (WR ds) ns (wk (WR ds) ns 1) 2 n first k8 i (led2,hs2) g
    have rcr:=fun g nx=>@wkF_rec (WR ds) ns (wk (WR ds) ns 1) 2 n first k8 i (led2,hs2) g nx
    have hone:=(WD_ok (admR ds)).one 2 w
    have hflat:=(WD_ok (admR ds)).flat w
    rw [← hwd] at bad pl hug lost rcr adm
    rw [hst] at bad pl hug lost rcr adm
    have hsu':=fun e=>hsu e 2
    obtain ⟨⟨⟨k,f,d,a,x,h⟩,e⟩,hE⟩:∃ r,r=decR w:=⟨_,rfl⟩
    have hok:(WR ds).ok 2 w=(decide (e=0)&&suitB (k,f,d,a,x,h) 2):=by show okWb 2 w=_;unfold okWb;rw [← hE]
    have hhg:(WR ds).hug w=(decide (k=1)&&h):=by show hugW w=_;unfold hugW;rw [← hE]
    have htb:(WR ds).tab w=if k=4 then some f else none:=by show tabW w=_;unfold tabW;rw [← hE]
    rw [← hE] at hd'
    clear hE
    simp only [EnV,U] at hd' hw8 hwE
    have hsu2:∀ M n,X.call 132 [.agg [I k,I f,B d,B a,B x,B h],I 2] M n=some (B (suitB (k,f,d,a,x,h) 2),[]):=hsu' (k,f,d,a,x,h)
    rcases Decidable.em (e=0) with he|he
    ·subst he
     cases hsb:suitB (k,f,d,a,x,h) 2 with
     | false =>
      rw [hsb] at hsu2
      have hfin:=bad (by rw [hok,hsb];rfl)
      subst hfin
      simp only
      clear pl hug lost rcr hone hflat
      have zS:=jj hiI<|jj hi8<|jj hw8<|jj hwE<|jj hwl<|jj hd'<|hsu2
      repeat' (first|(apply aw_seq_k;intro K hK)|(refine eM64 ?_)|(refine aw_cond (b:=_) (by exact rfl) (fun h=>?_) (fun h=>?_)<;>(try simp at h))|(refine eB ?_)|(refine hK _ ?_;clear hK)|(clear hK;refine hK _ ?_;clear hK)|(clear hK;clear hK;refine hK _ ?_;clear hK)|(clear hK;clear hK;clear hK;refine hK _ ?_;clear hK))
      all_goals clear zS
      refine ⟨by simp,_,by simp [aResults,aResult,Tryz.f123];rfl,?_⟩
      try simp only [← hcn]
      simp only [idx]
      exact le_of2 (by simp) (by simp [AVle,AV.under,AV.underL,hcu]<;>omega) (by simp [AOle,AO.under,AV.underL,AV.under,hcu]<;>omega)
     | true =>
      rw [hsb] at hsu2
      have hok1:(WR ds).ok 2 w=true:=by rw [hok,hsb];rfl
      rcases Decidable.em (k=1∧h=true) with hk|hk
      ·obtain ⟨rfl,rfl⟩:=hk
       exact absurd (hone hok1 (by rw [hhg];rfl)) (by decide)
      ·have hhf:(decide (k=1)&&h)=false:=by
        rw [Bool.eq_false_iff];intro hh;simp only [Bool.and_eq_true,decide_eq_true_eq] at hh;exact hk hh
       rw [hhf] at hhg
       rcases Decidable.em (k=4) with hk4|hk4
       ·subst hk4
        clear hone hflat hug pl bad adm
        have hfi2:=hfi' f
        rw [fstG_fnd] at hfi2
        cases hfn:fnd ns f with
        | none =>
         rw [hfn] at hfi2
         simp only at hfi2
         have hfin:=lost f hok1 hhg (by rw [htb];rfl) hfn
         subst hfin
         simp only
         clear lost rcr
         have zS:=jj hiI<|jj hi8<|jj hw8<|jj hwE<|jj hwl<|jj hd'<|jj hsu2<|hfi2
         repeat' (first|(apply aw_seq_k;intro K hK)|(refine eM64 ?_)|(refine aw_cond (b:=_) (by exact rfl) (fun h=>?_) (fun h=>?_)<;>(try simp at h))|(refine eB ?_)|(refine hK _ ?_;clear hK)|(clear hK;refine hK _ ?_;clear hK)|(clear hK;clear hK;refine hK _ ?_;clear hK)|(clear hK;clear hK;clear hK;refine hK _ ?_;clear hK))
         all_goals clear zS
         refine ⟨by simp,_,by simp [aResults,aResult,Tryz.f123];rfl,?_⟩
         try simp only [← hcn]
         simp only [idx]
         exact le_of2 (by simp) (by simp [AVle,AV.under,AV.underL,hcu]<;>omega) (by simp [AOle,AO.under,AV.underL,AV.under,hcu]<;>omega)
        | some nx =>
         rw [hfn] at hfi2
         simp only at hfi2
         have hnx:=fnd_lt hfn
         have hnx0:¬ (nx:Int)<0:=by omega
         have hfin:=rcr f nx hok1 hhg (by rw [htb];rfl) hfn
         clear lost rcr
         have hckk:rwOK 1 ((r,ns,ds),nx,first+i*64,led2,cn):=⟨ht,hnx,by simp only [ckF];omega,by simp only;omega,by simp only [ckH];omega⟩
         have hcall:=@callRw 1 (r,ns,ds) nx (first+i*64) led2 cn hckk false
         have hckR:rwR 1 ((r,ns,ds),nx,first+i*64,led2,cn)=wk (WR ds) ns 1 nx (first+i*64) (led2,[]):=rfl
         rw [hckR] at hcall
         have hadd:=wk_adds (D:=WR ds) (ns:=ns) (l:=1) nx (first+i*64) (led2,[])
         rw [show (8:Nat)^2=64 from rfl,wk_hom nx (first+i*64) led2 hs2] at hfin
         obtain ⟨⟨b3,led3,hs3⟩,hR3⟩:∃ R,R=wk (WR ds) ns 1 nx (first+i*64) (led2,[]):=⟨_,rfl⟩
         rw [← hR3] at hcall hfin hadd
         clear hR3 hckR hckk
         simp only [addsB,List.length_nil,Nat.zero_add] at hcall hfin hadd
         rw [hl2] at hcall hadd
         rw [← hrec] at hcall
         have hfI:((first+i*64:Nat):Int)=(first:Int)+(i:Int)*64:=by omega
         rw [hfI,show ((1:Nat):Int)=(1:Int) from rfl] at hcall
         obtain ⟨v3,hv3⟩:∃ v3,v3=cn+hs3.length:=⟨_,rfl⟩
         rw [← hv3] at hcall
         cases b3 with
         | false =>
          simp only [Bool.false_eq_true,if_false] at hfin
          subst hfin
          simp only [List.length_append]
          have zS:=jj hiI<|jj hi8<|jj hw8<|jj hwE<|jj hwl<|jj hd'<|jj hsu2<|jj hfi2<|jj hcall<|hnx0
          repeat' (first|(apply aw_seq_k;intro K hK)|(refine eM64 ?_)|(refine aw_cond (b:=_) (by exact rfl) (fun h=>?_) (fun h=>?_)<;>(try simp at h))|(refine eB ?_)|(refine hK _ ?_;clear hK)|(clear hK;refine hK _ ?_;clear hK)|(clear hK;clear hK;refine hK _ ?_;clear hK)|(clear hK;clear hK;clear hK;refine hK _ ?_;clear hK))
          all_goals clear zS
          refine ⟨by simp,_,by simp [aResults,aResult,Tryz.f123];rfl,?_⟩
          simp only [idx]
          exact le_of2 (by simp) (by simp [AVle,AV.under,AV.underL,hcu]<;>omega) (by simp [AOle,AO.under,AV.underL,AV.under,hcu]<;>omega)
         | true =>
          simp only [if_true] at hfin
          have zS:=jj hiI<|jj hi8<|jj hw8<|jj hwE<|jj hwl<|jj hd'<|jj hsu2<|jj hfi2<|jj hcall<|hnx0
          repeat' (first|(apply aw_seq_k;intro K hK)|(refine eM64 ?_)|(refine aw_cond (b:=_) (by exact rfl) (fun h=>?_) (fun h=>?_)<;>(try simp at h))|(refine eB ?_)|(refine hK _ ?_;clear hK)|(clear hK;refine hK _ ?_;clear hK)|(clear hK;clear hK;refine hK _ ?_;clear hK)|(clear hK;clear hK;clear hK;refine hK _ ?_;clear hK))
          all_goals clear zS
          refine ⟨i+1,led3,hs2++hs3,?_,⟨by omega,hadd.1,by simp only [List.length_append];omega,by rw [hk7];exact hfin.symm⟩,by omega⟩
          try simp only [List.length_append]
          exact le_of2 (by simp) (by simp [AVle,AV.under,AV.underL,hcu]<;>omega) (by simp [AOle,AO.under,AV.underL,AV.under,hcu]<;>omega)
       ·have hfin:=pl hok1 hhg (by rw [htb,if_neg hk4])
        clear bad hug lost rcr hone hflat
        rcases Decidable.em (k=1) with hk1|hk1
        ·subst hk1
         have hh0:h=false:=by cases h with|false=>rfl|true=>exact absurd ⟨rfl,rfl⟩ hk
         subst hh0
         have zS:=jj hiI<|jj hi8<|jj hw8<|jj hwE<|jj hwl<|jj hd'<|hsu2
         repeat' (first|(apply aw_seq_k;intro K hK)|(refine eM64 ?_)|(refine aw_cond (b:=_) (by exact rfl) (fun h=>?_) (fun h=>?_)<;>(try simp at h))|(refine eB ?_)|(refine hK _ ?_;clear hK)|(clear hK;refine hK _ ?_;clear hK)|(clear hK;clear hK;refine hK _ ?_;clear hK)|(clear hK;clear hK;clear hK;refine hK _ ?_;clear hK))
         all_goals clear zS
         refine ⟨i+1,led2,hs2,?_,⟨by omega,hl2,by omega,by rw [hk7];exact hfin.symm⟩,by omega⟩
         try simp only [← hcn]
         exact le_of2 (by simp) (by simp [AVle,AV.under,AV.underL,hcu]<;>omega) (by simp [AOle,AO.under,AV.underL,AV.under,hcu]<;>omega)
        ·have zS:=jj hiI<|jj hi8<|jj hw8<|jj hwE<|jj hwl<|jj hd'<|jj hsu2<|jj hk1<|hk4
         repeat' (first|(apply aw_seq_k;intro K hK)|(refine eM64 ?_)|(refine aw_cond (b:=_) (by exact rfl) (fun h=>?_) (fun h=>?_)<;>(try simp at h))|(refine eB ?_)|(refine hK _ ?_;clear hK)|(clear hK;refine hK _ ?_;clear hK)|(clear hK;clear hK;refine hK _ ?_;clear hK)|(clear hK;clear hK;clear hK;refine hK _ ?_;clear hK))
         all_goals clear zS
         refine ⟨i+1,led2,hs2,?_,⟨by omega,hl2,by omega,by rw [hk7];exact hfin.symm⟩,by omega⟩
         try simp only [← hcn]
         exact le_of2 (by simp) (by simp [AVle,AV.under,AV.underL,hcu]<;>omega) (by simp [AOle,AO.under,AV.underL,AV.under,hcu]<;>omega)
    ·have hfin:=bad (by rw [hok];simp [he])
     subst hfin
     simp only
     clear pl hug lost rcr hone hflat
     have zS:=jj hiI<|jj hi8<|jj hw8<|jj hwE<|jj hwl<|jj hd'<|he
     repeat' (first|(apply aw_seq_k;intro K hK)|(refine eM64 ?_)|(refine aw_cond (b:=_) (by exact rfl) (fun h=>?_) (fun h=>?_)<;>(try simp at h))|(refine eB ?_)|(refine hK _ ?_;clear hK)|(clear hK;refine hK _ ?_;clear hK)|(clear hK;clear hK;refine hK _ ?_;clear hK)|(clear hK;clear hK;clear hK;refine hK _ ?_;clear hK))
     all_goals clear zS
     refine ⟨by simp,_,by simp [aResults,aResult,Tryz.f123];rfl,?_⟩
     try simp only [← hcn]
     simp only [idx]
     exact le_of2 (by simp) (by simp [AVle,AV.under,AV.underL,hcu]<;>omega) (by simp [AOle,AO.under,AV.underL,AV.under,hcu]<;>omega)
   ·obtain rfl:i=8:=by omega
    simp only [Nat.sub_self,wkF] at hst
    subst hst
    simp only
    repeat' (first|(apply aw_seq_k;intro K hK)|(refine eM64o ?_)|(refine aw_cond (b:=_) (by exact rfl) (fun h=>?_) (fun h=>?_)<;>(try simp at h))|(refine eB ?_)|(refine hK _ ?_;clear hK)|(clear hK;refine hK _ ?_;clear hK)|(clear hK;clear hK;refine hK _ ?_;clear hK)|(clear hK;clear hK;clear hK;refine hK _ ?_;clear hK))
    refine ⟨by simp,_,by simp [aResults,aResult,Tryz.f123];rfl,?_⟩
    try simp only [← hcn]
    simp only [idx]
    exact le_of2 (by simp) (by simp [AVle,AV.under,AV.underL,hcu]<;>omega) (by simp [AOle,AO.under,AV.underL,AV.under,hcu]<;>omega)
end Go.AM
namespace Go.AM
open Go Go.Proofs
set_option maxHeartbeats 2000000 in
set_option maxRecDepth 4000 in
theorem callRwT {l:Nat} {t:Tb} {n f:Nat} {led:List Bool} {c:Nat} (h:rwOK l (t,n,f,led,c)) {fl1:Bool} (M:Nat→AO) (nid:Nat)
  (h0:M 320=.vec 1 1 fl1 (brows led)) (h1:M 352=.box [I c]) :
  callG (rwS l) [.agg [I t.1,.rd 9 (nrows t.2.1),.rd 2 (prows t.2.2)],I n,I l,I f,.sl 320 1 1 0 led.length,.bp 352 0] M nid=some (B (rwR l (t,n,f,led,c)).1,[(320,.vec 1 1 false (brows (rwR l (t,n,f,led,c)).2.1)),(352,.box [I ((c+(rwR l (t,n,f,led,c)).2.2.length:Nat):Int)])]):=by
 have hF:=rwS_at h
 simp only [rwA,rwM,TbV] at hF
 obtain ⟨R,hR⟩:∃ R,R=rwR l (t,n,f,led,c):=⟨_,rfl⟩
 rw [← hR] at hF ⊢
 unfold callG
 have hg:gat M 64 (nmsL [.agg [I t.1,.rd 9 (nrows t.2.1),.rd 2 (prows t.2.2)],I n,I l,I f,.sl 320 1 1 0 led.length,.bp 352 0]) []=[320,352]:=by
  simp [gat,nmsL,AV.nms,AO.nms,h0,h1]
 simp only [hg]
 rw [if_pos ?cg]
 case cg=>simp [CallG,nmsL,AV.nms,AO.nms,Led,curBL,AV.curB,AO.curB,verOf,notDead,h0,h1]
 simp [renL,AV.ren,AO.ren,posN,canO,nmsL,h0,h1,hF,RetG,getL,AV.nms,AO.nms,updN,nmN,shN,verOf,rng,Led]
end Go.AM
