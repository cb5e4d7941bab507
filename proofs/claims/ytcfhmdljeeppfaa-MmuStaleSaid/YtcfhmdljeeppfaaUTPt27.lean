/- A part of the proof: what functions of the program compute, by abstract execution of their code. Its theorems hold without further condition. -/
import Derived.Test.YtcfhmdljeeppfaaUTPt21
set_option linter.all false
namespace Go.AM
open Go Go.Proofs
set_option maxHeartbeats 8000000 in
theorem s84_1 (X:AX) (hX:XOK Try.prog X) (hw:X.W wT) (hd:∀ n:Nat,n<2^64→∀ M k,X.call 96 [U n] M k=some (.tup [EnV (decR n).1,I (decR n).2],[]))
  (hsu:∀ (e:En) (l:Nat) M n,X.call 110 [EnV e,I l] M n=some (B (suitB e l),[])) (hfi:∀ (t:Tb) f,tbOK t→∀ M n,X.call 83 [TbV t,I f] M n=some (I (fstG (fun n=>decide (n.1=f)) t.2.1),[]))
  (hde:∀ (t:Tb) f,tbOK t→∀ M n,X.call 125 [TbV t,I f] M n=some (I (fstG (fun n=>decide (n.1=f)) t.2.2),[])) (hrec:X.call 84=callG (rwS 0)):GSound Try.prog 84 (rwS 1):=by
 unfold rwS
 refine gsound_spec Try.func84 rfl X fun ⟨⟨⟨r,ns,ds⟩,n,first,led,c⟩,hx⟩ w0 L E=>⟨by show 6≤96;decide,?_⟩
 obtain ⟨ht,hn,hf,hled,hcc⟩:=hx
 simp only [ckF,ckH] at ht hn hf hled hcc
 show AW ⟨Try.prog,X,96,w0,⟨L,E,2⟩⟩ _ _ _
 have hc:Cx.OK ⟨Try.prog,X,96,w0,⟨L,E,2⟩⟩:=⟨hX,mixed⟩
 have hl1:ns.length≤1000000:=ht.2.1
 have hfi':=fun f=>hfi (r,ns,ds) f ht
 have hde':=fun f=>hde (r,ns,ds) f ht
 obtain ⟨R,hR⟩:∃ R,R=rwR 1 ((r,ns,ds),n,first,led,c):=⟨_,rfl⟩
 simp only [← hR,rwM,rwA,TbV]
 simp only [TbV] at hfi' hde'
 have hnl:n<led.length:=by omega
 have hnI:(n:Int)<(led.length:Int):=by omega
 have hnN:(n:Int)<(ns.length:Int):=by omega
 have hg0:=brows_gi hnl
 have hgE0:=brows_gE hnl
 unfold rwR at hR
 simp only at hR
 rw [wk] at hR
 cases hb:led.getD n false with
 | true =>
  rw [hb] at hR hg0 hgE0
  simp only [if_true] at hR
  subst hR
  simp only
  have zS:=jj hnl<|jj hnI<|jj hg0<|hgE0
  refine dM64 ?_
  repeat (intro K hK)
  clear zS
  refine ⟨by simp,_,by simp [aResults,aResult,Try.f84];rfl,?_⟩
  simp only [List.length_nil,Nat.add_zero,idx]
  exact dle
 | false =>
  rw [hb] at hR hg0 hgE0
  simp only [Bool.false_eq_true,if_false] at hR
  have hset:=@brows_set led n true
  obtain ⟨led1,hl1⟩:∃ l,l=led.set n true:=⟨_,rfl⟩
  have hled1:led1.length=led.length:=by rw [hl1];simp
  rw [← hl1] at hR hset
  have hgn:=nrows_gi hn
  have hgnE:=nrows_gE hn
  have h8:(gn ns n).2.length=8:=(ht.1 _ (gn_mem hn)).1
  have hw8:=fun i (h:i<8)=>wcs_gi (l:=(gn ns n).2) (i:=i) (by omega)
  have hwE:=fun i (h:i<8)=>wcs_gE (l:=(gn ns n).2) (i:=i) (by omega)
  have hwg:∀ i,(gn ns n).2.getD i 0=wd ns n i:=fun _=>rfl
  simp only [hwg] at hw8 hwE
  have hwl:(wcs (gn ns n).2).length=8:=by simp [h8]
  obtain ⟨⟨fr,ws⟩,hm⟩:∃ m,m=gn ns n:=⟨_,rfl⟩
  rw [← hm] at hgn hgnE hw8 hwE hwl
  simp only at hgn hgnE hw8 hwE hwl
  obtain ⟨cs,hcs⟩:∃ cs,cs=wcs ws:=⟨_,rfl⟩
  rw [← hcs] at hgn hgnE hw8 hwE hwl
  have hcu:∀ m,AV.underL m cs:=fun m=>underL_iff.2 fun a ha=>by
   rw [hcs] at ha
   obtain ⟨w,_,rfl⟩:=List.mem_map.1 ha
   trivial
  clear hcs hm h8 hwg
  have hct:List.take 8 cs=cs:=List.take_of_length_le (by omega)
  have zS:=jj hnl<|jj hnI<|jj hg0<|jj hgE0<|jj hset<|jj hgn<|jj hgnE<|jj hn<|jj hnN<|jj hwl<|hct
  repeat' (first|(apply aw_seq_k;intro K hK)|(refine eM64 ?_)|(refine aw_cond (b:=_) (by exact rfl) (fun h=>?_) (fun h=>?_)<;>(try simp at h))|(refine eB ?_)|(refine hK _ ?_;clear hK)|(clear hK;refine hK _ ?_;clear hK)|(clear hK;clear hK;refine hK _ ?_;clear hK)|(clear hK;clear hK;clear hK;refine hK _ ?_;clear hK))
  all_goals clear zS
  obtain ⟨ln,hln⟩:∃ ln,ln=led.length:=⟨_,rfl⟩
  have hRl:R.2.1.length=ln:=by rw [hR,(wkF_adds (b:=8) (wk_adds (l:=0)) 8 0 (led1,[])).1,hln];exact hled1
  rw [← hln]
  refine aw_loopK (s0:=?lps1) (m0:=?lpm1) (ι:={s:Nat×List Bool×List Int // s.1≤8∧s.2.1.length=ln∧s.2.2.length≤9*s.1∧wkF (WR ds) ns (wk (WR ds) ns 0) 1 n first (8 - s.1) s.1 (s.2.1,s.2.2)=R}) [2,3,4,5,6,31] (fun s=>[(32,I s.1.1)]) (fun s=>[(0,.vec 1 1 false (brows s.1.2.1)),(1,.box [I ((c+s.1.2.2.length:Nat):Int)])]) (fun s=>8 - s.1.1) ⟨(0,led1,[]),by simp,by simp only;omega,by simp,hR.symm⟩ ?lhs1 ?lhm1 ?_ ?_
  case lhs1=>first|(simp [keepS];done)|(simp [keepS];rfl)
  case lhm1=>first|rfl|(simp;done)|(simp;rfl)
  ·simp only [List.length_nil,Nat.add_zero]
   exact le_of2 (by simp) (by simp [AVle,AV.under,AV.underL,hcu]<;>omega) (by simp [AOle,AO.under,AV.underL,AV.under,hcu]<;>omega)
  ·clear hR hset hg0 hgE0 hb hnl hnI
   clear hl1
   rintro ⟨⟨i,led2,hs2⟩,hi,hl2,hb2,hst⟩
   simp only at hi hl2 hb2 hst ⊢
   obtain ⟨cn,hcn⟩:∃ cn,cn=c+hs2.length:=⟨_,rfl⟩
   rw [← hcn]
   rcases Decidable.em (i<8) with hi8|hi8
   ·have hiI:(i:Int)<8:=by omega
    have hw8:=hw8 i hi8
    have hwE:=hwE i hi8
    have hw64:=wd_lt ht (n:=n) (i:=i) hn
    obtain ⟨k8,hk8⟩:∃ k,8 - i=k+1:=⟨7 - i,by omega⟩
    have hk7:8 - (i+1)=k8:=by omega
    rw [hk8] at hst
    obtain ⟨w,hwd⟩:∃ w,w=wd ns n i:=⟨_,rfl⟩
    simp only at hw64
    rw [← hwd] at hw64 hw8 hwE
    have hd':=hd w hw64
    have bad:=@wkF_bad (WR ds) ns (wk (WR ds) ns 0) 1 n first k8 i (led2,hs2)
    have pl:=@wkF_pl (WR ds) ns (wk (WR ds) ns 0) 1 n first k8 i (led2,hs2)
    have adm:=@wkF_adm (WR ds) ns (wk (WR ds) ns 0) 1 n first k8 i (led2,hs2)
    have hug:=@wkF_hug (WR ds) ns (wk (WR ds) ns 0) 1 n first k8 i (led2,hs2)
    have lost:=fun g=>@wkF_lost (WR ds) ns (wk (WR ds) ns 0) 1 n first k8 i (led2,hs2) g
    have rcr:=fun g nx=>@wkF_rec (WR ds) ns (wk (WR ds) ns 0) 1 n first k8 i (led2,hs2) g nx
    have hone:=(WD_ok (admR ds)).one 1 w
    have hflat:=(WD_ok (admR ds)).flat w
    rw [← hwd] at bad pl hug lost rcr adm
    rw [hst] at bad pl hug lost rcr adm
    have hsu':=fun e=>hsu e 1
    obtain ⟨⟨⟨k,f,d,a,x,h⟩,e⟩,hE⟩:∃ r,r=decR w:=⟨_,rfl⟩
    have hok:(WR ds).ok 1 w=(decide (e=0)&&suitB (k,f,d,a,x,h) 1):=by show okWb 1 w=_;unfold okWb;rw [← hE]
    have hhg:(WR ds).hug w=(decide (k=1)&&h):=by show hugW w=_;unfold hugW;rw [← hE]
    have htb:(WR ds).tab w=if k=4 then some f else none:=by show tabW w=_;unfold tabW;rw [← hE]
    rw [← hE] at hd'
    clear hE
    simp only [EnV,U] at hd' hw8 hwE
    have hsu2:∀ M n,X.call 110 [.agg [I k,I f,B d,B a,B x,B h],I 1] M n=some (B (suitB (k,f,d,a,x,h) 1),[]):=hsu' (k,f,d,a,x,h)
    rcases Decidable.em (e=0) with he|he
    ·subst he
     cases hsb:suitB (k,f,d,a,x,h) 1 with
     | false =>
      rw [hsb] at hsu2
      have hfin:=bad (by rw [hok,hsb];rfl)
      subst hfin
      simp only
      clear pl hug lost rcr hone hflat
      have zS:=jj hiI<|jj hi8<|jj hw8<|jj hwE<|jj hwl<|jj hd'<|hsu2
      repeat' (first|(apply aw_seq_k;intro K hK)|(refine eM64 ?_)|(refine aw_cond (b:=_) (by exact rfl) (fun h=>?_) (fun h=>?_)<;>(try simp at h))|(refine eB ?_)|(refine hK _ ?_;clear hK)|(clear hK;refine hK _ ?_;clear hK)|(clear hK;clear hK;refine hK _ ?_;clear hK)|(clear hK;clear hK;clear hK;refine hK _ ?_;clear hK))
      all_goals clear zS
      refine ⟨by simp,_,by simp [aResults,aResult,Try.f84];rfl,?_⟩
      try simp only [← hcn]
      simp only [idx]
      exact le_of2 (by simp) (by simp [AVle,AV.under,AV.underL,hcu]<;>omega) (by simp [AOle,AO.under,AV.underL,AV.under,hcu]<;>omega)
     | true =>
      rw [hsb] at hsu2
      have hok1:(WR ds).ok 1 w=true:=by rw [hok,hsb];rfl
      rcases Decidable.em (k=1∧h=true) with hk|hk
      ·obtain ⟨rfl,rfl⟩:=hk
       obtain ⟨gq,hgq⟩:∃ g:Int,g=(((first+i*8^1)/8:Nat):Int):=⟨_,rfl⟩
       have hq2:(first:Int)/8+(i:Int)=gq:=by rw [hgq];omega
       have hadm:(WR ds).adm gq=decide (0≤fstG (fun n:Dp=>decide (n.1=gq)) ds):=rfl
       have hde2:=hde' gq
       rw [← hgq] at adm hug
       obtain ⟨q,hq⟩:∃ q,q=fstG (fun n:Dp=>decide (n.1=gq)) ds:=⟨_,rfl⟩
       rw [← hq] at hde2 hadm
       rcases Decidable.em (0≤q) with h9|h9
       ·rw [decide_eq_true h9] at hadm
        have hfin:=hug hok1 (by rw [hhg];rfl) hadm (by rw [htb];rfl)
        clear bad pl lost rcr hone hflat adm
        have h9n:¬ q<0:=by omega
        have zS:=jj hiI<|jj hi8<|jj hw8<|jj hwE<|jj hwl<|jj hd'<|jj hsu2<|jj hq2<|jj hde2<|h9n
        repeat' (first|(apply aw_seq_k;intro K hK)|(refine eM64 ?_)|(refine aw_cond (b:=_) (by exact rfl) (fun h=>?_) (fun h=>?_)<;>(try simp at h))|(refine eB ?_)|(refine hK _ ?_;clear hK)|(clear hK;refine hK _ ?_;clear hK)|(clear hK;clear hK;refine hK _ ?_;clear hK)|(clear hK;clear hK;clear hK;refine hK _ ?_;clear hK))
        all_goals clear zS
        refine ⟨i+1,led2,hs2++[gq],?_,⟨by omega,hl2,by simp only [List.length_append,List.length_singleton];omega,by rw [hk7];exact hfin.symm⟩,by omega⟩
        try simp only [List.length_append,List.length_singleton]
        exact le_of2 (by simp) (by simp [AVle,AV.under,AV.underL,hcu]<;>omega) (by simp [AOle,AO.under,AV.underL,AV.under,hcu]<;>omega)
       ·rw [decide_eq_false h9] at hadm
        have hfin:=adm hok1 (by rw [hhg];rfl) hadm
        subst hfin
        simp only
        clear bad pl lost rcr hone hflat hug
        have h9n:q<0:=by omega
        have zS:=jj hiI<|jj hi8<|jj hw8<|jj hwE<|jj hwl<|jj hd'<|jj hsu2<|jj hq2<|jj hde2<|h9n
        repeat' (first|(apply aw_seq_k;intro K hK)|(refine eM64 ?_)|(refine aw_cond (b:=_) (by exact rfl) (fun h=>?_) (fun h=>?_)<;>(try simp at h))|(refine eB ?_)|(refine hK _ ?_;clear hK)|(clear hK;refine hK _ ?_;clear hK)|(clear hK;clear hK;refine hK _ ?_;clear hK)|(clear hK;clear hK;clear hK;refine hK _ ?_;clear hK))
        all_goals clear zS
        refine ⟨by simp,_,by simp [aResults,aResult,Try.f84];rfl,?_⟩
        try simp only [← hcn]
        simp only [idx]
        exact le_of2 (by simp) (by simp [AVle,AV.under,AV.underL,hcu]<;>omega) (by simp [AOle,AO.under,AV.underL,AV.under,hcu]<;>omega)
      ·have hhf:(decide (k=1)&&h)=false:=by
        rw [Bool.eq_false_iff];intro hh;simp only [Bool.and_eq_true,decide_eq_true_eq] at hh;exact hk hh
       rw [hhf] at hhg
       rcases Decidable.em (k=4) with hk4|hk4
       ·subst hk4
        clear hone hflat hug pl bad adm
        have hfi2:=hfi' f
        rw [fstG_fnd] at hfi2
        cases hfn:fnd ns f with
        | none =>
         rw [hfn] at hfi2
         simp only at hfi2
         have hfin:=lost f hok1 hhg (by rw [htb];rfl) hfn
         subst hfin
         simp only
         clear lost rcr
         have zS:=jj hiI<|jj hi8<|jj hw8<|jj hwE<|jj hwl<|jj hd'<|jj hsu2<|hfi2
         repeat' (first|(apply aw_seq_k;intro K hK)|(refine eM64 ?_)|(refine aw_cond (b:=_) (by exact rfl) (fun h=>?_) (fun h=>?_)<;>(try simp at h))|(refine eB ?_)|(refine hK _ ?_;clear hK)|(clear hK;refine hK _ ?_;clear hK)|(clear hK;clear hK;refine hK _ ?_;clear hK)|(clear hK;clear hK;clear hK;refine hK _ ?_;clear hK))
         all_goals clear zS
         refine ⟨by simp,_,by simp [aResults,aResult,Try.f84];rfl,?_⟩
         try simp only [← hcn]
         simp only [idx]
         exact le_of2 (by simp) (by simp [AVle,AV.under,AV.underL,hcu]<;>omega) (by simp [AOle,AO.under,AV.underL,AV.under,hcu]<;>omega)
        | some nx =>
         rw [hfn] at hfi2
         simp only at hfi2
         have hnx:=fnd_lt hfn
         have hnx0:¬ (nx:Int)<0:=by omega
         have hfin:=rcr f nx hok1 hhg (by rw [htb];rfl) hfn
         clear lost rcr
         have hckk:rwOK 0 ((r,ns,ds),nx,first+i*8,led2,cn):=⟨ht,hnx,by simp only [ckF];omega,by simp only;omega,by simp only [ckH];omega⟩
         have hcall:=@callRw 0 (r,ns,ds) nx (first+i*8) led2 cn hckk false
         have hckR:rwR 0 ((r,ns,ds),nx,first+i*8,led2,cn)=wk (WR ds) ns 0 nx (first+i*8) (led2,[]):=rfl
         rw [hckR] at hcall
         have hadd:=wk_adds (D:=WR ds) (ns:=ns) (l:=0) nx (first+i*8) (led2,[])
         rw [show (8:Nat)^1=8 from rfl,wk_hom nx (first+i*8) led2 hs2] at hfin
         obtain ⟨⟨b3,led3,hs3⟩,hR3⟩:∃ R,R=wk (WR ds) ns 0 nx (first+i*8) (led2,[]):=⟨_,rfl⟩
         rw [← hR3] at hcall hfin hadd
         clear hR3 hckR hckk
         simp only [addsB,List.length_nil,Nat.zero_add] at hcall hfin hadd
         rw [hl2] at hcall hadd
         rw [← hrec] at hcall
         have hfI:((first+i*8:Nat):Int)=(first:Int)+(i:Int)*8:=by omega
         rw [hfI,show ((0:Nat):Int)=(0:Int) from rfl] at hcall
         obtain ⟨v3,hv3⟩:∃ v3,v3=cn+hs3.length:=⟨_,rfl⟩
         rw [← hv3] at hcall
         cases b3 with
         | false =>
          simp only [Bool.false_eq_true,if_false] at hfin
          subst hfin
          simp only [List.length_append]
          have zS:=jj hiI<|jj hi8<|jj hw8<|jj hwE<|jj hwl<|jj hd'<|jj hsu2<|jj hfi2<|jj hcall<|hnx0
          repeat' (first|(apply aw_seq_k;intro K hK)|(refine eM64 ?_)|(refine aw_cond (b:=_) (by exact rfl) (fun h=>?_) (fun h=>?_)<;>(try simp at h))|(refine eB ?_)|(refine hK _ ?_;clear hK)|(clear hK;refine hK _ ?_;clear hK)|(clear hK;clear hK;refine hK _ ?_;clear hK)|(clear hK;clear hK;clear hK;refine hK _ ?_;clear hK))
          all_goals clear zS
          refine ⟨by simp,_,by simp [aResults,aResult,Try.f84];rfl,?_⟩
          simp only [idx]
          exact le_of2 (by simp) (by simp [AVle,AV.under,AV.underL,hcu]<;>omega) (by simp [AOle,AO.under,AV.underL,AV.under,hcu]<;>omega)
         | true =>
          simp only [if_true] at hfin
          have zS:=jj hiI<|jj hi8<|jj hw8<|jj hwE<|jj hwl<|jj hd'<|jj hsu2<|jj hfi2<|jj hcall<|hnx0
          repeat' (first|(apply aw_seq_k;intro K hK)|(refine eM64 ?_)|(refine aw_cond (b:=_) (by exact rfl) (fun h=>?_) (fun h=>?_)<;>(try simp at h))|(refine eB ?_)|(refine hK _ ?_;clear hK)|(clear hK;refine hK _ ?_;clear hK)|(clear hK;clear hK;refine hK _ ?_;clear hK)|(clear hK;clear hK;clear hK;refine hK _ ?_;clear hK))
          all_goals clear zS
          refine ⟨i+1,led3,hs2++hs3,?_,⟨by omega,hadd.1,by simp only [List.length_append];omega,by rw [hk7];exact hfin.symm⟩,by omega⟩
          try simp only [List.length_append]
          exact le_of2 (by simp) (by simp [AVle,AV.under,AV.underL,hcu]<;>omega) (by simp [AOle,AO.under,AV.underL,AV.under,hcu]<;>omega)
       ·have hfin:=pl hok1 hhg (by rw [htb,if_neg hk4])
        clear bad hug lost rcr hone hflat
        rcases Decidable.em (k=1) with hk1|hk1
        ·subst hk1
         have hh0:h=false:=by cases h with|false=>rfl|true=>exact absurd ⟨rfl,rfl⟩ hk
         subst hh0
         have zS:=jj hiI<|jj hi8<|jj hw8<|jj hwE<|jj hwl<|jj hd'<|hsu2
         repeat' (first|(apply aw_seq_k;intro K hK)|(refine eM64 ?_)|(refine aw_cond (b:=_) (by exact rfl) (fun h=>?_) (fun h=>?_)<;>(try simp at h))|(refine eB ?_)|(refine hK _ ?_;clear hK)|(clear hK;refine hK _ ?_;clear hK)|(clear hK;clear hK;refine hK _ ?_;clear hK)|(clear hK;clear hK;clear hK;refine hK _ ?_;clear hK))
         all_goals clear zS
         refine ⟨i+1,led2,hs2,?_,⟨by omega,hl2,by omega,by rw [hk7];exact hfin.symm⟩,by omega⟩
         try simp only [← hcn]
         exact le_of2 (by simp) (by simp [AVle,AV.under,AV.underL,hcu]<;>omega) (by simp [AOle,AO.under,AV.underL,AV.under,hcu]<;>omega)
        ·have zS:=jj hiI<|jj hi8<|jj hw8<|jj hwE<|jj hwl<|jj hd'<|jj hsu2<|jj hk1<|hk4
         repeat' (first|(apply aw_seq_k;intro K hK)|(refine eM64 ?_)|(refine aw_cond (b:=_) (by exact rfl) (fun h=>?_) (fun h=>?_)<;>(try simp at h))|(refine eB ?_)|(refine hK _ ?_;clear hK)|(clear hK;refine hK _ ?_;clear hK)|(clear hK;clear hK;refine hK _ ?_;clear hK)|(clear hK;clear hK;clear hK;refine hK _ ?_;clear hK))
         all_goals clear zS
         refine ⟨i+1,led2,hs2,?_,⟨by omega,hl2,by omega,by rw [hk7];exact hfin.symm⟩,by omega⟩
         try simp only [← hcn]
         exact le_of2 (by simp) (by simp [AVle,AV.under,AV.underL,hcu]<;>omega) (by simp [AOle,AO.under,AV.underL,AV.under,hcu]<;>omega)
    ·have hfin:=bad (by rw [hok];simp [he])
     subst hfin
     simp only
     clear pl hug lost rcr hone hflat
     have zS:=jj hiI<|jj hi8<|jj hw8<|jj hwE<|jj hwl<|jj hd'<|he
     repeat' (first|(apply aw_seq_k;intro K hK)|(refine eM64 ?_)|(refine aw_cond (b:=_) (by exact rfl) (fun h=>?_) (fun h=>?_)<;>(try simp at h))|(refine eB ?_)|(refine hK _ ?_;clear hK)|(clear hK;refine hK _ ?_;clear hK)|(clear hK;clear hK;refine hK _ ?_;clear hK)|(clear hK;clear hK;clear hK;refine hK _ ?_;clear hK))
     all_goals clear zS
     refine ⟨by simp,_,by simp [aResults,aResult,Try.f84];rfl,?_⟩
     try simp only [← hcn]
     simp only [idx]
     exact le_of2 (by simp) (by simp [AVle,AV.under,AV.underL,hcu]<;>omega) (by simp [AOle,AO.under,AV.underL,AV.under,hcu]<;>omega)
   ·obtain rfl:i=8:=by omega
    simp only [Nat.sub_self,wkF] at hst
    subst hst
    simp only
    repeat' (first|(apply aw_seq_k;intro K hK)|(refine eM64o ?_)|(refine aw_cond (b:=_) (by exact rfl) (fun h=>?_) (fun h=>?_)<;>(try simp at h))|(refine eB ?_)|(refine hK _ ?_;clear hK)|(clear hK;refine hK _ ?_;clear hK)|(clear hK;clear hK;refine hK _ ?_;clear hK)|(clear hK;clear hK;clear hK;refine hK _ ?_;clear hK))
    refine ⟨by simp,_,by simp [aResults,aResult,Try.f84];rfl,?_⟩
    try simp only [← hcn]
    simp only [idx]
    exact le_of2 (by simp) (by simp [AVle,AV.under,AV.underL,hcu]<;>omega) (by simp [AOle,AO.under,AV.underL,AV.under,hcu]<;>omega)
end Go.AM
namespace Go.AM
open Go Go.Proofs
set_option maxHeartbeats 8000000 in
theorem s84_2 (X:AX) (hX:XOK Try.prog X) (hw:X.W wT) (hd:∀ n:Nat,n<2^64→∀ M k,X.call 96 [U n] M k=some (.tup [EnV (decR n).1,I (decR n).2],[]))
  (hsu:∀ (e:En) (l:Nat) M n,X.call 110 [EnV e,I l] M n=some (B (suitB e l),[])) (hfi:∀ (t:Tb) f,tbOK t→∀ M n,X.call 83 [TbV t,I f] M n=some (I (fstG (fun n=>decide (n.1=f)) t.2.1),[]))
  (hde:∀ (t:Tb) f,tbOK t→∀ M n,X.call 125 [TbV t,I f] M n=some (I (fstG (fun n=>decide (n.1=f)) t.2.2),[])) (hrec:X.call 84=callG (rwS 1)):GSound Try.prog 84 (rwS 2):=by
 unfold rwS
 refine gsound_spec Try.func84 rfl X fun ⟨⟨⟨r,ns,ds⟩,n,first,led,c⟩,hx⟩ w0 L E=>⟨by show 6≤96;decide,?_⟩
 obtain ⟨ht,hn,hf,hled,hcc⟩:=hx
 simp only [ckF,ckH] at ht hn hf hled hcc
 show AW ⟨Try.prog,X,96,w0,⟨L,E,2⟩⟩ _ _ _
 have hc:Cx.OK ⟨Try.prog,X,96,w0,⟨L,E,2⟩⟩:=⟨hX,mixed⟩
 have hl1:ns.length≤1000000:=ht.2.1
 have hfi':=fun f=>hfi (r,ns,ds) f ht
 have hde':=fun f=>hde (r,ns,ds) f ht
 obtain ⟨R,hR⟩:∃ R,R=rwR 2 ((r,ns,ds),n,first,led,c):=⟨_,rfl⟩
 simp only [← hR,rwM,rwA,TbV]
 simp only [TbV] at hfi' hde'
 have hnl:n<led.length:=by omega
 have hnI:(n:Int)<(led.length:Int):=by omega
 have hnN:(n:Int)<(ns.length:Int):=by omega
 have hg0:=brows_gi hnl
 have hgE0:=brows_gE hnl
 unfold rwR at hR
 simp only at hR
 rw [wk] at hR
 cases hb:led.getD n false with
 | true =>
  rw [hb] at hR hg0 hgE0
  simp only [if_true] at hR
  subst hR
  simp only
  have zS:=jj hnl<|jj hnI<|jj hg0<|hgE0
  refine dM64 ?_
  repeat (intro K hK)
  clear zS
  refine ⟨by simp,_,by simp [aResults,aResult,Try.f84];rfl,?_⟩
  simp only [List.length_nil,Nat.add_zero,idx]
  exact dle
 | false =>
  rw [hb] at hR hg0 hgE0
  simp only [Bool.false_eq_true,if_false] at hR
  have hset:=@brows_set led n true
  obtain ⟨led1,hl1⟩:∃ l,l=led.set n true:=⟨_,rfl⟩
  have hled1:led1.length=led.length:=by rw [hl1];simp
  rw [← hl1] at hR hset
  have hgn:=nrows_gi hn
  have hgnE:=nrows_gE hn
  have h8:(gn ns n).2.length=8:=(ht.1 _ (gn_mem hn)).1
  have hw8:=fun i (h:i<8)=>wcs_gi (l:=(gn ns n).2) (i:=i) (by omega)
  have hwE:=fun i (h:i<8)=>wcs_gE (l:=(gn ns n).2) (i:=i) (by omega)
  have hwg:∀ i,(gn ns n).2.getD i 0=wd ns n i:=fun _=>rfl
  simp only [hwg] at hw8 hwE
  have hwl:(wcs (gn ns n).2).length=8:=by simp [h8]
  obtain ⟨⟨fr,ws⟩,hm⟩:∃ m,m=gn ns n:=⟨_,rfl⟩
  rw [← hm] at hgn hgnE hw8 hwE hwl
  simp only at hgn hgnE hw8 hwE hwl
  obtain ⟨cs,hcs⟩:∃ cs,cs=wcs ws:=⟨_,rfl⟩
  rw [← hcs] at hgn hgnE hw8 hwE hwl
  have hcu:∀ m,AV.underL m cs:=fun m=>underL_iff.2 fun a ha=>by
   rw [hcs] at ha
   obtain ⟨w,_,rfl⟩:=List.mem_map.1 ha
   trivial
  clear hcs hm h8 hwg
  have hct:List.take 8 cs=cs:=List.take_of_length_le (by omega)
  have zS:=jj hnl<|jj hnI<|jj hg0<|jj hgE0<|jj hset<|jj hgn<|jj hgnE<|jj hn<|jj hnN<|jj hwl<|hct
  repeat' (first|(apply aw_seq_k;intro K hK)|(refine eM64 ?_)|(refine aw_cond (b:=_) (by exact rfl) (fun h=>?_) (fun h=>?_)<;>(try simp at h))|(refine eB ?_)|(refine hK _ ?_;clear hK)|(clear hK;refine hK _ ?_;clear hK)|(clear hK;clear hK;refine hK _ ?_;clear hK)|(clear hK;clear hK;clear hK;refine hK _ ?_;clear hK))
  all_goals clear zS
  obtain ⟨ln,hln⟩:∃ ln,ln=led.length:=⟨_,rfl⟩
  have hRl:R.2.1.length=ln:=by rw [hR,(wkF_adds (b:=72) (wk_adds (l:=1)) 8 0 (led1,[])).1,hln];exact hled1
  rw [← hln]
  refine aw_loopK (s0:=?lps1) (m0:=?lpm1) (ι:={s:Nat×List Bool×List Int // s.1≤8∧s.2.1.length=ln∧s.2.2.length≤73*s.1∧wkF (WR ds) ns (wk (WR ds) ns 1) 2 n first (8 - s.1) s.1 (s.2.1,s.2.2)=R}) [2,3,4,5,6,31] (fun s=>[(32,I s.1.1)]) (fun s=>[(0,.vec 1 1 false (brows s.1.2.1)),(1,.box [I ((c+s.1.2.2.length:Nat):Int)])]) (fun s=>8 - s.1.1) ⟨(0,led1,[]),by simp,by simp only;omega,by simp,hR.symm⟩ ?lhs1 ?lhm1 ?_ ?_
  case lhs1=>first|(simp [keepS];done)|(simp [keepS];rfl)
  case lhm1=>first|rfl|(simp;done)|(simp;rfl)
  ·simp only [List.length_nil,Nat.add_zero]
   exact le_of2 (by simp) (by simp [AVle,AV.under,AV.underL,hcu]<;>omega) (by simp [AOle,AO.under,AV.underL,AV.under,hcu]<;>omega)
  ·clear hR hset hg0 hgE0 hb hnl hnI
   clear hl1
   rintro ⟨⟨i,led2,hs2⟩,hi,hl2,hb2,hst⟩
   simp only at hi hl2 hb2 hst ⊢
   obtain ⟨cn,hcn⟩:∃ cn,cn=c+hs2.length:=⟨_,rfl⟩
   rw [← hcn]
   rcases Decidable.em (i<8) with hi8|hi8
   ·have hiI:(i:Int)<8:=by omega
    have hw8:=hw8 i hi8
    have hwE:=hwE i hi8
    have hw64:=wd_lt ht (n:=n) (i:=i) hn
    obtain ⟨k8,hk8⟩:∃ k,8 - i=k+1:=⟨7 - i,by omega⟩
    have hk7:8 - (i+1)=k8:=by omega
    rw [hk8] at hst
    obtain ⟨w,hwd⟩:∃ w,w=wd ns n i:=⟨_,rfl⟩
    simp only at hw64
    rw [← hwd] at hw64 hw8 hwE
    have hd':=hd w hw64
    have bad:=@wkF_bad (WR ds) ns (wk (WR ds) ns 1) 2 n first k8 i (led2,hs2)
    have pl:=@wkF_pl (WR ds) ns (wk (WR ds) ns 1) 2 n first k8 i (led2,hs2)
    have adm:=@wkF_adm (WR ds) ns (wk (WR ds) ns 1) 2 n first k8 i (led2,hs2)
    have hug:=@wkF_hug (WR ds) ns (wk (WR ds) ns 1) 2 n first k8 i (led2,hs2)
    have lost:=fun g=>@wkF_lost (WR ds) ns (wk (WR ds) ns 1) 2 n first k8 i (led2,hs2) g
    have rcr:=fun g nx=>@wkF_rec (WR ds) ns (wk (WR ds) ns 1) 2 n first k8 i (led2,hs2) g nx
    have hone:=(WD_ok (admR ds)).one 2 w
    have hflat:=(WD_ok (admR ds)).flat w
    rw [← hwd] at bad pl hug lost rcr adm
    rw [hst] at bad pl hug lost rcr adm
    have hsu':=fun e=>hsu e 2
    obtain ⟨⟨⟨k,f,d,a,x,h⟩,e⟩,hE⟩:∃ r,r=decR w:=⟨_,rfl⟩
    have hok:(WR ds).ok 2 w=(decide (e=0)&&suitB (k,f,d,a,x,h) 2):=by show okWb 2 w=_;unfold okWb;rw [← hE]
    have hhg:(WR ds).hug w=(decide (k=1)&&h):=by show hugW w=_;unfold hugW;rw [← hE]
    have htb:(WR ds).tab w=if k=4 then some f else none:=by show tabW w=_;unfold tabW;rw [← hE]
    rw [← hE] at hd'
    clear hE
    simp only [EnV,U] at hd' hw8 hwE
    have hsu2:∀ M n,X.call 110 [.agg [I k,I f,B d,B a,B x,B h],I 2] M n=some (B (suitB (k,f,d,a,x,h) 2),[]):=hsu' (k,f,d,a,x,h)
    rcases Decidable.em (e=0) with he|he
    ·subst he
     cases hsb:suitB (k,f,d,a,x,h) 2 with
     | false =>
      rw [hsb] at hsu2
      have hfin:=bad (by rw [hok,hsb];rfl)
      subst hfin
      simp only
      clear pl hug lost rcr hone hflat
      have zS:=jj hiI<|jj hi8<|jj hw8<|jj hwE<|jj hwl<|jj hd'<|hsu2
      repeat' (first|(apply aw_seq_k;intro K hK)|(refine eM64 ?_)|(refine aw_cond (b:=_) (by exact rfl) (fun h=>?_) (fun h=>?_)<;>(try simp at h))|(refine eB ?_)|(refine hK _ ?_;clear hK)|(clear hK;refine hK _ ?_;clear hK)|(clear hK;clear hK;refine hK _ ?_;clear hK)|(clear hK;clear hK;clear hK;refine hK _ ?_;clear hK))
      all_goals clear zS
      refine ⟨by simp,_,by simp [aResults,aResult,Try.f84];rfl,?_⟩
      try simp only [← hcn]
      simp only [idx]
      exact le_of2 (by simp) (by simp [AVle,AV.under,AV.underL,hcu]<;>omega) (by simp [AOle,AO.under,AV.underL,AV.under,hcu]<;>omega)
     | true =>
      rw [hsb] at hsu2
      have hok1:(WR ds).ok 2 w=true:=by rw [hok,hsb];rfl
      rcases Decidable.em (k=1∧h=true) with hk|hk
      ·obtain ⟨rfl,rfl⟩:=hk
       exact absurd (hone hok1 (by rw [hhg];rfl)) (by decide)
      ·have hhf:(decide (k=1)&&h)=false:=by
        rw [Bool.eq_false_iff];intro hh;simp only [Bool.and_eq_true,decide_eq_true_eq] at hh;exact hk hh
       rw [hhf] at hhg
       rcases Decidable.em (k=4) with hk4|hk4
       ·subst hk4
        clear hone hflat hug pl bad adm
        have hfi2:=hfi' f
        rw [fstG_fnd] at hfi2
        cases hfn:fnd ns f with
        | none =>
         rw [hfn] at hfi2
         simp only at hfi2
         have hfin:=lost f hok1 hhg (by rw [htb];rfl) hfn
         subst hfin
         simp only
         clear lost rcr
         have zS:=jj hiI<|jj hi8<|jj hw8<|jj hwE<|jj hwl<|jj hd'<|jj hsu2<|hfi2
         repeat' (first|(apply aw_seq_k;intro K hK)|(refine eM64 ?_)|(refine aw_cond (b:=_) (by exact rfl) (fun h=>?_) (fun h=>?_)<;>(try simp at h))|(refine eB ?_)|(refine hK _ ?_;clear hK)|(clear hK;refine hK _ ?_;clear hK)|(clear hK;clear hK;refine hK _ ?_;clear hK)|(clear hK;clear hK;clear hK;refine hK _ ?_;clear hK))
         all_goals clear zS
         refine ⟨by simp,_,by simp [aResults,aResult,Try.f84];rfl,?_⟩
         try simp only [← hcn]
         simp only [idx]
         exact le_of2 (by simp) (by simp [AVle,AV.under,AV.underL,hcu]<;>omega) (by simp [AOle,AO.under,AV.underL,AV.under,hcu]<;>omega)
        | some nx =>
         rw [hfn] at hfi2
         simp only at hfi2
         have hnx:=fnd_lt hfn
         have hnx0:¬ (nx:Int)<0:=by omega
         have hfin:=rcr f nx hok1 hhg (by rw [htb];rfl) hfn
         clear lost rcr
         have hckk:rwOK 1 ((r,ns,ds),nx,first+i*64,led2,cn):=⟨ht,hnx,by simp only [ckF];omega,by simp only;omega,by simp only [ckH];omega⟩
         have hcall:=@callRw 1 (r,ns,ds) nx (first+i*64) led2 cn hckk false
         have hckR:rwR 1 ((r,ns,ds),nx,first+i*64,led2,cn)=wk (WR ds) ns 1 nx (first+i*64) (led2,[]):=rfl
         rw [hckR] at hcall
         have hadd:=wk_adds (D:=WR ds) (ns:=ns) (l:=1) nx (first+i*64) (led2,[])
         rw [show (8:Nat)^2=64 from rfl,wk_hom nx (first+i*64) led2 hs2] at hfin
         obtain ⟨⟨b3,led3,hs3⟩,hR3⟩:∃ R,R=wk (WR ds) ns 1 nx (first+i*64) (led2,[]):=⟨_,rfl⟩
         rw [← hR3] at hcall hfin hadd
         clear hR3 hckR hckk
         simp only [addsB,List.length_nil,Nat.zero_add] at hcall hfin hadd
         rw [hl2] at hcall hadd
         rw [← hrec] at hcall
         have hfI:((first+i*64:Nat):Int)=(first:Int)+(i:Int)*64:=by omega
         rw [hfI,show ((1:Nat):Int)=(1:Int) from rfl] at hcall
         obtain ⟨v3,hv3⟩:∃ v3,v3=cn+hs3.length:=⟨_,rfl⟩
         rw [← hv3] at hcall
         cases b3 with
         | false =>
          simp only [Bool.false_eq_true,if_false] at hfin
          subst hfin
          simp only [List.length_append]
          have zS:=jj hiI<|jj hi8<|jj hw8<|jj hwE<|jj hwl<|jj hd'<|jj hsu2<|jj hfi2<|jj hcall<|hnx0
          repeat' (first|(apply aw_seq_k;intro K hK)|(refine eM64 ?_)|(refine aw_cond (b:=_) (by exact rfl) (fun h=>?_) (fun h=>?_)<;>(try simp at h))|(refine eB ?_)|(refine hK _ ?_;clear hK)|(clear hK;refine hK _ ?_;clear hK)|(clear hK;clear hK;refine hK _ ?_;clear hK)|(clear hK;clear hK;clear hK;refine hK _ ?_;clear hK))
          all_goals clear zS
          refine ⟨by simp,_,by simp [aResults,aResult,Try.f84];rfl,?_⟩
          simp only [idx]
          exact le_of2 (by simp) (by simp [AVle,AV.under,AV.underL,hcu]<;>omega) (by simp [AOle,AO.under,AV.underL,AV.under,hcu]<;>omega)
         | true =>
          simp only [if_true] at hfin
          have zS:=jj hiI<|jj hi8<|jj hw8<|jj hwE<|jj hwl<|jj hd'<|jj hsu2<|jj hfi2<|jj hcall<|hnx0
          repeat' (first|(apply aw_seq_k;intro K hK)|(refine eM64 ?_)|(refine aw_cond (b:=_) (by exact rfl) (fun h=>?_) (fun h=>?_)<;>(try simp at h))|(refine eB ?_)|(refine hK _ ?_;clear hK)|(clear hK;refine hK _ ?_;clear hK)|(clear hK;clear hK;refine hK _ ?_;clear hK)|(clear hK;clear hK;clear hK;refine hK _ ?_;clear hK))
          all_goals clear zS
          refine ⟨i+1,led3,hs2++hs3,?_,⟨by omega,hadd.1,by simp only [List.length_append];omega,by rw [hk7];exact hfin.symm⟩,by omega⟩
          try simp only [List.length_append]
          exact le_of2 (by simp) (by simp [AVle,AV.under,AV.underL,hcu]<;>omega) (by simp [AOle,AO.under,AV.underL,AV.under,hcu]<;>omega)
       ·have hfin:=pl hok1 hhg (by rw [htb,if_neg hk4])
        clear bad hug lost rcr hone hflat
        rcases Decidable.em (k=1) with hk1|hk1
        ·subst hk1
         have hh0:h=false:=by cases h with|false=>rfl|true=>exact absurd ⟨rfl,rfl⟩ hk
         subst hh0
         have zS:=jj hiI<|jj hi8<|jj hw8<|jj hwE<|jj hwl<|jj hd'<|hsu2
         repeat' (first|(apply aw_seq_k;intro K hK)|(refine eM64 ?_)|(refine aw_cond (b:=_) (by exact rfl) (fun h=>?_) (fun h=>?_)<;>(try simp at h))|(refine eB ?_)|(refine hK _ ?_;clear hK)|(clear hK;refine hK _ ?_;clear hK)|(clear hK;clear hK;refine hK _ ?_;clear hK)|(clear hK;clear hK;clear hK;refine hK _ ?_;clear hK))
         all_goals clear zS
         refine ⟨i+1,led2,hs2,?_,⟨by omega,hl2,by omega,by rw [hk7];exact hfin.symm⟩,by omega⟩
         try simp only [← hcn]
         exact le_of2 (by simp) (by simp [AVle,AV.under,AV.underL,hcu]<;>omega) (by simp [AOle,AO.under,AV.underL,AV.under,hcu]<;>omega)
        ·have zS:=jj hiI<|jj hi8<|jj hw8<|jj hwE<|jj hwl<|jj hd'<|jj hsu2<|jj hk1<|hk4
         repeat' (first|(apply aw_seq_k;intro K hK)|(refine eM64 ?_)|(refine aw_cond (b:=_) (by exact rfl) (fun h=>?_) (fun h=>?_)<;>(try simp at h))|(refine eB ?_)|(refine hK _ ?_;clear hK)|(clear hK;refine hK _ ?_;clear hK)|(clear hK;clear hK;refine hK _ ?_;clear hK)|(clear hK;clear hK;clear hK;refine hK _ ?_;clear hK))
         all_goals clear zS
         refine ⟨i+1,led2,hs2,?_,⟨by omega,hl2,by omega,by rw [hk7];exact hfin.symm⟩,by omega⟩
         try simp only [← hcn]
         exact le_of2 (by simp) (by simp [AVle,AV.under,AV.underL,hcu]<;>omega) (by simp [AOle,AO.under,AV.underL,AV.under,hcu]<;>omega)
    ·have hfin:=bad (by rw [hok];simp [he])
     subst hfin
     simp only
     clear pl hug lost rcr hone hflat
     have zS:=jj hiI<|jj hi8<|jj hw8<|jj hwE<|jj hwl<|jj hd'<|he
     repeat' (first|(apply aw_seq_k;intro K hK)|(refine eM64 ?_)|(refine aw_cond (b:=_) (by exact rfl) (fun h=>?_) (fun h=>?_)<;>(try simp at h))|(refine eB ?_)|(refine hK _ ?_;clear hK)|(clear hK;refine hK _ ?_;clear hK)|(clear hK;clear hK;refine hK _ ?_;clear hK)|(clear hK;clear hK;clear hK;refine hK _ ?_;clear hK))
     all_goals clear zS
     refine ⟨by simp,_,by simp [aResults,aResult,Try.f84];rfl,?_⟩
     try simp only [← hcn]
     simp only [idx]
     exact le_of2 (by simp) (by simp [AVle,AV.under,AV.underL,hcu]<;>omega) (by simp [AOle,AO.under,AV.underL,AV.under,hcu]<;>omega)
   ·obtain rfl:i=8:=by omega
    simp only [Nat.sub_self,wkF] at hst
    subst hst
    simp only
    repeat' (first|(apply aw_seq_k;intro K hK)|(refine eM64o ?_)|(refine aw_cond (b:=_) (by exact rfl) (fun h=>?_) (fun h=>?_)<;>(try simp at h))|(refine eB ?_)|(refine hK _ ?_;clear hK)|(clear hK;refine hK _ ?_;clear hK)|(clear hK;clear hK;refine hK _ ?_;clear hK)|(clear hK;clear hK;clear hK;refine hK _ ?_;clear hK))
    refine ⟨by simp,_,by simp [aResults,aResult,Try.f84];rfl,?_⟩
    try simp only [← hcn]
    simp only [idx]
    exact le_of2 (by simp) (by simp [AVle,AV.under,AV.underL,hcu]<;>omega) (by simp [AOle,AO.under,AV.underL,AV.under,hcu]<;>omega)
end Go.AM
namespace Go.AM
open Go Go.Proofs
set_option maxHeartbeats 2000000 in
set_option maxRecDepth 4000 in
theorem callRwT {l:Nat} {t:Tb} {n f:Nat} {led:List Bool} {c:Nat} (h:rwOK l (t,n,f,led,c)) {fl1:Bool} (M:Nat→AO) (nid:Nat)
  (h0:M 320=.vec 1 1 fl1 (brows led)) (h1:M 352=.box [I c]) :
  callG (rwS l) [.agg [I t.1,.rd 9 (nrows t.2.1),.rd 2 (prows t.2.2)],I n,I l,I f,.sl 320 1 1 0 led.length,.bp 352 0] M nid=some (B (rwR l (t,n,f,led,c)).1,[(320,.vec 1 1 false (brows (rwR l (t,n,f,led,c)).2.1)),(352,.box [I ((c+(rwR l (t,n,f,led,c)).2.2.length:Nat):Int)])]):=by
 have hF:=rwS_at h
 simp only [rwA,rwM,TbV] at hF
 obtain ⟨R,hR⟩:∃ R,R=rwR l (t,n,f,led,c):=⟨_,rfl⟩
 rw [← hR] at hF ⊢
 unfold callG
 have hg:gat M 64 (nmsL [.agg [I t.1,.rd 9 (nrows t.2.1),.rd 2 (prows t.2.2)],I n,I l,I f,.sl 320 1 1 0 led.length,.bp 352 0]) []=[320,352]:=by
  simp [gat,nmsL,AV.nms,AO.nms,h0,h1]
 simp only [hg]
 rw [if_pos ?cg]
 case cg=>simp [CallG,nmsL,AV.nms,AO.nms,Led,curBL,AV.curB,AO.curB,verOf,notDead,h0,h1]
 simp [renL,AV.ren,AO.ren,posN,canO,nmsL,h0,h1,hF,RetG,getL,AV.nms,AO.nms,updN,nmN,shN,verOf,rng,Led]
end Go.AM
namespace Go.AM
open Go Go.Proofs
def wkAR (t:Tb):Bool×WSt:=wk (WR t.2.2) t.2.1 2 ((fnd t.2.1 t.1).getD 0) 0 (List.replicate t.2.1.length false,[])
noncomputable def chkR (t:Tb):Int:=if numB t≠0 then numB t else if (wkAR t).1=true∧(wkAR t).2.2.length=t.2.2.length∧false ∉ (wkAR t).2.1 then 0 else 3
set_option maxHeartbeats 4000000 in
theorem s35 (X:AX) (hX:XOK Try.prog X) (hw:X.W wT) (hra:∀ t:Tb,tbOK t→∀ M n,X.call 80 [TbV t] M n=some (B (rngB t),[])) (hor:∀ t:Tb,tbOK t→∀ M n,X.call 81 [TbV t] M n=some (B (ascB t),[]))
  (htw:∀ t:Tb,tbOK t→∀ M n,X.call 82 [TbV t] M n=some (B (twB t),[])) (hfi:∀ (t:Tb) f,tbOK t→∀ M n,X.call 83 [TbV t,I f] M n=some (I (fstG (fun n=>decide (n.1=f)) t.2.1),[]))
  (hwa:X.call 84=callG (rwS 2)) :
  PSound Try.prog 35 (specF (ι:={x:Tb // tbOK x}) (fun x=>[TbV x.1]) fun x=>retOf [I (chkR x.1)]):=by
 refine psound_spec hX mixed Try.func35 rfl fun ⟨⟨r,ns,ds⟩,ht⟩ w0 G=>⟨by show 1≤47;decide,rfl,?_⟩
 show AW ⟨Try.prog,X,47,w0,.pure G⟩ _ _ _
 have hc:Cx.OK ⟨Try.prog,X,47,w0,.pure G⟩:=⟨hX,mixed⟩
 have hl1:ns.length≤1000000:=ht.2.1
 have hl2:ds.length≤1000000:=ht.2.2
 have hra':=hra (r,ns,ds) ht
 have hor':=hor (r,ns,ds) ht
 have htw':=htw (r,ns,ds) ht
 have hfi':=hfi (r,ns,ds) r ht
 rw [fstG_fnd] at hfi'
 have hcz:numB (r,ns,ds)≠0→chkR (r,ns,ds)=numB (r,ns,ds):=fun h=>by unfold chkR;rw [if_pos h]
 simp only [TbV] at hra' hor' htw' hfi' ⊢
 cases hR:rngB (r,ns,ds) with
 | false =>
  have e:=numB_2 hR
  rw [hcz (by rw [e];decide),e]
  rw [hR] at hra'
  have zS:=hra'
  refine dM64 ?_
  repeat (intro K hK)
  clear zS
  refine ⟨by simp,?_⟩
  simp [leaves_iff,Try.f35]
  try exact dt
 | true =>
  rw [hR] at hra'
  cases hA:ascB (r,ns,ds) with
  | false =>
   have e:=numB_10 hR hA
   rw [hcz (by rw [e];decide),e]
   rw [hA] at hor'
   have zS:=jj hra'<|hor'
   refine dM64 ?_
   repeat (intro K hK)
   clear zS
   refine ⟨by simp,?_⟩
   simp [leaves_iff,Try.f35]
   try exact dt
  | true =>
   rw [hA] at hor'
   have hAN:=ascN_of hA
   simp only at hAN
   cases hT:twB (r,ns,ds) with
   | true =>
    have e:=numB_7 hR hA hT
    rw [hcz (by rw [e];decide),e]
    rw [hT] at htw'
    have zS:=jj hra'<|jj hor'<|htw'
    refine dM64 ?_
    repeat (intro K hK)
    clear zS
    refine ⟨by simp,?_⟩
    simp [leaves_iff,Try.f35]
    try exact dt
   | false =>
    rw [hT] at htw'
    cases hrt:fnd ns r with
    | none =>
     have e:=numB_6 hR hA hT hrt
     rw [hcz (by rw [e];decide),e]
     rw [hrt] at hfi'
     simp only at hfi'
     have zS:=jj hra'<|jj hor'<|jj htw'<|hfi'
     refine dM64 ?_
     repeat (intro K hK)
     clear zS
     refine ⟨by simp,?_⟩
     simp [leaves_iff,Try.f35]
     try exact dt
    | some rt =>
     have hn0:=numB_0 hR hA hT (show fnd ns r≠none by rw [hrt];simp)
     rw [hrt] at hfi'
     simp only at hfi'
     have hrl:=fnd_lt hrt
     have hr0:¬ (rt:Int)<0:=by omega
     have hfs:=falses ns.length
     have hck:rwOK 2 ((r,ns,ds),rt,0,List.replicate ns.length false,0):=⟨ht,hrl,by simp,by simp,by simp⟩
     have hcall:=@callRwT 2 (r,ns,ds) rt 0 (List.replicate ns.length false) 0 hck false
     have hckR:rwR 2 ((r,ns,ds),rt,0,List.replicate ns.length false,0)=wkAR (r,ns,ds):=by unfold rwR wkAR;simp only;rw [hrt];rfl
     rw [hckR] at hcall
     have hadd:=wk_adds (D:=WR ds) (ns:=ns) (l:=2) rt 0 (List.replicate ns.length false,[])
     rw [show wk (WR ds) ns 2 rt 0 (List.replicate ns.length false,[])=wkAR (r,ns,ds) from hckR] at hadd
     have hfin:chkR (r,ns,ds)=if (wkAR (r,ns,ds)).1=true∧(wkAR (r,ns,ds)).2.2.length=ds.length∧false ∉ (wkAR (r,ns,ds)).2.1 then 0 else 3:=by unfold chkR;rw [if_neg (by rw [hn0];simp)]
     obtain ⟨⟨b,led,hs⟩,hR3⟩:∃ R,R=wkAR (r,ns,ds):=⟨_,rfl⟩
     rw [← hR3] at hcall hadd hfin
     simp only [List.length_replicate,addsB,List.length_nil,Nat.zero_add] at hcall hadd hfin
     rw [← hwa,show ((2:Nat):Int)=(2:Int) from rfl,show ((0:Nat):Int)=(0:Int) from rfl] at hcall
     cases b with
     | false =>
      rw [hfin]
      have zS:=jj hra'<|jj hor'<|jj htw'<|jj hfi'<|jj hfs<|jj hr0<|hcall
      refine dM64 ?_
      repeat (intro K hK)
      clear zS
      refine ⟨by simp,?_⟩
      simp [leaves_iff,Try.f35]
      try exact dt
     | true =>
      rcases Decidable.em (hs.length=ds.length) with h2|h2
      ·have hfin2:chkR (r,ns,ds)=if false ∉ led then 0 else 3:=by rw [hfin];simp [h2]
       have zS:=jj hra'<|jj hor'<|jj htw'<|jj hfi'<|jj hfs<|jj hr0<|jj hcall<|h2
       repeat' (first|(apply aw_seq_k;intro K hK)|(refine eM64 ?_)|(refine aw_cond (b:=_) (by exact rfl) (fun h=>?_) (fun h=>?_)<;>(try simp at h))|(refine eB ?_)|(refine hK _ ?_;clear hK)|(clear hK;refine hK _ ?_;clear hK)|(clear hK;clear hK;refine hK _ ?_;clear hK)|(clear hK;clear hK;clear hK;refine hK _ ?_;clear hK))
       all_goals clear zS
       refine aw_loopK (s0:=?lps1) (m0:=?lpm1) (ι:={i:Nat // i≤ns.length∧∀ j,j<i→led.getD j false=true}) [38,39] (fun i=>[(40,I i.1)]) (fun _=>[]) (fun i=>ns.length - i.1) ⟨0,by omega,by omega⟩ ?lhs1 ?lhm1 ?_ ?_
       case lhs1=>first|(simp [keepS];done)|(simp [keepS];rfl)
       case lhm1=>first|rfl|(simp;done)|(simp;rfl)
       ·exact dle
       ·rintro ⟨i,hi,hinv⟩
        simp only
        rcases Decidable.em (i<ns.length) with hil|hil
        ·have hilI:(i:Int)<(ns.length:Int):=by omega
         have hill:i<led.length:=by omega
         have hg:=brows_gi hill
         have hgE:=brows_gE hill
         cases hb:led.getD i false with
         | false =>
          rw [hb] at hg hgE
          have e:chkR (r,ns,ds)=3:=by
           rw [hfin2,if_neg]
           intro h
           refine h ?_
           rw [← hb,List.getD_eq_getElem?_getD,List.getElem?_eq_getElem hill]
           exact List.getElem_mem hill
          have zS:=jj hil<|jj hilI<|jj hill<|jj hg<|hgE
          repeat' (first|(apply aw_seq_k;intro K hK)|(refine eM64 ?_)|(refine aw_cond (b:=_) (by exact rfl) (fun h=>?_) (fun h=>?_)<;>(try simp at h))|(refine eB ?_)|(refine hK _ ?_;clear hK)|(clear hK;refine hK _ ?_;clear hK)|(clear hK;clear hK;refine hK _ ?_;clear hK)|(clear hK;clear hK;clear hK;refine hK _ ?_;clear hK))
          all_goals clear zS
          refine ⟨by simp,?_⟩
          simp [leaves_iff,Try.f35,e]
          try exact dt
         | true =>
          rw [hb] at hg hgE
          have zS:=jj hil<|jj hilI<|jj hill<|jj hg<|hgE
          repeat' (first|(apply aw_seq_k;intro K hK)|(refine eM64 ?_)|(refine aw_cond (b:=_) (by exact rfl) (fun h=>?_) (fun h=>?_)<;>(try simp at h))|(refine eB ?_)|(refine hK _ ?_;clear hK)|(clear hK;refine hK _ ?_;clear hK)|(clear hK;clear hK;refine hK _ ?_;clear hK)|(clear hK;clear hK;clear hK;refine hK _ ?_;clear hK))
          all_goals clear zS
          refine ⟨i+1,?_,⟨by omega,fun j hj=>?_⟩,by omega⟩
          ·exact dle
          ·rcases Nat.lt_succ_iff_lt_or_eq.1 hj with h4|rfl
           ·have:=hinv j h4
            simpa [List.getD_eq_getElem?_getD] using this
           ·simpa [List.getD_eq_getElem?_getD] using hb
        ·obtain rfl:i=ns.length:=by omega
         have e:chkR (r,ns,ds)=0:=by
          rw [hfin2,if_pos]
          intro h
          obtain ⟨j,hj,e⟩:=List.getElem_of_mem h
          have:=hinv j (by omega)
          rw [List.getD_eq_getElem?_getD,List.getElem?_eq_getElem hj,e] at this
          simp at this
         repeat' (first|(apply aw_seq_k;intro K hK)|(refine eM64o ?_)|(refine aw_cond (b:=_) (by exact rfl) (fun h=>?_) (fun h=>?_)<;>(try simp at h))|(refine eB ?_)|(refine hK _ ?_;clear hK)|(clear hK;refine hK _ ?_;clear hK)|(clear hK;clear hK;refine hK _ ?_;clear hK)|(clear hK;clear hK;clear hK;refine hK _ ?_;clear hK))
         refine ⟨by simp,?_⟩
         simp [leaves_iff,Try.f35,e]
         try exact dt
      ·rw [hfin,if_neg (fun h=>h2 h.2.1)]
       have h2I:¬ (hs.length:Int)=(ds.length:Int):=by omega
       have zS:=jj hra'<|jj hor'<|jj htw'<|jj hfi'<|jj hfs<|jj hr0<|jj hcall<|jj h2<|h2I
       refine dM64 ?_
       repeat (intro K hK)
       clear zS
       refine ⟨by simp,?_⟩
       simp [leaves_iff,Try.f35]
       try exact dt
end Go.AM
namespace Go.AM
open Go Go.Proofs
theorem frP_WD {a b:Int→Bool} {M:Mm} {root:Int}:∀ {d q:Nat},frP (WD a) M root d q=frP (WD b) M root d q
 | 0,q=>rfl
 | d+1,q=>by simp only [frP];rw [frP_WD (a:=a) (b:=b)];rfl
theorem VM_WD {a b:Int→Bool} {M:Mm} {root:Int} (h:VM (WD a) M root):VM (WD b) M root where
 nd:=fun d q hx f hf=>by rw [frP_WD (b:=a)] at hf;exact h.nd d q hx f hf
 inj:=fun d q d' q' hx hy f hf hf'=>by rw [frP_WD (b:=a)] at hf hf';exact h.inj d q d' q' hx hy f hf hf'
 all:=fun f ws hf=>by
  obtain ⟨d,q,hx,k⟩:=h.all f ws hf
  exact ⟨d,q,hx,by rw [frP_WD (b:=a)];exact k⟩
def hugB (M:Mm) (root:Int) (g:Nat):Bool:=match frP WA M root 1 (g/8) with
 | some f=>hugW (wM M f (g%8))
 | none=>false
def hugM (M:Mm) (root:Int):List Int:=((List.range 64).filter (hugB M root)).map fun g:Nat=>(g:Int)
theorem hugM_asc {M:Mm} {root:Int}:(hugM M root).Pairwise (·<·):=by
 unfold hugM
 rw [List.pairwise_map]
 refine List.Pairwise.filter _ ?_
 exact (List.pairwise_lt_range (n:=64)).imp fun h=>by omega
theorem mem_hugM {M:Mm} {root:Int} {g:Int}:g∈hugM M root↔∃ k:Nat,k<64∧g=k∧hugB M root k=true:=by
 unfold hugM
 simp only [List.mem_map,List.mem_filter,List.mem_range]
 constructor
 ·rintro ⟨k,⟨h1,h2⟩,rfl⟩;exact ⟨k,h1,rfl,h2⟩
 ·rintro ⟨k,h1,rfl,h2⟩;exact ⟨k,⟨h1,h2⟩,rfl⟩
theorem hugB_iff {M:Mm} {root:Int} {g:Nat}:hugB M root g=true↔∃ f,frP WA M root 1 (g/8)=some f∧hugW (wM M f (g%8))=true:=by
 unfold hugB
 cases frP WA M root 1 (g/8)<;>simp
theorem asc_le:∀ {l m:List Int},l.Pairwise (·<·)→(∀ x∈l,x∈m)→l.length≤m.length
 | [],_,_,_=>by simp
 | x::l,m,h,hs=>by
  rw [List.pairwise_cons] at h
  have h1:=asc_le (l:=l) (m:=m.erase x) h.2 fun y hy=>by
   have:=h.1 y hy
   exact (List.mem_erase_of_ne (by omega)).2 (hs y (by simp [hy]))
  rw [List.length_erase_of_mem (hs x (by simp))] at h1
  have:0<m.length:=List.length_pos_of_mem (hs x (by simp))
  simp only [List.length_cons]
  omega
theorem asc_eq:∀ {l m:List Int},l.Pairwise (·<·)→m.Pairwise (·<·)→(∀ x∈l,x∈m)→l.length=m.length→l=m
 | [],[],_,_,_,_=>rfl
 | [],_::_,_,_,_,h=>by simp at h
 | _::_,[],_,_,_,h=>by simp at h
 | x::l,y::m,hl,hm,hs,hn=>by
  have hl0:=hl
  rw [List.pairwise_cons] at hl hm
  have hx:=hs x (by simp)
  have e:x=y:=by
   rcases List.mem_cons.1 hx with e|hxm
   ·exact e
   ·exfalso
    have hxy:=hm.1 x hxm
    have:=asc_le (l:=x::l) (m:=m) hl0 fun z hz=>by
     have hz2:=hs z hz
     rcases List.mem_cons.1 hz2 with e|h
     ·rcases List.mem_cons.1 hz with e2|h2
      ·omega
      ·have:=hl.1 z h2;omega
     ·exact h
    simp only [List.length_cons] at this hn
    omega
  subst e
  congr 1
  refine asc_eq hl.2 hm.2 (fun z hz=>?_) (by simpa using hn)
  rcases List.mem_cons.1 (hs z (by simp [hz])) with e|h
  ·have:=hl.1 z hz;omega
  ·exact h
structure NumOK (t:Tb):Prop where
 fr:∀ n∈t.2.1,frmN n.1
 df:∀ d∈t.2.2,frmN d.2∧0≤d.1∧d.1<64
 asc:ascN t.2.1
 dasc:t.2.2.Pairwise fun a b=>a.1<b.1
 apart:∀ d∈t.2.2,∀ n∈t.2.1,n.1≠d.2
 once:t.2.2.Pairwise fun a b=>a.2≠b.2
 root:∃ n∈t.2.1,n.1=t.1
theorem fnd_some_of {ns:List Nd} {f:Int} (h:∃ n∈ns,n.1=f):∃ r,fnd ns f=some r:=by
 obtain ⟨n,hn,e⟩:=h
 unfold fnd
 have:ns.findIdx (fun n=>decide (n.1=f))<ns.length:=List.findIdx_lt_length_of_exists ⟨n,hn,by simpa using e⟩
 rw [if_pos this]
 exact ⟨_,rfl⟩
theorem numOK_iff {t:Tb}:numB t=0↔NumOK t:=by
 constructor
 ·intro h
  obtain ⟨hR,hA,hT,r,hr⟩:=numB_zero h
  obtain ⟨r1,r2⟩:=rngB_iff.1 hR
  obtain ⟨a1,a2⟩:=ascB_iff.1 hA
  have hno:∀ i,i<t.2.2.length→¬ twN t i:=fun i hi h=>by
   have:=twB_iff.2 ⟨i,hi,h⟩
   rw [hT] at this;simp at this
  refine ⟨fun n hn=>?_,fun d hd=>?_,ascN_of hA,?_,fun d hd n hn e=>?_,?_,?_⟩
  ·obtain ⟨i,hi,rfl⟩:=List.getElem_of_mem hn
   rw [← gn_eq hi];exact r1 i hi
  ·obtain ⟨i,hi,rfl⟩:=List.getElem_of_mem hd
   rw [← gp_eq hi];exact r2 i hi
  ·refine List.pairwise_iff_getElem.2 fun i j hi hj hij=>?_
   have key:∀ d,i+d+1<t.2.2.length→(gp t.2.2 i).1<(gp t.2.2 (i+d+1)).1:=by
    intro d
    induction d with
    | zero=>intro h;exact a2 i h
    | succ d ih=>intro h;exact Int.lt_trans (ih (by omega)) (a2 (i+d+1) h)
   have:=key (j - i - 1) (by omega)
   rw [show i+(j - i - 1)+1=j by omega,gp_eq hi,gp_eq hj] at this
   exact this
  ·obtain ⟨i,hi,rfl⟩:=List.getElem_of_mem hd
   obtain ⟨j,hj,rfl⟩:=List.getElem_of_mem hn
   exact hno i hi (.inl ⟨j,hj,by rw [gn_eq hj,gp_eq hi];exact e⟩)
  ·refine List.pairwise_iff_getElem.2 fun i j hi hj hij e=>?_
   exact hno j hj (.inr ⟨i,hij,by rw [gp_eq hi,gp_eq hj];exact e⟩)
  ·exact ⟨_,gn_mem (fnd_lt hr),fnd_frame hr⟩
 ·intro h
  have hR:rngB t=true:=rngB_iff.2 ⟨fun j hj=>h.fr _ (gn_mem hj),fun j hj=>h.df _ (gp_mem hj)⟩
  have hA:ascB t=true:=ascB_iff.2 ⟨fun j hj=>asc_lt h.asc (by omega) hj,fun j hj=>by
   have:=List.pairwise_iff_getElem.1 h.dasc j (j+1) (by omega) hj (by omega)
   rw [gp_eq (by omega),gp_eq hj];exact this⟩
  have hT:twB t=false:=twB_no fun i hi=>by
   rintro (⟨j,hj,e⟩|⟨j,hj,e⟩)
   ·exact h.apart _ (gp_mem hi) _ (gn_mem hj) e
   ·have:=List.pairwise_iff_getElem.1 h.once j i (by omega) hi hj
    rw [gp_eq (by omega),gp_eq hi] at e
    exact this e
  obtain ⟨r,hr⟩:=fnd_some_of h.root
  exact numB_0 hR hA hT (by rw [hr];simp)
theorem nds8_of {t:Tb} (ht:tbOK t):nds8 t.2.1:=fun n hn=>(ht.1 n hn).1
theorem markL_all {n:Nat} {l:List Nat} (hl:∀ i∈l,i<n):false ∉ markL (List.replicate n false) l↔∀ i,i<n→i∈l:=by
 have hg:∀ j,(markL (List.replicate n false) l).getD j false=decide (j∈l):=fun j=>by
  rw [markL_getD (by simpa using hl)]
  have:(List.replicate n false).getD j false=false:=by
   rw [List.getD_eq_getElem?_getD,List.getElem?_replicate];split<;>rfl
  rw [this,Bool.or_false]
 constructor
 ·intro h i hi
  have h1:=hg i
  cases hd:decide (i∈l) with
  | true=>simpa using hd
  | false =>
   exfalso
   rw [hd] at h1
   have hlen:i<(markL (List.replicate n false) l).length:=by simp [hi]
   rw [List.getD_eq_getElem?_getD,List.getElem?_eq_getElem hlen] at h1
   simp only [Option.getD_some] at h1
   have h3:=List.getElem_mem hlen
   rw [h1] at h3
   exact h h3
 ·intro h hm
  obtain ⟨j,hj,e⟩:=List.getElem_of_mem hm
  have h1:=hg j
  rw [List.getD_eq_getElem?_getD,List.getElem?_eq_getElem hj] at h1
  simp only [Option.getD_some] at h1
  rw [e] at h1
  have:=h j (by simpa using hj)
  simp [this] at h1
theorem wk_root {adm:Int→Bool} {t:Tb} (ht:tbOK t) {r:Nat} (hr:fnd t.2.1 t.1=some r) (ha:ascN t.2.1) :
  ((wk (WD adm) t.2.1 2 r 0 (List.replicate t.2.1.length false,[])).1=true∧false ∉ (wk (WD adm) t.2.1 2 r 0 (List.replicate t.2.1.length false,[])).2.1 ↔
   (VM WA (Mof t.2.1) t.1∧∀ g∈hugM (Mof t.2.1) t.1,adm g=true)) ∧
  ((wk (WD adm) t.2.1 2 r 0 (List.replicate t.2.1.length false,[])).1=true→(wk (WD adm) t.2.1 2 r 0 (List.replicate t.2.1.length false,[])).2.2=hugM (Mof t.2.1) t.1):=by
 have hrl:=fnd_lt hr
 have h1:=wk_ok (D:=WD adm) (ns:=t.2.1) (fun w h=>(WD_ok adm).flat w h) (l:=2) r 0 (List.replicate t.2.1.length false,[]) hrl (by simp)
 have hlt:∀ i∈ids (WD adm) t.2.1 2 r,i<t.2.1.length:=ids_lt hrl
 have hgd:∀ i,(List.replicate t.2.1.length false).getD i false=false:=fun i=>by
  rw [List.getD_eq_getElem?_getD,List.getElem?_replicate];split<;>rfl
 have h2:=valid_iff (D:=WD adm) (WD_ok adm) ha (nds8_of ht) hr
 have hadm:(VM (WD adm) (Mof t.2.1) t.1∧∀ q i f,q<8→i<8→frP (WD adm) (Mof t.2.1) t.1 1 q=some f→(WD adm).hug (wM (Mof t.2.1) f i)=true→(WD adm).adm ((q*8+i:Nat):Int)=true)↔(VM WA (Mof t.2.1) t.1∧∀ g∈hugM (Mof t.2.1) t.1,adm g=true):=by
  constructor
  ·rintro ⟨a,b⟩
   refine ⟨VM_WD a,fun g hg=>?_⟩
   obtain ⟨k,hk,rfl,hB⟩:=mem_hugM.1 hg
   obtain ⟨f,hf,hw⟩:=hugB_iff.1 hB
   have:=b (k/8) (k%8) f (by omega) (by omega) (by rw [frP_WD (b:=fun _=>true)];exact hf) hw
   rw [show k/8*8+k%8=k by omega] at this
   exact this
  ·rintro ⟨a,b⟩
   refine ⟨VM_WD a,fun q i f hq hi hf hw=>?_⟩
   refine b _ (mem_hugM.2 ⟨q*8+i,by omega,rfl,hugB_iff.2 ⟨f,?_,?_⟩⟩)
   ·rw [show (q*8+i)/8=q by omega,frP_WD (b:=adm)];exact hf
   ·rw [show (q*8+i)%8=i by omega];exact hw
 obtain ⟨R,hR⟩:∃ R,R=wk (WD adm) t.2.1 2 r 0 (List.replicate t.2.1.length false,[]):=⟨_,rfl⟩
 rw [← hR] at h1 ⊢
 refine ⟨?_,fun hb=>?_⟩
 ·rw [← hadm,← h2]
  constructor
  ·rintro ⟨a,b⟩
   obtain ⟨g1,g2,g3⟩:=h1.1.1 a
   rw [h1.2 a] at b
   simp only at b
   exact ⟨g1,g2,(markL_all hlt).1 b⟩
  ·rintro ⟨g1,g2,g3⟩
   have a:=h1.1.2 ⟨g1,g2,fun i _=>hgd i⟩
   refine ⟨a,?_⟩
   rw [h1.2 a]
   exact (markL_all hlt).2 g3
 ·rw [h1.2 hb]
  simp only [List.nil_append]
  obtain ⟨g1,g2,g3⟩:=h1.1.1 hb
  rw [hugs_pos (WD_ok adm) g1]
  unfold hugL hugM
  congr 1
  refine List.filter_congr fun g hg=>?_
  have:=hugP_iff (WD_ok adm) ha (nds8_of ht) hr g1 (List.mem_range.1 hg)
  rw [Bool.eq_iff_iff,this,hugB_iff]
  rw [frP_WD (b:=fun _=>true)]
  exact Iff.rfl
structure Vt (t:Tb):Prop where
 num:NumOK t
 vm:VM WA (Mof t.2.1) t.1
 dep:t.2.2.map (·.1)=hugM (Mof t.2.1) t.1
theorem chk_iff {t:Tb} (ht:tbOK t):chk t=0↔Vt t:=by
 unfold chk
 by_cases hn:numB t=0
 ·obtain ⟨hR,hA,hT,r,hr⟩:=numB_zero hn
  have h1:=wk_root (adm:=fun _=>true) ht hr (ascN_of hA)
  rw [if_neg (by simp [hn])]
  have hw:wkA t=wk WA t.2.1 2 r 0 (List.replicate t.2.1.length false,[]):=by unfold wkA;rw [hr];rfl
  rw [hw]
  constructor
  ·intro h
   split at h
   ·rename_i hh
    have:=h1.1.1 ⟨hh.1,hh.2.1⟩
    exact ⟨numOK_iff.1 hn,this.1,by rw [← hh.2.2];exact h1.2 hh.1⟩
   ·simp at h
  ·intro h
   have:=h1.1.2 ⟨h.vm,fun _ _=>rfl⟩
   rw [if_pos ⟨this.1,this.2,by rw [h1.2 this.1];exact h.dep.symm⟩]
 ·rw [if_pos hn]
  exact ⟨fun h=>absurd h hn,fun h=>absurd (numOK_iff.2 h.num) hn⟩
theorem chkR_eq {t:Tb} (ht:tbOK t):chkR t=chk t:=by
 unfold chkR chk
 by_cases hn:numB t=0
 ·obtain ⟨hR,hA,hT,r,hr⟩:=numB_zero hn
  have hN:=numOK_iff.1 hn
  have h1:=wk_root (adm:=fun _=>true) ht hr (ascN_of hA)
  have h2:=wk_root (adm:=admR t.2.2) ht hr (ascN_of hA)
  have hn2:¬ numB t≠0:=by simp [hn]
  rw [if_neg hn2,if_neg hn2]
  have hw:wkA t=wk WA t.2.1 2 r 0 (List.replicate t.2.1.length false,[]):=by unfold wkA;rw [hr];rfl
  have hw2:wkAR t=wk (WR t.2.2) t.2.1 2 r 0 (List.replicate t.2.1.length false,[]):=by unfold wkAR;rw [hr];rfl
  rw [hw,hw2]
  have hmem:∀ g:Int,admR t.2.2 g=true↔g∈t.2.2.map (·.1):=fun g=>by
   unfold admR
   rw [decide_eq_true_iff,fstG_pos]
   constructor
   ·rintro ⟨j,hj,e⟩
    exact List.mem_map.2 ⟨_,List.getElem_mem hj,by simpa using e⟩
   ·intro h
    obtain ⟨d,hd,e⟩:=List.mem_map.1 h
    obtain ⟨j,hj,rfl⟩:=List.getElem_of_mem hd
    exact ⟨j,hj,by simpa using e⟩
  have hda:(t.2.2.map (·.1)).Pairwise (·<·):=by rw [List.pairwise_map];exact hN.dasc
  refine ite_congr (propext ?_) (fun _=>rfl) fun _=>rfl
  constructor
  ·rintro ⟨a,b,c⟩
   obtain ⟨v,ad⟩:=h2.1.1 ⟨a,c⟩
   have:=h1.1.2 ⟨v,fun _ _=>rfl⟩
   refine ⟨this.1,this.2,?_⟩
   rw [h1.2 this.1]
   rw [h2.2 a] at b
   exact asc_eq hugM_asc hda (fun g hg=>(hmem g).1 (ad g hg)) (by simpa using b)
  ·rintro ⟨a,b,c⟩
   obtain ⟨v,_⟩:=h1.1.1 ⟨a,b⟩
   rw [h1.2 a] at c
   have:=h2.1.2 ⟨v,fun g hg=>(hmem g).2 (by rw [← c];exact hg)⟩
   refine ⟨this.1,?_,this.2⟩
   rw [h2.2 this.1,c]
   simp
 ·rw [if_pos hn,if_pos hn]
end Go.AM
