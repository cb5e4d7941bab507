/- A part of the proof: what functions of the program compute, by abstract execution of their code. Its theorems hold without further condition. -/
import Derived.Test.YtcfhmdljeeppfaaGreatSPt19
set_option linter.all false
namespace Go.AM
open Go Go.Proofs
set_option maxHeartbeats 8000000 in
theorem s116_2 (X:AX) (hX:XOK Tryz.prog X) (hw:X.W wT) (hd:∀ n:Nat,n<2^64→∀ M k,X.call 56 [U n] M k=some (.tup [EnV (decR n).1,I (decR n).2],[]))
  (hsu:∀ (e:En) (l:Nat) M n,X.call 117 [EnV e,I l] M n=some (B (suitB e l),[])) (hrec:X.call 116=callG (ckS 1)):GSound Tryz.prog 116 (ckS 2):=by
 unfold ckS
 refine gsound_spec Tryz.func116 rfl X fun ⟨⟨⟨r,ns,ds⟩,n,first,led,hs⟩,hx⟩ w0 L E=>⟨by show 8≤96;decide,?_⟩
 obtain ⟨ht,ha,hn,hf,hled,hhs⟩:=hx
 simp only [ckF,ckH] at ht ha hn hf hled hhs
 show AW ⟨Tryz.prog,X,96,w0,⟨L,E,8⟩⟩ _ _ _
 have hc:Cx.OK ⟨Tryz.prog,X,96,w0,⟨L,E,8⟩⟩:=⟨hX,mixed⟩
 have hl1:ns.length≤1000000:=ht.2.1
 obtain ⟨R,hR⟩:∃ R,R=ckR 2 ((r,ns,ds),n,first,led,hs):=⟨_,rfl⟩
 simp only [← hR,ckM,ckA]
 have hnl:n<led.length:=by omega
 have hnI:(n:Int)<(led.length:Int):=by omega
 have hnN:(n:Int)<(ns.length:Int):=by omega
 have hg0:=brows_gi hnl
 have hgE0:=brows_gE hnl
 unfold ckR at hR
 simp only at hR
 rw [wk] at hR
 cases hb:led.getD n false with
 | true =>
  rw [hb] at hR hg0 hgE0
  simp only [if_true] at hR
  subst hR
  simp only
  have zS:=jj hnl<|jj hnI<|jj hg0<|hgE0
  refine dM64 ?_
  repeat (intro K hK)
  clear zS
  refine ⟨by simp,_,by simp [aResults,aResult,Tryz.f116];rfl,?_⟩
  simp only [Nat.sub_self,Nat.add_zero,idx]
  exact dle
 | false =>
  rw [hb] at hR hg0 hgE0
  simp only [Bool.false_eq_true,if_false] at hR
  have hset:=@brows_set led n true
  obtain ⟨led1,hl1⟩:∃ l,l=led.set n true:=⟨_,rfl⟩
  have hled1:led1.length=led.length:=by rw [hl1];simp
  rw [← hl1] at hR hset
  have zS:=jj hnl<|jj hnI<|jj hg0<|jj hgE0<|hset
  repeat' (first|(apply aw_seq_k;intro K hK)|(refine eM64 ?_)|(refine aw_cond (b:=_) (by exact rfl) (fun h=>?_) (fun h=>?_)<;>(try simp at h))|(refine eB ?_)|(refine hK _ ?_;clear hK)|(clear hK;refine hK _ ?_;clear hK)|(clear hK;clear hK;refine hK _ ?_;clear hK)|(clear hK;clear hK;clear hK;refine hK _ ?_;clear hK))
  all_goals clear zS
  refine aw_rounds 3 (aw_round ?_)
  repeat' (first|(apply aw_seq_k;intro K hK)|(refine eM64o ?_)|(refine aw_cond (b:=_) (by exact rfl) (fun h=>?_) (fun h=>?_)<;>(try simp at h))|(refine eB ?_)|(refine hK _ ?_;clear hK)|(clear hK;refine hK _ ?_;clear hK)|(clear hK;clear hK;refine hK _ ?_;clear hK)|(clear hK;clear hK;clear hK;refine hK _ ?_;clear hK))
  obtain ⟨h0,hh0⟩:∃ h0,h0=hs.length:=⟨_,rfl⟩
  obtain ⟨ln,hln⟩:∃ ln,ln=led.length:=⟨_,rfl⟩
  have hRl:R.2.1.length=ln:=by rw [hR,(wkF_adds (b:=72) (wk_adds (l:=1)) 8 0 (led1,hs)).1,hln];exact hled1
  rw [hRl,← hln]
  rw [← hh0]
  refine aw_loopK (s0:=?lps1) (m0:=?lpm1) (ι:={s:Nat×List Bool×List Int // s.1≤8∧s.2.1.length=ln∧h0≤s.2.2.length∧s.2.2.length≤h0+73*s.1∧wkF WA ns (wk WA ns 1) 2 n first (8 - s.1) s.1 (s.2.1,s.2.2)=R}) [0,1,2,4,5,6,7,12] (fun s=>[(31,I s.1.1)]) (fun s=>[(1,.vec 1 1 false (brows s.1.2.1)),(3,.box [.sl 4 (1+(s.1.2.2.length - h0)) 1 0 s.1.2.2.length]),(4,.vec (1+(s.1.2.2.length - h0)) 1 false (irows s.1.2.2))]) (fun s=>8 - s.1.1) ⟨(0,led1,hs),by simp,by simp only;omega,by simp only;omega,by simp only;omega,hR.symm⟩ ?lhs1 ?lhm1 ?_ ?_
  case lhs1=>first|(simp [keepS];done)|(simp [keepS];rfl)
  case lhm1=>first|rfl|(simp;done)|(simp;rfl)
  ·simp only [← hh0,Nat.sub_self,Nat.add_zero]
   exact dle
  ·clear hR hset hg0 hgE0 hb hnl hnI
   clear hl1
   rintro ⟨⟨i,led2,hs2⟩,hi,hl2,hh2,hb2,hst⟩
   simp only at hi hl2 hh2 hb2 hst ⊢
   obtain ⟨v,hv⟩:∃ v,v=1+(hs2.length - h0):=⟨_,rfl⟩
   rw [← hv]
   have hv1:1≤v:=by omega
   rcases Decidable.em (i<8) with hi8|hi8
   ·have hiI:(i:Int)<8:=by omega
    have hgn:=nrows_gi hn
    have hgnE:=nrows_gE hn
    have h8:(gn ns n).2.length=8:=(ht.1 _ (gn_mem hn)).1
    have hw8:=wcs_gi (l:=(gn ns n).2) (i:=i) (by omega)
    have hwE:=wcs_gE (l:=(gn ns n).2) (i:=i) (by omega)
    have hw64:=wd_lt ht (n:=n) (i:=i) hn
    obtain ⟨k8,hk8⟩:∃ k,8 - i=k+1:=⟨7 - i,by omega⟩
    have hk7:8 - (i+1)=k8:=by omega
    rw [hk8] at hst
    obtain ⟨w,hwd⟩:∃ w,w=wd ns n i:=⟨_,rfl⟩
    have hwg:(gn ns n).2.getD i 0=w:=hwd.symm
    rw [hwg] at hw8 hwE
    simp only at hw64
    rw [← hwd] at hw64
    have hwl:(wcs (gn ns n).2).length=8:=by simp [h8]
    obtain ⟨⟨fr,ws⟩,hm⟩:∃ m,m=gn ns n:=⟨_,rfl⟩
    rw [← hm] at hgn hgnE hw8 hwE hwl
    simp only at hgn hgnE hw8 hwE hwl
    obtain ⟨cs,hcs⟩:∃ cs,cs=wcs ws:=⟨_,rfl⟩
    rw [← hcs] at hgn hgnE hw8 hwE hwl
    clear hcs hm h8 hwg
    have hd':=hd w hw64
    have bad:=@wkF_bad WA ns (wk WA ns 1) 2 n first k8 i (led2,hs2)
    have pl:=@wkF_pl WA ns (wk WA ns 1) 2 n first k8 i (led2,hs2)
    have hug:=@wkF_hug WA ns (wk WA ns 1) 2 n first k8 i (led2,hs2)
    have lost:=fun g=>@wkF_lost WA ns (wk WA ns 1) 2 n first k8 i (led2,hs2) g
    have rcr:=fun g nx=>@wkF_rec WA ns (wk WA ns 1) 2 n first k8 i (led2,hs2) g nx
    have hone:=(WD_ok fun _=>true).one 2 w
    have hflat:=(WD_ok fun _=>true).flat w
    rw [← hwd] at bad pl hug lost rcr
    rw [hst] at bad pl hug lost rcr
    have hsu':=fun e=>hsu e 2
    obtain ⟨⟨⟨k,f,d,a,x,h⟩,e⟩,hE⟩:∃ r,r=decR w:=⟨_,rfl⟩
    have hok:WA.ok 2 w=(decide (e=0)&&suitB (k,f,d,a,x,h) 2):=by show okWb 2 w=_;unfold okWb;rw [← hE]
    have hhg:WA.hug w=(decide (k=1)&&h):=by show hugW w=_;unfold hugW;rw [← hE]
    have htb:WA.tab w=if k=4 then some f else none:=by show tabW w=_;unfold tabW;rw [← hE]
    rw [← hE] at hd'
    clear hE
    simp only [EnV,U] at hd' hw8 hwE
    have hsu2:∀ M n,X.call 117 [.agg [I k,I f,B d,B a,B x,B h],I 2] M n=some (B (suitB (k,f,d,a,x,h) 2),[]):=hsu' (k,f,d,a,x,h)
    rcases Decidable.em (e=0) with he|he
    ·subst he
     cases hsb:suitB (k,f,d,a,x,h) 2 with
     | false =>
      rw [hsb] at hsu2
      have hfin:=bad (by rw [hok,hsb];rfl)
      subst hfin
      simp only
      clear pl hug lost rcr hone hflat
      have zS:=jj hiI<|jj hi8<|jj hgn<|jj hgnE<|jj hw8<|jj hwE<|jj hwl<|jj hd'<|jj hsu2<|jj hn<|hnN
      repeat' (first|(apply aw_seq_k;intro K hK)|(refine eM64 ?_)|(refine aw_cond (b:=_) (by exact rfl) (fun h=>?_) (fun h=>?_)<;>(try simp at h))|(refine eB ?_)|(refine hK _ ?_;clear hK)|(clear hK;refine hK _ ?_;clear hK)|(clear hK;clear hK;refine hK _ ?_;clear hK)|(clear hK;clear hK;clear hK;refine hK _ ?_;clear hK))
      all_goals clear zS
      refine ⟨by simp,_,by simp [aResults,aResult,Tryz.f116];rfl,?_⟩
      simp only [← hv,idx]
      exact dle
     | true =>
      rw [hsb] at hsu2
      have hok1:WA.ok 2 w=true:=by rw [hok,hsb];rfl
      rcases Decidable.em (k=1∧h=true) with hk|hk
      ·obtain ⟨rfl,rfl⟩:=hk
       exact absurd (hone hok1 (by rw [hhg];rfl)) (by decide)
      ·have hhf:(decide (k=1)&&h)=false:=by
        rw [Bool.eq_false_iff];intro hh;simp only [Bool.and_eq_true,decide_eq_true_eq] at hh;exact hk hh
       rw [hhf] at hhg
       rcases Decidable.em (k=4) with hk4|hk4
       ·subst hk4
        clear hone hflat hug pl bad
        have hget:=idxE_get ha f
        cases hfn:fnd ns f with
        | none =>
         rw [hfn] at hget
         try simp only [Option.map_none] at hget
         have hfin:=lost f hok1 hhg (by rw [htb];rfl) hfn
         subst hfin
         simp only
         clear lost rcr
         have zS:=jj hiI<|jj hi8<|jj hgn<|jj hgnE<|jj hw8<|jj hwE<|jj hwl<|jj hd'<|jj hsu2<|jj hn<|jj hnN<|hget
         repeat' (first|(apply aw_seq_k;intro K hK)|(refine eM64 ?_)|(refine aw_cond (b:=_) (by exact rfl) (fun h=>?_) (fun h=>?_)<;>(try simp at h))|(refine eB ?_)|(refine hK _ ?_;clear hK)|(clear hK;refine hK _ ?_;clear hK)|(clear hK;clear hK;refine hK _ ?_;clear hK)|(clear hK;clear hK;clear hK;refine hK _ ?_;clear hK))
         all_goals clear zS
         refine ⟨by simp,_,by simp [aResults,aResult,Tryz.f116];rfl,?_⟩
         simp only [← hv,idx]
         exact dle
        | some nx =>
         rw [hfn] at hget
         try simp only [Option.map_some] at hget
         have hnx:=fnd_lt hfn
         have hfin:=rcr f nx hok1 hhg (by rw [htb];rfl) hfn
         clear lost rcr
         have hckk:ckOK 1 ((r,ns,ds),nx,first+i*64,led2,hs2):=⟨ht,ha,hnx,by simp only [ckF];omega,by simp only;omega,by simp only [ckH];omega⟩
         have hcall:=@callCk 1 (r,ns,ds) nx (first+i*64) led2 hs2 hckk v hv1 false false
         have hckR:ckR 1 ((r,ns,ds),nx,first+i*64,led2,hs2)=wk WA ns 1 nx (first+i*64) (led2,hs2):=rfl
         rw [hckR] at hcall
         have hadd:=wk_adds (D:=WA) (ns:=ns) (l:=1) nx (first+i*64) (led2,hs2)
         rw [show (8:Nat)^2=64 from rfl] at hfin
         obtain ⟨⟨b3,led3,hs3⟩,hR3⟩:∃ R,R=wk WA ns 1 nx (first+i*64) (led2,hs2):=⟨_,rfl⟩
         rw [← hR3] at hcall hfin hadd
         clear hR3 hckR hckk
         simp only [addsB] at hcall hfin hadd
         rw [hl2] at hcall hadd
         rw [hadd.1] at hcall
         rw [← hrec] at hcall
         have hfI:((first+i*64:Nat):Int)=(first:Int)+(i:Int)*64:=by omega
         rw [hfI,show ((1:Nat):Int)=(1:Int) from rfl] at hcall
         obtain ⟨v3,hv3⟩:∃ v3,v3=v+(hs3.length - hs2.length):=⟨_,rfl⟩
         rw [← hv3] at hcall
         cases b3 with
         | false =>
          simp only [Bool.false_eq_true,if_false] at hfin
          subst hfin
          simp only
          have zS:=jj hiI<|jj hi8<|jj hgn<|jj hgnE<|jj hw8<|jj hwE<|jj hwl<|jj hd'<|jj hsu2<|jj hn<|jj hnN<|jj hget<|hcall
          repeat' (first|(apply aw_seq_k;intro K hK)|(refine eM64 ?_)|(refine aw_cond (b:=_) (by exact rfl) (fun h=>?_) (fun h=>?_)<;>(try simp at h))|(refine eB ?_)|(refine hK _ ?_;clear hK)|(clear hK;refine hK _ ?_;clear hK)|(clear hK;clear hK;refine hK _ ?_;clear hK)|(clear hK;clear hK;clear hK;refine hK _ ?_;clear hK))
          all_goals clear zS
          refine ⟨by simp,_,by simp [aResults,aResult,Tryz.f116];rfl,?_⟩
          simp only [show 1+(hs3.length - h0)=v3 by omega,idx]
          exact dle
         | true =>
          simp only [if_true] at hfin
          have zS:=jj hiI<|jj hi8<|jj hgn<|jj hgnE<|jj hw8<|jj hwE<|jj hwl<|jj hd'<|jj hsu2<|jj hn<|jj hnN<|jj hget<|hcall
          repeat' (first|(apply aw_seq_k;intro K hK)|(refine eM64 ?_)|(refine aw_cond (b:=_) (by exact rfl) (fun h=>?_) (fun h=>?_)<;>(try simp at h))|(refine eB ?_)|(refine hK _ ?_;clear hK)|(clear hK;refine hK _ ?_;clear hK)|(clear hK;clear hK;refine hK _ ?_;clear hK)|(clear hK;clear hK;clear hK;refine hK _ ?_;clear hK))
          all_goals clear zS
          refine ⟨i+1,led3,hs3,?_,⟨by omega,hadd.1,by omega,by omega,by rw [hk7];exact hfin.symm⟩,by omega⟩
          simp only [show 1+(hs3.length - h0)=v3 by omega]
          exact dle
       ·have hfin:=pl hok1 hhg (by rw [htb,if_neg hk4])
        clear bad hug lost rcr hone hflat
        rcases Decidable.em (k=1) with hk1|hk1
        ·subst hk1
         have hh0:h=false:=by cases h with|false=>rfl|true=>exact absurd ⟨rfl,rfl⟩ hk
         subst hh0
         have zS:=jj hiI<|jj hi8<|jj hgn<|jj hgnE<|jj hw8<|jj hwE<|jj hwl<|jj hd'<|jj hsu2<|jj hn<|hnN
         repeat' (first|(apply aw_seq_k;intro K hK)|(refine eM64 ?_)|(refine aw_cond (b:=_) (by exact rfl) (fun h=>?_) (fun h=>?_)<;>(try simp at h))|(refine eB ?_)|(refine hK _ ?_;clear hK)|(clear hK;refine hK _ ?_;clear hK)|(clear hK;clear hK;refine hK _ ?_;clear hK)|(clear hK;clear hK;clear hK;refine hK _ ?_;clear hK))
         all_goals clear zS
         refine ⟨i+1,led2,hs2,?_,⟨by omega,hl2,by omega,by omega,by rw [hk7];exact hfin.symm⟩,by omega⟩
         simp only [← hv]
         exact dle
        ·have zS:=jj hiI<|jj hi8<|jj hgn<|jj hgnE<|jj hw8<|jj hwE<|jj hwl<|jj hd'<|jj hsu2<|jj hn<|jj hnN<|jj hk1<|hk4
         repeat' (first|(apply aw_seq_k;intro K hK)|(refine eM64 ?_)|(refine aw_cond (b:=_) (by exact rfl) (fun h=>?_) (fun h=>?_)<;>(try simp at h))|(refine eB ?_)|(refine hK _ ?_;clear hK)|(clear hK;refine hK _ ?_;clear hK)|(clear hK;clear hK;refine hK _ ?_;clear hK)|(clear hK;clear hK;clear hK;refine hK _ ?_;clear hK))
         all_goals clear zS
         refine ⟨i+1,led2,hs2,?_,⟨by omega,hl2,by omega,by omega,by rw [hk7];exact hfin.symm⟩,by omega⟩
         simp only [← hv]
         exact dle
    ·have hfin:=bad (by rw [hok];simp [he])
     subst hfin
     simp only
     clear pl hug lost rcr hone hflat
     have zS:=jj hiI<|jj hi8<|jj hgn<|jj hgnE<|jj hw8<|jj hwE<|jj hwl<|jj hd'<|jj he<|jj hn<|hnN
     repeat' (first|(apply aw_seq_k;intro K hK)|(refine eM64 ?_)|(refine aw_cond (b:=_) (by exact rfl) (fun h=>?_) (fun h=>?_)<;>(try simp at h))|(refine eB ?_)|(refine hK _ ?_;clear hK)|(clear hK;refine hK _ ?_;clear hK)|(clear hK;clear hK;refine hK _ ?_;clear hK)|(clear hK;clear hK;clear hK;refine hK _ ?_;clear hK))
     all_goals clear zS
     refine ⟨by simp,_,by simp [aResults,aResult,Tryz.f116];rfl,?_⟩
     simp only [← hv,idx]
     exact dle
   ·obtain rfl:i=8:=by omega
    simp only [Nat.sub_self,wkF] at hst
    subst hst
    simp only
    repeat' (first|(apply aw_seq_k;intro K hK)|(refine eM64o ?_)|(refine aw_cond (b:=_) (by exact rfl) (fun h=>?_) (fun h=>?_)<;>(try simp at h))|(refine eB ?_)|(refine hK _ ?_;clear hK)|(clear hK;refine hK _ ?_;clear hK)|(clear hK;clear hK;refine hK _ ?_;clear hK)|(clear hK;clear hK;clear hK;refine hK _ ?_;clear hK))
    refine ⟨by simp,_,by simp [aResults,aResult,Tryz.f116];rfl,?_⟩
    simp only [← hv,idx]
    exact dle
end Go.AM
namespace Go.AM
open Go Go.Proofs
theorem fstG_mem {α:Type} [DecidableEq α] {l:List α} {v:α}:0≤fstG (fun x=>decide (x=v)) l↔v∈l:=by
 rw [fstG_pos]
 constructor
 ·rintro ⟨j,hj,e⟩
  simp only [decide_eq_true_eq] at e
  rw [← e];exact List.getElem_mem hj
 ·intro h
  obtain ⟨j,hj,e⟩:=List.getElem_of_mem h
  exact ⟨j,hj,by simp [e]⟩
noncomputable def FIxB:List AV→Option AV:=specF (ι:={x:List Bool×Bool // x.1.length≤9223372036854775807}) (fun x=>[.rd 1 (brows x.1.1),B x.1.2]) fun x=>retOf [I (fstG (fun y=>decide (y=x.1.2)) x.1.1)]
theorem FIxB_at {l:List Bool} {v:Bool} (h:l.length≤9223372036854775807):FIxB [.rd 1 (brows l),B v]=some (I (fstG (fun y=>decide (y=v)) l)):=by
 refine specF_eq (ι:={x:List Bool×Bool // x.1.length≤9223372036854775807}) (A:=fun x=>[.rd 1 (brows x.1.1),B x.1.2]) (R:=fun x=>retOf [I (fstG (fun y=>decide (y=x.1.2)) x.1.1)]) ⟨(l,v),h⟩ fun j e=>?_
 obtain ⟨⟨l',v'⟩,h'⟩:=j
 simp only [List.cons.injEq,AV.rd.injEq,true_and,brows_inj,B,AV.v.injEq,Value.bool.injEq,and_true] at e
 obtain ⟨rfl,rfl⟩:=e
 rfl
theorem s182 (X:AX) (hX:XOK Tryz.prog X):PSound Tryz.prog 182 FIxB:=by
 unfold FIxB
 refine psound_spec hX mixed Tryz.func182 rfl fun ⟨⟨l,v⟩,hl⟩ w0 G=>⟨by show 2≤19;decide,rfl,?_⟩
 show AW ⟨Tryz.prog,X,19,w0,.pure G⟩ _ _ _
 have hc:Cx.OK ⟨Tryz.prog,X,19,w0,.pure G⟩:=⟨hX,mixed⟩
 simp only at hl ⊢
 repeat' (first|(apply aw_seq_k;intro K hK)|(refine eM64o ?_)|(refine aw_cond (b:=_) (by exact rfl) (fun h=>?_) (fun h=>?_)<;>(try simp at h))|(refine eB ?_)|(refine hK _ ?_;clear hK)|(clear hK;refine hK _ ?_;clear hK)|(clear hK;clear hK;refine hK _ ?_;clear hK)|(clear hK;clear hK;clear hK;refine hK _ ?_;clear hK))
 refine aw_loopK (s0:=?lps1) (m0:=?lpm1) (ι:={i:Nat // i≤l.length∧∀ j,j<i→¬ l.getD j false=v}) [0,1,7] (fun i=>[(8,I i.1)]) (fun _=>[]) (fun i=>l.length - i.1) ⟨0,by omega,by omega⟩ ?lhs1 ?lhm1 ?_ ?_
 case lhs1=>first|(simp [keepS];done)|(simp [keepS];rfl)
 case lhm1=>first|rfl|(simp;done)|(simp;rfl)
 ·exact dle
 ·rintro ⟨i,hi,hinv⟩
  simp only
  rcases Decidable.em (i<l.length) with hil|hil
  ·have hilI:(i:Int)<(l.length:Int):=by omega
   have hg:=brows_gi hil
   have hgE:=brows_gE hil
   have hat:=fstG_at (p:=fun y:Bool=>decide (y=v)) hil
   have hge:l[i]=l.getD i false:=by rw [List.getD_eq_getElem?_getD,List.getElem?_eq_getElem hil];rfl
   rw [hge] at hat
   obtain ⟨b,hb⟩:∃ b,b=l.getD i false:=⟨_,rfl⟩
   rw [← hb] at hg hgE hat
   rcases Decidable.em (b=v) with h1|h1
   ·subst h1
    have e:=hat (by simp) fun j hj=>by
     have:=hinv j hj
     rw [List.getD_eq_getElem?_getD,List.getElem?_eq_getElem (by omega)] at this
     simpa using this
    have zS:=jj hilI<|jj hg<|hgE
    repeat' (first|(apply aw_seq_k;intro K hK)|(refine eM64 ?_)|(refine aw_cond (b:=_) (by exact rfl) (fun h=>?_) (fun h=>?_)<;>(try simp at h))|(refine eB ?_)|(refine hK _ ?_;clear hK)|(clear hK;refine hK _ ?_;clear hK)|(clear hK;clear hK;refine hK _ ?_;clear hK)|(clear hK;clear hK;clear hK;refine hK _ ?_;clear hK))
    all_goals clear zS
    refine ⟨by simp,?_⟩
    simp [leaves_iff,Tryz.f182,e]
    try exact dt
   ·have h1':¬ v=b:=fun h=>h1 h.symm
    have h1b:(v == b)=false:=by simpa using h1'
    have zS:=jj hilI<|jj hg<|jj hgE<|jj h1'<|h1b
    repeat' (first|(apply aw_seq_k;intro K hK)|(refine eM64 ?_)|(refine aw_cond (b:=_) (by exact rfl) (fun h=>?_) (fun h=>?_)<;>(try simp at h))|(refine eB ?_)|(refine hK _ ?_;clear hK)|(clear hK;refine hK _ ?_;clear hK)|(clear hK;clear hK;refine hK _ ?_;clear hK)|(clear hK;clear hK;clear hK;refine hK _ ?_;clear hK))
    all_goals clear zS
    refine ⟨i+1,?_,⟨by omega,fun j hj=>?_⟩,by omega⟩
    ·exact dle
    ·rcases Nat.lt_succ_iff_lt_or_eq.1 hj with h2|rfl
     ·exact hinv j h2
     ·first|(rw [← hb];exact h1)|(rw [hb] at h1;simpa using h1)
  ·obtain rfl:i=l.length:=by omega
   have e:fstG (fun y:Bool=>decide (y=v)) l=-1:=fstG_not fun j hj=>by
    have:=hinv j hj
    rw [List.getD_eq_getElem?_getD,List.getElem?_eq_getElem hj] at this
    simpa using this
   repeat' (first|(apply aw_seq_k;intro K hK)|(refine eM64o ?_)|(refine aw_cond (b:=_) (by exact rfl) (fun h=>?_) (fun h=>?_)<;>(try simp at h))|(refine eB ?_)|(refine hK _ ?_;clear hK)|(clear hK;refine hK _ ?_;clear hK)|(clear hK;clear hK;refine hK _ ?_;clear hK)|(clear hK;clear hK;clear hK;refine hK _ ?_;clear hK))
   refine ⟨by simp,?_⟩
   simp [leaves_iff,Tryz.f182,e]
   try exact dt
noncomputable def FCtB:List AV→Option AV:=specF (ι:={x:List Bool×Bool // x.1.length≤9223372036854775807}) (fun x=>[.rd 1 (brows x.1.1),B x.1.2]) fun x=>retOf [B (decide (x.1.2∈x.1.1))]
theorem FCtB_at {l:List Bool} {v:Bool} (h:l.length≤9223372036854775807):FCtB [.rd 1 (brows l),B v]=some (B (decide (v∈l))):=by
 refine specF_eq (ι:={x:List Bool×Bool // x.1.length≤9223372036854775807}) (A:=fun x=>[.rd 1 (brows x.1.1),B x.1.2]) (R:=fun x=>retOf [B (decide (x.1.2∈x.1.1))]) ⟨(l,v),h⟩ fun j e=>?_
 obtain ⟨⟨l',v'⟩,h'⟩:=j
 simp only [List.cons.injEq,AV.rd.injEq,true_and,brows_inj,B,AV.v.injEq,Value.bool.injEq,and_true] at e
 obtain ⟨rfl,rfl⟩:=e
 rfl
theorem s118 (X:AX) (hX:XOK Tryz.prog X) (hi:X.call 182=callP FIxB):PSound Tryz.prog 118 FCtB:=by
 unfold FCtB
 refine psound_spec hX mixed Tryz.func118 rfl fun ⟨⟨l,v⟩,hl⟩ w0 G=>⟨by show 2≤9;decide,rfl,?_⟩
 show AW ⟨Tryz.prog,X,9,w0,.pure G⟩ _ _ _
 have hc:Cx.OK ⟨Tryz.prog,X,9,w0,.pure G⟩:=⟨hX,mixed⟩
 simp only at hl ⊢
 have hat:=FIxB_at (v:=v) hl
 have hm:=fstG_mem (l:=l) (v:=v)
 obtain ⟨q,hq⟩:∃ q,q=fstG (fun y=>decide (y=v)) l:=⟨_,rfl⟩
 rw [← hq] at hat hm
 rcases Decidable.em (0≤q) with h1|h1
 ·have e:decide (v∈l)=true:=decide_eq_true (hm.1 h1)
  have zS:=jj hi<|jj hat<|h1
  refine dM64 ?_
  repeat (intro K hK)
  clear zS
  refine ⟨by simp,?_⟩
  simp [leaves_iff,Tryz.f118,e]
  try exact dt
 ·have e:decide (v∈l)=false:=decide_eq_false fun h=>h1 (hm.2 h)
  have zS:=jj hi<|jj hat<|h1
  refine dM64 ?_
  repeat (intro K hK)
  clear zS
  refine ⟨by simp,?_⟩
  simp [leaves_iff,Tryz.f118,e]
  try exact dt
theorem irows_gE {l:List Int} {n:Nat} (h:n<l.length):∀ h',(irows l)[n]'(h')=[I (gi l n)]:=fun h'=>by
 have hg:=irows_gi h
 rw [List.getElem?_eq_getElem h'] at hg
 exact Option.some.inj hg
noncomputable def FIxI:List AV→Option AV:=specF (ι:={x:List Int×Int // x.1.length≤9223372036854775807}) (fun x=>[.rd 1 (irows x.1.1),I x.1.2]) fun x=>retOf [I (fstG (fun y=>decide (y=x.1.2)) x.1.1)]
theorem FIxI_at {l:List Int} {v:Int} (h:l.length≤9223372036854775807):FIxI [.rd 1 (irows l),I v]=some (I (fstG (fun y=>decide (y=v)) l)):=by
 refine specF_eq (ι:={x:List Int×Int // x.1.length≤9223372036854775807}) (A:=fun x=>[.rd 1 (irows x.1.1),I x.1.2]) (R:=fun x=>retOf [I (fstG (fun y=>decide (y=x.1.2)) x.1.1)]) ⟨(l,v),h⟩ fun j e=>?_
 obtain ⟨⟨l',v'⟩,h'⟩:=j
 simp only [List.cons.injEq,AV.rd.injEq,true_and,irows_inj,I,AV.v.injEq,Value.int.injEq,and_true] at e
 obtain ⟨rfl,rfl⟩:=e
 rfl
theorem s194 (X:AX) (hX:XOK Tryz.prog X):PSound Tryz.prog 194 FIxI:=by
 unfold FIxI
 refine psound_spec hX mixed Tryz.func194 rfl fun ⟨⟨l,v⟩,hl⟩ w0 G=>⟨by show 2≤19;decide,rfl,?_⟩
 show AW ⟨Tryz.prog,X,19,w0,.pure G⟩ _ _ _
 have hc:Cx.OK ⟨Tryz.prog,X,19,w0,.pure G⟩:=⟨hX,mixed⟩
 simp only at hl ⊢
 repeat' (first|(apply aw_seq_k;intro K hK)|(refine eM64o ?_)|(refine aw_cond (b:=_) (by exact rfl) (fun h=>?_) (fun h=>?_)<;>(try simp at h))|(refine eB ?_)|(refine hK _ ?_;clear hK)|(clear hK;refine hK _ ?_;clear hK)|(clear hK;clear hK;refine hK _ ?_;clear hK)|(clear hK;clear hK;clear hK;refine hK _ ?_;clear hK))
 refine aw_loopK (s0:=?lps2) (m0:=?lpm2) (ι:={i:Nat // i≤l.length∧∀ j,j<i→¬ gi l j=v}) [0,1,7] (fun i=>[(8,I i.1)]) (fun _=>[]) (fun i=>l.length - i.1) ⟨0,by omega,by omega⟩ ?lhs2 ?lhm2 ?_ ?_
 case lhs2=>first|(simp [keepS];done)|(simp [keepS];rfl)
 case lhm2=>first|rfl|(simp;done)|(simp;rfl)
 ·exact dle
 ·rintro ⟨i,hi,hinv⟩
  simp only
  rcases Decidable.em (i<l.length) with hil|hil
  ·have hilI:(i:Int)<(l.length:Int):=by omega
   have hg:=irows_gi hil
   have hgE:=irows_gE hil
   have hat:=fstG_at (p:=fun y:Int=>decide (y=v)) hil
   have hge:l[i]=gi l i:=(gi_eq hil).symm
   rw [hge] at hat
   obtain ⟨b,hb⟩:∃ b,b=gi l i:=⟨_,rfl⟩
   rw [← hb] at hg hgE hat
   rcases Decidable.em (b=v) with h1|h1
   ·subst h1
    have e:=hat (by simp) fun j hj=>by
     have:=hinv j hj
     rw [gi_eq (by omega)] at this
     simpa using this
    have zS:=jj hilI<|jj hg<|hgE
    repeat' (first|(apply aw_seq_k;intro K hK)|(refine eM64 ?_)|(refine aw_cond (b:=_) (by exact rfl) (fun h=>?_) (fun h=>?_)<;>(try simp at h))|(refine eB ?_)|(refine hK _ ?_;clear hK)|(clear hK;refine hK _ ?_;clear hK)|(clear hK;clear hK;refine hK _ ?_;clear hK)|(clear hK;clear hK;clear hK;refine hK _ ?_;clear hK))
    all_goals clear zS
    refine ⟨by simp,?_⟩
    simp [leaves_iff,Tryz.f194,e]
    try exact dt
   ·have h1':¬ v=b:=fun h=>h1 h.symm
    have zS:=jj hilI<|jj hg<|jj hgE<|h1'
    repeat' (first|(apply aw_seq_k;intro K hK)|(refine eM64 ?_)|(refine aw_cond (b:=_) (by exact rfl) (fun h=>?_) (fun h=>?_)<;>(try simp at h))|(refine eB ?_)|(refine hK _ ?_;clear hK)|(clear hK;refine hK _ ?_;clear hK)|(clear hK;clear hK;refine hK _ ?_;clear hK)|(clear hK;clear hK;clear hK;refine hK _ ?_;clear hK))
    all_goals clear zS
    refine ⟨i+1,?_,⟨by omega,fun j hj=>?_⟩,by omega⟩
    ·exact dle
    ·rcases Nat.lt_succ_iff_lt_or_eq.1 hj with h2|rfl
     ·exact hinv j h2
     ·first|(rw [← hb];exact h1)|(rw [hb] at h1;simpa using h1)
  ·obtain rfl:i=l.length:=by omega
   have e:fstG (fun y:Int=>decide (y=v)) l=-1:=fstG_not fun j hj=>by
    have:=hinv j hj
    rw [gi_eq hj] at this
    simpa using this
   repeat' (first|(apply aw_seq_k;intro K hK)|(refine eM64o ?_)|(refine aw_cond (b:=_) (by exact rfl) (fun h=>?_) (fun h=>?_)<;>(try simp at h))|(refine eB ?_)|(refine hK _ ?_;clear hK)|(clear hK;refine hK _ ?_;clear hK)|(clear hK;clear hK;refine hK _ ?_;clear hK)|(clear hK;clear hK;clear hK;refine hK _ ?_;clear hK))
   refine ⟨by simp,?_⟩
   simp [leaves_iff,Tryz.f194,e]
   try exact dt
noncomputable def FCtI:List AV→Option AV:=specF (ι:={x:List Int×Int // x.1.length≤9223372036854775807}) (fun x=>[.rd 1 (irows x.1.1),I x.1.2]) fun x=>retOf [B (decide (x.1.2∈x.1.1))]
theorem s142 (X:AX) (hX:XOK Tryz.prog X) (hi:X.call 194=callP FIxI):PSound Tryz.prog 142 FCtI:=by
 unfold FCtI
 refine psound_spec hX mixed Tryz.func142 rfl fun ⟨⟨l,v⟩,hl⟩ w0 G=>⟨by show 2≤9;decide,rfl,?_⟩
 show AW ⟨Tryz.prog,X,9,w0,.pure G⟩ _ _ _
 have hc:Cx.OK ⟨Tryz.prog,X,9,w0,.pure G⟩:=⟨hX,mixed⟩
 simp only at hl ⊢
 have hat:=FIxI_at (v:=v) hl
 have hm:=fstG_mem (l:=l) (v:=v)
 obtain ⟨q,hq⟩:∃ q,q=fstG (fun y=>decide (y=v)) l:=⟨_,rfl⟩
 rw [← hq] at hat hm
 rcases Decidable.em (0≤q) with h1|h1
 ·have e:decide (v∈l)=true:=decide_eq_true (hm.1 h1)
  have zS:=jj hi<|jj hat<|h1
  refine dM64 ?_
  repeat (intro K hK)
  clear zS
  refine ⟨by simp,?_⟩
  simp [leaves_iff,Tryz.f142,e]
  try exact dt
 ·have e:decide (v∈l)=false:=decide_eq_false fun h=>h1 (hm.2 h)
  have zS:=jj hi<|jj hat<|h1
  refine dM64 ?_
  repeat (intro K hK)
  clear zS
  refine ⟨by simp,?_⟩
  simp [leaves_iff,Tryz.f142,e]
  try exact dt
end Go.AM
namespace Go.AM
open Go Go.Proofs
set_option maxHeartbeats 2000000 in
set_option maxRecDepth 4000 in
theorem callCkT {l:Nat} {t:Tb} {n f:Nat} {led:List Bool} {hs:List Int} (h:ckOK l (t,n,f,led,hs)) {v:Nat} (hv:1≤v) {fl1 fl2:Bool} (M:Nat→AO) (nid:Nat)
  (h0:M 240=.box [.sl 224 1 1 0 led.length]) (h1:M 224=.vec 1 1 fl1 (brows led)) (h2:M 0=.box [I t.1,.rd 9 (nrows t.2.1),.rd 2 (prows t.2.2)]) (h3:M 272=.box [.sl 336 v 1 0 hs.length]) (h4:M 336=.vec v 1 fl2 (irows hs)) (h5:M 144=.box [.mp 128 1]) (h6:M 128=.map 1 1 (idxE t.2.1 t.2.1.length)) (h7:M 288=.box [.fn 116 [.bp 240 0,.bp 0 0,.bp 272 0,.bp 144 0,.bp 288 0]]) :
  callG (ckS l) [I n,I l,I f,.bp 240 0,.bp 0 0,.bp 272 0,.bp 144 0,.bp 288 0] M nid=some (B (ckR l (t,n,f,led,hs)).1,[(240,.box [.sl 224 1 1 0 (ckR l (t,n,f,led,hs)).2.1.length]),(224,.vec 1 1 false (brows (ckR l (t,n,f,led,hs)).2.1)),(0,.box [I t.1,.rd 9 (nrows t.2.1),.rd 2 (prows t.2.2)]),(272,.box [.sl 336 (v+((ckR l (t,n,f,led,hs)).2.2.length - hs.length)) 1 0 (ckR l (t,n,f,led,hs)).2.2.length]),(336,.vec (v+((ckR l (t,n,f,led,hs)).2.2.length - hs.length)) 1 false (irows (ckR l (t,n,f,led,hs)).2.2)),(144,.box [.mp 128 1]),(128,.map 1 1 (idxE t.2.1 t.2.1.length)),(288,.box [.fn 116 [.bp 240 0,.bp 0 0,.bp 272 0,.bp 144 0,.bp 288 0]])]):=by
 have hF:=ckS_at h
 simp only [ckA,ckM] at hF
 obtain ⟨R,hR⟩:∃ R,R=ckR l (t,n,f,led,hs):=⟨_,rfl⟩
 rw [← hR] at hF ⊢
 have hvv:1+(R.2.2.length - hs.length)+(v - 1)=v+(R.2.2.length - hs.length):=by omega
 have hv0:¬ v=0:=by omega
 unfold callG
 have hg:gat M 64 (nmsL [I n,I l,I f,.bp 240 0,.bp 0 0,.bp 272 0,.bp 144 0,.bp 288 0]) []=[240,224,0,272,336,144,128,288]:=by
  simp [gat,nmsL,AV.nms,AO.nms,h0,h1,h2,h3,h4,h5,h6,h7]
 simp only [hg]
 rw [if_pos ?cg]
 case cg=>simp [CallG,nmsL,AV.nms,AO.nms,Led,curBL,AV.curB,AO.curB,verOf,notDead,h0,h1,h2,h3,h4,h5,h6,h7]
 simp [renL,AV.ren,AO.ren,posN,canO,nmsL,h0,h1,h2,h3,h4,h5,h6,h7,hF,RetG,getL,AV.nms,AO.nms,updN,nmN,shN,verOf,hvv,rng,Led]
end Go.AM
