/- A part of the proof; no condition. -/
import Derived.Test.YtcfhmdljeeppfaaGreatQPt16
set_option linter.all false
namespace Go.AM
open Go Go.Proofs
set_option maxHeartbeats 8000000 in
theorem s116_2 (X:AX) (hX:XOK Tryz.prog X) (hw:X.W wT) (hd:∀ n:Nat,n<2^64→∀ M k,X.call 56 [U n] M k=some (.tup [EnV (decR n).1,I (decR n).2],[]))
  (hsu:∀ (e:En) (l:Nat) M n,X.call 117 [EnV e,I l] M n=some (B (suitB e l),[])) (hrec:X.call 116=callG (ckS 1)):GSound Tryz.prog 116 (ckS 2):=by
 unfold ckS
 refine gsound_spec Tryz.func116 rfl X fun ⟨⟨⟨r,ns,ds⟩,n,first,led,hs⟩,hx⟩ w0 L E=>⟨by show 8≤96;decide,?_⟩
 obtain ⟨ht,ha,hn,hf,hled,hhs⟩:=hx
 simp only [ckF,ckH] at ht ha hn hf hled hhs
 show AW ⟨Tryz.prog,X,96,w0,⟨L,E,8⟩⟩ _ _ _
 have hc:Cx.OK ⟨Tryz.prog,X,96,w0,⟨L,E,8⟩⟩:=⟨hX,mixed⟩
 have hl1:ns.length≤1000000:=ht.2.1
 obtain ⟨R,hR⟩:∃ R,R=ckR 2 ((r,ns,ds),n,first,led,hs):=⟨_,rfl⟩
 simp only [← hR,ckM,ckA]
 have hnl:n<led.length:=by omega
 have hnI:(n:Int)<(led.length:Int):=by omega
 have hnN:(n:Int)<(ns.length:Int):=by omega
 have hg0:=brows_gi hnl
 have hgE0:=brows_gE hnl
 unfold ckR at hR
 simp only at hR
 rw [wk] at hR
 cases hb:led.getD n false with
 | true =>
  rw [hb] at hR hg0 hgE0
  simp only [if_true] at hR
  subst hR
  simp only
  have zS:=jj hnl<|jj hnI<|jj hg0<|hgE0
  refine dM64 ?_
  repeat (intro K hK)
  clear zS
  refine ⟨by simp,_,by simp [aResults,aResult,Tryz.f116];rfl,?_⟩
  simp only [Nat.sub_self,Nat.add_zero,idx]
  exact dle
 | false =>
  rw [hb] at hR hg0 hgE0
  simp only [Bool.false_eq_true,if_false] at hR
  have hset:=@brows_set led n true
  obtain ⟨led1,hl1⟩:∃ l,l=led.set n true:=⟨_,rfl⟩
  have hled1:led1.length=led.length:=by rw [hl1];simp
  rw [← hl1] at hR hset
  have zS:=jj hnl<|jj hnI<|jj hg0<|jj hgE0<|hset
  repeat' (first|(apply aw_seq_k;intro K hK)|(refine eM64 ?_)|(refine aw_cond (b:=_) (by exact rfl) (fun h=>?_) (fun h=>?_)<;>(try simp at h))|(refine eB ?_)|(refine hK _ ?_;clear hK)|(clear hK;refine hK _ ?_;clear hK)|(clear hK;clear hK;refine hK _ ?_;clear hK)|(clear hK;clear hK;clear hK;refine hK _ ?_;clear hK))
  all_goals clear zS
  refine aw_rounds 3 (aw_round ?_)
  repeat' (first|(apply aw_seq_k;intro K hK)|(refine eM64o ?_)|(refine aw_cond (b:=_) (by exact rfl) (fun h=>?_) (fun h=>?_)<;>(try simp at h))|(refine eB ?_)|(refine hK _ ?_;clear hK)|(clear hK;refine hK _ ?_;clear hK)|(clear hK;clear hK;refine hK _ ?_;clear hK)|(clear hK;clear hK;clear hK;refine hK _ ?_;clear hK))
  obtain ⟨h0,hh0⟩:∃ h0,h0=hs.length:=⟨_,rfl⟩
  obtain ⟨ln,hln⟩:∃ ln,ln=led.length:=⟨_,rfl⟩
  have hRl:R.2.1.length=ln:=by rw [hR,(wkF_adds (b:=72) (wk_adds (l:=1)) 8 0 (led1,hs)).1,hln];exact hled1
  rw [hRl,← hln]
  rw [← hh0]
  refine aw_loopK (s0:=?lps1) (m0:=?lpm1) (ι:={s:Nat×List Bool×List Int // s.1≤8∧s.2.1.length=ln∧h0≤s.2.2.length∧s.2.2.length≤h0+73*s.1∧wkF WA ns (wk WA ns 1) 2 n first (8 - s.1) s.1 (s.2.1,s.2.2)=R}) [0,1,2,4,5,6,7,12] (fun s=>[(31,I s.1.1)]) (fun s=>[(1,.vec 1 1 false (brows s.1.2.1)),(3,.box [.sl 4 (1+(s.1.2.2.length - h0)) 1 0 s.1.2.2.length]),(4,.vec (1+(s.1.2.2.length - h0)) 1 false (irows s.1.2.2))]) (fun s=>8 - s.1.1) ⟨(0,led1,hs),by simp,by simp only;omega,by simp only;omega,by simp only;omega,hR.symm⟩ ?lhs1 ?lhm1 ?_ ?_
  case lhs1=>first|(simp [keepS];done)|(simp [keepS];rfl)
  case lhm1=>first|rfl|(simp;done)|(simp;rfl)
  ·simp only [← hh0,Nat.sub_self,Nat.add_zero]
   exact dle
  ·clear hR hset hg0 hgE0 hb hnl hnI
   clear hl1
   rintro ⟨⟨i,led2,hs2⟩,hi,hl2,hh2,hb2,hst⟩
   simp only at hi hl2 hh2 hb2 hst ⊢
   obtain ⟨v,hv⟩:∃ v,v=1+(hs2.length - h0):=⟨_,rfl⟩
   rw [← hv]
   have hv1:1≤v:=by omega
   rcases Decidable.em (i<8) with hi8|hi8
   ·have hiI:(i:Int)<8:=by omega
    have hgn:=nrows_gi hn
    have hgnE:=nrows_gE hn
    have h8:(gn ns n).2.length=8:=(ht.1 _ (gn_mem hn)).1
    have hw8:=wcs_gi (l:=(gn ns n).2) (i:=i) (by omega)
    have hwE:=wcs_gE (l:=(gn ns n).2) (i:=i) (by omega)
    have hw64:=wd_lt ht (n:=n) (i:=i) hn
    obtain ⟨k8,hk8⟩:∃ k,8 - i=k+1:=⟨7 - i,by omega⟩
    have hk7:8 - (i+1)=k8:=by omega
    rw [hk8] at hst
    obtain ⟨w,hwd⟩:∃ w,w=wd ns n i:=⟨_,rfl⟩
    have hwg:(gn ns n).2.getD i 0=w:=hwd.symm
    rw [hwg] at hw8 hwE
    simp only at hw64
    rw [← hwd] at hw64
    have hwl:(wcs (gn ns n).2).length=8:=by simp [h8]
    obtain ⟨⟨fr,ws⟩,hm⟩:∃ m,m=gn ns n:=⟨_,rfl⟩
    rw [← hm] at hgn hgnE hw8 hwE hwl
    simp only at hgn hgnE hw8 hwE hwl
    obtain ⟨cs,hcs⟩:∃ cs,cs=wcs ws:=⟨_,rfl⟩
    rw [← hcs] at hgn hgnE hw8 hwE hwl
    clear hcs hm h8 hwg
    have hd':=hd w hw64
    have bad:=@wkF_bad WA ns (wk WA ns 1) 2 n first k8 i (led2,hs2)
    have pl:=@wkF_pl WA ns (wk WA ns 1) 2 n first k8 i (led2,hs2)
    have hug:=@wkF_hug WA ns (wk WA ns 1) 2 n first k8 i (led2,hs2)
    have lost:=fun g=>@wkF_lost WA ns (wk WA ns 1) 2 n first k8 i (led2,hs2) g
    have rcr:=fun g nx=>@wkF_rec WA ns (wk WA ns 1) 2 n first k8 i (led2,hs2) g nx
    have hone:=(WD_ok fun _=>true).one 2 w
    have hflat:=(WD_ok fun _=>true).flat w
    rw [← hwd] at bad pl hug lost rcr
    rw [hst] at bad pl hug lost rcr
    have hsu':=fun e=>hsu e 2
    obtain ⟨⟨⟨k,f,d,a,x,h⟩,e⟩,hE⟩:∃ r,r=decR w:=⟨_,rfl⟩
    have hok:WA.ok 2 w=(decide (e=0)&&suitB (k,f,d,a,x,h) 2):=by show okWb 2 w=_;unfold okWb;rw [← hE]
    have hhg:WA.hug w=(decide (k=1)&&h):=by show hugW w=_;unfold hugW;rw [← hE]
    have htb:WA.tab w=if k=4 then some f else none:=by show tabW w=_;unfold tabW;rw [← hE]
    rw [← hE] at hd'
    clear hE
    simp only [EnV,U] at hd' hw8 hwE
    have hsu2:∀ M n,X.call 117 [.agg [I k,I f,B d,B a,B x,B h],I 2] M n=some (B (suitB (k,f,d,a,x,h) 2),[]):=hsu' (k,f,d,a,x,h)
    rcases Decidable.em (e=0) with he|he
    ·subst he
     cases hsb:suitB (k,f,d,a,x,h) 2 with
     | false =>
      rw [hsb] at hsu2
      have hfin:=bad (by rw [hok,hsb];rfl)
      subst hfin
      simp only
      clear pl hug lost rcr hone hflat
      have zS:=jj hiI<|jj hi8<|jj hgn<|jj hgnE<|jj hw8<|jj hwE<|jj hwl<|jj hd'<|jj hsu2<|jj hn<|hnN
      repeat' (first|(apply aw_seq_k;intro K hK)|(refine eM64 ?_)|(refine aw_cond (b:=_) (by exact rfl) (fun h=>?_) (fun h=>?_)<;>(try simp at h))|(refine eB ?_)|(refine hK _ ?_;clear hK)|(clear hK;refine hK _ ?_;clear hK)|(clear hK;clear hK;refine hK _ ?_;clear hK)|(clear hK;clear hK;clear hK;refine hK _ ?_;clear hK))
      all_goals clear zS
      refine ⟨by simp,_,by simp [aResults,aResult,Tryz.f116];rfl,?_⟩
      simp only [← hv,idx]
      exact dle
     | true =>
      rw [hsb] at hsu2
      have hok1:WA.ok 2 w=true:=by rw [hok,hsb];rfl
      rcases Decidable.em (k=1∧h=true) with hk|hk
      ·obtain ⟨rfl,rfl⟩:=hk
       exact absurd (hone hok1 (by rw [hhg];rfl)) (by decide)
      ·have hhf:(decide (k=1)&&h)=false:=by
        rw [Bool.eq_false_iff];intro hh;simp only [Bool.and_eq_true,decide_eq_true_eq] at hh;exact hk hh
       rw [hhf] at hhg
       rcases Decidable.em (k=4) with hk4|hk4
       ·subst hk4
        clear hone hflat hug pl bad
        have hget:=idxE_get ha f
        cases hfn:fnd ns f with
        | none =>
         rw [hfn] at hget
         try simp only [Option.map_none] at hget
         have hfin:=lost f hok1 hhg (by rw [htb];rfl) hfn
         subst hfin
         simp only
         clear lost rcr
         have zS:=jj hiI<|jj hi8<|jj hgn<|jj hgnE<|jj hw8<|jj hwE<|jj hwl<|jj hd'<|jj hsu2<|jj hn<|jj hnN<|hget
         repeat' (first|(apply aw_seq_k;intro K hK)|(refine eM64 ?_)|(refine aw_cond (b:=_) (by exact rfl) (fun h=>?_) (fun h=>?_)<;>(try simp at h))|(refine eB ?_)|(refine hK _ ?_;clear hK)|(clear hK;refine hK _ ?_;clear hK)|(clear hK;clear hK;refine hK _ ?_;clear hK)|(clear hK;clear hK;clear hK;refine hK _ ?_;clear hK))
         all_goals clear zS
         refine ⟨by simp,_,by simp [aResults,aResult,Tryz.f116];rfl,?_⟩
         simp only [← hv,idx]
         exact dle
        | some nx =>
         rw [hfn] at hget
         try simp only [Option.map_some] at hget
         have hnx:=fnd_lt hfn
         have hfin:=rcr f nx hok1 hhg (by rw [htb];rfl) hfn
         clear lost rcr
         have hckk:ckOK 1 ((r,ns,ds),nx,first+i*64,led2,hs2):=⟨ht,ha,hnx,by simp only [ckF];omega,by simp only;omega,by simp only [ckH];omega⟩
         have hcall:=@callCk 1 (r,ns,ds) nx (first+i*64) led2 hs2 hckk v hv1 false false
         have hckR:ckR 1 ((r,ns,ds),nx,first+i*64,led2,hs2)=wk WA ns 1 nx (first+i*64) (led2,hs2):=rfl
         rw [hckR] at hcall
         have hadd:=wk_adds (D:=WA) (ns:=ns) (l:=1) nx (first+i*64) (led2,hs2)
         rw [show (8:Nat)^2=64 from rfl] at hfin
         obtain ⟨⟨b3,led3,hs3⟩,hR3⟩:∃ R,R=wk WA ns 1 nx (first+i*64) (led2,hs2):=⟨_,rfl⟩
         rw [← hR3] at hcall hfin hadd
         clear hR3 hckR hckk
         simp only [addsB] at hcall hfin hadd
         rw [hl2] at hcall hadd
         rw [hadd.1] at hcall
         rw [← hrec] at hcall
         have hfI:((first+i*64:Nat):Int)=(first:Int)+(i:Int)*64:=by omega
         rw [hfI,show ((1:Nat):Int)=(1:Int) from rfl] at hcall
         obtain ⟨v3,hv3⟩:∃ v3,v3=v+(hs3.length - hs2.length):=⟨_,rfl⟩
         rw [← hv3] at hcall
         cases b3 with
         | false =>
          simp only [Bool.false_eq_true,if_false] at hfin
          subst hfin
          simp only
          have zS:=jj hiI<|jj hi8<|jj hgn<|jj hgnE<|jj hw8<|jj hwE<|jj hwl<|jj hd'<|jj hsu2<|jj hn<|jj hnN<|jj hget<|hcall
          repeat' (first|(apply aw_seq_k;intro K hK)|(refine eM64 ?_)|(refine aw_cond (b:=_) (by exact rfl) (fun h=>?_) (fun h=>?_)<;>(try simp at h))|(refine eB ?_)|(refine hK _ ?_;clear hK)|(clear hK;refine hK _ ?_;clear hK)|(clear hK;clear hK;refine hK _ ?_;clear hK)|(clear hK;clear hK;clear hK;refine hK _ ?_;clear hK))
          all_goals clear zS
          refine ⟨by simp,_,by simp [aResults,aResult,Tryz.f116];rfl,?_⟩
          simp only [show 1+(hs3.length - h0)=v3 by omega,idx]
          exact dle
         | true =>
          simp only [if_true] at hfin
          have zS:=jj hiI<|jj hi8<|jj hgn<|jj hgnE<|jj hw8<|jj hwE<|jj hwl<|jj hd'<|jj hsu2<|jj hn<|jj hnN<|jj hget<|hcall
          repeat' (first|(apply aw_seq_k;intro K hK)|(refine eM64 ?_)|(refine aw_cond (b:=_) (by exact rfl) (fun h=>?_) (fun h=>?_)<;>(try simp at h))|(refine eB ?_)|(refine hK _ ?_;clear hK)|(clear hK;refine hK _ ?_;clear hK)|(clear hK;clear hK;refine hK _ ?_;clear hK)|(clear hK;clear hK;clear hK;refine hK _ ?_;clear hK))
          all_goals clear zS
          refine ⟨i+1,led3,hs3,?_,⟨by omega,hadd.1,by omega,by omega,by rw [hk7];exact hfin.symm⟩,by omega⟩
          simp only [show 1+(hs3.length - h0)=v3 by omega]
          exact dle
       ·have hfin:=pl hok1 hhg (by rw [htb,if_neg hk4])
        clear bad hug lost rcr hone hflat
        rcases Decidable.em (k=1) with hk1|hk1
        ·subst hk1
         have hh0:h=false:=by cases h with|false=>rfl|true=>exact absurd ⟨rfl,rfl⟩ hk
         subst hh0
         have zS:=jj hiI<|jj hi8<|jj hgn<|jj hgnE<|jj hw8<|jj hwE<|jj hwl<|jj hd'<|jj hsu2<|jj hn<|hnN
         repeat' (first|(apply aw_seq_k;intro K hK)|(refine eM64 ?_)|(refine aw_cond (b:=_) (by exact rfl) (fun h=>?_) (fun h=>?_)<;>(try simp at h))|(refine eB ?_)|(refine hK _ ?_;clear hK)|(clear hK;refine hK _ ?_;clear hK)|(clear hK;clear hK;refine hK _ ?_;clear hK)|(clear hK;clear hK;clear hK;refine hK _ ?_;clear hK))
         all_goals clear zS
         refine ⟨i+1,led2,hs2,?_,⟨by omega,hl2,by omega,by omega,by rw [hk7];exact hfin.symm⟩,by omega⟩
         simp only [← hv]
         exact dle
        ·have zS:=jj hiI<|jj hi8<|jj hgn<|jj hgnE<|jj hw8<|jj hwE<|jj hwl<|jj hd'<|jj hsu2<|jj hn<|jj hnN<|jj hk1<|hk4
         repeat' (first|(apply aw_seq_k;intro K hK)|(refine eM64 ?_)|(refine aw_cond (b:=_) (by exact rfl) (fun h=>?_) (fun h=>?_)<;>(try simp at h))|(refine eB ?_)|(refine hK _ ?_;clear hK)|(clear hK;refine hK _ ?_;clear hK)|(clear hK;clear hK;refine hK _ ?_;clear hK)|(clear hK;clear hK;clear hK;refine hK _ ?_;clear hK))
         all_goals clear zS
         refine ⟨i+1,led2,hs2,?_,⟨by omega,hl2,by omega,by omega,by rw [hk7];exact hfin.symm⟩,by omega⟩
         simp only [← hv]
         exact dle
    ·have hfin:=bad (by rw [hok];simp [he])
     subst hfin
     simp only
     clear pl hug lost rcr hone hflat
     have zS:=jj hiI<|jj hi8<|jj hgn<|jj hgnE<|jj hw8<|jj hwE<|jj hwl<|jj hd'<|jj he<|jj hn<|hnN
     repeat' (first|(apply aw_seq_k;intro K hK)|(refine eM64 ?_)|(refine aw_cond (b:=_) (by exact rfl) (fun h=>?_) (fun h=>?_)<;>(try simp at h))|(refine eB ?_)|(refine hK _ ?_;clear hK)|(clear hK;refine hK _ ?_;clear hK)|(clear hK;clear hK;refine hK _ ?_;clear hK)|(clear hK;clear hK;clear hK;refine hK _ ?_;clear hK))
     all_goals clear zS
     refine ⟨by simp,_,by simp [aResults,aResult,Tryz.f116];rfl,?_⟩
     simp only [← hv,idx]
     exact dle
   ·obtain rfl:i=8:=by omega
    simp only [Nat.sub_self,wkF] at hst
    subst hst
    simp only
    repeat' (first|(apply aw_seq_k;intro K hK)|(refine eM64o ?_)|(refine aw_cond (b:=_) (by exact rfl) (fun h=>?_) (fun h=>?_)<;>(try simp at h))|(refine eB ?_)|(refine hK _ ?_;clear hK)|(clear hK;refine hK _ ?_;clear hK)|(clear hK;clear hK;refine hK _ ?_;clear hK)|(clear hK;clear hK;clear hK;refine hK _ ?_;clear hK))
    refine ⟨by simp,_,by simp [aResults,aResult,Tryz.f116];rfl,?_⟩
    simp only [← hv,idx]
    exact dle
end Go.AM
namespace Go.AM
open Go Go.Proofs
theorem fstG_mem {α:Type} [DecidableEq α] {l:List α} {v:α}:0≤fstG (fun x=>decide (x=v)) l↔v∈l:=by
 rw [fstG_pos]
 constructor
 ·rintro ⟨j,hj,e⟩
  simp only [decide_eq_true_eq] at e
  rw [← e];exact List.getElem_mem hj
 ·intro h
  obtain ⟨j,hj,e⟩:=List.getElem_of_mem h
  exact ⟨j,hj,by simp [e]⟩
noncomputable def FIxB:List AV→Option AV:=specF (ι:={x:List Bool×Bool // x.1.length≤9223372036854775807}) (fun x=>[.rd 1 (brows x.1.1),B x.1.2]) fun x=>retOf [I (fstG (fun y=>decide (y=x.1.2)) x.1.1)]
theorem FIxB_at {l:List Bool} {v:Bool} (h:l.length≤9223372036854775807):FIxB [.rd 1 (brows l),B v]=some (I (fstG (fun y=>decide (y=v)) l)):=by
 refine specF_eq (ι:={x:List Bool×Bool // x.1.length≤9223372036854775807}) (A:=fun x=>[.rd 1 (brows x.1.1),B x.1.2]) (R:=fun x=>retOf [I (fstG (fun y=>decide (y=x.1.2)) x.1.1)]) ⟨(l,v),h⟩ fun j e=>?_
 obtain ⟨⟨l',v'⟩,h'⟩:=j
 simp only [List.cons.injEq,AV.rd.injEq,true_and,brows_inj,B,AV.v.injEq,Value.bool.injEq,and_true] at e
 obtain ⟨rfl,rfl⟩:=e
 rfl
theorem s182 (X:AX) (hX:XOK Tryz.prog X):PSound Tryz.prog 182 FIxB:=by
 unfold FIxB
 refine psound_spec hX mixed Tryz.func182 rfl fun ⟨⟨l,v⟩,hl⟩ w0 G=>⟨by show 2≤19;decide,rfl,?_⟩
 show AW ⟨Tryz.prog,X,19,w0,.pure G⟩ _ _ _
 have hc:Cx.OK ⟨Tryz.prog,X,19,w0,.pure G⟩:=⟨hX,mixed⟩
 simp only at hl ⊢
 repeat' (first|(apply aw_seq_k;intro K hK)|(refine eM64o ?_)|(refine aw_cond (b:=_) (by exact rfl) (fun h=>?_) (fun h=>?_)<;>(try simp at h))|(refine eB ?_)|(refine hK _ ?_;clear hK)|(clear hK;refine hK _ ?_;clear hK)|(clear hK;clear hK;refine hK _ ?_;clear hK)|(clear hK;clear hK;clear hK;refine hK _ ?_;clear hK))
 refine aw_loopK (s0:=?lps1) (m0:=?lpm1) (ι:={i:Nat // i≤l.length∧∀ j,j<i→¬ l.getD j false=v}) [0,1,7] (fun i=>[(8,I i.1)]) (fun _=>[]) (fun i=>l.length - i.1) ⟨0,by omega,by omega⟩ ?lhs1 ?lhm1 ?_ ?_
 case lhs1=>first|(simp [keepS];done)|(simp [keepS];rfl)
 case lhm1=>first|rfl|(simp;done)|(simp;rfl)
 ·exact dle
 ·rintro ⟨i,hi,hinv⟩
  simp only
  rcases Decidable.em (i<l.length) with hil|hil
  ·have hilI:(i:Int)<(l.length:Int):=by omega
   have hg:=brows_gi hil
   have hgE:=brows_gE hil
   have hat:=fstG_at (p:=fun y:Bool=>decide (y=v)) hil
   have hge:l[i]=l.getD i false:=by rw [List.getD_eq_getElem?_getD,List.getElem?_eq_getElem hil];rfl
   rw [hge] at hat
   obtain ⟨b,hb⟩:∃ b,b=l.getD i false:=⟨_,rfl⟩
   rw [← hb] at hg hgE hat
   rcases Decidable.em (b=v) with h1|h1
   ·subst h1
    have e:=hat (by simp) fun j hj=>by
     have:=hinv j hj
     rw [List.getD_eq_getElem?_getD,List.getElem?_eq_getElem (by omega)] at this
     simpa using this
    have zS:=jj hilI<|jj hg<|hgE
    repeat' (first|(apply aw_seq_k;intro K hK)|(refine eM64 ?_)|(refine aw_cond (b:=_) (by exact rfl) (fun h=>?_) (fun h=>?_)<;>(try simp at h))|(refine eB ?_)|(refine hK _ ?_;clear hK)|(clear hK;refine hK _ ?_;clear hK)|(clear hK;clear hK;refine hK _ ?_;clear hK)|(clear hK;clear hK;clear hK;refine hK _ ?_;clear hK))
    all_goals clear zS
    refine ⟨by simp,?_⟩
    simp [leaves_iff,Tryz.f182,e]
    try exact dt
   ·have h1':¬ v=b:=fun h=>h1 h.symm
    have h1b:(v == b)=false:=by simpa using h1'
    have zS:=jj hilI<|jj hg<|jj hgE<|jj h1'<|h1b
    repeat' (first|(apply aw_seq_k;intro K hK)|(refine eM64 ?_)|(refine aw_cond (b:=_) (by exact rfl) (fun h=>?_) (fun h=>?_)<;>(try simp at h))|(refine eB ?_)|(refine hK _ ?_;clear hK)|(clear hK;refine hK _ ?_;clear hK)|(clear hK;clear hK;refine hK _ ?_;clear hK)|(clear hK;clear hK;clear hK;refine hK _ ?_;clear hK))
    all_goals clear zS
    refine ⟨i+1,?_,⟨by omega,fun j hj=>?_⟩,by omega⟩
    ·exact dle
    ·rcases Nat.lt_succ_iff_lt_or_eq.1 hj with h2|rfl
     ·exact hinv j h2
     ·first|(rw [← hb];exact h1)|(rw [hb] at h1;simpa using h1)
  ·obtain rfl:i=l.length:=by omega
   have e:fstG (fun y:Bool=>decide (y=v)) l=-1:=fstG_not fun j hj=>by
    have:=hinv j hj
    rw [List.getD_eq_getElem?_getD,List.getElem?_eq_getElem hj] at this
    simpa using this
   repeat' (first|(apply aw_seq_k;intro K hK)|(refine eM64o ?_)|(refine aw_cond (b:=_) (by exact rfl) (fun h=>?_) (fun h=>?_)<;>(try simp at h))|(refine eB ?_)|(refine hK _ ?_;clear hK)|(clear hK;refine hK _ ?_;clear hK)|(clear hK;clear hK;refine hK _ ?_;clear hK)|(clear hK;clear hK;clear hK;refine hK _ ?_;clear hK))
   refine ⟨by simp,?_⟩
   simp [leaves_iff,Tryz.f182,e]
   try exact dt
noncomputable def FCtB:List AV→Option AV:=specF (ι:={x:List Bool×Bool // x.1.length≤9223372036854775807}) (fun x=>[.rd 1 (brows x.1.1),B x.1.2]) fun x=>retOf [B (decide (x.1.2∈x.1.1))]
theorem FCtB_at {l:List Bool} {v:Bool} (h:l.length≤9223372036854775807):FCtB [.rd 1 (brows l),B v]=some (B (decide (v∈l))):=by
 refine specF_eq (ι:={x:List Bool×Bool // x.1.length≤9223372036854775807}) (A:=fun x=>[.rd 1 (brows x.1.1),B x.1.2]) (R:=fun x=>retOf [B (decide (x.1.2∈x.1.1))]) ⟨(l,v),h⟩ fun j e=>?_
 obtain ⟨⟨l',v'⟩,h'⟩:=j
 simp only [List.cons.injEq,AV.rd.injEq,true_and,brows_inj,B,AV.v.injEq,Value.bool.injEq,and_true] at e
 obtain ⟨rfl,rfl⟩:=e
 rfl
theorem s118 (X:AX) (hX:XOK Tryz.prog X) (hi:X.call 182=callP FIxB):PSound Tryz.prog 118 FCtB:=by
 unfold FCtB
 refine psound_spec hX mixed Tryz.func118 rfl fun ⟨⟨l,v⟩,hl⟩ w0 G=>⟨by show 2≤9;decide,rfl,?_⟩
 show AW ⟨Tryz.prog,X,9,w0,.pure G⟩ _ _ _
 have hc:Cx.OK ⟨Tryz.prog,X,9,w0,.pure G⟩:=⟨hX,mixed⟩
 simp only at hl ⊢
 have hat:=FIxB_at (v:=v) hl
 have hm:=fstG_mem (l:=l) (v:=v)
 obtain ⟨q,hq⟩:∃ q,q=fstG (fun y=>decide (y=v)) l:=⟨_,rfl⟩
 rw [← hq] at hat hm
 rcases Decidable.em (0≤q) with h1|h1
 ·have e:decide (v∈l)=true:=decide_eq_true (hm.1 h1)
  have zS:=jj hi<|jj hat<|h1
  refine dM64 ?_
  repeat (intro K hK)
  clear zS
  refine ⟨by simp,?_⟩
  simp [leaves_iff,Tryz.f118,e]
  try exact dt
 ·have e:decide (v∈l)=false:=decide_eq_false fun h=>h1 (hm.2 h)
  have zS:=jj hi<|jj hat<|h1
  refine dM64 ?_
  repeat (intro K hK)
  clear zS
  refine ⟨by simp,?_⟩
  simp [leaves_iff,Tryz.f118,e]
  try exact dt
theorem irows_gE {l:List Int} {n:Nat} (h:n<l.length):∀ h',(irows l)[n]'(h')=[I (gi l n)]:=fun h'=>by
 have hg:=irows_gi h
 rw [List.getElem?_eq_getElem h'] at hg
 exact Option.some.inj hg
noncomputable def FIxI:List AV→Option AV:=specF (ι:={x:List Int×Int // x.1.length≤9223372036854775807}) (fun x=>[.rd 1 (irows x.1.1),I x.1.2]) fun x=>retOf [I (fstG (fun y=>decide (y=x.1.2)) x.1.1)]
theorem FIxI_at {l:List Int} {v:Int} (h:l.length≤9223372036854775807):FIxI [.rd 1 (irows l),I v]=some (I (fstG (fun y=>decide (y=v)) l)):=by
 refine specF_eq (ι:={x:List Int×Int // x.1.length≤9223372036854775807}) (A:=fun x=>[.rd 1 (irows x.1.1),I x.1.2]) (R:=fun x=>retOf [I (fstG (fun y=>decide (y=x.1.2)) x.1.1)]) ⟨(l,v),h⟩ fun j e=>?_
 obtain ⟨⟨l',v'⟩,h'⟩:=j
 simp only [List.cons.injEq,AV.rd.injEq,true_and,irows_inj,I,AV.v.injEq,Value.int.injEq,and_true] at e
 obtain ⟨rfl,rfl⟩:=e
 rfl
theorem s194 (X:AX) (hX:XOK Tryz.prog X):PSound Tryz.prog 194 FIxI:=by
 unfold FIxI
 refine psound_spec hX mixed Tryz.func194 rfl fun ⟨⟨l,v⟩,hl⟩ w0 G=>⟨by show 2≤19;decide,rfl,?_⟩
 show AW ⟨Tryz.prog,X,19,w0,.pure G⟩ _ _ _
 have hc:Cx.OK ⟨Tryz.prog,X,19,w0,.pure G⟩:=⟨hX,mixed⟩
 simp only at hl ⊢
 repeat' (first|(apply aw_seq_k;intro K hK)|(refine eM64o ?_)|(refine aw_cond (b:=_) (by exact rfl) (fun h=>?_) (fun h=>?_)<;>(try simp at h))|(refine eB ?_)|(refine hK _ ?_;clear hK)|(clear hK;refine hK _ ?_;clear hK)|(clear hK;clear hK;refine hK _ ?_;clear hK)|(clear hK;clear hK;clear hK;refine hK _ ?_;clear hK))
 refine aw_loopK (s0:=?lps2) (m0:=?lpm2) (ι:={i:Nat // i≤l.length∧∀ j,j<i→¬ gi l j=v}) [0,1,7] (fun i=>[(8,I i.1)]) (fun _=>[]) (fun i=>l.length - i.1) ⟨0,by omega,by omega⟩ ?lhs2 ?lhm2 ?_ ?_
 case lhs2=>first|(simp [keepS];done)|(simp [keepS];rfl)
 case lhm2=>first|rfl|(simp;done)|(simp;rfl)
 ·exact dle
 ·rintro ⟨i,hi,hinv⟩
  simp only
  rcases Decidable.em (i<l.length) with hil|hil
  ·have hilI:(i:Int)<(l.length:Int):=by omega
   have hg:=irows_gi hil
   have hgE:=irows_gE hil
   have hat:=fstG_at (p:=fun y:Int=>decide (y=v)) hil
   have hge:l[i]=gi l i:=(gi_eq hil).symm
   rw [hge] at hat
   obtain ⟨b,hb⟩:∃ b,b=gi l i:=⟨_,rfl⟩
   rw [← hb] at hg hgE hat
   rcases Decidable.em (b=v) with h1|h1
   ·subst h1
    have e:=hat (by simp) fun j hj=>by
     have:=hinv j hj
     rw [gi_eq (by omega)] at this
     simpa using this
    have zS:=jj hilI<|jj hg<|hgE
    repeat' (first|(apply aw_seq_k;intro K hK)|(refine eM64 ?_)|(refine aw_cond (b:=_) (by exact rfl) (fun h=>?_) (fun h=>?_)<;>(try simp at h))|(refine eB ?_)|(refine hK _ ?_;clear hK)|(clear hK;refine hK _ ?_;clear hK)|(clear hK;clear hK;refine hK _ ?_;clear hK)|(clear hK;clear hK;clear hK;refine hK _ ?_;clear hK))
    all_goals clear zS
    refine ⟨by simp,?_⟩
    simp [leaves_iff,Tryz.f194,e]
    try exact dt
   ·have h1':¬ v=b:=fun h=>h1 h.symm
    have zS:=jj hilI<|jj hg<|jj hgE<|h1'
    repeat' (first|(apply aw_seq_k;intro K hK)|(refine eM64 ?_)|(refine aw_cond (b:=_) (by exact rfl) (fun h=>?_) (fun h=>?_)<;>(try simp at h))|(refine eB ?_)|(refine hK _ ?_;clear hK)|(clear hK;refine hK _ ?_;clear hK)|(clear hK;clear hK;refine hK _ ?_;clear hK)|(clear hK;clear hK;clear hK;refine hK _ ?_;clear hK))
    all_goals clear zS
    refine ⟨i+1,?_,⟨by omega,fun j hj=>?_⟩,by omega⟩
    ·exact dle
    ·rcases Nat.lt_succ_iff_lt_or_eq.1 hj with h2|rfl
     ·exact hinv j h2
     ·first|(rw [← hb];exact h1)|(rw [hb] at h1;simpa using h1)
  ·obtain rfl:i=l.length:=by omega
   have e:fstG (fun y:Int=>decide (y=v)) l=-1:=fstG_not fun j hj=>by
    have:=hinv j hj
    rw [gi_eq hj] at this
    simpa using this
   repeat' (first|(apply aw_seq_k;intro K hK)|(refine eM64o ?_)|(refine aw_cond (b:=_) (by exact rfl) (fun h=>?_) (fun h=>?_)<;>(try simp at h))|(refine eB ?_)|(refine hK _ ?_;clear hK)|(clear hK;refine hK _ ?_;clear hK)|(clear hK;clear hK;refine hK _ ?_;clear hK)|(clear hK;clear hK;clear hK;refine hK _ ?_;clear hK))
   refine ⟨by simp,?_⟩
   simp [leaves_iff,Tryz.f194,e]
   try exact dt
noncomputable def FCtI:List AV→Option AV:=specF (ι:={x:List Int×Int // x.1.length≤9223372036854775807}) (fun x=>[.rd 1 (irows x.1.1),I x.1.2]) fun x=>retOf [B (decide (x.1.2∈x.1.1))]
theorem s142 (X:AX) (hX:XOK Tryz.prog X) (hi:X.call 194=callP FIxI):PSound Tryz.prog 142 FCtI:=by
 unfold FCtI
 refine psound_spec hX mixed Tryz.func142 rfl fun ⟨⟨l,v⟩,hl⟩ w0 G=>⟨by show 2≤9;decide,rfl,?_⟩
 show AW ⟨Tryz.prog,X,9,w0,.pure G⟩ _ _ _
 have hc:Cx.OK ⟨Tryz.prog,X,9,w0,.pure G⟩:=⟨hX,mixed⟩
 simp only at hl ⊢
 have hat:=FIxI_at (v:=v) hl
 have hm:=fstG_mem (l:=l) (v:=v)
 obtain ⟨q,hq⟩:∃ q,q=fstG (fun y=>decide (y=v)) l:=⟨_,rfl⟩
 rw [← hq] at hat hm
 rcases Decidable.em (0≤q) with h1|h1
 ·have e:decide (v∈l)=true:=decide_eq_true (hm.1 h1)
  have zS:=jj hi<|jj hat<|h1
  refine dM64 ?_
  repeat (intro K hK)
  clear zS
  refine ⟨by simp,?_⟩
  simp [leaves_iff,Tryz.f142,e]
  try exact dt
 ·have e:decide (v∈l)=false:=decide_eq_false fun h=>h1 (hm.2 h)
  have zS:=jj hi<|jj hat<|h1
  refine dM64 ?_
  repeat (intro K hK)
  clear zS
  refine ⟨by simp,?_⟩
  simp [leaves_iff,Tryz.f142,e]
  try exact dt
end Go.AM
namespace Go.AM
open Go Go.Proofs
set_option maxHeartbeats 2000000 in
set_option maxRecDepth 4000 in
theorem callCkT {l:Nat} {t:Tb} {n f:Nat} {led:List Bool} {hs:List Int} (h:ckOK l (t,n,f,led,hs)) {v:Nat} (hv:1≤v) {fl1 fl2:Bool} (M:Nat→AO) (nid:Nat)
  (h0:M 240=.box [.sl 224 1 1 0 led.length]) (h1:M 224=.vec 1 1 fl1 (brows led)) (h2:M 0=.box [I t.1,.rd 9 (nrows t.2.1),.rd 2 (prows t.2.2)]) (h3:M 272=.box [.sl 336 v 1 0 hs.length]) (h4:M 336=.vec v 1 fl2 (irows hs)) (h5:M 144=.box [.mp 128 1]) (h6:M 128=.map 1 1 (idxE t.2.1 t.2.1.length)) (h7:M 288=.box [.fn 116 [.bp 240 0,.bp 0 0,.bp 272 0,.bp 144 0,.bp 288 0]]) :
  callG (ckS l) [I n,I l,I f,.bp 240 0,.bp 0 0,.bp 272 0,.bp 144 0,.bp 288 0] M nid=some (B (ckR l (t,n,f,led,hs)).1,[(240,.box [.sl 224 1 1 0 (ckR l (t,n,f,led,hs)).2.1.length]),(224,.vec 1 1 false (brows (ckR l (t,n,f,led,hs)).2.1)),(0,.box [I t.1,.rd 9 (nrows t.2.1),.rd 2 (prows t.2.2)]),(272,.box [.sl 336 (v+((ckR l (t,n,f,led,hs)).2.2.length - hs.length)) 1 0 (ckR l (t,n,f,led,hs)).2.2.length]),(336,.vec (v+((ckR l (t,n,f,led,hs)).2.2.length - hs.length)) 1 false (irows (ckR l (t,n,f,led,hs)).2.2)),(144,.box [.mp 128 1]),(128,.map 1 1 (idxE t.2.1 t.2.1.length)),(288,.box [.fn 116 [.bp 240 0,.bp 0 0,.bp 272 0,.bp 144 0,.bp 288 0]])]):=by
 have hF:=ckS_at h
 simp only [ckA,ckM] at hF
 obtain ⟨R,hR⟩:∃ R,R=ckR l (t,n,f,led,hs):=⟨_,rfl⟩
 rw [← hR] at hF ⊢
 have hvv:1+(R.2.2.length - hs.length)+(v - 1)=v+(R.2.2.length - hs.length):=by omega
 have hv0:¬ v=0:=by omega
 unfold callG
 have hg:gat M 64 (nmsL [I n,I l,I f,.bp 240 0,.bp 0 0,.bp 272 0,.bp 144 0,.bp 288 0]) []=[240,224,0,272,336,144,128,288]:=by
  simp [gat,nmsL,AV.nms,AO.nms,h0,h1,h2,h3,h4,h5,h6,h7]
 simp only [hg]
 rw [if_pos ?cg]
 case cg=>simp [CallG,nmsL,AV.nms,AO.nms,Led,curBL,AV.curB,AO.curB,verOf,notDead,h0,h1,h2,h3,h4,h5,h6,h7]
 simp [renL,AV.ren,AO.ren,posN,canO,nmsL,h0,h1,h2,h3,h4,h5,h6,h7,hF,RetG,getL,AV.nms,AO.nms,updN,nmN,shN,verOf,hvv,rng,Led]
end Go.AM
namespace Go.AM
open Go Go.Proofs
def wkA (t:Tb):Bool×WSt:=wk WA t.2.1 2 ((fnd t.2.1 t.1).getD 0) 0 (List.replicate t.2.1.length false,[])
noncomputable def chk (t:Tb):Int:=if numB t≠0 then numB t else if (wkA t).1=true∧false ∉ (wkA t).2.1∧(wkA t).2.2=t.2.2.map (·.1) then 0 else 3
theorem numB_zero {t:Tb} (h:numB t=0):rngB t=true∧ascB t=true∧twB t=false∧∃ r,fnd t.2.1 t.1=some r:=by
 unfold numB at h
 cases h1:rngB t with
 | false=>rw [if_pos h1] at h;simp at h
 | true =>
  rw [if_neg (by simp [h1])] at h
  cases h2:ascB t with
  | false=>rw [if_pos h2] at h;simp at h
  | true =>
   rw [if_neg (by simp [h2])] at h
   cases h3:twB t with
   | true=>rw [if_pos h3] at h;simp at h
   | false =>
    rw [if_neg (by simp [h3])] at h
    cases h4:fnd t.2.1 t.1 with
    | none=>rw [if_pos h4] at h;simp at h
    | some r=>exact ⟨rfl,rfl,rfl,r,rfl⟩
theorem falses (n:Nat):List.replicate n [AV.v (.bool false)]=brows (List.replicate n false):=by simp [brows,B]
set_option maxHeartbeats 4000000 in
theorem s39 (X:AX) (hX:XOK Tryz.prog X) (hw:X.W wT) (hnu:∀ t:Tb,tbOK t→∀ M n,X.call 114 [TbV t] M n=some (I (numB t),[]))
  (hix:∀ t:Tb,tbOK t→∀ M n,X.call 115 [TbV t] M n=some (.mp n 1,[(n,.map 1 1 (idxE t.2.1 t.2.1.length))]))
  (hwa:X.call 116=callG (ckS 2)) (hco:X.call 118=callP FCtB) :
  PSound Tryz.prog 39 (specF (ι:={x:Tb // tbOK x}) (fun x=>[TbV x.1]) fun x=>retOf [I (chk x.1)]):=by
 refine psound_spec hX mixed Tryz.func39 rfl fun ⟨⟨r,ns,ds⟩,ht⟩ w0 G=>⟨by show 1≤57;decide,rfl,?_⟩
 show AW ⟨Tryz.prog,X,57,w0,.pure G⟩ _ _ _
 have hc:Cx.OK ⟨Tryz.prog,X,57,w0,.pure G⟩:=⟨hX,mixed⟩
 have hl1:ns.length≤1000000:=ht.2.1
 have hl2:ds.length≤1000000:=ht.2.2
 have hix':=hix (r,ns,ds) ht
 have hnu':=hnu (r,ns,ds) ht
 have hcz:numB (r,ns,ds)≠0→chk (r,ns,ds)=numB (r,ns,ds):=fun h=>by unfold chk;rw [if_pos h]
 obtain ⟨c,hcc⟩:∃ c,c=numB (r,ns,ds):=⟨_,rfl⟩
 simp only [TbV] at hix' hnu' ⊢
 rw [← hcc] at hnu' hcz
 rcases Decidable.em (c=0) with h0|h0
 ·subst h0
  obtain ⟨hR,hA,hT,rt,hrt⟩:=numB_zero hcc.symm
  have hAN:=ascN_of hA
  simp only at hAN hrt
  have hget:=idxE_get hAN r
  rw [hrt] at hget
  try simp only [Option.map_some] at hget
  have hrl:=fnd_lt hrt
  have hfs:=falses ns.length
  try simp only at hfs
  iterate 29 (first|(apply aw_seq_k;intro K hK)|(refine aw_run hc (by first|exact aw_nod|(intro _;rw [ordB_w hw];kernel_rfl)|(intro _;rw [ordB_w0 hw0];kernel_rfl)|(intro _;kernel_rfl)) ?_;simp [List.zipIdx,hnu',hix',hget,hfs,-getM,getM_hit,getM_miss,getM_none];(repeat (simp (disch:=first|omega|assumption|fail) only [if_pos,if_neg,wrap64];try simp [List.zipIdx,hnu',hix',hget,hfs,-getM,getM_hit,getM_miss,getM_none]));try (repeat' (refine guardQ_split (fun h=>?_) (fun h=>?_)<;>simp at h<;>(simp [List.zipIdx,hnu',hix',hget,hfs,-getM,getM_hit,getM_miss,getM_none];(repeat (simp (disch:=first|omega|assumption|fail) only [if_pos,if_neg,wrap64];try simp [List.zipIdx,hnu',hix',hget,hfs,-getM,getM_hit,getM_miss,getM_none]))))))|(refine aw_cond (b:=_) (by exact rfl) (fun h=>?_) (fun h=>?_)<;>(try simp at h))|(refine aw_block ?_)|(refine aw_skip ?_;simp only [thenQ,blockQ,if_true])|(refine aw_exit ?_;simp [thenQ,blockQ])|(refine aw_ret ?_;simp only [thenQ,blockQ])|(refine aw_round ?_)|(refine hK _ ?_;clear hK)|(clear hK;refine hK _ ?_;clear hK)|(clear hK;clear hK;refine hK _ ?_;clear hK)|(clear hK;clear hK;clear hK;refine hK _ ?_;clear hK))
  refine aw_weaken (le_nilcell (b:=272) (i:=0) (sz:=1) rfl rfl) ?_
  have hck:ckOK 2 ((r,ns,ds),rt,0,List.replicate ns.length false,[]):=⟨ht,hAN,hrl,by simp,by simp,by simp⟩
  have hcall:=@callCkT 2 (r,ns,ds) rt 0 (List.replicate ns.length false) [] hck 1 (Nat.le_refl _) false false
  have hckR:ckR 2 ((r,ns,ds),rt,0,List.replicate ns.length false,[])=wkA (r,ns,ds):=by unfold ckR wkA;simp only;rw [hrt];rfl
  rw [hckR] at hcall
  have hadd:=wk_adds (D:=WA) (ns:=ns) (l:=2) rt 0 (List.replicate ns.length false,[])
  rw [show wk WA ns 2 rt 0 (List.replicate ns.length false,[])=wkA (r,ns,ds) from hckR] at hadd
  have hfin:chk (r,ns,ds)=if (wkA (r,ns,ds)).1=true∧false ∉ (wkA (r,ns,ds)).2.1∧(wkA (r,ns,ds)).2.2=ds.map (·.1) then 0 else 3:=by unfold chk;rw [if_neg (by rw [← hcc];simp)]
  obtain ⟨⟨b,led,hs⟩,hR3⟩:∃ R,R=wkA (r,ns,ds):=⟨_,rfl⟩
  rw [← hR3] at hcall hadd hfin
  simp only [List.length_replicate,addsB,List.length_nil] at hcall hadd hfin
  rw [hadd.1] at hcall
  rw [← hwa,show ((2:Nat):Int)=(2:Int) from rfl,show ((0:Nat):Int)=(0:Int) from rfl] at hcall
  obtain ⟨v,hv⟩:∃ v,v=1+(hs.length - 0):=⟨_,rfl⟩
  rw [← hv] at hcall
  have hirn:irows []=[]:=rfl
  have hct:=FCtB_at (l:=led) (v:=false) (by omega)
  have htk:List.take ns.length (brows led)=brows led:=List.take_of_length_le (by simp;omega)
  rw [hirn] at hcall
  cases b with
  | false =>
   rw [hfin]
   have zS:=jj hcall<|hget
   repeat' (first|(apply aw_seq_k;intro K hK)|(refine eM64 ?_)|(refine aw_cond (b:=_) (by exact rfl) (fun h=>?_) (fun h=>?_)<;>(try simp at h))|(refine eB ?_)|(refine hK _ ?_;clear hK)|(clear hK;refine hK _ ?_;clear hK)|(clear hK;clear hK;refine hK _ ?_;clear hK)|(clear hK;clear hK;clear hK;refine hK _ ?_;clear hK))
   all_goals clear zS
   refine ⟨by simp,?_⟩
   simp [leaves_iff,Tryz.f39]
   try exact dt
  | true =>
   rcases Decidable.em (false∈led) with h1|h1
   ·rw [decide_eq_true h1] at hct
    rw [hfin,if_neg (fun h=>h.2.1 h1)]
    have zS:=jj hcall<|jj hget<|jj hco<|jj hct<|htk
    repeat' (first|(apply aw_seq_k;intro K hK)|(refine eM64 ?_)|(refine aw_cond (b:=_) (by exact rfl) (fun h=>?_) (fun h=>?_)<;>(try simp at h))|(refine eB ?_)|(refine hK _ ?_;clear hK)|(clear hK;refine hK _ ?_;clear hK)|(clear hK;clear hK;refine hK _ ?_;clear hK)|(clear hK;clear hK;clear hK;refine hK _ ?_;clear hK))
    all_goals clear zS
    refine ⟨by simp,?_⟩
    simp [leaves_iff,Tryz.f39]
    try exact dt
   ·rw [decide_eq_false h1] at hct
    rcases Decidable.em (hs.length=ds.length) with h2|h2
    ·have hfin2:chk (r,ns,ds)=if hs=ds.map (·.1) then 0 else 3:=by rw [hfin];simp [h1]
     have zS:=jj hcall<|jj hget<|jj hco<|jj hct<|jj htk<|h2
     repeat' (first|(apply aw_seq_k;intro K hK)|(refine eM64 ?_)|(refine aw_cond (b:=_) (by exact rfl) (fun h=>?_) (fun h=>?_)<;>(try simp at h))|(refine eB ?_)|(refine hK _ ?_;clear hK)|(clear hK;refine hK _ ?_;clear hK)|(clear hK;clear hK;refine hK _ ?_;clear hK)|(clear hK;clear hK;clear hK;refine hK _ ?_;clear hK))
     all_goals clear zS
     refine aw_loopK (s0:=?lps1) (m0:=?lpm1) (ι:={i:Nat // i≤ds.length∧∀ j,j<i→gi hs j=(gp ds j).1}) [6,42,43] (fun i=>[(44,I i.1)]) (fun _=>[]) (fun i=>ds.length - i.1) ⟨0,by omega,by omega⟩ ?lhs1 ?lhm1 ?_ ?_
     case lhs1=>first|(simp [keepS];done)|(simp [keepS];rfl)
     case lhm1=>first|rfl|(simp;done)|(simp;rfl)
     ·exact dle
     ·rintro ⟨i,hi,hinv⟩
      simp only
      rcases Decidable.em (i<ds.length) with hil|hil
      ·have hilI:(i:Int)<(ds.length:Int):=by omega
       have hg:=prows_gi hil
       have hgE:=prows_gE hil
       have hg2:=irows_gi (l:=hs) (n:=i) (by omega)
       have hgE2:=irows_gE (l:=hs) (n:=i) (by omega)
       have hno:¬ gi hs i=(gp ds i).1→chk (r,ns,ds)=3:=fun h=>by
        rw [hfin2,if_neg]
        intro e
        refine h ?_
        rw [gi_eq (by omega),gp_eq hil]
        subst e
        simp
       obtain ⟨x,hx⟩:∃ x,x=gi hs i:=⟨_,rfl⟩
       rw [← hx] at hg2 hgE2 hno
       obtain ⟨⟨a,b⟩,hm⟩:∃ m,m=gp ds i:=⟨_,rfl⟩
       rw [← hm] at hg hgE hno
       simp only at hg hgE hno
       rcases Decidable.em (x=a) with h3|h3
       ·have zS:=jj hil<|jj hilI<|jj hg<|jj hgE<|jj hg2<|jj hgE2<|h3
        repeat' (first|(apply aw_seq_k;intro K hK)|(refine eM64 ?_)|(refine aw_cond (b:=_) (by exact rfl) (fun h=>?_) (fun h=>?_)<;>(try simp at h))|(refine eB ?_)|(refine hK _ ?_;clear hK)|(clear hK;refine hK _ ?_;clear hK)|(clear hK;clear hK;refine hK _ ?_;clear hK)|(clear hK;clear hK;clear hK;refine hK _ ?_;clear hK))
        all_goals clear zS
        refine ⟨i+1,?_,⟨by omega,fun j hj=>?_⟩,by omega⟩
        ·exact dle
        ·rcases Nat.lt_succ_iff_lt_or_eq.1 hj with h4|rfl
         ·exact hinv j h4
         ·rw [← hx,← hm];exact h3
       ·have e:=hno h3
        have zS:=jj hil<|jj hilI<|jj hg<|jj hgE<|jj hg2<|jj hgE2<|h3
        repeat' (first|(apply aw_seq_k;intro K hK)|(refine eM64 ?_)|(refine aw_cond (b:=_) (by exact rfl) (fun h=>?_) (fun h=>?_)<;>(try simp at h))|(refine eB ?_)|(refine hK _ ?_;clear hK)|(clear hK;refine hK _ ?_;clear hK)|(clear hK;clear hK;refine hK _ ?_;clear hK)|(clear hK;clear hK;clear hK;refine hK _ ?_;clear hK))
        all_goals clear zS
        refine ⟨by simp,?_⟩
        simp [leaves_iff,Tryz.f39,e]
        try exact dt
      ·obtain rfl:i=ds.length:=by omega
       have e:chk (r,ns,ds)=0:=by
        rw [hfin2,if_pos]
        refine List.ext_getElem (by simp [h2]) fun j hj hj2=>?_
        have:=hinv j (by omega)
        rw [gi_eq hj,gp_eq (by omega)] at this
        simpa using this
       repeat' (first|(apply aw_seq_k;intro K hK)|(refine eM64o ?_)|(refine aw_cond (b:=_) (by exact rfl) (fun h=>?_) (fun h=>?_)<;>(try simp at h))|(refine eB ?_)|(refine hK _ ?_;clear hK)|(clear hK;refine hK _ ?_;clear hK)|(clear hK;clear hK;refine hK _ ?_;clear hK)|(clear hK;clear hK;clear hK;refine hK _ ?_;clear hK))
       refine ⟨by simp,?_⟩
       simp [leaves_iff,Tryz.f39,e]
       try exact dt
    ·rw [hfin,if_neg (fun h=>h2 (by rw [h.2.2];simp))]
     have h2I:¬ (hs.length:Int)=(ds.length:Int):=by omega
     have zS:=jj hcall<|jj hget<|jj hco<|jj hct<|jj htk<|jj h2<|h2I
     repeat' (first|(apply aw_seq_k;intro K hK)|(refine eM64 ?_)|(refine aw_cond (b:=_) (by exact rfl) (fun h=>?_) (fun h=>?_)<;>(try simp at h))|(refine eB ?_)|(refine hK _ ?_;clear hK)|(clear hK;refine hK _ ?_;clear hK)|(clear hK;clear hK;refine hK _ ?_;clear hK)|(clear hK;clear hK;clear hK;refine hK _ ?_;clear hK))
     all_goals clear zS
     refine ⟨by simp,?_⟩
     simp [leaves_iff,Tryz.f39]
     try exact dt
 ·rw [hcz h0]
  have zS:=jj hnu'<|h0
  refine dM64 ?_
  repeat (intro K hK)
  clear zS
  refine ⟨by simp,?_⟩
  simp [leaves_iff,Tryz.f39]
  try exact dt
end Go.AM
namespace Go.AM
open Go Go.Proofs
def Hom (rc:Nat→Nat→WSt→Bool×WSt):Prop:=∀ n f led hs,rc n f (led,hs)=((rc n f (led,[])).1,(rc n f (led,[])).2.1,hs++(rc n f (led,[])).2.2)
theorem wkF_hom {D:Wd} {ns:NdL} {rc:Nat→Nat→WSt→Bool×WSt} (hrc:Hom rc) {l n first:Nat}:∀ (k i:Nat) (led:List Bool) (hs:List Int),wkF D ns rc l n first k i (led,hs)=((wkF D ns rc l n first k i (led,[])).1,(wkF D ns rc l n first k i (led,[])).2.1,hs++(wkF D ns rc l n first k i (led,[])).2.2)
 | 0,i,led,hs=>by simp [wkF]
 | k+1,i,led,hs=>by
  have ih:=wkF_hom (D:=D) (ns:=ns) hrc (l:=l) (n:=n) (first:=first) k (i+1)
  have key:∀ (a b:List Int),(match D.tab (wd ns n i) with
   | none=>wkF D ns rc l n first k (i+1) (led,a++b)
   | some g=>match fnd ns g with
    | none=>(false,led,a++b)
    | some nx=>if (rc nx (first+i*8^l) (led,a++b)).1=true then wkF D ns rc l n first k (i+1) (rc nx (first+i*8^l) (led,a++b)).2 else (false,(rc nx (first+i*8^l) (led,a++b)).2)) =
   ((match D.tab (wd ns n i) with
   | none=>wkF D ns rc l n first k (i+1) (led,b)
   | some g=>match fnd ns g with
    | none=>(false,led,b)
    | some nx=>if (rc nx (first+i*8^l) (led,b)).1=true then wkF D ns rc l n first k (i+1) (rc nx (first+i*8^l) (led,b)).2 else (false,(rc nx (first+i*8^l) (led,b)).2)).1,(match D.tab (wd ns n i) with
   | none=>wkF D ns rc l n first k (i+1) (led,b)
   | some g=>match fnd ns g with
    | none=>(false,led,b)
    | some nx=>if (rc nx (first+i*8^l) (led,b)).1=true then wkF D ns rc l n first k (i+1) (rc nx (first+i*8^l) (led,b)).2 else (false,(rc nx (first+i*8^l) (led,b)).2)).2.1,a++(match D.tab (wd ns n i) with
   | none=>wkF D ns rc l n first k (i+1) (led,b)
   | some g=>match fnd ns g with
    | none=>(false,led,b)
    | some nx=>if (rc nx (first+i*8^l) (led,b)).1=true then wkF D ns rc l n first k (i+1) (rc nx (first+i*8^l) (led,b)).2 else (false,(rc nx (first+i*8^l) (led,b)).2)).2.2):=by
   intro a b
   cases D.tab (wd ns n i) with
   | none =>
    simp only
    rw [ih led (a++b),ih led b]
    simp
   | some g =>
    simp only
    cases fnd ns g with
    | none=>simp
    | some nx =>
     simp only
     rw [hrc nx _ led (a++b),hrc nx _ led b]
     obtain ⟨⟨b1,l1,h1⟩,hR⟩:∃ R,R=rc nx (first+i*8^l) (led,[]):=⟨_,rfl⟩
     rw [← hR]
     cases b1 with
     | false=>simp
     | true =>
      simp only [if_true]
      rw [ih l1 (a++b++h1),ih l1 (b++h1)]
      simp
  simp only [wkF]
  cases h:D.ok l (wd ns n i) with
  | false=>simp
  | true =>
   simp only [Bool.true_eq_false,if_false]
   split
   ·simp
   ·cases h2:D.hug (wd ns n i) with
    | true =>
     simp only [if_true]
     exact key hs [(((first+i*8^l)/8:Nat):Int)]
    | false =>
     simp only [Bool.false_eq_true,if_false]
     have:=key hs []
     rw [List.append_nil] at this
     exact this
theorem wk_hom {D:Wd} {ns:NdL}:∀ {l:Nat},Hom (wk D ns l)
 | 0=>fun n f led hs=>by
  simp only [wk]
  split
  ·simp
  ·exact wkF_hom (rc:=fun _ _ st=>(false,st)) (fun _ _ _ _=>by simp) 8 0 _ _
 | l+1=>fun n f led hs=>by
  simp only [wk]
  split
  ·simp
  ·exact wkF_hom (wk_hom (l:=l)) 8 0 _ _
theorem fstG_fnd {ns:List Nd} {f:Int}:fstG (fun n=>decide (n.1=f)) ns=match fnd ns f with
  | some i=>(i:Int)
  | none=>-1:=by
 unfold fstG fnd
 split<;>rfl
def admR (ds:List Dp) (g:Int):Bool:=decide (0≤fstG (fun n:Dp=>decide (n.1=g)) ds)
abbrev WR (ds:List Dp):Wd:=WD (admR ds)
abbrev RwD:=Tb×Nat×Nat×List Bool×Nat
def rwA (l:Nat) (x:RwD):List AV:=[TbV x.1,I x.2.1,I l,I x.2.2.1,.sl 0 1 1 0 x.2.2.2.1.length,.bp 1 0]
def rwM (led:List Bool) (c:Nat):List AO:=[.vec 1 1 false (brows led),.box [I c]]
def rwR (l:Nat) (x:RwD):Bool×WSt:=wk (WR x.1.2.2) x.1.2.1 l x.2.1 x.2.2.1 (x.2.2.2.1,[])
def rwOK (l:Nat) (x:RwD):Prop:=tbOK x.1∧x.2.1<x.1.2.1.length∧x.2.2.1≤ckF l∧x.2.2.2.1.length=x.1.2.1.length∧x.2.2.2.2≤ckH l
noncomputable def rwS (l:Nat):List AV→List AO→Option (AV×List AO):=specG (ι:={x:RwD // rwOK l x}) (fun x=>rwA l x.1) (fun x=>rwM x.1.2.2.2.1 x.1.2.2.2.2) (fun x=>retOf [B (rwR l x.1).1]) fun x=>rwM (rwR l x.1).2.1 (x.1.2.2.2.2+(rwR l x.1).2.2.length)
theorem rwS_at {l:Nat} {x:RwD} (h:rwOK l x):rwS l (rwA l x) (rwM x.2.2.2.1 x.2.2.2.2)=some (B (rwR l x).1,rwM (rwR l x).2.1 (x.2.2.2.2+(rwR l x).2.2.length)):=by
 refine specG_eq (ι:={x:RwD // rwOK l x}) (A:=fun x=>rwA l x.1) (M:=fun x=>rwM x.1.2.2.2.1 x.1.2.2.2.2) (R:=fun x=>retOf [B (rwR l x.1).1]) ⟨x,h⟩ fun j hA hM=>?_
 obtain ⟨⟨t,n,f,led,c⟩,hj⟩:=j
 obtain ⟨t',n',f',led',c'⟩:=x
 simp only [rwA,rwM,I,List.cons.injEq,AV.v.injEq,Value.int.injEq,true_and,and_true,AO.box.injEq,AO.vec.injEq,brows_inj,TbV_inj] at hA hM
 obtain ⟨rfl,e1,e2,_⟩:=hA
 have e1:n=n':=by omega
 have e2:f=f':=by omega
 obtain ⟨rfl,e3⟩:=hM
 have e3:c=c':=by omega
 subst e1 e2 e3
 exact ⟨rfl,rfl⟩
set_option maxHeartbeats 2000000 in
set_option maxRecDepth 4000 in
theorem callRw {l:Nat} {t:Tb} {n f:Nat} {led:List Bool} {c:Nat} (h:rwOK l (t,n,f,led,c)) {fl1:Bool} (M:Nat→AO) (nid:Nat)
  (h0:M 0=.vec 1 1 fl1 (brows led)) (h1:M 1=.box [I c]) :
  callG (rwS l) [.agg [I t.1,.rd 9 (nrows t.2.1),.rd 2 (prows t.2.2)],I n,I l,I f,.sl 0 1 1 0 led.length,.bp 1 0] M nid=some (B (rwR l (t,n,f,led,c)).1,[(0,.vec 1 1 false (brows (rwR l (t,n,f,led,c)).2.1)),(1,.box [I ((c+(rwR l (t,n,f,led,c)).2.2.length:Nat):Int)])]):=by
 have hF:=rwS_at h
 simp only [rwA,rwM,TbV] at hF
 obtain ⟨R,hR⟩:∃ R,R=rwR l (t,n,f,led,c):=⟨_,rfl⟩
 rw [← hR] at hF ⊢
 unfold callG
 have hg:gat M 64 (nmsL [.agg [I t.1,.rd 9 (nrows t.2.1),.rd 2 (prows t.2.2)],I n,I l,I f,.sl 0 1 1 0 led.length,.bp 1 0]) []=[0,1]:=by
  simp [gat,nmsL,AV.nms,AO.nms,h0,h1]
 simp only [hg]
 rw [if_pos ?cg]
 case cg=>simp [CallG,nmsL,AV.nms,AO.nms,Led,curBL,AV.curB,AO.curB,verOf,notDead,h0,h1]
 simp [renL,AV.ren,AO.ren,posN,canO,nmsL,h0,h1,hF,RetG,getL,AV.nms,AO.nms,updN,nmN,shN,verOf,rng,Led]
end Go.AM
namespace Go.AM
open Go Go.Proofs
set_option maxHeartbeats 8000000 in
theorem s123_0 (X:AX) (hX:XOK Tryz.prog X) (hw:X.W wT) (hd:∀ n:Nat,n<2^64→∀ M k,X.call 131 [U n] M k=some (.tup [EnV (decR n).1,I (decR n).2],[]))
  (hsu:∀ (e:En) (l:Nat) M n,X.call 132 [EnV e,I l] M n=some (B (suitB e l),[])) (hfi:∀ (t:Tb) f,tbOK t→∀ M n,X.call 122 [TbV t,I f] M n=some (I (fstG (fun n=>decide (n.1=f)) t.2.1),[]))
  (hde:∀ (t:Tb) f,tbOK t→∀ M n,X.call 124 [TbV t,I f] M n=some (I (fstG (fun n=>decide (n.1=f)) t.2.2),[])):GSound Tryz.prog 123 (rwS 0):=by
 unfold rwS
 refine gsound_spec Tryz.func123 rfl X fun ⟨⟨⟨r,ns,ds⟩,n,first,led,c⟩,hx⟩ w0 L E=>⟨by show 6≤96;decide,?_⟩
 obtain ⟨ht,hn,hf,hled,hcc⟩:=hx
 simp only [ckF,ckH] at ht hn hf hled hcc
 show AW ⟨Tryz.prog,X,96,w0,⟨L,E,2⟩⟩ _ _ _
 have hc:Cx.OK ⟨Tryz.prog,X,96,w0,⟨L,E,2⟩⟩:=⟨hX,mixed⟩
 have hl1:ns.length≤1000000:=ht.2.1
 have hfi':=fun f=>hfi (r,ns,ds) f ht
 have hde':=fun f=>hde (r,ns,ds) f ht
 obtain ⟨R,hR⟩:∃ R,R=rwR 0 ((r,ns,ds),n,first,led,c):=⟨_,rfl⟩
 simp only [← hR,rwM,rwA,TbV]
 simp only [TbV] at hfi' hde'
 have hnl:n<led.length:=by omega
 have hnI:(n:Int)<(led.length:Int):=by omega
 have hnN:(n:Int)<(ns.length:Int):=by omega
 have hg0:=brows_gi hnl
 have hgE0:=brows_gE hnl
 unfold rwR at hR
 simp only at hR
 rw [wk] at hR
 cases hb:led.getD n false with
 | true =>
  rw [hb] at hR hg0 hgE0
  simp only [if_true] at hR
  subst hR
  simp only
  have zS:=jj hnl<|jj hnI<|jj hg0<|hgE0
  refine dM64 ?_
  repeat (intro K hK)
  clear zS
  refine ⟨by simp,_,by simp [aResults,aResult,Tryz.f123];rfl,?_⟩
  simp only [List.length_nil,Nat.add_zero,idx]
  exact dle
 | false =>
  rw [hb] at hR hg0 hgE0
  simp only [Bool.false_eq_true,if_false] at hR
  have hset:=@brows_set led n true
  obtain ⟨led1,hl1⟩:∃ l,l=led.set n true:=⟨_,rfl⟩
  have hled1:led1.length=led.length:=by rw [hl1];simp
  rw [← hl1] at hR hset
  have hgn:=nrows_gi hn
  have hgnE:=nrows_gE hn
  have h8:(gn ns n).2.length=8:=(ht.1 _ (gn_mem hn)).1
  have hw8:=fun i (h:i<8)=>wcs_gi (l:=(gn ns n).2) (i:=i) (by omega)
  have hwE:=fun i (h:i<8)=>wcs_gE (l:=(gn ns n).2) (i:=i) (by omega)
  have hwg:∀ i,(gn ns n).2.getD i 0=wd ns n i:=fun _=>rfl
  simp only [hwg] at hw8 hwE
  have hwl:(wcs (gn ns n).2).length=8:=by simp [h8]
  obtain ⟨⟨fr,ws⟩,hm⟩:∃ m,m=gn ns n:=⟨_,rfl⟩
  rw [← hm] at hgn hgnE hw8 hwE hwl
  simp only at hgn hgnE hw8 hwE hwl
  obtain ⟨cs,hcs⟩:∃ cs,cs=wcs ws:=⟨_,rfl⟩
  rw [← hcs] at hgn hgnE hw8 hwE hwl
  have hcu:∀ m,AV.underL m cs:=fun m=>underL_iff.2 fun a ha=>by
   rw [hcs] at ha
   obtain ⟨w,_,rfl⟩:=List.mem_map.1 ha
   trivial
  clear hcs hm h8 hwg
  have hct:List.take 8 cs=cs:=List.take_of_length_le (by omega)
  have zS:=jj hnl<|jj hnI<|jj hg0<|jj hgE0<|jj hset<|jj hgn<|jj hgnE<|jj hn<|jj hnN<|jj hwl<|hct
  repeat' (first|(apply aw_seq_k;intro K hK)|(refine eM64 ?_)|(refine aw_cond (b:=_) (by exact rfl) (fun h=>?_) (fun h=>?_)<;>(try simp at h))|(refine eB ?_)|(refine hK _ ?_;clear hK)|(clear hK;refine hK _ ?_;clear hK)|(clear hK;clear hK;refine hK _ ?_;clear hK)|(clear hK;clear hK;clear hK;refine hK _ ?_;clear hK))
  all_goals clear zS
  obtain ⟨ln,hln⟩:∃ ln,ln=led.length:=⟨_,rfl⟩
  have hRl:R.2.1.length=ln:=by rw [hR,(wkF_adds (b:=0) (fun _ _ _=>by simp) 8 0 (led1,[])).1,hln];exact hled1
  rw [← hln]
  refine aw_loopK (s0:=?lps1) (m0:=?lpm1) (ι:={s:Nat×List Bool×List Int // s.1≤8∧s.2.1.length=ln∧s.2.2.length≤1*s.1∧wkF (WR ds) ns (fun _ _ st=>(false,st)) 0 n first (8 - s.1) s.1 (s.2.1,s.2.2)=R}) [2,3,4,5,6,31] (fun s=>[(32,I s.1.1)]) (fun s=>[(0,.vec 1 1 false (brows s.1.2.1)),(1,.box [I ((c+s.1.2.2.length:Nat):Int)])]) (fun s=>8 - s.1.1) ⟨(0,led1,[]),by simp,by simp only;omega,by simp,hR.symm⟩ ?lhs1 ?lhm1 ?_ ?_
  case lhs1=>first|(simp [keepS];done)|(simp [keepS];rfl)
  case lhm1=>first|rfl|(simp;done)|(simp;rfl)
  ·simp only [List.length_nil,Nat.add_zero]
   exact le_of2 (by simp) (by simp [AVle,AV.under,AV.underL,hcu]<;>omega) (by simp [AOle,AO.under,AV.underL,AV.under,hcu]<;>omega)
  ·clear hR hset hg0 hgE0 hb hnl hnI
   clear hl1
   rintro ⟨⟨i,led2,hs2⟩,hi,hl2,hb2,hst⟩
   simp only at hi hl2 hb2 hst ⊢
   obtain ⟨cn,hcn⟩:∃ cn,cn=c+hs2.length:=⟨_,rfl⟩
   rw [← hcn]
   rcases Decidable.em (i<8) with hi8|hi8
   ·have hiI:(i:Int)<8:=by omega
    have hw8:=hw8 i hi8
    have hwE:=hwE i hi8
    have hw64:=wd_lt ht (n:=n) (i:=i) hn
    obtain ⟨k8,hk8⟩:∃ k,8 - i=k+1:=⟨7 - i,by omega⟩
    have hk7:8 - (i+1)=k8:=by omega
    rw [hk8] at hst
    obtain ⟨w,hwd⟩:∃ w,w=wd ns n i:=⟨_,rfl⟩
    simp only at hw64
    rw [← hwd] at hw64 hw8 hwE
    have hd':=hd w hw64
    have bad:=@wkF_bad (WR ds) ns (fun _ _ st=>(false,st)) 0 n first k8 i (led2,hs2)
    have pl:=@wkF_pl (WR ds) ns (fun _ _ st=>(false,st)) 0 n first k8 i (led2,hs2)
    have adm:=@wkF_adm (WR ds) ns (fun _ _ st=>(false,st)) 0 n first k8 i (led2,hs2)
    have hug:=@wkF_hug (WR ds) ns (fun _ _ st=>(false,st)) 0 n first k8 i (led2,hs2)
    have lost:=fun g=>@wkF_lost (WR ds) ns (fun _ _ st=>(false,st)) 0 n first k8 i (led2,hs2) g
    have rcr:=fun g nx=>@wkF_rec (WR ds) ns (fun _ _ st=>(false,st)) 0 n first k8 i (led2,hs2) g nx
    have hone:=(WD_ok (admR ds)).one 0 w
    have hflat:=(WD_ok (admR ds)).flat w
    rw [← hwd] at bad pl hug lost rcr adm
    rw [hst] at bad pl hug lost rcr adm
    have hsu':=fun e=>hsu e 0
    obtain ⟨⟨⟨k,f,d,a,x,h⟩,e⟩,hE⟩:∃ r,r=decR w:=⟨_,rfl⟩
    have hok:(WR ds).ok 0 w=(decide (e=0)&&suitB (k,f,d,a,x,h) 0):=by show okWb 0 w=_;unfold okWb;rw [← hE]
    have hhg:(WR ds).hug w=(decide (k=1)&&h):=by show hugW w=_;unfold hugW;rw [← hE]
    have htb:(WR ds).tab w=if k=4 then some f else none:=by show tabW w=_;unfold tabW;rw [← hE]
    rw [← hE] at hd'
    clear hE
    simp only [EnV,U] at hd' hw8 hwE
    have hsu2:∀ M n,X.call 132 [.agg [I k,I f,B d,B a,B x,B h],I 0] M n=some (B (suitB (k,f,d,a,x,h) 0),[]):=hsu' (k,f,d,a,x,h)
    rcases Decidable.em (e=0) with he|he
    ·subst he
     cases hsb:suitB (k,f,d,a,x,h) 0 with
     | false =>
      rw [hsb] at hsu2
      have hfin:=bad (by rw [hok,hsb];rfl)
      subst hfin
      simp only
      clear pl hug lost rcr hone hflat
      have zS:=jj hiI<|jj hi8<|jj hw8<|jj hwE<|jj hwl<|jj hd'<|hsu2
      repeat' (first|(apply aw_seq_k;intro K hK)|(refine eM64 ?_)|(refine aw_cond (b:=_) (by exact rfl) (fun h=>?_) (fun h=>?_)<;>(try simp at h))|(refine eB ?_)|(refine hK _ ?_;clear hK)|(clear hK;refine hK _ ?_;clear hK)|(clear hK;clear hK;refine hK _ ?_;clear hK)|(clear hK;clear hK;clear hK;refine hK _ ?_;clear hK))
      all_goals clear zS
      refine ⟨by simp,_,by simp [aResults,aResult,Tryz.f123];rfl,?_⟩
      try simp only [← hcn]
      simp only [idx]
      exact le_of2 (by simp) (by simp [AVle,AV.under,AV.underL,hcu]<;>omega) (by simp [AOle,AO.under,AV.underL,AV.under,hcu]<;>omega)
     | true =>
      rw [hsb] at hsu2
      have hok1:(WR ds).ok 0 w=true:=by rw [hok,hsb];rfl
      rcases Decidable.em (k=1∧h=true) with hk|hk
      ·obtain ⟨rfl,rfl⟩:=hk
       exact absurd (hone hok1 (by rw [hhg];rfl)) (by decide)
      ·have hhf:(decide (k=1)&&h)=false:=by
        rw [Bool.eq_false_iff];intro hh;simp only [Bool.and_eq_true,decide_eq_true_eq] at hh;exact hk hh
       rw [hhf] at hhg
       rcases Decidable.em (k=4) with hk4|hk4
       ·subst hk4
        have:=hflat hok1
        rw [htb] at this
        simp at this
       ·have hfin:=pl hok1 hhg (by rw [htb,if_neg hk4])
        clear bad hug lost rcr hone hflat
        rcases Decidable.em (k=1) with hk1|hk1
        ·subst hk1
         have hh0:h=false:=by cases h with|false=>rfl|true=>exact absurd ⟨rfl,rfl⟩ hk
         subst hh0
         have zS:=jj hiI<|jj hi8<|jj hw8<|jj hwE<|jj hwl<|jj hd'<|hsu2
         repeat' (first|(apply aw_seq_k;intro K hK)|(refine eM64 ?_)|(refine aw_cond (b:=_) (by exact rfl) (fun h=>?_) (fun h=>?_)<;>(try simp at h))|(refine eB ?_)|(refine hK _ ?_;clear hK)|(clear hK;refine hK _ ?_;clear hK)|(clear hK;clear hK;refine hK _ ?_;clear hK)|(clear hK;clear hK;clear hK;refine hK _ ?_;clear hK))
         all_goals clear zS
         refine ⟨i+1,led2,hs2,?_,⟨by omega,hl2,by omega,by rw [hk7];exact hfin.symm⟩,by omega⟩
         try simp only [← hcn]
         exact le_of2 (by simp) (by simp [AVle,AV.under,AV.underL,hcu]<;>omega) (by simp [AOle,AO.under,AV.underL,AV.under,hcu]<;>omega)
        ·have zS:=jj hiI<|jj hi8<|jj hw8<|jj hwE<|jj hwl<|jj hd'<|jj hsu2<|jj hk1<|hk4
         repeat' (first|(apply aw_seq_k;intro K hK)|(refine eM64 ?_)|(refine aw_cond (b:=_) (by exact rfl) (fun h=>?_) (fun h=>?_)<;>(try simp at h))|(refine eB ?_)|(refine hK _ ?_;clear hK)|(clear hK;refine hK _ ?_;clear hK)|(clear hK;clear hK;refine hK _ ?_;clear hK)|(clear hK;clear hK;clear hK;refine hK _ ?_;clear hK))
         all_goals clear zS
         refine ⟨i+1,led2,hs2,?_,⟨by omega,hl2,by omega,by rw [hk7];exact hfin.symm⟩,by omega⟩
         try simp only [← hcn]
         exact le_of2 (by simp) (by simp [AVle,AV.under,AV.underL,hcu]<;>omega) (by simp [AOle,AO.under,AV.underL,AV.under,hcu]<;>omega)
    ·have hfin:=bad (by rw [hok];simp [he])
     subst hfin
     simp only
     clear pl hug lost rcr hone hflat
     have zS:=jj hiI<|jj hi8<|jj hw8<|jj hwE<|jj hwl<|jj hd'<|he
     repeat' (first|(apply aw_seq_k;intro K hK)|(refine eM64 ?_)|(refine aw_cond (b:=_) (by exact rfl) (fun h=>?_) (fun h=>?_)<;>(try simp at h))|(refine eB ?_)|(refine hK _ ?_;clear hK)|(clear hK;refine hK _ ?_;clear hK)|(clear hK;clear hK;refine hK _ ?_;clear hK)|(clear hK;clear hK;clear hK;refine hK _ ?_;clear hK))
     all_goals clear zS
     refine ⟨by simp,_,by simp [aResults,aResult,Tryz.f123];rfl,?_⟩
     try simp only [← hcn]
     simp only [idx]
     exact le_of2 (by simp) (by simp [AVle,AV.under,AV.underL,hcu]<;>omega) (by simp [AOle,AO.under,AV.underL,AV.under,hcu]<;>omega)
   ·obtain rfl:i=8:=by omega
    simp only [Nat.sub_self,wkF] at hst
    subst hst
    simp only
    repeat' (first|(apply aw_seq_k;intro K hK)|(refine eM64o ?_)|(refine aw_cond (b:=_) (by exact rfl) (fun h=>?_) (fun h=>?_)<;>(try simp at h))|(refine eB ?_)|(refine hK _ ?_;clear hK)|(clear hK;refine hK _ ?_;clear hK)|(clear hK;clear hK;refine hK _ ?_;clear hK)|(clear hK;clear hK;clear hK;refine hK _ ?_;clear hK))
    refine ⟨by simp,_,by simp [aResults,aResult,Tryz.f123];rfl,?_⟩
    try simp only [← hcn]
    simp only [idx]
    exact le_of2 (by simp) (by simp [AVle,AV.under,AV.underL,hcu]<;>omega) (by simp [AOle,AO.under,AV.underL,AV.under,hcu]<;>omega)
end Go.AM
