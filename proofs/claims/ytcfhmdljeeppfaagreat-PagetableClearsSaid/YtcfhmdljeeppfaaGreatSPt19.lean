/- A part of the proof: what functions of the program compute, by abstract execution of their code. Its theorems hold without further condition. -/
import Derived.Test.YtcfhmdljeeppfaaGreatSPt16
set_option linter.all false
namespace Go.AM
open Go Go.Proofs
theorem wd_lt {t:Tb} (ht:tbOK t) {n i:Nat} (hn:n<t.2.1.length):wd t.2.1 n i<2^64:=by
 unfold wd
 have h:=(ht.1 _ (gn_mem hn)).2
 rw [gn_getD] at h
 rw [List.getD_eq_getElem?_getD]
 cases hg:(t.2.1.getD n (0,[])).2[i]? with
 | none=>simp
 | some w=>simp only [Option.getD_some];exact h w (List.mem_of_getElem? hg)
theorem wcs_gi {l:List Nat} {i:Nat} (h:i<l.length):(wcs l)[i]?=some (U (l.getD i 0:Nat)):=by
 simp [wcs,h,List.getD_eq_getElem?_getD]
theorem wcs_gE {l:List Nat} {i:Nat} (h:i<l.length):∀ h',(wcs l)[i]'(h')=U (l.getD i 0:Nat):=fun h'=>by
 have hg:=wcs_gi h
 rw [List.getElem?_eq_getElem h'] at hg
 exact Option.some.inj hg
set_option maxHeartbeats 8000000 in
theorem s116_0 (X:AX) (hX:XOK Tryz.prog X) (hw:X.W wT) (hd:∀ n:Nat,n<2^64→∀ M k,X.call 56 [U n] M k=some (.tup [EnV (decR n).1,I (decR n).2],[]))
  (hsu:∀ (e:En) (l:Nat) M n,X.call 117 [EnV e,I l] M n=some (B (suitB e l),[])):GSound Tryz.prog 116 (ckS 0):=by
 unfold ckS
 refine gsound_spec Tryz.func116 rfl X fun ⟨⟨⟨r,ns,ds⟩,n,first,led,hs⟩,hx⟩ w0 L E=>⟨by show 8≤96;decide,?_⟩
 obtain ⟨ht,ha,hn,hf,hled,hhs⟩:=hx
 simp only [ckF,ckH] at ht ha hn hf hled hhs
 show AW ⟨Tryz.prog,X,96,w0,⟨L,E,8⟩⟩ _ _ _
 have hc:Cx.OK ⟨Tryz.prog,X,96,w0,⟨L,E,8⟩⟩:=⟨hX,mixed⟩
 have hl1:ns.length≤1000000:=ht.2.1
 obtain ⟨R,hR⟩:∃ R,R=ckR 0 ((r,ns,ds),n,first,led,hs):=⟨_,rfl⟩
 simp only [← hR,ckM,ckA]
 have hnl:n<led.length:=by omega
 have hnI:(n:Int)<(led.length:Int):=by omega
 have hnN:(n:Int)<(ns.length:Int):=by omega
 have hg0:=brows_gi hnl
 have hgE0:=brows_gE hnl
 unfold ckR at hR
 simp only at hR
 rw [wk] at hR
 cases hb:led.getD n false with
 | true =>
  rw [hb] at hR hg0 hgE0
  simp only [if_true] at hR
  subst hR
  simp only
  have zS:=jj hnl<|jj hnI<|jj hg0<|hgE0
  refine dM64 ?_
  repeat (intro K hK)
  clear zS
  refine ⟨by simp,_,by simp [aResults,aResult,Tryz.f116];rfl,?_⟩
  simp only [Nat.sub_self,Nat.add_zero,idx]
  exact dle
 | false =>
  rw [hb] at hR hg0 hgE0
  simp only [Bool.false_eq_true,if_false] at hR
  have hset:=@brows_set led n true
  obtain ⟨led1,hl1⟩:∃ l,l=led.set n true:=⟨_,rfl⟩
  have hled1:led1.length=led.length:=by rw [hl1];simp
  rw [← hl1] at hR hset
  have zS:=jj hnl<|jj hnI<|jj hg0<|jj hgE0<|hset
  repeat' (first|(apply aw_seq_k;intro K hK)|(refine eM64 ?_)|(refine aw_cond (b:=_) (by exact rfl) (fun h=>?_) (fun h=>?_)<;>(try simp at h))|(refine eB ?_)|(refine hK _ ?_;clear hK)|(clear hK;refine hK _ ?_;clear hK)|(clear hK;clear hK;refine hK _ ?_;clear hK)|(clear hK;clear hK;clear hK;refine hK _ ?_;clear hK))
  all_goals clear zS
  refine aw_rounds 1 (aw_round ?_)
  repeat' (first|(apply aw_seq_k;intro K hK)|(refine eM64o ?_)|(refine aw_cond (b:=_) (by exact rfl) (fun h=>?_) (fun h=>?_)<;>(try simp at h))|(refine eB ?_)|(refine hK _ ?_;clear hK)|(clear hK;refine hK _ ?_;clear hK)|(clear hK;clear hK;refine hK _ ?_;clear hK)|(clear hK;clear hK;clear hK;refine hK _ ?_;clear hK))
  obtain ⟨h0,hh0⟩:∃ h0,h0=hs.length:=⟨_,rfl⟩
  obtain ⟨ln,hln⟩:∃ ln,ln=led.length:=⟨_,rfl⟩
  have hRl:R.2.1.length=ln:=by rw [hR,(wkF_adds (b:=0) (fun _ _ _=>by simp) 8 0 (led1,hs)).1,hln];exact hled1
  rw [hRl,← hln]
  rw [← hh0]
  refine aw_loopK (s0:=?lps1) (m0:=?lpm1) (ι:={s:Nat×List Bool×List Int // s.1≤8∧s.2.1.length=ln∧h0≤s.2.2.length∧s.2.2.length≤h0+1*s.1∧wkF WA ns (fun _ _ st=>(false,st)) 0 n first (8 - s.1) s.1 (s.2.1,s.2.2)=R}) [0,1,2,4,5,6,7,12] (fun s=>[(31,I s.1.1)]) (fun s=>[(1,.vec 1 1 false (brows s.1.2.1)),(3,.box [.sl 4 (1+(s.1.2.2.length - h0)) 1 0 s.1.2.2.length]),(4,.vec (1+(s.1.2.2.length - h0)) 1 false (irows s.1.2.2))]) (fun s=>8 - s.1.1) ⟨(0,led1,hs),by simp,by simp only;omega,by simp only;omega,by simp only;omega,hR.symm⟩ ?lhs1 ?lhm1 ?_ ?_
  case lhs1=>first|(simp [keepS];done)|(simp [keepS];rfl)
  case lhm1=>first|rfl|(simp;done)|(simp;rfl)
  ·simp only [← hh0,Nat.sub_self,Nat.add_zero]
   exact dle
  ·clear hR hset hg0 hgE0 hb hnl hnI
   clear hl1
   rintro ⟨⟨i,led2,hs2⟩,hi,hl2,hh2,hb2,hst⟩
   simp only at hi hl2 hh2 hb2 hst ⊢
   obtain ⟨v,hv⟩:∃ v,v=1+(hs2.length - h0):=⟨_,rfl⟩
   rw [← hv]
   have hv1:1≤v:=by omega
   rcases Decidable.em (i<8) with hi8|hi8
   ·have hiI:(i:Int)<8:=by omega
    have hgn:=nrows_gi hn
    have hgnE:=nrows_gE hn
    have h8:(gn ns n).2.length=8:=(ht.1 _ (gn_mem hn)).1
    have hw8:=wcs_gi (l:=(gn ns n).2) (i:=i) (by omega)
    have hwE:=wcs_gE (l:=(gn ns n).2) (i:=i) (by omega)
    have hw64:=wd_lt ht (n:=n) (i:=i) hn
    obtain ⟨k8,hk8⟩:∃ k,8 - i=k+1:=⟨7 - i,by omega⟩
    have hk7:8 - (i+1)=k8:=by omega
    rw [hk8] at hst
    obtain ⟨w,hwd⟩:∃ w,w=wd ns n i:=⟨_,rfl⟩
    have hwg:(gn ns n).2.getD i 0=w:=hwd.symm
    rw [hwg] at hw8 hwE
    simp only at hw64
    rw [← hwd] at hw64
    have hwl:(wcs (gn ns n).2).length=8:=by simp [h8]
    obtain ⟨⟨fr,ws⟩,hm⟩:∃ m,m=gn ns n:=⟨_,rfl⟩
    rw [← hm] at hgn hgnE hw8 hwE hwl
    simp only at hgn hgnE hw8 hwE hwl
    obtain ⟨cs,hcs⟩:∃ cs,cs=wcs ws:=⟨_,rfl⟩
    rw [← hcs] at hgn hgnE hw8 hwE hwl
    clear hcs hm h8 hwg
    have hd':=hd w hw64
    have bad:=@wkF_bad WA ns (fun _ _ st=>(false,st)) 0 n first k8 i (led2,hs2)
    have pl:=@wkF_pl WA ns (fun _ _ st=>(false,st)) 0 n first k8 i (led2,hs2)
    have hug:=@wkF_hug WA ns (fun _ _ st=>(false,st)) 0 n first k8 i (led2,hs2)
    have lost:=fun g=>@wkF_lost WA ns (fun _ _ st=>(false,st)) 0 n first k8 i (led2,hs2) g
    have rcr:=fun g nx=>@wkF_rec WA ns (fun _ _ st=>(false,st)) 0 n first k8 i (led2,hs2) g nx
    have hone:=(WD_ok fun _=>true).one 0 w
    have hflat:=(WD_ok fun _=>true).flat w
    rw [← hwd] at bad pl hug lost rcr
    rw [hst] at bad pl hug lost rcr
    have hsu':=fun e=>hsu e 0
    obtain ⟨⟨⟨k,f,d,a,x,h⟩,e⟩,hE⟩:∃ r,r=decR w:=⟨_,rfl⟩
    have hok:WA.ok 0 w=(decide (e=0)&&suitB (k,f,d,a,x,h) 0):=by show okWb 0 w=_;unfold okWb;rw [← hE]
    have hhg:WA.hug w=(decide (k=1)&&h):=by show hugW w=_;unfold hugW;rw [← hE]
    have htb:WA.tab w=if k=4 then some f else none:=by show tabW w=_;unfold tabW;rw [← hE]
    rw [← hE] at hd'
    clear hE
    simp only [EnV,U] at hd' hw8 hwE
    have hsu2:∀ M n,X.call 117 [.agg [I k,I f,B d,B a,B x,B h],I 0] M n=some (B (suitB (k,f,d,a,x,h) 0),[]):=hsu' (k,f,d,a,x,h)
    rcases Decidable.em (e=0) with he|he
    ·subst he
     cases hsb:suitB (k,f,d,a,x,h) 0 with
     | false =>
      rw [hsb] at hsu2
      have hfin:=bad (by rw [hok,hsb];rfl)
      subst hfin
      simp only
      clear pl hug lost rcr hone hflat
      have zS:=jj hiI<|jj hi8<|jj hgn<|jj hgnE<|jj hw8<|jj hwE<|jj hwl<|jj hd'<|jj hsu2<|jj hn<|hnN
      repeat' (first|(apply aw_seq_k;intro K hK)|(refine eM64 ?_)|(refine aw_cond (b:=_) (by exact rfl) (fun h=>?_) (fun h=>?_)<;>(try simp at h))|(refine eB ?_)|(refine hK _ ?_;clear hK)|(clear hK;refine hK _ ?_;clear hK)|(clear hK;clear hK;refine hK _ ?_;clear hK)|(clear hK;clear hK;clear hK;refine hK _ ?_;clear hK))
      all_goals clear zS
      refine ⟨by simp,_,by simp [aResults,aResult,Tryz.f116];rfl,?_⟩
      simp only [← hv,idx]
      exact dle
     | true =>
      rw [hsb] at hsu2
      have hok1:WA.ok 0 w=true:=by rw [hok,hsb];rfl
      rcases Decidable.em (k=1∧h=true) with hk|hk
      ·obtain ⟨rfl,rfl⟩:=hk
       exact absurd (hone hok1 (by rw [hhg];rfl)) (by decide)
      ·have hhf:(decide (k=1)&&h)=false:=by
        rw [Bool.eq_false_iff];intro hh;simp only [Bool.and_eq_true,decide_eq_true_eq] at hh;exact hk hh
       rw [hhf] at hhg
       rcases Decidable.em (k=4) with hk4|hk4
       ·subst hk4
        have:=hflat hok1
        rw [htb] at this
        simp at this
       ·have hfin:=pl hok1 hhg (by rw [htb,if_neg hk4])
        clear bad hug lost rcr hone hflat
        rcases Decidable.em (k=1) with hk1|hk1
        ·subst hk1
         have hh0:h=false:=by cases h with|false=>rfl|true=>exact absurd ⟨rfl,rfl⟩ hk
         subst hh0
         have zS:=jj hiI<|jj hi8<|jj hgn<|jj hgnE<|jj hw8<|jj hwE<|jj hwl<|jj hd'<|jj hsu2<|jj hn<|hnN
         repeat' (first|(apply aw_seq_k;intro K hK)|(refine eM64 ?_)|(refine aw_cond (b:=_) (by exact rfl) (fun h=>?_) (fun h=>?_)<;>(try simp at h))|(refine eB ?_)|(refine hK _ ?_;clear hK)|(clear hK;refine hK _ ?_;clear hK)|(clear hK;clear hK;refine hK _ ?_;clear hK)|(clear hK;clear hK;clear hK;refine hK _ ?_;clear hK))
         all_goals clear zS
         refine ⟨i+1,led2,hs2,?_,⟨by omega,hl2,by omega,by omega,by rw [hk7];exact hfin.symm⟩,by omega⟩
         simp only [← hv]
         exact dle
        ·have zS:=jj hiI<|jj hi8<|jj hgn<|jj hgnE<|jj hw8<|jj hwE<|jj hwl<|jj hd'<|jj hsu2<|jj hn<|jj hnN<|jj hk1<|hk4
         repeat' (first|(apply aw_seq_k;intro K hK)|(refine eM64 ?_)|(refine aw_cond (b:=_) (by exact rfl) (fun h=>?_) (fun h=>?_)<;>(try simp at h))|(refine eB ?_)|(refine hK _ ?_;clear hK)|(clear hK;refine hK _ ?_;clear hK)|(clear hK;clear hK;refine hK _ ?_;clear hK)|(clear hK;clear hK;clear hK;refine hK _ ?_;clear hK))
         all_goals clear zS
         refine ⟨i+1,led2,hs2,?_,⟨by omega,hl2,by omega,by omega,by rw [hk7];exact hfin.symm⟩,by omega⟩
         simp only [← hv]
         exact dle
    ·have hfin:=bad (by rw [hok];simp [he])
     subst hfin
     simp only
     clear pl hug lost rcr hone hflat
     have zS:=jj hiI<|jj hi8<|jj hgn<|jj hgnE<|jj hw8<|jj hwE<|jj hwl<|jj hd'<|jj he<|jj hn<|hnN
     repeat' (first|(apply aw_seq_k;intro K hK)|(refine eM64 ?_)|(refine aw_cond (b:=_) (by exact rfl) (fun h=>?_) (fun h=>?_)<;>(try simp at h))|(refine eB ?_)|(refine hK _ ?_;clear hK)|(clear hK;refine hK _ ?_;clear hK)|(clear hK;clear hK;refine hK _ ?_;clear hK)|(clear hK;clear hK;clear hK;refine hK _ ?_;clear hK))
     all_goals clear zS
     refine ⟨by simp,_,by simp [aResults,aResult,Tryz.f116];rfl,?_⟩
     simp only [← hv,idx]
     exact dle
   ·obtain rfl:i=8:=by omega
    simp only [Nat.sub_self,wkF] at hst
    subst hst
    simp only
    repeat' (first|(apply aw_seq_k;intro K hK)|(refine eM64o ?_)|(refine aw_cond (b:=_) (by exact rfl) (fun h=>?_) (fun h=>?_)<;>(try simp at h))|(refine eB ?_)|(refine hK _ ?_;clear hK)|(clear hK;refine hK _ ?_;clear hK)|(clear hK;clear hK;refine hK _ ?_;clear hK)|(clear hK;clear hK;clear hK;refine hK _ ?_;clear hK))
    refine ⟨by simp,_,by simp [aResults,aResult,Tryz.f116];rfl,?_⟩
    simp only [← hv,idx]
    exact dle
end Go.AM
namespace Go.AM
open Go Go.Proofs
set_option maxHeartbeats 8000000 in
theorem s116_1 (X:AX) (hX:XOK Tryz.prog X) (hw:X.W wT) (hd:∀ n:Nat,n<2^64→∀ M k,X.call 56 [U n] M k=some (.tup [EnV (decR n).1,I (decR n).2],[]))
  (hsu:∀ (e:En) (l:Nat) M n,X.call 117 [EnV e,I l] M n=some (B (suitB e l),[])) (hrec:X.call 116=callG (ckS 0)):GSound Tryz.prog 116 (ckS 1):=by
 unfold ckS
 refine gsound_spec Tryz.func116 rfl X fun ⟨⟨⟨r,ns,ds⟩,n,first,led,hs⟩,hx⟩ w0 L E=>⟨by show 8≤96;decide,?_⟩
 obtain ⟨ht,ha,hn,hf,hled,hhs⟩:=hx
 simp only [ckF,ckH] at ht ha hn hf hled hhs
 show AW ⟨Tryz.prog,X,96,w0,⟨L,E,8⟩⟩ _ _ _
 have hc:Cx.OK ⟨Tryz.prog,X,96,w0,⟨L,E,8⟩⟩:=⟨hX,mixed⟩
 have hl1:ns.length≤1000000:=ht.2.1
 obtain ⟨R,hR⟩:∃ R,R=ckR 1 ((r,ns,ds),n,first,led,hs):=⟨_,rfl⟩
 simp only [← hR,ckM,ckA]
 have hnl:n<led.length:=by omega
 have hnI:(n:Int)<(led.length:Int):=by omega
 have hnN:(n:Int)<(ns.length:Int):=by omega
 have hg0:=brows_gi hnl
 have hgE0:=brows_gE hnl
 unfold ckR at hR
 simp only at hR
 rw [wk] at hR
 cases hb:led.getD n false with
 | true =>
  rw [hb] at hR hg0 hgE0
  simp only [if_true] at hR
  subst hR
  simp only
  have zS:=jj hnl<|jj hnI<|jj hg0<|hgE0
  refine dM64 ?_
  repeat (intro K hK)
  clear zS
  refine ⟨by simp,_,by simp [aResults,aResult,Tryz.f116];rfl,?_⟩
  simp only [Nat.sub_self,Nat.add_zero,idx]
  exact dle
 | false =>
  rw [hb] at hR hg0 hgE0
  simp only [Bool.false_eq_true,if_false] at hR
  have hset:=@brows_set led n true
  obtain ⟨led1,hl1⟩:∃ l,l=led.set n true:=⟨_,rfl⟩
  have hled1:led1.length=led.length:=by rw [hl1];simp
  rw [← hl1] at hR hset
  have zS:=jj hnl<|jj hnI<|jj hg0<|jj hgE0<|hset
  repeat' (first|(apply aw_seq_k;intro K hK)|(refine eM64 ?_)|(refine aw_cond (b:=_) (by exact rfl) (fun h=>?_) (fun h=>?_)<;>(try simp at h))|(refine eB ?_)|(refine hK _ ?_;clear hK)|(clear hK;refine hK _ ?_;clear hK)|(clear hK;clear hK;refine hK _ ?_;clear hK)|(clear hK;clear hK;clear hK;refine hK _ ?_;clear hK))
  all_goals clear zS
  refine aw_rounds 2 (aw_round ?_)
  repeat' (first|(apply aw_seq_k;intro K hK)|(refine eM64o ?_)|(refine aw_cond (b:=_) (by exact rfl) (fun h=>?_) (fun h=>?_)<;>(try simp at h))|(refine eB ?_)|(refine hK _ ?_;clear hK)|(clear hK;refine hK _ ?_;clear hK)|(clear hK;clear hK;refine hK _ ?_;clear hK)|(clear hK;clear hK;clear hK;refine hK _ ?_;clear hK))
  obtain ⟨h0,hh0⟩:∃ h0,h0=hs.length:=⟨_,rfl⟩
  obtain ⟨ln,hln⟩:∃ ln,ln=led.length:=⟨_,rfl⟩
  have hRl:R.2.1.length=ln:=by rw [hR,(wkF_adds (b:=8) (wk_adds (l:=0)) 8 0 (led1,hs)).1,hln];exact hled1
  rw [hRl,← hln]
  rw [← hh0]
  refine aw_loopK (s0:=?lps1) (m0:=?lpm1) (ι:={s:Nat×List Bool×List Int // s.1≤8∧s.2.1.length=ln∧h0≤s.2.2.length∧s.2.2.length≤h0+9*s.1∧wkF WA ns (wk WA ns 0) 1 n first (8 - s.1) s.1 (s.2.1,s.2.2)=R}) [0,1,2,4,5,6,7,12] (fun s=>[(31,I s.1.1)]) (fun s=>[(1,.vec 1 1 false (brows s.1.2.1)),(3,.box [.sl 4 (1+(s.1.2.2.length - h0)) 1 0 s.1.2.2.length]),(4,.vec (1+(s.1.2.2.length - h0)) 1 false (irows s.1.2.2))]) (fun s=>8 - s.1.1) ⟨(0,led1,hs),by simp,by simp only;omega,by simp only;omega,by simp only;omega,hR.symm⟩ ?lhs1 ?lhm1 ?_ ?_
  case lhs1=>first|(simp [keepS];done)|(simp [keepS];rfl)
  case lhm1=>first|rfl|(simp;done)|(simp;rfl)
  ·simp only [← hh0,Nat.sub_self,Nat.add_zero]
   exact dle
  ·clear hR hset hg0 hgE0 hb hnl hnI
   clear hl1
   rintro ⟨⟨i,led2,hs2⟩,hi,hl2,hh2,hb2,hst⟩
   simp only at hi hl2 hh2 hb2 hst ⊢
   obtain ⟨v,hv⟩:∃ v,v=1+(hs2.length - h0):=⟨_,rfl⟩
   rw [← hv]
   have hv1:1≤v:=by omega
   rcases Decidable.em (i<8) with hi8|hi8
   ·have hiI:(i:Int)<8:=by omega
    have hgn:=nrows_gi hn
    have hgnE:=nrows_gE hn
    have h8:(gn ns n).2.length=8:=(ht.1 _ (gn_mem hn)).1
    have hw8:=wcs_gi (l:=(gn ns n).2) (i:=i) (by omega)
    have hwE:=wcs_gE (l:=(gn ns n).2) (i:=i) (by omega)
    have hw64:=wd_lt ht (n:=n) (i:=i) hn
    obtain ⟨k8,hk8⟩:∃ k,8 - i=k+1:=⟨7 - i,by omega⟩
    have hk7:8 - (i+1)=k8:=by omega
    rw [hk8] at hst
    obtain ⟨w,hwd⟩:∃ w,w=wd ns n i:=⟨_,rfl⟩
    have hwg:(gn ns n).2.getD i 0=w:=hwd.symm
    rw [hwg] at hw8 hwE
    simp only at hw64
    rw [← hwd] at hw64
    have hwl:(wcs (gn ns n).2).length=8:=by simp [h8]
    obtain ⟨⟨fr,ws⟩,hm⟩:∃ m,m=gn ns n:=⟨_,rfl⟩
    rw [← hm] at hgn hgnE hw8 hwE hwl
    simp only at hgn hgnE hw8 hwE hwl
    obtain ⟨cs,hcs⟩:∃ cs,cs=wcs ws:=⟨_,rfl⟩
    rw [← hcs] at hgn hgnE hw8 hwE hwl
    clear hcs hm h8 hwg
    have hd':=hd w hw64
    have bad:=@wkF_bad WA ns (wk WA ns 0) 1 n first k8 i (led2,hs2)
    have pl:=@wkF_pl WA ns (wk WA ns 0) 1 n first k8 i (led2,hs2)
    have hug:=@wkF_hug WA ns (wk WA ns 0) 1 n first k8 i (led2,hs2)
    have lost:=fun g=>@wkF_lost WA ns (wk WA ns 0) 1 n first k8 i (led2,hs2) g
    have rcr:=fun g nx=>@wkF_rec WA ns (wk WA ns 0) 1 n first k8 i (led2,hs2) g nx
    have hone:=(WD_ok fun _=>true).one 1 w
    have hflat:=(WD_ok fun _=>true).flat w
    rw [← hwd] at bad pl hug lost rcr
    rw [hst] at bad pl hug lost rcr
    have hsu':=fun e=>hsu e 1
    obtain ⟨⟨⟨k,f,d,a,x,h⟩,e⟩,hE⟩:∃ r,r=decR w:=⟨_,rfl⟩
    have hok:WA.ok 1 w=(decide (e=0)&&suitB (k,f,d,a,x,h) 1):=by show okWb 1 w=_;unfold okWb;rw [← hE]
    have hhg:WA.hug w=(decide (k=1)&&h):=by show hugW w=_;unfold hugW;rw [← hE]
    have htb:WA.tab w=if k=4 then some f else none:=by show tabW w=_;unfold tabW;rw [← hE]
    rw [← hE] at hd'
    clear hE
    simp only [EnV,U] at hd' hw8 hwE
    have hsu2:∀ M n,X.call 117 [.agg [I k,I f,B d,B a,B x,B h],I 1] M n=some (B (suitB (k,f,d,a,x,h) 1),[]):=hsu' (k,f,d,a,x,h)
    rcases Decidable.em (e=0) with he|he
    ·subst he
     cases hsb:suitB (k,f,d,a,x,h) 1 with
     | false =>
      rw [hsb] at hsu2
      have hfin:=bad (by rw [hok,hsb];rfl)
      subst hfin
      simp only
      clear pl hug lost rcr hone hflat
      have zS:=jj hiI<|jj hi8<|jj hgn<|jj hgnE<|jj hw8<|jj hwE<|jj hwl<|jj hd'<|jj hsu2<|jj hn<|hnN
      repeat' (first|(apply aw_seq_k;intro K hK)|(refine eM64 ?_)|(refine aw_cond (b:=_) (by exact rfl) (fun h=>?_) (fun h=>?_)<;>(try simp at h))|(refine eB ?_)|(refine hK _ ?_;clear hK)|(clear hK;refine hK _ ?_;clear hK)|(clear hK;clear hK;refine hK _ ?_;clear hK)|(clear hK;clear hK;clear hK;refine hK _ ?_;clear hK))
      all_goals clear zS
      refine ⟨by simp,_,by simp [aResults,aResult,Tryz.f116];rfl,?_⟩
      simp only [← hv,idx]
      exact dle
     | true =>
      rw [hsb] at hsu2
      have hok1:WA.ok 1 w=true:=by rw [hok,hsb];rfl
      rcases Decidable.em (k=1∧h=true) with hk|hk
      ·obtain ⟨rfl,rfl⟩:=hk
       have hfin:=hug hok1 (by rw [hhg];rfl) rfl (by rw [htb];rfl)
       clear bad pl lost rcr hone hflat
       have hq:((first:Int)+(i:Int)*8).tdiv 8=(((first+i*8^1)/8:Nat):Int):=by rw [Int.tdiv_eq_ediv_of_nonneg (by omega)];omega
       obtain ⟨gq,hgq⟩:∃ g:Int,g=(((first+i*8^1)/8:Nat):Int):=⟨_,rfl⟩
       rw [← hgq] at hq hfin
       have hq2:((first:Int)+(i:Int)*8)/8=gq:=by rw [hgq];omega
       have happ:List.take hs2.length (irows hs2)++[[I gq]]=irows (hs2++[gq]):=by rw [← irows_append,List.take_of_length_le (by simp)];rfl
       simp only [I] at happ
       have zS:=jj hiI<|jj hi8<|jj hgn<|jj hgnE<|jj hw8<|jj hwE<|jj hwl<|jj hd'<|jj hsu2<|jj hn<|jj hnN<|jj hq<|hq2
       repeat' (first|(apply aw_seq_k;intro K hK)|(refine eM64 ?_)|(refine aw_cond (b:=_) (by exact rfl) (fun h=>?_) (fun h=>?_)<;>(try simp at h))|(refine eB ?_)|(refine hK _ ?_;clear hK)|(clear hK;refine hK _ ?_;clear hK)|(clear hK;clear hK;refine hK _ ?_;clear hK)|(clear hK;clear hK;clear hK;refine hK _ ?_;clear hK))
       all_goals clear zS
       refine ⟨i+1,led2,hs2++[gq],?_,⟨by omega,hl2,by simp only [List.length_append,List.length_singleton];omega,by simp only [List.length_append,List.length_singleton];omega,by rw [hk7];exact hfin.symm⟩,by omega⟩
       simp only [List.length_append,List.length_singleton,show 1+(hs2.length+1 - h0)=v+1 by omega,← happ]
       exact dle
      ·have hhf:(decide (k=1)&&h)=false:=by
        rw [Bool.eq_false_iff];intro hh;simp only [Bool.and_eq_true,decide_eq_true_eq] at hh;exact hk hh
       rw [hhf] at hhg
       rcases Decidable.em (k=4) with hk4|hk4
       ·subst hk4
        clear hone hflat hug pl bad
        have hget:=idxE_get ha f
        cases hfn:fnd ns f with
        | none =>
         rw [hfn] at hget
         try simp only [Option.map_none] at hget
         have hfin:=lost f hok1 hhg (by rw [htb];rfl) hfn
         subst hfin
         simp only
         clear lost rcr
         have zS:=jj hiI<|jj hi8<|jj hgn<|jj hgnE<|jj hw8<|jj hwE<|jj hwl<|jj hd'<|jj hsu2<|jj hn<|jj hnN<|hget
         repeat' (first|(apply aw_seq_k;intro K hK)|(refine eM64 ?_)|(refine aw_cond (b:=_) (by exact rfl) (fun h=>?_) (fun h=>?_)<;>(try simp at h))|(refine eB ?_)|(refine hK _ ?_;clear hK)|(clear hK;refine hK _ ?_;clear hK)|(clear hK;clear hK;refine hK _ ?_;clear hK)|(clear hK;clear hK;clear hK;refine hK _ ?_;clear hK))
         all_goals clear zS
         refine ⟨by simp,_,by simp [aResults,aResult,Tryz.f116];rfl,?_⟩
         simp only [← hv,idx]
         exact dle
        | some nx =>
         rw [hfn] at hget
         try simp only [Option.map_some] at hget
         have hnx:=fnd_lt hfn
         have hfin:=rcr f nx hok1 hhg (by rw [htb];rfl) hfn
         clear lost rcr
         have hckk:ckOK 0 ((r,ns,ds),nx,first+i*8,led2,hs2):=⟨ht,ha,hnx,by simp only [ckF];omega,by simp only;omega,by simp only [ckH];omega⟩
         have hcall:=@callCk 0 (r,ns,ds) nx (first+i*8) led2 hs2 hckk v hv1 false false
         have hckR:ckR 0 ((r,ns,ds),nx,first+i*8,led2,hs2)=wk WA ns 0 nx (first+i*8) (led2,hs2):=rfl
         rw [hckR] at hcall
         have hadd:=wk_adds (D:=WA) (ns:=ns) (l:=0) nx (first+i*8) (led2,hs2)
         rw [show (8:Nat)^1=8 from rfl] at hfin
         obtain ⟨⟨b3,led3,hs3⟩,hR3⟩:∃ R,R=wk WA ns 0 nx (first+i*8) (led2,hs2):=⟨_,rfl⟩
         rw [← hR3] at hcall hfin hadd
         clear hR3 hckR hckk
         simp only [addsB] at hcall hfin hadd
         rw [hl2] at hcall hadd
         rw [hadd.1] at hcall
         rw [← hrec] at hcall
         have hfI:((first+i*8:Nat):Int)=(first:Int)+(i:Int)*8:=by omega
         rw [hfI,show ((0:Nat):Int)=(0:Int) from rfl] at hcall
         obtain ⟨v3,hv3⟩:∃ v3,v3=v+(hs3.length - hs2.length):=⟨_,rfl⟩
         rw [← hv3] at hcall
         cases b3 with
         | false =>
          simp only [Bool.false_eq_true,if_false] at hfin
          subst hfin
          simp only
          have zS:=jj hiI<|jj hi8<|jj hgn<|jj hgnE<|jj hw8<|jj hwE<|jj hwl<|jj hd'<|jj hsu2<|jj hn<|jj hnN<|jj hget<|hcall
          repeat' (first|(apply aw_seq_k;intro K hK)|(refine eM64 ?_)|(refine aw_cond (b:=_) (by exact rfl) (fun h=>?_) (fun h=>?_)<;>(try simp at h))|(refine eB ?_)|(refine hK _ ?_;clear hK)|(clear hK;refine hK _ ?_;clear hK)|(clear hK;clear hK;refine hK _ ?_;clear hK)|(clear hK;clear hK;clear hK;refine hK _ ?_;clear hK))
          all_goals clear zS
          refine ⟨by simp,_,by simp [aResults,aResult,Tryz.f116];rfl,?_⟩
          simp only [show 1+(hs3.length - h0)=v3 by omega,idx]
          exact dle
         | true =>
          simp only [if_true] at hfin
          have zS:=jj hiI<|jj hi8<|jj hgn<|jj hgnE<|jj hw8<|jj hwE<|jj hwl<|jj hd'<|jj hsu2<|jj hn<|jj hnN<|jj hget<|hcall
          repeat' (first|(apply aw_seq_k;intro K hK)|(refine eM64 ?_)|(refine aw_cond (b:=_) (by exact rfl) (fun h=>?_) (fun h=>?_)<;>(try simp at h))|(refine eB ?_)|(refine hK _ ?_;clear hK)|(clear hK;refine hK _ ?_;clear hK)|(clear hK;clear hK;refine hK _ ?_;clear hK)|(clear hK;clear hK;clear hK;refine hK _ ?_;clear hK))
          all_goals clear zS
          refine ⟨i+1,led3,hs3,?_,⟨by omega,hadd.1,by omega,by omega,by rw [hk7];exact hfin.symm⟩,by omega⟩
          simp only [show 1+(hs3.length - h0)=v3 by omega]
          exact dle
       ·have hfin:=pl hok1 hhg (by rw [htb,if_neg hk4])
        clear bad hug lost rcr hone hflat
        rcases Decidable.em (k=1) with hk1|hk1
        ·subst hk1
         have hh0:h=false:=by cases h with|false=>rfl|true=>exact absurd ⟨rfl,rfl⟩ hk
         subst hh0
         have zS:=jj hiI<|jj hi8<|jj hgn<|jj hgnE<|jj hw8<|jj hwE<|jj hwl<|jj hd'<|jj hsu2<|jj hn<|hnN
         repeat' (first|(apply aw_seq_k;intro K hK)|(refine eM64 ?_)|(refine aw_cond (b:=_) (by exact rfl) (fun h=>?_) (fun h=>?_)<;>(try simp at h))|(refine eB ?_)|(refine hK _ ?_;clear hK)|(clear hK;refine hK _ ?_;clear hK)|(clear hK;clear hK;refine hK _ ?_;clear hK)|(clear hK;clear hK;clear hK;refine hK _ ?_;clear hK))
         all_goals clear zS
         refine ⟨i+1,led2,hs2,?_,⟨by omega,hl2,by omega,by omega,by rw [hk7];exact hfin.symm⟩,by omega⟩
         simp only [← hv]
         exact dle
        ·have zS:=jj hiI<|jj hi8<|jj hgn<|jj hgnE<|jj hw8<|jj hwE<|jj hwl<|jj hd'<|jj hsu2<|jj hn<|jj hnN<|jj hk1<|hk4
         repeat' (first|(apply aw_seq_k;intro K hK)|(refine eM64 ?_)|(refine aw_cond (b:=_) (by exact rfl) (fun h=>?_) (fun h=>?_)<;>(try simp at h))|(refine eB ?_)|(refine hK _ ?_;clear hK)|(clear hK;refine hK _ ?_;clear hK)|(clear hK;clear hK;refine hK _ ?_;clear hK)|(clear hK;clear hK;clear hK;refine hK _ ?_;clear hK))
         all_goals clear zS
         refine ⟨i+1,led2,hs2,?_,⟨by omega,hl2,by omega,by omega,by rw [hk7];exact hfin.symm⟩,by omega⟩
         simp only [← hv]
         exact dle
    ·have hfin:=bad (by rw [hok];simp [he])
     subst hfin
     simp only
     clear pl hug lost rcr hone hflat
     have zS:=jj hiI<|jj hi8<|jj hgn<|jj hgnE<|jj hw8<|jj hwE<|jj hwl<|jj hd'<|jj he<|jj hn<|hnN
     repeat' (first|(apply aw_seq_k;intro K hK)|(refine eM64 ?_)|(refine aw_cond (b:=_) (by exact rfl) (fun h=>?_) (fun h=>?_)<;>(try simp at h))|(refine eB ?_)|(refine hK _ ?_;clear hK)|(clear hK;refine hK _ ?_;clear hK)|(clear hK;clear hK;refine hK _ ?_;clear hK)|(clear hK;clear hK;clear hK;refine hK _ ?_;clear hK))
     all_goals clear zS
     refine ⟨by simp,_,by simp [aResults,aResult,Tryz.f116];rfl,?_⟩
     simp only [← hv,idx]
     exact dle
   ·obtain rfl:i=8:=by omega
    simp only [Nat.sub_self,wkF] at hst
    subst hst
    simp only
    repeat' (first|(apply aw_seq_k;intro K hK)|(refine eM64o ?_)|(refine aw_cond (b:=_) (by exact rfl) (fun h=>?_) (fun h=>?_)<;>(try simp at h))|(refine eB ?_)|(refine hK _ ?_;clear hK)|(clear hK;refine hK _ ?_;clear hK)|(clear hK;clear hK;refine hK _ ?_;clear hK)|(clear hK;clear hK;clear hK;refine hK _ ?_;clear hK))
    refine ⟨by simp,_,by simp [aResults,aResult,Tryz.f116];rfl,?_⟩
    simp only [← hv,idx]
    exact dle
end Go.AM
