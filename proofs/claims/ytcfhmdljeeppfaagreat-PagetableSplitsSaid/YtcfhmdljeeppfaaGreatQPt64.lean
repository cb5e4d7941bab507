/- A part of the proof; no condition. -/
import Derived.Test.YtcfhmdljeeppfaaGreatQPt59
set_option linter.all false
namespace Go.AM
open Go Go.Proofs
def z8:List Value:=[.int .u64 0,.int .u64 0,.int .u64 0,.int .u64 0,.int .u64 0,.int .u64 0,.int .u64 0,.int .u64 0]
def z8A:List AV:=[.v (.int .u64 0),.v (.int .u64 0),.v (.int .u64 0),.v (.int .u64 0),.v (.int .u64 0),.v (.int .u64 0),.v (.int .u64 0),.v (.int .u64 0)]
theorem path_2 {r:Int} {ns:NdL} {ds:List Dp} (h:Pv (r,ns,ds)) {p:Nat} (hp:p<512) (hl:(lsT (r,ns,ds) p).2.1=2):ptL (r,ns,ds) p=[lsT (r,ns,ds) p]:=by
 unfold lsT ptL at *
 simp only [lst,pth] at hl ⊢
 cases h2:kid WA ns (wd ns (rtN (r,ns,ds)) (dgt p 2)) with
 | none=>rfl
 | some n1 =>
  rw [h2] at hl
  simp only at hl
  cases h1:kid WA ns (wd ns n1 (dgt p 1)) with
  | none=>rw [h1] at hl;simp at hl
  | some n0=>rw [h1] at hl;simp at hl
theorem ent_level {r:Int} {ns:NdL} {ds:List Dp} (hv:Vt (r,ns,ds)) {p:Nat} (hp:p<512) (h0:(lsT (r,ns,ds) p).2.2≠0):(lsT (r,ns,ds) p).2.1≠2∧((lsT (r,ns,ds) p).2.1=1→lowD ds ((p/8:Nat):Int)<ds.length):=by
 have hpv:=hv.pv
 obtain ⟨f,l,w,hw⟩:∃ f l w,wlk (Mof ns) r p=(f,l,w):=⟨_,_,_,rfl⟩
 have h1:=(hpv.walk hp).2.2
 simp only at h1
 rw [hw] at h1
 rw [h1] at h0 ⊢
 simp only at h0 ⊢
 obtain ⟨a1,a2,a3,a4,a5,a6⟩:=wlk_at hpv.vm hp hw
 have hk:(decR w).1.1≠0:=fun h=>h0 ((kind0 a6).1 h)
 have h4:(decR w).1.1≠4:=decR_tab.1 a5
 have a7:=a6
 unfold okWb at a7
 simp only [Bool.and_eq_true,decide_eq_true_eq] at a7
 obtain ⟨_,a7⟩:=a7
 unfold suitB at a7
 rw [if_neg hk,if_neg h4] at a7
 refine ⟨fun e=>?_,fun e=>?_⟩
 ·subst e;simp at a7
 ·subst e
  by_cases hk1:(decR w).1.1=1
  ·rw [if_pos hk1] at a7
   simp at a7
   refine (lowD_key (ds:=ds) hv.num.dasc ?_).1
   have hd:=hv.dep
   simp only at hd
   rw [hd]
   refine mem_hugM.2 ⟨p/8,by omega,rfl,hugB_iff.2 ⟨f,?_,?_⟩⟩
   ·simp only at a3
    have:p/8^(1+1)=p/8/8:=by simp;omega
    rw [this] at a3
    exact a3
   ·simp only at a4
    rw [dgt1] at a4
    rw [← a4]
    unfold hugW
    rw [hk1,a7];rfl
  ·rw [if_neg hk1] at a7
   simp at a7
structure Rnd (S:NdL) (a dg:Nat) (fr:Int) (cs cs':List AV) (b:Bool):Prop where
 g:(nrows S)[a]?=some (I fr::cs)
 gE:∀ h',(nrows S)[a]'(h')=I fr::cs
 l:cs.length=8
 st:(nrows S).set a (I fr::cs.set dg (.v (.int .u64 0)))=nrows (setN S a dg 0)
 g':(nrows (setN S a dg 0))[a]?=some (I fr::cs')
 gE':∀ h',(nrows (setN S a dg 0))[a]'(h')=I fr::cs'
 l':cs'.length=8
 eq:eqL cs' z8A=some b
 sk:sameK z8 cs'=true
 s1:(I fr::cs).set (1+dg) (.v (.int .u64 0))=I fr::cs.set dg (.v (.int .u64 0))
theorem rnd {S:NdL} (hS:∀ x∈S,ndOK x) {a dg:Nat} (ha:a<S.length) (hd:dg<8):∃ cs cs',Rnd S a dg (gn S a).1 cs cs' (decide ((gn (setN S a dg 0) a).2=zs8)):=by
 have h8:=(hS _ (gn_mem ha)).1
 have hg:gn (setN S a dg 0) a=((gn S a).1,(gn S a).2.set dg 0):=by
  rw [gn_eq (by rw [setN_len];exact ha)]
  unfold setN
  rw [List.getElem_set_self];rfl
 have ha':a<(setN S a dg 0).length:=by rw [setN_len];exact ha
 have hn:=@nrows_setN S a dg 0 ha
 have g':=nrows_gi ha'
 have gE':=nrows_gE ha'
 rw [hg] at g' gE' ⊢
 refine ⟨wcs (gn S a).2,wcs ((gn S a).2.set dg 0),nrows_gi ha,nrows_gE ha,by simp [h8],hn,g',gE',by simp [h8],?_,?_,?_⟩
 ·show eqL _ (wcs zs8)=_
  exact eqL_wcs (by simp [h8,zs8])
 ·exact sameK_wcs (n:=8) (by simp [h8])
 ·rw [Nat.add_comm];rfl
theorem kpF_nil {S:NdL}:kpF [] S=S:=by unfold kpF;exact List.filter_eq_self.2 fun x _=>by simp [inF]
theorem setN_ndok {S:NdL} (hS:∀ x∈S,ndOK x) {a dg:Nat} (ha:a<S.length):∀ x∈setN S a dg 0,ndOK x:=setN_ok hS (by omega) ha
set_option maxHeartbeats 16000000 in
theorem s55 (X:AX) (hX:XOK Tryz.prog X) (hw:X.W wT) (he:X.eqs 148=true) (hck:∀ t:Tb,tbOK t→∀ (n lim:Int) M k,X.call 109 [TbV t,I n,I lim] M k=some (I (ckd t n lim),[]))
  (hpa:∀ (t:Tb) (p:Nat),ptO t p→∀ M n,X.call 137 [TbV t,I p] M n=some (.sl n 1 3 0 (ptL t p).length,[(n,.vec 1 3 false (srows (ptL t p)))]))
  (hdg:∀ (p l:Nat),p<512→l≤2→∀ M n,X.call 139 [I p,I l] M n=some (I (dgt p l),[]))
  (hcl:∀ t:Tb,tbOK t→∀ M n,X.call 128 [TbV t] M n=some (TbC t n,[(n,.vec 1 9 false (nrows t.2.1)),(n+1,.vec 1 2 false (prows t.2.2))]))
  (hwd:X.call 138=callG wdS) (hdf:X.call 140=callG dfB) :
  PSound Tryz.prog 55 (specF (ι:={x:Tb×Int // tbOK x.1∧x.1.2.1.length≤999000}) (fun x=>[TbV x.1.1,I x.1.2]) fun x=>retOf [TbO (clrP x.1.1 x.1.2).1,U (clrP x.1.1 x.1.2).2.1,.ow 1 (irows (clrP x.1.1 x.1.2).2.2.1),I (clrP x.1.1 x.1.2).2.2.2]):=by
 refine psound_spec hX mixed Tryz.func55 rfl fun ⟨⟨⟨r,ns,ds⟩,pI⟩,ht,hl9⟩ w0 G=>⟨by show 2≤96;decide,rfl,?_⟩
 show AW ⟨Tryz.prog,X,96,w0,.pure G⟩ _ _ _
 have hc:Cx.OK ⟨Tryz.prog,X,96,w0,.pure G⟩:=⟨hX,mixed⟩
 simp only at hl9 ht ⊢
 have hck':=hck _ ht pI 512
 have hl1:ns.length≤1000000:=ht.2.1
 have hl2:ds.length≤1000000:=ht.2.2
 rcases Decidable.em (ckd (r,ns,ds) pI 512≠0) with hk|hk
 ·have e:clrP (r,ns,ds) pI=(zT,0,[],ckd (r,ns,ds) pI 512):=by unfold clrP;rw [if_pos hk]
  rw [e]
  obtain ⟨c,hc0⟩:∃ c,c=ckd (r,ns,ds) pI 512:=⟨_,rfl⟩
  rw [← hc0] at hck' hk ⊢
  simp only [TbV,TbO,zT,U] at hck' ⊢
  have zS:=jj hck'<|hk
  refine dM64 ?_
  repeat (intro K hK)
  clear zS
  refine ⟨by simp,?_⟩
  simp [leaves_iff,Tryz.f55,nrows,prows,irows]
  try exact dt
 ·obtain ⟨hpv,hp0,hp1⟩:=ckd_pt ht hk
  have hvt:=ckd_vt ht hk
  obtain ⟨p,rfl⟩:=Int.eq_ofNat_of_zero_le hp0
  have hp:p<512:=by omega
  have hz:ckd (r,ns,ds) p 512=0:=by omega
  rw [hz] at hck'
  have hpa':=hpa _ _ (hpv.pto ht hp)
  have hcl':=hcl _ ht
  have eS:clrP (r,ns,ds) p=if (lsT (r,ns,ds) p).2.2=0 then (zT,0,[],6) else ((r,kpF (clrA (r,ns,ds) p) (clrL p ns (ptL (r,ns,ds) p).reverse).1,clrD (r,ns,ds) p),(lsT (r,ns,ds) p).2.2,clrA (r,ns,ds) p,0):=by
   unfold clrP
   rw [if_neg hk,Int.toNat_natCast]
  rw [eS]
  have hdg2:=hdg p 2 hp (by omega)
  have hdg1:=hdg p 1 hp (by omega)
  have hdg0:=hdg p 0 hp (by omega)
  have hd2:=dgt_lt p 2
  have hd1:=dgt_lt p 1
  have hd0:=dgt_lt p 0
  have hlw:=lsT_lt hpv hp
  rw [show ((2:Nat):Int)=2 from rfl] at hdg2
  rw [show ((1:Nat):Int)=1 from rfl] at hdg1
  rw [show ((0:Nat):Int)=0 from rfl] at hdg0
  have hd2I:((dgt p 2:Nat):Int)<8:=by omega
  have hd1I:((dgt p 1:Nat):Int)<8:=by omega
  have hd0I:((dgt p 0:Nat):Int)<8:=by omega
  have hdv:(p:Int).tdiv 8=((p/8:Nat):Int):=by rw [Int.tdiv_eq_ediv_of_nonneg (by omega)];omega
  rcases (by omega:(lsT (r,ns,ds) p).2.1=0∨(lsT (r,ns,ds) p).2.1=1∨(lsT (r,ns,ds) p).2.1=2) with hlev|hlev|hlev
  ·obtain ⟨n2,w2,n1,w1,hn2,hn1,hpl⟩:=path_0 hpv hp hlev
   have hA:clrA (r,ns,ds) p=(clrL p ns (ptL (r,ns,ds) p).reverse).2:=by unfold clrA clrF;rw [if_neg (by rw [hlev];decide)];rfl
   have hD:clrD (r,ns,ds) p=ds:=by unfold clrD;rw [if_neg (by rw [hlev];decide)]
   rw [hA,hD]
   rw [hpl] at hpa' ⊢
   obtain ⟨⟨n0,l0,w⟩,hS⟩:∃ S,S=lsT (r,ns,ds) p:=⟨_,rfl⟩
   rw [← hS] at hlev hlw hpa' ⊢
   simp only at hlev hlw
   subst hlev
   clear hS hA hD eS hpl
   simp only [TbV,TbO,TbC,srows,srow,List.map_cons,List.map_nil,U,List.reverse_cons,List.reverse_nil,List.nil_append,List.cons_append,List.length_cons,List.length_nil,Nat.zero_add] at hck' hpa' hcl' ⊢
   rcases Decidable.em (w=0) with hw0|hw0
   ·rw [if_pos hw0]
    subst hw0
    simp only [zT]
    have zS:=jj hck'<|hpa'
    refine dM64 ?_
    repeat (intro K hK)
    clear zS
    all_goals refine ⟨by simp,?_⟩
    all_goals simp [leaves_iff,Tryz.f55,nrows,prows,irows]
    all_goals try exact dt
   ·rw [if_neg hw0]
    have hw0I:¬ (w:Int)=0:=by omega
    have hn0:n0<ns.length:=hlw.1
    have hn0I:(n0:Int)<(ns.length:Int):=by omega
    have hn1I:(n1:Int)<(ns.length:Int):=by omega
    have hn2I:(n2:Int)<(ns.length:Int):=by omega
    obtain ⟨ca,ca',Ra⟩:=rnd (S:=ns) ht.1 (a:=n0) hn0 hd0
    have qRa:=Ra.eq
    have kRa:=Ra.sk
    simp only [z8,z8A] at qRa kRa
    have tkRa:List.take 8 ca'=ca':=List.take_of_length_le (by have:=Ra.l';omega)
    have cA:clrL p ns [(n0,0,w),(n1,1,w1),(n2,2,w2)]=if (gn (setN ns n0 (dgt p 0) 0) n0).2=zs8 then ((clrL p (setN ns n0 (dgt p 0) 0) [(n1,1,w1),(n2,2,w2)]).1,(gn ns n0).1::(clrL p (setN ns n0 (dgt p 0) 0) [(n1,1,w1),(n2,2,w2)]).2) else (setN ns n0 (dgt p 0) 0,[]):=rfl
    have g0:(gn ns n0).1=(gn ns n0).1:=rfl
    obtain ⟨S1,hS1⟩:∃ S,S=setN ns n0 (dgt p 0) 0:=⟨_,rfl⟩
    have hS1o:∀ x∈S1,ndOK x:=by rw [hS1];exact setN_ndok ht.1 hn0
    have hS1l:S1.length=ns.length:=by rw [hS1,setN_len]
    have Ra1:=Ra.st
    have Ra2:=Ra.g'
    have Ra3:=Ra.gE'
    rw [← hS1] at cA qRa Ra1 Ra2 Ra3
    have hS1n:∀ n,n<ns.length→n<S1.length:=fun n h=>by omega
    have hn1S:n1<S1.length:=by omega
    obtain ⟨cb,cb',Rb⟩:=rnd (S:=S1) hS1o (a:=n1) hn1S hd1
    have qRb:=Rb.eq
    have kRb:=Rb.sk
    simp only [z8,z8A] at qRb kRb
    have tkRb:List.take 8 cb'=cb':=List.take_of_length_le (by have:=Rb.l';omega)
    have cB:clrL p S1 [(n1,1,w1),(n2,2,w2)]=if (gn (setN S1 n1 (dgt p 1) 0) n1).2=zs8 then ((clrL p (setN S1 n1 (dgt p 1) 0) [(n2,2,w2)]).1,(gn S1 n1).1::(clrL p (setN S1 n1 (dgt p 1) 0) [(n2,2,w2)]).2) else (setN S1 n1 (dgt p 1) 0,[]):=rfl
    obtain ⟨S2,hS2⟩:∃ S,S=setN S1 n1 (dgt p 1) 0:=⟨_,rfl⟩
    have hS2o:∀ x∈S2,ndOK x:=by rw [hS2];exact setN_ndok hS1o hn1S
    have hS2l:S2.length=ns.length:=by rw [hS2,setN_len];exact hS1l
    have Rb1:=Rb.st
    have Rb2:=Rb.g'
    have Rb3:=Rb.gE'
    rw [← hS2] at cB qRb Rb1 Rb2 Rb3
    have hn2S:n2<S2.length:=by omega
    obtain ⟨cc,cc',Rc⟩:=rnd (S:=S2) hS2o (a:=n2) hn2S hd2
    have qRc:=Rc.eq
    have kRc:=Rc.sk
    simp only [z8,z8A] at qRc kRc
    have tkRc:List.take 8 cc'=cc':=List.take_of_length_le (by have:=Rc.l';omega)
    have cC:clrL p S2 [(n2,2,w2)]=(setN S2 n2 (dgt p 2) 0,[]):=rfl
    obtain ⟨S3,hS3⟩:∃ S,S=setN S2 n2 (dgt p 2) 0:=⟨_,rfl⟩
    have hS3o:∀ x∈S3,ndOK x:=by rw [hS3];exact setN_ndok hS2o hn2S
    have hS3l:S3.length=ns.length:=by rw [hS3,setN_len];exact hS2l
    have Rc1:=Rc.st
    have Rc2:=Rc.g'
    have Rc3:=Rc.gE'
    rw [← hS3] at cC qRc Rc1 Rc2 Rc3
    clear hS1 hS2 hS3
    obtain ⟨f0,hf0⟩:∃ f,f=(gn ns n0).1:=⟨_,rfl⟩
    obtain ⟨f1,hf1⟩:∃ f,f=(gn S1 n1).1:=⟨_,rfl⟩
    rw [← hf0] at cA Ra
    rw [← hf1] at cB Rb
    rw [← hf0] at Ra2 Ra3 Ra1
    rw [← hf1] at Rb2 Rb3 Rb1
    rcases Decidable.em ((gn S1 n0).2=zs8) with hza|hza
    ·rw [decide_eq_true hza] at qRa
     rw [if_pos hza] at cA
     rcases Decidable.em ((gn S2 n1).2=zs8) with hzb|hzb
     ·rw [decide_eq_true hzb] at qRb
      rw [if_pos hzb,cC] at cB
      rw [cB] at cA
      rw [cA]
      have hdf':=fun M n=>@callDf 432 480 1200 (by decide) (by decide) (by decide) S3 [f0,f1] ⟨hS3o,by show S3.length≤_;omega,by simp⟩ ns.length hS3l.symm 0 1 M n
      rw [← hdf] at hdf'
      simp only [Nat.zero_add,irows,List.map_cons,List.map_nil,List.length_cons,List.length_nil,Nat.reduceAdd] at hdf'
      have zS:=jj hck'<|jj hpa'<|jj hcl'<|jj hw0<|jj hw0I<|jj hdg2<|jj hdg1<|jj hdg0<|jj hd2<|jj hd1<|jj hd0<|jj hd2I<|jj hd1I<|jj hd0I<|jj he<|jj eqLs<|sameKs
      repeat' (first|(apply aw_seq_k;intro K hK)|(refine eF64 ?_)|(refine aw_cond (b:=_) (by exact rfl) (fun h=>?_) (fun h=>?_)<;>(try simp at h))|(refine eB ?_)|(refine hK _ ?_;clear hK)|(clear hK;refine hK _ ?_;clear hK)|(clear hK;clear hK;refine hK _ ?_;clear hK)|(clear hK;clear hK;clear hK;refine hK _ ?_;clear hK))
      all_goals clear zS
      refine aw_rounds 3 (aw_round ?_)
      have zS:=jj hck'<|jj hpa'<|jj hcl'<|jj hw0<|jj hw0I<|jj hdg2<|jj hdg1<|jj hdg0<|jj hd2<|jj hd1<|jj hd0<|jj hd2I<|jj hd1I<|jj hd0I<|jj he<|jj eqLs<|jj sameKs<|jj hn0<|jj hn1<|jj hn2<|jj hn0I<|jj hn1I<|jj hn2I<|jj hn1S<|jj hn2S<|jj Ra.g<|jj Ra.gE<|jj Ra.l<|jj Ra1<|jj Ra2<|jj Ra3<|jj Ra.l'<|jj Ra.s1<|jj qRa<|jj kRa<|jj tkRa<|jj Rb.g<|jj Rb.gE<|jj Rb.l<|jj Rb1<|jj Rb2<|jj Rb3<|jj Rb.l'<|jj Rb.s1<|jj qRb<|jj kRb<|jj tkRb<|jj Rc.g<|jj Rc.gE<|jj Rc.l<|jj Rc1<|jj Rc2<|jj Rc3<|jj Rc.l'<|jj Rc.s1<|jj tkRc<|hdf'
      repeat' (first|(apply aw_seq_k;intro K hK)|(refine eF64 ?_)|(refine aw_cond (b:=_) (by exact rfl) (fun h=>?_) (fun h=>?_)<;>(try simp at h))|(refine eB ?_)|(refine hK _ ?_;clear hK)|(clear hK;refine hK _ ?_;clear hK)|(clear hK;clear hK;refine hK _ ?_;clear hK)|(clear hK;clear hK;clear hK;refine hK _ ?_;clear hK))
      all_goals clear zS
      have hkl:=@kpF_len [f0,f1] S3
      have tkR:List.take (kpF [f0,f1] S3).length (nrows (dfR [f0,f1] S3))=nrows (kpF [f0,f1] S3):=by
       rw [nrows_take];unfold dfR;rw [List.take_left]
      have hkd:(kpF [f0,f1] S3).length≤(dfR [f0,f1] S3).length:=by rw [dfR_len];exact hkl
      have tkD:List.take ds.length (prows ds)=prows ds:=List.take_of_length_le (by simp)
      refine ⟨by simp,?_⟩
      simp [leaves_iff,Tryz.f55,tkR,hkd,tkD,irows]
      try exact dt
     ·rw [decide_eq_false hzb] at qRb
      rw [if_neg hzb] at cB
      rw [cB] at cA
      rw [cA]
      have hdf':=fun M n=>@callDf 432 480 1200 (by decide) (by decide) (by decide) S2 [f0] ⟨hS2o,by show S2.length≤_;omega,by simp⟩ ns.length hS2l.symm 0 0 M n
      rw [← hdf] at hdf'
      simp only [Nat.zero_add,irows,List.map_cons,List.map_nil,List.length_cons,List.length_nil,Nat.reduceAdd] at hdf'
      have zS:=jj hck'<|jj hpa'<|jj hcl'<|jj hw0<|jj hw0I<|jj hdg2<|jj hdg1<|jj hdg0<|jj hd2<|jj hd1<|jj hd0<|jj hd2I<|jj hd1I<|jj hd0I<|jj he<|jj eqLs<|sameKs
      repeat' (first|(apply aw_seq_k;intro K hK)|(refine eF64 ?_)|(refine aw_cond (b:=_) (by exact rfl) (fun h=>?_) (fun h=>?_)<;>(try simp at h))|(refine eB ?_)|(refine hK _ ?_;clear hK)|(clear hK;refine hK _ ?_;clear hK)|(clear hK;clear hK;refine hK _ ?_;clear hK)|(clear hK;clear hK;clear hK;refine hK _ ?_;clear hK))
      all_goals clear zS
      refine aw_rounds 2 (aw_round ?_)
      have zS:=jj hck'<|jj hpa'<|jj hcl'<|jj hw0<|jj hw0I<|jj hdg2<|jj hdg1<|jj hdg0<|jj hd2<|jj hd1<|jj hd0<|jj hd2I<|jj hd1I<|jj hd0I<|jj he<|jj eqLs<|jj sameKs<|jj hn0<|jj hn1<|jj hn2<|jj hn0I<|jj hn1I<|jj hn2I<|jj hn1S<|jj hn2S<|jj Ra.g<|jj Ra.gE<|jj Ra.l<|jj Ra1<|jj Ra2<|jj Ra3<|jj Ra.l'<|jj Ra.s1<|jj qRa<|jj kRa<|jj tkRa<|jj Rb.g<|jj Rb.gE<|jj Rb.l<|jj Rb1<|jj Rb2<|jj Rb3<|jj Rb.l'<|jj Rb.s1<|jj qRb<|jj kRb<|jj tkRb<|hdf'
      repeat' (first|(apply aw_seq_k;intro K hK)|(refine eF64 ?_)|(refine aw_cond (b:=_) (by exact rfl) (fun h=>?_) (fun h=>?_)<;>(try simp at h))|(refine eB ?_)|(refine hK _ ?_;clear hK)|(clear hK;refine hK _ ?_;clear hK)|(clear hK;clear hK;refine hK _ ?_;clear hK)|(clear hK;clear hK;clear hK;refine hK _ ?_;clear hK))
      all_goals clear zS
      have hkl:=@kpF_len [f0] S2
      have tkR:List.take (kpF [f0] S2).length (nrows (dfR [f0] S2))=nrows (kpF [f0] S2):=by
       rw [nrows_take];unfold dfR;rw [List.take_left]
      have hkd:(kpF [f0] S2).length≤(dfR [f0] S2).length:=by rw [dfR_len];exact hkl
      have tkD:List.take ds.length (prows ds)=prows ds:=List.take_of_length_le (by simp)
      refine ⟨by simp,?_⟩
      simp [leaves_iff,Tryz.f55,tkR,hkd,tkD,irows]
      try exact dt
    ·rw [decide_eq_false hza] at qRa
     rw [if_neg hza] at cA
     rw [cA]
     have hdf':=fun M n=>@callDf0 432 480 (by decide) S1 ⟨hS1o,by show S1.length≤_;omega,by simp⟩ ns.length hS1l.symm 0 M n
     rw [← hdf] at hdf'
     simp only [Nat.zero_add,irows,List.map_cons,List.map_nil,List.length_cons,List.length_nil,Nat.reduceAdd] at hdf'
     have zS:=jj hck'<|jj hpa'<|jj hcl'<|jj hw0<|jj hw0I<|jj hdg2<|jj hdg1<|jj hdg0<|jj hd2<|jj hd1<|jj hd0<|jj hd2I<|jj hd1I<|jj hd0I<|jj he<|jj eqLs<|sameKs
     repeat' (first|(apply aw_seq_k;intro K hK)|(refine eF64 ?_)|(refine aw_cond (b:=_) (by exact rfl) (fun h=>?_) (fun h=>?_)<;>(try simp at h))|(refine eB ?_)|(refine hK _ ?_;clear hK)|(clear hK;refine hK _ ?_;clear hK)|(clear hK;clear hK;refine hK _ ?_;clear hK)|(clear hK;clear hK;clear hK;refine hK _ ?_;clear hK))
     all_goals clear zS
     refine aw_rounds 1 (aw_round ?_)
     have zS:=jj hck'<|jj hpa'<|jj hcl'<|jj hw0<|jj hw0I<|jj hdg2<|jj hdg1<|jj hdg0<|jj hd2<|jj hd1<|jj hd0<|jj hd2I<|jj hd1I<|jj hd0I<|jj he<|jj eqLs<|jj sameKs<|jj hn0<|jj hn1<|jj hn2<|jj hn0I<|jj hn1I<|jj hn2I<|jj hn1S<|jj hn2S<|jj Ra.g<|jj Ra.gE<|jj Ra.l<|jj Ra1<|jj Ra2<|jj Ra3<|jj Ra.l'<|jj Ra.s1<|jj qRa<|jj kRa<|jj tkRa<|hdf'
     repeat' (first|(apply aw_seq_k;intro K hK)|(refine eF64 ?_)|(refine aw_cond (b:=_) (by exact rfl) (fun h=>?_) (fun h=>?_)<;>(try simp at h))|(refine eB ?_)|(refine hK _ ?_;clear hK)|(clear hK;refine hK _ ?_;clear hK)|(clear hK;clear hK;refine hK _ ?_;clear hK)|(clear hK;clear hK;clear hK;refine hK _ ?_;clear hK))
     all_goals clear zS
     have tkR:List.take ns.length (nrows S1)=nrows S1:=List.take_of_length_le (by simp;omega)
     have tkD:List.take ds.length (prows ds)=prows ds:=List.take_of_length_le (by simp)
     refine ⟨by simp,?_⟩
     simp [leaves_iff,Tryz.f55,tkR,kpF_nil,hS1l,tkD,irows]
     try exact dt
  ·have hent:=ent_level hvt hp
   obtain ⟨n2,w2,hn2,hpl⟩:=path_1 hpv hp hlev
   have hA:clrA (r,ns,ds) p=(gp ds (lowD ds ((p/8:Nat):Int))).2::(clrL p ns (ptL (r,ns,ds) p).reverse).2:=by unfold clrA clrF;rw [if_pos hlev];rfl
   have hD:clrD (r,ns,ds) p=delL ds ((p/8:Nat):Int):=by unfold clrD;rw [if_pos hlev]
   rw [hA,hD]
   rw [hpl] at hpa' ⊢
   obtain ⟨⟨n1,l0,w⟩,hS⟩:∃ S,S=lsT (r,ns,ds) p:=⟨_,rfl⟩
   rw [← hS] at hlev hlw hpa' hent ⊢
   simp only at hlev hlw hent
   subst hlev
   clear hS hA hD eS hpl
   simp only [TbV,TbO,TbC,srows,srow,List.map_cons,List.map_nil,U,List.reverse_cons,List.reverse_nil,List.nil_append,List.cons_append,List.length_cons,List.length_nil,Nat.zero_add] at hck' hpa' hcl' ⊢
   rcases Decidable.em (w=0) with hw0|hw0
   ·rw [if_pos hw0]
    subst hw0
    simp only [zT]
    have zS:=jj hck'<|hpa'
    refine dM64 ?_
    repeat (intro K hK)
    clear zS
    all_goals refine ⟨by simp,?_⟩
    all_goals simp [leaves_iff,Tryz.f55,nrows,prows,irows]
    all_goals try exact dt
   ·rw [if_neg hw0]
    have hw0I:¬ (w:Int)=0:=by omega
    have hlo:=(hent hw0).2 rfl
    have hwd':=fun M n=>@callWd 448 432 433 (by decide) (by decide) (by decide) r ns ds ((p/8:Nat):Int) ht hvt.num.dasc hlo 0 0 M n
    rw [← hwd] at hwd'
    simp only [Nat.zero_add] at hwd'
    have hdlen:=delL_len hlo
    have hdle:ds.length - 1≤1000000:=by omega
    obtain ⟨fd,hfd⟩:∃ f,f=(gp ds (lowD ds ((p/8:Nat):Int))).2:=⟨_,rfl⟩
    obtain ⟨DL,hDL⟩:∃ D,D=delL ds ((p/8:Nat):Int):=⟨_,rfl⟩
    rw [← hfd,← hDL] at hwd' ⊢
    rw [← hDL] at hdlen
    obtain ⟨g8,hg8⟩:∃ g:Int,g=((p/8:Nat):Int):=⟨_,rfl⟩
    rw [← hg8] at hdv hwd'
    have hn1:n1<ns.length:=hlw.1
    have hn1I:(n1:Int)<(ns.length:Int):=by omega
    have hn2I:(n2:Int)<(ns.length:Int):=by omega
    obtain ⟨cb,cb',Rb⟩:=rnd (S:=ns) ht.1 (a:=n1) hn1 hd1
    have qRb:=Rb.eq
    have kRb:=Rb.sk
    simp only [z8,z8A] at qRb kRb
    have tkRb:List.take 8 cb'=cb':=List.take_of_length_le (by have:=Rb.l';omega)
    have cB:clrL p ns [(n1,1,w),(n2,2,w2)]=if (gn (setN ns n1 (dgt p 1) 0) n1).2=zs8 then ((clrL p (setN ns n1 (dgt p 1) 0) [(n2,2,w2)]).1,(gn ns n1).1::(clrL p (setN ns n1 (dgt p 1) 0) [(n2,2,w2)]).2) else (setN ns n1 (dgt p 1) 0,[]):=rfl
    obtain ⟨S2,hS2⟩:∃ S,S=setN ns n1 (dgt p 1) 0:=⟨_,rfl⟩
    have hS2o:∀ x∈S2,ndOK x:=by rw [hS2];exact setN_ndok ht.1 hn1
    have hS2l:S2.length=ns.length:=by rw [hS2,setN_len]
    have Rb1:=Rb.st
    have Rb2:=Rb.g'
    have Rb3:=Rb.gE'
    rw [← hS2] at cB qRb Rb1 Rb2 Rb3
    have hn2S:n2<S2.length:=by omega
    obtain ⟨cc,cc',Rc⟩:=rnd (S:=S2) hS2o (a:=n2) hn2S hd2
    have qRc:=Rc.eq
    have kRc:=Rc.sk
    simp only [z8,z8A] at qRc kRc
    have tkRc:List.take 8 cc'=cc':=List.take_of_length_le (by have:=Rc.l';omega)
    have cC:clrL p S2 [(n2,2,w2)]=(setN S2 n2 (dgt p 2) 0,[]):=rfl
    obtain ⟨S3,hS3⟩:∃ S,S=setN S2 n2 (dgt p 2) 0:=⟨_,rfl⟩
    have hS3o:∀ x∈S3,ndOK x:=by rw [hS3];exact setN_ndok hS2o hn2S
    have hS3l:S3.length=ns.length:=by rw [hS3,setN_len];exact hS2l
    have Rc1:=Rc.st
    have Rc2:=Rc.g'
    have Rc3:=Rc.gE'
    rw [← hS3] at cC qRc Rc1 Rc2 Rc3
    clear hS2 hS3
    obtain ⟨f1,hf1⟩:∃ f,f=(gn ns n1).1:=⟨_,rfl⟩
    rw [← hf1] at cB Rb Rb2 Rb3 Rb1
    rcases Decidable.em ((gn S2 n1).2=zs8) with hzb|hzb
    ·rw [decide_eq_true hzb] at qRb
     rw [if_pos hzb,cC] at cB
     rw [cB]
     have hdf':=fun M n=>@callDf 432 480 624 (by decide) (by decide) (by decide) S3 [fd,f1] ⟨hS3o,by show S3.length≤_;omega,by simp⟩ ns.length hS3l.symm 0 1 M n
     rw [← hdf] at hdf'
     simp only [Nat.zero_add,irows,List.map_cons,List.map_nil,List.length_cons,List.length_nil,Nat.reduceAdd] at hdf'
     have zS:=jj hck'<|jj hpa'<|jj hcl'<|jj hw0<|jj hw0I<|jj hdg2<|jj hdg1<|jj hdg0<|jj hd2<|jj hd1<|jj hd0<|jj hd2I<|jj hd1I<|jj hd0I<|jj he<|jj eqLs<|jj sameKs<|jj hwd'<|hdv
     repeat' (first|(apply aw_seq_k;intro K hK)|(refine eF64 ?_)|(refine aw_cond (b:=_) (by exact rfl) (fun h=>?_) (fun h=>?_)<;>(try simp at h))|(refine eB ?_)|(refine hK _ ?_;clear hK)|(clear hK;refine hK _ ?_;clear hK)|(clear hK;clear hK;refine hK _ ?_;clear hK)|(clear hK;clear hK;clear hK;refine hK _ ?_;clear hK))
     all_goals clear zS
     refine aw_rounds 2 (aw_round ?_)
     have zS:=jj hck'<|jj hpa'<|jj hcl'<|jj hw0<|jj hw0I<|jj hdg2<|jj hdg1<|jj hdg0<|jj hd2<|jj hd1<|jj hd0<|jj hd2I<|jj hd1I<|jj hd0I<|jj he<|jj eqLs<|jj sameKs<|jj hwd'<|jj hdv<|jj hn1<|jj hn2<|jj hn1I<|jj hn2I<|jj hn2S<|jj Rb.g<|jj Rb.gE<|jj Rb.l<|jj Rb1<|jj Rb2<|jj Rb3<|jj Rb.l'<|jj Rb.s1<|jj qRb<|jj kRb<|jj tkRb<|jj Rc.g<|jj Rc.gE<|jj Rc.l<|jj Rc1<|jj Rc2<|jj Rc3<|jj Rc.l'<|jj Rc.s1<|jj tkRc<|hdf'
     repeat' (first|(apply aw_seq_k;intro K hK)|(refine eF64 ?_)|(refine aw_cond (b:=_) (by exact rfl) (fun h=>?_) (fun h=>?_)<;>(try simp at h))|(refine eB ?_)|(refine hK _ ?_;clear hK)|(clear hK;refine hK _ ?_;clear hK)|(clear hK;clear hK;refine hK _ ?_;clear hK)|(clear hK;clear hK;clear hK;refine hK _ ?_;clear hK))
     all_goals clear zS
     have hkl:=@kpF_len [fd,f1] S3
     have tkR:List.take (kpF [fd,f1] S3).length (nrows (dfR [fd,f1] S3))=nrows (kpF [fd,f1] S3):=by
      rw [nrows_take];unfold dfR;rw [List.take_left]
     have hkd:(kpF [fd,f1] S3).length≤(dfR [fd,f1] S3).length:=by rw [dfR_len];exact hkl
     have tkD:List.take (ds.length - 1) (prows DL)=prows DL:=List.take_of_length_le (by simp;omega)
     refine ⟨by simp,?_⟩
     simp [leaves_iff,Tryz.f55,tkR,hkd,tkD,hdlen,irows]
     try exact dt
    ·rw [decide_eq_false hzb] at qRb
     rw [if_neg hzb] at cB
     rw [cB]
     have hdf':=fun M n=>@callDf 432 480 624 (by decide) (by decide) (by decide) S2 [fd] ⟨hS2o,by show S2.length≤_;omega,by simp⟩ ns.length hS2l.symm 0 0 M n
     rw [← hdf] at hdf'
     simp only [Nat.zero_add,irows,List.map_cons,List.map_nil,List.length_cons,List.length_nil,Nat.reduceAdd] at hdf'
     have zS:=jj hck'<|jj hpa'<|jj hcl'<|jj hw0<|jj hw0I<|jj hdg2<|jj hdg1<|jj hdg0<|jj hd2<|jj hd1<|jj hd0<|jj hd2I<|jj hd1I<|jj hd0I<|jj he<|jj eqLs<|jj sameKs<|jj hwd'<|hdv
     repeat' (first|(apply aw_seq_k;intro K hK)|(refine eF64 ?_)|(refine aw_cond (b:=_) (by exact rfl) (fun h=>?_) (fun h=>?_)<;>(try simp at h))|(refine eB ?_)|(refine hK _ ?_;clear hK)|(clear hK;refine hK _ ?_;clear hK)|(clear hK;clear hK;refine hK _ ?_;clear hK)|(clear hK;clear hK;clear hK;refine hK _ ?_;clear hK))
     all_goals clear zS
     refine aw_rounds 1 (aw_round ?_)
     have zS:=jj hck'<|jj hpa'<|jj hcl'<|jj hw0<|jj hw0I<|jj hdg2<|jj hdg1<|jj hdg0<|jj hd2<|jj hd1<|jj hd0<|jj hd2I<|jj hd1I<|jj hd0I<|jj he<|jj eqLs<|jj sameKs<|jj hwd'<|jj hdv<|jj hn1<|jj hn2<|jj hn1I<|jj hn2I<|jj hn2S<|jj Rb.g<|jj Rb.gE<|jj Rb.l<|jj Rb1<|jj Rb2<|jj Rb3<|jj Rb.l'<|jj Rb.s1<|jj qRb<|jj kRb<|jj tkRb<|hdf'
     repeat' (first|(apply aw_seq_k;intro K hK)|(refine eF64 ?_)|(refine aw_cond (b:=_) (by exact rfl) (fun h=>?_) (fun h=>?_)<;>(try simp at h))|(refine eB ?_)|(refine hK _ ?_;clear hK)|(clear hK;refine hK _ ?_;clear hK)|(clear hK;clear hK;refine hK _ ?_;clear hK)|(clear hK;clear hK;clear hK;refine hK _ ?_;clear hK))
     all_goals clear zS
     have hkl:=@kpF_len [fd] S2
     have tkR:List.take (kpF [fd] S2).length (nrows (dfR [fd] S2))=nrows (kpF [fd] S2):=by
      rw [nrows_take];unfold dfR;rw [List.take_left]
     have hkd:(kpF [fd] S2).length≤(dfR [fd] S2).length:=by rw [dfR_len];exact hkl
     have tkD:List.take (ds.length - 1) (prows DL)=prows DL:=List.take_of_length_le (by simp;omega)
     refine ⟨by simp,?_⟩
     simp [leaves_iff,Tryz.f55,tkR,hkd,tkD,hdlen,irows]
     try exact dt
  ·have hent:=ent_level hvt hp
   have hpl:=path_2 hpv hp hlev
   rw [hpl] at hpa' ⊢
   obtain ⟨⟨n2,l0,w⟩,hS⟩:∃ S,S=lsT (r,ns,ds) p:=⟨_,rfl⟩
   rw [← hS] at hlev hpa' hent ⊢
   simp only at hlev hent
   subst hlev
   have hw0:w=0:=Decidable.byContradiction fun h=>(hent h).1 rfl
   subst hw0
   rw [if_pos rfl]
   clear hS eS hpl
   simp only [TbV,TbO,zT,srows,srow,List.map_cons,List.map_nil,U,List.length_cons,List.length_nil,Nat.zero_add] at hck' hpa' ⊢
   have zS:=jj hck'<|hpa'
   refine dM64 ?_
   repeat (intro K hK)
   clear zS
   all_goals refine ⟨by simp,?_⟩
   all_goals simp [leaves_iff,Tryz.f55,nrows,prows,irows]
   all_goals try exact dt
end Go.AM
namespace Go.AM
open Go Go.Proofs
def numC (t:Tb):Bool :=
 decide (∀ n∈t.2.1,frmN n.1)&&(decide (∀ d∈t.2.2,frmN d.2∧0≤d.1∧d.1<64)&&(decide (t.2.1.Pairwise fun a b=>a.1<b.1)&&(decide (t.2.2.Pairwise fun a b=>a.1<b.1) &&
 (decide (∀ d∈t.2.2,∀ n∈t.2.1,n.1≠d.2)&&(decide (t.2.2.Pairwise fun a b=>a.2≠b.2)&&decide (∃ n∈t.2.1,n.1=t.1))))))
theorem numC_ok {t:Tb} (h:numC t=true):NumOK t:=by
 simp only [numC,Bool.and_eq_true,decide_eq_true_eq] at h
 obtain ⟨h1,h2,h3,h4,h5,h6,h7⟩:=h
 exact ⟨h1,h2,h3,h4,h5,h6,h7⟩
def chkC (t:Tb):Bool:=numC t&&decide ((wkA t).1=true∧false ∉ (wkA t).2.1∧(wkA t).2.2=t.2.2.map (·.1))
theorem chkC_ok {t:Tb} (h:chkC t=true):chk t=0:=by
 simp only [chkC,Bool.and_eq_true,decide_eq_true_eq] at h
 unfold chk
 rw [if_neg (by simp [numOK_iff.2 (numC_ok h.1)]),if_pos h.2]
def setC (t:Tb) (p w:Nat) (fs:List Int):Tb×Int :=
 if (decR w).2≠0∨(decR w).1.1=0∨(decR w).1.1=4∨(decR w).1.2.2.2.2.2=true then (zT,3)
 else if (lsT t p).2.2≠0 then (zT,7)
 else if fs.length=(lsT t p).2.1∧usB t.2.1 t.2.2 fs=true then (putT (t.1,dpN t.1 t.2.2 p t.2.1 fs,t.2.2) p w,0)
 else (zT,1)
theorem setC_ok {t:Tb} {p w:Nat} {fs:List Int} (h:chkC t=true) (hp:p<512):setP t p w fs=setC t p w fs:=by
 unfold setP
 rw [if_neg (by rw [ckd_z (chkC_ok h) (by omega) (by omega)];decide),Int.toNat_natCast]
 rfl
def setHC (t:Tb) (g w:Nat) (fs:List Int):Tb×Int :=
 if (decR w).2≠0∨(decR w).1.2.2.2.2.2=false then (zT,3)
 else if (lsT t (g*8)).2.1=0∨(lsT t (g*8)).2.2≠0 then (zT,7)
 else if fs.length=(lsT t (g*8)).2.1∧usB t.2.1 t.2.2 fs=true then
  ((t.1,(putT (t.1,dpN t.1 t.2.2 (g*8) t.2.1 (fs.take (fs.length - 1)),t.2.2) (g*8) w).2.1,insL t.2.2 g (gi fs (fs.length - 1))),0)
 else (zT,1)
theorem setHC_ok {t:Tb} {g w:Nat} {fs:List Int} (h:chkC t=true) (hg:g<64):setH t g w fs=setHC t g w fs:=by
 unfold setH
 rw [if_neg (by rw [ckd_z (chkC_ok h) (by omega) (by omega)];decide),Int.toNat_natCast]
 rfl
def splC (t:Tb) (g:Nat):Tb×Int:=if (lsT t (g*8)).2.1=1∧(decR (lsT t (g*8)).2.2).1.2.2.2.2.2=true then (splN t g (lsT t (g*8)).2.2,0) else (zT,6)
theorem splC_ok {t:Tb} {g:Nat} (h:chkC t=true) (hg:g<64):splP t g=splC t g:=by
 unfold splP
 rw [if_neg (by rw [ckd_z (chkC_ok h) (by omega) (by omega)];decide),Int.toNat_natCast]
 rfl
def clrC (t:Tb) (p:Nat):Tb×Nat×List Int×Int:=if (lsT t p).2.2=0 then (zT,0,[],6) else ((t.1,kpF (clrA t p) (clrL p t.2.1 (ptL t p).reverse).1,clrD t p),(lsT t p).2.2,clrA t p,0)
theorem clrC_ok {t:Tb} {p:Nat} (h:chkC t=true) (hp:p<512):clrP t p=clrC t p:=by
 unfold clrP
 rw [if_neg (by rw [ckd_z (chkC_ok h) (by omega) (by omega)];decide),Int.toNat_natCast]
 rfl
theorem walkC_ok {t:Tb} {p:Nat} (h:chkC t=true) (hp:p<512):walkT t p=((lsT t p).2.2,(lsT t p).2.1,0):=by
 rw [walkT_z (ckd_z (chkC_ok h) (by omega) (by omega)),Int.toNat_natCast]
theorem frmC_ok {t:Tb} (h:chkC t=true):frmT t=framesT t:=by unfold frmT;rw [if_pos (chkC_ok h)]
theorem lstC_ok {t:Tb} (h:chkC t=true):lstT t=lsA t 512:=by unfold lstT;rw [if_pos (chkC_ok h)]
def aT:Tb:=(10,[(10,zs8)],[])
def bT:Tb:=(10,[(10,[0,2820,0,0,0,0,0,0]),(11,[3076,0,0,0,0,0,0,0]),(12,[0,0,0,0,0,0,1305,0])],[])
def hT:Tb:=(10,[(10,[0,2820,0,0,0,0,0,0]),(11,[0,4201,0,0,0,0,0,0])],[(9,12)])
def sT:Tb:=(10,[(10,[0,2820,0,0,0,0,0,0]),(11,[0,3076,0,0,0,0,0,0]),(12,[spW 4201 0,spW 4201 1,spW 4201 2,spW 4201 3,spW 4201 4,spW 4201 5,spW 4201 6,spW 4201 7])],[])
theorem aC:chkC aT=true:=by kernel_rfl
theorem bC:chkC bT=true:=by kernel_rfl
theorem setA:setP aT 70 1305 [11,12]=(bT,0):=(setC_ok (p:=70) aC (by decide)).trans (by kernel_rfl)
theorem clrB':clrP bT 70=(aT,1305,[12,11],0):=(clrC_ok (p:=70) bC (by decide)).trans (by kernel_rfl)
theorem walkB:walkT bT 70=(1305,0,0):=(walkC_ok (p:=70) bC (by decide)).trans (by kernel_rfl)
theorem walkB':walkT bT 80=(0,1,0):=(walkC_ok (p:=80) bC (by decide)).trans (by kernel_rfl)
theorem hC:chkC hT=true:=by kernel_rfl
theorem sC:chkC sT=true:=by kernel_rfl
theorem missA:missT aT 70=(2,0):=by
 rw [show (70:Int)=((70:Nat):Int) from rfl,missT_z (ckd_z (chkC_ok aC) (by decide) (by decide)),Int.toNat_natCast]
 kernel_rfl
theorem setHA:setH aT 9 4201 [11,12]=(hT,0):=(setHC_ok (g:=9) aC (by decide)).trans (by kernel_rfl)
theorem splH:splP hT 9=(sT,0):=(splC_ok (g:=9) hC (by decide)).trans (by kernel_rfl)
theorem walkS:walkT sT 75=(4905,0,0):=(walkC_ok (p:=75) sC (by decide)).trans (by kernel_rfl)
theorem hugeH:hugeT hT 9=true:=by
 unfold hugeT
 rw [if_pos (ckd_z (chkC_ok hC) (by decide) (by decide))]
 kernel_rfl
theorem hugeS:hugeT sT 9=false:=by
 unfold hugeT
 rw [if_pos (ckd_z (chkC_ok sC) (by decide) (by decide))]
 kernel_rfl
theorem frmH:frmT hT=[10,11,12]:=by
 rw [frmC_ok hC]
 exact sorted_perm (sortL_sorted _) (by decide) ((sortL_perm _).trans (by decide))
theorem lstH:lstT hT=[(72,4201)]:=(lstC_ok hC).trans (by kernel_rfl)
theorem newA:newT 10=(aT,0):=by kernel_rfl
end Go.AM
namespace Go.AM
open Go Go.Proofs
noncomputable def repP (t:Tb) (p:Int) (w:Nat):Tb×Nat×Int :=
 if ckd t p 512≠0 then (zT,0,ckd t p 512)
 else if (lsT t p.toNat).2.2=0 then (zT,0,6)
 else if (decR w).2≠0∨(decR w).1.1=0∨(decR w).1.1=4∨suitB (decR w).1 (lsT t p.toNat).2.1=false then (zT,0,3)
 else (putT t p.toNat w,(lsT t p.toNat).2.2,0)
set_option maxHeartbeats 8000000 in
theorem s61 (X:AX) (hX:XOK Tryz.prog X) (hw:X.W wT) (hck:∀ t:Tb,tbOK t→∀ (n lim:Int) M k,X.call 109 [TbV t,I n,I lim] M k=some (I (ckd t n lim),[]))
  (hla:∀ (t:Tb) (p:Nat),ptO t p→∀ M n,X.call 110 [TbV t,I p] M n=some (stV (lsT t p),[]))
  (hdc:∀ n:Nat,n<2^64→∀ M k,X.call 56 [U n] M k=some (.tup [EnV (decR n).1,I (decR n).2],[]))
  (hsu:∀ (e:En) (l:Nat) M n,X.call 117 [EnV e,I l] M n=some (B (suitB e l),[]))
  (hcl:∀ t:Tb,tbOK t→∀ M n,X.call 128 [TbV t] M n=some (TbC t n,[(n,.vec 1 9 false (nrows t.2.1)),(n+1,.vec 1 2 false (prows t.2.2))]))
  (hpu:X.call 130=callG puS) :
  PSound Tryz.prog 61 (specF (ι:={x:Tb×Int×Nat // tbOK x.1∧x.2.2<2^64}) (fun x=>[TbV x.1.1,I x.1.2.1,U x.1.2.2]) fun x=>retOf [TbO (repP x.1.1 x.1.2.1 x.1.2.2).1,U (repP x.1.1 x.1.2.1 x.1.2.2).2.1,I (repP x.1.1 x.1.2.1 x.1.2.2).2.2]):=by
 refine psound_spec hX mixed Tryz.func61 rfl fun ⟨⟨⟨r,ns,ds⟩,pI,w⟩,ht,hw64⟩ w0 G=>⟨by show 3≤61;decide,rfl,?_⟩
 show AW ⟨Tryz.prog,X,61,w0,.pure G⟩ _ _ _
 have hc:Cx.OK ⟨Tryz.prog,X,61,w0,.pure G⟩:=⟨hX,mixed⟩
 simp only at hw64 ht ⊢
 have hck':=hck _ ht pI 512
 have hl1:ns.length≤1000000:=ht.2.1
 have hl2:ds.length≤1000000:=ht.2.2
 rcases Decidable.em (ckd (r,ns,ds) pI 512≠0) with hk|hk
 ·have e:repP (r,ns,ds) pI w=(zT,0,ckd (r,ns,ds) pI 512):=by unfold repP;rw [if_pos hk]
  rw [e]
  obtain ⟨c,hc0⟩:∃ c,c=ckd (r,ns,ds) pI 512:=⟨_,rfl⟩
  rw [← hc0] at hck' hk ⊢
  simp only [TbV,TbO,zT,U] at hck' ⊢
  have zS:=jj hck'<|hk
  refine dM64 ?_
  repeat (intro K hK)
  clear zS
  refine ⟨by simp,?_⟩
  simp [leaves_iff,Tryz.f61,nrows,prows]
  try exact dt
 ·obtain ⟨hpv,hp0,hp1⟩:=ckd_pt ht hk
  obtain ⟨p,rfl⟩:=Int.eq_ofNat_of_zero_le hp0
  have hp:p<512:=by omega
  have hz:ckd (r,ns,ds) p 512=0:=by omega
  rw [hz] at hck'
  have hdc':=hdc w hw64
  have hla':=hla _ _ (hpv.pto ht hp)
  have hcl':=hcl _ ht
  have hpu':=fun a b c hab hac hbc M n=>@callPu a b c hab hac hbc r ns ds p w (hpv.pto ht hp) hw64 0 0 M n
  rw [← hpu] at hpu'
  have hPl:(putT (r,ns,ds) p w).2.1.length=ns.length:=setN_len
  have hP0:putT (r,ns,ds) p w=(r,(putT (r,ns,ds) p w).2.1,ds):=rfl
  have eS:repP (r,ns,ds) p w=if (lsT (r,ns,ds) p).2.2=0 then (zT,0,6) else if (decR w).2≠0∨(decR w).1.1=0∨(decR w).1.1=4∨suitB (decR w).1 (lsT (r,ns,ds) p).2.1=false then (zT,0,3) else (putT (r,ns,ds) p w,(lsT (r,ns,ds) p).2.2,0):=by
   unfold repP
   rw [if_neg hk,Int.toNat_natCast]
  rw [eS,hP0]
  obtain ⟨R,hR⟩:∃ R,R=(putT (r,ns,ds) p w).2.1:=⟨_,rfl⟩
  rw [← hR] at hPl hpu' ⊢
  clear hR hP0 eS
  obtain ⟨⟨a0,l0,w0'⟩,hS⟩:∃ S,S=lsT (r,ns,ds) p:=⟨_,rfl⟩
  rw [← hS] at hla' ⊢
  have hsu':=hsu (decR w).1 l0
  obtain ⟨⟨⟨k,f,d,a,x,h⟩,e⟩,hE⟩:∃ r,r=decR w:=⟨_,rfl⟩
  rw [← hE] at hdc' hsu' ⊢
  simp only at hsu' ⊢
  obtain ⟨su,hsu0⟩:∃ b,b=suitB (k,f,d,a,x,h) l0:=⟨_,rfl⟩
  rw [← hsu0] at hsu' ⊢
  clear hS hE hsu0 hck hla hdc hsu
  simp only [TbV,TbO,TbC,EnV,stV,srow,U,Nat.zero_add] at hck' hla' hdc' hcl' hsu' hpu' ⊢
  rcases Decidable.em (w0'=0) with hw0|hw0
  ·subst hw0
   rw [if_pos rfl]
   simp only [zT]
   have zS:=jj hck'<|hla'
   refine dM64 ?_
   repeat (intro K hK)
   clear zS
   all_goals refine ⟨by simp,?_⟩
   all_goals simp [leaves_iff,Tryz.f61,nrows,prows]
   all_goals try exact dt
  ·rw [if_neg hw0]
   have hw0I:¬ (w0':Int)=0:=by omega
   rcases Decidable.em (e=0) with he|he
   ·subst he
    rcases Decidable.em (k=0) with hk1|hk1
    ·subst hk1
     rw [if_pos (by simp)]
     simp only [zT]
     have zS:=jj hck'<|jj hla'<|jj hdc'<|jj hw0<|hw0I
     refine dM64 ?_
     repeat (intro K hK)
     clear zS
     all_goals refine ⟨by simp,?_⟩
     all_goals simp [leaves_iff,Tryz.f61,nrows,prows]
     all_goals try exact dt
    ·rcases Decidable.em (k=4) with hk2|hk2
     ·subst hk2
      rw [if_pos (by simp)]
      simp only [zT]
      have zS:=jj hck'<|jj hla'<|jj hdc'<|jj hw0<|hw0I
      refine dM64 ?_
      repeat (intro K hK)
      clear zS
      all_goals refine ⟨by simp,?_⟩
      all_goals simp [leaves_iff,Tryz.f61,nrows,prows]
      all_goals try exact dt
     ·cases su with
      | false =>
       rw [if_pos (by simp)]
       simp only [zT]
       have zS:=jj hck'<|jj hla'<|jj hdc'<|jj hw0<|jj hw0I<|jj hk1<|jj hk2<|hsu'
       refine dM64 ?_
       repeat (intro K hK)
       clear zS
       all_goals refine ⟨by simp,?_⟩
       all_goals simp [leaves_iff,Tryz.f61,nrows,prows]
       all_goals try exact dt
      | true =>
       rw [if_neg (by simp [hk1,hk2])]
       have hpq:=hpu' 752 736 737 (by decide) (by decide) (by decide)
       have zS:=jj hck'<|jj hla'<|jj hdc'<|jj hw0<|jj hw0I<|jj hk1<|jj hk2<|jj hsu'<|jj hcl'<|hpq
       refine dF64 ?_
       repeat (intro K hK)
       clear zS
       have tkR:List.take ns.length (nrows R)=nrows R:=List.take_of_length_le (by simp;omega)
       have tkd:List.take ds.length (prows ds)=prows ds:=List.take_of_length_le (by simp)
       refine ⟨by simp,?_⟩
       simp [leaves_iff,Tryz.f61,hPl,tkR,tkd]
       try exact dt
   ·rw [if_pos (by simp [he])]
    simp only [zT]
    have zS:=jj hck'<|jj hla'<|jj hdc'<|jj hw0<|jj hw0I<|he
    refine dM64 ?_
    repeat (intro K hK)
    clear zS
    all_goals refine ⟨by simp,?_⟩
    all_goals simp [leaves_iff,Tryz.f61,nrows,prows]
    all_goals try exact dt
end Go.AM
namespace Go.AM
open Go Go.Proofs
def OwT (M:Nat→AO) (t:Tb) (a va b vb:Nat):Prop:=(∃ f,M a=.vec va 9 f (nrows t.2.1))∧∃ f,M b=.vec vb 2 f (prows t.2.2)
def TbS (t:Tb) (a va b vb:Nat):AV:=.agg [I t.1,.sl a va 9 0 t.2.1.length,.sl b vb 2 0 t.2.2.length]
theorem peek_tab {M:Nat→AO} {t:Tb} {a va b vb:Nat} {rest rs:List AV} (h:OwT M t a va b vb) (hr:peekVals M rest=some rs):peekVals M (TbS t a va b vb::rest)=some (TbV t::rs):=by
 obtain ⟨⟨f1,h1⟩,f2,h2⟩:=h
 have e1:List.take t.2.1.length (nrows t.2.1)=nrows t.2.1:=List.take_of_length_le (by simp)
 have e2:List.take t.2.2.length (prows t.2.2)=prows t.2.2:=List.take_of_length_le (by simp)
 simp [TbS,TbV,hr,h1,h2,e1,e2]
end Go.AM
namespace Go.AM
open Go Go.Proofs
theorem dec_huge0:(decR 0).1.2.2.2.2.2=false:=rfl
theorem last_kind {r:Int} {ns:NdL} {ds:List Dp} (hv:Vt (r,ns,ds)) {p:Nat} (hp:p<512):∃ f l w,wlk (Mof ns) r p=(f,l,w)∧(lsT (r,ns,ds) p).2=(l,w)∧l≤2∧(decR w).2=0∧(l=2→w=0)∧(l=1→(w≠0↔(decR w).1.2.2.2.2.2=true))∧(l=0→(decR w).1.2.2.2.2.2=false):=by
 have hpv:=hv.pv
 obtain ⟨f,l,w,hw⟩:∃ f l w,wlk (Mof ns) r p=(f,l,w):=⟨_,_,_,rfl⟩
 have h1:=(hpv.walk hp).2.2
 simp only at h1
 rw [hw] at h1
 obtain ⟨a1,a2,a3,a4,a5,a6⟩:=wlk_at hpv.vm hp hw
 have hk0:=kind0 a6
 have h4:(decR w).1.1≠4:=decR_tab.1 a5
 have a7:=a6
 unfold okWb at a7
 simp only [Bool.and_eq_true,decide_eq_true_eq] at a7
 obtain ⟨hd0,a7⟩:=a7
 unfold suitB at a7
 refine ⟨f,l,w,hw,h1,a1,hd0,fun e=>?_,fun e=>⟨fun h0=>?_,fun hh h0=>?_⟩,fun e=>?_⟩
 ·subst e
  by_cases h0:(decR w).1.1=0
  ·exact hk0.1 h0
  ·rw [if_neg h0,if_neg h4] at a7
   simp at a7
 ·subst e
  rw [if_neg (fun h=>h0 (hk0.1 h)),if_neg h4] at a7
  by_cases hk1:(decR w).1.1=1
  ·rw [if_pos hk1] at a7;simpa using a7
  ·rw [if_neg hk1] at a7;simp at a7
 ·subst h0;rw [dec_huge0] at hh;simp at hh
 ·subst e
  cases hh:(decR w).1.2.2.2.2.2 with
  | false=>rfl
  | true =>
   have hk1:=kind_huge hd0 hh
   rw [if_neg (by rw [hk1];decide),if_neg h4,if_pos hk1,hh] at a7
   simp at a7
theorem miss_eq {t:Tb} (ht:tbOK t) (n:Int):missT t n=missR t n:=by
 obtain ⟨r,ns,ds⟩:=t
 by_cases hk:ckd (r,ns,ds) n 512=0
 ·have hv:=ckd_vt ht (fun h=>h hk)
  obtain ⟨_,h0,h1⟩:=ckd_pt ht (fun h=>h hk)
  obtain ⟨p,rfl⟩:=Int.eq_ofNat_of_zero_le h0
  obtain ⟨f,l,w,_,hl,hl2,_,k2,k1,k0⟩:=last_kind hv (p:=p) (by omega)
  rw [missT_z hk]
  unfold missR
  rw [walkT_z hk,Int.toNat_natCast]
  simp only [hl,if_true]
  rcases (by omega:l=0∨l=1∨l=2) with rfl|rfl|rfl
  ·simp
  ·by_cases hw0:w=0
   ·subst hw0
    rw [if_neg (by rw [dec_huge0];simp),if_neg (by simp)]
   ·rw [if_pos ⟨rfl,(k1 rfl).1 hw0⟩,if_pos ⟨by decide,hw0⟩]
  ·have:=k2 rfl
   subst this
   simp
 ·rw [missT_n hk]
  unfold missR
  rw [walkT_n hk]
  simp only
  rw [if_neg hk]
theorem hugW_huge {w:Nat} (h:(decR w).2=0):hugW w=(decR w).1.2.2.2.2.2:=by
 unfold hugW
 cases hh:(decR w).1.2.2.2.2.2 with
 | false=>simp
 | true=>rw [kind_huge h hh];rfl
theorem hugB_last {r:Int} {ns:NdL} {ds:List Dp} (hv:Vt (r,ns,ds)) {g:Nat} (hg:g<64):hugB (Mof ns) r g=(decR (lsT (r,ns,ds) (g*8)).2.2).1.2.2.2.2.2:=by
 have hp:g*8<512:=by omega
 obtain ⟨f,l,w,hw,hl,hl2,hd0,k2,k1,k0⟩:=last_kind hv hp
 obtain ⟨a1,a2,a3,a4,a5,a6⟩:=wlk_at hv.pv.vm hp hw
 rw [hl]
 simp only at a3 a4 ⊢
 have e8:g*8/64=g/8:=by omega
 rcases (by omega:l=0∨l=1∨l=2) with rfl|rfl|rfl
 ·rw [k0 rfl]
  have e1:g*8/8^(0+1)=g:=by simp
  rw [e1] at a3
  cases hb:hugB (Mof ns) r g with
  | false=>rfl
  | true =>
   obtain ⟨f1,hf1,hh⟩:=hugB_iff.1 hb
   simp only [Nat.sub_zero,frP] at a3 hf1
   rw [hf1] at a3
   simp only [Option.bind_some] at a3
   have hnt:=(WD_ok fun _=>true).notab _ hh
   rw [hnt] at a3
   simp at a3
 ·have e1:g*8/8^(1+1)=g/8:=by simp;omega
  have e2:dgt (g*8) 1=g%8:=by rw [dgt1];omega
  rw [e1] at a3
  rw [e2] at a4
  unfold hugB
  rw [show frP WA (Mof ns) r 1 (g/8)=some f from a3]
  simp only
  rw [← a4,hugW_huge hd0]
 ·have:=k2 rfl
  subst this
  rw [dec_huge0]
  have e2:dgt (g*8) 2=g/8:=by rw [dgt2 hp];exact e8
  cases hb:hugB (Mof ns) r g with
  | false=>rfl
  | true =>
   obtain ⟨f1,hf1,hh⟩:=hugB_iff.1 hb
   simp only [frP,Option.bind_some] at hf1 a3
   rw [show g/8%8=g/8 by omega] at hf1
   simp only [Nat.sub_self,frP,Option.some.injEq] at a3
   subst a3
   rw [e2] at a4
   rw [← a4] at hf1
   rw [show WA.tab 0=none from tab0] at hf1
   simp at hf1
theorem huge_eq {t:Tb} (ht:tbOK t) (g:Int):hugeT t g=hugeR t g:=by
 obtain ⟨r,ns,ds⟩:=t
 unfold hugeT hugeR
 by_cases hk:ckd (r,ns,ds) g 64=0
 ·have hv:=ckd_vt ht (fun h=>h hk)
  obtain ⟨_,h0,h1⟩:=ckd_pt ht (fun h=>h hk)
  obtain ⟨k,rfl⟩:=Int.eq_ofNat_of_zero_le h0
  have hk64:k<64:=by omega
  rw [if_pos hk,Int.toNat_natCast,← hugB_last hv hk64]
  have hc:=(chk_iff ht).2 hv
  rw [Bool.eq_iff_iff,decide_eq_true_iff]
  have hd:=hv.dep
  simp only at hd
  have hm:0≤fstG (fun n:Dp=>decide (n.1=(k:Int))) ds↔(k:Int)∈ds.map (·.1):=by
   rw [fstG_pos]
   constructor
   ·rintro ⟨j,hj,e⟩
    exact List.mem_map.2 ⟨_,List.getElem_mem hj,by simpa using e⟩
   ·intro h
    obtain ⟨d,hd,e⟩:=List.mem_map.1 h
    obtain ⟨j,hj,rfl⟩:=List.getElem_of_mem hd
    exact ⟨j,hj,by simpa using e⟩
  constructor
  ·intro h
   exact ⟨hc,h0,h1,hm.2 (by rw [hd];exact mem_hugM.2 ⟨k,hk64,rfl,h⟩)⟩
  ·rintro ⟨_,_,_,h⟩
   have:=hm.1 h
   rw [hd] at this
   obtain ⟨k',_,e,hb⟩:=mem_hugM.1 this
   obtain rfl:k=k':=by omega
   exact hb
 ·rw [if_neg hk]
  symm
  refine decide_eq_false ?_
  rintro ⟨h1,h2,h3,_⟩
  exact hk (ckd_z h1 h2 h3)
end Go.AM
namespace Go.AM
open Go Go.Proofs
def outT (t:Tb) (n:Nat):List (Nat×AO):=[(n,.vec 1 9 false (nrows t.2.1)),(n+1,.vec 1 2 false (prows t.2.2))]
structure Exa (X:AX):Prop where
 ok:XOK Tryz.prog X
 w:X.W wT
 new:∀ M n,X.call 49 [I 10] M n=some (.tup [TbC aT n,I 0],outT aT n)
 mis:∀ (a va b vb:Nat) (f1 f2:Bool) (M:Nat→AO) (n:Nat),M a=.vec va 9 f1 (nrows aT.2.1)→M b=.vec vb 2 f2 (prows aT.2.2)→X.call 37 [TbS aT a va b vb,I 70] M n=some (.tup [I 2,I 0],[])
 set:∀ (a va b vb c vc:Nat) (f1 f2 f3:Bool) (M:Nat→AO) (n:Nat),M a=.vec va 9 f1 (nrows aT.2.1)→M b=.vec vb 2 f2 (prows aT.2.2)→M c=.vec vc 1 f3 [[I 11],[I 12]]→X.call 51 [TbS aT a va b vb,I 70,U 1305,.sl c vc 1 0 2] M n=some (.tup [TbC bT n,I 0],outT bT n)
 sam1:∀ (a0 va0 b0 vb0:Nat) (fa0 fb0:Bool) (c vc:Nat) (fc:Bool) (M:Nat→AO) (n:Nat),M a0=.vec va0 9 fa0 (nrows bT.2.1)→M b0=.vec vb0 2 fb0 (prows bT.2.2)→M c=.vec vc 9 fc [[I 10,.v (.int .u64 0),.v (.int .u64 2820),.v (.int .u64 0),.v (.int .u64 0),.v (.int .u64 0),.v (.int .u64 0),.v (.int .u64 0),.v (.int .u64 0)],[I 11,.v (.int .u64 3076),.v (.int .u64 0),.v (.int .u64 0),.v (.int .u64 0),.v (.int .u64 0),.v (.int .u64 0),.v (.int .u64 0),.v (.int .u64 0)],[I 12,.v (.int .u64 0),.v (.int .u64 0),.v (.int .u64 0),.v (.int .u64 0),.v (.int .u64 0),.v (.int .u64 0),.v (.int .u64 1305),.v (.int .u64 0)]]→X.call 31 [TbS bT a0 va0 b0 vb0,.agg [I 10,.sl c vc 9 0 3,.v (.slice none 0 0)]] M n=some (B true,[])
 chk:∀ (a0 va0 b0 vb0:Nat) (fa0 fb0:Bool) (M:Nat→AO) (n:Nat),M a0=.vec va0 9 fa0 (nrows bT.2.1)→M b0=.vec vb0 2 fb0 (prows bT.2.2)→X.call 39 [TbS bT a0 va0 b0 vb0] M n=some (I 0,[])
 wl1:∀ (a0 va0 b0 vb0:Nat) (fa0 fb0:Bool) (M:Nat→AO) (n:Nat),M a0=.vec va0 9 fa0 (nrows bT.2.1)→M b0=.vec vb0 2 fb0 (prows bT.2.2)→X.call 35 [TbS bT a0 va0 b0 vb0,I 70] M n=some (.tup [U 1305,I 0,I 0],[])
 wl2:∀ (a0 va0 b0 vb0:Nat) (fa0 fb0:Bool) (M:Nat→AO) (n:Nat),M a0=.vec va0 9 fa0 (nrows bT.2.1)→M b0=.vec vb0 2 fb0 (prows bT.2.2)→X.call 35 [TbS bT a0 va0 b0 vb0,I 80] M n=some (.tup [U 0,I 1,I 0],[])
 clr:∀ (a0 va0 b0 vb0:Nat) (fa0 fb0:Bool) (M:Nat→AO) (n:Nat),M a0=.vec va0 9 fa0 (nrows bT.2.1)→M b0=.vec vb0 2 fb0 (prows bT.2.2)→X.call 55 [TbS bT a0 va0 b0 vb0,I 70] M n=some (.tup [TbC aT n,U 1305,.sl (n+2) 1 1 0 2,I 0],outT aT n++[(n+2,.vec 1 1 false [[I 12],[I 11]])])
 sam2:∀ (a0 va0 b0 vb0:Nat) (fa0 fb0:Bool) (a1 va1 b1 vb1:Nat) (fa1 fb1:Bool) (M:Nat→AO) (n:Nat),M a0=.vec va0 9 fa0 (nrows aT.2.1)→M b0=.vec vb0 2 fb0 (prows aT.2.2)→M a1=.vec va1 9 fa1 (nrows aT.2.1)→M b1=.vec vb1 2 fb1 (prows aT.2.2)→X.call 31 [TbS aT a0 va0 b0 vb0,TbS aT a1 va1 b1 vb1] M n=some (B true,[])
 eq2:∀ (c vc d vd:Nat) (fc fd:Bool) (M:Nat→AO) (n:Nat),M c=.vec vc 1 fc [[I 12],[I 11]]→M d=.vec vd 1 fd [[I 12],[I 11]]→X.call 46 [.sl c vc 1 0 2,.sl d vd 1 0 2] M n=some (B true,[])
 seth:∀ (a0 va0 b0 vb0:Nat) (fa0 fb0:Bool) (c vc:Nat) (fc:Bool) (M:Nat→AO) (n:Nat),M a0=.vec va0 9 fa0 (nrows aT.2.1)→M b0=.vec vb0 2 fb0 (prows aT.2.2)→M c=.vec vc 1 fc [[I 11],[I 12]]→X.call 53 [TbS aT a0 va0 b0 vb0,I 9,U 4201,.sl c vc 1 0 2] M n=some (.tup [TbC hT n,I 0],outT hT n)
 spl:∀ (a0 va0 b0 vb0:Nat) (fa0 fb0:Bool) (M:Nat→AO) (n:Nat),M a0=.vec va0 9 fa0 (nrows hT.2.1)→M b0=.vec vb0 2 fb0 (prows hT.2.2)→X.call 64 [TbS hT a0 va0 b0 vb0,I 9] M n=some (.tup [TbC sT n,I 0],outT sT n)
 wl3:∀ (a0 va0 b0 vb0:Nat) (fa0 fb0:Bool) (M:Nat→AO) (n:Nat),M a0=.vec va0 9 fa0 (nrows sT.2.1)→M b0=.vec vb0 2 fb0 (prows sT.2.2)→X.call 35 [TbS sT a0 va0 b0 vb0,I 75] M n=some (.tup [U 4905,I 0,I 0],[])
 hg1:∀ (a0 va0 b0 vb0:Nat) (fa0 fb0:Bool) (M:Nat→AO) (n:Nat),M a0=.vec va0 9 fa0 (nrows hT.2.1)→M b0=.vec vb0 2 fb0 (prows hT.2.2)→X.call 41 [TbS hT a0 va0 b0 vb0,I 9] M n=some (B true,[])
 hg2:∀ (a0 va0 b0 vb0:Nat) (fa0 fb0:Bool) (M:Nat→AO) (n:Nat),M a0=.vec va0 9 fa0 (nrows sT.2.1)→M b0=.vec vb0 2 fb0 (prows sT.2.2)→X.call 41 [TbS sT a0 va0 b0 vb0,I 9] M n=some (B false,[])
 frm:∀ (a0 va0 b0 vb0:Nat) (fa0 fb0:Bool) (M:Nat→AO) (n:Nat),M a0=.vec va0 9 fa0 (nrows hT.2.1)→M b0=.vec vb0 2 fb0 (prows hT.2.2)→X.call 47 [TbS hT a0 va0 b0 vb0] M n=some (.sl n 1 1 0 3,[(n,.vec 1 1 false [[I 10],[I 11],[I 12]])])
 eq3:∀ (c vc d vd:Nat) (fc fd:Bool) (M:Nat→AO) (n:Nat),M c=.vec vc 1 fc [[I 10],[I 11],[I 12]]→M d=.vec vd 1 fd [[I 10],[I 11],[I 12]]→X.call 46 [.sl c vc 1 0 3,.sl d vd 1 0 3] M n=some (B true,[])
 lst:∀ (a0 va0 b0 vb0:Nat) (fa0 fb0:Bool) (M:Nat→AO) (n:Nat),M a0=.vec va0 9 fa0 (nrows hT.2.1)→M b0=.vec vb0 2 fb0 (prows hT.2.2)→X.call 44 [TbS hT a0 va0 b0 vb0] M n=some (.sl n 1 2 0 1,[(n,.vec 1 2 false [[I 72,U 4201]])])
 eqe:∀ (c vc d vd:Nat) (fc fd:Bool) (M:Nat→AO) (n:Nat),M c=.vec vc 2 fc [[I 72,U 4201]]→M d=.vec vd 2 fd [[I 72,U 4201]]→X.call 43 [.sl c vc 2 0 1,.sl d vd 2 0 1] M n=some (B true,[])
set_option maxRecDepth 20000 in
set_option maxHeartbeats 16000000 in
theorem s34 (X:AX) (E:Exa X):PSound Tryz.prog 34 (specF (ι:=Unit) (fun _=>[]) fun _=>retOf [B true]):=by
 have hX:=E.ok
 have hw:=E.w
 refine psound_spec hX mixed Tryz.func34 rfl fun ⟨⟩ w0 G=>⟨by show 0≤195;decide,rfl,?_⟩
 show AW ⟨Tryz.prog,X,195,w0,.pure G⟩ _ _ _
 have hc:Cx.OK ⟨Tryz.prog,X,195,w0,.pure G⟩:=⟨hX,mixed⟩
 have e1:=E.new
 have e2:=E.mis
 have e3:=E.set
 have gsam1:=E.sam1
 have gchk:=E.chk
 have gwl1:=E.wl1
 have gwl2:=E.wl2
 have gclr:=E.clr
 have gsam2:=E.sam2
 have geq2:=E.eq2
 have gseth:=E.seth
 have gspl:=E.spl
 have gwl3:=E.wl3
 have ghg1:=E.hg1
 have ghg2:=E.hg2
 have gfrm:=E.frm
 have geq3:=E.eq3
 have glst:=E.lst
 have geqe:=E.eqe
 obtain ⟨Ra,hRa⟩:∃ R,R=nrows aT.2.1:=⟨_,rfl⟩
 obtain ⟨Rb,hRb⟩:∃ R,R=nrows bT.2.1:=⟨_,rfl⟩
 obtain ⟨Rh,hRh⟩:∃ R,R=nrows hT.2.1:=⟨_,rfl⟩
 obtain ⟨Rs,hRs⟩:∃ R,R=nrows sT.2.1:=⟨_,rfl⟩
 obtain ⟨Dh,hDh⟩:∃ R,R=prows hT.2.2:=⟨_,rfl⟩
 simp only [outT,TbC,TbS,U,← hRa,← hRb,← hRh,← hRs,← hDh,show prows aT.2.2=[] from rfl,show prows bT.2.2=[] from rfl,show prows sT.2.2=[] from rfl,show aT.2.2.length=0 from rfl,show bT.2.2.length=0 from rfl,show hT.2.2.length=1 from rfl,show sT.2.2.length=0 from rfl,show aT.1=10 from rfl,show bT.1=10 from rfl,show hT.1=10 from rfl,show sT.1=10 from rfl,show aT.2.1.length=1 from rfl,show bT.2.1.length=3 from rfl,show hT.2.1.length=2 from rfl,show sT.2.1.length=3 from rfl,List.cons_append,List.nil_append] at e1 e2 e3 gsam1 gchk gwl1 gwl2 gclr gsam2 geq2 gseth gspl gwl3 ghg1 ghg2 gfrm geq3 glst geqe
 have zS:=jj e1<|jj e2<|jj e3<|jj gsam1<|jj gchk<|jj gwl1<|jj gwl2<|jj gclr<|jj gsam2<|jj geq2<|jj gseth<|jj gspl<|jj gwl3<|jj ghg1<|jj ghg2<|jj gfrm<|jj geq3<|jj glst<|geqe
 refine dF64 ?_
 repeat (intro K hK)
 clear zS
 all_goals refine ⟨by simp,?_⟩
 all_goals simp [leaves_iff,Tryz.f34]
 all_goals try exact dt
end Go.AM
namespace Go.AM
open Go Go.Proofs
noncomputable def FbF:List AV→Option AV:=specF (ι:=Bool×Int) (fun x=>[B x.1,U x.2]) fun x=>retOf [U (fb x.1 x.2)]
theorem cFb (b:Bool) (c:Int) (M:Nat→AO) (n:Nat):callP FbF [B b,.v (.int .u64 c)] M n=some (.v (.int .u64 (fb b c)),[]) :=
 callP_spec (ι:=Bool×Int) (A:=fun x=>[B x.1,U x.2]) (R:=fun x=>retOf [U (fb x.1 x.2)]) (b,c) (by simp [U]) (by
  rintro ⟨b',c'⟩ e
  simp [B,U] at e;obtain ⟨rfl,rfl⟩:=e;rfl) (by simp [U])
noncomputable def FmF:List AV→Option AV:=specF (ι:={e:En // 0≤e.1∧e.1≤4}) (fun x=>[EnV x.1]) fun x=>retOf [B (frmE x.1)]
theorem cFm (k f:Int) (d a x h:Bool) (hk:0≤k∧k≤4) (M:Nat→AO) (n:Nat):callP FmF [.agg [I k,I f,B d,B a,B x,B h]] M n=some (B (frmE (k,f,d,a,x,h)),[]) :=
 callP_spec (ι:={e:En // 0≤e.1∧e.1≤4}) (A:=fun x=>[EnV x.1]) (R:=fun x=>retOf [B (frmE x.1)]) ⟨(k,f,d,a,x,h),hk⟩ (by simp [EnV]) (by
  rintro ⟨e',h'⟩ e
  simp only [List.cons.injEq,EnV_inj,and_true] at e;subst e;rfl) (by simp)
noncomputable def EncF:List AV→Option AV:=specF (ι:=En) (fun x=>[EnV x]) fun x=>retOf [U (encR x).1,I (encR x).2]
theorem cEn (k f:Int) (d a x h:Bool) (M:Nat→AO) (n:Nat):callP EncF [.agg [I k,I f,B d,B a,B x,B h]] M n=some (.tup [U (encR (k,f,d,a,x,h)).1,I (encR (k,f,d,a,x,h)).2],[]) :=
 callP_spec (ι:=En) (A:=fun x=>[EnV x]) (R:=fun x=>retOf [U (encR x).1,I (encR x).2]) (k,f,d,a,x,h) (by simp [EnV]) (by
  rintro e' e
  simp only [List.cons.injEq,EnV_inj,and_true] at e;subst e;rfl) (by simp [U])
noncomputable def DecF:List AV→Option AV:=specF (ι:={n:Nat // n<2^64}) (fun x=>[U x.1]) fun x=>retOf [EnV (decR x.1).1,I (decR x.1).2]
theorem u_inj {a b:Nat} (h:[U a]=[U b]):a=b:=by
 simp only [List.cons.injEq,U,AV.v.injEq,Value.int.injEq,true_and,and_true] at h;omega
theorem cDe (w:Nat) (hw:w<2^64) (M:Nat→AO) (n:Nat):callP DecF [U w] M n=some (.tup [EnV (decR w).1,I (decR w).2],[]) :=
 callP_spec (ι:={n:Nat // n<2^64}) (A:=fun x=>[U x.1]) (R:=fun x=>retOf [EnV (decR x.1).1,I (decR x.1).2]) ⟨w,hw⟩ (by simp [U]) (by
  rintro ⟨w',h'⟩ e
  have:=u_inj e
  simp only at this
  subst this;rfl) (by simp [EnV])
noncomputable def Te0:AX:=(((((AX.start wT).eqAt 103).eqAt 170).eqAt 86).eqAt 148).eqAt 150
theorem te0:XOK Tryz.prog Te0:=xok_eq (xok_eq (xok_eq (xok_eq (xok_eq (xok_start _ _) eqE) eqD) eqPE) eqW8) eqN
theorem w0T:Te0.W wT:=⟨rfl,rfl⟩
noncomputable def Te1:AX:=Te0.add 196 (callP FbF)
theorem te1:XOK Tryz.prog Te1:=xok_spec te0 (s196 Te0 te0) (fun _=>trivial) Tryz.func196 (by kernel_rfl)
noncomputable def Te2:AX:=Te1.add 217 (callP FbF)
theorem te2:XOK Tryz.prog Te2:=xok_spec te1 (s217 Te1 te1) (fun _=>trivial) Tryz.func217 (by kernel_rfl)
noncomputable def Te3:AX:=Te2.add 195 (callP FmF)
theorem te3:XOK Tryz.prog Te3:=xok_spec te2 (s195 Te2 te2 w0T rfl) (fun _=>trivial) Tryz.func195 (by kernel_rfl)
noncomputable def Te4:AX:=Te3.add 216 (callP FmF)
theorem te4:XOK Tryz.prog Te4:=xok_spec te3 (s216 Te3 te3 w0T rfl) (fun _=>trivial) Tryz.func216 (by kernel_rfl)
theorem enc_flat (x:En):(retOf [U (encR x).1,I (encR x).2]).flat:=by simp [retOf,AV.flat,AV.flatV,AV.flat1,U]
theorem dec_flat (n:Nat):(retOf [EnV (decR n).1,I (decR n).2]).flat:=by simp [retOf,AV.flat,AV.flatV,AV.flat1,EnV]
noncomputable def Te5:AX:=Te4.add 143 (callP EncF)
theorem te5:XOK Tryz.prog Te5:=xok_spec te4 (s143 Te4 te4 w0T cFm cFb) (fun x=>enc_flat x) Tryz.func143 (by kernel_rfl)
noncomputable def Te6:AX:=Te5.add 187 (callP EncF)
theorem te6:XOK Tryz.prog Te6:=xok_spec te5 (s187 Te5 te5 w0T cFm cFb) (fun x=>enc_flat x) Tryz.func187 (by kernel_rfl)
noncomputable def Te7:AX:=Te6.add 56 (callP DecF)
theorem te7:XOK Tryz.prog Te7:=xok_spec te6 (s56 Te6 te6 w0T cEn) (fun x=>dec_flat x.1) Tryz.func56 (by kernel_rfl)
noncomputable def Te8:AX:=Te7.add 131 (callP DecF)
theorem te8:XOK Tryz.prog Te8:=xok_spec te7 (s131 Te7 te7 w0T cEn) (fun x=>dec_flat x.1) Tryz.func131 (by kernel_rfl)
end Go.AM
namespace Go.AM
open Go Go.Proofs
theorem nrow_pl {l:List Nd}:∀ e∈nrows l,∀ a∈e,a.plain:=by
 intro e he a ha
 obtain ⟨x,_,rfl⟩:=List.mem_map.1 he
 simp only [nrow,wcs,List.mem_cons,List.mem_map] at ha
 rcases ha with rfl|⟨y,_,rfl⟩<;>trivial
theorem prow_pl {l:List Dp}:∀ e∈prows l,∀ a∈e,a.plain:=by
 intro e he a ha
 obtain ⟨x,_,rfl⟩:=List.mem_map.1 he
 simp at ha
 rcases ha with rfl|rfl<;>trivial
theorem srow_pl {l:List Stp}:∀ e∈srows l,∀ a∈e,a.plain:=by
 intro e he a ha
 obtain ⟨x,_,rfl⟩:=List.mem_map.1 he
 simp [srow] at ha
 rcases ha with rfl|rfl|rfl<;>trivial
theorem irow_pl {l:List Int}:∀ e∈irows l,∀ a∈e,a.plain:=by
 intro e he a ha
 obtain ⟨x,_,rfl⟩:=List.mem_map.1 he
 simp at ha
 subst ha;trivial
theorem erow_pl {l:List Pe}:∀ e∈erows l,∀ a∈e,a.plain:=by
 intro e he a ha
 obtain ⟨x,_,rfl⟩:=List.mem_map.1 he
 simp [erow] at ha
 rcases ha with rfl|rfl<;>trivial
theorem mem_mset:∀ {l:List (List Int×AV)} {q:List Int} {b:AV} {p:List Int×AV},p∈mset l q b→p∈l∨p=(q,b)
 | [],q,b,p,h=>by simp [mset] at h;exact .inr h
 | (k,a)::r,q,b,p,h=>by
  simp only [mset] at h
  split at h
  ·rcases List.mem_cons.1 h with h|h
   ·exact .inr h
   ·exact .inl (by simp [h])
  ·rcases List.mem_cons.1 h with h|h
   ·exact .inl (by simp [h])
   ·rcases mem_mset h with h|h
    ·exact .inl (by simp [h])
    ·exact .inr h
theorem idxE_pl {ns:List Nd}:∀ {n:Nat},∀ p∈idxE ns n,p.2.plain
 | 0,p,h=>by simp [idxE] at h
 | n+1,p,h=>by
  simp only [idxE] at h
  rcases mem_mset h with h|h
  ·exact idxE_pl p h
  ·rw [h];trivial
theorem TbO_fl {t:Tb}:(TbO t).flatV:=by
 intro a ha
 simp at ha
 rcases ha with rfl|rfl|rfl
 ·trivial
 ·exact nrow_pl
 ·exact prow_pl
theorem cT1 {D:Tb→Prop} {R:Tb→AV} {t:Tb} (h:D t) (M:Nat→AO) (n:Nat) {a:AV} {u:List (Nat×AO)} {k:Nat} (ho:openRet n (R t)=(a,u,k)) (hk:k≤n+16):callP (specF (ι:={x:Tb // D x}) (fun x=>[TbV x.1]) fun x=>R x.1) [TbV t] M n=some (a,u):=by
 rw [callP_spec (ι:={x:Tb // D x}) (A:=fun x=>[TbV x.1]) (R:=fun x=>R x.1) ⟨t,h⟩ (by simp [TbV]) ?_ (by rw [ho];exact hk),ho]
 rintro ⟨j,hj⟩ e
 simp only [List.cons.injEq,TbV_inj,and_true] at e
 subst e;rfl
theorem cT2 {D:Tb→Int→Prop} {R:Tb→Int→AV} {t:Tb} {x:Int} (h:D t x) (M:Nat→AO) (n:Nat) {a:AV} {u:List (Nat×AO)} {k:Nat} (ho:openRet n (R t x)=(a,u,k)) (hk:k≤n+16):callP (specF (ι:={x:Tb×Int // D x.1 x.2}) (fun x=>[TbV x.1.1,I x.1.2]) fun x=>R x.1.1 x.1.2) [TbV t,I x] M n=some (a,u):=by
 rw [callP_spec (ι:={x:Tb×Int // D x.1 x.2}) (A:=fun x=>[TbV x.1.1,I x.1.2]) (R:=fun x=>R x.1.1 x.1.2) ⟨(t,x),h⟩ (by simp [TbV]) ?_ (by rw [ho];exact hk),ho]
 rintro ⟨⟨j,y⟩,hj⟩ e
 simp only [List.cons.injEq,TbV_inj,I,AV.v.injEq,Value.int.injEq,true_and,and_true] at e
 obtain ⟨rfl,rfl⟩:=e;rfl
theorem cT3 {D:Tb→Nat→Prop} {R:Tb→Nat→AV} {t:Tb} {x:Nat} (h:D t x) (M:Nat→AO) (n:Nat) {a:AV} {u:List (Nat×AO)} {k:Nat} (ho:openRet n (R t x)=(a,u,k)) (hk:k≤n+16):callP (specF (ι:={x:Tb×Nat // D x.1 x.2}) (fun x=>[TbV x.1.1,I x.1.2]) fun x=>R x.1.1 x.1.2) [TbV t,I x] M n=some (a,u):=by
 rw [callP_spec (ι:={x:Tb×Nat // D x.1 x.2}) (A:=fun x=>[TbV x.1.1,I x.1.2]) (R:=fun x=>R x.1.1 x.1.2) ⟨(t,x),h⟩ (by simp [TbV]) ?_ (by rw [ho];exact hk),ho]
 rintro ⟨⟨j,y⟩,hj⟩ e
 simp only [List.cons.injEq,TbV_inj,I,AV.v.injEq,Value.int.injEq,true_and,and_true,Int.ofNat_inj] at e
 obtain ⟨rfl,rfl⟩:=e;rfl
theorem oT1 {D:Tb→Prop} {R:Tb→AV} {t:Tb} (h:D t) {p vp q vq:Nat} {M:Nat→AO} (hM:OwT M t p vp q vq) (n:Nat) {a:AV} {u:List (Nat×AO)} {k:Nat} (ho:openRet n (R t)=(a,u,k)) (hk:k≤n+16):callP (specF (ι:={x:Tb // D x}) (fun x=>[TbV x.1]) fun x=>R x.1) [TbS t p vp q vq] M n=some (a,u):=by
 rw [callP_spec (ι:={x:Tb // D x}) (A:=fun x=>[TbV x.1]) (R:=fun x=>R x.1) ⟨t,h⟩ (peek_tab hM rfl) ?_ (by rw [ho];exact hk),ho]
 rintro ⟨j,hj⟩ e
 simp only [List.cons.injEq,TbV_inj,and_true] at e
 subst e;rfl
theorem oT2 {D:Tb→Int→Prop} {R:Tb→Int→AV} {t:Tb} {x:Int} (h:D t x) {p vp q vq:Nat} {M:Nat→AO} (hM:OwT M t p vp q vq) (n:Nat) {a:AV} {u:List (Nat×AO)} {k:Nat} (ho:openRet n (R t x)=(a,u,k)) (hk:k≤n+16):callP (specF (ι:={x:Tb×Int // D x.1 x.2}) (fun x=>[TbV x.1.1,I x.1.2]) fun x=>R x.1.1 x.1.2) [TbS t p vp q vq,I x] M n=some (a,u):=by
 rw [callP_spec (ι:={x:Tb×Int // D x.1 x.2}) (A:=fun x=>[TbV x.1.1,I x.1.2]) (R:=fun x=>R x.1.1 x.1.2) ⟨(t,x),h⟩ (peek_tab hM (by simp)) ?_ (by rw [ho];exact hk),ho]
 rintro ⟨⟨j,y⟩,hj⟩ e
 simp only [List.cons.injEq,TbV_inj,I,AV.v.injEq,Value.int.injEq,true_and,and_true] at e
 obtain ⟨rfl,rfl⟩:=e;rfl
theorem oT3 {D:Tb→Nat→Prop} {R:Tb→Nat→AV} {t:Tb} {x:Nat} (h:D t x) {p vp q vq:Nat} {M:Nat→AO} (hM:OwT M t p vp q vq) (n:Nat) {a:AV} {u:List (Nat×AO)} {k:Nat} (ho:openRet n (R t x)=(a,u,k)) (hk:k≤n+16):callP (specF (ι:={x:Tb×Nat // D x.1 x.2}) (fun x=>[TbV x.1.1,I x.1.2]) fun x=>R x.1.1 x.1.2) [TbS t p vp q vq,I x] M n=some (a,u):=by
 rw [callP_spec (ι:={x:Tb×Nat // D x.1 x.2}) (A:=fun x=>[TbV x.1.1,I x.1.2]) (R:=fun x=>R x.1.1 x.1.2) ⟨(t,x),h⟩ (peek_tab hM (by simp)) ?_ (by rw [ho];exact hk),ho]
 rintro ⟨⟨j,y⟩,hj⟩ e
 simp only [List.cons.injEq,TbV_inj,I,AV.v.injEq,Value.int.injEq,true_and,and_true,Int.ofNat_inj] at e
 obtain ⟨rfl,rfl⟩:=e;rfl
end Go.AM
