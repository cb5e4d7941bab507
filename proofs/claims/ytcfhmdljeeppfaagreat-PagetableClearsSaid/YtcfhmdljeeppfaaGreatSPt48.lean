/- A part of the proof: what functions of the program compute, by abstract execution of their code. Its theorems hold without further condition. -/
import Derived.Test.YtcfhmdljeeppfaaGreatSPt44
set_option linter.all false
namespace Go.AM
open Go Go.Proofs
abbrev D1D:=Tb×Nat×Nat
noncomputable def deS2:List AV→List AO→Option (AV×List AO):=specG (ι:={x:D1D // dpC x.1.1 x.1.2.2 x.2.1 x.1.2.1 x.2.2}) (fun x=>[.bp 0 0,I x.1.2.1,.sl 3 1 1 0 1]) (fun x=>pMs x.1.1 1 1++[.vec 1 1 false [[I x.1.2.2]]]) (fun x=>.tup []) fun x=>pMs (x.1.1.1,stD x.1.1.1 x.1.1.2.2 x.1.2.1 x.1.1.2.1 x.1.2.2,x.1.1.2.2) 2 1++[.vec 1 1 false [[I x.1.2.2]]]
theorem deS2_at {t:Tb} {p f:Nat} (h:dpC t.1 t.2.2 p t.2.1 f):deS2 [.bp 0 0,I p,.sl 3 1 1 0 1] (pMs t 1 1++[.vec 1 1 false [[I f]]])=some (.tup [],pMs (t.1,stD t.1 t.2.2 p t.2.1 f,t.2.2) 2 1++[.vec 1 1 false [[I f]]]):=by
 refine specG_eq (ι:={x:D1D // dpC x.1.1 x.1.2.2 x.2.1 x.1.2.1 x.2.2}) (A:=fun x=>[.bp 0 0,I x.1.2.1,.sl 3 1 1 0 1]) (M:=fun x=>pMs x.1.1 1 1++[.vec 1 1 false [[I x.1.2.2]]]) (R:=fun x=>.tup []) (O:=fun x=>pMs (x.1.1.1,stD x.1.1.1 x.1.1.2.2 x.1.2.1 x.1.1.2.1 x.1.2.2,x.1.1.2.2) 2 1++[.vec 1 1 false [[I x.1.2.2]]]) ⟨(t,p,f),h⟩ fun j hA hM=>?_
 obtain ⟨⟨t',p',f'⟩,h'⟩:=j
 obtain ⟨e,e2⟩:=List.append_inj' hM rfl
 have e:=pMs_inj e
 simp only at e
 subst e
 simp only [List.cons.injEq,I,AV.v.injEq,Value.int.injEq,true_and,and_true,AO.vec.injEq] at hA e2
 have e1:p'=p:=by omega
 have e3:f'=f:=by omega
 subst e1 e3
 exact ⟨rfl,rfl⟩
set_option maxHeartbeats 4000000 in
theorem s129_1 (X:AX) (hX:XOK Tryz.prog X) (hw:X.W wT) (hla:OwnR X 110 (fun t x=>0≤x∧ptO t x.toNat) fun t x=>stV (lsT t x.toNat)) (hdg:∀ (p l:Nat),p<512→l≤2→∀ M n,X.call 139 [I p,I l] M n=some (I (dgt p l),[]))
  (hen:∀ f:Nat,f≤4294967295→∀ M n,X.call 143 [.agg [I 4,I f,B false,B false,B false,B false]] M n=some (.tup [U ((f*256+4:Nat)),I 0],[])) (had:X.call 186=callG adS):GSound Tryz.prog 129 deS2:=by
 unfold deS2
 refine gsound_spec Tryz.func129 rfl X fun ⟨⟨⟨r,ns,ds⟩,p,f⟩,hpt,hnf,hf0,hf1⟩ w0 L E=>⟨by show 3≤46;decide,?_⟩
 simp only at hpt hnf hf0 hf1
 have hp:p<512:=hpt.2.2.1
 have hl1:ns.length≤1000000:=hpt.1.2.1
 have hl2:ds.length≤1000000:=hpt.1.2.2
 simp only [pMs]
 have hen':=hen f (by omega)
 have hla':=hla r ns ds p ⟨by omega,hpt⟩
 obtain ⟨hlt1,hlt2⟩:(lsT (r,ns,ds) p).1<ns.length∧(lsT (r,ns,ds) p).2.1≤2:=by
  obtain ⟨_,_,_,⟨rt,hrt⟩,_⟩:=hpt
  exact lst_lt (by unfold rtN;rw [hrt];exact fnd_lt hrt)
 have ht:=hpt.1
 have ha:=hpt.2.1
 have hds:stD r ds p ns f=insK (setN ns (lsT (r,ns,ds) p).1 (dgt p (lsT (r,ns,ds) p).2.1) (f*256+4)) ((f:Int),zs8):=by unfold stD;rw [Int.toNat_natCast]
 obtain ⟨⟨a,b,c⟩,hS⟩:∃ S,S=lsT (r,ns,ds) p:=⟨_,rfl⟩
 simp only [Int.toNat_natCast] at hla'
 rw [← hS] at hla' hlt1 hlt2 hds
 simp only at hla' hlt1 hlt2 hds
 have hdg':=hdg p b hp hlt2
 have hdl:=dgt_lt p b
 have haN:(a:Int)<(ns.length:Int):=by omega
 have hgn:=nrows_gi hlt1
 have hgnE:=nrows_gE hlt1
 have h8:(gn ns a).2.length=8:=(ht.1 _ (gn_mem hlt1)).1
 obtain ⟨w,hwd⟩:∃ w,w=f*256+4:=⟨_,rfl⟩
 rw [← hwd] at hen' hds
 have hset:=@nrows_setN ns a (dgt p b) w hlt1
 have hwl:(wcs (gn ns a).2).length=8:=by simp [h8]
 have hw64:w<2^64:=by omega
 obtain ⟨NT,hNT⟩:∃ NT,NT=setN ns a (dgt p b) w:=⟨_,rfl⟩
 have hNl2:NT.length=ns.length:=by rw [hNT];simp
 have ht2:tbOK (r,NT,ds):=⟨by rw [hNT];exact setN_ok ht.1 hw64 hlt1,by show NT.length≤1000000;omega,hl2⟩
 have ha2:ascN NT:=by rw [hNT];exact setN_asc ha hlt1
 have hn2:∀ n∈NT,n.1≠(f:Int):=by rw [hNT];exact setN_fr hlt1 hnf
 have hca:=fun M n=>@callAd 0 1 2 (by decide) (by decide) (by decide) r NT ds f ht2 ha2 hn2 (by omega) 0 0 M n
 rw [← had] at hca
 simp only [hNl2,Nat.zero_add] at hca
 rw [← hNT] at hset hds
 obtain ⟨⟨fr,ws⟩,hm⟩:∃ m,m=gn ns a:=⟨_,rfl⟩
 rw [← hm] at hgn hgnE hwl hset
 simp only at hgn hgnE hwl hset
 obtain ⟨cs,hcs⟩:∃ cs,cs=wcs ws:=⟨_,rfl⟩
 rw [← hcs] at hgn hgnE hwl hset
 obtain ⟨dg,hdg0⟩:∃ dg,dg=dgt p b:=⟨_,rfl⟩
 rw [← hdg0] at hdl hdg' hset
 have hdI:(dg:Int)<8:=by omega
 clear hcs hm h8 hS
 have hs1:∀ w:Int,(I fr::cs).set (1+dg) (AV.v (.int .u64 w))=I fr::cs.set dg (AV.v (.int .u64 w)):=fun w=>by rw [Nat.add_comm];rfl
 have hil2:=@insK_len _ ((f:Int),zs8) NT
 clear hwd
 simp only [stV,srow,U] at hla' hset hen'
 simp only [hds,hil2,hNl2]
 show AW ⟨Tryz.prog,X,46,w0,⟨L,E,4⟩⟩ _ _ _
 have hc:Cx.OK ⟨Tryz.prog,X,46,w0,⟨L,E,4⟩⟩:=⟨hX,mixed⟩
 repeat' (first|(apply aw_seq_k;intro K hK)|(refine eM64o ?_)|(refine aw_cond (b:=_) (by exact rfl) (fun h=>?_) (fun h=>?_)<;>(try simp at h))|(refine eB ?_)|(refine hK _ ?_;clear hK)|(clear hK;refine hK _ ?_;clear hK)|(clear hK;clear hK;refine hK _ ?_;clear hK)|(clear hK;clear hK;clear hK;refine hK _ ?_;clear hK))
 refine aw_rounds 2 (aw_round ?_)
 have zS:=jj hla'<|jj hen'<|jj hdg'<|jj hlt1<|jj haN<|jj hgn<|jj hgnE<|jj hwl<|jj hdl<|jj hdI<|jj hset<|jj hs1<|hca
 repeat' (first|(apply aw_seq_k;intro K hK)|(refine eF64 ?_)|(refine aw_cond (b:=_) (by exact rfl) (fun h=>?_) (fun h=>?_)<;>(try simp at h))|(refine eB ?_)|(refine hK _ ?_;clear hK)|(clear hK;refine hK _ ?_;clear hK)|(clear hK;clear hK;refine hK _ ?_;clear hK)|(clear hK;clear hK;clear hK;refine hK _ ?_;clear hK))
 all_goals clear zS
 refine ⟨[],rfl,?_⟩
 simp only [idx]
 exact dle
noncomputable def deB:List AV→List AO→Option (AV×List AO):=orG deS deS2
end Go.AM
set_option maxHeartbeats 8000000
namespace Go.AM
open Go Go.Proofs
set_option maxRecDepth 4000 in
theorem callDe {a b c:Nat} (hab:a≠b) (hac:a≠c) (hbc:b≠c) {r:Int} {ns:NdL} {ds:List Dp} {p:Nat} {fs:List Int} (h:dpOK r ds p ns fs) {v v2:Nat} (M:Nat→AO) (nid:Nat)
  (h0:M a=.box [I r,.sl b (v+1) 9 0 ns.length,.sl c (v2+1) 2 0 ds.length]) (h1:M b=.vec (v+1) 9 false (nrows ns)) (h2:M c=.vec (v2+1) 2 false (prows ds)) :
  callG deB [.bp a 0,I p,.rd 1 (irows fs)] M nid=some (.tup [],[(a,.box [I r,.sl b (fs.length+v+1) 9 0 (dpN r ds p ns fs).length,.sl c (v2+1) 2 0 ds.length]),(b,.vec (fs.length+v+1) 9 false (nrows (dpN r ds p ns fs))),(c,.vec (v2+1) 2 false (prows ds))]):=by
 have hF:deB _ _=_:=orG_1 (deS_at (t:=(r,ns,ds)) h)
 simp only [pMs,dM] at hF
 unfold callG
 have hba:b≠a:=fun e=>hab e.symm
 have hca:c≠a:=fun e=>hac e.symm
 have hcb:c≠b:=fun e=>hbc e.symm
 have hg:gat M 64 (nmsL [.bp a 0,I p,.rd 1 (irows fs)]) []=[a,b,c]:=by
  simp [gat,nmsL,AV.nms,AO.nms,h0,h1,h2,hab,hac,hbc,hba,hca,hcb]
 simp only [hg]
 rw [if_pos ?cg]
 case cg=>simp [CallG,nmsL,AV.nms,AO.nms,Led,curBL,AV.curB,AO.curB,verOf,notDead,h0,h1,h2,hab,hac,hbc,hba,hca,hcb]
 have e1:fs.length+1+v=fs.length+v+1:=by omega
 have e2:1+v2=v2+1:=by omega
 simp [renL,AV.ren,AO.ren,posN,canO,nmsL,h0,h1,h2,hF,RetG,getL,AV.nms,AO.nms,updN,nmN,shN,verOf,rng,Led,hab,hac,hbc,hba,hca,hcb,e1,e2]
def TbC (t:Tb) (n:Nat):AV:=.agg [I t.1,.sl n 1 9 0 t.2.1.length,.sl (n+1) 1 2 0 t.2.2.length]
def zT:Tb:=(0,[],[])
noncomputable def setP (t:Tb) (p:Int) (w:Nat) (fs:List Int):Tb×Int :=
 if ckd t p 512≠0 then (zT,ckd t p 512)
 else if (decR w).2≠0∨(decR w).1.1=0∨(decR w).1.1=4∨(decR w).1.2.2.2.2.2=true then (zT,3)
 else if (lsT t p.toNat).2.2≠0 then (zT,7)
 else if fs.length=(lsT t p.toNat).2.1∧usB t.2.1 t.2.2 fs=true then (putT (t.1,dpN t.1 t.2.2 p.toNat t.2.1 fs,t.2.2) p.toNat w,0)
 else (zT,1)
theorem ckd_pt {t:Tb} (ht:tbOK t) {n lim:Int} (h:¬ ckd t n lim≠0):Pv t∧0≤n∧n<lim:=by
 rcases ckd_cases t n lim with h1|h1
 ·exact absurd h1 h
 ·exact ⟨chk_pv ht h1.2.1,h1.2.2⟩
abbrev StD:=Tb×Int×Nat×List Int
def stOK (x:StD):Prop:=tbOK x.1∧x.1.2.1.length≤999000∧x.2.2.1<2^64∧x.2.2.2.length≤1000
theorem s51 (X:AX) (hX:XOK Tryz.prog X) (hw:X.W wT) (hck:∀ t:Tb,tbOK t→∀ (n lim:Int) M k,X.call 109 [TbV t,I n,I lim] M k=some (I (ckd t n lim),[]))
  (hla:∀ (t:Tb) (p:Nat),ptO t p→∀ M n,X.call 110 [TbV t,I p] M n=some (stV (lsT t p),[]))
  (hdc:∀ n:Nat,n<2^64→∀ M k,X.call 56 [U n] M k=some (.tup [EnV (decR n).1,I (decR n).2],[]))
  (hen:∀ w:Nat,w<2^64→∀ M n,X.call 113 [U w] M n=some (EnV (decR w).1,[]))
  (hfh:∀ (t:Tb) (fs:List Int) (m:Nat),tbOK t→ascN t.2.1→fs.length≤1000→∀ M n,X.call 127 [TbV t,.rd 1 (irows fs),I m] M n=some (B (decide (fs.length=m)&&usB t.2.1 t.2.2 fs),[]))
  (hcl:∀ t:Tb,tbOK t→∀ M n,X.call 128 [TbV t] M n=some (TbC t n,[(n,.vec 1 9 false (nrows t.2.1)),(n+1,.vec 1 2 false (prows t.2.2))]))
  (hde:X.call 129=callG deB) (hpu:X.call 130=callG puS) :
  PSound Tryz.prog 51 (specF (ι:={x:StD // stOK x}) (fun x=>[TbV x.1.1,I x.1.2.1,U x.1.2.2.1,.rd 1 (irows x.1.2.2.2)]) fun x=>retOf [TbO (setP x.1.1 x.1.2.1 x.1.2.2.1 x.1.2.2.2).1,I (setP x.1.1 x.1.2.1 x.1.2.2.1 x.1.2.2.2).2]):=by
 refine psound_spec hX mixed Tryz.func51 rfl fun ⟨⟨⟨r,ns,ds⟩,pI,w,fs⟩,ht,hl9,hw64,hf8⟩ w0 G=>⟨by show 4≤69;decide,rfl,?_⟩
 show AW ⟨Tryz.prog,X,69,w0,.pure G⟩ _ _ _
 have hc:Cx.OK ⟨Tryz.prog,X,69,w0,.pure G⟩:=⟨hX,mixed⟩
 simp only at hl9 hw64 hf8 ht ⊢
 have hck':=hck _ ht pI 512
 have hl1:ns.length≤1000000:=ht.2.1
 have hl2:ds.length≤1000000:=ht.2.2
 rcases Decidable.em (ckd (r,ns,ds) pI 512≠0) with hk|hk
 ·have e:setP (r,ns,ds) pI w fs=(zT,ckd (r,ns,ds) pI 512):=by unfold setP;rw [if_pos hk]
  rw [e]
  obtain ⟨c,hc0⟩:∃ c,c=ckd (r,ns,ds) pI 512:=⟨_,rfl⟩
  rw [← hc0] at hck' hk ⊢
  simp only [TbV,TbO,zT] at hck' ⊢
  have zS:=jj hck'<|hk
  refine dM64 ?_
  repeat (intro K hK)
  clear zS
  refine ⟨by simp,?_⟩
  simp [leaves_iff,Tryz.f51,nrows,prows]
  try exact dt
 ·obtain ⟨hpv,hp0,hp1⟩:=ckd_pt ht hk
  obtain ⟨p,rfl⟩:=Int.eq_ofNat_of_zero_le hp0
  have hp:p<512:=by omega
  have hz:ckd (r,ns,ds) p 512=0:=by omega
  rw [hz] at hck'
  have hdc':=hdc w hw64
  have hla':=hla _ _ (hpv.pto ht hp)
  have hlw:=lsT_u64 ht hpv hp
  have hen':=hen _ hlw
  have hlv:=(hpv.walk hp).2.2
  obtain ⟨f0,l0,w0',hwk⟩:∃ f l w,wlk (Mof ns) r p=(f,l,w):=⟨_,_,_,rfl⟩
  obtain ⟨hl02,_,_,_,hwt,hwok⟩:=wlk_at hpv.vm hp hwk
  have hk0:=kind0 hwok
  simp only at hlv
  rw [hwk] at hlv
  simp only at hlv
  have hls:lsT (r,ns,ds) p=((lsT (r,ns,ds) p).1,l0,w0'):=by rw [← hlv]
  have hfh':=hfh (r,ns,ds) fs l0 ht hpv.asc hf8
  have hcl':=hcl _ ht
  have eS:setP (r,ns,ds) p w fs=if (decR w).2≠0∨(decR w).1.1=0∨(decR w).1.1=4∨(decR w).1.2.2.2.2.2=true then (zT,3)
    else if w0'≠0 then (zT,7)
    else if fs.length=l0∧usB ns ds fs=true then (putT (r,dpN r ds p ns fs,ds) p w,0)
    else (zT,1):=by
   unfold setP
   rw [if_neg hk,Int.toNat_natCast,hlv]
  rw [eS]
  rw [hls] at hla' hen' hlw
  simp only at hen' hlw
  obtain ⟨a0,ha0⟩:∃ a,a=(lsT (r,ns,ds) p).1:=⟨_,rfl⟩
  rw [← ha0] at hla'
  obtain ⟨⟨⟨k,f,d,a,x,h⟩,e⟩,hE⟩:∃ r,r=decR w:=⟨_,rfl⟩
  obtain ⟨⟨⟨k2,f2,d2,a2,x2,h2⟩,e2⟩,hE2⟩:∃ r,r=decR w0':=⟨_,rfl⟩
  rw [← hE] at hdc' ⊢
  rw [← hE2] at hen' hk0
  clear hls eS hE hE2 hck hla hdc hen
  simp only [TbV,TbO,TbC,zT,EnV,stV,srow,U] at hck' hla' hdc' hen' hfh' hcl' hk0 ⊢
  rcases Decidable.em (e≠0∨k=0∨k=4∨h=true) with hb|hb
  ·rw [if_pos hb]
   rcases Decidable.em (e=0) with he|he
   ·rcases Decidable.em (k=0) with hk1|hk1
    ·have zS:=jj hck'<|jj hdc'<|jj he<|hk1
     refine dM64 ?_
     repeat (intro K hK)
     clear zS
     all_goals refine ⟨by simp,?_⟩
     all_goals simp [leaves_iff,Tryz.f51,nrows,prows]
     all_goals try exact dt
    ·rcases Decidable.em (k=4) with hk2|hk2
     ·have zS:=jj hck'<|jj hdc'<|jj he<|jj hk1<|hk2
      refine dM64 ?_
      repeat (intro K hK)
      clear zS
      all_goals refine ⟨by simp,?_⟩
      all_goals simp [leaves_iff,Tryz.f51,nrows,prows]
      all_goals try exact dt
     ·obtain rfl:h=true:=by
       rcases hb with hb|hb|hb|hb
       ·exact absurd he hb
       ·exact absurd hb hk1
       ·exact absurd hb hk2
       ·exact hb
      have zS:=jj hck'<|jj hdc'<|jj he<|jj hk1<|hk2
      refine dM64 ?_
      repeat (intro K hK)
      clear zS
      all_goals refine ⟨by simp,?_⟩
      all_goals simp [leaves_iff,Tryz.f51,nrows,prows]
      all_goals try exact dt
   ·have zS:=jj hck'<|jj hdc'<|he
    refine dM64 ?_
    repeat (intro K hK)
    clear zS
    all_goals refine ⟨by simp,?_⟩
    all_goals simp [leaves_iff,Tryz.f51,nrows,prows]
    all_goals try exact dt
  ·rw [if_neg hb]
   obtain ⟨rfl,hk1,hk2,rfl⟩:e=0∧k≠0∧k≠4∧h=false:=by
    refine ⟨by omega,by omega,by omega,?_⟩
    cases h
    ·rfl
    ·exact absurd (Or.inr (Or.inr (Or.inr rfl))) hb
   rcases Decidable.em (w0'=0) with hw0|hw0
   ·have hk3:=hk0.2 hw0
    rw [if_neg (by simp [hw0])]
    rcases Decidable.em (fs.length=l0∧usB ns ds fs=true) with hf|hf
    ·rw [if_pos hf]
     rw [decide_eq_true hf.1,hf.2] at hfh'
     have hdk:=deep_ok hpv ht hp hf.2 hl9 hwk hf8 (by omega)
     obtain ⟨j1,j2,⟨f',w',j3,j4⟩,j5,j6⟩:=deepL hpv ht hp hf.2 hl9 hwk fs.length (Nat.le_refl _) (by omega)
     rw [List.take_length] at j1 j2 j3 j5
     have hde':=fun M n=>@callDe 816 800 801 (by decide) (by decide) (by decide) r ns ds p fs hdk 0 0 M n
     rw [← hde] at hde'
     have hpu':=fun M n=>@callPu 816 800 801 (by decide) (by decide) (by decide) r (dpN r ds p ns fs) ds p w (j1.pto j2 hp) hw64 fs.length 0 M n
     rw [← hpu] at hpu'
     simp only [Nat.zero_add,Nat.add_zero,U] at hde' hpu'
     have hPl:(putT (r,dpN r ds p ns fs,ds) p w).2.1.length=(dpN r ds p ns fs).length:=setN_len
     have hP0:putT (r,dpN r ds p ns fs,ds) p w=(r,(putT (r,dpN r ds p ns fs,ds) p w).2.1,ds):=rfl
     rw [hP0]
     simp only
     obtain ⟨R,hR⟩:∃ R,R=(putT (r,dpN r ds p ns fs,ds) p w).2.1:=⟨_,rfl⟩
     rw [← hR] at hPl hpu' ⊢
     obtain ⟨D,hD⟩:∃ D,D=dpN r ds p ns fs:=⟨_,rfl⟩
     rw [← hD] at hde' hpu' hPl
     clear hR hD hP0
     have zS:=jj hck'<|jj hdc'<|jj hk1<|jj hk2<|jj hla'<|jj hen'<|jj hk3<|jj hfh'<|jj hcl'<|jj hde'<|hpu'
     refine dF64 ?_
     repeat (intro K hK)
     clear zS
     have tkR:List.take D.length (nrows R)=nrows R:=List.take_of_length_le (by simp;omega)
     have tkd:List.take ds.length (prows ds)=prows ds:=List.take_of_length_le (by simp)
     refine ⟨by simp,?_⟩
     simp [leaves_iff,Tryz.f51,hPl,tkR,tkd]
     try exact dt
    ·rw [if_neg hf]
     have hff:(decide (fs.length=l0)&&usB ns ds fs)=false:=by
      cases hu:usB ns ds fs
      ·simp
      ·rw [hu] at hf;simp at hf;simp [hf]
     rw [hff] at hfh'
     have zS:=jj hck'<|jj hdc'<|jj hk1<|jj hk2<|jj hla'<|jj hen'<|jj hk3<|hfh'
     refine dM64 ?_
     repeat (intro K hK)
     clear zS
     all_goals refine ⟨by simp,?_⟩
     all_goals simp [leaves_iff,Tryz.f51,nrows,prows]
     all_goals try exact dt
   ·have hk3:¬ k2=0:=fun h=>hw0 (hk0.1 h)
    rw [if_pos hw0]
    have zS:=jj hck'<|jj hdc'<|jj hk1<|jj hk2<|jj hla'<|jj hen'<|hk3
    refine dM64 ?_
    repeat (intro K hK)
    clear zS
    all_goals refine ⟨by simp,?_⟩
    all_goals simp [leaves_iff,Tryz.f51,nrows,prows]
    all_goals try exact dt
end Go.AM
set_option maxHeartbeats 8000000
namespace Go.AM
open Go Go.Proofs
set_option maxRecDepth 4000 in
theorem callDp {a b c:Nat} (hab:a≠b) (hac:a≠c) (hbc:b≠c) {r:Int} {ns:NdL} {ds:List Dp} {g f:Int} (ht:tbOK (r,ns,ds)) (ha:ascK ds) {v v2:Nat} (M:Nat→AO) (nid:Nat)
  (h0:M a=.box [I r,.sl b (v+1) 9 0 ns.length,.sl c (v2+1) 2 0 ds.length]) (h1:M b=.vec (v+1) 9 false (nrows ns)) (h2:M c=.vec (v2+1) 2 false (prows ds)) :
  callG dpS [.bp a 0,I g,I f] M nid=some (.tup [],[(a,.box [I r,.sl b (v+1) 9 0 ns.length,.sl nid 1 2 0 (ds.length+1)]),(b,.vec (v+1) 9 false (nrows ns)),(c,.dead),(nid,.vec 1 2 false (prows (insL ds g f)))]):=by
 have hF:=dpS_at (t:=(r,ns,ds)) (g:=g) (f:=f) ht ha
 simp only [pMs,oM,insL_len] at hF
 unfold callG
 have hba:b≠a:=fun e=>hab e.symm
 have hca:c≠a:=fun e=>hac e.symm
 have hcb:c≠b:=fun e=>hbc e.symm
 have hg:gat M 64 (nmsL [.bp a 0,I g,I f]) []=[a,b,c]:=by
  simp [gat,nmsL,AV.nms,AO.nms,h0,h1,h2,hab,hac,hbc,hba,hca,hcb]
 simp only [hg]
 rw [if_pos ?cg]
 case cg=>simp [CallG,nmsL,AV.nms,AO.nms,Led,curBL,AV.curB,AO.curB,verOf,notDead,h0,h1,h2,hab,hac,hbc,hba,hca,hcb]
 have e1:1+v=v+1:=by omega
 simp [renL,AV.ren,AO.ren,posN,canO,nmsL,h0,h1,h2,hF,RetG,getL,AV.nms,AO.nms,updN,nmN,shN,verOf,rng,Led,hab,hac,hbc,hba,hca,hcb,e1]
theorem irows_tk {l:List Int} {n:Nat}:irows (l.take n)=(irows l).take n:=by simp [irows,List.map_take]
theorem gi_take {l:List Int} {n j:Nat} (h:j<n) (hn:n≤l.length):gi (l.take n) j=gi l j:=by
 rw [gi_eq (by simp;omega),gi_eq (by omega)];simp
theorem usB_take {ns:NdL} {ds:List Dp} {fs:List Int} {n:Nat} (h:usB ns ds fs=true) (hn:n≤fs.length):usB ns ds (fs.take n)=true:=by
 rw [usB_iff] at h ⊢
 intro i hi
 have hi2:i<n:=by simp at hi;omega
 obtain ⟨h1,h2,h3,h4⟩:=h i (by omega)
 unfold usC
 rw [gi_take hi2 hn]
 exact ⟨h1,h2,h3,fun j hj=>by rw [gi_take (by omega) hn];exact h4 j hj⟩
noncomputable def setH (t:Tb) (g:Int) (w:Nat) (fs:List Int):Tb×Int :=
 if ckd t g 64≠0 then (zT,ckd t g 64)
 else if (decR w).2≠0∨(decR w).1.2.2.2.2.2=false then (zT,3)
 else if (lsT t (g.toNat*8)).2.1=0∨(lsT t (g.toNat*8)).2.2≠0 then (zT,7)
 else if fs.length=(lsT t (g.toNat*8)).2.1∧usB t.2.1 t.2.2 fs=true then
  ((t.1,(putT (t.1,dpN t.1 t.2.2 (g.toNat*8) t.2.1 (fs.take (fs.length - 1)),t.2.2) (g.toNat*8) w).2.1,insL t.2.2 g (gi fs (fs.length - 1))),0)
 else (zT,1)
theorem ckd_vt {t:Tb} (ht:tbOK t) {n lim:Int} (h:¬ ckd t n lim≠0):Vt t:=by
 rcases ckd_cases t n lim with h1|h1
 ·exact absurd h1 h
 ·exact (chk_iff ht).1 h1.2.1
theorem s53 (X:AX) (hX:XOK Tryz.prog X) (hw:X.W wT) (hck:∀ t:Tb,tbOK t→∀ (n lim:Int) M k,X.call 109 [TbV t,I n,I lim] M k=some (I (ckd t n lim),[]))
  (hla:∀ (t:Tb) (p:Nat),ptO t p→∀ M n,X.call 110 [TbV t,I p] M n=some (stV (lsT t p),[]))
  (hdc:∀ n:Nat,n<2^64→∀ M k,X.call 56 [U n] M k=some (.tup [EnV (decR n).1,I (decR n).2],[]))
  (hfh:∀ (t:Tb) (fs:List Int) (m:Nat),tbOK t→ascN t.2.1→fs.length≤1000→∀ M n,X.call 127 [TbV t,.rd 1 (irows fs),I m] M n=some (B (decide (fs.length=m)&&usB t.2.1 t.2.2 fs),[]))
  (hcl:∀ t:Tb,tbOK t→∀ M n,X.call 128 [TbV t] M n=some (TbC t n,[(n,.vec 1 9 false (nrows t.2.1)),(n+1,.vec 1 2 false (prows t.2.2))]))
  (hde:X.call 129=callG deB) (hpu:X.call 130=callG puS) (hdp:X.call 135=callG dpS) :
  PSound Tryz.prog 53 (specF (ι:={x:StD // stOK x}) (fun x=>[TbV x.1.1,I x.1.2.1,U x.1.2.2.1,.rd 1 (irows x.1.2.2.2)]) fun x=>retOf [TbO (setH x.1.1 x.1.2.1 x.1.2.2.1 x.1.2.2.2).1,I (setH x.1.1 x.1.2.1 x.1.2.2.1 x.1.2.2.2).2]):=by
 refine psound_spec hX mixed Tryz.func53 rfl fun ⟨⟨⟨r,ns,ds⟩,pI,w,fs⟩,ht,hl9,hw64,hf8⟩ w0 G=>⟨by show 4≤78;decide,rfl,?_⟩
 show AW ⟨Tryz.prog,X,78,w0,.pure G⟩ _ _ _
 have hc:Cx.OK ⟨Tryz.prog,X,78,w0,.pure G⟩:=⟨hX,mixed⟩
 simp only at hl9 hw64 hf8 ht ⊢
 have hck':=hck _ ht pI 64
 have hl1:ns.length≤1000000:=ht.2.1
 have hl2:ds.length≤1000000:=ht.2.2
 rcases Decidable.em (ckd (r,ns,ds) pI 64≠0) with hk|hk
 ·have e:setH (r,ns,ds) pI w fs=(zT,ckd (r,ns,ds) pI 64):=by unfold setH;rw [if_pos hk]
  rw [e]
  obtain ⟨c,hc0⟩:∃ c,c=ckd (r,ns,ds) pI 64:=⟨_,rfl⟩
  rw [← hc0] at hck' hk ⊢
  simp only [TbV,TbO,zT] at hck' ⊢
  have zS:=jj hck'<|hk
  refine dM64 ?_
  repeat (intro K hK)
  clear zS
  refine ⟨by simp,?_⟩
  simp [leaves_iff,Tryz.f53,nrows,prows]
  try exact dt
 ·obtain ⟨hpv,hp0,hp1⟩:=ckd_pt ht hk
  have hvt:=ckd_vt ht hk
  obtain ⟨g,rfl⟩:=Int.eq_ofNat_of_zero_le hp0
  have hg:g<64:=by omega
  obtain ⟨p,hpg⟩:∃ p,p=g*8:=⟨_,rfl⟩
  have hp:p<512:=by omega
  have hz:ckd (r,ns,ds) g 64=0:=by omega
  rw [hz] at hck'
  have hdc':=hdc w hw64
  have hla':=hla _ _ (hpv.pto ht hp)
  have hlw:=lsT_u64 ht hpv hp
  have hlv:=(hpv.walk hp).2.2
  obtain ⟨f0,l0,w0',hwk⟩:∃ f l w,wlk (Mof ns) r p=(f,l,w):=⟨_,_,_,rfl⟩
  obtain ⟨hl02,_,_,_,hwt,hwok⟩:=wlk_at hpv.vm hp hwk
  simp only at hlv
  rw [hwk] at hlv
  simp only at hlv
  have hls:lsT (r,ns,ds) p=((lsT (r,ns,ds) p).1,l0,w0'):=by rw [← hlv]
  have hfh':=hfh (r,ns,ds) fs l0 ht hpv.asc hf8
  have hcl':=hcl _ ht
  have eS:setH (r,ns,ds) g w fs=if (decR w).2≠0∨(decR w).1.2.2.2.2.2=false then (zT,3)
    else if l0=0∨w0'≠0 then (zT,7)
    else if fs.length=l0∧usB ns ds fs=true then ((r,(putT (r,dpN r ds p ns (fs.take (fs.length - 1)),ds) p w).2.1,insL ds g (gi fs (fs.length - 1))),0)
    else (zT,1):=by
   unfold setH
   rw [if_neg hk,Int.toNat_natCast,← hpg,hlv]
  rw [eS]
  rw [hls] at hla' hlw
  simp only at hlw
  obtain ⟨a0,ha0⟩:∃ a,a=(lsT (r,ns,ds) p).1:=⟨_,rfl⟩
  rw [← ha0] at hla'
  obtain ⟨⟨⟨k,f,d,a,x,h⟩,e⟩,hE⟩:∃ r,r=decR w:=⟨_,rfl⟩
  rw [← hE] at hdc' ⊢
  have hgm:(g:Int)*8=(p:Int):=by omega
  clear hls eS hE hck hla hdc
  simp only [TbV,TbO,TbC,zT,EnV,stV,srow,U] at hck' hla' hdc' hfh' hcl' ⊢
  rcases Decidable.em (e≠0∨h=false) with hb|hb
  ·rw [if_pos hb]
   rcases Decidable.em (e=0) with he|he
   ·obtain rfl:h=false:=hb.resolve_left (by simp [he])
    have zS:=jj hck'<|jj hdc'<|he
    refine dM64 ?_
    repeat (intro K hK)
    clear zS
    all_goals refine ⟨by simp,?_⟩
    all_goals simp [leaves_iff,Tryz.f53,nrows,prows]
    all_goals try exact dt
   ·have zS:=jj hck'<|jj hdc'<|he
    refine dM64 ?_
    repeat (intro K hK)
    clear zS
    all_goals refine ⟨by simp,?_⟩
    all_goals simp [leaves_iff,Tryz.f53,nrows,prows]
    all_goals try exact dt
  ·rw [if_neg hb]
   obtain ⟨rfl,rfl⟩:e=0∧h=true:=by
    refine ⟨by omega,?_⟩
    cases h
    ·exact absurd (Or.inr rfl) hb
    ·rfl
   rcases Decidable.em (l0=0∨w0'≠0) with hlw0|hlw0
   ·rw [if_pos hlw0]
    rcases Decidable.em (l0=0) with h0|h0
    ·subst h0
     have zS:=jj hck'<|jj hdc'<|jj hla'<|hgm
     refine dM64 ?_
     repeat (intro K hK)
     clear zS
     all_goals refine ⟨by simp,?_⟩
     all_goals simp [leaves_iff,Tryz.f53,nrows,prows]
     all_goals try exact dt
    ·have hw0:=hlw0.resolve_left h0
     have zS:=jj hck'<|jj hdc'<|jj hla'<|jj hgm<|jj h0<|hw0
     refine dM64 ?_
     repeat (intro K hK)
     clear zS
     all_goals refine ⟨by simp,?_⟩
     all_goals simp [leaves_iff,Tryz.f53,nrows,prows]
     all_goals try exact dt
   ·rw [if_neg hlw0]
    obtain ⟨L,rfl⟩:∃ L,l0=L+1:=⟨l0 - 1,by omega⟩
    obtain rfl:w0'=0:=by omega
    have hL0:¬ (L:Int)+1=0:=by omega
    have hLp:((L+1:Nat):Int)=(L:Int)+1:=by omega
    simp only [hLp] at hfh' hla'
    rcases Decidable.em (fs.length=L+1∧usB ns ds fs=true) with hf|hf
    ·rw [if_pos hf]
     rw [decide_eq_true hf.1,hf.2] at hfh'
     rw [hf.1,Nat.add_sub_cancel]
     have hLf:L<fs.length:=by omega
     have hu2:=usB_take (n:=L) hf.2 (by omega)
     have htl:(fs.take L).length=L:=by simp;omega
     have hdk:=deep_ok hpv ht hp hu2 hl9 hwk (by omega) (by omega)
     obtain ⟨j1,j2,⟨f',w',j3,j4⟩,j5,j6⟩:=deepL hpv ht hp hu2 hl9 hwk (fs.take L).length (Nat.le_refl _) (by omega)
     rw [List.take_length] at j1 j2 j3 j5
     rw [htl] at j3 j5
     have hde':=fun M n=>@callDe 768 752 753 (by decide) (by decide) (by decide) r ns ds p (fs.take L) hdk 0 0 M n
     rw [← hde] at hde'
     have hpu':=fun M n=>@callPu 768 752 753 (by decide) (by decide) (by decide) r (dpN r ds p ns (fs.take L)) ds p w (j1.pto j2 hp) hw64 L 0 M n
     rw [← hpu] at hpu'
     have hPl:(putT (r,dpN r ds p ns (fs.take L),ds) p w).2.1.length=(dpN r ds p ns (fs.take L)).length:=setN_len
     have hP0:putT (r,dpN r ds p ns (fs.take L),ds) p w=(r,(putT (r,dpN r ds p ns (fs.take L),ds) p w).2.1,ds):=rfl
     have htR:tbOK (r,(putT (r,dpN r ds p ns (fs.take L),ds) p w).2.1,ds):=⟨setN_ok j2.1 hw64 (lsT_lt j1 hp).1,by rw [hPl];exact j2.2.1,j2.2.2⟩
     obtain ⟨R,hR⟩:∃ R,R=(putT (r,dpN r ds p ns (fs.take L),ds) p w).2.1:=⟨_,rfl⟩
     rw [← hR] at hPl hpu' htR ⊢
     have hdp':=fun M n=>@callDp 768 752 753 (by decide) (by decide) (by decide) r R ds g (gi fs L) htR hvt.num.dasc L 0 M n
     rw [← hdp] at hdp'
     simp only [Nat.zero_add,Nat.add_zero,U,htl,hPl,irows_tk] at hde' hpu' hdp'
     have hil:=@insL_len ds g (gi fs L)
     obtain ⟨D,hD⟩:∃ D,D=dpN r ds p ns (fs.take L):=⟨_,rfl⟩
     rw [← hD] at hde' hpu' hPl hdp'
     have hgg:=irows_gi hLf
     have hgE:=irows_gE hLf
     obtain ⟨fl,hfl⟩:∃ fl,fl=gi fs L:=⟨_,rfl⟩
     rw [← hfl] at hgg hgE hdp' hil ⊢
     have hL1:((L+1:Nat):Int) - 1=(L:Int):=by omega
     have hL2:(L:Int)+1 - 1=(L:Int):=by omega
     have hLI:(L:Int)<(fs.length:Int):=by omega
     clear hR hD hP0
     have zS:=jj hck'<|jj hdc'<|jj hla'<|jj hgm<|jj hfh'<|jj hcl'<|jj hde'<|jj hpu'<|jj hdp'<|jj hL0<|jj hL1<|jj hL2<|jj hgg<|jj hgE<|jj hLf<|hLI
     refine dF64 ?_
     repeat (intro K hK)
     clear zS
     have tkR:List.take D.length (nrows R)=nrows R:=List.take_of_length_le (by simp;omega)
     have tkd:List.take (ds.length+1) (prows (insL ds g fl))=prows (insL ds g fl):=List.take_of_length_le (by simp;omega)
     refine ⟨by simp,?_⟩
     simp [leaves_iff,Tryz.f53,hPl,hil,tkR,tkd]
     try exact dt
    ·rw [if_neg hf]
     have hff:(decide (fs.length=L+1)&&usB ns ds fs)=false:=by
      cases hu:usB ns ds fs
      ·simp
      ·rw [hu] at hf;simp at hf;simp [hf]
     rw [hff] at hfh'
     have zS:=jj hck'<|jj hdc'<|jj hla'<|jj hgm<|jj hL0<|hfh'
     refine dM64 ?_
     repeat (intro K hK)
     clear zS
     all_goals refine ⟨by simp,?_⟩
     all_goals simp [leaves_iff,Tryz.f53,nrows,prows]
     all_goals try exact dt
end Go.AM
namespace Go.AM
open Go Go.Proofs
def partR (w:Nat) (i:Int):Int×Int :=
 if (decR w).2≠0 then (0,(decR w).2)
 else if (decR w).1.1≠1∨(decR w).1.2.2.2.2.2=false then (0,11)
 else if i<0∨8≤i then (0,2)
 else encR (1,(decR w).1.2.1+i,(decR w).1.2.2.1,(decR w).1.2.2.2.1,(decR w).1.2.2.2.2.1,false)
theorem decR_rng (w:Nat):0≤(decR w).1.2.1∧(decR w).1.2.1≤4294967295:=by
 unfold decR
 split
 ·exact (prs_rng w).2
 ·decide
set_option maxHeartbeats 4000000 in
theorem s68 (X:AX) (hX:XOK Tryz.prog X) (hw:X.W wT) (hdc:∀ n:Nat,n<2^64→∀ M k,X.call 56 [U n] M k=some (.tup [EnV (decR n).1,I (decR n).2],[]))
  (hen:∀ k f d a x h M n,X.call 143 [.agg [I k,I f,B d,B a,B x,B h]] M n=some (.tup [U (encR (k,f,d,a,x,h)).1,I (encR (k,f,d,a,x,h)).2],[])) :
  PSound Tryz.prog 68 (specF (ι:={x:Nat×Int // x.1<2^64}) (fun x=>[U x.1.1,I x.1.2]) fun x=>retOf [U (partR x.1.1 x.1.2).1,I (partR x.1.1 x.1.2).2]):=by
 refine psound_spec hX mixed Tryz.func68 rfl fun ⟨⟨w,i⟩,hw64⟩ w0 G=>⟨by show 2≤40;decide,rfl,?_⟩
 show AW ⟨Tryz.prog,X,40,w0,.pure G⟩ _ _ _
 have hc:Cx.OK ⟨Tryz.prog,X,40,w0,.pure G⟩:=⟨hX,mixed⟩
 simp only at hw64 ⊢
 have hdc':=hdc w hw64
 have hr:=decR_rng w
 unfold partR
 obtain ⟨⟨⟨k,f,d,a,x,h⟩,e⟩,hE⟩:∃ r,r=decR w:=⟨_,rfl⟩
 rw [← hE] at hdc' hr ⊢
 clear hE
 simp only at hr ⊢
 simp only [EnV,U] at hdc' ⊢
 have hen':=hen 1 (f+i) d a x false
 obtain ⟨⟨e1,e2⟩,hR⟩:∃ R,R=encR (1,f+i,d,a,x,false):=⟨_,rfl⟩
 rw [← hR] at hen' ⊢
 simp only [U] at hen'
 rcases Decidable.em (e=0) with he|he
 ·subst he
  rw [if_neg (by simp)]
  rcases Decidable.em (k=1) with hk|hk
  ·subst hk
   cases h with
   | false =>
    rw [if_pos (.inr rfl)]
    have zS:=hdc'
    refine dM64 ?_
    repeat (intro K hK)
    clear zS
    all_goals refine ⟨by simp,?_⟩
    all_goals simp [leaves_iff,Tryz.f68]
    all_goals try exact dt
   | true =>
    rw [if_neg (by simp)]
    rcases Decidable.em (i<0) with hi|hi
    ·rw [if_pos (.inl hi)]
     have zS:=jj hdc'<|hi
     refine dM64 ?_
     repeat (intro K hK)
     clear zS
     all_goals refine ⟨by simp,?_⟩
     all_goals simp [leaves_iff,Tryz.f68]
     all_goals try exact dt
    ·rcases Decidable.em (8≤i) with hi2|hi2
     ·rw [if_pos (.inr hi2)]
      have zS:=jj hdc'<|jj hi<|hi2
      refine dM64 ?_
      repeat (intro K hK)
      clear zS
      all_goals refine ⟨by simp,?_⟩
      all_goals simp [leaves_iff,Tryz.f68]
      all_goals try exact dt
     ·rw [if_neg (by omega)]
      have zS:=jj hdc'<|jj hi<|jj hi2<|hen'
      refine dM64 ?_
      repeat (intro K hK)
      clear zS
      all_goals refine ⟨by simp,?_⟩
      all_goals simp [leaves_iff,Tryz.f68]
      all_goals try exact dt
  ·rw [if_pos (.inl hk)]
   have zS:=jj hdc'<|hk
   refine dM64 ?_
   repeat (intro K hK)
   clear zS
   all_goals refine ⟨by simp,?_⟩
   all_goals simp [leaves_iff,Tryz.f68]
   all_goals try exact dt
 ·rw [if_pos he]
  have zS:=jj hdc'<|he
  refine dM64 ?_
  repeat (intro K hK)
  clear zS
  all_goals refine ⟨by simp,?_⟩
  all_goals simp [leaves_iff,Tryz.f68]
  all_goals try exact dt
end Go.AM
