/- A part of the proof: what functions of the program compute, by abstract execution of their code. Its theorems hold without further condition. -/
import Derived.Test.YtcfhmdljeeppfaaGreatSSPtT
import Derived.Test.YtcfhmdljeeppfaaGreatSPt73
set_option linter.all false
namespace Go.AM
open Go Go.Proofs
set_option maxRecDepth 4000
theorem keS_at {t:Tb} {g f:Int} (ht:tbOK t):keepS2 [tAV t,I g,I f] (tMs t)=some (.agg [I t.1,.sl 0 1 9 0 t.2.1.length,.sl 2 1 2 0 (t.2.2.length+1)],tMs t++[.vec 1 2 false (prows (insK t.2.2 (g,f)))]):=by
 refine specG_eq (ι:={x:Tb×Int×Int // tbOK x.1}) (A:=fun x=>[tAV x.1.1,I x.1.2.1,I x.1.2.2]) (M:=fun x=>tMs x.1.1) (R:=fun x=>retOf [.agg [I x.1.1.1,.sl 0 1 9 0 x.1.1.2.1.length,.sl 2 1 2 0 (x.1.1.2.2.length+1)]]) (O:=fun x=>tMs x.1.1++[.vec 1 2 false (prows (insK x.1.1.2.2 (x.1.2.1,x.1.2.2)))]) ⟨(t,g,f),ht⟩ fun j hA hM=>?_
 obtain ⟨⟨t',g',f'⟩,h'⟩:=j
 simp only [List.cons.injEq,and_true,I,AV.v.injEq,Value.int.injEq,true_and] at hA
 have e1:=tAV_inj hA.1 hM
 subst e1
 obtain ⟨_,rfl,rfl⟩:=hA
 exact ⟨rfl,rfl⟩
set_option maxHeartbeats 2000000 in
theorem callKe {a b:Nat} (hab:a≠b) {r:Int} {ns:NdL} {ds:List Dp} {g f:Int} (ht:tbOK (r,ns,ds)) {v v2:Nat} (M:Nat→AO) (nid:Nat) (ha:a<nid) (hb:b<nid)
  (h0:M a=.vec (v+1) 9 false (nrows ns)) (h1:M b=.vec (v2+1) 2 false (prows ds)) :
  callG keepS2 [.agg [I r,.sl a (v+1) 9 0 ns.length,.sl b (v2+1) 2 0 ds.length],I g,I f] M nid=some (.agg [I r,.sl a (v+1) 9 0 ns.length,.sl nid 1 2 0 (ds.length+1)],[(a,.vec (v+1) 9 false (nrows ns)),(b,.vec (v2+1) 2 false (prows ds)),(nid,.vec 1 2 false (prows (insK ds (g,f))))]):=by
 have hF:=keS_at (t:=(r,ns,ds)) (g:=g) (f:=f) ht
 simp only [tAV,tMs] at hF
 unfold callG
 have hba:b≠a:=fun e=>hab e.symm
 have hg:gat M 64 (nmsL [.agg [I r,.sl a (v+1) 9 0 ns.length,.sl b (v2+1) 2 0 ds.length],I g,I f]) []=[a,b]:=by
  simp [gat,nmsL,AV.nms,AO.nms,h0,h1,hab,hba]
 simp only [hg]
 rw [if_pos ?cg]
 case cg=>simp [CallG,nmsL,AV.nms,AO.nms,Led,curBL,AV.curB,AO.curB,verOf,notDead,h0,h1,hab,hba]
 have e1:1+v=v+1:=by omega
 have e2:1+v2=v2+1:=by omega
 simp [renL,AV.ren,AO.ren,posN,canO,nmsL,h0,h1,hF,RetG,getL,AV.nms,AO.nms,updN,nmN,shN,verOf,rng,Led,hab,hba,e1,e2]
end Go.AM
namespace Go.AM
open Go Go.Proofs
set_option maxHeartbeats 8000000 in
theorem s54 (X:AX) (hX:XOK Tryz.prog X) (hw:X.W wT)
  (hch:∀ t:Tb,tbOK t→∀ M n,X.call 40 [TbV t] M n=some (I (chk t),[]))
  (hwa:∀ (t:Tb) (x:Int),tbOK t→∀ M n,X.call 36 [TbV t,I x] M n=some (.tup [U (walkT t x).1,I (walkT t x).2.1,I (walkT t x).2.2],[]))
  (hdc:∀ n:Nat,n<2^64→∀ M k,X.call 131 [U n] M k=some (.tup [EnV (decR n).1,I (decR n).2],[]))
  (hus:∀ (t:Tb) (fs:List Int),tbOK t→fs.length≤1000→∀ M n,X.call 133 [TbV t,.rd 1 (irows fs)] M n=some (B (usB t.2.1 t.2.2 fs),[]))
  (hde:∀ (t:Tb) (p L:Nat) (fs:List Int),rdOK (t,p,L,fs)→∀ M n,X.call 134 [TbV t,I p,I L,.rd 1 (irows fs)] M n=some (TbC (t.1,dpN t.1 t.2.2 p t.2.1 fs,t.2.2) n,outT (t.1,dpN t.1 t.2.2 p t.2.1 fs,t.2.2) n))
  (hst:OwnR X 111 (fun t x=>0≤x∧ptO t x.toNat) fun t x=>.tup [I (lsT t x.toNat).1,I (lsT t x.toNat).2.1]) (hke:X.call 136=callG keepS2) :
  PSound Tryz.prog 54 (specF (ι:={x:StD // stOK x}) (fun x=>[TbV x.1.1,I x.1.2.1,U x.1.2.2.1,.rd 1 (irows x.1.2.2.2)]) fun x=>retOf [TbO (setH x.1.1 x.1.2.1 x.1.2.2.1 x.1.2.2.2).1,I (setH x.1.1 x.1.2.1 x.1.2.2.1 x.1.2.2.2).2]):=by
 refine psound_spec hX mixed Tryz.func54 rfl fun ⟨⟨⟨r,ns,ds⟩,pI,w,fs⟩,ht,hl9,hw64,hf8⟩ w0 G=>⟨by show 4≤107;decide,rfl,?_⟩
 show AW ⟨Tryz.prog,X,107,w0,.pure G⟩ _ _ _
 have hc:Cx.OK ⟨Tryz.prog,X,107,w0,.pure G⟩:=⟨hX,mixed⟩
 simp only at hl9 hw64 hf8 ht ⊢
 have hch':=hch _ ht
 have hl1:ns.length≤1000000:=ht.2.1
 have hl2:ds.length≤1000000:=ht.2.2
 rcases Decidable.em (ckd (r,ns,ds) pI 64≠0) with hk|hk
 ·have e:setH (r,ns,ds) pI w fs=(zT,ckd (r,ns,ds) pI 64):=by unfold setH;rw [if_pos hk]
  rw [e]
  rcases Decidable.em (chk (r,ns,ds)=0) with hcz|hcz
  ·have hr:pI<0∨64≤pI:=by
    by_cases h:pI<0∨64≤pI
    ·exact h
    ·exact absurd (ckd_z hcz (by omega) (by omega)) hk
   rw [ckd_r hcz hr]
   rw [hcz] at hch'
   simp only [TbV,TbO,zT,U] at hch' ⊢
   rcases hr with hr|hr
   ·have zS:=jj hch'<|hr
    refine dM64 ?_
    repeat (intro K hK)
    clear zS
    refine ⟨by simp,?_⟩
    simp [leaves_iff,Tryz.f54,nrows,prows]
    try exact dt
   ·have hr0:¬ pI<0:=by omega
    have zS:=jj hch'<|jj hr<|hr0
    refine dM64 ?_
    repeat (intro K hK)
    clear zS
    refine ⟨by simp,?_⟩
    simp [leaves_iff,Tryz.f54,nrows,prows]
    try exact dt
  ·rw [ckd_c hcz]
   obtain ⟨c,hc0⟩:∃ c,c=chk (r,ns,ds):=⟨_,rfl⟩
   rw [← hc0] at hch' hcz ⊢
   simp only [TbV,TbO,zT,U] at hch' ⊢
   have zS:=jj hch'<|hcz
   refine dM64 ?_
   repeat (intro K hK)
   clear zS
   refine ⟨by simp,?_⟩
   simp [leaves_iff,Tryz.f54,nrows,prows]
   try exact dt
 ·obtain ⟨hpv,hp0,hp1⟩:=ckd_pt ht hk
  have hvt:=ckd_vt ht hk
  obtain ⟨g,rfl⟩:=Int.eq_ofNat_of_zero_le hp0
  have hg:g<64:=by omega
  obtain ⟨p,hpg⟩:∃ p,p=g*8:=⟨_,rfl⟩
  have hp:p<512:=by omega
  have hcz:=(chk_iff ht).2 hvt
  rw [hcz] at hch'
  have hz:ckd (r,ns,ds) p 512=0:=ckd_z hcz (by omega) (by omega)
  have hwa':=hwa _ (p:Int) ht
  rw [walkT_z hz,Int.toNat_natCast] at hwa'
  have hdc':=hdc w hw64
  have hlw:=lsT_u64 ht hpv hp
  have hlv:=(hpv.walk hp).2.2
  obtain ⟨f0,l0,w0',hwk⟩:∃ f l w,wlk (Mof ns) r p=(f,l,w):=⟨_,_,_,rfl⟩
  obtain ⟨hl02,_,_,_,hwt,hwok⟩:=wlk_at hpv.vm hp hwk
  simp only at hlv
  rw [hwk] at hlv
  simp only at hlv
  have hus':=hus (r,ns,ds) fs ht hf8
  have eS:setH (r,ns,ds) g w fs=if (decR w).2≠0∨(decR w).1.2.2.2.2.2=false then (zT,3)
    else if l0=0∨w0'≠0 then (zT,7)
    else if fs.length=l0∧usB ns ds fs=true then ((r,(putT (r,dpN r ds p ns (fs.take (fs.length - 1)),ds) p w).2.1,insL ds g (gi fs (fs.length - 1))),0)
    else (zT,1):=by
   unfold setH
   rw [if_neg hk,Int.toNat_natCast,← hpg,hlv]
  rw [eS]
  have hgab:w0'=0→∀ d∈ds,d.1≠(g:Int):=fun h0=>grp_abs hvt hg (by rw [← hpg,hlv];simp only [h0];exact dec_huge0)
  rw [hlv] at hwa' hlw
  simp only at hwa' hlw
  have hkh:=@kind_huge w
  obtain ⟨⟨⟨k,f,d,a,x,h⟩,e⟩,hE⟩:∃ r,r=decR w:=⟨_,rfl⟩
  rw [← hE] at hdc' hkh ⊢
  have hgm:(g:Int)*8=(p:Int):=by omega
  have hg0:¬ (g:Int)<0:=by omega
  have hg1:¬ (64:Int)≤(g:Int):=by omega
  have hg64:(g:Int)<64:=by omega
  clear eS hE hwa hdc hus hch
  simp only [TbV,TbO,zT,EnV,U] at hch' hwa' hdc' hus' hkh ⊢
  rcases Decidable.em (e≠0∨h=false) with hb|hb
  ·rw [if_pos hb]
   rcases Decidable.em (e=0) with he|he
   ·obtain rfl:h=false:=hb.resolve_left (by simp [he])
    rcases Decidable.em (k=1) with hk1|hk1
    ·have zS:=jj hch'<|jj hdc'<|jj he<|jj hk1<|jj hg0<|jj hg1<|hg64
     refine dM64 ?_
     repeat (intro K hK)
     clear zS
     all_goals refine ⟨by simp,?_⟩
     all_goals simp [leaves_iff,Tryz.f54,nrows,prows]
     all_goals try exact dt
    ·have zS:=jj hch'<|jj hdc'<|jj he<|jj hk1<|jj hg0<|jj hg1<|hg64
     refine dM64 ?_
     repeat (intro K hK)
     clear zS
     all_goals refine ⟨by simp,?_⟩
     all_goals simp [leaves_iff,Tryz.f54,nrows,prows]
     all_goals try exact dt
   ·have zS:=jj hch'<|jj hdc'<|jj he<|jj hg0<|jj hg1<|hg64
    refine dM64 ?_
    repeat (intro K hK)
    clear zS
    all_goals refine ⟨by simp,?_⟩
    all_goals simp [leaves_iff,Tryz.f54,nrows,prows]
    all_goals try exact dt
  ·rw [if_neg hb]
   obtain ⟨rfl,rfl⟩:e=0∧h=true:=by
    refine ⟨by omega,?_⟩
    cases h
    ·exact absurd (Or.inr rfl) hb
    ·rfl
   obtain rfl:k=1:=hkh rfl rfl
   rcases Decidable.em (l0=0∨w0'≠0) with hlw0|hlw0
   ·rw [if_pos hlw0]
    rcases Decidable.em (l0=0) with h0|h0
    ·subst h0
     have zS:=jj hch'<|jj hdc'<|jj hwa'<|jj hgm<|jj hg0<|jj hg1<|hg64
     refine dM64 ?_
     repeat (intro K hK)
     clear zS
     all_goals refine ⟨by simp,?_⟩
     all_goals simp [leaves_iff,Tryz.f54,nrows,prows]
     all_goals try exact dt
    ·have hw0:=hlw0.resolve_left h0
     have zS:=jj hch'<|jj hdc'<|jj hwa'<|jj hgm<|jj h0<|jj hw0<|jj hg0<|jj hg1<|hg64
     refine dM64 ?_
     repeat (intro K hK)
     clear zS
     all_goals refine ⟨by simp,?_⟩
     all_goals simp [leaves_iff,Tryz.f54,nrows,prows]
     all_goals try exact dt
   ·rw [if_neg hlw0]
    obtain ⟨L,rfl⟩:∃ L,l0=L+1:=⟨l0 - 1,by omega⟩
    obtain rfl:w0'=0:=by omega
    have hL0:¬ (L:Int)+1=0:=by omega
    have hLp:((L+1:Nat):Int)=(L:Int)+1:=by omega
    simp only [hLp] at hwa'
    rcases Decidable.em (fs.length=L+1) with hf1|hf1
    ·have hf1I:(fs.length:Int)=(L:Int)+1:=by omega
     rcases Decidable.em (usB ns ds fs=true) with hf2|hf2
     ·rw [if_pos ⟨hf1,hf2⟩]
      rw [hf2] at hus'
      rw [hf1,Nat.add_sub_cancel]
      have hLf:L<fs.length:=by omega
      have hu2:=usB_take (n:=L) hf2 (by omega)
      have htl:(fs.take L).length=L:=by simp;omega
      have hde':=hde (r,ns,ds) p 1 (fs.take L) ⟨ht,hpv,hp,hu2,hl9,by simp only;omega,by rw [hlv];simp only;omega⟩
      obtain ⟨j1,j2,⟨f',w',j3,j4⟩,j5,j6⟩:=deepL hpv ht hp hu2 hl9 hwk (fs.take L).length (Nat.le_refl _) (by omega)
      rw [List.take_length] at j1 j2 j3 j5
      rw [htl] at j3 j5
      have hst':=hst r (dpN r ds p ns (fs.take L)) ds p ⟨by omega,j1.pto j2 hp⟩
      obtain ⟨e1,e2,e3,e4,e5⟩:=end_nd j1 hp j3
      simp only [Int.toNat_natCast] at hst'
      have hput:(putT (r,dpN r ds p ns (fs.take L),ds) p w).2.1=setN (dpN r ds p ns (fs.take L)) (lsT (r,dpN r ds p ns (fs.take L),ds) p).1 (g%8) w:=by
       unfold putT
       simp only
       rw [e2,show L+1 - L=1 by omega,dgt1,show p/8%8=g%8 by omega]
      rw [hput,insL_eq hvt.num.dasc (hgab rfl)]
      obtain ⟨⟨a2,b2,c2⟩,hS⟩:∃ S,S=lsT (r,dpN r ds p ns (fs.take L),ds) p:=⟨_,rfl⟩
      rw [← hS] at hst' e1 e2 e3 e5 ⊢
      simp only at hst' e1 e2 e3 e5 ⊢
      rw [show ((1:Nat):Int)=(1:Int) from rfl] at hde'
      simp only [TbV,TbC,outT] at hde'
      obtain ⟨D,hD⟩:∃ D,D=dpN r ds p ns (fs.take L):=⟨_,rfl⟩
      rw [← hD] at hde' hst' e5 j2 j5 ⊢
      have haI:(a2:Int)<(D.length:Int):=by omega
      have hgn:=nrows_gi e5
      have hgnE:=nrows_gE e5
      have h8:(gn D a2).2.length=8:=(j2.1 _ (gn_mem e5)).1
      have hset:=@nrows_setN D a2 (g%8) w e5
      have hwl:(wcs (gn D a2).2).length=8:=by simp [h8]
      have hdl:g%8<8:=by omega
      have hdI:((g%8:Nat):Int)<8:=by omega
      have hrem:(g:Int).tmod 8=((g%8:Nat):Int):=by rw [Int.tmod_eq_emod_of_nonneg (by omega)];omega
      have hsl:(setN D a2 (g%8) w).length=D.length:=setN_len
      have htR:tbOK (r,setN D a2 (g%8) w,ds):=⟨setN_ok j2.1 hw64 e5,by rw [hsl];exact j2.2.1,hl2⟩
      have hgg:=irows_gi hLf
      have hgE:=irows_gE hLf
      obtain ⟨fl,hfl⟩:∃ fl,fl=gi fs L:=⟨_,rfl⟩
      rw [← hfl] at hgg hgE ⊢
      have hke':=fun (a b:Nat) (hab:a≠b) M nid h1 h2=>@callKe a b hab r (setN D a2 (g%8) w) ds g fl htR 0 0 M nid h1 h2
      rw [← hke,hsl] at hke'
      have hil:=@insK_len _ ((g:Int),fl) ds
      have tkR:List.take D.length (nrows (setN D a2 (g%8) w))=nrows (setN D a2 (g%8) w):=List.take_of_length_le (by simp)
      have tkd:List.take (ds.length+1) (prows (insK ds ((g:Int),fl)))=prows (insK ds ((g:Int),fl)):=List.take_of_length_le (by simp;omega)
      obtain ⟨R,hR⟩:∃ R,R=setN D a2 (g%8) w:=⟨_,rfl⟩
      rw [← hR] at hset hsl tkR hke' ⊢
      obtain ⟨⟨fr,ws⟩,hm⟩:∃ m,m=gn D a2:=⟨_,rfl⟩
      rw [← hm] at hgn hgnE hwl hset
      simp only at hgn hgnE hwl hset
      obtain ⟨cs,hcs⟩:∃ cs,cs=wcs ws:=⟨_,rfl⟩
      rw [← hcs] at hgn hgnE hwl hset
      obtain ⟨dg,hdg0⟩:∃ dg,dg=g%8:=⟨_,rfl⟩
      rw [← hdg0] at hdl hdI hset hrem
      have hs1:∀ w:Int,(I fr::cs).set (1+dg) (AV.v (.int .u64 w))=I fr::cs.set dg (AV.v (.int .u64 w)):=fun w=>by rw [Nat.add_comm];rfl
      have hL1:((L+1:Nat):Int) - 1=(L:Int):=by omega
      have hL2:(L:Int)+1 - 1=(L:Int):=by omega
      have hLI:(L:Int)<(fs.length:Int):=by omega
      clear hcs hm hR hD hS hput h8 hdg0
      simp only [U,irows_tk,htl,Nat.zero_add] at hset hde' hke'
      have zS:=jj hch'<|jj hdc'<|jj hwa'<|jj hgm<|jj hg0<|jj hg1<|jj hg64<|jj hL0<|jj hL1<|jj hL2<|jj hf1<|jj hf1I<|jj hus'<|jj hde'<|jj hst'<|jj e5<|jj haI<|jj hgn<|jj hgnE<|jj hwl<|jj hdl<|jj hdI<|jj hrem<|jj hset<|jj hs1<|jj hgg<|jj hgE<|jj hLf<|jj hLI<|hke'
      refine dF64 ?_
      repeat (intro K hK)
      clear zS
      trace_state
      refine ⟨by simp,?_⟩
      simp [leaves_iff,Tryz.f54,hsl,hil,tkR,tkd]
      try exact dt
     ·rw [if_neg (fun h=>hf2 h.2)]
      have hff:usB ns ds fs=false:=by simpa using hf2
      rw [hff] at hus'
      have zS:=jj hch'<|jj hdc'<|jj hwa'<|jj hgm<|jj hg0<|jj hg1<|jj hg64<|jj hL0<|jj hf1<|jj hf1I<|hus'
      refine dM64 ?_
      repeat (intro K hK)
      clear zS
      all_goals refine ⟨by simp,?_⟩
      all_goals simp [leaves_iff,Tryz.f54,nrows,prows]
      all_goals try exact dt
    ·rw [if_neg (fun h=>hf1 h.1)]
     have hf1I:¬ (fs.length:Int)=(L:Int)+1:=by omega
     have zS:=jj hch'<|jj hdc'<|jj hwa'<|jj hgm<|jj hg0<|jj hg1<|jj hg64<|jj hL0<|jj hf1<|hf1I
     refine dM64 ?_
     repeat (intro K hK)
     clear zS
     all_goals refine ⟨by simp,?_⟩
     all_goals simp [leaves_iff,Tryz.f54,nrows,prows]
     all_goals try exact dt
end Go.AM
namespace Go.AM
open Go Go.Proofs
set_option maxRecDepth 4000
noncomputable abbrev Tfs0:AX:=TeB
theorem tfs0:XOK Tryz.prog Tfs0:=teB
noncomputable def Tfs1:AX:=Tfs0.add 148 (callG insS)
theorem tfs1:XOK Tryz.prog Tfs1:=xok_putM tfs0 (by kernel_rfl) (.inl ⟨(s148 Tfs0 tfs0 w0T).callG,body_ok _ Tryz.func148 (by kernel_rfl)⟩) fun _ _ _ _ h=>callG_keys h
noncomputable def Tfs2:AX:=Tfs1.add 136 (callG keepS2)
theorem tfs2:XOK Tryz.prog Tfs2:=xok_putM tfs1 (by kernel_rfl) (.inl ⟨(s136 Tfs1 tfs1 w0T).callG,body_ok _ Tryz.func136 (by kernel_rfl)⟩) fun _ _ _ _ h=>callG_keys h
noncomputable def Tfs3:AX:=Tfs2.add 104 (callP ClF)
theorem tfs3:XOK Tryz.prog Tfs3:=xok_spec tfs2 (s104 Tfs2 tfs2 w0T) (fun x=>TbO_fl) Tryz.func104 (by kernel_rfl)
noncomputable def Tfs4:AX:=Tfs3.add 133 (callP UsF)
theorem tfs4:XOK Tryz.prog Tfs4:=xok_spec tfs3 (s133 Tfs3 tfs3 w0T (fun t f h M n=>cFi t f h M n)) (fun _=>trivial) Tryz.func133 (by kernel_rfl)
noncomputable def Tfs5:AX:=Tfs4.add 149 (callG rpS)
theorem tfs5:XOK Tryz.prog Tfs5:=xok_putM tfs4 (by kernel_rfl) (.inl ⟨(s149 Tfs4 tfs4 w0T (ofiR rfl)).callG,body_ok _ Tryz.func149 (by kernel_rfl)⟩) fun _ _ _ _ h=>callG_keys h
theorem ostR {X:AX} (h:X.call 111=callP StF):OwnR X 111 (fun t x=>0≤x∧ptO t x.toNat) fun t x=>.tup [I (lsT t x.toNat).1,I (lsT t x.toNat).2.1]:=fun r ns ds x hd a va b vb f1 f2 M n h1 h2=>by
 rw [h]
 obtain ⟨k,rfl⟩:∃ k:Nat,x=k:=⟨x.toNat,by omega⟩
 exact oT3 (D:=ptO) (R:=fun t p=>retOf [I (lsT t p).1,I (lsT t p).2.1]) (t:=(r,ns,ds)) hd.2 ⟨⟨f1,h1⟩,f2,h2⟩ n rfl (by simp [retOf,openRet,openVals,openVal,openLeaves,openLeaf])
noncomputable def WdF:List AV→Option AV:=specF (ι:=En) (fun x=>[EnV x]) fun x=>retOf [U (encR x).1]
theorem cWd (f:Nat) (hf:f≤4294967295) (M:Nat→AO) (n:Nat):callP WdF [.agg [I 4,I f,B false,B false,B false,B false]] M n=some (U ((f*256+4:Nat)),[]):=by
 have h:=callP_spec (ι:=En) (A:=fun x=>[EnV x]) (R:=fun x=>retOf [U (encR x).1]) (avs:=[.agg [I 4,I f,B false,B false,B false,B false]]) (M:=M) (n:=n) (4,(f:Int),false,false,false,false) (by simp [EnV]) (by
  rintro e' e
  simp only [List.cons.injEq,EnV_inj,and_true] at e;subst e;rfl) (by simp [U])
 rw [encR_tab hf] at h
 exact h
noncomputable def Tfs6:AX:=Tfs5.add 150 (callP WdF)
theorem tfs6:XOK Tryz.prog Tfs6:=xok_spec tfs5 (s150 Tfs5 tfs5 w0T (fun k f d a x h M n=>cEn k f d a x h M n)) (fun _=>trivial) Tryz.func150 (by kernel_rfl)
noncomputable def DeF:List AV→Option AV:=specF (ι:={x:RdD // rdOK x}) (fun x=>[TbV x.1.1,I x.1.2.1,I x.1.2.2.1,.rd 1 (irows x.1.2.2.2)]) fun x=>retOf [TbO (x.1.1.1,dpN x.1.1.1 x.1.1.2.2 x.1.2.1 x.1.1.2.1 x.1.2.2.2,x.1.1.2.2)]
theorem open_tb {t:Tb} {n:Nat}:openRet n (retOf [TbO t])=(TbC t n,outT t n,n+2):=by
 simp [retOf,openRet,openVal,openLeaves,openLeaf,TbO,TbC,outT]
theorem cDp' (t:Tb) (p L:Nat) (fs:List Int) (h:rdOK (t,p,L,fs)) (M:Nat→AO) (n:Nat):callP DeF [TbV t,I p,I L,.rd 1 (irows fs)] M n=some (TbC (t.1,dpN t.1 t.2.2 p t.2.1 fs,t.2.2) n,outT (t.1,dpN t.1 t.2.2 p t.2.1 fs,t.2.2) n):=by
 have h:=callP_spec (ι:={x:RdD // rdOK x}) (A:=fun x=>[TbV x.1.1,I x.1.2.1,I x.1.2.2.1,.rd 1 (irows x.1.2.2.2)]) (R:=fun x=>retOf [TbO (x.1.1.1,dpN x.1.1.1 x.1.1.2.2 x.1.2.1 x.1.1.2.1 x.1.2.2.2,x.1.1.2.2)]) (avs:=[TbV t,I p,I L,.rd 1 (irows fs)]) (M:=M) (n:=n) ⟨(t,p,L,fs),h⟩ (by simp [TbV]) (by
  rintro ⟨⟨t',p',L',fs'⟩,h'⟩ e
  simp only [List.cons.injEq,TbV_inj,I,AV.v.injEq,Value.int.injEq,true_and,and_true,AV.rd.injEq,irows_inj,Int.ofNat_inj] at e
  obtain ⟨rfl,rfl,rfl,rfl⟩:=e;rfl) (by rw [open_tb];simp only;omega)
 rw [open_tb] at h
 exact h
noncomputable def Tfs7:AX:=Tfs6.add 134 (callP DeF)
theorem tfs7:XOK Tryz.prog Tfs7:=xok_spec tfs6 (s134 Tfs6 tfs6 w0T (fun t h M n=>cCl t h M n) (ostR rfl) (fun p l h1 h2 M n=>cDig p l h1 h2 M n) (fun f hf M n=>cWd f hf M n) rfl rfl) (fun x=>TbO_fl) Tryz.func134 (by kernel_rfl)
theorem cUs (t:Tb) (fs:List Int) (ht:tbOK t) (hl:fs.length≤1000) (M:Nat→AO) (n:Nat):callP UsF [TbV t,.rd 1 (irows fs)] M n=some (B (usB t.2.1 t.2.2 fs),[]) :=
 callP_spec (ι:={x:UsD // tbOK x.1∧x.2.length≤1000}) (A:=fun x=>[TbV x.1.1,.rd 1 (irows x.1.2)]) (R:=fun x=>retOf [B (usB x.1.1.2.1 x.1.1.2.2 x.1.2)]) ⟨(t,fs),ht,hl⟩ (by simp [TbV]) (by
  rintro ⟨⟨t',fs'⟩,h'⟩ e
  simp only [List.cons.injEq,TbV_inj,and_true,AV.rd.injEq,irows_inj,true_and] at e
  obtain ⟨rfl,rfl⟩:=e;rfl) (by simp)
noncomputable def Tfs8:AX:=Tfs7.add 52 (callP SeF)
theorem tfs8:XOK Tryz.prog Tfs8:=xok_spec tfs7 (s52 Tfs7 tfs7 w0T (fun t x h M n=>cWa t x h M n) (fun n h M k=>cDe n h M k) (fun e l M n=>cSu e l M n) (fun t fs h1 h2 M n=>cUs t fs h1 h2 M n) (fun t p L fs h M n=>cDp' t p L fs h M n) (ostR rfl)) (fun x=>tabO_fl) Tryz.func52 (by kernel_rfl)
noncomputable def Tfs9:AX:=Tfs8.add 54 (callP ShF)
theorem tfs9:XOK Tryz.prog Tfs9:=xok_spec tfs8 (s54 Tfs8 tfs8 w0T (fun t h M n=>cCh t h M n) (fun t x h M n=>cWa t x h M n) (fun n h M k=>cDe n h M k) (fun t fs h1 h2 M n=>cUs t fs h1 h2 M n) (fun t p L fs h M n=>cDp' t p L fs h M n) (ostR rfl) rfl) (fun x=>tabO_fl) Tryz.func54 (by kernel_rfl)
noncomputable abbrev TeCs:AX:=Tfs9
theorem teCs:XOK Tryz.prog TeCs:=tfs9
theorem cSt2 {R:StD→Tb×Int} {x:StD} (h:stOK x) (M:Nat→AO) (n:Nat):callP (specF (ι:={x:StD // stOK x}) (fun x=>[TbV x.1.1,I x.1.2.1,U x.1.2.2.1,.rd 1 (irows x.1.2.2.2)]) fun x=>retOf [TbO (R x.1).1,I (R x.1).2]) [TbV x.1,I x.2.1,U x.2.2.1,.rd 1 (irows x.2.2.2)] M n=some (.tup [TbC (R x).1 n,I (R x).2],outT (R x).1 n):=by
 rw [callP_spec (ι:={x:StD // stOK x}) (A:=fun x=>[TbV x.1.1,I x.1.2.1,U x.1.2.2.1,.rd 1 (irows x.1.2.2.2)]) (R:=fun x=>retOf [TbO (R x.1).1,I (R x.1).2]) ⟨x,h⟩ (by simp [TbV,U]) ?_ (by rw [open_tab];simp only;omega),open_tab]
 rintro ⟨⟨t',p',w',fs'⟩,h'⟩ e
 obtain ⟨t,p,w,fs⟩:=x
 simp only [List.cons.injEq,TbV_inj,U,I,AV.v.injEq,Value.int.injEq,true_and,and_true,AV.rd.injEq,irows_inj,Int.ofNat_inj] at e
 obtain ⟨rfl,rfl,rfl,rfl⟩:=e;rfl
theorem lawP2s:LawP TeCs:=⟨teCs,w0T,fun t M n=>cFew t M n,fun M n=>cAw M n,fun t h=>samO rfl h,fun l h=>eqiO rfl h,fun l h=>eqpO rfl h⟩
end Go.AM
namespace Go.AM
open Go Go.Proofs
@[simp] theorem tySa:Types Tryz.prog 95=some ⟨.struct [(0,3,1),(1,76,1),(2,89,1)],3,40,[.int .i64 0,.int .u64 0,.slice none 0 0]⟩:=by kernel_rfl
theorem zT_ok:tbOK zT:=⟨fun n hn=>by simp [zT] at hn,by simp [zT],by simp [zT]⟩
theorem setP_ok {x:StD} (h:stOK x):tbOK (setP x.1 x.2.1 x.2.2.1 x.2.2.2).1:=by
 obtain ⟨⟨r,ns,ds⟩,pI,w,fs⟩:=x
 obtain ⟨ht,hl9,hw64,hf8⟩:=h
 simp only at ht hl9 hw64 hf8 ⊢
 unfold setP
 split
 ·exact zT_ok
 ·rename_i hk
  obtain ⟨hpv,hp0,hp1⟩:=ckd_pt ht hk
  obtain ⟨p,rfl⟩:=Int.eq_ofNat_of_zero_le hp0
  have hp:p<512:=by omega
  rw [Int.toNat_natCast]
  split
  ·exact zT_ok
  ·split
   ·exact zT_ok
   ·split
    ·rename_i hf
     obtain ⟨f0,l0,w0,hwk⟩:∃ f l w,wlk (Mof ns) r p=(f,l,w):=⟨_,_,_,rfl⟩
     have hlv:=(hpv.lev hp).1
     simp only at hlv
     rw [hwk] at hlv
     obtain ⟨j1,j2,_⟩:=deepL hpv ht hp hf.2 hl9 hwk fs.length (Nat.le_refl _) (by have:=hf.1;simp only at hlv;omega)
     rw [List.take_length] at j1 j2
     have hlt:=(lsT_lt j1 hp).1
     exact ⟨setN_ok j2.1 hw64 hlt,by show (setN _ _ _ _).length≤_;rw [setN_len];exact j2.2.1,j2.2.2⟩
    ·exact zT_ok
theorem setH_ok {x:StD} (h:stOK x) (hd:x.1.2.2.length≤999000):tbOK (setH x.1 x.2.1 x.2.2.1 x.2.2.2).1:=by
 obtain ⟨⟨r,ns,ds⟩,pI,w,fs⟩:=x
 obtain ⟨ht,hl9,hw64,hf8⟩:=h
 simp only at ht hl9 hw64 hf8 hd ⊢
 unfold setH
 split
 ·exact zT_ok
 ·rename_i hk
  obtain ⟨hpv,hp0,hp1⟩:=ckd_pt ht hk
  obtain ⟨g,rfl⟩:=Int.eq_ofNat_of_zero_le hp0
  have hp:g*8<512:=by omega
  rw [Int.toNat_natCast]
  split
  ·exact zT_ok
  ·split
   ·exact zT_ok
   ·split
    ·rename_i hf
     obtain ⟨f0,l0,w0,hwk⟩:∃ f l w,wlk (Mof ns) r (g*8)=(f,l,w):=⟨_,_,_,rfl⟩
     have hlv:=(hpv.lev hp).1
     simp only at hlv
     rw [hwk] at hlv
     have hu2:=usB_take (n:=fs.length - 1) hf.2 (by omega)
     obtain ⟨j1,j2,_⟩:=deepL hpv ht hp hu2 hl9 hwk (fs.take (fs.length - 1)).length (Nat.le_refl _) (by have:=hf.1;simp only at hlv;simp;omega)
     rw [List.take_length] at j1 j2
     have hlt:=(lsT_lt j1 hp).1
     exact ⟨setN_ok j2.1 hw64 hlt,by show (setN _ _ _ _).length≤_;rw [setN_len];exact j2.2.1,by show (insL _ _ _).length≤_;rw [insL_len];simp only;omega⟩
    ·exact zT_ok
def SetFn (X:AX) (f:FuncId) (R:Tb→Int→Nat→List Int→Tb×Int):Prop:=∀ x:StD,stOK x→∀ M n,X.call f [TbV x.1,I x.2.1,U x.2.2.1,.rd 1 (irows x.2.2.2)] M n=some (.tup [TbC (R x.1 x.2.1 x.2.2.1 x.2.2.2).1 n,I (R x.1 x.2.1 x.2.2.1 x.2.2.2).2],outT (R x.1 x.2.1 x.2.2.1 x.2.2.2).1 n)
structure LawS (X:AX):Prop extends LawP X where
 se:SetFn X 51 setP
 se':SetFn X 52 setP
 sh:SetFn X 53 setH
 sh':SetFn X 54 setH
theorem lawS:LawS TeCs:=⟨lawP2s,fun x h M n=>cSt2 (R:=fun x=>setP x.1 x.2.1 x.2.2.1 x.2.2.2) h M n,fun x h M n=>cSt2 (R:=fun x=>setP x.1 x.2.1 x.2.2.1 x.2.2.2) h M n,fun x h M n=>cSt2 (R:=fun x=>setH x.1 x.2.1 x.2.2.1 x.2.2.2) h M n,fun x h M n=>cSt2 (R:=fun x=>setH x.1 x.2.1 x.2.2.1 x.2.2.2) h M n⟩
set_option maxHeartbeats 8000000 in
theorem s8 (X:AX) (L:LawS X):PSound Tryz.prog 8 (specF (ι:={x:Tb×Opp // tbF x.1∧x.2.2.1<2^64}) (fun x=>[TbV x.1.1,OpV x.1.2]) fun _=>retOf [B true]):=by
 have hX:=L.ok
 have hw:=L.w
 refine psound_spec hX mixed Tryz.func8 rfl fun ⟨⟨⟨r,ns,ds⟩,p,w,fs⟩,htf,hw64⟩ w0 G=>⟨by show 2≤90;decide,rfl,?_⟩
 show AW ⟨Tryz.prog,X,90,w0,.pure G⟩ _ _ _
 have hc:Cx.OK ⟨Tryz.prog,X,90,w0,.pure G⟩:=⟨hX,mixed⟩
 have few:=L.few (r,ns,ds)
 have aw:=L.aw
 simp only at few htf hw64 ⊢
 rcases Decidable.em (ns.length≤80∧ds.length≤70) with hf|hf
 ·rw [decide_eq_true hf] at few
  rcases Decidable.em (8<fs.length) with h8|h8
  ·have h8I:(8:Int)<(fs.length:Int):=by omega
   simp only [TbV,OpV,U] at few ⊢
   have zS:=jj few<|jj aw<|jj h8<|h8I
   refine dF64 ?_
   repeat (intro K hK)
   clear zS
   all_goals refine ⟨by simp,?_⟩
   all_goals simp [leaves_iff,Tryz.f8]
   all_goals try exact dt
  ·have h8I:¬ (8:Int)<(fs.length:Int):=by omega
   have ht:=tbF_ok htf hf
   have hs1:stOK ((r,ns,ds),p,w,fs):=⟨ht,by show ns.length≤_;omega,hw64,by show fs.length≤_;omega⟩
   have hs2:stOK ((r,ns,ds),IntKind.i64.wrap (p.tdiv 8),w,fs):=hs1
   have se:=L.se _ hs1
   have se':=L.se' _ hs1
   have sh:=L.sh _ hs2
   have sh':=L.sh' _ hs2
   have sam:=L.same _ (setP_ok hs1)
   have sam2:=L.same _ (setH_ok hs2 (by show ds.length≤_;omega))
   simp only at se se' sh sh' sam sam2
   obtain ⟨⟨⟨r1,n1,d1⟩,e1⟩,hT⟩:∃ x,x=setP (r,ns,ds) p w fs:=⟨_,rfl⟩
   rw [← hT] at se se' sam
   obtain ⟨⟨⟨r2,n2,d2⟩,e2⟩,hT2⟩:∃ x,x=setH (r,ns,ds) (IntKind.i64.wrap (p.tdiv 8)) w fs:=⟨_,rfl⟩
   rw [← hT2] at sh sh' sam2
   unfold SamO at sam sam2
   have hLI:(fs.length:Int)≤8:=by omega
   simp only [TbV,TbC,OpV,outT,U] at few se se' sh sh' sam sam2 ⊢
   have zS:=jj few<|jj aw<|jj h8<|jj h8I<|jj se<|jj se'<|jj sh<|jj sh'<|jj sam<|sam2
   refine dF64 ?_
   repeat (intro K hK)
   clear zS
   all_goals refine ⟨by simp,?_⟩
   all_goals simp [leaves_iff,Tryz.f8]
   all_goals try exact dt
 ·rw [decide_eq_false hf] at few
  simp only [TbV,OpV,U] at few ⊢
  have zS:=jj few<|aw
  refine dF64 ?_
  repeat (intro K hK)
  clear zS
  all_goals refine ⟨by simp,?_⟩
  all_goals simp [leaves_iff,Tryz.f8]
  all_goals try exact dt
theorem sets':PSound Tryz.prog 8 (specF (ι:={x:Tb×Opp // tbF x.1∧x.2.2.1<2^64}) (fun x=>[TbV x.1.1,OpV x.1.2]) fun _=>retOf [B true]):=s8 TeCs lawS
end Go.AM
