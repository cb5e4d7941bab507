/- A part of the proof; no condition. -/
import Derived.Test.YtcfhmdljeeppfaaGreatQPt43
import Derived.Test.YtcfhmdljeeppfaaGreatQAmDs
set_option linter.all false
set_option maxHeartbeats 8000000
namespace Go.AM
open Go Go.Proofs
set_option maxRecDepth 4000 in
theorem callDp {a b c:Nat} (hab:a≠b) (hac:a≠c) (hbc:b≠c) {r:Int} {ns:NdL} {ds:List Dp} {g f:Int} (ht:tbOK (r,ns,ds)) (ha:ascK ds) {v v2:Nat} (M:Nat→AO) (nid:Nat)
  (h0:M a=.box [I r,.sl b (v+1) 9 0 ns.length,.sl c (v2+1) 2 0 ds.length]) (h1:M b=.vec (v+1) 9 false (nrows ns)) (h2:M c=.vec (v2+1) 2 false (prows ds)) :
  callG dpS [.bp a 0,I g,I f] M nid=some (.tup [],[(a,.box [I r,.sl b (v+1) 9 0 ns.length,.sl nid 1 2 0 (ds.length+1)]),(b,.vec (v+1) 9 false (nrows ns)),(c,.dead),(nid,.vec 1 2 false (prows (insL ds g f)))]):=by
 have hF:=dpS_at (t:=(r,ns,ds)) (g:=g) (f:=f) ht ha
 simp only [pMs,oM,insL_len] at hF
 unfold callG
 have hba:b≠a:=fun e=>hab e.symm
 have hca:c≠a:=fun e=>hac e.symm
 have hcb:c≠b:=fun e=>hbc e.symm
 have hg:gat M 64 (nmsL [.bp a 0,I g,I f]) []=[a,b,c]:=by
  simp [gat,nmsL,AV.nms,AO.nms,h0,h1,h2,hab,hac,hbc,hba,hca,hcb]
 simp only [hg]
 rw [if_pos ?cg]
 case cg=>simp [CallG,nmsL,AV.nms,AO.nms,Led,curBL,AV.curB,AO.curB,verOf,notDead,h0,h1,h2,hab,hac,hbc,hba,hca,hcb]
 have e1:1+v=v+1:=by omega
 simp [renL,AV.ren,AO.ren,posN,canO,nmsL,h0,h1,h2,hF,RetG,getL,AV.nms,AO.nms,updN,nmN,shN,verOf,rng,Led,hab,hac,hbc,hba,hca,hcb,e1]
theorem irows_tk {l:List Int} {n:Nat}:irows (l.take n)=(irows l).take n:=by simp [irows,List.map_take]
theorem gi_take {l:List Int} {n j:Nat} (h:j<n) (hn:n≤l.length):gi (l.take n) j=gi l j:=by
 rw [gi_eq (by simp;omega),gi_eq (by omega)];simp
theorem usB_take {ns:NdL} {ds:List Dp} {fs:List Int} {n:Nat} (h:usB ns ds fs=true) (hn:n≤fs.length):usB ns ds (fs.take n)=true:=by
 rw [usB_iff] at h ⊢
 intro i hi
 have hi2:i<n:=by simp at hi;omega
 obtain ⟨h1,h2,h3,h4⟩:=h i (by omega)
 unfold usC
 rw [gi_take hi2 hn]
 exact ⟨h1,h2,h3,fun j hj=>by rw [gi_take (by omega) hn];exact h4 j hj⟩
noncomputable def setH (t:Tb) (g:Int) (w:Nat) (fs:List Int):Tb×Int :=
 if ckd t g 64≠0 then (zT,ckd t g 64)
 else if (decR w).2≠0∨(decR w).1.2.2.2.2.2=false then (zT,3)
 else if (lsT t (g.toNat*8)).2.1=0∨(lsT t (g.toNat*8)).2.2≠0 then (zT,7)
 else if fs.length=(lsT t (g.toNat*8)).2.1∧usB t.2.1 t.2.2 fs=true then
  ((t.1,(putT (t.1,dpN t.1 t.2.2 (g.toNat*8) t.2.1 (fs.take (fs.length - 1)),t.2.2) (g.toNat*8) w).2.1,insL t.2.2 g (gi fs (fs.length - 1))),0)
 else (zT,1)
theorem ckd_vt {t:Tb} (ht:tbOK t) {n lim:Int} (h:¬ ckd t n lim≠0):Vt t:=by
 rcases ckd_cases t n lim with h1|h1
 ·exact absurd h1 h
 ·exact (chk_iff ht).1 h1.2.1
theorem s53 (X:AX) (hX:XOK Tryz.prog X) (hw:X.W wT) (hck:∀ t:Tb,tbOK t→∀ (n lim:Int) M k,X.call 109 [TbV t,I n,I lim] M k=some (I (ckd t n lim),[]))
  (hla:∀ (t:Tb) (p:Nat),ptO t p→∀ M n,X.call 110 [TbV t,I p] M n=some (stV (lsT t p),[]))
  (hdc:∀ n:Nat,n<2^64→∀ M k,X.call 56 [U n] M k=some (.tup [EnV (decR n).1,I (decR n).2],[]))
  (hfh:∀ (t:Tb) (fs:List Int) (m:Nat),tbOK t→ascN t.2.1→fs.length≤1000→∀ M n,X.call 127 [TbV t,.rd 1 (irows fs),I m] M n=some (B (decide (fs.length=m)&&usB t.2.1 t.2.2 fs),[]))
  (hcl:∀ t:Tb,tbOK t→∀ M n,X.call 128 [TbV t] M n=some (TbC t n,[(n,.vec 1 9 false (nrows t.2.1)),(n+1,.vec 1 2 false (prows t.2.2))]))
  (hde:X.call 129=callG deB) (hpu:X.call 130=callG puS) (hdp:X.call 135=callG dpS) :
  PSound Tryz.prog 53 (specF (ι:={x:StD // stOK x}) (fun x=>[TbV x.1.1,I x.1.2.1,U x.1.2.2.1,.rd 1 (irows x.1.2.2.2)]) fun x=>retOf [TbO (setH x.1.1 x.1.2.1 x.1.2.2.1 x.1.2.2.2).1,I (setH x.1.1 x.1.2.1 x.1.2.2.1 x.1.2.2.2).2]):=by
 refine psound_spec hX mixed Tryz.func53 rfl fun ⟨⟨⟨r,ns,ds⟩,pI,w,fs⟩,ht,hl9,hw64,hf8⟩ w0 G=>⟨by show 4≤78;decide,rfl,?_⟩
 show AW ⟨Tryz.prog,X,78,w0,.pure G⟩ _ _ _
 have hc:Cx.OK ⟨Tryz.prog,X,78,w0,.pure G⟩:=⟨hX,mixed⟩
 simp only at hl9 hw64 hf8 ht ⊢
 have hck':=hck _ ht pI 64
 have hl1:ns.length≤1000000:=ht.2.1
 have hl2:ds.length≤1000000:=ht.2.2
 rcases Decidable.em (ckd (r,ns,ds) pI 64≠0) with hk|hk
 ·have e:setH (r,ns,ds) pI w fs=(zT,ckd (r,ns,ds) pI 64):=by unfold setH;rw [if_pos hk]
  rw [e]
  obtain ⟨c,hc0⟩:∃ c,c=ckd (r,ns,ds) pI 64:=⟨_,rfl⟩
  rw [← hc0] at hck' hk ⊢
  simp only [TbV,TbO,zT] at hck' ⊢
  have zS:=jj hck'<|hk
  refine dM64 ?_
  repeat (intro K hK)
  clear zS
  refine ⟨by simp,?_⟩
  simp [leaves_iff,Tryz.f53,nrows,prows]
  try exact dt
 ·obtain ⟨hpv,hp0,hp1⟩:=ckd_pt ht hk
  have hvt:=ckd_vt ht hk
  obtain ⟨g,rfl⟩:=Int.eq_ofNat_of_zero_le hp0
  have hg:g<64:=by omega
  obtain ⟨p,hpg⟩:∃ p,p=g*8:=⟨_,rfl⟩
  have hp:p<512:=by omega
  have hz:ckd (r,ns,ds) g 64=0:=by omega
  rw [hz] at hck'
  have hdc':=hdc w hw64
  have hla':=hla _ _ (hpv.pto ht hp)
  have hlw:=lsT_u64 ht hpv hp
  have hlv:=(hpv.walk hp).2.2
  obtain ⟨f0,l0,w0',hwk⟩:∃ f l w,wlk (Mof ns) r p=(f,l,w):=⟨_,_,_,rfl⟩
  obtain ⟨hl02,_,_,_,hwt,hwok⟩:=wlk_at hpv.vm hp hwk
  simp only at hlv
  rw [hwk] at hlv
  simp only at hlv
  have hls:lsT (r,ns,ds) p=((lsT (r,ns,ds) p).1,l0,w0'):=by rw [← hlv]
  have hfh':=hfh (r,ns,ds) fs l0 ht hpv.asc hf8
  have hcl':=hcl _ ht
  have eS:setH (r,ns,ds) g w fs=if (decR w).2≠0∨(decR w).1.2.2.2.2.2=false then (zT,3)
    else if l0=0∨w0'≠0 then (zT,7)
    else if fs.length=l0∧usB ns ds fs=true then ((r,(putT (r,dpN r ds p ns (fs.take (fs.length - 1)),ds) p w).2.1,insL ds g (gi fs (fs.length - 1))),0)
    else (zT,1):=by
   unfold setH
   rw [if_neg hk,Int.toNat_natCast,← hpg,hlv]
  rw [eS]
  rw [hls] at hla' hlw
  simp only at hlw
  obtain ⟨a0,ha0⟩:∃ a,a=(lsT (r,ns,ds) p).1:=⟨_,rfl⟩
  rw [← ha0] at hla'
  obtain ⟨⟨⟨k,f,d,a,x,h⟩,e⟩,hE⟩:∃ r,r=decR w:=⟨_,rfl⟩
  rw [← hE] at hdc' ⊢
  have hgm:(g:Int)*8=(p:Int):=by omega
  clear hls eS hE hck hla hdc
  simp only [TbV,TbO,TbC,zT,EnV,stV,srow,U] at hck' hla' hdc' hfh' hcl' ⊢
  rcases Decidable.em (e≠0∨h=false) with hb|hb
  ·rw [if_pos hb]
   rcases Decidable.em (e=0) with he|he
   ·obtain rfl:h=false:=hb.resolve_left (by simp [he])
    have zS:=jj hck'<|jj hdc'<|he
    refine dM64 ?_
    repeat (intro K hK)
    clear zS
    all_goals refine ⟨by simp,?_⟩
    all_goals simp [leaves_iff,Tryz.f53,nrows,prows]
    all_goals try exact dt
   ·have zS:=jj hck'<|jj hdc'<|he
    refine dM64 ?_
    repeat (intro K hK)
    clear zS
    all_goals refine ⟨by simp,?_⟩
    all_goals simp [leaves_iff,Tryz.f53,nrows,prows]
    all_goals try exact dt
  ·rw [if_neg hb]
   obtain ⟨rfl,rfl⟩:e=0∧h=true:=by
    refine ⟨by omega,?_⟩
    cases h
    ·exact absurd (Or.inr rfl) hb
    ·rfl
   rcases Decidable.em (l0=0∨w0'≠0) with hlw0|hlw0
   ·rw [if_pos hlw0]
    rcases Decidable.em (l0=0) with h0|h0
    ·subst h0
     have zS:=jj hck'<|jj hdc'<|jj hla'<|hgm
     refine dM64 ?_
     repeat (intro K hK)
     clear zS
     all_goals refine ⟨by simp,?_⟩
     all_goals simp [leaves_iff,Tryz.f53,nrows,prows]
     all_goals try exact dt
    ·have hw0:=hlw0.resolve_left h0
     have zS:=jj hck'<|jj hdc'<|jj hla'<|jj hgm<|jj h0<|hw0
     refine dM64 ?_
     repeat (intro K hK)
     clear zS
     all_goals refine ⟨by simp,?_⟩
     all_goals simp [leaves_iff,Tryz.f53,nrows,prows]
     all_goals try exact dt
   ·rw [if_neg hlw0]
    obtain ⟨L,rfl⟩:∃ L,l0=L+1:=⟨l0 - 1,by omega⟩
    obtain rfl:w0'=0:=by omega
    have hL0:¬ (L:Int)+1=0:=by omega
    have hLp:((L+1:Nat):Int)=(L:Int)+1:=by omega
    simp only [hLp] at hfh' hla'
    rcases Decidable.em (fs.length=L+1∧usB ns ds fs=true) with hf|hf
    ·rw [if_pos hf]
     rw [decide_eq_true hf.1,hf.2] at hfh'
     rw [hf.1,Nat.add_sub_cancel]
     have hLf:L<fs.length:=by omega
     have hu2:=usB_take (n:=L) hf.2 (by omega)
     have htl:(fs.take L).length=L:=by simp;omega
     have hdk:=deep_ok hpv ht hp hu2 hl9 hwk (by omega) (by omega)
     obtain ⟨j1,j2,⟨f',w',j3,j4⟩,j5,j6⟩:=deepL hpv ht hp hu2 hl9 hwk (fs.take L).length (Nat.le_refl _) (by omega)
     rw [List.take_length] at j1 j2 j3 j5
     rw [htl] at j3 j5
     have hde':=fun M n=>@callDe 768 752 753 (by decide) (by decide) (by decide) r ns ds p (fs.take L) hdk 0 0 M n
     rw [← hde] at hde'
     have hpu':=fun M n=>@callPu 768 752 753 (by decide) (by decide) (by decide) r (dpN r ds p ns (fs.take L)) ds p w (j1.pto j2 hp) hw64 L 0 M n
     rw [← hpu] at hpu'
     have hPl:(putT (r,dpN r ds p ns (fs.take L),ds) p w).2.1.length=(dpN r ds p ns (fs.take L)).length:=setN_len
     have hP0:putT (r,dpN r ds p ns (fs.take L),ds) p w=(r,(putT (r,dpN r ds p ns (fs.take L),ds) p w).2.1,ds):=rfl
     have htR:tbOK (r,(putT (r,dpN r ds p ns (fs.take L),ds) p w).2.1,ds):=⟨setN_ok j2.1 hw64 (lsT_lt j1 hp).1,by rw [hPl];exact j2.2.1,j2.2.2⟩
     obtain ⟨R,hR⟩:∃ R,R=(putT (r,dpN r ds p ns (fs.take L),ds) p w).2.1:=⟨_,rfl⟩
     rw [← hR] at hPl hpu' htR ⊢
     have hdp':=fun M n=>@callDp 768 752 753 (by decide) (by decide) (by decide) r R ds g (gi fs L) htR hvt.num.dasc L 0 M n
     rw [← hdp] at hdp'
     simp only [Nat.zero_add,Nat.add_zero,U,htl,hPl,irows_tk] at hde' hpu' hdp'
     have hil:=@insL_len ds g (gi fs L)
     obtain ⟨D,hD⟩:∃ D,D=dpN r ds p ns (fs.take L):=⟨_,rfl⟩
     rw [← hD] at hde' hpu' hPl hdp'
     have hgg:=irows_gi hLf
     have hgE:=irows_gE hLf
     obtain ⟨fl,hfl⟩:∃ fl,fl=gi fs L:=⟨_,rfl⟩
     rw [← hfl] at hgg hgE hdp' hil ⊢
     have hL1:((L+1:Nat):Int) - 1=(L:Int):=by omega
     have hL2:(L:Int)+1 - 1=(L:Int):=by omega
     have hLI:(L:Int)<(fs.length:Int):=by omega
     clear hR hD hP0
     have zS:=jj hck'<|jj hdc'<|jj hla'<|jj hgm<|jj hfh'<|jj hcl'<|jj hde'<|jj hpu'<|jj hdp'<|jj hL0<|jj hL1<|jj hL2<|jj hgg<|jj hgE<|jj hLf<|hLI
     refine dF64 ?_
     repeat (intro K hK)
     clear zS
     have tkR:List.take D.length (nrows R)=nrows R:=List.take_of_length_le (by simp;omega)
     have tkd:List.take (ds.length+1) (prows (insL ds g fl))=prows (insL ds g fl):=List.take_of_length_le (by simp;omega)
     refine ⟨by simp,?_⟩
     simp [leaves_iff,Tryz.f53,hPl,hil,tkR,tkd]
     try exact dt
    ·rw [if_neg hf]
     have hff:(decide (fs.length=L+1)&&usB ns ds fs)=false:=by
      cases hu:usB ns ds fs
      ·simp
      ·rw [hu] at hf;simp at hf;simp [hf]
     rw [hff] at hfh'
     have zS:=jj hck'<|jj hdc'<|jj hla'<|jj hgm<|jj hL0<|hfh'
     refine dM64 ?_
     repeat (intro K hK)
     clear zS
     all_goals refine ⟨by simp,?_⟩
     all_goals simp [leaves_iff,Tryz.f53,nrows,prows]
     all_goals try exact dt
end Go.AM
namespace Go.AM
open Go Go.Proofs
def partR (w:Nat) (i:Int):Int×Int :=
 if (decR w).2≠0 then (0,(decR w).2)
 else if (decR w).1.1≠1∨(decR w).1.2.2.2.2.2=false then (0,11)
 else if i<0∨8≤i then (0,2)
 else encR (1,(decR w).1.2.1+i,(decR w).1.2.2.1,(decR w).1.2.2.2.1,(decR w).1.2.2.2.2.1,false)
theorem decR_rng (w:Nat):0≤(decR w).1.2.1∧(decR w).1.2.1≤4294967295:=by
 unfold decR
 split
 ·exact (prs_rng w).2
 ·decide
set_option maxHeartbeats 4000000 in
theorem s68 (X:AX) (hX:XOK Tryz.prog X) (hw:X.W wT) (hdc:∀ n:Nat,n<2^64→∀ M k,X.call 56 [U n] M k=some (.tup [EnV (decR n).1,I (decR n).2],[]))
  (hen:∀ k f d a x h M n,X.call 143 [.agg [I k,I f,B d,B a,B x,B h]] M n=some (.tup [U (encR (k,f,d,a,x,h)).1,I (encR (k,f,d,a,x,h)).2],[])) :
  PSound Tryz.prog 68 (specF (ι:={x:Nat×Int // x.1<2^64}) (fun x=>[U x.1.1,I x.1.2]) fun x=>retOf [U (partR x.1.1 x.1.2).1,I (partR x.1.1 x.1.2).2]):=by
 refine psound_spec hX mixed Tryz.func68 rfl fun ⟨⟨w,i⟩,hw64⟩ w0 G=>⟨by show 2≤40;decide,rfl,?_⟩
 show AW ⟨Tryz.prog,X,40,w0,.pure G⟩ _ _ _
 have hc:Cx.OK ⟨Tryz.prog,X,40,w0,.pure G⟩:=⟨hX,mixed⟩
 simp only at hw64 ⊢
 have hdc':=hdc w hw64
 have hr:=decR_rng w
 unfold partR
 obtain ⟨⟨⟨k,f,d,a,x,h⟩,e⟩,hE⟩:∃ r,r=decR w:=⟨_,rfl⟩
 rw [← hE] at hdc' hr ⊢
 clear hE
 simp only at hr ⊢
 simp only [EnV,U] at hdc' ⊢
 have hen':=hen 1 (f+i) d a x false
 obtain ⟨⟨e1,e2⟩,hR⟩:∃ R,R=encR (1,f+i,d,a,x,false):=⟨_,rfl⟩
 rw [← hR] at hen' ⊢
 simp only [U] at hen'
 rcases Decidable.em (e=0) with he|he
 ·subst he
  rw [if_neg (by simp)]
  rcases Decidable.em (k=1) with hk|hk
  ·subst hk
   cases h with
   | false =>
    rw [if_pos (.inr rfl)]
    have zS:=hdc'
    refine dM64 ?_
    repeat (intro K hK)
    clear zS
    all_goals refine ⟨by simp,?_⟩
    all_goals simp [leaves_iff,Tryz.f68]
    all_goals try exact dt
   | true =>
    rw [if_neg (by simp)]
    rcases Decidable.em (i<0) with hi|hi
    ·rw [if_pos (.inl hi)]
     have zS:=jj hdc'<|hi
     refine dM64 ?_
     repeat (intro K hK)
     clear zS
     all_goals refine ⟨by simp,?_⟩
     all_goals simp [leaves_iff,Tryz.f68]
     all_goals try exact dt
    ·rcases Decidable.em (8≤i) with hi2|hi2
     ·rw [if_pos (.inr hi2)]
      have zS:=jj hdc'<|jj hi<|hi2
      refine dM64 ?_
      repeat (intro K hK)
      clear zS
      all_goals refine ⟨by simp,?_⟩
      all_goals simp [leaves_iff,Tryz.f68]
      all_goals try exact dt
     ·rw [if_neg (by omega)]
      have zS:=jj hdc'<|jj hi<|jj hi2<|hen'
      refine dM64 ?_
      repeat (intro K hK)
      clear zS
      all_goals refine ⟨by simp,?_⟩
      all_goals simp [leaves_iff,Tryz.f68]
      all_goals try exact dt
  ·rw [if_pos (.inl hk)]
   have zS:=jj hdc'<|hk
   refine dM64 ?_
   repeat (intro K hK)
   clear zS
   all_goals refine ⟨by simp,?_⟩
   all_goals simp [leaves_iff,Tryz.f68]
   all_goals try exact dt
 ·rw [if_pos he]
  have zS:=jj hdc'<|he
  refine dM64 ?_
  repeat (intro K hK)
  clear zS
  all_goals refine ⟨by simp,?_⟩
  all_goals simp [leaves_iff,Tryz.f68]
  all_goals try exact dt
end Go.AM
namespace Go.AM
open Go Go.Proofs
theorem decR_enc {k f:Int} {d a x h:Bool} (hk:0≤k∧k≤4) (hf:0≤f∧f≤4294967295) (hb:¬ badF (k,f,d,a,x,h)) (hm:frmE (k,f,d,a,x,h)=true):∃ n:Nat,encR (k,f,d,a,x,h)=((n:Int),0)∧n<2^64∧decR n=((k,f,d,a,x,h),0):=by
 have he:encR (k,f,d,a,x,h)=(encW (k,f,d,a,x,h),0):=encR_z hk hb hm
 obtain ⟨kn,rfl⟩:=Int.eq_ofNat_of_zero_le hk.1
 obtain ⟨fn,rfl⟩:=Int.eq_ofNat_of_zero_le hf.1
 obtain ⟨n,hn⟩:∃ n:Nat,n=kn+(if d then 8 else 0)+(if a then 16 else 0)+(if x then 32 else 0)+(if h then 64 else 0)+fn*256:=⟨_,rfl⟩
 have hw:encW ((kn:Int),(fn:Int),d,a,x,h)=(n:Int):=by
  unfold encW fb
  rw [hn]
  cases d<;>cases a<;>cases x<;>cases h<;>simp<;>omega
 have hp:prs n=((kn:Int),(fn:Int),d,a,x,h):=by
  unfold prs
  have e1:n%8=kn:=by rw [hn];cases d<;>cases a<;>cases x<;>cases h<;>simp<;>omega
  have e2:n/256%4294967296=fn:=by rw [hn];cases d<;>cases a<;>cases x<;>cases h<;>simp<;>omega
  have t:∀ j,n.testBit j=decide (n/2^j%2=1):=fun j=>Nat.testBit_eq_decide_div_mod_eq
  have b3:n.testBit 3=d:=by rw [t,hn];cases d<;>cases a<;>cases x<;>cases h<;>simp<;>omega
  have b4:n.testBit 4=a:=by rw [t,hn];cases d<;>cases a<;>cases x<;>cases h<;>simp<;>omega
  have b5:n.testBit 5=x:=by rw [t,hn];cases d<;>cases a<;>cases x<;>cases h<;>simp<;>omega
  have b6:n.testBit 6=h:=by rw [t,hn];cases d<;>cases a<;>cases x<;>cases h<;>simp<;>omega
  rw [e1,e2,b3,b4,b5,b6]
 refine ⟨n,by rw [he,hw],?_,by rw [decR_z (by rw [hp,he,hw]),hp]⟩
 rw [hn]
 cases d<;>cases a<;>cases x<;>cases h<;>simp<;>omega
theorem decR_ok {w:Nat} (h:(decR w).2=0):(0≤(decR w).1.1∧(decR w).1.1≤4)∧¬ badF (decR w).1∧frmE (decR w).1=true∧encR (decR w).1=((w:Int),0):=by
 by_cases he:encR (prs w)=((w:Int),0)
 ·rw [decR_z he]
  simp only
  have hrg:=prs_rng w
  by_cases hk:0≤(prs w).1∧(prs w).1≤4
  ·by_cases hb:badF (prs w)
   ·rw [encR_f hk hb] at he;simp at he
   ·cases hm:frmE (prs w) with
    | false=>rw [encR_m hk hb hm] at he;simp at he
    | true=>exact ⟨hk,hb,rfl,he⟩
  ·rw [encR_k hk] at he;simp at he
 ·rw [decR_n he] at h;simp at h
theorem kind_huge {w:Nat} (h:(decR w).2=0) (hh:(decR w).1.2.2.2.2.2=true):(decR w).1.1=1:=by
 obtain ⟨hk,hb,hm,_⟩:=decR_ok h
 obtain ⟨⟨k,f,d,a,x,h0⟩,hE⟩:∃ e,e=(decR w).1:=⟨_,rfl⟩
 rw [← hE] at hk hb hm hh ⊢
 simp only at hk hh ⊢
 subst hh
 unfold frmE noFl at hm
 simp only at hm
 by_cases h1:k=1
 ·exact h1
 ·rw [if_neg h1] at hm
  simp at hm
theorem part_ok {w:Nat} (h:(decR w).2=0) (hh:(decR w).1.2.2.2.2.2=true) {i:Nat} (hi:i<8):∃ n:Nat,partR w i=((n:Int),0)∧n<2^64∧(decR n)=((1,(decR w).1.2.1+i,(decR w).1.2.2.1,(decR w).1.2.2.2.1,(decR w).1.2.2.2.2.1,false),0):=by
 obtain ⟨hk,hb,hm,_⟩:=decR_ok h
 have h1:=kind_huge h hh
 have hr:=decR_rng w
 unfold partR
 rw [if_neg (by simp [h]),if_neg (by simp [h1,hh]),if_neg (by omega)]
 have hb2:(decR w).1.2.1≤4294967288:=by
  unfold badF at hb
  simp only [h1,hh,true_and] at hb
  omega
 exact decR_enc (by decide) (by omega) (by unfold badF;simp only;simp;omega) (by rfl)
def spW (w i:Nat):Nat:=(partR w i).1.toNat
theorem spW_ok {w:Nat} (h:(decR w).2=0) (hh:(decR w).1.2.2.2.2.2=true) {i:Nat} (hi:i<8):partR w i=(((spW w i:Nat):Int),0)∧spW w i<2^64∧tabW (spW w i)=none∧okWb 0 (spW w i)=true:=by
 obtain ⟨n,h1,h2,h3⟩:=part_ok h hh hi
 have e:spW w i=n:=by unfold spW;rw [h1];simp
 rw [e]
 refine ⟨h1,h2,?_,?_⟩
 ·unfold tabW;rw [h3];rfl
 ·unfold okWb;rw [h3];rfl
theorem Pv.put {r:Int} {ns:NdL} {ds:List Dp} (h:Pv (r,ns,ds)) (ht:tbOK (r,ns,ds)) {p:Nat} (hp:p<512) {f:Int} {l w0 w:Nat} (hw:wlk (Mof ns) r p=(f,l,w0)) (hw64:w<2^64) (htb:tabW w=none) (hok:okWb l w=true) :
  Pv (r,(putT (r,ns,ds) p w).2.1,ds)∧tbOK (r,(putT (r,ns,ds) p w).2.1,ds)∧Mof (putT (r,ns,ds) p w).2.1=updW (Mof ns) f (dgt p l) w∧(∀ d q,(d,q)∈Pos→frP WA (Mof (putT (r,ns,ds) p w).2.1) r d q=frP WA (Mof ns) r d q)∧(putT (r,ns,ds) p w).2.1.length=ns.length:=by
 obtain ⟨hl2,hx,hfp,hwm,htn,_⟩:=wlk_at h.vm hp hw
 simp only at hfp hwm hx
 have hwk:=h.walk hp
 simp only at hwk
 have hfn:=hwk.2.1
 have hlv:=hwk.2.2
 rw [hw] at hfn hlv
 simp only at hfn hlv
 have hnl:(lsT (r,ns,ds) p).1<ns.length:=fnd_lt hfn
 have hst:(putT (r,ns,ds) p w).2.1=setN ns (lsT (r,ns,ds) p).1 (dgt p l) w:=by unfold putT;simp only [hlv]
 have hM:Mof (putT (r,ns,ds) p w).2.1=updW (Mof ns) f (dgt p l) w:=by rw [hst];exact Mof_ext (Mof_set h.asc hfn)
 have hpt:=h.vm.put hx hfp (i:=dgt p l) (w:=w) (dgt_lt p l) (by show tabW w=tabW _;rw [← hwm,htb,htn]) (by show okWb (2 - (2 - l)) w=true;rw [show 2 - (2 - l)=l by omega];exact hok)
 simp only at hpt
 rw [← hM] at hpt
 refine ⟨⟨by show ascN (putT (r,ns,ds) p w).2.1;rw [hst];exact setN_asc h.asc hnl,hpt.1⟩,⟨?_,?_,ht.2.2⟩,hM,hpt.2,by rw [hst,setN_len]⟩
 ·show ∀ x∈(putT (r,ns,ds) p w).2.1,ndOK x
  rw [hst];exact setN_ok ht.1 hw64 hnl
 ·show (putT (r,ns,ds) p w).2.1.length≤_
  rw [hst,setN_len];exact ht.2.1
theorem wlk_put {M M':Mm} {root:Int} (hV:VM WA M root) {p:Nat} (hp:p<512) {f:Int} {l w0 w:Nat} (hw:wlk M root p=(f,l,w0)) (htb:tabW w=none) (hM:M'=updW M f (dgt p l) w) (hfr:∀ d q,(d,q)∈Pos→frP WA M' root d q=frP WA M root d q)
  {p':Nat} (hp':p'<512) {f':Int} {l' w':Nat} (hw':wlk M root p'=(f',l',w')):wlk M' root p'=(f',l',if f'=f∧dgt p' l'=dgt p l then w else w'):=by
 obtain ⟨a1,a2,a3,a4,a5,a6⟩:=wlk_at hV hp hw
 obtain ⟨b1,b2,b3,b4,b5,b6⟩:=wlk_at hV hp' hw'
 obtain ⟨ws,c1,c2,_⟩:=hV.nd _ _ a2 f a3
 have e:wM M' f' (dgt p' l')=if f'=f∧dgt p' l'=dgt p l then w else w':=by
  rw [hM,wM_updW c1 (by have:=dgt_lt p l;omega),← b4]
 have:=wlk_of (M:=M') hp' (l:=l') b1 (by rw [hfr _ _ b2];exact b3) (.inl (by
  rw [e]
  split
  ·exact htb
  ·exact b5))
 rw [this,e]
theorem wlk_put_self {M M':Mm} {root:Int} (hV:VM WA M root) {p:Nat} (hp:p<512) {f:Int} {l w0 w:Nat} (hw:wlk M root p=(f,l,w0)) (htb:tabW w=none) (hM:M'=updW M f (dgt p l) w) (hfr:∀ d q,(d,q)∈Pos→frP WA M' root d q=frP WA M root d q):wlk M' root p=(f,l,w):=by
 rw [wlk_put hV hp hw htb hM hfr hp hw,if_pos ⟨rfl,rfl⟩]
theorem lowD_key {ds:List Dp} (ha:ascK ds) {g:Int} (h:g∈ds.map (·.1)):lowD ds g<ds.length∧(gp ds (lowD ds g)).1=g:=by
 obtain ⟨d,hd,e⟩:=List.mem_map.1 h
 obtain ⟨i,hi,rfl⟩:=List.getElem_of_mem hd
 have e2:lowD ds g=i:=by
  refine lowD_at (by omega) (fun k hk=>?_) fun _=>?_
  ·have:=gp_asc ha hk hi
   rw [gp_eq hi] at this
   omega
  ·rw [gp_eq hi];omega
 rw [e2]
 exact ⟨hi,by rw [gp_eq hi];exact e⟩
end Go.AM
set_option maxHeartbeats 2000000
namespace Go.AM
open Go Go.Proofs
set_option maxRecDepth 4000 in
theorem callWd {a b c:Nat} (hab:a≠b) (hac:a≠c) (hbc:b≠c) {r:Int} {ns:NdL} {ds:List Dp} {g:Int} (ht:tbOK (r,ns,ds)) (ha:ascK ds) (hl:lowD ds g<ds.length) {v v2:Nat} (M:Nat→AO) (nid:Nat)
  (h0:M a=.box [I r,.sl b (v+1) 9 0 ns.length,.sl c (v2+1) 2 0 ds.length]) (h1:M b=.vec (v+1) 9 false (nrows ns)) (h2:M c=.vec (v2+1) 2 false (prows ds)) :
  callG wdS [.bp a 0,I g] M nid=some (I (gp ds (lowD ds g)).2,[(a,.box [I r,.sl b (v+1) 9 0 ns.length,.sl nid 1 2 0 (ds.length - 1)]),(b,.vec (v+1) 9 false (nrows ns)),(c,.dead),(nid,.vec 1 2 false (prows (delL ds g)))]):=by
 have hF:=wdS_at (t:=(r,ns,ds)) (g:=g) ht ha hl
 simp only [pMs,oM,delL_len hl] at hF
 unfold callG
 have hba:b≠a:=fun e=>hab e.symm
 have hca:c≠a:=fun e=>hac e.symm
 have hcb:c≠b:=fun e=>hbc e.symm
 have hg:gat M 64 (nmsL [.bp a 0,I g]) []=[a,b,c]:=by
  simp [gat,nmsL,AV.nms,AO.nms,h0,h1,h2,hab,hac,hbc,hba,hca,hcb]
 simp only [hg]
 rw [if_pos ?cg]
 case cg=>simp [CallG,nmsL,AV.nms,AO.nms,Led,curBL,AV.curB,AO.curB,verOf,notDead,h0,h1,h2,hab,hac,hbc,hba,hca,hcb]
 have e1:1+v=v+1:=by omega
 simp [renL,AV.ren,AO.ren,posN,canO,nmsL,h0,h1,h2,hF,RetG,getL,AV.nms,AO.nms,updN,nmN,shN,verOf,rng,Led,hab,hac,hbc,hba,hca,hcb,e1]
theorem deB_2 {t:Tb} {p f:Nat} (h:dpC t.1 t.2.2 p t.2.1 f):deB [.bp 0 0,I p,.sl 3 1 1 0 1] (pMs t 1 1++[.vec 1 1 false [[I f]]])=some (.tup [],pMs (t.1,stD t.1 t.2.2 p t.2.1 f,t.2.2) 2 1++[.vec 1 1 false [[I f]]]):=orG_2 (specG_none fun i h1 _=>by
 simp only [List.cons.injEq,reduceCtorEq,false_and,and_false] at h1) (deS2_at h)
set_option maxRecDepth 4000 in
theorem callD2 {a b c e:Nat} (hab:a≠b) (hac:a≠c) (hbc:b≠c) (hae:a≠e) (hbe:b≠e) (hce:c≠e) {r:Int} {ns:NdL} {ds:List Dp} {p f:Nat} (h:dpC r ds p ns f) {L1 L2:Nat} (hL1:L1=ns.length) (hL2:L2=ds.length) {v v2:Nat} (M:Nat→AO) (nid:Nat)
  (h0:M a=.box [I r,.sl b (v+1) 9 0 L1,.sl c (v2+1) 2 0 L2]) (h1:M b=.vec (v+1) 9 false (nrows ns)) (h2:M c=.vec (v2+1) 2 false (prows ds)) (h3:M e=.vec 1 1 false [[I f]]) :
  callG deB [.bp a 0,I p,.sl e 1 1 0 1] M nid=some (.tup [],[(a,.box [I r,.sl b (v+2) 9 0 (stD r ds p ns f).length,.sl c (v2+1) 2 0 L2]),(b,.vec (v+2) 9 false (nrows (stD r ds p ns f))),(c,.vec (v2+1) 2 false (prows ds)),(e,.vec 1 1 false [[I f]])]):=by
 subst hL1 hL2
 have hF:=deB_2 (t:=(r,ns,ds)) h
 simp only [pMs,List.cons_append,List.nil_append] at hF
 unfold callG
 have hba:b≠a:=fun e=>hab e.symm
 have hca:c≠a:=fun e=>hac e.symm
 have hcb:c≠b:=fun e=>hbc e.symm
 have hea:e≠a:=fun k=>hae k.symm
 have heb:e≠b:=fun k=>hbe k.symm
 have hec:e≠c:=fun k=>hce k.symm
 have hg:gat M 64 (nmsL [.bp a 0,I p,.sl e 1 1 0 1]) []=[a,b,c,e]:=by
  simp [gat,nmsL,AV.nms,AO.nms,h0,h1,h2,h3,hab,hac,hbc,hba,hca,hcb,hae,hbe,hce,hea,heb,hec]
 simp only [hg]
 rw [if_pos ?cg]
 case cg=>simp [CallG,nmsL,AV.nms,AO.nms,Led,curBL,AV.curB,AO.curB,verOf,notDead,h0,h1,h2,h3,hab,hac,hbc,hba,hca,hcb,hae,hbe,hce,hea,heb,hec]
 have e1:2+v=v+2:=by omega
 have e2:1+v2=v2+1:=by omega
 simp [renL,AV.ren,AO.ren,posN,canO,nmsL,h0,h1,h2,h3,hF,RetG,getL,AV.nms,AO.nms,updN,nmN,shN,verOf,rng,Led,hab,hac,hbc,hba,hca,hcb,hae,hbe,hce,hea,heb,hec,e1,e2]
theorem tab0:tabW 0=none:=(wdZ fun _=>true).tab
theorem ok0 (l:Nat):okWb l 0=true:=(wdZ fun _=>true).ok l
def spN (r:Int) (ds:List Dp) (p w:Nat) (ns:NdL):Nat→NdL
 | 0=>ns
 | k+1=>(putT (r,spN r ds p w ns k,ds) (p+k) (spW w k)).2.1
def spB (t:Tb) (p:Nat) (f:Int):NdL:=stD t.1 t.2.2 p (putT t p 0).2.1 f
def splN (t:Tb) (g:Nat) (w:Nat):Tb:=(t.1,spN t.1 t.2.2 (g*8) w (spB t (g*8) (gp t.2.2 (lowD t.2.2 g)).2) 8,delL t.2.2 g)
noncomputable def splP (t:Tb) (g:Int):Tb×Int :=
 if ckd t g 64≠0 then (zT,ckd t g 64)
 else if (lsT t (g.toNat*8)).2.1=1∧(decR (lsT t (g.toNat*8)).2.2).1.2.2.2.2.2=true then (splN t g.toNat (lsT t (g.toNat*8)).2.2,0)
 else (zT,6)
theorem split_steps {r:Int} {ns:NdL} {ds:List Dp} (hv:Vt (r,ns,ds)) (ht:tbOK (r,ns,ds)) (hl9:ns.length≤999000) {g p:Nat} (hg:g<64) (hpg:p=g*8) {f0:Int} {w:Nat} (hw:wlk (Mof ns) r p=(f0,1,w)) (hh:(decR w).1.2.2.2.2.2=true) :
  (decR w).2=0∧lowD ds g<ds.length∧(∃ f:Nat,(gp ds (lowD ds g)).2=f∧f≤4294967295∧dpC r ds p (putT (r,ns,ds) p 0).2.1 f) ∧
  (let N:=spB (r,ns,ds) p (gp ds (lowD ds g)).2;N.length=ns.length+1∧∀ k,k≤8→Pv (r,spN r ds p w N k,ds)∧tbOK (r,spN r ds p w N k,ds)∧(spN r ds p w N k).length=N.length ∧
   (∀ i,i<8→wlk (Mof (spN r ds p w N k)) r (p+i)=((gp ds (lowD ds g)).2,0,if i<k then spW w i else 0))∧Mof (spN r ds p w N k)=fun x=>if x=(gp ds (lowD ds g)).2 then some ((List.range 8).map fun i=>if i<k then spW w i else 0) else Mof N x):=by
 have hpv:=hv.pv
 have hp:p<512:=by omega
 obtain ⟨a1,a2,a3,a4,a5,a6⟩:=wlk_at hpv.vm hp hw
 have hd0:(decR w).2=0:=by
  unfold okWb at a6
  simp only [Bool.and_eq_true,decide_eq_true_eq] at a6
  exact a6.1
 have hk1:=kind_huge hd0 hh
 simp only at a3 a4
 have hgm:(g:Int)∈ds.map (·.1):=by
  have hd:=hv.dep
  simp only at hd
  rw [hd]
  refine mem_hugM.2 ⟨g,hg,rfl,hugB_iff.2 ⟨f0,?_,?_⟩⟩
  ·have:p/8^(1+1)=g/8:=by simp;omega
   rw [this] at a3
   exact a3
  ·have:dgt p 1=g%8:=by rw [dgt1];omega
   rw [← this,← a4]
   unfold hugW
   rw [hk1,hh];rfl
 obtain ⟨b1,b2⟩:=lowD_key (ds:=ds) hv.num.dasc hgm
 have hdm:=gp_mem b1
 have hdf:=(hv.num.df _ hdm).1
 obtain ⟨f,hf⟩:=Int.eq_ofNat_of_zero_le hdf.1
 have hf2:f≤4294967295:=by have:=hdf.2;rw [hf] at this;omega
 have hfn:∀ n∈ns,n.1≠(f:Int):=fun n hn=>by rw [← hf];exact hv.num.apart _ hdm n hn
 obtain ⟨c1,c2,c3,c4,c5⟩:=hpv.put ht hp hw (w:=0) (by omega) tab0 (ok0 1)
 have c6:=wlk_put_self hpv.vm hp hw (w:=0) tab0 c3 c4
 obtain ⟨N1,hN1⟩:∃ N1,N1=(putT (r,ns,ds) p 0).2.1:=⟨_,rfl⟩
 have hfr1:∀ n∈N1,n.1≠(f:Int):=by
  rw [hN1]
  exact setN_fr (lsT_lt hpv hp).1 hfn
 have hspB:spB (r,ns,ds) p (gp ds (lowD ds g)).2=stD r ds p N1 f:=by unfold spB;rw [hf,hN1]
 rw [← hN1] at c1 c2 c3 c4 c5 c6 ⊢
 obtain ⟨d1,d2,d3,d4,d5,d6⟩:=c1.grow c2 hp hf2 hfr1 (l:=0) c6 (by omega)
 refine ⟨hd0,b1,⟨f,hf,hf2,c1.pto c2 hp,hfr1,by omega,by omega⟩,?_⟩
 simp only
 rw [hspB,hf]
 obtain ⟨N,hN⟩:∃ N,N=stD r ds p N1 f:=⟨_,rfl⟩
 rw [← hN] at d1 d2 d3 d4 d5 ⊢
 have hMf:Mof N f=some zs8:=by rw [d3];simp [updM1]
 have hpl:frP WA (Mof N) r 2 g=some (f:Int):=by
  have:=(wlk_at d1.vm hp d4).2.2.1
  simp only at this
  have e:p/8^(0+1)=g:=by simp;omega
  rw [e] at this;exact this
 have hw0:∀ i,i<8→wlk (Mof N) r (p+i)=((f:Int),0,0):=fun i hi=>by
  have:=wlk_of (M:=Mof N) (root:=r) (p:=p+i) (by omega) (l:=0) (f:=f) (by omega) (by
   have e:(p+i)/8^(0+1)=g:=by simp;omega
   rw [e];exact hpl) (.inr rfl)
  rw [this]
  unfold wM;rw [hMf];simp only [zs8_getD]
 refine ⟨by rw [d5,c5],?_⟩
 intro k
 induction k with
 | zero =>
  intro _
  refine ⟨d1,d2,rfl,fun i hi=>by rw [if_neg (by omega)];exact hw0 i hi,?_⟩
  show Mof N=_
  funext x
  by_cases hx:x=(f:Int)
  ·rw [if_pos hx,hx,hMf];rfl
  ·rw [if_neg hx]
 | succ k ih =>
  intro hk
  obtain ⟨e1,e2,e3,e4,e5⟩:=ih (by omega)
  obtain ⟨s1,s2,s3,s4⟩:=spW_ok hd0 hh (i:=k) (by omega)
  have hpk:p+k<512:=by omega
  have hwk:=e4 k (by omega)
  rw [if_neg (by omega)] at hwk
  obtain ⟨q1,q2,q3,q4,q5⟩:=e1.put e2 hpk hwk s2 s3 s4
  have dg:∀ i,i<8→dgt (p+i) 0=i:=fun i hi=>by rw [dgt0];omega
  refine ⟨q1,q2,by show (putT _ _ _).2.1.length=_;rw [q5,e3],fun i hi=>?_,?_⟩
  ·have:=wlk_put e1.vm hpk hwk s3 q3 q4 (p':=p+i) (by omega) (e4 i hi)
   show wlk (Mof (putT _ _ _).2.1) r (p+i)=_
   rw [this,dg i hi,dg k (by omega)]
   simp only [true_and]
   by_cases hik:i=k
   ·subst hik;simp
   ·rw [if_neg hik]
    by_cases h1:i<k
    ·rw [if_pos h1,if_pos (by omega)]
    ·rw [if_neg h1,if_neg (by omega)]
  ·show Mof (putT _ _ _).2.1=_
   rw [q3,e5,dg k (by omega)]
   funext x
   unfold updW
   by_cases hx:x=(f:Int)
   ·subst hx
    simp only [if_true,Option.map_some]
    congr 1
    refine List.ext_getElem (by simp) fun i h1 h2=>?_
    simp only [List.getElem_set,List.getElem_map,List.getElem_range]
    by_cases hik:k=i
    ·subst hik;simp
    ·rw [if_neg hik]
     by_cases h3:i<k
     ·rw [if_pos h3,if_pos (by omega)]
     ·rw [if_neg h3,if_neg (by omega)]
   ·simp only [if_neg hx]
end Go.AM
namespace Go.AM
open Go Go.Proofs
set_option maxHeartbeats 8000000 in
theorem s64 (X:AX) (hX:XOK Tryz.prog X) (hw:X.W wT) (hck:∀ t:Tb,tbOK t→∀ (n lim:Int) M k,X.call 109 [TbV t,I n,I lim] M k=some (I (ckd t n lim),[]))
  (hla:∀ (t:Tb) (p:Nat),ptO t p→∀ M n,X.call 110 [TbV t,I p] M n=some (stV (lsT t p),[]))
  (hen:∀ w:Nat,w<2^64→∀ M n,X.call 113 [U w] M n=some (EnV (decR w).1,[]))
  (hcl:∀ t:Tb,tbOK t→∀ M n,X.call 128 [TbV t] M n=some (TbC t n,[(n,.vec 1 9 false (nrows t.2.1)),(n+1,.vec 1 2 false (prows t.2.2))]))
  (hpa:∀ (w:Nat) (i:Int),w<2^64→∀ M n,X.call 68 [U w,I i] M n=some (.tup [U (partR w i).1,I (partR w i).2],[]))
  (hde:X.call 129=callG deB) (hpu:X.call 130=callG puS) (hwd:X.call 138=callG wdS) :
  PSound Tryz.prog 64 (specF (ι:={x:Tb×Int // tbOK x.1∧x.1.2.1.length≤999000}) (fun x=>[TbV x.1.1,I x.1.2]) fun x=>retOf [TbO (splP x.1.1 x.1.2).1,I (splP x.1.1 x.1.2).2]):=by
 refine psound_spec hX mixed Tryz.func64 rfl fun ⟨⟨⟨r,ns,ds⟩,pI⟩,ht,hl9⟩ w0 G=>⟨by show 2≤62;decide,rfl,?_⟩
 show AW ⟨Tryz.prog,X,62,w0,.pure G⟩ _ _ _
 have hc:Cx.OK ⟨Tryz.prog,X,62,w0,.pure G⟩:=⟨hX,mixed⟩
 simp only at hl9 ht ⊢
 have hck':=hck _ ht pI 64
 have hl1:ns.length≤1000000:=ht.2.1
 have hl2:ds.length≤1000000:=ht.2.2
 rcases Decidable.em (ckd (r,ns,ds) pI 64≠0) with hk|hk
 ·have e:splP (r,ns,ds) pI=(zT,ckd (r,ns,ds) pI 64):=by unfold splP;rw [if_pos hk]
  rw [e]
  obtain ⟨c,hc0⟩:∃ c,c=ckd (r,ns,ds) pI 64:=⟨_,rfl⟩
  rw [← hc0] at hck' hk ⊢
  simp only [TbV,TbO,zT] at hck' ⊢
  have zS:=jj hck'<|hk
  refine dM64 ?_
  repeat (intro K hK)
  clear zS
  refine ⟨by simp,?_⟩
  simp [leaves_iff,Tryz.f64,nrows,prows]
  try exact dt
 ·obtain ⟨hpv,hp0,hp1⟩:=ckd_pt ht hk
  have hvt:=ckd_vt ht hk
  obtain ⟨g,rfl⟩:=Int.eq_ofNat_of_zero_le hp0
  have hg:g<64:=by omega
  obtain ⟨p,hpg⟩:∃ p,p=g*8:=⟨_,rfl⟩
  have hp:p<512:=by omega
  have hz:ckd (r,ns,ds) g 64=0:=by omega
  rw [hz] at hck'
  have hla':=hla _ _ (hpv.pto ht hp)
  have hlw:=lsT_u64 ht hpv hp
  have hen':=hen _ hlw
  have hlv:=(hpv.walk hp).2.2
  obtain ⟨f0,l0,w,hwk⟩:∃ f l w,wlk (Mof ns) r p=(f,l,w):=⟨_,_,_,rfl⟩
  simp only at hlv
  rw [hwk] at hlv
  simp only at hlv
  have hls:lsT (r,ns,ds) p=((lsT (r,ns,ds) p).1,l0,w):=by rw [← hlv]
  have hcl':=hcl _ ht
  have eS:splP (r,ns,ds) g=if l0=1∧(decR w).1.2.2.2.2.2=true then (splN (r,ns,ds) g w,0) else (zT,6):=by
   unfold splP
   rw [if_neg hk,Int.toNat_natCast,← hpg,hlv]
  rw [eS]
  rw [hls] at hla' hlw hen'
  simp only at hlw hen'
  obtain ⟨a0,ha0⟩:∃ a,a=(lsT (r,ns,ds) p).1:=⟨_,rfl⟩
  rw [← ha0] at hla'
  have hgm:(g:Int)*8=(p:Int):=by omega
  have hst:=@split_steps r ns ds hvt ht hl9 g p hg hpg f0 w
  obtain ⟨⟨⟨k,f,d,a,x,h⟩,e⟩,hE⟩:∃ r,r=decR w:=⟨_,rfl⟩
  rw [← hE] at hen' hst ⊢
  clear hls eS hck hla hen
  simp only [TbV,TbO,TbC,EnV,stV,srow,U] at hck' hla' hcl' hen' hst ⊢
  rcases Decidable.em (l0=1) with h1|h1
  ·subst h1
   cases h with
   | false =>
    rw [if_neg (by simp)]
    simp only [zT]
    have zS:=jj hck'<|jj hla'<|jj hgm<|hen'
    refine dM64 ?_
    repeat (intro K hK)
    clear zS
    all_goals refine ⟨by simp,?_⟩
    all_goals simp [leaves_iff,Tryz.f64,nrows,prows]
    all_goals try exact dt
   | true =>
    rw [if_pos ⟨rfl,rfl⟩]
    obtain ⟨hd0,hlo,⟨fd,hf1,hf2,hdp⟩,hNl,hN⟩:=hst hwk rfl
    rw [hf1] at hNl hN
    obtain ⟨c1,c2,c3,c4,c5⟩:=hpv.put ht hp hwk (w:=0) (by omega) tab0 (ok0 1)
    have hpu0:=fun M n=>@callPu 464 448 449 (by decide) (by decide) (by decide) r ns ds p 0 (hpv.pto ht hp) (by omega) 0 0 M n
    rw [← hpu] at hpu0
    obtain ⟨N1,hN1⟩:∃ N1,N1=(putT (r,ns,ds) p 0).2.1:=⟨_,rfl⟩
    have hsB:spB (r,ns,ds) p fd=stD r ds p N1 fd:=by unfold spB;rw [hN1]
    rw [← hN1] at hpu0 c1 c2 c5 hdp
    have hwd':=fun M n=>@callWd 464 448 449 (by decide) (by decide) (by decide) r N1 ds g c2 hvt.num.dasc hlo 0 0 M n
    rw [← hwd,hf1] at hwd'
    have hdp2:dpC r (delL ds g) p N1 fd:=by
     obtain ⟨⟨⟨k1,k2,k3⟩,k4⟩,k5⟩:=hdp
     exact ⟨⟨⟨k1,k2,by show (delL ds g).length≤_;rw [delL_len hlo];omega⟩,k4⟩,k5⟩
    have hde':=fun M n=>@callD2 464 448 560 576 (by decide) (by decide) (by decide) (by decide) (by decide) (by decide) r N1 (delL ds g) p fd hdp2 ns.length (ds.length - 1) c5.symm (delL_len hlo).symm 0 0 M n
    rw [← hde,show stD r (delL ds g) p N1 fd=spB (r,ns,ds) p fd from hsB.symm] at hde'
    have eN:splN (r,ns,ds) g w=(r,spN r ds p w (spB (r,ns,ds) p fd) 8,delL ds g):=by unfold splN;simp only;rw [hf1,← hpg]
    rw [eN]
    obtain ⟨N,hNd⟩:∃ N,N=spB (r,ns,ds) p fd:=⟨_,rfl⟩
    rw [← hNd] at hNl hN hde' ⊢
    simp only [Nat.zero_add,U,c5] at hpu0 hwd' hde' ⊢
    rw [show ((0:Nat):Int)=0 from rfl] at hpu0
    have zS:=jj hck'<|jj hla'<|jj hgm<|jj hen'<|jj hcl'<|jj hpu0<|jj hwd'<|hde'
    repeat' (first|(apply aw_seq_k;intro K hK)|(refine eF64 ?_)|(refine aw_cond (b:=_) (by exact rfl) (fun h=>?_) (fun h=>?_)<;>(try simp at h))|(refine eB ?_)|(refine hK _ ?_;clear hK)|(clear hK;refine hK _ ?_;clear hK)|(clear hK;clear hK;refine hK _ ?_;clear hK)|(clear hK;clear hK;clear hK;refine hK _ ?_;clear hK))
    all_goals clear zS
    refine aw_loopK (s0:=?lps1) (m0:=?lpm1) (ι:={i:Nat // i≤8}) [4,7,8,9] (fun s=>[(45,I s.1)]) (fun s=>[(464,.box [I r,.sl 448 2 9 0 N.length,.sl 560 1 2 0 (ds.length - 1)]),(448,.vec 2 9 false (nrows (spN r ds p w N s.1))),(560,.vec 1 2 false (prows (delL ds g)))]) (fun s=>8 - s.1) ⟨0,by omega⟩ ?lhs1 ?lhm1 ?_ ?_
    case lhs1=>first|(simp [keepS];done)|(simp [keepS];rfl)
    case lhm1=>first|rfl|(simp;done)|(simp;rfl)
    ·simp only [spN]
     exact dle
    ·rintro ⟨i,hi⟩
     simp only at hi ⊢
     obtain ⟨e1,e2,e3,e4,e5⟩:=hN i hi
     rcases Decidable.em (i<8) with hil|hil
     ·have hilI:(i:Int)<8:=by omega
      obtain ⟨s1,s2,s3,s4⟩:=spW_ok (w:=w) (by rw [← hE];exact hd0) (by rw [← hE]) hil
      have hpa':=hpa w i hlw
      rw [s1] at hpa'
      have hsp:spN r ds p w N (i+1)=(putT (r,spN r ds p w N i,ds) (p+i) (spW w i)).2.1:=rfl
      obtain ⟨S,hS⟩:∃ S,S=spN r ds p w N i:=⟨_,rfl⟩
      rw [← hS] at e1 e2 e3 hsp ⊢
      have e2':tbOK (r,S,delL ds g):=⟨e2.1,e2.2.1,by show (delL ds g).length≤_;rw [delL_len hlo];omega⟩
      have e1':Pv (r,S,delL ds g):=⟨e1.asc,e1.vm⟩
      have hpui:=fun M n=>@callPu 464 448 560 (by decide) (by decide) (by decide) r S (delL ds g) (p+i) (spW w i) (e1'.pto e2' (by omega)) s2 1 0 M n
      rw [← hpu,show (putT (r,S,delL ds g) (p+i) (spW w i)).2.1=(putT (r,S,ds) (p+i) (spW w i)).2.1 from rfl,← hsp,delL_len hlo,e3] at hpui
      simp only [Nat.zero_add,U] at hpui hpa'
      rw [show ((p+i:Nat):Int)=(p:Int)+i by omega] at hpui
      obtain ⟨S2,hS2⟩:∃ S2,S2=spN r ds p w N (i+1):=⟨_,rfl⟩
      rw [← hS2] at hpui
      obtain ⟨wi,hwi⟩:∃ wi,wi=spW w i:=⟨_,rfl⟩
      rw [← hwi] at hpui hpa'
      have zS:=jj hilI<|jj hpa'<|hpui
      repeat' (first|(apply aw_seq_k;intro K hK)|(refine eF64 ?_)|(refine aw_cond (b:=_) (by exact rfl) (fun h=>?_) (fun h=>?_)<;>(try simp at h))|(refine eB ?_)|(refine hK _ ?_;clear hK)|(clear hK;refine hK _ ?_;clear hK)|(clear hK;clear hK;refine hK _ ?_;clear hK)|(clear hK;clear hK;clear hK;refine hK _ ?_;clear hK))
      all_goals clear zS
      refine ⟨i+1,?_,by omega,by omega⟩
      simp only [← hS2]
      exact dle
     ·obtain rfl:i=8:=by omega
      obtain ⟨S,hS⟩:∃ S,S=spN r ds p w N 8:=⟨_,rfl⟩
      rw [← hS] at e3 ⊢
      have tkR:List.take N.length (nrows S)=nrows S:=List.take_of_length_le (by simp;omega)
      have tkd:List.take (ds.length - 1) (prows (delL ds g))=prows (delL ds g):=List.take_of_length_le (by simp;rw [delL_len hlo];omega)
      have hdl:=delL_len hlo
      repeat' (first|(apply aw_seq_k;intro K hK)|(refine eF64o ?_)|(refine aw_cond (b:=_) (by exact rfl) (fun h=>?_) (fun h=>?_)<;>(try simp at h))|(refine eB ?_)|(refine hK _ ?_;clear hK)|(clear hK;refine hK _ ?_;clear hK)|(clear hK;clear hK;refine hK _ ?_;clear hK)|(clear hK;clear hK;clear hK;refine hK _ ?_;clear hK))
      refine ⟨by simp,?_⟩
      simp [leaves_iff,Tryz.f64,tkR,tkd,e3,hdl]
      try exact dt
      rw [hS]
  ·rw [if_neg (fun h=>h1 h.1)]
   have h1I:¬ (l0:Int)=1:=by omega
   simp only [zT]
   have zS:=jj hck'<|jj hla'<|jj hgm<|jj hen'<|jj h1<|h1I
   refine dM64 ?_
   repeat (intro K hK)
   clear zS
   all_goals refine ⟨by simp,?_⟩
   all_goals simp [leaves_iff,Tryz.f64,nrows,prows]
   all_goals try exact dt
end Go.AM
namespace Go.AM
open Go Go.Proofs
set_option maxRecDepth 20000
theorem sameKV_int {q:IntKind}:∀ {n:Nat} {xs:List Value},sameKV (List.replicate n (.int q 0)) xs=true→∃ ls:List Int,xs=ls.map (Value.int q)∧ls.length=n
 | 0,[],_=>⟨[],rfl,rfl⟩
 | 0,x::xs,h=>by simp [sameKV] at h
 | n+1,[],h=>by simp [List.replicate_succ,sameKV] at h
 | n+1,x::xs,h=>by
  rw [List.replicate_succ] at h
  cases x<;>simp only [sameKV,Bool.and_eq_true,decide_eq_true_eq,Bool.false_eq_true] at h
  obtain ⟨rfl,h⟩:=h
  obtain ⟨ls,rfl,h2⟩:=sameKV_int h
  exact ⟨_::ls,rfl,by simp [h2]⟩
theorem eqV_int {q:IntKind}:∀ {ls:List Int} {ys:List Value} {b:Bool},eqV (ls.map (Value.int q)) ys=some b→∃ bs:List Int,ys=bs.map (Value.int q)∧bs.length=ls.length∧b=decide (ls=bs)
 | [],[],b,h=>by simp [eqV] at h;exact ⟨[],rfl,rfl,by simp [h]⟩
 | [],y::ys,b,h=>by simp [eqV] at h
 | a::ls,[],b,h=>by simp [eqV] at h
 | a::ls,y::ys,b,h=>by
  cases y<;>simp only [List.map_cons,eqV,reduceCtorEq] at h
  split at h
  case isFalse=>simp at h
  rename_i hk
  subst hk
  cases hr:eqV (ls.map (Value.int q)) ys with
  | none=>rw [hr] at h;simp at h
  | some r =>
   rw [hr] at h
   simp only [Option.map_some,Option.some.injEq] at h
   obtain ⟨bs,rfl,h2,rfl⟩:=eqV_int hr
   refine ⟨_::bs,rfl,by simp [h2],?_⟩
   rw [← h]
   simp
theorem eqI (w:World) {e:TypeId} {q:IntKind} (he:Tryz.prog.plainKey e=true) (hu:Tryz.prog.underlying e=some (.int q)) (d:Nat):∀ {ls bs:List Int} {k:Nat} {px py:List Value},px.length=k→py.length=k→ls.length=bs.length →
  (Op.eqItems (d+1) e 1 (px++ls.map (Value.int q)).toArray (py++bs.map (Value.int q)).toArray (List.range' k ls.length)).run Tryz.prog w=.ok (decide (ls=bs)) w
 | [],[],k,px,py,hp,hq,_=>rfl
 | [],_::_,_,_,_,_,_,h=>by simp at h
 | _::_,[],_,_,_,_,_,h=>by simp at h
 | a::ls,b::bs,k,px,py,hp,hq,hl=>by
  have hx:(px++(a::ls).map (Value.int q)).toArray[k*1]?=some (.int q a):=by simp [← hp]
  have hy:(py++(b::bs).map (Value.int q)).toArray[k*1]?=some (.int q b):=by simp [← hq]
  have ex:px++(a::ls).map (Value.int q)=(px++[.int q a])++ls.map (Value.int q):=by simp
  have ey:py++(b::bs).map (Value.int q)=(py++[.int q b])++bs.map (Value.int q):=by simp
  rw [show (a::ls).length=ls.length+1 from rfl,List.range'_succ]
  simp only [Op.eqItems,Sem.run_bind]
  rw [run_part_plain w he hx]
  simp only [Result.andThen_ok]
  rw [run_part_plain w he hy]
  simp only [Result.andThen_ok]
  rw [run_equalIn_int w _ e q q _ _ hu]
  simp only [Result.andThen_ok]
  have ih:=eqI w he hu d (ls:=ls) (bs:=bs) (k:=k+1) (px:=px++[.int q a]) (py:=py++[.int q b]) (by simp [hp]) (by simp [hq]) (by simpa using hl)
  rw [← ex,← ey] at ih
  by_cases e1:a=b
  ·subst e1
   simp only [beq_self_eq_true,Bool.not_true,Bool.false_eq_true,if_false]
   rw [ih]
   simp
  ·have hb:(a == b)=false:=by simpa using e1
   simp only [hb,Bool.not_false,if_true,Sem.run_pure]
   simp [e1]
theorem uW8:Tryz.prog.underlying 148=some (.array 8 76):=by kernel_rfl
theorem uU64:Tryz.prog.underlying 76=some (.int .u64):=by kernel_rfl
theorem pkU64:Tryz.prog.plainKey 76=true:=by kernel_rfl
theorem clU64:Tryz.prog.cellsOf 76=1:=by kernel_rfl
theorem clW8:Tryz.prog.cellsOf 148=8:=by kernel_rfl
theorem eqW (w:World) {ls bs:List Int} (ha:ls.length=8) (hb:bs.length=8) (d:Nat):(Op.equalIn (d+2) 148 (.agg (ls.map (Value.int .u64)).toArray) (.agg (bs.map (Value.int .u64)).toArray)).run Tryz.prog w=.ok (decide (ls=bs)) w:=by
 obtain ⟨i,hi⟩:=info_of_underlying uU64
 rw [run_equalIn_array w (d+1) _ _ uW8 hi,clU64,List.range_eq_range']
 have:=eqI w pkU64 uU64 d (ls:=ls) (bs:=bs) (k:=0) (px:=[]) (py:=[]) rfl rfl (by omega)
 rw [ha] at this
 simpa using this
theorem ckI (w:World) (em:Bool) (d:Nat) {e:TypeId} {q:IntKind} (he:Tryz.prog.plainKey e=true) (hu:Tryz.prog.underlying e=some (.int q)) (hs:∀ w,(sizeOf e).run Tryz.prog w=.ok 1 w):∀ {ls:List Int} {k:Nat} {px:List Value},px.length=k →
  (forIn (List.range' k ls.length) PUnit.unit fun i (_:PUnit)=>(do
    let a ← sizeOf e
    let b ← part e (px++ls.map (Value.int q)).toArray (i*a)
    Instr.checkKey em (d+1) e b
    pure (ForInStep.yield PUnit.unit):Sem (ForInStep PUnit))).run Tryz.prog w=.ok PUnit.unit w
 | [],k,px,_=>rfl
 | a::ls,k,px,hp=>by
  have hx:(px++(a::ls).map (Value.int q)).toArray[k*1]?=some (.int q a):=by simp [← hp]
  have ex:px++(a::ls).map (Value.int q)=(px++[.int q a])++ls.map (Value.int q):=by simp
  have ih:=ckI w em d he hu hs (ls:=ls) (k:=k+1) (px:=px++[.int q a]) (by simp [hp])
  rw [← ex] at ih
  rw [show (a::ls).length=ls.length+1 from rfl,List.range'_succ]
  simp only [List.forIn_cons,Sem.run_bind]
  rw [hs]
  simp only [Result.andThen_ok]
  rw [run_part_plain w he hx]
  simp only [Result.andThen_ok,ckP (v:=.int q a) he hu,Sem.run_pure]
  exact ih
theorem szU (w:World):(sizeOf 76).run Tryz.prog w=.ok 1 w:=by
 obtain ⟨i,hi⟩:=info_of_underlying uU64
 rw [run_sizeOf w hi,clU64]
theorem ckW (w:World) (em:Bool) (d:Nat) {ls:List Int} (ha:ls.length=8):(Instr.checkKey em (d+2) 148 (.agg (ls.map (Value.int .u64)).toArray)).run Tryz.prog w=.ok () w:=by
 rw [show d+2=d+1+1 from rfl,Instr.checkKey]
 simp only [Sem.run_bind,run_underlying uW8,Result.andThen_ok]
 simp only [Std.Legacy.Range.forIn_eq_forIn_range',Std.Legacy.Range.size,Nat.sub_zero,Nat.add_one_sub_one,Nat.div_one]
 have:=ckI w em d pkU64 uU64 szU (ls:=ls) (k:=0) (px:=[]) rfl
 rw [ha] at this
 simp only [List.nil_append] at this
 rw [this]
 rfl
theorem guardW:Tryz.prog.eqGuardType Tryz.prog.depth 148=false:=by kernel_rfl
theorem eqW8:EqOK Tryz.prog 148:=by
 intro d hd
 rw [tyW8,Option.some.injEq] at hd
 subst hd
 refine ⟨fun w xs b hk=>?_,fun w xs ys b hk he=>⟨?_,guardW⟩⟩
 ·obtain ⟨ls,rfl,ha⟩:=sameKV_int hk
  exact ckW w b 9998 ha
 ·obtain ⟨ls,rfl,ha⟩:=sameKV_int hk
  obtain ⟨bs,rfl,hb,rfl⟩:=eqV_int he
  exact eqW w ha (by omega) 9998
theorem uN:Tryz.prog.underlying 150=some (.struct (Tryz.prog.fieldsOf 150)):=by kernel_rfl
theorem stN:Tryz.prog.stoodInHeld 150=false:=by kernel_rfl
theorem guardN:Tryz.prog.eqGuardType Tryz.prog.depth 150=false:=by kernel_rfl
theorem partW (w:World) (x:Value) {ls:List Int} (ha:ls.length=8):(part 148 (x::ls.map (Value.int .u64)).toArray 1).run Tryz.prog w=.ok (.agg (ls.map (Value.int .u64)).toArray) w:=by
 obtain ⟨i,hi⟩:=info_of_underlying uW8
 have:((x::ls.map (Value.int .u64)).toArray.extract 1 9)=(ls.map (Value.int .u64)).toArray:=by
  apply Array.ext'
  rw [Array.toList_extract]
  simp [List.extract,ha,List.take_of_length_le]
 have tk:List.take 8 (ls.map (Value.int .u64))=ls.map (Value.int .u64):=List.take_of_length_le (by simp [ha])
 simp [part,isAgg,run_underlying uW8,run_sizeOf w hi,clW8,this,tk]
theorem fldN : ∃ n1 n2 f1 f2, (Tryz.prog.fieldsOf 150).toList = [f1, f2] ∧ f1.name = n1 ∧ f2.name = n2 ∧ n1 ≠ "_" ∧ n2 ≠ "_" ∧ f1.type = 3 ∧ f2.type = 148 ∧ f1.offset = 0 ∧ f2.offset = 1 :=
 ⟨ "Frame", "Entries", (Tryz.prog.fieldsOf 150)[0]!, (Tryz.prog.fieldsOf 150)[1]!, by kernel_rfl, by kernel_rfl, by kernel_rfl, by decide, by decide, by kernel_rfl, by kernel_rfl, by kernel_rfl, by kernel_rfl⟩
theorem pk3:Tryz.prog.plainKey 3=true:=by kernel_rfl
theorem eqN:EqOK Tryz.prog 150:=by
 intro d hd
 rw [tyN,Option.some.injEq] at hd
 subst hd
 obtain ⟨n1,n2,f1,f2,hf,e1,e2,e3,e4,e5,e6,e7,e8⟩:=fldN
 have form:∀ {xs:List Value},sameKV (Value.int .i64 0::List.replicate 8 (.int .u64 0)) xs=true→∃ (x:Int) (ls:List Int),xs=.int .i64 x::ls.map (Value.int .u64)∧ls.length=8:=fun {xs} h=>by
  cases xs with
  | nil=>simp [sameKV] at h
  | cons x xs =>
   cases x<;>simp only [sameKV,Bool.and_eq_true,decide_eq_true_eq,Bool.false_eq_true] at h
   obtain ⟨rfl,h⟩:=h
   obtain ⟨ls,rfl,h2⟩:=sameKV_int h
   exact ⟨_,ls,rfl,h2⟩
 refine ⟨fun w xs b hk=>?_,fun w xs ys b hk he=>⟨?_,guardN⟩⟩
 ·obtain ⟨x,ls,rfl,ha⟩:=form hk
  rw [show (10000:Nat)=9999+1 from rfl,Instr.checkKey]
  simp only [Sem.run_bind,run_underlying uN,Result.andThen_ok]
  rw [← Array.forIn_toList,hf]
  have hx:(Value.int .i64 x::ls.map (Value.int .u64)).toArray[0]?=some (.int .i64 x):=by simp
  simp only [List.forIn_cons,List.forIn_nil,Sem.run_bind,e1,e2,e5,e6,e7,e8]
  rw [if_pos e3]
  simp only [Sem.run_bind]
  rw [run_part_plain w pk3 hx]
  simp only [Result.andThen_ok,ckP (v:=.int .i64 x) (d:=9998) pk3 und3,Sem.run_pure]
  rw [if_pos e4]
  simp only [Sem.run_bind]
  rw [partW w _ ha]
  simp only [Result.andThen_ok]
  rw [ckW w b 9997 ha]
  rfl
 ·obtain ⟨x,ls,rfl,ha⟩:=form hk
  cases ys with
  | nil=>simp [eqV] at he
  | cons y ys =>
   cases y<;>simp only [eqV,reduceCtorEq] at he
   split at he
   case isFalse=>simp at he
   rename_i q y hq
   subst hq
   cases hr:eqV (ls.map (Value.int .u64)) ys with
   | none=>rw [hr] at he;simp at he
   | some r =>
    rw [hr] at he
    simp only [Option.map_some,Option.some.injEq] at he
    obtain ⟨bs,rfl,hb,rfl⟩:=eqV_int hr
    unfold Op.equal
    rw [show Op.maxDepth=9999+1 from rfl,run_equalIn_agg w _ _ _ _ uN stN,hf]
    simp only [Op.eqFields]
    rw [e1,if_pos e3,e5,e7]
    simp only [Sem.run_bind]
    rw [run_part_plain w pk3 (show (Value.int .i64 x::ls.map (Value.int .u64)).toArray[0]?=some (.int .i64 x) by simp)]
    simp only [Result.andThen_ok]
    rw [run_part_plain w pk3 (show (Value.int .i64 y::bs.map (Value.int .u64)).toArray[0]?=some (.int .i64 y) by simp)]
    simp only [Result.andThen_ok]
    rw [show (9999:Nat)=9998+1 from rfl,run_equalIn_int w _ 3 .i64 .i64 _ _ und3]
    simp only [Result.andThen_ok]
    by_cases exy:x=y
    ·subst exy
     simp only [beq_self_eq_true,Bool.not_true,Bool.false_eq_true,if_false]
     rw [e2,if_pos e4,e6,e8]
     simp only [Sem.run_bind]
     rw [partW w _ ha]
     simp only [Result.andThen_ok]
     rw [partW w _ (by omega)]
     simp only [Result.andThen_ok]
     rw [show 9998+1=9997+2 from rfl,eqW w ha (by omega) 9997]
     simp only [Result.andThen_ok]
     rw [← he]
     by_cases eab:ls=bs
     ·subst eab;simp
     ·simp [eab]
    ·have hb2:(x == y)=false:=by simpa using exy
     simp only [hb2,Bool.not_false,if_true,Sem.run_pure]
     rw [← he];simp [exy]
end Go.AM
namespace Go.AM
open Go Go.Proofs
theorem eqL_wcs:∀ {a b:List Nat},a.length=b.length→eqL (wcs a) (wcs b)=some (decide (a=b))
 | [],[],_=>rfl
 | [],_::_,h=>by simp at h
 | _::_,[],h=>by simp at h
 | x::a,y::b,h=>by
  have ih:=eqL_wcs (a:=a) (b:=b) (by simpa using h)
  show eqL (.v (.int .u64 x)::wcs a) (.v (.int .u64 y)::wcs b)=_
  simp only [eqL,ih,if_true,Option.map_some,Option.some.injEq,List.cons.injEq]
  by_cases e:x=y
  ·subst e;simp
  ·have:¬ (x:Int)=y:=by omega
   simp [e,this]
theorem sameK_wcs:∀ {n:Nat} {a:List Nat},a.length=n→sameK (List.replicate n (.int .u64 0)) (wcs a)=true
 | 0,[],_=>rfl
 | n+1,x::a,h=>by
  rw [List.replicate_succ]
  show (decide (IntKind.u64=IntKind.u64)&&sameK _ (wcs a))=true
  rw [sameK_wcs (by simpa using h)];rfl
 | 0,_::_,h=>by simp at h
 | _+1,[],h=>by simp at h
theorem list_ext_gn {a b:List Nd} (hl:a.length=b.length) (h:∀ j,j<a.length→gn a j=gn b j):a=b:=by
 refine List.ext_getElem hl fun i h1 h2=>?_
 have:=h i h1
 rw [gn_eq h1,gn_eq h2] at this
 exact this
theorem list_ext_gp {a b:List Dp} (hl:a.length=b.length) (h:∀ j,j<a.length→gp a j=gp b j):a=b:=by
 refine List.ext_getElem hl fun i h1 h2=>?_
 have:=h i h1
 rw [gp_eq h1,gp_eq h2] at this
 exact this
set_option maxHeartbeats 4000000 in
theorem s31 (X:AX) (hX:XOK Tryz.prog X) (hw:X.W wT) (hen:X.eqs 150=true) (hed:X.eqs 170=true):PSound Tryz.prog 31 (specF (ι:={x:Tb×Tb // tbOK x.1∧tbOK x.2}) (fun x=>[TbV x.1.1,TbV x.1.2]) fun x=>retOf [B (decide (x.1.1=x.1.2))]):=by
 refine psound_spec hX mixed Tryz.func31 rfl fun ⟨⟨⟨r,ns,ds⟩,⟨r',ns',ds'⟩⟩,ht,ht'⟩ w0 G=>⟨by show 2≤66;decide,rfl,?_⟩
 show AW ⟨Tryz.prog,X,66,w0,.pure G⟩ _ _ _
 have hc:Cx.OK ⟨Tryz.prog,X,66,w0,.pure G⟩:=⟨hX,mixed⟩
 simp only at ht ht' ⊢
 have hl1:ns.length≤1000000:=ht.2.1
 have hl2:ds.length≤1000000:=ht.2.2
 have hl1':ns'.length≤1000000:=ht'.2.1
 have hl2':ds'.length≤1000000:=ht'.2.2
 simp only [TbV]
 rcases Decidable.em (r=r') with h1|h1
 ·subst h1
  rcases Decidable.em (ns.length=ns'.length) with h2|h2
  ·have h2I:(ns.length:Int)=(ns'.length:Int):=by omega
   rcases Decidable.em (ds.length=ds'.length) with h3|h3
   ·have h3I:(ds.length:Int)=(ds'.length:Int):=by omega
    have zS:=jj h2<|h3
    repeat' (first|(apply aw_seq_k;intro K hK)|(refine eM64 ?_)|(refine aw_cond (b:=_) (by exact rfl) (fun h=>?_) (fun h=>?_)<;>(try simp at h))|(refine eB ?_)|(refine hK _ ?_;clear hK)|(clear hK;refine hK _ ?_;clear hK)|(clear hK;clear hK;refine hK _ ?_;clear hK)|(clear hK;clear hK;clear hK;refine hK _ ?_;clear hK))
    all_goals clear zS
    refine aw_loopK (s0:=?lps1) (m0:=?lpm1) (ι:={i:Nat // i≤ns'.length∧∀ j,j<i→gn ns j=gn ns' j}) [2,3,32] (fun s=>[(33,I s.1)]) (fun _=>[]) (fun s=>ns'.length - s.1) ⟨0,by omega,by omega⟩ ?lhs1 ?lhm1 ?_ ?_
    case lhs1=>first|(simp [keepS];done)|(simp [keepS];rfl)
    case lhm1=>first|rfl|(simp;done)|(simp;rfl)
    ·exact dle
    ·rintro ⟨i,hi,hinv⟩
     simp only
     rcases Decidable.em (i<ns'.length) with hil|hil
     ·have hilI:(i:Int)<(ns'.length:Int):=by omega
      have hil2:i<ns.length:=by omega
      have hil2I:(i:Int)<(ns.length:Int):=by omega
      have hg:=nrows_gi hil2
      have hgE:=nrows_gE hil2
      have hg':=nrows_gi hil
      have hgE':=nrows_gE hil
      have hlen:=(ht.1 _ (gn_mem hil2)).1
      have hlen':=(ht'.1 _ (gn_mem hil)).1
      have hdf:gn ns i≠gn ns' i→¬ (r,ns,ds)=(r,ns',ds'):=fun h e=>h (by simp only [Prod.mk.injEq] at e;rw [e.2.1])
      have hinv2:gn ns i=gn ns' i→∀ j,j<i+1→gn ns j=gn ns' j:=fun h j hj=>by
       rcases Nat.lt_succ_iff_lt_or_eq.1 hj with h5|rfl
       ·exact hinv j h5
       ·exact h
      obtain ⟨⟨a,ws⟩,hm⟩:∃ m,m=gn ns i:=⟨_,rfl⟩
      obtain ⟨⟨b,vs⟩,hm'⟩:∃ m,m=gn ns' i:=⟨_,rfl⟩
      rw [← hm,← hm'] at hdf hinv2
      rw [← hm] at hg hgE hlen
      rw [← hm'] at hg' hgE' hlen'
      simp only at hg hgE hlen hg' hgE' hlen'
      have heq:=eqL_wcs (a:=ws) (b:=vs) (by omega)
      have hsk:=sameK_wcs hlen
      have hsk':=sameK_wcs hlen'
      simp only [List.reduceReplicate] at hsk hsk'
      have hcl:(wcs ws).length=8:=by simp [hlen]
      have hcl':(wcs vs).length=8:=by simp [hlen']
      obtain ⟨cs,hcs⟩:∃ cs,cs=wcs ws:=⟨_,rfl⟩
      obtain ⟨cs',hcs'⟩:∃ cs,cs=wcs vs:=⟨_,rfl⟩
      rw [← hcs] at hg hgE heq hsk hcl
      rw [← hcs'] at hg' hgE' heq hsk' hcl'
      clear hm hm' hcs hcs'
      have htk:List.take 8 cs=cs:=List.take_of_length_le (by omega)
      have htk':List.take 8 cs'=cs':=List.take_of_length_le (by omega)
      rcases Decidable.em (a=b) with e1|e1
      ·subst e1
       rcases Decidable.em (ws=vs) with e2|e2
       ·subst e2
        rw [decide_eq_true rfl] at heq
        have:=hinv2 rfl
        have zS:=jj hilI<|jj hil<|jj hil2<|jj hil2I<|jj hg<|jj hgE<|jj hg'<|jj hgE'<|jj htk<|jj htk'<|jj heq<|jj hsk<|jj hsk'<|jj hcl<|jj hcl'<|jj hen<|jj eqLs<|jj sameKs<|h2
        repeat' (first|(apply aw_seq_k;intro K hK)|(refine eM64 ?_)|(refine aw_cond (b:=_) (by exact rfl) (fun h=>?_) (fun h=>?_)<;>(try simp at h))|(refine eB ?_)|(refine hK _ ?_;clear hK)|(clear hK;refine hK _ ?_;clear hK)|(clear hK;clear hK;refine hK _ ?_;clear hK)|(clear hK;clear hK;clear hK;refine hK _ ?_;clear hK))
        all_goals clear zS
        refine ⟨i+1,?_,⟨by omega,this⟩,by omega⟩
        exact dle
       ·rw [decide_eq_false e2] at heq
        have e:=hdf (by simpa using e2)
        have zS:=jj hilI<|jj hil<|jj hil2<|jj hil2I<|jj hg<|jj hgE<|jj hg'<|jj hgE'<|jj htk<|jj htk'<|jj heq<|jj hsk<|jj hsk'<|jj hcl<|jj hcl'<|jj hen<|jj eqLs<|jj sameKs<|h2
        repeat' (first|(apply aw_seq_k;intro K hK)|(refine eM64 ?_)|(refine aw_cond (b:=_) (by exact rfl) (fun h=>?_) (fun h=>?_)<;>(try simp at h))|(refine eB ?_)|(refine hK _ ?_;clear hK)|(clear hK;refine hK _ ?_;clear hK)|(clear hK;clear hK;refine hK _ ?_;clear hK)|(clear hK;clear hK;clear hK;refine hK _ ?_;clear hK))
        all_goals clear zS
        refine ⟨by simp,?_⟩
        simp [leaves_iff,Tryz.f31,e]
        try exact dt
      ·have e:=hdf (by simp [e1])
       have e1':¬ b=a:=fun h=>e1 h.symm
       rcases Decidable.em (ws=vs) with e2|e2
       ·rw [decide_eq_true e2] at heq
        have zS:=jj hilI<|jj hil<|jj hil2<|jj hil2I<|jj hg<|jj hgE<|jj hg'<|jj hgE'<|jj htk<|jj htk'<|jj heq<|jj hsk<|jj hsk'<|jj hcl<|jj hcl'<|jj hen<|jj eqLs<|jj sameKs<|jj h2<|jj e1<|e1'
        repeat' (first|(apply aw_seq_k;intro K hK)|(refine eM64 ?_)|(refine aw_cond (b:=_) (by exact rfl) (fun h=>?_) (fun h=>?_)<;>(try simp at h))|(refine eB ?_)|(refine hK _ ?_;clear hK)|(clear hK;refine hK _ ?_;clear hK)|(clear hK;clear hK;refine hK _ ?_;clear hK)|(clear hK;clear hK;clear hK;refine hK _ ?_;clear hK))
        all_goals clear zS
        refine ⟨by simp,?_⟩
        simp [leaves_iff,Tryz.f31,e]
        try exact dt
       ·rw [decide_eq_false e2] at heq
        have zS:=jj hilI<|jj hil<|jj hil2<|jj hil2I<|jj hg<|jj hgE<|jj hg'<|jj hgE'<|jj htk<|jj htk'<|jj heq<|jj hsk<|jj hsk'<|jj hcl<|jj hcl'<|jj hen<|jj eqLs<|jj sameKs<|jj h2<|jj e1<|e1'
        repeat' (first|(apply aw_seq_k;intro K hK)|(refine eM64 ?_)|(refine aw_cond (b:=_) (by exact rfl) (fun h=>?_) (fun h=>?_)<;>(try simp at h))|(refine eB ?_)|(refine hK _ ?_;clear hK)|(clear hK;refine hK _ ?_;clear hK)|(clear hK;clear hK;refine hK _ ?_;clear hK)|(clear hK;clear hK;clear hK;refine hK _ ?_;clear hK))
        all_goals clear zS
        refine ⟨by simp,?_⟩
        simp [leaves_iff,Tryz.f31,e]
        try exact dt
     ·obtain rfl:i=ns'.length:=by omega
      have hns:ns=ns':=list_ext_gn h2 fun j hj=>hinv j (by omega)
      clear hinv
      have zS:=h3
      repeat' (first|(apply aw_seq_k;intro K hK)|(refine eM64 ?_)|(refine aw_cond (b:=_) (by exact rfl) (fun h=>?_) (fun h=>?_)<;>(try simp at h))|(refine eB ?_)|(refine hK _ ?_;clear hK)|(clear hK;refine hK _ ?_;clear hK)|(clear hK;clear hK;refine hK _ ?_;clear hK)|(clear hK;clear hK;clear hK;refine hK _ ?_;clear hK))
      all_goals clear zS
      refine aw_loopK (s0:=?lps2) (m0:=?lpm2) (ι:={i:Nat // i≤ds'.length∧∀ j,j<i→gp ds j=gp ds' j}) [2,3,50] (fun s=>[(51,I s.1)]) (fun _=>[]) (fun s=>ds'.length - s.1) ⟨0,by omega,by omega⟩ ?lhs2 ?lhm2 ?_ ?_
      case lhs2=>first|(simp [keepS];done)|(simp [keepS];rfl)
      case lhm2=>first|rfl|(simp;done)|(simp;rfl)
      ·exact dle
      ·rintro ⟨i,hi,hinv⟩
       simp only
       rcases Decidable.em (i<ds'.length) with hil|hil
       ·have hilI:(i:Int)<(ds'.length:Int):=by omega
        have hil2:i<ds.length:=by omega
        have hil2I:(i:Int)<(ds.length:Int):=by omega
        have hg:=prows_gi hil2
        have hgE:=prows_gE hil2
        have hg':=prows_gi hil
        have hgE':=prows_gE hil
        have hdf:gp ds i≠gp ds' i→¬ (r,ns,ds)=(r,ns',ds'):=fun h e=>h (by simp only [Prod.mk.injEq] at e;rw [e.2.2])
        have hinv2:gp ds i=gp ds' i→∀ j,j<i+1→gp ds j=gp ds' j:=fun h j hj=>by
         rcases Nat.lt_succ_iff_lt_or_eq.1 hj with h5|rfl
         ·exact hinv j h5
         ·exact h
        obtain ⟨⟨a,b⟩,hm⟩:∃ m,m=gp ds i:=⟨_,rfl⟩
        obtain ⟨⟨c,d⟩,hm'⟩:∃ m,m=gp ds' i:=⟨_,rfl⟩
        rw [← hm,← hm'] at hdf hinv2
        rw [← hm] at hg hgE
        rw [← hm'] at hg' hgE'
        simp only at hg hgE hg' hgE'
        clear hm hm'
        rcases Decidable.em (a=c∧b=d) with e1|e1
        ·obtain ⟨rfl,rfl⟩:=e1
         have:=hinv2 rfl
         have zS:=jj hilI<|jj hil<|jj hil2<|jj hil2I<|jj hg<|jj hgE<|jj hg'<|jj hgE'<|jj hed<|jj eqLs<|jj sameKs<|h3
         repeat' (first|(apply aw_seq_k;intro K hK)|(refine eM64 ?_)|(refine aw_cond (b:=_) (by exact rfl) (fun h=>?_) (fun h=>?_)<;>(try simp at h))|(refine eB ?_)|(refine hK _ ?_;clear hK)|(clear hK;refine hK _ ?_;clear hK)|(clear hK;clear hK;refine hK _ ?_;clear hK)|(clear hK;clear hK;clear hK;refine hK _ ?_;clear hK))
         all_goals clear zS
         refine ⟨i+1,?_,⟨by omega,this⟩,by omega⟩
         exact dle
        ·have e:=hdf (by simp;omega)
         have e2:a=c→¬ b=d:=by omega
         have zS:=jj hilI<|jj hil<|jj hil2<|jj hil2I<|jj hg<|jj hgE<|jj hg'<|jj hgE'<|jj hed<|jj eqLs<|jj sameKs<|jj h3<|jj e1<|e2
         repeat' (first|(apply aw_seq_k;intro K hK)|(refine eM64 ?_)|(refine aw_cond (b:=_) (by exact rfl) (fun h=>?_) (fun h=>?_)<;>(try simp at h))|(refine eB ?_)|(refine hK _ ?_;clear hK)|(clear hK;refine hK _ ?_;clear hK)|(clear hK;clear hK;refine hK _ ?_;clear hK)|(clear hK;clear hK;clear hK;refine hK _ ?_;clear hK))
         all_goals clear zS
         refine ⟨by simp,?_⟩
         simp [leaves_iff,Tryz.f31,e]
         try exact dt
       ·obtain rfl:i=ds'.length:=by omega
        have hds:ds=ds':=list_ext_gp h3 fun j hj=>hinv j (by omega)
        have zS:=h3
        repeat' (first|(apply aw_seq_k;intro K hK)|(refine eM64 ?_)|(refine aw_cond (b:=_) (by exact rfl) (fun h=>?_) (fun h=>?_)<;>(try simp at h))|(refine eB ?_)|(refine hK _ ?_;clear hK)|(clear hK;refine hK _ ?_;clear hK)|(clear hK;clear hK;refine hK _ ?_;clear hK)|(clear hK;clear hK;clear hK;refine hK _ ?_;clear hK))
        all_goals clear zS
        refine ⟨by simp,?_⟩
        simp [leaves_iff,Tryz.f31,hns,hds]
        try exact dt
   ·have h3I:¬ (ds.length:Int)=(ds'.length:Int):=by omega
    have e:¬ (r,ns,ds)=(r,ns',ds'):=fun e=>by simp only [Prod.mk.injEq] at e;exact h3 (by rw [e.2.2])
    have zS:=jj h2<|jj h3<|h3I
    refine dM64 ?_
    repeat (intro K hK)
    clear zS
    all_goals refine ⟨by simp,?_⟩
    all_goals simp [leaves_iff,Tryz.f31,e]
    all_goals try exact dt
  ·have h2I:¬ (ns.length:Int)=(ns'.length:Int):=by omega
   have e:¬ (r,ns,ds)=(r,ns',ds'):=fun e=>by simp only [Prod.mk.injEq] at e;exact h2 (by rw [e.2.1])
   have zS:=jj h2<|h2I
   refine dM64 ?_
   repeat (intro K hK)
   clear zS
   all_goals refine ⟨by simp,?_⟩
   all_goals simp [leaves_iff,Tryz.f31,e]
   all_goals try exact dt
 ·have e:¬ (r,ns,ds)=(r',ns',ds'):=fun e=>by simp only [Prod.mk.injEq] at e;exact h1 e.1
  have zS:=h1
  refine dM64 ?_
  repeat (intro K hK)
  clear zS
  all_goals refine ⟨by simp,?_⟩
  all_goals simp [leaves_iff,Tryz.f31,e]
  all_goals try exact dt
end Go.AM
