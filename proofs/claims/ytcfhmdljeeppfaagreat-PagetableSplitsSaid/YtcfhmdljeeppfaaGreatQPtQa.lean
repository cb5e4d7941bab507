/- A part of the proof; no condition. -/
import Derived.Test.YtcfhmdljeeppfaaGreatQPt84
set_option linter.all false
namespace Go.AM
open Go Go.Proofs
theorem chain_t:∀ {l:List (Bool×Int)},(∀ p∈l,p.1=true)→chain l=0
 | [],_=>rfl
 | (b,c)::r,h=>by
  have h1:=h (b,c) (by simp)
  simp only at h1
  subst h1
  simp only [chain,if_true]
  exact chain_t fun p hp=>h p (List.mem_cons_of_mem _ hp)
theorem join_parts {w:Nat} (h:(decR w).2=0) (hh:(decR w).1.2.2.2.2.2=true):joinR ((List.range 8).map (spW w))=((w:Int),0):=by
 have hp:∀ i,i<8→decR (((List.range 8).map (spW w)).getD i 0)=((1,(decR w).1.2.1+i,(decR w).1.2.2.1,(decR w).1.2.2.2.1,(decR w).1.2.2.2.2.1,false),0):=fun i hi=>by
  obtain ⟨n,h1,h2,h3⟩:=part_ok h hh hi
  have e:spW w i=n:=by unfold spW;rw [h1];simp
  have:((List.range 8).map (spW w)).getD i 0=spW w i:=by simp [hi]
  rw [this,e,h3]
 obtain ⟨_,_,_,hen⟩:=decR_ok h
 have hk:=kind_huge h hh
 unfold joinR
 rw [hp 0 (by omega),hp 1 (by omega),hp 2 (by omega),hp 3 (by omega),hp 4 (by omega),hp 5 (by omega),hp 6 (by omega),hp 7 (by omega)]
 obtain ⟨⟨k,f,d,a,x,hg⟩,hE⟩:∃ e,e=(decR w).1:=⟨_,rfl⟩
 rw [← hE] at hen hk hh ⊢
 simp only at hk hh ⊢
 subst hk hh
 unfold joinL
 rw [if_pos (chain_t (by simp [joinC]))]
 simpa using hen
theorem set_same {l:List Nat} {i w:Nat} (hi:i<l.length) (h:l.getD i 0=w) (x:Nat):(l.set i x).set i w=l:=by
 rw [List.set_set]
 subst h
 rw [List.getD_eq_getElem?_getD,List.getElem?_eq_getElem hi]
 simp
theorem spl_asm {r:Int} {ns:NdL} {ds:List Dp} (hv:Vt (r,ns,ds)) (ht:tbOK (r,ns,ds)) (hl9:ns.length≤999000) {g:Nat} (hg:g<64) {f0:Int} {w:Nat} (hw:wlk (Mof ns) r (g*8)=(f0,1,w)) (hh:(decR w).1.2.2.2.2.2=true) :
  asmP (splN (r,ns,ds) g w) g=((r,ns,ds),0):=by
 obtain ⟨v1,v2,v3,v4⟩:=spl_vt hv ht hl9 hg hw hh
 obtain ⟨F,h1,h2,h3,h4,h5,h6,h7,h8,h9,h10⟩:=spl_map hv ht hl9 hg rfl hw hh
 obtain ⟨s0,_⟩:=split_steps hv ht hl9 hg rfl hw hh
 have hS:splN (r,ns,ds) g w=(r,spN r ds (g*8) w (spB (r,ns,ds) (g*8) (gp ds (lowD ds g)).2) 8,delK ds (g:Int)):=Prod.ext rfl (Prod.ext rfl v4)
 rw [hS] at v1 v2 ⊢
 obtain ⟨S,hSS⟩:∃ S,S=spN r ds (g*8) w (spB (r,ns,ds) (g*8) (gp ds (lowD ds g)).2) 8:=⟨_,rfl⟩
 rw [← hSS] at h5 h6 h7 h8 h9 h10 v1 v2 ⊢
 have hp:g*8<512:=by omega
 have hpS:Pv (r,S,delK ds (g:Int)):=v1.pv
 have hw0:=h8 0 (by omega)
 rw [Nat.add_zero] at hw0
 obtain ⟨d1,d2,d3,d4,d5⟩:=end_nd hpS hp hw0
 have hMF:Mof S F=some ((List.range 8).map (spW w)):=by rw [h9];simp [updM1]
 have hws:(gn S (lsT (r,S,delK ds (g:Int)) (g*8)).1).2=(List.range 8).map (spW w):=by
  rw [hMF] at d4;exact (Option.some.inj d4).symm
 have hck:ckd (r,S,delK ds (g:Int)) g 64=0:=ckd_z ((chk_iff v2).2 v1) (by omega) (by omega)
 have hi:insK (delK ds (g:Int)) ((g:Int),(F:Int))=ds:=by
  refine insK_del (n:=((g:Int),(F:Int))) hv.num.dasc ?_
  have:=gp_mem h4
  rwa [show gp ds (lowD ds g)=((g:Int),(F:Int)) from Prod.ext v3 h1] at this
 have hz:(lsT (r,S,delK ds (g:Int)) (g*8)).2.1=0:=by rw [d2]
 have ha:asN (r,S,delK ds (g:Int)) (g*8) w=ns:=by
  obtain ⟨n2,w2,n1,w1,g1,f,a1,a2,a3,a4,a5,a6,a7,a8,a9,a10⟩:=asm_eq hpS v2 hp hz w
  obtain ⟨n2',w2',n1',w1',g1',g0',hpt,q2,q1,q0,f1,f0'⟩:=path_f0 hpS hp hz
  obtain rfl:n1'=n1:=by
   rw [hpt] at a1
   simp only [List.cons.injEq,Prod.mk.injEq] at a1
   exact a1.2.1.1
  have hfF:(f:Int)=F:=by rw [← a3];exact d3
  obtain ⟨b1,b2,b3,b4,b5,b6⟩:=wlk_at hv.vm hp hw
  obtain ⟨ws,c1,c2,_⟩:=hv.vm.nd _ _ b2 f0 b3
  have b3':frP WA (Mof ns) r 1 (g*8/64)=some f0:=by
   rw [show g*8/8^(1+1)=g*8/64 by simp] at b3;exact b3
  have hf0F:f0≠(F:Int):=fun e=>by
   rw [e,(Mof_none hv.num.asc).2 h3] at c1;cases c1
  have hrF:r≠(F:Int):=by
   obtain ⟨n,hn,e⟩:=hv.num.root
   exact fun k=>h3 n hn (by rw [e];exact k)
  have hrf:r≠f0:=fun e=>by
   have:=(hv.vm.inj 0 0 1 (g*8/64) Pos0 (Pos1 (by omega)) r rfl (by rw [b3',e])).1
   omega
  have hgf:g1'=f0:=by
   rw [frP1 hp] at f1 b3'
   rw [h9,wM_updM1,if_neg hrF,wM_updW c1 (by have:=dgt_lt (g*8) 1;omega),if_neg (fun k=>hrf k.1)] at f1
   rw [f1] at b3'
   exact Option.some.inj b3'
  rw [hgf] at q1
  rw [a10,hfF]
  have hsa:=setN_asc hpS.asc (i:=dgt (g*8) 1) (w:=w) a2
  refine ext_asc (delK_asc hsa) hv.num.asc fun x=>?_
  rw [Mof_del hsa,show Mof (setN S n1' (dgt (g*8) 1) w)=updW (Mof S) f0 (dgt (g*8) 1) w from Mof_ext (Mof_set h5.asc q1)]
  unfold updM1
  by_cases hx:x=(F:Int)
  ·rw [if_pos hx,hx,(Mof_none hv.num.asc).2 h3]
  ·rw [if_neg hx,h9]
   unfold updW updM1
   by_cases h0:x=f0
   ·simp only
    rw [if_pos h0,if_neg hf0F,h0,c1]
    simp only [if_true,Option.map_some,Option.some.injEq]
    refine set_same (by have:=dgt_lt (g*8) 1;omega) ?_ _
    rw [b4]
    unfold wM
    rw [c1]
   ·simp only
    rw [if_neg h0,if_neg hx,if_neg h0]
 unfold asmP
 rw [if_neg (by rw [hck];simp),Int.toNat_natCast,if_neg (by rw [hz];simp)]
 simp only
 rw [hws,join_parts s0 hh,if_neg (by simp),d3,Int.toNat_natCast,hi,ha]
theorem walkT_w {t:Tb} (ht:tbOK t) (hv:Vt t) {p:Nat} (hp:p<512):walkT t p=((wlk (Mof t.2.1) t.1 p).2.2,(wlk (Mof t.2.1) t.1 p).2.1,0):=by
 rw [walkT_z (ckd_z ((chk_iff ht).2 hv) (by omega) (by omega)),Int.toNat_natCast,(hv.pv.walk hp).2.2]
theorem splits_plain {t:Tb} (ht:tbOK t) (hl9:t.2.1.length≤999000) {g:Nat} (hg:g<64) (h:hugeT t g=true) :
  ∃ (w:Nat) (S:Tb),walkT t ((g*8:Nat):Int)=(w,1,0)∧splP t g=(S,0)∧Vt t∧Vt S∧tbOK S∧S.2.1.length=t.2.1.length+1∧asmP S g=(t,0)∧hugeT S g=false ∧
   (∀ i,i<8→walkT S ((g*8+i:Nat):Int)=(spW w i,0,0)∧partR w i=(((spW w i:Nat):Int),0)∧spW w i<2^64) ∧
   ∀ p:Nat,p<512→(walkT t p).2.2=0∧(walkT S p).2.2=0∧(p/8≠g→(walkT t p).1=(walkT S p).1):=by
 obtain ⟨r,ns,ds⟩:=t
 have hz:ckd (r,ns,ds) g 64=0:=by
  unfold hugeT at h
  split at h
  ·assumption
  ·cases h
 have hv:Vt (r,ns,ds):=ckd_vt ht (by rw [hz];simp)
 have hp:g*8<512:=by omega
 obtain ⟨f0,l,w,hw⟩:∃ f l w,wlk (Mof ns) r (g*8)=(f,l,w):=⟨_,_,_,rfl⟩
 have hls:=(hv.pv.walk hp).2.2
 simp only at hls
 rw [hw] at hls
 unfold hugeT at h
 rw [if_pos hz,Int.toNat_natCast,hls] at h
 simp only at h
 obtain rfl:l=1:=(hug_lev hv.vm hp hw h).1
 obtain ⟨v1,v2,v3,v4⟩:=spl_vt hv ht hl9 hg hw h
 obtain ⟨F,h1,h2,h3,h4,h5,h6,h7,h8,h9,h10⟩:=spl_map hv ht hl9 hg rfl hw h
 obtain ⟨s0,_⟩:=split_steps hv ht hl9 hg rfl hw h
 have hsp:splP (r,ns,ds) g=(splN (r,ns,ds) g w,0):=by
  unfold splP
  rw [if_neg (by rw [hz];simp),Int.toNat_natCast,hls,if_pos ⟨rfl,h⟩]
 have hnS:(splN (r,ns,ds) g w).2.1=spN r ds (g*8) w (spB (r,ns,ds) (g*8) (gp ds (lowD ds g)).2) 8:=rfl
 have hrS:(splN (r,ns,ds) g w).1=r:=rfl
 refine ⟨w,splN (r,ns,ds) g w,?_,hsp,hv,v1,v2,h7,spl_asm hv ht hl9 hg hw h,?_,fun i hi=>?_,fun p hp'=>?_⟩
 ·have:=walkT_w ht hv hp
  simp only at this
  rw [this,hw]
 ·have h80:=h8 0 (by omega)
  rw [Nat.add_zero] at h80
  have hls2:=(v1.pv.walk hp).2.2
  rw [hnS,hrS,h80] at hls2
  unfold hugeT
  split
  ·rw [Int.toNat_natCast,hls2]
   simp only
   obtain ⟨n,q1,q2,q3⟩:=part_ok s0 h (i:=0) (by omega)
   have:spW w 0=n:=by unfold spW;rw [q1];simp
   rw [this,q3]
  ·rfl
 ·have e:=walkT_w v2 v1 (p:=g*8+i) (by omega)
  rw [hnS,hrS,h8 i hi] at e
  obtain ⟨q1,q2,_⟩:=spW_ok s0 h hi
  exact ⟨e,q1,q2⟩
 ·have e1:=walkT_w ht hv hp'
  have e2:=walkT_w v2 v1 hp'
  refine ⟨by rw [e1],by rw [e2],fun hne=>?_⟩
  rw [e1,e2,hnS,hrS,h10 p hp' hne]
end Go.AM
namespace Go.AM
open Go Go.Proofs
structure LawQ (X:AX):Prop extends LawP X where
 wa:∀ (t:Tb) (x:Int),tbOK t→∀ M n,X.call 35 [TbV t,I x] M n=some (.tup [U (walkT t x).1,I (walkT t x).2.1,I (walkT t x).2.2],[])
 hu:∀ (t:Tb) (x:Int),tbOK t→∀ M n,X.call 41 [TbV t,I x] M n=some (B (hugeT t x),[])
 pr:∀ (w:Nat) (i:Int),w<2^64→∀ M n,X.call 68 [U w,I i] M n=some (.tup [U (partR w i).1,I (partR w i).2],[])
 sp:∀ (t:Tb) (g:Int),tbOK t→t.2.1.length≤999000→∀ M n,X.call 64 [TbV t,I g] M n=some (.tup [TbC (splP t g).1 n,I (splP t g).2],outT (splP t g).1 n)
 waO:∀ (t:Tb) (x:Int),tbOK t→∀ (a va b vb:Nat) (fa fb:Bool) M n,M a=.vec va 9 fa (nrows t.2.1)→M b=.vec vb 2 fb (prows t.2.2)→X.call 35 [TbS t a va b vb,I x] M n=some (.tup [U (walkT t x).1,I (walkT t x).2.1,I (walkT t x).2.2],[])
 huO:∀ (t:Tb) (x:Int),tbOK t→∀ (a va b vb:Nat) (fa fb:Bool) M n,M a=.vec va 9 fa (nrows t.2.1)→M b=.vec vb 2 fb (prows t.2.2)→X.call 41 [TbS t a va b vb,I x] M n=some (B (hugeT t x),[])
 asO:∀ (t:Tb) (x:Int),tbOK t→t.2.1.length≤999000→∀ (a va b vb:Nat) (fa fb:Bool) M n,M a=.vec va 9 fa (nrows t.2.1)→M b=.vec vb 2 fb (prows t.2.2)→X.call 66 [TbS t a va b vb,I x] M n=some (.tup [TbC (asmP t x).1 n,I (asmP t x).2],outT (asmP t x).1 n)
 saM:∀ t:Tb,tbOK t→∀ (a va b vb:Nat) (fa fb:Bool) M n,M a=.vec va 9 fa (nrows t.2.1)→M b=.vec vb 2 fb (prows t.2.2)→X.call 31 [TbS t a va b vb,TbV t] M n=some (B true,[])
theorem tabM {a b:Tb} {M:Nat→AO} {p vp q vq:Nat} (h:OwT M a p vp q vq):(peekVals M [TbS a p vp q vq,TbV b]).map (List.map (nilV 2))=some [TbV a,TbV b]:=by
 rw [peek_tab h (rs:=[TbV b]) (by simp [TbV])]
 simp [TbV,nilV,nilA]
theorem lawQ:LawQ TeCp:=⟨lawP2p,fun t x h M n=>cWa t x h M n,fun t x h M n=>cHu t x h M n,fun w i h M n=>cPr w i h M n,fun t g h1 h2 M n=>cSp t g h1 h2 M n,
 fun t x h a va b vb fa fb M n h1 h2=>oT2 (D:=fun t _=>tbOK t) (R:=fun t x=>retOf [U (walkT t x).1,I (walkT t x).2.1,I (walkT t x).2.2]) h ⟨⟨fa,h1⟩,fb,h2⟩ n rfl (by simp [retOf,openRet,openVals,openVal,openLeaves,openLeaf,U]),
 fun t x h a va b vb fa fb M n h1 h2=>oT2 (D:=fun t _=>tbOK t) (R:=fun t x=>retOf [B (hugeT t x)]) h ⟨⟨fa,h1⟩,fb,h2⟩ n rfl (by simp [retOf,openRet,openVals,openVal,openLeaves,openLeaf,U]),
 fun t x h hl a va b vb fa fb M n h1 h2=>oT2 (D:=fun t _=>tbOK t∧t.2.1.length≤999000) (R:=fun t x=>retOf [TbO (asmP t x).1,I (asmP t x).2]) ⟨h,hl⟩ ⟨⟨fa,h1⟩,fb,h2⟩ n open_tab (by omega),
 fun t h a va b vb fa fb M n h1 h2=>by
  have k:=oSa h h (M:=M) (tabM ⟨⟨fa,h1⟩,fb,h2⟩) n
  rw [decide_eq_true rfl] at k
  exact k⟩
set_option maxHeartbeats 16000000 in
theorem s13 (X:AX) (L:LawQ X):PSound Tryz.prog 13 (specF (ι:={x:Tb×Int // tbF x.1}) (fun x=>[TbV x.1.1,I x.1.2]) fun _=>retOf [B true]):=by
 have hX:=L.ok
 have hw:=L.w
 refine psound_spec hX mixed Tryz.func13 rfl fun ⟨⟨⟨r,ns,ds⟩,gI⟩,htf⟩ w0 G=>⟨by show 2≤159;decide,rfl,?_⟩
 show AW ⟨Tryz.prog,X,159,w0,.pure G⟩ _ _ _
 have hc:Cx.OK ⟨Tryz.prog,X,159,w0,.pure G⟩:=⟨hX,mixed⟩
 have few:=L.few (r,ns,ds)
 have aw:=L.aw
 simp only at few htf ⊢
 rcases Decidable.em (ns.length≤80∧ds.length≤70) with hf|hf
 ·rw [decide_eq_true hf] at few
  have ht:=tbF_ok htf hf
  have hu:=L.hu _ gI ht
  cases hb:hugeT (r,ns,ds) gI with
  | false =>
   rw [hb] at hu
   simp only [TbV] at few hu ⊢
   have zS:=jj few<|jj aw<|hu
   refine dF64 ?_
   repeat (intro K hK)
   clear zS
   all_goals refine ⟨by simp,?_⟩
   all_goals simp [leaves_iff,Tryz.f13]
   all_goals try exact dt
  | true =>
   rw [hb] at hu
   have hz:ckd (r,ns,ds) gI 64=0:=by
    unfold hugeT at hb
    split at hb
    ·assumption
    ·cases hb
   obtain ⟨_,hg0,hg1⟩:=ckd_pt ht (by rw [hz];simp:¬ ckd (r,ns,ds) gI 64≠0)
   obtain ⟨g,rfl⟩:=Int.eq_ofNat_of_zero_le hg0
   have hg:g<64:=by omega
   obtain ⟨w,⟨rS,nS,dS⟩,e1,e2,e3,e4,e5,e6,e7,e8,e9,e10⟩:=splits_plain ht (by show ns.length≤_;omega) hg hb
   have hl9:(rS,nS,dS).2.1.length≤999000:=by rw [e6];show ns.length+1≤_;omega
   obtain ⟨p,hpg⟩:∃ p,p=g*8:=⟨_,rfl⟩
   rw [← hpg] at e1 e9
   have hgm:(g:Int)*8=(p:Int):=by omega
   have hg0':¬ (g:Int)<0:=by omega
   have hg1':¬ (64:Int)≤(g:Int):=by omega
   have hg2':(g:Int)<64:=by omega
   have hw64:w<2^64:=by
    have h1:=lsT_u64 ht e3.pv (p:=p) (by omega)
    rw [walkT_z (ckd_z ((chk_iff ht).2 e3) (by omega) (by omega)),Int.toNat_natCast] at e1
    simp only [Prod.mk.injEq] at e1
    rw [← e1.1];exact h1
   have wa:=L.wa _ (p:Int) ht
   rw [e1] at wa
   have sp:=L.sp _ (g:Int) ht (by show ns.length≤_;omega)
   rw [e2] at sp
   have asq:=L.asO _ (g:Int) e5 hl9
   rw [e7] at asq
   have sam:=L.saM _ ht
   have huS:=L.huO _ (g:Int) e5
   rw [e8] at huS
   have wab:=L.wa (r,ns,ds)
   have waS:=L.waO (rS,nS,dS)
   have pr:=L.pr w
   simp only [TbV,TbS,TbC,outT,U] at few hu wa sp asq sam huS wab waS pr ⊢
   have zS:=jj few<|jj aw<|jj hu<|jj hgm<|jj hg0'<|jj hg1'<|jj hg2'<|jj wa<|jj sp<|jj asq<|jj sam<|huS
   repeat' (first|(apply aw_seq_k;intro K hK)|(refine eF64 ?_)|(refine aw_cond (b:=_) (by exact rfl) (fun h=>?_) (fun h=>?_)<;>(try simp at h))|(refine eB ?_)|(refine hK _ ?_;clear hK)|(clear hK;refine hK _ ?_;clear hK)|(clear hK;clear hK;refine hK _ ?_;clear hK)|(clear hK;clear hK;clear hK;refine hK _ ?_;clear hK))
   all_goals clear zS
   refine aw_loopK (s0:=?lps1) (m0:=?lpm1) (ι:={i:Nat // i≤8}) [1,2,5,8] (fun i=>[(88,I i.1)]) (fun _=>[]) (fun i=>8 - i.1) ⟨0,by omega⟩ ?lhs1 ?lhm1 ?_ ?_
   case lhs1=>first|(simp [keepS];done)|(simp [keepS];rfl)
   case lhm1=>first|rfl|(simp;done)|(simp;rfl)
   ·exact dle
   ·rintro ⟨i,hi⟩
    simp only
    rcases Decidable.em (i<8) with hil|hil
    ·have hiI:(i:Int)<8:=by omega
     obtain ⟨q1,q2,q3⟩:=e9 i hil
     have wa1:=waS ((p+i:Nat):Int) e5
     rw [q1,show ((p+i:Nat):Int)=(p:Int)+(i:Int) by omega] at wa1
     have pr1:=pr (i:Int) hw64
     rw [q2] at pr1
     simp only at wa1 pr1
     have hpi:(p:Int)+(i:Int)<512:=by omega
     have zS:=jj hil<|jj hiI<|jj hgm<|jj wa1<|pr1
     repeat' (first|(apply aw_seq_k;intro K hK)|(refine eF64 ?_)|(refine aw_cond (b:=_) (by exact rfl) (fun h=>?_) (fun h=>?_)<;>(try simp at h))|(refine eB ?_)|(refine hK _ ?_;clear hK)|(clear hK;refine hK _ ?_;clear hK)|(clear hK;clear hK;refine hK _ ?_;clear hK)|(clear hK;clear hK;clear hK;refine hK _ ?_;clear hK))
     all_goals clear zS
     first|refine ⟨i+1,?_,by omega,by omega⟩|refine ⟨i+1,⟨by omega,?_⟩,by omega⟩
     exact dle
    ·obtain rfl:i=8:=by omega
     repeat' (first|(apply aw_seq_k;intro K hK)|(refine eF64o ?_)|(refine aw_cond (b:=_) (by exact rfl) (fun h=>?_) (fun h=>?_)<;>(try simp at h))|(refine eB ?_)|(refine hK _ ?_;clear hK)|(clear hK;refine hK _ ?_;clear hK)|(clear hK;clear hK;refine hK _ ?_;clear hK)|(clear hK;clear hK;clear hK;refine hK _ ?_;clear hK))
     refine aw_loopK (s0:=?lps2) (m0:=?lpm2) (ι:={i:Nat // i≤512}) [1,2,8] (fun i=>[(123,I i.1)]) (fun _=>[]) (fun i=>512 - i.1) ⟨0,by omega⟩ ?lhs2 ?lhm2 ?_ ?_
     case lhs2=>first|(simp [keepS];done)|(simp [keepS];rfl)
     case lhm2=>first|rfl|(simp;done)|(simp;rfl)
     ·exact dle
     ·rintro ⟨q,hq⟩
      simp only
      rcases Decidable.em (q<512) with hql|hql
      ·have hqlI:(q:Int)<512:=by omega
       obtain ⟨z1,z2,z3⟩:=e10 q hql
       have wb:=wab (q:Int) ht
       have wc:=waS (q:Int) e5
       obtain ⟨⟨x1,l1,y1⟩,hX1⟩:∃ v,v=walkT (r,ns,ds) (q:Int):=⟨_,rfl⟩
       obtain ⟨⟨x2,l2,y2⟩,hX2⟩:∃ v,v=walkT (rS,nS,dS) (q:Int):=⟨_,rfl⟩
       rw [← hX1] at z1 z3 wb
       rw [← hX2] at z2 z3 wc
       simp only at z1 z2 z3 wb wc
       subst z1 z2
       have hqt:(q:Int).tdiv 8=((q/8:Nat):Int):=by rw [Int.tdiv_eq_ediv_of_nonneg (by omega)];omega
       rcases Decidable.em (q/8=g) with hqg|hqg
       ·rw [hqg] at hqt
        have zS:=jj hql<|jj hqlI<|jj wb<|jj wc<|hqt
        repeat' (first|(apply aw_seq_k;intro K hK)|(refine eF64 ?_)|(refine aw_cond (b:=_) (by exact rfl) (fun h=>?_) (fun h=>?_)<;>(try simp at h))|(refine eB ?_)|(refine hK _ ?_;clear hK)|(clear hK;refine hK _ ?_;clear hK)|(clear hK;clear hK;refine hK _ ?_;clear hK)|(clear hK;clear hK;clear hK;refine hK _ ?_;clear hK))
        all_goals clear zS
        first|refine ⟨q+1,?_,by omega,by omega⟩|refine ⟨q+1,⟨by omega,?_⟩,by omega⟩
        exact dle
       ·obtain rfl:=z3 hqg
        have hne:¬ ((q/8:Nat):Int)=(g:Int):=by omega
        obtain ⟨k,hk⟩:∃ k,k=q/8:=⟨_,rfl⟩
        rw [← hk] at hqt hne
        have zS:=jj hql<|jj hqlI<|jj wb<|jj wc<|jj hqt<|hne
        repeat' (first|(apply aw_seq_k;intro K hK)|(refine eF64 ?_)|(refine aw_cond (b:=_) (by exact rfl) (fun h=>?_) (fun h=>?_)<;>(try simp at h))|(refine eB ?_)|(refine hK _ ?_;clear hK)|(clear hK;refine hK _ ?_;clear hK)|(clear hK;clear hK;refine hK _ ?_;clear hK)|(clear hK;clear hK;clear hK;refine hK _ ?_;clear hK))
        all_goals clear zS
        first|refine ⟨q+1,?_,by omega,by omega⟩|refine ⟨q+1,⟨by omega,?_⟩,by omega⟩
        exact dle
      ·obtain rfl:q=512:=by omega
       have zS:=aw
       repeat' (first|(apply aw_seq_k;intro K hK)|(refine eF64 ?_)|(refine aw_cond (b:=_) (by exact rfl) (fun h=>?_) (fun h=>?_)<;>(try simp at h))|(refine eB ?_)|(refine hK _ ?_;clear hK)|(clear hK;refine hK _ ?_;clear hK)|(clear hK;clear hK;refine hK _ ?_;clear hK)|(clear hK;clear hK;clear hK;refine hK _ ?_;clear hK))
       all_goals clear zS
       all_goals refine ⟨by simp,?_⟩
       all_goals simp [leaves_iff,Tryz.f13]
       all_goals try exact dt
 ·rw [decide_eq_false hf] at few
  simp only [TbV] at few ⊢
  have zS:=jj few<|aw
  refine dF64 ?_
  repeat (intro K hK)
  clear zS
  all_goals refine ⟨by simp,?_⟩
  all_goals simp [leaves_iff,Tryz.f13]
  all_goals try exact dt
theorem splits':PSound Tryz.prog 13 (specF (ι:={x:Tb×Int // tbF x.1}) (fun x=>[TbV x.1.1,I x.1.2]) fun _=>retOf [B true]):=s13 TeCp lawQ
end Go.AM
