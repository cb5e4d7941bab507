/- A part of the proof: what functions of the program compute, by abstract execution of their code. Its theorems hold without further condition. -/
import Derived.Test.YtcfhmdljeeppfaaGreatAMb0
import Derived.Test.YtcfhmdljeeppfaaGreatAMm4
import Derived.Test.YtcfhmdljeeppfaaGreatAAmW
import Derived.Test.YtcfhmdljeeppfaaGreatAAmQ
set_option linter.all false
namespace Go.AM
open Go Go.Proofs
theorem tabW_inv {x:Nat} {g:Int} (h:tabW x=some g):0≤g∧g≤4294967295∧x=g.toNat*256+4:=by
 have hr:=decR_rng x
 unfold tabW at h
 split at h
 case isFalse=>simp at h
 rename_i hk
 simp only [Option.some.injEq] at h
 rw [h] at hr
 refine ⟨hr.1,hr.2,?_⟩
 by_cases he:encR (prs x)=((x:Int),0)
 ·rw [decR_z he] at hk h
  simp only at hk h
  have hb:¬ badF (prs x):=fun hb=>by rw [encR_f (by rw [hk];decide) hb] at he;simp at he
  cases hf:frmE (prs x) with
  | false=>rw [encR_m (by rw [hk];decide) hb hf] at he;simp at he
  | true =>
   rw [encR_z (by rw [hk];decide) hb hf] at he
   simp only [Prod.mk.injEq,and_true] at he
   unfold frmE noFl at hf
   rw [if_neg (by rw [hk];decide),if_neg (by rw [hk];decide),if_neg (by rw [hk];decide),if_pos (.inr hk)] at hf
   simp only [Bool.and_eq_true,Bool.not_eq_true'] at hf
   unfold encW fb at he
   rw [hk,h,hf.1,hf.2.1,hf.2.2.1,hf.2.2.2] at he
   simp at he
   omega
 ·rw [decR_n he] at hk
  exact absurd hk (by decide)
def unlW (w:Nat) (ws:List Nat):List Nat:=ws.map fun x=>if x=w then 0 else x
def unl (w:Nat) (ns:NdL):NdL:=ns.map fun n=>(n.1,unlW w n.2)
@[simp] theorem unl_len {w:Nat} {ns:NdL}:(unl w ns).length=ns.length:=by simp [unl]
@[simp] theorem unlW_len {w:Nat} {ws:List Nat}:(unlW w ws).length=ws.length:=by simp [unlW]
theorem fnd_unl {w:Nat} {ns:NdL} {f:Int}:fnd (unl w ns) f=fnd ns f:=by
 unfold fnd unl
 rw [List.findIdx_map,List.length_map]
 rfl
theorem Mof_unl {w:Nat} {ns:NdL} {f:Int}:Mof (unl w ns) f=(Mof ns f).map (unlW w):=by
 unfold Mof
 rw [fnd_unl]
 cases fnd ns f with
 | none=>rfl
 | some i =>
  simp only [Option.map_some,unl,List.getD_eq_getElem?_getD,List.getElem?_map]
  cases ns[i]?<;>rfl
theorem unl_asc {w:Nat} {ns:NdL} (h:ascN ns):ascN (unl w ns):=by
 unfold ascN unl
 rw [List.pairwise_map]
 exact h
theorem unl_ok {w:Nat} {ns:NdL} (h:∀ x∈ns,ndOK x):∀ x∈unl w ns,ndOK x:=fun x hx=>by
 obtain ⟨y,hy,rfl⟩:=List.mem_map.1 hx
 refine ⟨by simp [(h y hy).1],fun z hz=>?_⟩
 obtain ⟨u,hu,rfl⟩:=List.mem_map.1 hz
 have:=(h y hy).2 u hu
 split
 ·decide
 ·exact this
theorem delK_ok {ns:NdL} {g:Int} (h:∀ x∈ns,ndOK x):∀ x∈delK ns g,ndOK x:=fun x hx=>h x (mem_delK.1 hx).1
theorem unl_one {M:Mm} {root:Int} (hV:VM WA M root) {d q:Nat} (hx:(d,q)∈Pos) (hd:d<2) {f:Int} (hf:frP WA M root d q=some f) {i:Nat} (hi:i<8) {g:Int} (h0:tabW (wM M f i)=some g) {h:Int} {us:List Nat} (hm:M h=some us) :
  unlW (g.toNat*256+4) us=if h=f then us.set i 0 else us:=by
 obtain ⟨g0,g1,gw⟩:=tabW_inv h0
 obtain ⟨d',q',hx',hf'⟩:=hV.all h us hm
 obtain ⟨us',hm',h8,hok⟩:=hV.nd d' q' hx' h hf'
 rw [hm] at hm'
 simp only [Option.some.injEq] at hm'
 subst hm'
 have hgP:frP WA M root (d+1) (q*8+i)=some g:=by
  simp only [frP]
  rw [show (q*8+i)/8=q by omega,show (q*8+i)%8=i by omega,hf]
  exact h0
 have key:∀ j,j<8→us.getD j 0=g.toNat*256+4→h=f∧j=i:=fun j hj e=>by
  have hj':=hok j hj
  have htw:tabW (us.getD j 0)=some g:=by
   rw [e,tabW_tw (g:=g.toNat) (by omega),Int.toNat_of_nonneg g0]
  have hd':d'≤2:=by have:=mem_Pos.1 hx';simp only at this;omega
  by_cases e2:d'=2
  ·subst e2
   have:=(WD_ok fun _=>true).flat _ hj'
   rw [show (WD fun _=>true).tab=tabW from rfl,htw] at this
   simp at this
  ·have hgP':frP WA M root (d'+1) (q'*8+j)=some g:=by
    simp only [frP]
    rw [show (q'*8+j)/8=q' by omega,show (q'*8+j)%8=j by omega,hf']
    show tabW (wM M h j)=some g
    unfold wM
    rw [hm];exact htw
   have hin:=hV.inj _ _ _ _ (Pos_dn hx' (by omega) hj) (Pos_dn hx hd hi) g hgP' hgP
   have e3:d'=d:=by omega
   have e4:q'=q:=by omega
   subst e3 e4
   rw [hf] at hf'
   simp only [Option.some.injEq] at hf'
   exact ⟨hf'.symm,by omega⟩
 refine List.ext_getElem (by split<;>simp) fun j h1 h2=>?_
 have hj:j<8:=by simp at h1;omega
 have hg:us.getD j 0=us[j]'(by simpa using h1):=by rw [List.getD_eq_getElem?_getD,List.getElem?_eq_getElem (by simpa using h1)];rfl
 have k:=key j hj
 rw [hg] at k
 simp only [unlW,List.getElem_map]
 by_cases e:us[j]'(by simpa using h1)=g.toNat*256+4
 ·obtain ⟨rfl,rfl⟩:=k e
  rw [if_pos e]
  simp
 ·rw [if_neg e]
  by_cases e2:h=f
  ·subst e2
   simp only [if_true]
   rw [List.getElem_set]
   split
   ·rename_i e3
    subst e3
    exfalso
    apply e
    unfold wM at gw
    rw [hm] at gw
    simp only at gw
    rw [← hg]
    exact gw
   ·rfl
  ·simp only [if_neg e2]
theorem Mof_kp {ns:NdL} (ha:ascN ns) {fr:List Int} (x:Int):Mof (kpF fr ns) x=if x∈fr then none else Mof ns x:=by
 have hk:ascN (kpF fr ns):=List.Pairwise.filter _ ha
 split
 ·rename_i h
  refine (Mof_none hk).2 fun n hn e=>?_
  have:=(List.mem_filter.1 hn).2
  unfold inF at this
  rw [e] at this
  simp [h] at this
 ·rename_i h
  cases hm:Mof ns x with
  | none=>exact (Mof_none hk).2 fun n hn=>(Mof_none ha).1 hm n (List.mem_filter.1 hn).1
  | some us =>
   refine (mem_Mof hk).1 (List.mem_filter.2 ⟨(mem_Mof ha).2 hm,?_⟩)
   unfold inF
   simp [h]
theorem kpF_asc {ns:NdL} (ha:ascN ns) {fr:List Int}:ascN (kpF fr ns):=List.Pairwise.filter _ ha
theorem round {r:Int} {ns:NdL} {ds:List Dp} (h:Pv (r,ns,ds)) (ht:tbOK (r,ns,ds)) {p:Nat} (hp:p<512) {g:Int} {l w:Nat} (hw:wlk (Mof ns) r p=(g,l,w)) (hl:l<2) (hlf:∀ j,j<8→tabW (wM (Mof ns) g j)=none) :
  ∃ f k,frP WA (Mof ns) r (1 - l) (p/8^(l+2))=some f∧tabW (wM (Mof ns) f (dgt p (l+1)))=some g∧fnd ns f=some k∧f≠g∧0≤g∧g≤4294967295 ∧
   Mof (unl (g.toNat*256+4) (delK ns g))=updM1 (updW (Mof ns) f (dgt p (l+1)) 0) g none∧Pv (r,unl (g.toNat*256+4) (delK ns g),ds)∧tbOK (r,unl (g.toNat*256+4) (delK ns g),ds) ∧
   wlk (Mof (unl (g.toNat*256+4) (delK ns g))) r p=(f,l+1,0)∧unl (g.toNat*256+4) (delK ns g)=kpF [g] (setN ns k (dgt p (l+1)) 0):=by
 obtain ⟨a1,a2,a3,a4,a5,a6⟩:=wlk_at h.vm hp hw
 simp only at a3
 have hq:p/8^(l+1)=p/8^(l+2)*8+dgt p (l+1):=by
  unfold dgt
  rw [Nat.pow_succ 8 (l+1),← Nat.div_div_eq_div_mul]
  omega
 have hd8:=dgt_lt p (l+1)
 obtain ⟨f,hf,htb⟩:∃ f,frP WA (Mof ns) r (1 - l) (p/8^(l+2))=some f∧tabW (wM (Mof ns) f (dgt p (l+1)))=some g:=by
  rw [show 2 - l=(1 - l)+1 by omega,hq] at a3
  simp only [frP] at a3
  rw [show (p/8^(l+2)*8+dgt p (l+1))/8=p/8^(l+2) by omega,show (p/8^(l+2)*8+dgt p (l+1))%8=dgt p (l+1) by omega] at a3
  cases hc:frP WA (Mof ns) r (1 - l) (p/8^(l+2)) with
  | none=>rw [hc] at a3;simp at a3
  | some f=>rw [hc] at a3;exact ⟨f,rfl,a3⟩
 have hx:(1 - l,p/8^(l+2))∈Pos:=by
  have:=Pos_up (d:=1 - l) (q:=p/8^(l+1)) (by rw [show 1 - l+1=2 - l by omega];exact a2)
  rwa [hq,show (p/8^(l+2)*8+dgt p (l+1))/8=p/8^(l+2) by omega] at this
 obtain ⟨g0,g1,gw⟩:=tabW_inv htb
 have hpr:=h.vm.prune hx (by omega) hf hd8 (w:=0) htb hlf tab0 (ok0 (2 - (1 - l)))
 obtain ⟨us,hus,hu8,_⟩:=h.vm.nd _ _ hx f hf
 obtain ⟨k,hk,_⟩:=Mof_some.1 hus
 have hfg:f≠g:=fun e=>by
  have:=h.vm.inj _ _ _ _ hx a2 f hf (by rw [e];exact a3)
  omega
 have hM:Mof (unl (g.toNat*256+4) (delK ns g))=updM1 (updW (Mof ns) f (dgt p (l+1)) 0) g none:=by
  refine Mof_ext fun x=>?_
  rw [Mof_unl,Mof_del h.asc]
  unfold updM1 updW
  by_cases e:x=g
  ·simp [e]
  ·simp only [if_neg e]
   cases hm:Mof ns x with
   | none =>
    split
    ·rename_i e2;rw [e2,hus] at hm;simp at hm
    ·rfl
   | some vs =>
    simp only [Option.map_some]
    rw [unl_one h.vm hx (by omega) hf hd8 htb hm]
    by_cases e2:x=f
    ·subst e2;rw [hm];simp
    ·simp [e2]
 have hasc:ascN (unl (g.toNat*256+4) (delK ns g)):=unl_asc (delK_asc h.asc)
 have hsa:=setN_asc h.asc (i:=dgt p (l+1)) (w:=0) (fnd_lt hk)
 refine ⟨f,k,hf,htb,hk,hfg,g0,g1,hM,⟨hasc,?_⟩,⟨unl_ok (delK_ok ht.1),?_,ht.2.2⟩,?_,?_⟩
 ·show VM WA (Mof (unl _ _)) r
  rw [hM];exact hpr.1
 ·have h1:(delK ns g).length≤ns.length:=List.length_filter_le _ _
  have h2:=ht.2.1
  show (unl _ _).length≤_
  simp only [unl_len]
  simp only at h2
  omega
 ·have hfr:frP WA (Mof (unl (g.toNat*256+4) (delK ns g))) r (2 - (l+1)) (p/8^(l+1+1))=some f:=by
   rw [hM,show 2 - (l+1)=1 - l by omega,hpr.2 _ _ hx,if_neg (by omega)]
   exact hf
  have hwf:wM (Mof (unl (g.toNat*256+4) (delK ns g))) f (dgt p (l+1))=0:=by
   rw [hM,wM_updM1,if_neg hfg,wM_updW hus (by omega),if_pos ⟨rfl,rfl⟩]
  rw [wlk_of hp (by omega) hfr (.inl (by rw [hwf];exact tab0)),hwf]
 ·refine ext_asc hasc (kpF_asc hsa) fun x=>?_
  rw [hM,Mof_kp hsa,Mof_set h.asc hk]
  unfold updM1
  simp
end Go.AM
namespace Go.AM
open Go Go.Proofs
set_option maxHeartbeats 8000000 in
theorem s62 (X:AX) (hX:XOK Tryz.prog X) (hw:X.W wT)
  (hwa:∀ (t:Tb) (x:Int),tbOK t→∀ M n,X.call 36 [TbV t,I x] M n=some (.tup [U (walkT t x).1,I (walkT t x).2.1,I (walkT t x).2.2],[]))
  (hdc:∀ n:Nat,n<2^64→∀ M k,X.call 131 [U n] M k=some (.tup [EnV (decR n).1,I (decR n).2],[]))
  (hsu:∀ (e:En) (l:Nat) M n,X.call 132 [EnV e,I l] M n=some (B (suitB e l),[]))
  (hcl:∀ t:Tb,tbOK t→∀ M n,X.call 104 [TbV t] M n=some (TbC t n,[(n,.vec 1 9 false (nrows t.2.1)),(n+1,.vec 1 2 false (prows t.2.2))]))
  (hst:OwnR X 111 (fun t x=>0≤x∧ptO t x.toNat) fun t x=>.tup [I (lsT t x.toNat).1,I (lsT t x.toNat).2.1])
  (hdg:∀ (p l:Nat),p<512→l≤2→∀ M n,X.call 112 [I p,I l] M n=some (I (dig p l),[])) :
  PSound Tryz.prog 62 (specF (ι:={x:Tb×Int×Nat // tbOK x.1∧x.2.2<2^64}) (fun x=>[TbV x.1.1,I x.1.2.1,U x.1.2.2]) fun x=>retOf [TbO (repP x.1.1 x.1.2.1 x.1.2.2).1,U (repP x.1.1 x.1.2.1 x.1.2.2).2.1,I (repP x.1.1 x.1.2.1 x.1.2.2).2.2]):=by
 refine psound_spec hX mixed Tryz.func62 rfl fun ⟨⟨⟨r,ns,ds⟩,pI,w⟩,ht,hw64⟩ w0 G=>⟨by show 3≤73;decide,rfl,?_⟩
 show AW ⟨Tryz.prog,X,73,w0,.pure G⟩ _ _ _
 have hc:Cx.OK ⟨Tryz.prog,X,73,w0,.pure G⟩:=⟨hX,mixed⟩
 simp only at hw64 ht ⊢
 have hwa':=hwa _ pI ht
 have hl1:ns.length≤1000000:=ht.2.1
 have hl2:ds.length≤1000000:=ht.2.2
 rcases Decidable.em (ckd (r,ns,ds) pI 512≠0) with hk|hk
 ·have e:repP (r,ns,ds) pI w=(zT,0,ckd (r,ns,ds) pI 512):=by unfold repP;rw [if_pos hk]
  rw [e]
  rw [walkT_n (by exact hk)] at hwa'
  obtain ⟨c,hc0⟩:∃ c,c=ckd (r,ns,ds) pI 512:=⟨_,rfl⟩
  rw [← hc0] at hwa' hk ⊢
  simp only [TbV,TbO,zT,U] at hwa' ⊢
  have zS:=jj hwa'<|hk
  refine dM64 ?_
  repeat (intro K hK)
  clear zS
  refine ⟨by simp,?_⟩
  simp [leaves_iff,Tryz.f62,nrows,prows]
  try exact dt
 ·obtain ⟨hpv,hp0,hp1⟩:=ckd_pt ht hk
  obtain ⟨p,rfl⟩:=Int.eq_ofNat_of_zero_le hp0
  have hp:p<512:=by omega
  have hz:ckd (r,ns,ds) p 512=0:=by omega
  rw [walkT_z hz,Int.toNat_natCast] at hwa'
  have hdc':=hdc w hw64
  have hlw:=lsT_u64 ht hpv hp
  have hst':=hst r ns ds p ⟨by omega,hpv.pto ht hp⟩
  have hcl':=hcl _ ht
  obtain ⟨hlt1,hlt2⟩:=lsT_lt hpv hp
  have eS:repP (r,ns,ds) p w=if (lsT (r,ns,ds) p).2.2=0 then (zT,0,6)
    else if (decR w).2≠0∨(decR w).1.1=0∨(decR w).1.1=4∨suitB (decR w).1 (lsT (r,ns,ds) p).2.1=false then (zT,0,3)
    else ((r,setN ns (lsT (r,ns,ds) p).1 (dgt p (lsT (r,ns,ds) p).2.1) w,ds),(lsT (r,ns,ds) p).2.2,0):=by
   unfold repP
   rw [if_neg hk,Int.toNat_natCast]
   rfl
  rw [eS]
  have hsu':=hsu (decR w).1 (lsT (r,ns,ds) p).2.1
  simp only [Int.toNat_natCast] at hst'
  obtain ⟨⟨a,b,c⟩,hS⟩:∃ S,S=lsT (r,ns,ds) p:=⟨_,rfl⟩
  rw [← hS] at hwa' hst' hlt1 hlt2 hsu' hlw ⊢
  simp only at hwa' hst' hlt1 hlt2 hsu' hlw ⊢
  obtain ⟨s,hs⟩:∃ s,s=suitB (decR w).1 b:=⟨_,rfl⟩
  rw [← hs] at hsu' ⊢
  obtain ⟨⟨⟨k,f,d,x,y,h⟩,e⟩,hE⟩:∃ r,r=decR w:=⟨_,rfl⟩
  rw [← hE] at hdc' hsu' ⊢
  clear eS hE hwa hdc hsu hs
  simp only [TbV,TbO,TbC,zT,EnV,U] at hwa' hdc' hsu' hcl' ⊢
  rcases Decidable.em (c=0) with hc0|hc0
  ·subst hc0
   have zS:=hwa'
   refine dM64 ?_
   repeat (intro K hK)
   clear zS
   all_goals refine ⟨by simp,?_⟩
   all_goals simp [leaves_iff,Tryz.f62,nrows,prows]
   all_goals try exact dt
  ·rw [if_neg hc0]
   have hc0I:¬ (c:Int)=0:=by omega
   rcases Decidable.em (e≠0∨k=0∨k=4∨s=false) with hb|hb
   ·rw [if_pos hb]
    rcases Decidable.em (e=0) with he|he
    ·rcases Decidable.em (k=0) with hk1|hk1
     ·have zS:=jj hwa'<|jj hdc'<|jj hc0<|jj hc0I<|jj he<|hk1
      refine dM64 ?_
      repeat (intro K hK)
      clear zS
      all_goals refine ⟨by simp,?_⟩
      all_goals simp [leaves_iff,Tryz.f62,nrows,prows]
      all_goals try exact dt
     ·rcases Decidable.em (k=4) with hk4|hk4
      ·have zS:=jj hwa'<|jj hdc'<|jj hc0<|jj hc0I<|jj he<|jj hk1<|hk4
       refine dM64 ?_
       repeat (intro K hK)
       clear zS
       all_goals refine ⟨by simp,?_⟩
       all_goals simp [leaves_iff,Tryz.f62,nrows,prows]
       all_goals try exact dt
      ·obtain rfl:s=false:=by
        rcases hb with hb|hb|hb|hb
        ·exact absurd he hb
        ·exact absurd hb hk1
        ·exact absurd hb hk4
        ·exact hb
       have zS:=jj hwa'<|jj hdc'<|jj hc0<|jj hc0I<|jj he<|jj hk1<|jj hk4<|hsu'
       refine dM64 ?_
       repeat (intro K hK)
       clear zS
       all_goals refine ⟨by simp,?_⟩
       all_goals simp [leaves_iff,Tryz.f62,nrows,prows]
       all_goals try exact dt
    ·have zS:=jj hwa'<|jj hdc'<|jj hc0<|jj hc0I<|he
     refine dM64 ?_
     repeat (intro K hK)
     clear zS
     all_goals refine ⟨by simp,?_⟩
     all_goals simp [leaves_iff,Tryz.f62,nrows,prows]
     all_goals try exact dt
   ·rw [if_neg hb]
    obtain ⟨rfl,hk1,hk4,rfl⟩:e=0∧k≠0∧k≠4∧s=true:=by
     refine ⟨by omega,by omega,by omega,?_⟩
     cases s
     ·exact absurd (Or.inr (Or.inr (Or.inr rfl))) hb
     ·rfl
    have haI:(a:Int)<(ns.length:Int):=by omega
    have hdg':=hdg p b hp hlt2
    rw [dig_dgt hp hlt2] at hdg'
    have hdl:=dgt_lt p b
    have hgn:=nrows_gi hlt1
    have hgnE:=nrows_gE hlt1
    have h8:(gn ns a).2.length=8:=(ht.1 _ (gn_mem hlt1)).1
    have hset:=@nrows_setN ns a (dgt p b) w hlt1
    have hwl:(wcs (gn ns a).2).length=8:=by simp [h8]
    have hsl:(setN ns a (dgt p b) w).length=ns.length:=setN_len
    have tkR:List.take ns.length (nrows (setN ns a (dgt p b) w))=nrows (setN ns a (dgt p b) w):=List.take_of_length_le (by simp)
    have tkd:List.take ds.length (prows ds)=prows ds:=List.take_of_length_le (by simp)
    obtain ⟨R,hR⟩:∃ R,R=setN ns a (dgt p b) w:=⟨_,rfl⟩
    rw [← hR] at hset hsl tkR ⊢
    obtain ⟨⟨fr,ws⟩,hm⟩:∃ m,m=gn ns a:=⟨_,rfl⟩
    rw [← hm] at hgn hgnE hwl hset
    simp only at hgn hgnE hwl hset
    obtain ⟨cs,hcs⟩:∃ cs,cs=wcs ws:=⟨_,rfl⟩
    rw [← hcs] at hgn hgnE hwl hset
    obtain ⟨dg,hdg0⟩:∃ dg,dg=dgt p b:=⟨_,rfl⟩
    rw [← hdg0] at hdl hdg' hset
    have hdI:(dg:Int)<8:=by omega
    have hs1:∀ w:Int,(I fr::cs).set (1+dg) (AV.v (.int .u64 w))=I fr::cs.set dg (AV.v (.int .u64 w)):=fun w=>by rw [Nat.add_comm];rfl
    clear hcs hm hR hS h8 hdg0
    simp only [U] at hset
    have zS:=jj hwa'<|jj hdc'<|jj hc0<|jj hc0I<|jj hk1<|jj hk4<|jj hsu'<|jj hcl'<|jj hst'<|jj hdg'<|jj hlt1<|jj haI<|jj hgn<|jj hgnE<|jj hwl<|jj hdl<|jj hdI<|jj hset<|hs1
    refine dF64 ?_
    repeat (intro K hK)
    clear zS
    refine ⟨by simp,?_⟩
    simp [leaves_iff,Tryz.f62,hsl,tkR,tkd]
    try exact dt
end Go.AM
namespace Go.AM
open Go Go.Proofs
set_option maxRecDepth 4000
def nilP:List Nat→List AV→List AV
 | s::ss,a::us=>nilV s a::nilP ss us
 | _,us=>us
theorem nilP_ok {w:World} {G:Nat→Prop}:∀ {ss:List Nat} {us:List AV} {xs:List Value},CRepL w G us xs→CRepL w G (nilP ss us) xs
 | [],us,xs,h=>by cases us<;>exact h
 | s::ss,[],[],h=>h
 | s::ss,a::us,x::xs,h=>by simp only [CRepL,nilP] at h ⊢;exact ⟨nilV_ok h.1,nilP_ok h.2⟩
 | s::ss,[],_::_,h=>by simp [CRepL] at h
 | s::ss,_::_,[],h=>by simp [CRepL] at h
theorem PSound.nilP {P:Program} {f:FuncId} {F:List AV→Option AV} (h:PSound P f F) (ss:List Nat):PSound P f fun avs=>F (nilP ss avs) :=
 fun w G args avs r hr hG ha=>h w G args _ r hr hG (nilP_ok ha)
theorem xok_specp {P : Program} {X : AX} (h : XOK P X) {f : FuncId} {fn : Func} {ι : Type} {A : ι → List AV} {R : ι → AV} (ss : List Nat) (hs : PSound P f (specF A R)) (hfl : ∀ i, (R i).flat) (hf : P.funcs[f]? = some fn) (hn : (fn.body.isSome && !(fn.name == "runtime.NumGoroutine")) = true) :
  XOK P (X.add f (callP fun avs=>specF A R (nilP ss avs))) :=
 xok_add h (.inl ⟨(hs.nilP ss).callP fun _ _ h=>specF_flat hfl h,body_ok fn hf hn⟩) fun _ _ _ _ h=>callP_keys h
theorem trow_pl {l:List Te}:∀ e∈trows l,∀ a∈e,a.plain:=by
 intro e he a ha
 obtain ⟨x,_,rfl⟩:=List.mem_map.1 he
 simp [trow] at ha
 rcases ha with rfl|rfl|rfl<;>trivial
theorem DfT_flat {a0:AV} {avs:List AV} {r o:AV} (h:DfT a0 avs=some (r,o)):r.flat∧o.flatO:=by
 obtain ⟨i,_,_,h3,h4⟩:=specM_some h
 subst h3 h4
 exact ⟨trow_pl,trivial⟩
theorem TlO_fv {b:Tl}:(TlO b).flatV:=by
 intro a ha
 simp at ha
 rcases ha with rfl|rfl
 ·trivial
 ·exact trow_pl
theorem tlO_fl {b:Tl} {n:Int}:(retOf [TlO b,I n]).flat:=by
 intro a ha
 simp at ha
 rcases ha with rfl|rfl
 ·exact TlO_fv
 ·trivial
theorem ac_fl {t:Tb} {b:Tl} {f e:Int}:(retOf [TbO t,TlO b,I f,I e]).flat:=by
 intro a ha
 simp at ha
 rcases ha with rfl|rfl|rfl|rfl
 ·exact TbO_fl
 ·exact TlO_fv
 ·trivial
 ·trivial
theorem ha_fl {t:Tb} {l:List Int} {e:Int}:(retOf [TbO t,.ow 1 (irows l),I e]).flat:=by
 intro a ha
 simp at ha
 rcases ha with rfl|rfl|rfl
 ·exact TbO_fl
 ·exact irow_pl
 ·trivial
theorem fkM {X:AX} (h1:X.call 167=callP CkJ) (h2:X.call 173=callP CkJ) (h3:X.call 171=callP IvF):FkX X :=
 ⟨fun x y hx hy M k=>by rw [h1];exact cCj x y hx hy M k,fun x y hx hy M k=>by rw [h2];exact cCj x y hx hy M k,fun x s p hx M k=>by rw [h3];exact cIj x s p hx M k⟩
theorem tbO_fl1 {t:Tb}:(retOf [TbO t]).flat:=TbO_fl
theorem tlO_fl1 {b:Tl}:(retOf [TlO b]).flat:=TlO_fv
theorem ostM {X:AX} (h:X.call 111=callP StF):OwnR X 111 (fun t x=>0≤x∧ptO t x.toNat) fun t x=>.tup [I (lsT t x.toNat).1,I (lsT t x.toNat).2.1]:=fun r ns ds x hd a va b vb f1 f2 M n h1 h2=>by
 rw [h]
 obtain ⟨k,rfl⟩:∃ k:Nat,x=k:=⟨x.toNat,by omega⟩
 exact oT3 (D:=ptO) (R:=fun t p=>retOf [I (lsT t p).1,I (lsT t p).2.1]) (t:=(r,ns,ds)) hd.2 ⟨⟨f1,h1⟩,f2,h2⟩ n rfl (by simp [retOf,openRet,openVals,openVal,openLeaves,openLeaf,stV,srow,U,TbO])
theorem cLr (b:Tl) (s p:Int) (h:tlOK b) (hp:p<1000000) (M:Nat→AO) (n:Nat):callP LrF [TlV b,I s,I p] M n=some (.tup [U (lkT b s p).1,B (lkT b s p).2],[]):=by
 unfold LrF
 rw [callP_spec (ι:={x:Tl×Int×Int // tlOK x.1∧x.2.2<1000000}) (A:=fun x=>[TlV x.1.1,I x.1.2.1,I x.1.2.2]) (R:=fun x=>retOf [U (lkT x.1.1 x.1.2.1 x.1.2.2).1,B (lkT x.1.1 x.1.2.1 x.1.2.2).2]) ⟨(b,s,p),h,hp⟩ (by simp [TlV]) ?_ (by simp [retOf,openRet,openVals,openVal,openLeaves,openLeaf,U])]
 ·simp [retOf,openRet,openVals,openVal,openLeaves,openLeaf,U]
 ·rintro ⟨⟨b',s',p'⟩,h'⟩ e
  simp only [List.cons.injEq,TlV_inj,Iinj,and_true] at e
  obtain ⟨rfl,rfl,rfl⟩:=e;rfl
theorem cMiss (t:Tb) (b:Tl) (s p e:Int) (h1:tbOK t) (h2:tlOK b) (M:Nat→AO) (n:Nat):callP MiT [TbV t,TlV b,I s,I p,I e] M n=some (.tup [TbC t n,TlC (inT b s p).1 (n+2),I 0,I e],outT t n++[(n+2,AO.vec 1 3 false (trows (inT b s p).1.2))]):=by
 unfold MiT
 rw [callP_spec (ι:={x:Tb×Tl×Int×Int×Int // tbOK x.1∧tlOK x.2.1}) (A:=fun x=>[TbV x.1.1,TlV x.1.2.1,I x.1.2.2.1,I x.1.2.2.2.1,I x.1.2.2.2.2]) (R:=fun x=>retOf [TbO x.1.1,TlO (inT x.1.2.1 x.1.2.2.1 x.1.2.2.2.1).1,I 0,I x.1.2.2.2.2]) ⟨(t,b,s,p,e),h1,h2⟩ (by simp [TbV,TlV]) ?_ (by rw [open_ac];simp only;omega),open_ac]
 ·rfl
 ·rintro ⟨⟨t',b',s',p',e'⟩,h'⟩ q
  simp only [List.cons.injEq,TbV_inj,TlV_inj,Iinj,and_true] at q
  obtain ⟨rfl,rfl,rfl,rfl,rfl⟩:=q;rfl
end Go.AM
namespace Go.AM
open Go Go.Proofs
set_option maxRecDepth 4000
theorem AcF_at {t:Tb} {b:Tl} {s p:Int} {wr:Bool} (h1:tbOK t) (h2:tlOK b):AcF [TbV t,TlV b,I s,I p,B wr]=some (retOf [TbO (acT t b s p wr).1,TlO (acT t b s p wr).2.1,I (acT t b s p wr).2.2.1,I (acT t b s p wr).2.2.2]):=by
 refine specF_eq (ι:={x:Tb×Tl×Int×Int×Bool // tbOK x.1∧tlOK x.2.1}) (A:=fun x=>[TbV x.1.1,TlV x.1.2.1,I x.1.2.2.1,I x.1.2.2.2.1,B x.1.2.2.2.2]) (R:=fun x=>retOf [TbO (acT x.1.1 x.1.2.1 x.1.2.2.1 x.1.2.2.2.1 x.1.2.2.2.2).1,TlO (acT x.1.1 x.1.2.1 x.1.2.2.1 x.1.2.2.2.1 x.1.2.2.2.2).2.1,I (acT x.1.1 x.1.2.1 x.1.2.2.1 x.1.2.2.2.1 x.1.2.2.2.2).2.2.1,I (acT x.1.1 x.1.2.1 x.1.2.2.1 x.1.2.2.2.1 x.1.2.2.2.2).2.2.2]) ⟨(t,b,s,p,wr),h1,h2⟩ fun j e=>?_
 obtain ⟨⟨t',b',s',p',wr'⟩,h'⟩:=j
 simp only [List.cons.injEq,TbV_inj,TlV_inj,Iinj,Binj,and_true] at e
 obtain ⟨rfl,rfl,rfl,rfl,rfl⟩:=e;rfl
theorem oAc {t:Tb} {b:Tl} {s p:Int} {wr:Bool} (h1:tbOK t) (h2:tlOK b) {avs:List AV} {M:Nat→AO} (hp:(peekVals M avs).map (nilP [2,3])=some [TbV t,TlV b,I s,I p,B wr]) (n:Nat) :
  callP (fun avs=>AcF (nilP [2,3] avs)) avs M n=some (.tup [TbC (acT t b s p wr).1 n,TlC (acT t b s p wr).2.1 (n+2),I (acT t b s p wr).2.2.1,I (acT t b s p wr).2.2.2],outT (acT t b s p wr).1 n++outC (acT t b s p wr).2.1 (n+2)):=by
 unfold callP
 cases h:peekVals M avs with
 | none=>rw [h] at hp;simp at hp
 | some l =>
  rw [h] at hp
  simp only [Option.map_some,Option.some.injEq] at hp
  simp only [hp,AcF_at h1 h2,open_ac]
  rw [if_pos (by omega)]
theorem peek_tl {b:Tl} {c v:Nat} {f:Bool} {M:Nat→AO} {rs rs':List AV} (h:M c=.vec v 3 f (trows b.2)) (hr:peekVals M rs=some rs'):peekVals M (.agg [I b.1,.sl c v 3 0 b.2.length]::rs)=some (TlV b::rs'):=by
 have tk:List.take b.2.length (trows b.2)=trows b.2:=List.take_of_length_le (by simp [trows])
 have ll:(trows b.2).length=b.2.length:=by simp [trows]
 simp [hr,h,tk,ll,TlV]
theorem okE:tlOK b8∧tlOK c8∧tlOK d8:=by unfold tlOK;decide +kernel
theorem oHa {t:Tb} (ht:tbOK t) {p vp q vq:Nat} {M:Nat→AO} (hM:OwT M t p vp q vq) (n:Nat):callP HaF [TbS t p vp q vq] M n=some (.tup [TbC (haT t).1 n,.sl (n+2) 1 1 0 (haT t).2.1.length,I (haT t).2.2],outT (haT t).1 n++[(n+2,.vec 1 1 false (irows (haT t).2.1))]) :=
 oT1 (D:=tbOK) (R:=fun t=>retOf [TbO (haT t).1,.ow 1 (irows (haT t).2.1),I (haT t).2.2]) ht hM n open_ha (by omega)
theorem oRc {b:Tl} {wr:Bool} (hb:tlOK b) {c v:Nat} {f:Bool} {M:Nat→AO} (h:M c=.vec v 3 f (trows b.2)) (n:Nat):callP RcF [.agg [I b.1,.sl c v 3 0 b.2.length],B wr] M n=some (.sl n 1 1 0 (rcT b wr).length,[(n,.vec 1 1 false (irows (rcT b wr)))]):=by
 unfold RcF
 rw [callP_spec (ι:={x:Tl×Bool // tlOK x.1}) (A:=fun x=>[TlV x.1.1,B x.1.2]) (R:=fun x=>retOf [.ow 1 (irows (rcT x.1.1 x.1.2))]) ⟨(b,wr),hb⟩ (peek_tl h (by simp)) ?_ (by rw [open_irow];simp only;omega),open_irow]
 rintro ⟨⟨b',wr'⟩,h'⟩ e
 simp only [List.cons.injEq,TlV_inj,Binj,and_true] at e
 obtain ⟨rfl,rfl⟩:=e;rfl
theorem oEt {l m:List Te} (hl:l.length≤1000000∧m.length≤1000000) {c vc d vd:Nat} {fc fd:Bool} {M:Nat→AO} (hc:M c=.vec vc 3 fc (trows l)) (hd:M d=.vec vd 3 fd (trows m)) (n:Nat):callP EtlF [.sl c vc 3 0 l.length,.sl d vd 3 0 m.length] M n=some (B (decide (l=m)),[]):=by
 have tk:List.take l.length (trows l)=trows l:=List.take_of_length_le (by simp [trows])
 have tm:List.take m.length (trows m)=trows m:=List.take_of_length_le (by simp [trows])
 have ll:(trows l).length=l.length:=by simp [trows]
 have lm:(trows m).length=m.length:=by simp [trows]
 exact callP_spec (ι:={x:List Te×List Te // x.1.length≤1000000∧x.2.length≤1000000}) (A:=fun x=>[.rd 3 (trows x.1.1),.rd 3 (trows x.1.2)]) (R:=fun x=>retOf [B (decide (x.1.1=x.1.2))]) ⟨(l,m),hl⟩ (by simp [hc,hd,tk,tm,ll,lm]) (by
  rintro ⟨⟨l',m'⟩,h'⟩ e
  simp only [List.cons.injEq,AV.rd.injEq,trows_inj,true_and,and_true] at e
  obtain ⟨rfl,rfl⟩:=e;rfl) (by simp)
theorem exmA {X:AX} (hX:XOK Tryz.prog X) (hw:X.W wT) (ha:X.call 29=callP fun avs=>AcF (nilP [2,3] avs)) (hh:X.call 90=callP HaF) (hr:X.call 91=callP RcF) (hi:X.call 46=callP EiF) (he:X.call 89=callP EtlF):Exm X where
 ok:=hX
 w:=hw
 ac1:=fun c vc fc M n h1=>by
  rw [ha]
  have h:=oAc (t:=t8) (b:=b8) (s:=0) (p:=70) (wr:=false) ok8.1 okE.1 (avs:=[.agg [I 10,.sl c vc 9 0 3,.v (.slice none 0 0)],.agg [I 2,.v (.slice none 0 0)],I 0,I 70,B false]) (M:=M) (by
   simp [h1,nilP,nilV,nilA]
   exact ⟨rfl,rfl⟩) n
  rw [ac1] at h
  exact h
 ac2:=fun a va b vb f1 f2 c vc fc M n h1 h2 h3=>by
  rw [ha]
  have h:=oAc (t:=bT) (b:=c8) (s:=0) (p:=70) (wr:=true) okB okE.2.1 (avs:=[TbS bT a va b vb,.agg [I c8.1,.sl c vc 3 0 c8.2.length],I 0,I 70,B true]) (M:=M) (by
   rw [peek_tab (t:=bT) ⟨⟨f1,h1⟩,f2,h2⟩ (peek_tl (b:=c8) h3 (rs':=[I 0,I 70,B true]) (by simp))]
   rfl) n
  rw [ac2] at h
  exact h
 ac3:=fun c vc fc d vd fd M n h1 h2=>by
  rw [ha]
  have h2':M d=.vec vd 3 fd [[I 0,I 70,.v (.int .u64 1337)]]:=h2
  have h:=oAc (t:=aT) (b:=d8) (s:=0) (p:=70) (wr:=true) okA okE.2.2 (avs:=[.agg [I 10,.sl c vc 9 0 1,.v (.slice none 0 0)],.agg [I 2,.sl d vd 3 0 1],I 0,I 70,B true]) (M:=M) (by
   simp [h1,h2',nilP,nilV,nilA]
   exact ⟨rfl,rfl⟩) n
  rw [ac3] at h
  exact h
 ac4:=fun c vc fc M n h1=>by
  rw [ha]
  have h:=oAc (t:=aT) (b:=b8) (s:=0) (p:=70) (wr:=false) okA okE.1 (avs:=[.agg [I 10,.sl c vc 9 0 1,.v (.slice none 0 0)],.agg [I 2,.v (.slice none 0 0)],I 0,I 70,B false]) (M:=M) (by
   simp [h1,nilP,nilV,nilA]
   exact ⟨rfl,rfl⟩) n
  rw [ac4] at h
  exact h
 har:=fun a va b vb f1 f2 M n h1 h2=>by
  rw [hh]
  have h:=oHa (t:=v8) ok8.2.1 (M:=M) ⟨⟨f1,h1⟩,f2,h2⟩ n
  rw [ha8] at h
  exact h
 et1:=fun c vc d vd fc fd M n h1 h2=>by
  rw [he]
  have h:=oEt (l:=[(0,70,1305)]) (m:=[(0,70,1305)]) (by decide) h1 h2 n
  rw [decide_eq_true rfl] at h
  exact h
 et2:=fun c vc d vd fc fd M n h1 h2=>by
  rw [he]
  have h:=oEt (l:=[(0,70,1337)]) (m:=[(0,70,1337)]) (by decide) h1 h2 n
  rw [decide_eq_true rfl] at h
  exact h
 ei1:=fun c vc d vd fc fd M n h1 h2=>by
  rw [hi]
  have h:=oEi (l:=[70]) (m:=[70]) (by decide) h1 h2 n
  rw [decide_eq_true rfl] at h
  exact h
 ei2:=fun c vc d vd fc fd M n h1 h2=>by
  rw [hi]
  have h:=oEi (l:=[5]) (m:=[5]) (by decide) h1 h2 n
  rw [decide_eq_true rfl] at h
  exact h
 rc1:=fun c vc fc M n h1=>by
  rw [hr]
  have h:=oRc (b:=d8) (wr:=true) okE.2.2 h1 n
  rw [rc1] at h
  exact h
 rc2:=fun c vc fc M n h1=>by
  rw [hr]
  have h:=oRc (b:=c8) (wr:=true) okE.2.1 h1 n
  rw [rc2] at h
  exact h
noncomputable def AwM:List AV→Option AV:=specF (ι:=Unit) (fun _=>[]) fun _=>retOf [B true]
theorem cAwM (M:Nat→AO) (n:Nat):callP AwM [] M n=some (B true,[]) :=
 callP_spec (ι:=Unit) (A:=fun _=>[]) (R:=fun _=>retOf [B true]) () (by simp) (fun _ _=>rfl) (by simp)
end Go.AM
namespace Go.AM
open Go Go.Proofs
def SamO (X:AX) (t:Tb):Prop:=∀ (a0 va0 b0 vb0:Nat) (fa0 fb0:Bool) (a1 va1 b1 vb1:Nat) (fa1 fb1:Bool) (M:Nat→AO) (n:Nat),M a0=.vec va0 9 fa0 (nrows t.2.1)→M b0=.vec vb0 2 fb0 (prows t.2.2)→M a1=.vec va1 9 fa1 (nrows t.2.1)→M b1=.vec vb1 2 fb1 (prows t.2.2) →
 X.call 31 [.agg [I t.1,.sl a0 va0 9 0 t.2.1.length,.sl b0 vb0 2 0 t.2.2.length],.agg [I t.1,.sl a1 va1 9 0 t.2.1.length,.sl b1 vb1 2 0 t.2.2.length]] M n=some (B true,[])
theorem samO {X:AX} (h:X.call 31=callP fun avs=>SaF (avs.map (nilV 2))) {t:Tb} (ht:tbOK t):SamO X t:=fun a va b vb fa fb a1 va1 b1 vb1 fa1 fb1 M n h1 h2 h3 h4=>by
 have k:=oSa ht ht (M:=M) (tab2 ⟨⟨fa,h1⟩,fb,h2⟩ ⟨⟨fa1,h3⟩,fb1,h4⟩) n
 rw [decide_eq_true rfl] at k
 rw [h]
 exact k
def tbF (t:Tb):Prop:=∀ n∈t.2.1,ndOK n
theorem tbF_ok {t:Tb} (h:tbF t) (hf:t.2.1.length≤80∧t.2.2.length≤70):tbOK t:=⟨h,by omega,by omega⟩
end Go.AM
namespace Go.AM
open Go
def shI:Sh:=.int .i64
def shB:Sh:=.bool
theorem fitL_one {s:Sh} {xs:List AV} (h:FitL [s] xs):∃ a,xs=[a]∧Fit s a:=by
 match xs,h with
 | [a],h=>simp only [FitL] at h;exact ⟨a,rfl,h.1⟩
 | [],h=>simp [FitL] at h
 | _::_::_,h=>simp [FitL] at h
theorem fit_int {a:AV} (h:Fit shI a):∃ n,a=I n∧-9223372036854775808≤n∧n≤9223372036854775807:=by
 simp only [shI,Fit] at h
 obtain ⟨n,rfl,hw⟩:=h
 refine ⟨n,rfl,?_⟩
 simpa [Lit.wf,IntKind.min,IntKind.max,IntKind.signed,IntKind.bits] using hw
theorem fit_bool {a:AV} (h:Fit shB a):∃ b,a=B b:=by
 simp only [shB,Fit] at h
 exact h
theorem fitL_cons {s:Sh} {r:List Sh} {xs:List AV} (h:FitL (s::r) xs):∃ a ar,xs=a::ar∧Fit s a∧FitL r ar:=by
 cases xs with
 | nil=>simp [FitL] at h
 | cons a ar=>simp only [FitL] at h;exact ⟨a,ar,rfl,h.1,h.2⟩
theorem fitL_nil {xs:List AV} (h:FitL [] xs):xs=[]:=by cases xs with|nil=>rfl|cons a ar=>simp [FitL] at h
theorem arg_str {P:Program} {t:TypeId} {sh:List Sh} {a:AV} {fs:Array Field} (hs:shapeOf P 10 t=some sh) (h1:P.underlying t=some (.struct fs)) (h:FitArg P t a):∃ cs,a=.agg cs∧FitL sh cs:=by
 obtain ⟨sh',h3,h4⟩:=h
 rw [hs] at h3
 simp only [Option.some.injEq] at h3
 subst h3
 rcases h4 with ⟨_,cs,rfl,h5⟩|⟨h5,_⟩
 ·exact ⟨cs,rfl,h5⟩
 ·exact absurd h1 (h5.1 fs)
end Go.AM
namespace Go.AM
open Go Go.Proofs
theorem laid:laidOutB Tryz.prog=true:=by kernel_rfl
theorem owns:ownKnob Tryz.prog.godebug=none:=by kernel_rfl
def shQ:Sh:=.int .u64
theorem fit_u64 {a:AV} (h:Fit shQ a):∃ n:Nat,a=U n∧n<2^64:=by
 simp only [shQ,Fit] at h
 obtain ⟨n,rfl,hw⟩:=h
 have h2:0≤n∧n≤18446744073709551615:=by simpa [Lit.wf,IntKind.min,IntKind.max,IntKind.signed,IntKind.bits] using hw
 refine ⟨n.toNat,?_,by omega⟩
 unfold U
 rw [show ((n.toNat:Nat):Int)=n by omega]
theorem fit_words:∀ {k:Nat} {cs:List AV},FitL (List.replicate k shQ) cs→∃ ws:List Nat,cs=wcs ws∧ws.length=k∧∀ w∈ws,w<2^64
 | 0,cs,h=>by
  have:=fitL_nil h
  subst this
  exact ⟨[],rfl,rfl,by simp⟩
 | k+1,cs,h=>by
  rw [List.replicate_succ] at h
  obtain ⟨a,ar,rfl,ha,hr⟩:=fitL_cons h
  obtain ⟨w,rfl,hw⟩:=fit_u64 ha
  obtain ⟨ws,rfl,hl,hx⟩:=fit_words hr
  refine ⟨w::ws,rfl,by simp [hl],fun x hx'=>?_⟩
  rcases List.mem_cons.1 hx' with rfl|hx'
  ·exact hw
  ·exact hx x hx'
theorem rows_nd:∀ {xs:List (List AV)},(∀ e∈xs,FitL (shI::List.replicate 8 shQ) e)→∃ l,xs=nrows l∧∀ n∈l,ndOK n
 | [],_=>⟨[],rfl,by simp⟩
 | e::r,h=>by
  obtain ⟨l,rfl,hl⟩:=rows_nd (xs:=r) fun e' he=>h e' (by simp [he])
  obtain ⟨a,ar,rfl,ha,hr⟩:=fitL_cons (h e (by simp))
  obtain ⟨x,rfl,_⟩:=fit_int ha
  obtain ⟨ws,rfl,h8,hw⟩:=fit_words hr
  refine ⟨(x,ws)::l,rfl,fun n hn=>?_⟩
  rcases List.mem_cons.1 hn with rfl|hn
  ·exact ⟨h8,hw⟩
  ·exact hl n hn
theorem rows_dp:∀ {xs:List (List AV)},(∀ e∈xs,FitL [shI,shI] e)→∃ l,xs=prows l
 | [],_=>⟨[],rfl⟩
 | e::r,h=>by
  obtain ⟨l,rfl⟩:=rows_dp (xs:=r) fun e' he=>h e' (by simp [he])
  obtain ⟨a,ar,rfl,ha,hr⟩:=fitL_cons (h e (by simp))
  obtain ⟨b,rfl,hb⟩:=fitL_one hr
  obtain ⟨x,rfl,_⟩:=fit_int ha
  obtain ⟨y,rfl,_⟩:=fit_int hb
  exact ⟨(x,y)::l,rfl⟩
theorem shTab:shapeOf Tryz.prog 10 63=some [shI,.sl (shI::List.replicate 8 shQ),.sl [shI,shI]]:=by kernel_rfl
theorem arg_tab {a:AV} (h:FitArg Tryz.prog 63 a):∃ t:Tb,a=TbV t∧tbF t:=by
 obtain ⟨cs,rfl,hf⟩:=arg_str shTab Tryz.underlying63 h
 obtain ⟨x,ar,rfl,ha,hr⟩:=fitL_cons hf
 obtain ⟨y,br,rfl,hb,hr2⟩:=fitL_cons hr
 obtain ⟨z,rfl,hc⟩:=fitL_one hr2
 obtain ⟨r,rfl,_⟩:=fit_int ha
 simp only [Fit] at hb hc
 obtain ⟨xs,rfl,_,hx⟩:=hb
 obtain ⟨ys,rfl,_,hy⟩:=hc
 obtain ⟨ns,rfl,hn⟩:=rows_nd hx
 obtain ⟨ds,rfl⟩:=rows_dp hy
 exact ⟨(r,ns,ds),rfl,hn⟩
end Go.AM
namespace Go.AM
open Go Go.Proofs
set_option maxRecDepth 4000
theorem rows_te:∀ {xs:List (List AV)},(∀ e∈xs,FitL [shI,shI,shQ] e)→∃ l,xs=trows l∧∀ x∈l,x.2.2<2^64
 | [],_=>⟨[],rfl,by simp⟩
 | e::r,h=>by
  obtain ⟨l,rfl,hl⟩:=rows_te (xs:=r) fun e' he=>h e' (by simp [he])
  obtain ⟨a,ar,rfl,ha,hr⟩:=fitL_cons (h e (by simp))
  obtain ⟨b,br,rfl,hb,hr2⟩:=fitL_cons hr
  obtain ⟨c,rfl,hc⟩:=fitL_one hr2
  obtain ⟨x,rfl,_⟩:=fit_int ha
  obtain ⟨y,rfl,_⟩:=fit_int hb
  obtain ⟨w,rfl,hw⟩:=fit_u64 hc
  refine ⟨(x,y,w)::l,rfl,fun z hz=>?_⟩
  rcases List.mem_cons.1 hz with rfl|hz
  ·exact hw
  ·exact hl z hz
def tlF (b:Tl):Prop:=∀ x∈b.2,x.2.2<2^64
theorem tlF_ok {b:Tl} (h:tlF b) (hl:b.2.length≤40):tlOK b:=⟨by omega,h⟩
theorem arg_tl {a:AV} (h:FitArg Tryz.prog 66 a):∃ b:Tl,a=TlV b∧tlF b:=by
 obtain ⟨cs,rfl,hf⟩:=arg_str (show shapeOf Tryz.prog 10 66=some [shI,.sl [shI,shI,shQ]] by kernel_rfl) Tryz.underlying66 h
 obtain ⟨x,ar,rfl,ha,hr⟩:=fitL_cons hf
 obtain ⟨y,rfl,hb⟩:=fitL_one hr
 obtain ⟨z,rfl,_⟩:=fit_int ha
 simp only [Fit] at hb
 obtain ⟨xs,rfl,_,hx⟩:=hb
 obtain ⟨l,rfl,hl⟩:=rows_te hx
 exact ⟨(z,l),rfl,hl⟩
@[simp] theorem tyTry:Types Tryz.prog 68=some ⟨.struct [(0,3,1),(1,3,1),(2,4,1)],3,24,[.int .i64 0,.int .i64 0,.bool false]⟩:=by kernel_rfl
noncomputable def acR (t:Tb) (b:Tl) (s p:Int) (wr:Bool) (n:Nat):Option (AV×List (Nat×AO)):=some (.tup [TbC (acT t b s p wr).1 n,TlC (acT t b s p wr).2.1 (n+2),I (acT t b s p wr).2.2.1,I (acT t b s p wr).2.2.2],outT (acT t b s p wr).1 n++outC (acT t b s p wr).2.1 (n+2))
theorem StlF_at {a b:Tl} (h1:a.2.length≤1000000) (h2:b.2.length≤1000000):StlF [TlV a,TlV b]=some (B (decide (a=b))):=by
 refine specF_eq (ι:={x:Tl×Tl // x.1.2.length≤1000000∧x.2.2.length≤1000000}) (A:=fun x=>[TlV x.1.1,TlV x.1.2]) (R:=fun x=>retOf [B (decide (x.1.1=x.1.2))]) ⟨(a,b),h1,h2⟩ fun j e=>?_
 obtain ⟨⟨a',b'⟩,h'⟩:=j
 simp only [List.cons.injEq,TlV_inj,and_true] at e
 obtain ⟨rfl,rfl⟩:=e;rfl
theorem kSt {b:Tl} (hb:b.2.length≤1000000) {avs:List AV} {M:Nat→AO} (hp:peekVals M avs=some [TlV b,TlV b]) (n:Nat):callP StlF avs M n=some (B true,[]):=by
 unfold callP
 simp only [hp,StlF_at hb hb]
 simp
def TryV (y:Int×Int×Bool):AV:=.agg [I y.1,I y.2.1,B y.2.2]
theorem arg_try {a:AV} (h:FitArg Tryz.prog 68 a):∃ y,a=TryV y:=by
 obtain ⟨cs,rfl,hf⟩:=arg_str (show shapeOf Tryz.prog 10 68=some [shI,shI,shB] by kernel_rfl) Tryz.underlying68 h
 obtain ⟨x,ar,rfl,ha,hr⟩:=fitL_cons hf
 obtain ⟨y,br,rfl,hb,hr2⟩:=fitL_cons hr
 obtain ⟨z,rfl,hc⟩:=fitL_one hr2
 obtain ⟨s,rfl,_⟩:=fit_int ha
 obtain ⟨p,rfl,_⟩:=fit_int hb
 obtain ⟨wr,rfl⟩:=fit_bool hc
 exact ⟨(s,p,wr),rfl⟩
theorem tab_tl_try_F (avs:List AV) (h:FitArgs Tryz.prog [63,66,68] avs):specF (ι:={x:Tb×Tl×Int×Int×Bool // tbF x.1∧tlF x.2.1}) (fun x=>[TbV x.1.1,TlV x.1.2.1,TryV x.1.2.2]) (fun _=>retOf [B true]) avs=some (B true):=by
 match avs,h with
 | [a,b,c],h =>
  simp only [FitArgs] at h
  obtain ⟨t,rfl,ht⟩:=arg_tab h.1
  obtain ⟨x,rfl,hx⟩:=arg_tl h.2.1
  obtain ⟨y,rfl⟩:=arg_try h.2.2.1
  exact specF_eq (A:=fun x:{x:Tb×Tl×Int×Int×Bool // tbF x.1∧tlF x.2.1}=>[TbV x.1.1,TlV x.1.2.1,TryV x.1.2.2]) (R:=fun _=>retOf [B true]) ⟨(t,x,y),ht,hx⟩ fun _ _=>rfl
 | [],h=>simp [FitArgs] at h
 | [_],h=>simp [FitArgs] at h
 | [_,_],h=>simp [FitArgs] at h
 | _::_::_::_::_,h=>simp [FitArgs] at h
noncomputable def FwF:List AV→Option AV:=specF (ι:=Tb×Tl) (fun x=>[TbV x.1,TlV x.2]) fun x=>retOf [B (decide (x.1.2.1.length≤80∧x.1.2.2.length≤70)&&decide (x.2.2.length≤40))]
theorem s27 (X:AX) (hX:XOK Tryz.prog X) (hw:X.W wT) (few:∀ (t:Tb) M n,X.call 33 [TbV t] M n=some (B (decide (t.2.1.length≤80∧t.2.2.length≤70)),[])):PSound Tryz.prog 27 FwF:=by
 unfold FwF
 refine psound_spec hX mixed Tryz.func27 rfl fun ⟨⟨r,ns,ds⟩,z,l⟩ w0 G=>⟨by show 2≤13;decide,rfl,?_⟩
 show AW ⟨Tryz.prog,X,13,w0,.pure G⟩ _ _ _
 have hc:Cx.OK ⟨Tryz.prog,X,13,w0,.pure G⟩:=⟨hX,mixed⟩
 have few:=few (r,ns,ds)
 simp only at few ⊢
 cases hf:decide (ns.length≤80∧ds.length≤70) with
 | true =>
  rw [hf] at few
  simp only [TbV,TlV] at few ⊢
  rcases Decidable.em (l.length≤40) with h|h
  ·have hI:(l.length:Int)≤40:=by omega
   have zS:=jj few<|jj h<|hI
   refine dF64 ?_
   repeat (intro K hK)
   clear zS
   all_goals refine ⟨by simp,?_⟩
   all_goals simp [leaves_iff,Tryz.f27,h]
   all_goals try exact dt
  ·have hI:¬ (l.length:Int)≤40:=by omega
   have zS:=jj few<|jj h<|hI
   refine dF64 ?_
   repeat (intro K hK)
   clear zS
   all_goals refine ⟨by simp,?_⟩
   all_goals simp [leaves_iff,Tryz.f27,h]
   all_goals try exact dt
 | false =>
  rw [hf] at few
  simp only [TbV,TlV] at few ⊢
  have zS:=few
  refine dF64 ?_
  repeat (intro K hK)
  clear zS
  all_goals refine ⟨by simp,?_⟩
  all_goals simp [leaves_iff,Tryz.f27]
  all_goals try exact dt
theorem cFw (t:Tb) (b:Tl) (M:Nat→AO) (n:Nat):callP FwF [TbV t,TlV b] M n=some (B (decide (t.2.1.length≤80∧t.2.2.length≤70)&&decide (b.2.length≤40)),[]):=by
 unfold FwF
 rw [callP_spec (ι:=Tb×Tl) (A:=fun x=>[TbV x.1,TlV x.2]) (R:=fun x=>retOf [B (decide (x.1.2.1.length≤80∧x.1.2.2.length≤70)&&decide (x.2.2.length≤40))]) (t,b) (by simp [TbV,TlV]) ?_ (by simp)]
 ·simp
 ·rintro ⟨t',b'⟩ e
  simp only [List.cons.injEq,TbV_inj,TlV_inj,and_true] at e
  obtain ⟨rfl,rfl⟩:=e;rfl
theorem ac_ok {t:Tb} {b:Tl} {s p:Int} {wr:Bool} (ht:tbOK t) (hb:tlOK b) (hl:b.2.length≤40):tbOK (acT t b s p wr).1∧(acT t b s p wr).2.1.2.length≤1000000:=by
  unfold acT
  split
  · exact ⟨zT_okm,by simp [zB]⟩
  · split
    · exact ⟨zT_okm,by simp [zB]⟩
    · split
      · exact ⟨zT_okm,by simp [zB]⟩
      · split
        · exact ⟨ht,by simp only;omega⟩
        · unfold acM
          split
          · refine ⟨ht,?_⟩
            unfold inT
            have h1:=(List.filter_sublist (p:=fun y=>!cvB y s p) (l:=b.2)).length_le
            split
            · simp [zB]
            · first
                | (simp only;omega)
                | (split
                   · simp [zB]
                   · simp only;omega)
          · refine ⟨repP_okm ht (mkW_lt (walk_u64 ht p)),?_⟩
            unfold fiT
            generalize (mkW (walkT t p).1 wr).1=mw
            have hfl:(fiL b (fiX s p mw)).length≤1000000:=by
              generalize fiX s p mw=x
              unfold fiL
              simp only [List.length_append,List.length_cons,List.length_nil]
              have:=(List.filter_sublist (p:=fun y=>!ovB x y) (l:=b.2)).length_le
              split
              · rw [List.length_drop];omega
              · omega
            repeat' split
            all_goals first
              | exact hfl
              | simp [zB]
theorem kAc0 {t:Tb} {b:Tl} {s p:Int} {wr:Bool} (ht:tbOK t) (hb:tlOK b) (M:Nat→AO) (n:Nat):callP (fun avs=>AcF (nilP [2,3] avs)) [TbV t,TlV b,I s,I p,B wr] M n=acR t b s p wr n :=
 oAc ht hb (by simp [TbV,nilP,nilV,nilA,TlV]) n
theorem kAr {t:Tb} {b:Tl} {s p:Int} {wr:Bool} (ht:tbOK t) (hb:tlOK b) (M:Nat→AO) (n:Nat):callP AcF [TbV t,TlV b,I s,I p,B wr] M n=acR t b s p wr n:=by
 unfold callP
 rw [show peekVals M [TbV t,TlV b,I s,I p,B wr]=some [TbV t,TlV b,I s,I p,B wr] by simp [TbV,TlV]]
 simp only [AcF_at ht hb,open_ac]
 rw [if_pos (by omega)]
 rfl
structure LawA (X:AX):Prop where
 ok:XOK Tryz.prog X
 w:X.W wT
 fw:∀ (t:Tb) (b:Tl) M n,X.call 27 [TbV t,TlV b] M n=some (B (decide (t.2.1.length≤80∧t.2.2.length≤70)&&decide (b.2.length≤40)),[])
 aw:∀ M n,X.call 28 [] M n=some (B true,[])
 ac:∀ (t:Tb) (b:Tl) (s p:Int) (wr:Bool),tbOK t→tlOK b→∀ M n,X.call 29 [TbV t,TlV b,I s,I p,B wr] M n=acR t b s p wr n
 ar:∀ (t:Tb) (b:Tl) (s p:Int) (wr:Bool),tbOK t→tlOK b→∀ M n,X.call 30 [TbV t,TlV b,I s,I p,B wr] M n=acR t b s p wr n
 sam:∀ t:Tb,tbOK t→SamO X t
 st:X.call 32=callP StlF
set_option maxHeartbeats 16000000 in
theorem s5 (X:AX) (L:LawA X):PSound Tryz.prog 5 (specF (ι:={x:Tb×Tl×Int×Int×Bool // tbF x.1∧tlF x.2.1}) (fun x=>[TbV x.1.1,TlV x.1.2.1,TryV x.1.2.2]) fun _=>retOf [B true]):=by
 have hX:=L.ok
 have hw:=L.w
 refine psound_spec hX mixed Tryz.func5 rfl fun ⟨⟨⟨r,ns,ds⟩,⟨z,l⟩,s,p,wr⟩,htf,hbf⟩ w0 G=>⟨by show 3≤69;decide,rfl,?_⟩
 show AW ⟨Tryz.prog,X,69,w0,.pure G⟩ _ _ _
 have hc:Cx.OK ⟨Tryz.prog,X,69,w0,.pure G⟩:=⟨hX,mixed⟩
 have fw:=L.fw (r,ns,ds) (z,l)
 have aw:=L.aw
 simp only at fw htf hbf ⊢
 rcases Decidable.em ((ns.length≤80∧ds.length≤70)∧l.length≤40) with hf|hf
 ·rw [decide_eq_true hf.1,decide_eq_true hf.2] at fw
  have ht:=tbF_ok htf hf.1
  have hb:=tlF_ok hbf hf.2
  have ac:=L.ac _ _ s p wr ht hb
  have ar:=L.ar _ _ s p wr ht hb
  unfold acR at ac ar
  obtain ⟨k1,k2⟩:=@ac_ok _ _ s p wr ht hb hf.2
  obtain ⟨⟨u,b,f,e⟩,hA⟩:∃ x,x=acT (r,ns,ds) (z,l) s p wr:=⟨_,rfl⟩
  rw [← hA] at ac ar k1 k2
  have sam:=L.sam u k1
  unfold SamO at sam
  have stl:∀ (c vc d vd:Nat) (fc fd:Bool) (M:Nat→AO) (n:Nat),M c=.vec vc 3 fc (trows b.2)→M d=.vec vd 3 fd (trows b.2)→X.call 32 [.agg [I b.1,.sl c vc 3 0 b.2.length],.agg [I b.1,.sl d vd 3 0 b.2.length]] M n=some (B true,[]):=fun c vc d vd fc fd M n h1 h2=>by rw [L.st];exact kSt k2 (peek_tl h1 (peek_tl h2 rfl)) n
  obtain ⟨u1,uns,uds⟩:=u
  obtain ⟨z2,bl⟩:=b
  simp only [TbV,TlV,TbC,TbS,TlC,outT,outC,TryV,List.cons_append,List.nil_append,Bool.and_self] at fw ac ar sam stl ⊢
  have zS:=jj fw<|jj aw<|jj ac<|jj ar<|jj sam<|stl
  refine dF64 ?_
  repeat (intro K hK)
  clear zS
  all_goals refine ⟨by simp,?_⟩
  all_goals simp [leaves_iff,Tryz.f5]
  all_goals try exact dt
 ·have e:(decide (ns.length≤80∧ds.length≤70)&&decide (l.length≤40))=false:=by
   rw [← Bool.decide_and];exact decide_eq_false hf
  rw [e] at fw
  simp only [TbV,TlV,TryV] at fw ⊢
  have zS:=jj fw<|aw
  refine dF64 ?_
  repeat (intro K hK)
  clear zS
  all_goals refine ⟨by simp,?_⟩
  all_goals simp [leaves_iff,Tryz.f5]
  all_goals try exact dt
end Go.AM
