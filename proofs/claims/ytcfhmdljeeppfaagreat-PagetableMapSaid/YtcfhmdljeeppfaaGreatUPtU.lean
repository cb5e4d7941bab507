/- A part of the proof: what functions of the program compute, by abstract execution of their code. Its theorems hold without further condition. -/
import Derived.Test.YtcfhmdljeeppfaaGreatUPt72
set_option linter.all false
namespace Go.AM
open Go Go.Proofs
theorem tabW_inv {x:Nat} {g:Int} (h:tabW x=some g):0≤g∧g≤4294967295∧x=g.toNat*256+4:=by
 have hr:=decR_rng x
 unfold tabW at h
 split at h
 case isFalse=>simp at h
 rename_i hk
 simp only [Option.some.injEq] at h
 rw [h] at hr
 refine ⟨hr.1,hr.2,?_⟩
 by_cases he:encR (prs x)=((x:Int),0)
 ·rw [decR_z he] at hk h
  simp only at hk h
  have hb:¬ badF (prs x):=fun hb=>by rw [encR_f (by rw [hk];decide) hb] at he;simp at he
  cases hf:frmE (prs x) with
  | false=>rw [encR_m (by rw [hk];decide) hb hf] at he;simp at he
  | true =>
   rw [encR_z (by rw [hk];decide) hb hf] at he
   simp only [Prod.mk.injEq,and_true] at he
   unfold frmE noFl at hf
   rw [if_neg (by rw [hk];decide),if_neg (by rw [hk];decide),if_neg (by rw [hk];decide),if_pos (.inr hk)] at hf
   simp only [Bool.and_eq_true,Bool.not_eq_true'] at hf
   unfold encW fb at he
   rw [hk,h,hf.1,hf.2.1,hf.2.2.1,hf.2.2.2] at he
   simp at he
   omega
 ·rw [decR_n he] at hk
  exact absurd hk (by decide)
def unlW (w:Nat) (ws:List Nat):List Nat:=ws.map fun x=>if x=w then 0 else x
def unl (w:Nat) (ns:NdL):NdL:=ns.map fun n=>(n.1,unlW w n.2)
@[simp] theorem unl_len {w:Nat} {ns:NdL}:(unl w ns).length=ns.length:=by simp [unl]
@[simp] theorem unlW_len {w:Nat} {ws:List Nat}:(unlW w ws).length=ws.length:=by simp [unlW]
theorem fnd_unl {w:Nat} {ns:NdL} {f:Int}:fnd (unl w ns) f=fnd ns f:=by
 unfold fnd unl
 rw [List.findIdx_map,List.length_map]
 rfl
theorem Mof_unl {w:Nat} {ns:NdL} {f:Int}:Mof (unl w ns) f=(Mof ns f).map (unlW w):=by
 unfold Mof
 rw [fnd_unl]
 cases fnd ns f with
 | none=>rfl
 | some i =>
  simp only [Option.map_some,unl,List.getD_eq_getElem?_getD,List.getElem?_map]
  cases ns[i]?<;>rfl
theorem unl_asc {w:Nat} {ns:NdL} (h:ascN ns):ascN (unl w ns):=by
 unfold ascN unl
 rw [List.pairwise_map]
 exact h
theorem unl_ok {w:Nat} {ns:NdL} (h:∀ x∈ns,ndOK x):∀ x∈unl w ns,ndOK x:=fun x hx=>by
 obtain ⟨y,hy,rfl⟩:=List.mem_map.1 hx
 refine ⟨by simp [(h y hy).1],fun z hz=>?_⟩
 obtain ⟨u,hu,rfl⟩:=List.mem_map.1 hz
 have:=(h y hy).2 u hu
 split
 ·decide
 ·exact this
theorem delK_ok {ns:NdL} {g:Int} (h:∀ x∈ns,ndOK x):∀ x∈delK ns g,ndOK x:=fun x hx=>h x (mem_delK.1 hx).1
theorem unl_one {M:Mm} {root:Int} (hV:VM WA M root) {d q:Nat} (hx:(d,q)∈Pos) (hd:d<2) {f:Int} (hf:frP WA M root d q=some f) {i:Nat} (hi:i<8) {g:Int} (h0:tabW (wM M f i)=some g) {h:Int} {us:List Nat} (hm:M h=some us) :
  unlW (g.toNat*256+4) us=if h=f then us.set i 0 else us:=by
 obtain ⟨g0,g1,gw⟩:=tabW_inv h0
 obtain ⟨d',q',hx',hf'⟩:=hV.all h us hm
 obtain ⟨us',hm',h8,hok⟩:=hV.nd d' q' hx' h hf'
 rw [hm] at hm'
 simp only [Option.some.injEq] at hm'
 subst hm'
 have hgP:frP WA M root (d+1) (q*8+i)=some g:=by
  simp only [frP]
  rw [show (q*8+i)/8=q by omega,show (q*8+i)%8=i by omega,hf]
  exact h0
 have key:∀ j,j<8→us.getD j 0=g.toNat*256+4→h=f∧j=i:=fun j hj e=>by
  have hj':=hok j hj
  have htw:tabW (us.getD j 0)=some g:=by
   rw [e,tabW_tw (g:=g.toNat) (by omega),Int.toNat_of_nonneg g0]
  have hd':d'≤2:=by have:=mem_Pos.1 hx';simp only at this;omega
  by_cases e2:d'=2
  ·subst e2
   have:=(WD_ok fun _=>true).flat _ hj'
   rw [show (WD fun _=>true).tab=tabW from rfl,htw] at this
   simp at this
  ·have hgP':frP WA M root (d'+1) (q'*8+j)=some g:=by
    simp only [frP]
    rw [show (q'*8+j)/8=q' by omega,show (q'*8+j)%8=j by omega,hf']
    show tabW (wM M h j)=some g
    unfold wM
    rw [hm];exact htw
   have hin:=hV.inj _ _ _ _ (Pos_dn hx' (by omega) hj) (Pos_dn hx hd hi) g hgP' hgP
   have e3:d'=d:=by omega
   have e4:q'=q:=by omega
   subst e3 e4
   rw [hf] at hf'
   simp only [Option.some.injEq] at hf'
   exact ⟨hf'.symm,by omega⟩
 refine List.ext_getElem (by split<;>simp) fun j h1 h2=>?_
 have hj:j<8:=by simp at h1;omega
 have hg:us.getD j 0=us[j]'(by simpa using h1):=by rw [List.getD_eq_getElem?_getD,List.getElem?_eq_getElem (by simpa using h1)];rfl
 have k:=key j hj
 rw [hg] at k
 simp only [unlW,List.getElem_map]
 by_cases e:us[j]'(by simpa using h1)=g.toNat*256+4
 ·obtain ⟨rfl,rfl⟩:=k e
  rw [if_pos e]
  simp
 ·rw [if_neg e]
  by_cases e2:h=f
  ·subst e2
   simp only [if_true]
   rw [List.getElem_set]
   split
   ·rename_i e3
    subst e3
    exfalso
    apply e
    unfold wM at gw
    rw [hm] at gw
    simp only at gw
    rw [← hg]
    exact gw
   ·rfl
  ·simp only [if_neg e2]
theorem Mof_kp {ns:NdL} (ha:ascN ns) {fr:List Int} (x:Int):Mof (kpF fr ns) x=if x∈fr then none else Mof ns x:=by
 have hk:ascN (kpF fr ns):=List.Pairwise.filter _ ha
 split
 ·rename_i h
  refine (Mof_none hk).2 fun n hn e=>?_
  have:=(List.mem_filter.1 hn).2
  unfold inF at this
  rw [e] at this
  simp [h] at this
 ·rename_i h
  cases hm:Mof ns x with
  | none=>exact (Mof_none hk).2 fun n hn=>(Mof_none ha).1 hm n (List.mem_filter.1 hn).1
  | some us =>
   refine (mem_Mof hk).1 (List.mem_filter.2 ⟨(mem_Mof ha).2 hm,?_⟩)
   unfold inF
   simp [h]
theorem kpF_asc {ns:NdL} (ha:ascN ns) {fr:List Int}:ascN (kpF fr ns):=List.Pairwise.filter _ ha
theorem zs_leaf {M:Mm} {g:Int} (h:M g=some zs8):∀ j,j<8→tabW (wM M g j)=none:=fun j _=>by
 have:wM M g j=0:=by unfold wM;rw [h];exact zs8_getD j
 rw [this];exact tab0
theorem round {r:Int} {ns:NdL} {ds:List Dp} (h:Pv (r,ns,ds)) (ht:tbOK (r,ns,ds)) {p:Nat} (hp:p<512) {g:Int} {l w:Nat} (hw:wlk (Mof ns) r p=(g,l,w)) (hl:l<2) (hlf:∀ j,j<8→tabW (wM (Mof ns) g j)=none) :
  ∃ f k,frP WA (Mof ns) r (1 - l) (p/8^(l+2))=some f∧tabW (wM (Mof ns) f (dgt p (l+1)))=some g∧fnd ns f=some k∧f≠g∧0≤g∧g≤4294967295 ∧
   Mof (unl (g.toNat*256+4) (delK ns g))=updM1 (updW (Mof ns) f (dgt p (l+1)) 0) g none∧Pv (r,unl (g.toNat*256+4) (delK ns g),ds)∧tbOK (r,unl (g.toNat*256+4) (delK ns g),ds) ∧
   wlk (Mof (unl (g.toNat*256+4) (delK ns g))) r p=(f,l+1,0)∧unl (g.toNat*256+4) (delK ns g)=kpF [g] (setN ns k (dgt p (l+1)) 0):=by
 obtain ⟨a1,a2,a3,a4,a5,a6⟩:=wlk_at h.vm hp hw
 simp only at a3
 have hq:p/8^(l+1)=p/8^(l+2)*8+dgt p (l+1):=by
  unfold dgt
  rw [Nat.pow_succ 8 (l+1),← Nat.div_div_eq_div_mul]
  omega
 have hd8:=dgt_lt p (l+1)
 obtain ⟨f,hf,htb⟩:∃ f,frP WA (Mof ns) r (1 - l) (p/8^(l+2))=some f∧tabW (wM (Mof ns) f (dgt p (l+1)))=some g:=by
  rw [show 2 - l=(1 - l)+1 by omega,hq] at a3
  simp only [frP] at a3
  rw [show (p/8^(l+2)*8+dgt p (l+1))/8=p/8^(l+2) by omega,show (p/8^(l+2)*8+dgt p (l+1))%8=dgt p (l+1) by omega] at a3
  cases hc:frP WA (Mof ns) r (1 - l) (p/8^(l+2)) with
  | none=>rw [hc] at a3;simp at a3
  | some f=>rw [hc] at a3;exact ⟨f,rfl,a3⟩
 have hx:(1 - l,p/8^(l+2))∈Pos:=by
  have:=Pos_up (d:=1 - l) (q:=p/8^(l+1)) (by rw [show 1 - l+1=2 - l by omega];exact a2)
  rwa [hq,show (p/8^(l+2)*8+dgt p (l+1))/8=p/8^(l+2) by omega] at this
 obtain ⟨g0,g1,gw⟩:=tabW_inv htb
 have hpr:=h.vm.prune hx (by omega) hf hd8 (w:=0) htb hlf tab0 (ok0 (2 - (1 - l)))
 obtain ⟨us,hus,hu8,_⟩:=h.vm.nd _ _ hx f hf
 obtain ⟨k,hk,_⟩:=Mof_some.1 hus
 have hfg:f≠g:=fun e=>by
  have:=h.vm.inj _ _ _ _ hx a2 f hf (by rw [e];exact a3)
  omega
 have hM:Mof (unl (g.toNat*256+4) (delK ns g))=updM1 (updW (Mof ns) f (dgt p (l+1)) 0) g none:=by
  refine Mof_ext fun x=>?_
  rw [Mof_unl,Mof_del h.asc]
  unfold updM1 updW
  by_cases e:x=g
  ·simp [e]
  ·simp only [if_neg e]
   cases hm:Mof ns x with
   | none =>
    split
    ·rename_i e2;rw [e2,hus] at hm;simp at hm
    ·rfl
   | some vs =>
    simp only [Option.map_some]
    rw [unl_one h.vm hx (by omega) hf hd8 htb hm]
    by_cases e2:x=f
    ·subst e2;rw [hm];simp
    ·simp [e2]
 have hasc:ascN (unl (g.toNat*256+4) (delK ns g)):=unl_asc (delK_asc h.asc)
 have hsa:=setN_asc h.asc (i:=dgt p (l+1)) (w:=0) (fnd_lt hk)
 refine ⟨f,k,hf,htb,hk,hfg,g0,g1,hM,⟨hasc,?_⟩,⟨unl_ok (delK_ok ht.1),?_,ht.2.2⟩,?_,?_⟩
 ·show VM WA (Mof (unl _ _)) r
  rw [hM];exact hpr.1
 ·have h1:(delK ns g).length≤ns.length:=List.length_filter_le _ _
  have h2:=ht.2.1
  show (unl _ _).length≤_
  simp only [unl_len]
  simp only at h2
  omega
 ·have hfr:frP WA (Mof (unl (g.toNat*256+4) (delK ns g))) r (2 - (l+1)) (p/8^(l+1+1))=some f:=by
   rw [hM,show 2 - (l+1)=1 - l by omega,hpr.2 _ _ hx,if_neg (by omega)]
   exact hf
  have hwf:wM (Mof (unl (g.toNat*256+4) (delK ns g))) f (dgt p (l+1))=0:=by
   rw [hM,wM_updM1,if_neg hfg,wM_updW hus (by omega),if_pos ⟨rfl,rfl⟩]
  rw [wlk_of hp (by omega) hfr (.inl (by rw [hwf];exact tab0)),hwf]
 ·refine ext_asc hasc (kpF_asc hsa) fun x=>?_
  rw [hM,Mof_kp hsa,Mof_set h.asc hk]
  unfold updM1
  simp
end Go.AM
namespace Go.AM
open Go Go.Proofs
def clrR (r:Int) (ds:List Dp) (p:Nat):Nat→NdL→NdL×List Int
 | 0,ns=>(ns,[])
 | k+1,ns=>if (gn ns (lsT (r,ns,ds) p).1).2=zs8 then
   ((clrR r ds p k (unl ((gn ns (lsT (r,ns,ds) p).1).1.toNat*256+4) (delK ns (gn ns (lsT (r,ns,ds) p).1).1))).1,(gn ns (lsT (r,ns,ds) p).1).1::(clrR r ds p k (unl ((gn ns (lsT (r,ns,ds) p).1).1.toNat*256+4) (delK ns (gn ns (lsT (r,ns,ds) p).1).1))).2)
  else (ns,[])
theorem end_nd {r:Int} {ns:NdL} {ds:List Dp} (h:Pv (r,ns,ds)) {p:Nat} (hp:p<512) {g:Int} {l w:Nat} (hw:wlk (Mof ns) r p=(g,l,w)):fnd ns g=some (lsT (r,ns,ds) p).1∧(lsT (r,ns,ds) p).2=(l,w)∧(gn ns (lsT (r,ns,ds) p).1).1=g∧Mof ns g=some (gn ns (lsT (r,ns,ds) p).1).2∧(lsT (r,ns,ds) p).1<ns.length:=by
 have h1:=h.walk hp
 simp only at h1
 rw [hw] at h1
 exact ⟨h1.2.1,h1.2.2,fnd_frame h1.2.1,Mof_some.2 ⟨_,h1.2.1,rfl⟩,fnd_lt h1.2.1⟩
theorem path_f0 {r:Int} {ns:NdL} {ds:List Dp} (h:Pv (r,ns,ds)) {p:Nat} (hp:p<512) (hl:(lsT (r,ns,ds) p).2.1=0):∃ n2 w2 n1 w1 g1 g0,ptL (r,ns,ds) p=[(n2,2,w2),(n1,1,w1),lsT (r,ns,ds) p]∧fnd ns r=some n2∧fnd ns g1=some n1∧fnd ns g0=some (lsT (r,ns,ds) p).1 ∧
  frP WA (Mof ns) r 1 (p/64)=some g1∧frP WA (Mof ns) r 2 (p/8)=some g0:=by
 have hr:=h.root
 simp only at hr
 have d2:dgt p 2=p/64:=dgt2 hp
 have d1:dgt p 1=p/8%8:=dgt1
 have f1:frP WA (Mof ns) r 1 (p/64)=tabW (wd ns (rtN (r,ns,ds)) (p/64)):=by
  simp only [frP,Option.bind_some]
  rw [show p/64%8=p/64 by omega,wM_Mof hr]
  rfl
 have f2:frP WA (Mof ns) r 2 (p/8)=(frP WA (Mof ns) r 1 (p/64)).bind fun f=>tabW (wM (Mof ns) f (p/8%8)):=by
  show (frP WA (Mof ns) r 1 (p/8/8)).bind _=_
  rw [show p/8/8=p/64 by omega]
  rfl
 unfold lsT ptL at *
 simp only [lst,pth,d2,d1] at hl ⊢
 cases h2:kid WA ns (wd ns (rtN (r,ns,ds)) (p/64)) with
 | none=>rw [h2] at hl;simp at hl
 | some n1 =>
  rw [h2] at hl
  simp only at hl ⊢
  cases h1:kid WA ns (wd ns n1 (p/8%8)) with
  | none=>rw [h1] at hl;simp at hl
  | some n0 =>
   obtain ⟨g1,t1,hg1⟩:=kid_some.1 h2
   obtain ⟨g0,t0,hg0⟩:=kid_some.1 h1
   rw [show WA.tab=tabW from rfl] at t1 t0
   rw [t1] at f1
   rw [f1,Option.bind_some,wM_Mof hg1,t0] at f2
   exact ⟨_,_,n1,_,g1,g0,rfl,hr,hg1,hg0,f1,f2⟩
theorem clr_start {r:Int} {ns:NdL} {ds:List Dp} (h:Pv (r,ns,ds)) (ht:tbOK (r,ns,ds)) {p:Nat} (hp:p<512) {g:Int} {l w:Nat} (hw:wlk (Mof ns) r p=(g,l,w)) :
  let ns1:=setN ns (lsT (r,ns,ds) p).1 (dgt p l) 0
  Pv (r,ns1,ds)∧tbOK (r,ns1,ds)∧wlk (Mof ns1) r p=(g,l,0)∧(∀ d q,(d,q)∈Pos→frP WA (Mof ns1) r d q=frP WA (Mof ns) r d q):=by
 obtain ⟨a1,a2,a3,a4,a5,a6⟩:=wlk_at h.vm hp hw
 obtain ⟨e1,e2,_⟩:=end_nd h hp hw
 obtain ⟨b1,b2,b3,b4,b5⟩:=h.put ht hp hw (w:=0) (by omega) tab0 (ok0 _)
 have hst:(putT (r,ns,ds) p 0).2.1=setN ns (lsT (r,ns,ds) p).1 (dgt p l) 0:=by unfold putT;simp only [e2]
 rw [hst] at b1 b2 b3 b4
 exact ⟨b1,b2,wlk_put_self h.vm hp hw tab0 b3 b4,b4⟩
theorem clr_0 {r:Int} {ns:NdL} {ds:List Dp} (h:Pv (r,ns,ds)) (ht:tbOK (r,ns,ds)) {p:Nat} (hp:p<512) (hl:(lsT (r,ns,ds) p).2.1=0) :
  (clrR r ds p 2 (setN ns (lsT (r,ns,ds) p).1 (dgt p 0) 0)).1=kpF (clrL p ns (ptL (r,ns,ds) p).reverse).2 (clrL p ns (ptL (r,ns,ds) p).reverse).1∧(clrR r ds p 2 (setN ns (lsT (r,ns,ds) p).1 (dgt p 0) 0)).2=(clrL p ns (ptL (r,ns,ds) p).reverse).2:=by
 obtain ⟨g,l,w,hw⟩:∃ f l w,wlk (Mof ns) r p=(f,l,w):=⟨_,_,_,rfl⟩
 obtain ⟨e1,e2,e3,e4,e5⟩:=end_nd h hp hw
 obtain rfl:l=0:=by rw [e2] at hl;exact hl
 obtain ⟨n2,w2,n1,w1,g1,g0,hpt,q2,q1,q0,f1,f0⟩:=path_f0 h hp hl
 obtain rfl:g0=g:=by
  have k1:=fnd_frame q0
  have k2:=fnd_frame e1
  rw [← k1,k2]
 obtain ⟨b1,b2,b3,b4⟩:=clr_start h ht hp hw
 obtain ⟨ns1,hns1⟩:∃ x,x=setN ns (lsT (r,ns,ds) p).1 (dgt p 0) 0:=⟨_,rfl⟩
 rw [← hns1] at b1 b2 b3 b4
 obtain ⟨a1,a2,a3,a4,a5⟩:=end_nd b1 hp b3
 have hfnd:∀ x,fnd ns1 x=fnd ns x:=fun x=>by rw [hns1];exact fnd_set e5 x
 have hpos:(lsT (r,ns1,ds) p).1=(lsT (r,ns,ds) p).1:=by
  rw [hfnd,e1] at a1
  simpa using a1.symm
 rw [hpos] at a3 a4 a5
 rw [hpt]
 simp only [List.reverse_cons,List.reverse_nil,List.nil_append,List.cons_append]
 have hs:(lsT (r,ns,ds) p).2.1=0:=hl
 unfold clrR
 rw [← hns1,hpos,a3]
 simp only [clrL,hs,← hns1]
 by_cases hz:(gn ns1 (lsT (r,ns,ds) p).1).2=zs8
 ·rw [if_pos hz,if_pos hz]
  obtain ⟨f,k,c1,c2,c3,c4,c5,c6,c7,c8,c9,c10,c11⟩:=round b1 b2 hp b3 (by omega) (zs_leaf (by rw [a4,hz]))
  have hfg:f=g1:=by
   have hx1:(1,p/64)∈Pos:=Pos1 (by omega)
   rw [show 1 - 0=1 from rfl,show p/8^(0+2)=p/64 by simp,b4 _ _ hx1,f1] at c1
   simpa using c1.symm
  subst hfg
  have hk:k=n1:=by
   rw [hfnd,q1] at c3
   simpa using c3.symm
  subst hk
  simp only [Nat.zero_add] at c2 c7 c10 c11
  obtain ⟨d1,d2,d3,d4,d5⟩:=end_nd c8 hp c10
  have hg0:(gn ns (lsT (r,ns,ds) p).1).1=g0:=e3
  obtain ⟨nsB,hnsB⟩:∃ x,x=unl (g0.toNat*256+4) (delK ns1 g0):=⟨_,rfl⟩
  rw [← hnsB] at c7 c8 c9 c10 c11 d1 d2 d3 d4 d5 ⊢
  obtain ⟨ns2,hns2⟩:∃ x,x=setN ns1 k (dgt p 1) 0:=⟨_,rfl⟩
  rw [← hns2] at c11 ⊢
  have hkl:k<ns1.length:=fnd_lt c3
  have hasc2:ascN ns2:=by rw [hns2];exact setN_asc b1.asc hkl
  have hfk2:fnd ns2 f=some k:=by rw [hns2,fnd_set hkl];exact c3
  have hmid:(gn nsB (lsT (r,nsB,ds) p).1).2=(gn ns2 k).2:=by
   have h1:Mof nsB f=some (gn ns2 k).2:=by
    rw [c11,Mof_kp hasc2,if_neg (by simpa using c4)]
    exact Mof_some.2 ⟨k,hfk2,rfl⟩
   rw [d4] at h1
   simpa using h1
  unfold clrR
  rw [d3,hmid,hg0]
  by_cases hz2:(gn ns2 k).2=zs8
  ·rw [if_pos hz2,if_pos hz2]
   have hzB:Mof nsB f=some zs8:=by rw [d4,hmid,hz2]
   obtain ⟨f',k',i1,i2,i3,i4,i5,i6,i7,i8,i9,i10,i11⟩:=round c8 c9 hp c10 (by omega) (zs_leaf hzB)
   have hfr:f'=r:=by
    rw [show 1 - 1=0 from rfl] at i1
    simp only [frP,Option.some.injEq] at i1
    exact i1.symm
   subst hfr
   simp only [clrR]
   have hfk:(gn ns1 k).1=f:=fnd_frame c3
   rw [hfk]
   refine ⟨?_,rfl⟩
   have hk2:n2<ns2.length:=by rw [hns2,setN_len,hns1,setN_len];exact fnd_lt q2
   have hasc3:ascN (setN ns2 n2 (dgt p 2) 0):=setN_asc hasc2 hk2
   have hr2:fnd ns2 f'=some n2:=by rw [hns2,fnd_set hkl,hfnd];exact q2
   have hg0r:g0≠f':=by
    intro e
    have:=h.vm.inj _ _ _ _ (Pos2 (q:=p/8) (by omega)) Pos0 g0 f0 (by rw [e];rfl)
    omega
   refine ext_asc i8.asc (kpF_asc hasc3) fun x=>?_
   rw [i7,Mof_kp hasc3,Mof_set hasc2 hr2]
   unfold updM1
   rw [show Mof nsB=fun x=>if x∈[g0] then none else Mof ns2 x from Mof_ext fun x=>by rw [c11,Mof_kp hasc2]]
   unfold updW
   by_cases x1:x=f
   ·simp [x1]
   ·by_cases x2:x=f'
    ·subst x2
     have:¬ x=g0:=fun e=>hg0r e.symm
     simp [x1,this]
    ·simp [x1,x2]
  ·rw [if_neg hz2,if_neg hz2]
   exact ⟨c11,rfl⟩
 ·rw [if_neg hz,if_neg hz]
  exact ⟨kpF_nil.symm,rfl⟩
end Go.AM
namespace Go.AM
open Go Go.Proofs
section
variable {M M':Mm} {root:Int} {p p':Nat}
theorem frP1 (hp:p<512):frP WA M root 1 (p/64)=tabW (wM M root (p/64)):=by
 simp only [frP,Option.bind_some]
 rw [show p/64%8=p/64 by omega];rfl
theorem frP2:frP WA M root 2 (p/8)=(frP WA M root 1 (p/64)).bind fun f=>tabW (wM M f (p/8%8)):=by
 show (frP WA M root 1 (p/8/8)).bind _=_
 rw [show p/8/8=p/64 by omega]
 rfl
theorem posL (hp:p<512) {l:Nat} (hl:l≤2):(2 - l,p/8^(l+1))∈Pos:=by
 rcases (by omega:l=0∨l=1∨l=2) with rfl|rfl|rfl<;>rw [mem_Pos]<;>simp<;>omega
theorem wlk_same (hp:p<512) (h:∀ l,l≤2→∀ f,frP WA M root (2 - l) (p/8^(l+1))=some f→wM M' f (dgt p l)=wM M f (dgt p l)):wlk M' root p=wlk M root p:=by
 have h2:wM M' root (p/64)=wM M root (p/64):=by
  have:=h 2 (by omega) root rfl
  rwa [dgt2 hp] at this
 have h1:∀ f,frP WA M root 1 (p/64)=some f→wM M' f (p/8%8)=wM M f (p/8%8):=fun f hf=>by
  have:=h 1 (by omega) f (by rw [show p/8^(1+1)=p/64 by simp];exact hf)
  rwa [dgt1] at this
 have h0:∀ f,frP WA M root 2 (p/8)=some f→wM M' f (p%8)=wM M f (p%8):=fun f hf=>by
  have:=h 0 (by omega) f (by rw [show p/8^(0+1)=p/8 by simp];exact hf)
  rwa [dgt0] at this
 have e1:frP WA M' root 1 (p/64)=frP WA M root 1 (p/64):=by rw [frP1 hp,frP1 hp,h2]
 have e2:frP WA M' root 2 (p/8)=frP WA M root 2 (p/8):=by
  rw [frP2,frP2,e1]
  cases hx:frP WA M root 1 (p/64) with
  | none=>rfl
  | some f=>simp only [Option.bind_some];rw [h1 f hx]
 unfold wlk
 rw [e2,e1]
 cases hx:frP WA M root 2 (p/8) with
 | some f=>simp only;rw [h0 f hx]
 | none =>
  simp only
  cases hy:frP WA M root 1 (p/64) with
  | some f=>simp only;rw [h1 f hy]
  | none=>simp only;rw [h2]
theorem cell_ne {l:Nat} (h1:p'/8^(l+1)=p/8^(l+1)) (hd:dgt p' l=dgt p l):p'/8^l=p/8^l:=by
 unfold dgt at hd
 rw [Nat.pow_succ,← Nat.div_div_eq_div_mul,← Nat.div_div_eq_div_mul] at h1
 omega
theorem wlk_put_ne (hV:VM WA M root) (hp:p<512) {f:Int} {l w0 w:Nat} (hw:wlk M root p=(f,l,w0)) (hM:M'=updW M f (dgt p l) w) (hp':p'<512) (hne:p'/8^l≠p/8^l):wlk M' root p'=wlk M root p':=by
 obtain ⟨a1,a2,a3,a4,a5,a6⟩:=wlk_at hV hp hw
 obtain ⟨ws,c1,c2,_⟩:=hV.nd _ _ a2 f a3
 refine wlk_same hp' fun l' hl' f' hf'=>?_
 rw [hM,wM_updW c1 (by have:=dgt_lt p l;omega),if_neg]
 rintro ⟨rfl,hd⟩
 obtain ⟨i1,i2⟩:=hV.inj _ _ _ _ (posL hp' hl') a2 _ hf' a3
 obtain rfl:l'=l:=by omega
 exact hne (cell_ne i2 hd)
theorem wlk_grow_ne (hV:VM WA M root) (hp:p<512) {f:Int} {l w x:Nat} {g:Int} (hw:wlk M root p=(f,l,w)) (hg:M g=none) (hM:M'=updM1 (updW M f (dgt p l) x) g (some zs8)) (hp':p'<512) (hne:p'/8^l≠p/8^l):wlk M' root p'=wlk M root p':=by
 obtain ⟨a1,a2,a3,a4,a5,a6⟩:=wlk_at hV hp hw
 obtain ⟨ws,c1,c2,_⟩:=hV.nd _ _ a2 f a3
 refine wlk_same hp' fun l' hl' f' hf'=>?_
 obtain ⟨ws',c1',_⟩:=hV.nd _ _ (posL hp' hl') f' hf'
 rw [hM,wM_updM1,if_neg (by rintro rfl;rw [hg] at c1';cases c1'),wM_updW c1 (by have:=dgt_lt p l;omega),if_neg]
 rintro ⟨rfl,hd⟩
 obtain ⟨i1,i2⟩:=hV.inj _ _ _ _ (posL hp' hl') a2 _ hf' a3
 obtain rfl:l'=l:=by omega
 exact hne (cell_ne i2 hd)
theorem hugW_tab {x:Nat} {f:Int} (h:tabW x=some f):hugW x=false:=by
 obtain ⟨h1,h2,h3⟩:=tabW_inv h
 unfold hugW
 rw [h3,decR_tw (by omega)]
 rfl
theorem hugB_wlk (hV:VM WA M root) {g:Nat} (hg:g<64) {f:Int} {l w:Nat} (hw:wlk M root (g*8)=(f,l,w)):hugB M root g=(decide (l=1)&&hugW w):=by
 have hp:g*8<512:=by omega
 obtain ⟨a1,a2,a3,a4,a5,a6⟩:=wlk_at hV hp hw
 have e1:g*8/64=g/8:=by omega
 have e2:g*8/8=g:=by omega
 rcases (by omega:l=0∨l=1∨l=2) with rfl|rfl|rfl
 ·rw [show g*8/8^(0+1)=g*8/8 by simp] at a3
  have a3':frP WA M root 2 (g*8/8)=some f:=a3
  rw [frP2,e1,e2] at a3'
  unfold hugB
  cases hx:frP WA M root 1 (g/8) with
  | none=>rfl
  | some f1 =>
   rw [hx] at a3'
   simp only [Option.bind_some] at a3'
   simp only
   rw [hugW_tab a3'];rfl
 ·rw [show g*8/8^(1+1)=g*8/64 by simp,e1] at a3
  have a3':frP WA M root 1 (g/8)=some f:=a3
  rw [dgt1,e2] at a4
  unfold hugB
  rw [a3']
  simp only
  rw [← a4];simp
 ·have a3':frP WA M root 0 (g*8/8^(2+1))=some f:=a3
  simp only [frP,Option.some.injEq] at a3'
  subst a3'
  rw [dgt2 hp] at a4
  have:frP WA M root 1 (g/8)=none:=by rw [← e1,frP1 hp,← a4,a5]
  unfold hugB
  rw [this];rfl
end
end Go.AM
namespace Go.AM
open Go Go.Proofs
section
variable {M M':Mm} {root:Int} {p p':Nat}
theorem cell_up {l:Nat} (h:p'/8^l=p/8^l):p'/8^(l+1)=p/8^(l+1)∧dgt p' l=dgt p l:=by
 refine ⟨?_,by unfold dgt;rw [h]⟩
 rw [Nat.pow_succ,← Nat.div_div_eq_div_mul,← Nat.div_div_eq_div_mul,h]
theorem wlk_cell (hV:VM WA M root) (hp:p<512) {f:Int} {l w:Nat} (hw:wlk M root p=(f,l,w)) (hp':p'<512) (he:p'/8^l=p/8^l):wlk M root p'=(f,l,w):=by
 obtain ⟨a1,a2,a3,a4,a5,a6⟩:=wlk_at hV hp hw
 obtain ⟨c1,c2⟩:=cell_up he
 have:=wlk_of (M:=M) (root:=root) hp' a1 (f:=f) (by rw [c1];exact a3) (.inl (by rw [c2,← a4];exact a5))
 rw [this,c2,← a4]
theorem wlk_grow_eq (hV':VM WA M' root) (hp:p<512) {l:Nat} {g:Int} (hw:wlk M' root p=(g,l,0)) (hg:M' g=some zs8) (hp':p'<512) (he:p'/8^(l+1)=p/8^(l+1)):wlk M' root p'=(g,l,0):=by
 obtain ⟨a1,a2,a3,a4,a5,a6⟩:=wlk_at hV' hp hw
 have hz:wM M' g (dgt p' l)=0:=by unfold wM;rw [hg];exact zs8_getD _
 have:=wlk_of (M:=M') (root:=root) hp' a1 (f:=g) (by rw [he];exact a3) (.inl (by rw [hz];exact tab0))
 rw [this,hz]
end
theorem hugW_0:hugW 0=false:=by unfold hugW;rw [decR_0];rfl
theorem hugM_congr {M M':Mm} {root:Int} (h:∀ k,k<64→hugB M' root k=hugB M root k):hugM M' root=hugM M root:=by
 unfold hugM
 congr 1
 exact List.filter_congr fun k hk=>h k (List.mem_range.1 hk)
theorem vt_grow {r:Int} {ns:NdL} {ds:List Dp} (hv:Vt (r,ns,ds)) (ht:tbOK (r,ns,ds)) {p:Nat} (hp:p<512) {g:Nat} (hg:g≤4294967295) (hn:∀ n∈ns,n.1≠(g:Int)) (hd:∀ d∈ds,d.2≠(g:Int)) {f:Int} {l:Nat} (hw:wlk (Mof ns) r p=(f,l+1,0)) (hlen:ns.length<1000000) :
  Vt (r,stD r ds p ns g,ds)∧tbOK (r,stD r ds p ns g,ds)∧wlk (Mof (stD r ds p ns g)) r p=((g:Int),l,0)∧(stD r ds p ns g).length=ns.length+1 ∧
  ∀ p',p'<512→(wlk (Mof (stD r ds p ns g)) r p').2.2=(wlk (Mof ns) r p').2.2:=by
 obtain ⟨d1,d2,d3,d4,d5,d6⟩:=hv.pv.grow ht hp hg hn hw hlen
 obtain ⟨N,hN⟩:∃ N,N=stD r ds p ns g:=⟨_,rfl⟩
 rw [← hN] at d1 d2 d3 d4 d5 d6 ⊢
 have hMg:Mof ns g=none:=(Mof_none hv.num.asc).2 hn
 have hMf:Mof N g=some zs8:=by rw [d3];simp [updM1]
 have hne:=fun p' (hp':p'<512) (h:p'/8^(l+1)≠p/8^(l+1))=>wlk_grow_ne hv.vm hp hw hMg d3 hp' h
 have heq:=fun p' (hp':p'<512) (h:p'/8^(l+1)=p/8^(l+1))=>wlk_grow_eq d1.vm hp d4 hMf hp' h
 have heq0:=fun p' (hp':p'<512) (h:p'/8^(l+1)=p/8^(l+1))=>wlk_cell hv.vm hp hw hp' h
 refine ⟨⟨⟨fun n hn'=>?_,hv.num.df,d1.asc,hv.num.dasc,fun d hd' n hn'=>?_,hv.num.once,?_⟩,d1.vm,?_⟩,d2,d4,d5,fun p' hp'=>?_⟩
 ·rcases d6 n hn' with e|⟨m,hm,e⟩
  ·rw [e];exact ⟨by omega,by omega⟩
  ·rw [e];exact hv.num.fr m hm
 ·rcases d6 n hn' with e|⟨m,hm,e⟩
  ·rw [e];exact fun k=>hd d hd' k.symm
  ·rw [e];exact hv.num.apart d hd' m hm
 ·obtain ⟨ws,m1,_⟩:=d1.vm.nd 0 0 Pos0 r rfl
  exact ⟨(r,ws),(mem_Mof d1.asc).2 m1,rfl⟩
 ·have hdp:=hv.dep
  simp only at hdp ⊢
  rw [hdp]
  refine (hugM_congr fun k hk=>?_).symm
  have hk8:k*8<512:=by omega
  by_cases h:k*8/8^(l+1)=p/8^(l+1)
  ·rw [hugB_wlk d1.vm hk (heq _ hk8 h),hugB_wlk hv.vm hk (heq0 _ hk8 h),hugW_0]
   simp
  ·obtain ⟨f',l',w',hwk⟩:∃ f l w,wlk (Mof ns) r (k*8)=(f,l,w):=⟨_,_,_,rfl⟩
   rw [hugB_wlk d1.vm hk ((hne _ hk8 h).trans hwk),hugB_wlk hv.vm hk hwk]
 ·by_cases h:p'/8^(l+1)=p/8^(l+1)
  ·rw [heq _ hp' h,heq0 _ hp' h]
  ·rw [hne _ hp' h]
theorem vt_put {r:Int} {ns:NdL} {ds:List Dp} (hv:Vt (r,ns,ds)) (ht:tbOK (r,ns,ds)) {p:Nat} (hp:p<512) {f:Int} {l w0 w:Nat} (hw:wlk (Mof ns) r p=(f,l,w0)) (h0:hugW w0=false) (hw64:w<2^64) (htb:tabW w=none) (hok:okWb l w=true) (hh:hugW w=false) :
  Vt (r,(putT (r,ns,ds) p w).2.1,ds)∧tbOK (r,(putT (r,ns,ds) p w).2.1,ds)∧wlk (Mof (putT (r,ns,ds) p w).2.1) r p=(f,l,w)∧(putT (r,ns,ds) p w).2.1.length=ns.length ∧
  ∀ p',p'<512→p'/8^l≠p/8^l→wlk (Mof (putT (r,ns,ds) p w).2.1) r p'=wlk (Mof ns) r p':=by
 obtain ⟨c1,c2,c3,c4,c5⟩:=hv.pv.put ht hp hw hw64 htb hok
 have c6:=wlk_put_self hv.vm hp hw htb c3 c4
 have hnl:=(lsT_lt hv.pv hp).1
 have hfr:∀ n∈(putT (r,ns,ds) p w).2.1,∃ m∈ns,m.1=n.1:=fun n hn=>by
  rcases List.mem_or_eq_of_mem_set hn with h1|h1
  ·exact ⟨n,h1,rfl⟩
  ·exact ⟨_,gn_mem hnl,by rw [h1];rfl⟩
 obtain ⟨N,hN⟩:∃ N,N=(putT (r,ns,ds) p w).2.1:=⟨_,rfl⟩
 rw [← hN] at c1 c2 c3 c4 c5 c6 hfr ⊢
 have hne:=fun p' (hp':p'<512) (h:p'/8^l≠p/8^l)=>wlk_put_ne hv.vm hp hw c3 hp' h
 refine ⟨⟨⟨fun n hn'=>?_,hv.num.df,c1.asc,hv.num.dasc,fun d hd' n hn'=>?_,hv.num.once,?_⟩,c1.vm,?_⟩,c2,c6,c5,hne⟩
 ·obtain ⟨m,hm,e⟩:=hfr n hn'
  rw [← e];exact hv.num.fr m hm
 ·obtain ⟨m,hm,e⟩:=hfr n hn'
  rw [← e];exact hv.num.apart d hd' m hm
 ·obtain ⟨ws,m1,_⟩:=c1.vm.nd 0 0 Pos0 r rfl
  exact ⟨(r,ws),(mem_Mof c1.asc).2 m1,rfl⟩
 ·have hdp:=hv.dep
  simp only at hdp ⊢
  rw [hdp]
  refine (hugM_congr fun k hk=>?_).symm
  have hk8:k*8<512:=by omega
  by_cases h:k*8/8^l=p/8^l
  ·rw [hugB_wlk c1.vm hk (wlk_cell c1.vm hp c6 hk8 h),hugB_wlk hv.vm hk (wlk_cell hv.vm hp hw hk8 h),hh,h0]
  ·obtain ⟨f',l',w',hwk⟩:∃ f l w,wlk (Mof ns) r (k*8)=(f,l,w):=⟨_,_,_,rfl⟩
   rw [hugB_wlk c1.vm hk ((hne _ hk8 h).trans hwk),hugB_wlk hv.vm hk hwk]
theorem vt_deep {r:Int} {ns:NdL} {ds:List Dp} (hv:Vt (r,ns,ds)) (ht:tbOK (r,ns,ds)) {p:Nat} (hp:p<512) {fs:List Int} (hu:usB ns ds fs=true) (hlen:ns.length≤999000) {f:Int} {l:Nat} (hw:wlk (Mof ns) r p=(f,l,0)):∀ i,i≤fs.length→i≤l →
  Vt (r,dpN r ds p ns (fs.take i),ds)∧tbOK (r,dpN r ds p ns (fs.take i),ds)∧(∃ f',wlk (Mof (dpN r ds p ns (fs.take i))) r p=(f',l - i,0))∧(dpN r ds p ns (fs.take i)).length=ns.length+i ∧
  (∀ n∈dpN r ds p ns (fs.take i),(∃ m∈ns,n.1=m.1)∨∃ j,j<i∧n.1=gi fs j)∧∀ p',p'<512→(wlk (Mof (dpN r ds p ns (fs.take i))) r p').2.2=(wlk (Mof ns) r p').2.2
 | 0,_,_=>⟨by rw [dpN_0];exact hv,by rw [dpN_0];exact ht,⟨f,by rw [dpN_0];exact hw⟩,by rw [dpN_0];rfl,fun n hn=>.inl ⟨n,by rw [dpN_0] at hn;exact hn,rfl⟩,fun p' _=>by rw [dpN_0]⟩
 | i+1,hi,hil=>by
  have hl2:=(wlk_at hv.vm hp hw).1
  obtain ⟨h1,h2,⟨f',h3⟩,h4,h5,h6⟩:=vt_deep hv ht hp hu hlen hw i (by omega) (by omega)
  obtain ⟨⟨g0,g1⟩,u2,u3,u4⟩:=usB_iff.1 hu i (by omega)
  obtain ⟨g,hg⟩:=Int.eq_ofNat_of_zero_le g0
  rw [dpN_s (by omega)]
  rw [hg] at g1 u2 u3 u4 ⊢
  obtain ⟨L,hL⟩:∃ L,l - i=L+1:=⟨l - i - 1,by omega⟩
  rw [hL] at h3
  have hnew:∀ n∈dpN r ds p ns (fs.take i),n.1≠(g:Int):=fun n hn e=>by
   rcases h5 n hn with ⟨m,hm,k⟩|⟨j,hj,k⟩
   ·exact u2 m hm (by rw [← k];exact e)
   ·exact u4 j hj (by rw [← k];exact e)
  have hdn:∀ d∈ds,d.2≠(g:Int):=fun d hd=>by
   obtain ⟨k,hk,rfl⟩:=List.getElem_of_mem hd
   rw [← gp_eq hk];exact u3 k hk
  obtain ⟨_,_,_,_,_,k6⟩:=h1.pv.grow h2 hp (g:=g) (by omega) hnew h3 (by omega)
  obtain ⟨k1,k2,k3,k4,k5⟩:=vt_grow h1 h2 hp (g:=g) (by omega) hnew hdn h3 (by omega)
  refine ⟨k1,k2,⟨_,by rw [show l - (i+1)=L by omega];exact k3⟩,by rw [k4,h4];omega,fun n hn=>?_,fun p' hp'=>by rw [k5 p' hp',h6 p' hp']⟩
  rcases k6 n hn with e|⟨m,hm,e⟩
  ·exact .inr ⟨i,by omega,by rw [e,hg]⟩
  ·rcases h5 m hm with ⟨m2,hm2,k⟩|⟨j,hj,k⟩
   ·exact .inl ⟨m2,hm2,by rw [e,k]⟩
   ·exact .inr ⟨j,by omega,by rw [e,k]⟩
theorem set_vt {r:Int} {ns:NdL} {ds:List Dp} (ht:tbOK (r,ns,ds)) (hl9:ns.length≤999000) {p:Int} {w:Nat} (hw64:w<2^64) {fs:List Int} {u:Tb} (h:setP (r,ns,ds) p w fs=(u,0)) :
  ∃ (q:Nat) (f f':Int),p=q∧q<512∧Vt (r,ns,ds)∧(decR w).2=0∧hugW w=false∧tabW w=none∧w≠0∧wlk (Mof ns) r q=(f,fs.length,0)∧usB ns ds fs=true ∧
   u=(r,(putT (r,dpN r ds q ns fs,ds) q w).2.1,ds)∧Vt u∧tbOK u∧u.2.1.length=ns.length+fs.length∧wlk (Mof u.2.1) r q=(f',0,w) ∧
   ∀ p',p'<512→p'≠q→(wlk (Mof u.2.1) r p').2.2=(wlk (Mof ns) r p').2.2:=by
 unfold setP at h
 split at h
 ·rename_i hk;simp only [Prod.mk.injEq] at h;exact absurd h.2 hk
 rename_i hk
 obtain ⟨hpv,hp0,hp1⟩:=ckd_pt ht hk
 have hv:=ckd_vt ht hk
 obtain ⟨q,rfl⟩:=Int.eq_ofNat_of_zero_le hp0
 have hq:q<512:=by omega
 split at h
 ·simp at h
 rename_i he
 rw [Int.toNat_natCast] at h
 split at h
 ·simp at h
 rename_i h0
 split at h
 ·rename_i hc
  simp only [Prod.mk.injEq,and_true] at h
  obtain ⟨hlf,hu⟩:=hc
  have hls:=(hpv.walk hq).2.2
  simp only at hls h0 hlf hu h
  obtain ⟨f,l,w0,hw⟩:∃ f l w,wlk (Mof ns) r q=(f,l,w):=⟨_,_,_,rfl⟩
  rw [hw] at hls
  rw [hls] at hlf h0
  simp only at hlf h0
  obtain rfl:w0=0:=by omega
  have hl2:=(wlk_at hpv.vm hq hw).1
  obtain ⟨d1,d2,⟨f',d3⟩,d4,d5,d6⟩:=vt_deep hv ht hq hu hl9 hw fs.length (Nat.le_refl _) (by omega)
  rw [List.take_length] at d1 d2 d3 d4 d5 d6
  rw [show l - fs.length=0 by omega] at d3
  have hd0:(decR w).2=0:=by
   by_cases k:(decR w).2=0
   ·exact k
   ·exact absurd (.inl k) he
  have hfl:(decR w).1.2.2.2.2.2=false:=by
   cases k:(decR w).1.2.2.2.2.2
   ·rfl
   ·exact absurd (.inr (.inr (.inr k))) he
  have hk4:(decR w).1.1≠4:=fun k=>he (.inr (.inr (.inl k)))
  have hk0:(decR w).1.1≠0:=fun k=>he (.inr (.inl k))
  have hhw:hugW w=false:=by unfold hugW;rw [hfl];simp
  have htb:tabW w=none:=by unfold tabW;rw [if_neg hk4]
  have hw0:w≠0:=fun k=>hk0 (by rw [k,decR_0];rfl)
  have hok:okWb 0 w=true:=by
   unfold okWb suitB
   rw [hd0,if_neg hk0,if_neg hk4,hfl]
   by_cases k1:(decR w).1.1=1<;>simp [k1]
  obtain ⟨e1,e2,e3,e4,e5⟩:=vt_put d1 d2 hq d3 hugW_0 hw64 htb hok hhw
  have hu':u=(r,(putT (r,dpN r ds q ns fs,ds) q w).2.1,ds):=h.symm
  refine ⟨q,f,f',rfl,hq,hv,hd0,hhw,htb,hw0,by rw [hw,hlf],hu,hu',?_⟩
  rw [hu']
  refine ⟨e1,e2,by show (putT _ _ _).2.1.length=_;rw [e4,d4],e3,fun p' hp' hne=>?_⟩
  show (wlk (Mof (putT _ _ _).2.1) r p').2.2=_
  rw [e5 p' hp' (by simpa using hne),d6 p' hp']
 ·simp at h
end Go.AM
namespace Go.AM
open Go Go.Proofs
section
variable {M M':Mm} {root:Int} {p p':Nat}
theorem wlk_prune_ne (hV:VM WA M root) (hp:p<512) {f g:Int} {l w:Nat} (hw:wlk M root p=(g,l,w)) (hl:l<2) (hx:(1 - l,p/8^(l+2))∈Pos) (hf:frP WA M root (1 - l) (p/8^(l+2))=some f) (hM:M'=updM1 (updW M f (dgt p (l+1)) 0) g none) (hp':p'<512) (hne:p'/8^(l+1)≠p/8^(l+1)):wlk M' root p'=wlk M root p':=by
 obtain ⟨a1,a2,a3,a4,a5,a6⟩:=wlk_at hV hp hw
 obtain ⟨ws,c1,c2,_⟩:=hV.nd _ _ hx f hf
 refine wlk_same hp' fun l' hl' f' hf'=>?_
 have hg':f'≠g:=by
  rintro rfl
  obtain ⟨i1,i2⟩:=hV.inj _ _ _ _ (posL hp' hl') a2 _ hf' a3
  obtain rfl:l'=l:=by omega
  exact hne i2
 rw [hM,wM_updM1,if_neg hg',wM_updW c1 (by have:=dgt_lt p (l+1);omega),if_neg]
 rintro ⟨rfl,hd⟩
 obtain ⟨i1,i2⟩:=hV.inj _ _ _ _ (posL hp' hl') hx _ hf' hf
 obtain rfl:l'=l+1:=by omega
 exact hne (cell_ne i2 hd)
end
theorem vt_round {r:Int} {ns:NdL} {ds:List Dp} (hv:Vt (r,ns,ds)) (ht:tbOK (r,ns,ds)) {p:Nat} (hp:p<512) {g:Int} {l w:Nat} (hw:wlk (Mof ns) r p=(g,l,w)) (hl:l<2) (hz:Mof ns g=some zs8) :
  Vt (r,unl (g.toNat*256+4) (delK ns g),ds)∧tbOK (r,unl (g.toNat*256+4) (delK ns g),ds)∧(∃ f,frP WA (Mof ns) r (1 - l) (p/8^(l+2))=some f∧f≠g∧wlk (Mof (unl (g.toNat*256+4) (delK ns g))) r p=(f,l+1,0)∧Mof (unl (g.toNat*256+4) (delK ns g))=updM1 (updW (Mof ns) f (dgt p (l+1)) 0) g none) ∧
  (∀ n∈unl (g.toNat*256+4) (delK ns g),∃ m∈ns,m.1=n.1)∧(∀ p',p'<512→(wlk (Mof (unl (g.toNat*256+4) (delK ns g))) r p').2.2=(wlk (Mof ns) r p').2.2) ∧
  ∀ d q,(d,q)∈Pos→∀ x,frP WA (Mof (unl (g.toNat*256+4) (delK ns g))) r d q=some x→frP WA (Mof ns) r d q=some x:=by
 obtain ⟨f,k,c1,c2,c3,c4,c5,c6,c7,c8,c9,c10,c11⟩:=round hv.pv ht hp hw hl (zs_leaf hz)
 have hasc2:ascN (unl (g.toNat*256+4) (delK ns g)):=c8.asc
 have hfr:∀ n∈unl (g.toNat*256+4) (delK ns g),∃ m∈ns,m.1=n.1:=fun n hn=>by
  obtain ⟨m,hm,rfl⟩:=List.mem_map.1 hn
  exact ⟨m,(mem_delK.1 hm).1,rfl⟩
 obtain ⟨N,hN⟩:∃ N,N=unl (g.toNat*256+4) (delK ns g):=⟨_,rfl⟩
 rw [← hN] at c7 c8 c9 c10 hfr hasc2 ⊢
 have hx:(1 - l,p/8^(l+2))∈Pos:=by
  have:=posL hp (l:=l+1) (by omega)
  rwa [show 2 - (l+1)=1 - l by omega] at this
 have hw0:w=0:=by
  obtain ⟨a1,a2,a3,a4,a5,a6⟩:=wlk_at hv.vm hp hw
  rw [a4];unfold wM;rw [hz];exact zs8_getD _
 subst hw0
 have hne:=fun p' (hp':p'<512) (h:p'/8^(l+1)≠p/8^(l+1))=>wlk_prune_ne hv.vm hp hw hl hx c1 c7 hp' h
 have heq0:=fun p' (hp':p'<512) (h:p'/8^(l+1)=p/8^(l+1))=>wlk_grow_eq hv.vm hp hw hz hp' h
 have heq:=fun p' (hp':p'<512) (h:p'/8^(l+1)=p/8^(l+1))=>wlk_cell c8.vm hp c10 hp' h
 refine ⟨⟨⟨fun n hn'=>?_,hv.num.df,hasc2,hv.num.dasc,fun d hd' n hn'=>?_,hv.num.once,?_⟩,c8.vm,?_⟩,c9,⟨f,c1,c4,c10,c7⟩,hfr,fun p' hp'=>?_,fun d q hq x hxx=>?_⟩
 ·obtain ⟨m,hm,e⟩:=hfr n hn'
  rw [← e];exact hv.num.fr m hm
 ·obtain ⟨m,hm,e⟩:=hfr n hn'
  rw [← e];exact hv.num.apart d hd' m hm
 ·obtain ⟨ws,m1,_⟩:=c8.vm.nd 0 0 Pos0 r rfl
  exact ⟨(r,ws),(mem_Mof c8.asc).2 m1,rfl⟩
 ·have hdp:=hv.dep
  simp only at hdp ⊢
  rw [hdp]
  refine (hugM_congr fun k hk=>?_).symm
  have hk8:k*8<512:=by omega
  by_cases h:k*8/8^(l+1)=p/8^(l+1)
  ·rw [hugB_wlk c8.vm hk (heq _ hk8 h),hugB_wlk hv.vm hk (heq0 _ hk8 h),hugW_0]
   simp
  ·obtain ⟨f',l',w',hwk⟩:∃ f l w,wlk (Mof ns) r (k*8)=(f,l,w):=⟨_,_,_,rfl⟩
   rw [hugB_wlk c8.vm hk ((hne _ hk8 h).trans hwk),hugB_wlk hv.vm hk hwk]
 ·by_cases h:p'/8^(l+1)=p/8^(l+1)
  ·rw [heq _ hp' h,heq0 _ hp' h]
  ·rw [hne _ hp' h]
 ·have hpr:=hv.vm.prune hx (by omega) c1 (dgt_lt p (l+1)) (w:=0) c2 (zs_leaf hz) tab0 (ok0 (2 - (1 - l)))
  rw [c7,hpr.2 d q hq] at hxx
  split at hxx
  ·simp at hxx
  ·exact hxx
theorem clrR_vt {r:Int} {ds:List Dp} {p:Nat} (hp:p<512):∀ (k:Nat) {ns:NdL} (hv:Vt (r,ns,ds)) (ht:tbOK (r,ns,ds)) {g:Int} {l:Nat} (hw:wlk (Mof ns) r p=(g,l,0)) (hk:l+k=2),
  Vt (r,(clrR r ds p k ns).1,ds)∧tbOK (r,(clrR r ds p k ns).1,ds)∧(∃ g' l',wlk (Mof (clrR r ds p k ns).1) r p=(g',l',0)∧(l'=2∨Mof (clrR r ds p k ns).1 g'≠some zs8)) ∧
  (∀ n∈(clrR r ds p k ns).1,∃ m∈ns,m.1=n.1)∧(∀ p',p'<512→(wlk (Mof (clrR r ds p k ns).1) r p').2.2=(wlk (Mof ns) r p').2.2) ∧
  ∀ d q,(d,q)∈Pos→∀ x,frP WA (Mof (clrR r ds p k ns).1) r d q=some x→frP WA (Mof ns) r d q=some x
 | 0,ns,hv,ht,g,l,hw,hk=>⟨hv,ht,⟨g,l,hw,.inl (by omega)⟩,fun n hn=>⟨n,hn,rfl⟩,fun _ _=>rfl,fun _ _ _ _ h=>h⟩
 | k+1,ns,hv,ht,g,l,hw,hk=>by
  obtain ⟨e1,e2,e3,e4,e5⟩:=end_nd hv.pv hp hw
  unfold clrR
  by_cases hz:(gn ns (lsT (r,ns,ds) p).1).2=zs8
  ·rw [if_pos hz]
   simp only
   rw [e3]
   rw [hz] at e4
   obtain ⟨v1,v2,⟨f,v3,v4,v5,v6⟩,v7,v8,v9⟩:=vt_round hv ht hp hw (by omega) e4
   obtain ⟨u1,u2,u3,u4,u5,u6⟩:=clrR_vt hp k v1 v2 v5 (by omega)
   refine ⟨u1,u2,u3,fun n hn=>?_,fun p' hp'=>by rw [u5 p' hp',v8 p' hp'],fun d q hq x hx=>v9 d q hq x (u6 d q hq x hx)⟩
   obtain ⟨m,hm,em⟩:=u4 n hn
   obtain ⟨m2,hm2,em2⟩:=v7 m hm
   exact ⟨m2,hm2,em2.trans em⟩
  ·rw [if_neg hz]
   refine ⟨hv,ht,⟨g,l,hw,.inr ?_⟩,fun n hn=>⟨n,hn,rfl⟩,fun _ _=>rfl,fun _ _ _ _ h=>h⟩
   simp only
   rw [e4]
   simpa using hz
theorem ok_hug0 {w:Nat} (h:okWb 0 w=true):hugW w=false:=by
 unfold okWb suitB at h
 unfold hugW
 by_cases h0:(decR w).1.1=0
 ·simp [h0]
 ·by_cases h4:(decR w).1.1=4
  ·simp [h4]
  ·by_cases h1:(decR w).1.1=1
   ·simp [h1] at h
    simp [h.2]
   ·simp [h1]
theorem updW_back {M:Mm} {f:Int} {i w:Nat} {ws:List Nat} (h:M f=some ws) (hi:i<ws.length) (h0:wM M f i=0):updW (updW M f i w) f i 0=M:=by
 funext x
 unfold updW
 by_cases e:x=f
 ·subst e
  simp only [if_true,h,Option.map_some,List.set_set]
  congr 1
  unfold wM at h0
  rw [h] at h0
  simp only at h0
  refine List.ext_getElem (by simp) fun j h1 h2=>?_
  rw [List.getElem_set]
  split
  ·rename_i e2;subst e2
   rw [List.getD_eq_getElem?_getD,List.getElem?_eq_getElem h2] at h0
   exact h0.symm
  ·rfl
 ·simp [e]
theorem clr_at {r:Int} {ns:NdL} {ds:List Dp} (hv:Vt (r,ns,ds)) (ht:tbOK (r,ns,ds)) {p:Nat} (hp:p<512) {f:Int} {w:Nat} (hw:wlk (Mof ns) r p=(f,0,w)) (h0:w≠0) :
  clrP (r,ns,ds) (p:Int)=((r,(clrR r ds p 2 (putT (r,ns,ds) p 0).2.1).1,ds),w,(clrR r ds p 2 (putT (r,ns,ds) p 0).2.1).2,0):=by
 have hck:ckd (r,ns,ds) (p:Int) 512=0:=ckd_z ((chk_iff ht).2 hv) (by omega) (by omega)
 have hls:=(hv.pv.walk hp).2.2
 simp only at hls
 rw [hw] at hls
 have hl:(lsT (r,ns,ds) p).2.1=0:=by rw [hls]
 have hw2:(lsT (r,ns,ds) p).2.2=w:=by rw [hls]
 obtain ⟨k1,k2⟩:=clr_0 hv.pv ht hp hl
 have hst:(putT (r,ns,ds) p 0).2.1=setN ns (lsT (r,ns,ds) p).1 (dgt p 0) 0:=by unfold putT;simp only [hl]
 unfold clrP
 rw [if_neg (by simp [hck]),Int.toNat_natCast,hw2,if_neg h0]
 have ha:clrA (r,ns,ds) p=(clrL p ns (ptL (r,ns,ds) p).reverse).2:=by unfold clrA clrF;rw [if_neg (by omega)];rfl
 have hd:clrD (r,ns,ds) p=ds:=by unfold clrD;rw [if_neg (by omega)]
 rw [ha,hd,hst,k1,k2]
theorem clr_vt {r:Int} {ns:NdL} {ds:List Dp} (hv:Vt (r,ns,ds)) (ht:tbOK (r,ns,ds)) {p:Nat} (hp:p<512) {f:Int} {w:Nat} (hw:wlk (Mof ns) r p=(f,0,w)) (h0:w≠0) :
  ∃ N A,clrP (r,ns,ds) (p:Int)=((r,N,ds),w,A,0)∧Vt (r,N,ds)∧tbOK (r,N,ds)∧(∃ g' l',wlk (Mof N) r p=(g',l',0)∧(l'=2∨Mof N g'≠some zs8)) ∧
  (∀ n∈N,∃ m∈ns,m.1=n.1)∧(∀ p',p'<512→p'≠p→(wlk (Mof N) r p').2.2=(wlk (Mof ns) r p').2.2) ∧
  ∀ d q,(d,q)∈Pos→∀ x,frP WA (Mof N) r d q=some x→frP WA (Mof ns) r d q=some x:=by
 obtain ⟨a1,a2,a3,a4,a5,a6⟩:=wlk_at hv.vm hp hw
 obtain ⟨c1,c2,c3,c4,c5⟩:=vt_put hv ht hp hw (ok_hug0 a6) (w:=0) (by omega) tab0 (ok0 0) hugW_0
 obtain ⟨b1,b2,b3,b4,b5⟩:=hv.pv.put ht hp hw (w:=0) (by omega) tab0 (ok0 _)
 have hfr:∀ n∈(putT (r,ns,ds) p 0).2.1,∃ m∈ns,m.1=n.1:=fun n hn=>by
  rcases List.mem_or_eq_of_mem_set hn with h1|h1
  ·exact ⟨n,h1,rfl⟩
  ·exact ⟨_,gn_mem (lsT_lt hv.pv hp).1,by rw [h1];rfl⟩
 obtain ⟨u1,u2,u3,u4,u5,u6⟩:=clrR_vt hp 2 c1 c2 c3 rfl
 refine ⟨_,_,clr_at hv ht hp hw h0,u1,u2,u3,fun n hn=>?_,fun p' hp' hne=>?_,fun d q hq x hx=>?_⟩
 ·obtain ⟨m,hm,em⟩:=u4 n hn
  obtain ⟨m2,hm2,em2⟩:=hfr m hm
  exact ⟨m2,hm2,em2.trans em⟩
 ·rw [u5 p' hp',c5 p' hp' (by simpa using hne)]
 ·have:=u6 d q hq x hx
  rwa [b4 d q hq] at this
theorem clrR_back {r:Int} {ns:NdL} {ds:List Dp} (hv:Vt (r,ns,ds)) (ht:tbOK (r,ns,ds)) {p:Nat} (hp:p<512) {fs:List Int} (hu:usB ns ds fs=true) (hlen:ns.length≤999000) {f:Int} (hw:wlk (Mof ns) r p=(f,fs.length,0)) (hfull:∀ n∈ns,n.1=r∨n.2≠zs8) :
  ∀ i,i≤fs.length→∀ k,k+fs.length=2+i→clrR r ds p k (dpN r ds p ns (fs.take i))=(ns,(fs.take i).reverse)
 | 0,_,k,hk=>by
  rw [dpN_0]
  cases k with
  | zero=>rfl
  | succ k =>
   obtain ⟨e1,e2,e3,e4,e5⟩:=end_nd hv.pv hp hw
   obtain ⟨a1,a2,a3,a4,a5,a6⟩:=wlk_at hv.vm hp hw
   unfold clrR
   rw [if_neg]
   ·rfl
   ·intro hz
    rcases hfull _ (gn_mem e5) with h|h
    ·rw [e3] at h
     have:=hv.vm.inj _ _ _ _ a2 Pos0 _ a3 (by rw [h];rfl)
     omega
    ·exact h hz
 | i+1,hi,k,hk=>by
  have hl2:=(wlk_at hv.vm hp hw).1
  obtain ⟨h1,h2,⟨f',h3⟩,h4,h5,h6⟩:=vt_deep hv ht hp hu hlen hw i (by omega) (by omega)
  obtain ⟨⟨g0,g1⟩,u2,u3,u4⟩:=usB_iff.1 hu i (by omega)
  obtain ⟨k',rfl⟩:∃ k',k=k'+1:=⟨k - 1,by omega⟩
  have ih:=clrR_back hv ht hp hu hlen hw hfull i (by omega) k' (by omega)
  have htk:fs.take (i+1)=fs.take i++[gi fs i]:=by rw [List.take_add_one,List.getElem?_eq_getElem (by omega),gi_eq (by omega)];rfl
  rw [dpN_s (by omega),htk]
  obtain ⟨g,hg⟩:=Int.eq_ofNat_of_zero_le g0
  rw [hg] at g1 u2 u3 u4 ⊢
  obtain ⟨L,hL⟩:∃ L,fs.length - i=L+1:=⟨fs.length - i - 1,by omega⟩
  rw [hL] at h3
  have hnew:∀ n∈dpN r ds p ns (fs.take i),n.1≠(g:Int):=fun n hn e=>by
   rcases h5 n hn with ⟨m,hm,k⟩|⟨j,hj,k⟩
   ·exact u2 m hm (by rw [← k];exact e)
   ·exact u4 j hj (by rw [← k];exact e)
  obtain ⟨D,hD⟩:∃ D,D=dpN r ds p ns (fs.take i):=⟨_,rfl⟩
  rw [← hD] at h1 h2 h3 h4 hnew ih ⊢
  obtain ⟨d1,d2,d3,d4,d5,d6⟩:=h1.pv.grow h2 hp (g:=g) (by omega) hnew h3 (by omega)
  obtain ⟨a1,a2,a3,a4,a5,a6⟩:=wlk_at h1.vm hp h3
  have hDg:Mof D (g:Int)=none:=(Mof_none h1.num.asc).2 hnew
  have hgr:=h1.vm.grow (wdZ fun _=>true) a2 (by omega) a3 (i:=dgt p (L+1)) (w:=g*256+4) (dgt_lt p (L+1)) (by rw [← a4];exact a5) hDg (tabW_tw (by omega)) (by show okWb (2 - (2 - (L+1))) _=true;exact okWb_tw (by omega) (by omega))
  rw [← d3] at hgr
  obtain ⟨S,hS⟩:∃ S,S=stD r ds p D g:=⟨_,rfl⟩
  rw [← hS] at d1 d2 d3 d4 d5 d6 hgr ⊢
  have hSg:Mof S (g:Int)=some zs8:=by rw [d3];simp [updM1]
  obtain ⟨e1,e2,e3,e4,e5⟩:=end_nd d1 hp d4
  have hz:(gn S (lsT (r,S,ds) p).1).2=zs8:=by rw [hSg] at e4;simpa using e4.symm
  obtain ⟨f2,k2,c1,c2,c3,c4,c5,c6,c7,c8,c9,c10,c11⟩:=round d1 d2 hp d4 (by omega) (zs_leaf hSg)
  have hx:(1 - L,p/8^(L+2))∈Pos:=by
   have:=posL hp (l:=L+1) (by omega)
   rwa [show 2 - (L+1)=1 - L by omega] at this
  have hff:f2=f':=by
   rw [hgr.2 _ _ hx,if_neg (by omega),show 1 - L=2 - (L+1) by omega] at c1
   rw [show p/8^(L+2)=p/8^(L+1+1) from rfl,a3] at c1
   simpa using c1.symm
  subst hff
  have hback:unl ((g:Int).toNat*256+4) (delK S (g:Int))=D:=by
   refine ext_asc c8.asc h1.num.asc fun x=>?_
   rw [c7,d3]
   obtain ⟨ws,m1,m2,_⟩:=h1.vm.nd _ _ a2 _ a3
   by_cases hxg:x=(g:Int)
   ·rw [hxg,hDg];simp [updM1]
   ·have hb:=congrFun (updW_back (w:=g*256+4) m1 (i:=dgt p (L+1)) (by have:=dgt_lt p (L+1);omega) a4.symm) x
    rw [← hb]
    have hfg:f2≠(g:Int):=c4
    unfold updM1 updW
    simp only [if_neg hxg,if_neg hfg]
  unfold clrR
  rw [if_pos hz,e3,hback,ih]
  simp
theorem undo_plain {r:Int} {ns:NdL} {ds:List Dp} (ht:tbOK (r,ns,ds)) (hl9:ns.length≤999000) {p:Int} {w:Nat} (hw64:w<2^64) {fs:List Int} (hfull:∀ n∈ns,n.1=r∨n.2≠zs8) {u:Tb} (h:setP (r,ns,ds) p w fs=(u,0)) :
  tbOK u∧u.2.1.length=ns.length+fs.length∧clrP u p=((r,ns,ds),w,fs.reverse,0):=by
 obtain ⟨q,f,f',rfl,hq,hv,h1,h2,h3,h4,hw,hu,hue,v1,v2,v3,v4,v5⟩:=set_vt ht hl9 hw64 h
 have hl2:=(wlk_at hv.vm hq hw).1
 obtain ⟨d1,d2,⟨f2,d3⟩,d4,d5,d6⟩:=vt_deep hv ht hq hu hl9 hw fs.length (Nat.le_refl _) (Nat.le_refl _)
 rw [Nat.sub_self] at d3
 have hb:=clrR_back hv ht hq hu hl9 hw hfull fs.length (Nat.le_refl _) 2 rfl
 rw [List.take_length] at d1 d2 d3 d4 hb
 refine ⟨v2,v3,?_⟩
 obtain ⟨D,hD⟩:∃ D,D=dpN r ds q ns fs:=⟨_,rfl⟩
 rw [← hD] at d1 d2 d3 d4 hb hue
 have hok0:okWb 0 w=true:=by
  have hv1:=hue ▸ v1
  rw [hue] at v4
  exact (wlk_at hv1.vm hq v4).2.2.2.2.2
 obtain ⟨b1,b2,b3,b4,b5⟩:=d1.pv.put d2 hq d3 hw64 h3 hok0
 have b6:=wlk_put_self d1.vm hq d3 h3 b3 b4
 rw [hue] at v1 v2 v4 ⊢
 obtain ⟨U,hU⟩:∃ U,U=(putT (r,D,ds) q w).2.1:=⟨_,rfl⟩
 rw [← hU] at v1 v2 v4 b1 b2 b3 b6 ⊢
 obtain ⟨k1,k2,k3,k4,k5⟩:=v1.pv.put v2 hq b6 (w:=0) (by omega) tab0 (ok0 _)
 have hback:(putT (r,U,ds) q 0).2.1=D:=by
  refine ext_asc k1.asc d1.num.asc fun x=>?_
  rw [k3,b3]
  obtain ⟨a1,a2,a3,a4,a5,a6⟩:=wlk_at d1.vm hq d3
  obtain ⟨ws,m1,m2,_⟩:=d1.vm.nd _ _ a2 _ a3
  exact congrFun (updW_back (w:=w) m1 (i:=dgt q 0) (by have:=dgt_lt q 0;omega) a4.symm) x
 have:=clr_at v1 v2 hq b6 h4
 rw [hback,hb] at this
 exact this
end Go.AM
