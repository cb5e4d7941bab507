/- A part of the proof: what functions of the program compute, by abstract execution of their code. Its theorems hold without further condition. -/
import Derived.Test.YtcfhmdljeeppfaaGreatSPt73
set_option linter.all false
namespace Go.AM
open Go Go.Proofs
set_option maxRecDepth 4000
theorem s150 (X:AX) (hX:XOK Tryz.prog X) (hw:X.W wT) (hen:∀ k f d a x h M n,X.call 187 [.agg [I k,I f,B d,B a,B x,B h]] M n=some (.tup [U (encR (k,f,d,a,x,h)).1,I (encR (k,f,d,a,x,h)).2],[])):PSound Tryz.prog 150 (specF (ι:=En) (fun x=>[EnV x]) fun x=>retOf [U (encR x).1]):=by
 refine psound_spec hX mixed Tryz.func150 rfl fun ⟨k,f,d,a,x,h⟩ w0 G=>⟨by show 1≤11;decide,rfl,?_⟩
 show AW ⟨Tryz.prog,X,11,w0,.pure G⟩ _ _ _
 have hc:Cx.OK ⟨Tryz.prog,X,11,w0,.pure G⟩:=⟨hX,mixed⟩
 have hen':=hen k f d a x h
 obtain ⟨e,he⟩:∃ e,e=encR (k,f,d,a,x,h):=⟨_,rfl⟩
 rw [← he] at hen' ⊢
 obtain ⟨e1,e2⟩:=e
 simp only [EnV,U] at hen' ⊢
 have zS:=hen'
 refine dM64 ?_
 repeat (intro K hK)
 clear zS
 refine ⟨by simp,?_⟩
 simp [leaves_iff,Tryz.f150]
 try exact dt
end Go.AM
namespace Go.AM
open Go Go.Proofs
theorem tabW_inv {x:Nat} {g:Int} (h:tabW x=some g):0≤g∧g≤4294967295∧x=g.toNat*256+4:=by
 have hr:=decR_rng x
 unfold tabW at h
 split at h
 case isFalse=>simp at h
 rename_i hk
 simp only [Option.some.injEq] at h
 rw [h] at hr
 refine ⟨hr.1,hr.2,?_⟩
 by_cases he:encR (prs x)=((x:Int),0)
 ·rw [decR_z he] at hk h
  simp only at hk h
  have hb:¬ badF (prs x):=fun hb=>by rw [encR_f (by rw [hk];decide) hb] at he;simp at he
  cases hf:frmE (prs x) with
  | false=>rw [encR_m (by rw [hk];decide) hb hf] at he;simp at he
  | true =>
   rw [encR_z (by rw [hk];decide) hb hf] at he
   simp only [Prod.mk.injEq,and_true] at he
   unfold frmE noFl at hf
   rw [if_neg (by rw [hk];decide),if_neg (by rw [hk];decide),if_neg (by rw [hk];decide),if_pos (.inr hk)] at hf
   simp only [Bool.and_eq_true,Bool.not_eq_true'] at hf
   unfold encW fb at he
   rw [hk,h,hf.1,hf.2.1,hf.2.2.1,hf.2.2.2] at he
   simp at he
   omega
 ·rw [decR_n he] at hk
  exact absurd hk (by decide)
def unlW (w:Nat) (ws:List Nat):List Nat:=ws.map fun x=>if x=w then 0 else x
def unl (w:Nat) (ns:NdL):NdL:=ns.map fun n=>(n.1,unlW w n.2)
@[simp] theorem unl_len {w:Nat} {ns:NdL}:(unl w ns).length=ns.length:=by simp [unl]
@[simp] theorem unlW_len {w:Nat} {ws:List Nat}:(unlW w ws).length=ws.length:=by simp [unlW]
theorem fnd_unl {w:Nat} {ns:NdL} {f:Int}:fnd (unl w ns) f=fnd ns f:=by
 unfold fnd unl
 rw [List.findIdx_map,List.length_map]
 rfl
theorem Mof_unl {w:Nat} {ns:NdL} {f:Int}:Mof (unl w ns) f=(Mof ns f).map (unlW w):=by
 unfold Mof
 rw [fnd_unl]
 cases fnd ns f with
 | none=>rfl
 | some i =>
  simp only [Option.map_some,unl,List.getD_eq_getElem?_getD,List.getElem?_map]
  cases ns[i]?<;>rfl
theorem unl_asc {w:Nat} {ns:NdL} (h:ascN ns):ascN (unl w ns):=by
 unfold ascN unl
 rw [List.pairwise_map]
 exact h
theorem unl_ok {w:Nat} {ns:NdL} (h:∀ x∈ns,ndOK x):∀ x∈unl w ns,ndOK x:=fun x hx=>by
 obtain ⟨y,hy,rfl⟩:=List.mem_map.1 hx
 refine ⟨by simp [(h y hy).1],fun z hz=>?_⟩
 obtain ⟨u,hu,rfl⟩:=List.mem_map.1 hz
 have:=(h y hy).2 u hu
 split
 ·decide
 ·exact this
theorem delK_ok {ns:NdL} {g:Int} (h:∀ x∈ns,ndOK x):∀ x∈delK ns g,ndOK x:=fun x hx=>h x (mem_delK.1 hx).1
theorem unl_one {M:Mm} {root:Int} (hV:VM WA M root) {d q:Nat} (hx:(d,q)∈Pos) (hd:d<2) {f:Int} (hf:frP WA M root d q=some f) {i:Nat} (hi:i<8) {g:Int} (h0:tabW (wM M f i)=some g) {h:Int} {us:List Nat} (hm:M h=some us) :
  unlW (g.toNat*256+4) us=if h=f then us.set i 0 else us:=by
 obtain ⟨g0,g1,gw⟩:=tabW_inv h0
 obtain ⟨d',q',hx',hf'⟩:=hV.all h us hm
 obtain ⟨us',hm',h8,hok⟩:=hV.nd d' q' hx' h hf'
 rw [hm] at hm'
 simp only [Option.some.injEq] at hm'
 subst hm'
 have hgP:frP WA M root (d+1) (q*8+i)=some g:=by
  simp only [frP]
  rw [show (q*8+i)/8=q by omega,show (q*8+i)%8=i by omega,hf]
  exact h0
 have key:∀ j,j<8→us.getD j 0=g.toNat*256+4→h=f∧j=i:=fun j hj e=>by
  have hj':=hok j hj
  have htw:tabW (us.getD j 0)=some g:=by
   rw [e,tabW_tw (g:=g.toNat) (by omega),Int.toNat_of_nonneg g0]
  have hd':d'≤2:=by have:=mem_Pos.1 hx';simp only at this;omega
  by_cases e2:d'=2
  ·subst e2
   have:=(WD_ok fun _=>true).flat _ hj'
   rw [show (WD fun _=>true).tab=tabW from rfl,htw] at this
   simp at this
  ·have hgP':frP WA M root (d'+1) (q'*8+j)=some g:=by
    simp only [frP]
    rw [show (q'*8+j)/8=q' by omega,show (q'*8+j)%8=j by omega,hf']
    show tabW (wM M h j)=some g
    unfold wM
    rw [hm];exact htw
   have hin:=hV.inj _ _ _ _ (Pos_dn hx' (by omega) hj) (Pos_dn hx hd hi) g hgP' hgP
   have e3:d'=d:=by omega
   have e4:q'=q:=by omega
   subst e3 e4
   rw [hf] at hf'
   simp only [Option.some.injEq] at hf'
   exact ⟨hf'.symm,by omega⟩
 refine List.ext_getElem (by split<;>simp) fun j h1 h2=>?_
 have hj:j<8:=by simp at h1;omega
 have hg:us.getD j 0=us[j]'(by simpa using h1):=by rw [List.getD_eq_getElem?_getD,List.getElem?_eq_getElem (by simpa using h1)];rfl
 have k:=key j hj
 rw [hg] at k
 simp only [unlW,List.getElem_map]
 by_cases e:us[j]'(by simpa using h1)=g.toNat*256+4
 ·obtain ⟨rfl,rfl⟩:=k e
  rw [if_pos e]
  simp
 ·rw [if_neg e]
  by_cases e2:h=f
  ·subst e2
   simp only [if_true]
   rw [List.getElem_set]
   split
   ·rename_i e3
    subst e3
    exfalso
    apply e
    unfold wM at gw
    rw [hm] at gw
    simp only at gw
    rw [← hg]
    exact gw
   ·rfl
  ·simp only [if_neg e2]
theorem Mof_kp {ns:NdL} (ha:ascN ns) {fr:List Int} (x:Int):Mof (kpF fr ns) x=if x∈fr then none else Mof ns x:=by
 have hk:ascN (kpF fr ns):=List.Pairwise.filter _ ha
 split
 ·rename_i h
  refine (Mof_none hk).2 fun n hn e=>?_
  have:=(List.mem_filter.1 hn).2
  unfold inF at this
  rw [e] at this
  simp [h] at this
 ·rename_i h
  cases hm:Mof ns x with
  | none=>exact (Mof_none hk).2 fun n hn=>(Mof_none ha).1 hm n (List.mem_filter.1 hn).1
  | some us =>
   refine (mem_Mof hk).1 (List.mem_filter.2 ⟨(mem_Mof ha).2 hm,?_⟩)
   unfold inF
   simp [h]
theorem kpF_asc {ns:NdL} (ha:ascN ns) {fr:List Int}:ascN (kpF fr ns):=List.Pairwise.filter _ ha
theorem zs_leaf {M:Mm} {g:Int} (h:M g=some zs8):∀ j,j<8→tabW (wM M g j)=none:=fun j _=>by
 have:wM M g j=0:=by unfold wM;rw [h];exact zs8_getD j
 rw [this];exact tab0
theorem round {r:Int} {ns:NdL} {ds:List Dp} (h:Pv (r,ns,ds)) (ht:tbOK (r,ns,ds)) {p:Nat} (hp:p<512) {g:Int} {l w:Nat} (hw:wlk (Mof ns) r p=(g,l,w)) (hl:l<2) (hlf:∀ j,j<8→tabW (wM (Mof ns) g j)=none) :
  ∃ f k,frP WA (Mof ns) r (1 - l) (p/8^(l+2))=some f∧tabW (wM (Mof ns) f (dgt p (l+1)))=some g∧fnd ns f=some k∧f≠g∧0≤g∧g≤4294967295 ∧
   Mof (unl (g.toNat*256+4) (delK ns g))=updM1 (updW (Mof ns) f (dgt p (l+1)) 0) g none∧Pv (r,unl (g.toNat*256+4) (delK ns g),ds)∧tbOK (r,unl (g.toNat*256+4) (delK ns g),ds) ∧
   wlk (Mof (unl (g.toNat*256+4) (delK ns g))) r p=(f,l+1,0)∧unl (g.toNat*256+4) (delK ns g)=kpF [g] (setN ns k (dgt p (l+1)) 0):=by
 obtain ⟨a1,a2,a3,a4,a5,a6⟩:=wlk_at h.vm hp hw
 simp only at a3
 have hq:p/8^(l+1)=p/8^(l+2)*8+dgt p (l+1):=by
  unfold dgt
  rw [Nat.pow_succ 8 (l+1),← Nat.div_div_eq_div_mul]
  omega
 have hd8:=dgt_lt p (l+1)
 obtain ⟨f,hf,htb⟩:∃ f,frP WA (Mof ns) r (1 - l) (p/8^(l+2))=some f∧tabW (wM (Mof ns) f (dgt p (l+1)))=some g:=by
  rw [show 2 - l=(1 - l)+1 by omega,hq] at a3
  simp only [frP] at a3
  rw [show (p/8^(l+2)*8+dgt p (l+1))/8=p/8^(l+2) by omega,show (p/8^(l+2)*8+dgt p (l+1))%8=dgt p (l+1) by omega] at a3
  cases hc:frP WA (Mof ns) r (1 - l) (p/8^(l+2)) with
  | none=>rw [hc] at a3;simp at a3
  | some f=>rw [hc] at a3;exact ⟨f,rfl,a3⟩
 have hx:(1 - l,p/8^(l+2))∈Pos:=by
  have:=Pos_up (d:=1 - l) (q:=p/8^(l+1)) (by rw [show 1 - l+1=2 - l by omega];exact a2)
  rwa [hq,show (p/8^(l+2)*8+dgt p (l+1))/8=p/8^(l+2) by omega] at this
 obtain ⟨g0,g1,gw⟩:=tabW_inv htb
 have hpr:=h.vm.prune hx (by omega) hf hd8 (w:=0) htb hlf tab0 (ok0 (2 - (1 - l)))
 obtain ⟨us,hus,hu8,_⟩:=h.vm.nd _ _ hx f hf
 obtain ⟨k,hk,_⟩:=Mof_some.1 hus
 have hfg:f≠g:=fun e=>by
  have:=h.vm.inj _ _ _ _ hx a2 f hf (by rw [e];exact a3)
  omega
 have hM:Mof (unl (g.toNat*256+4) (delK ns g))=updM1 (updW (Mof ns) f (dgt p (l+1)) 0) g none:=by
  refine Mof_ext fun x=>?_
  rw [Mof_unl,Mof_del h.asc]
  unfold updM1 updW
  by_cases e:x=g
  ·simp [e]
  ·simp only [if_neg e]
   cases hm:Mof ns x with
   | none =>
    split
    ·rename_i e2;rw [e2,hus] at hm;simp at hm
    ·rfl
   | some vs =>
    simp only [Option.map_some]
    rw [unl_one h.vm hx (by omega) hf hd8 htb hm]
    by_cases e2:x=f
    ·subst e2;rw [hm];simp
    ·simp [e2]
 have hasc:ascN (unl (g.toNat*256+4) (delK ns g)):=unl_asc (delK_asc h.asc)
 have hsa:=setN_asc h.asc (i:=dgt p (l+1)) (w:=0) (fnd_lt hk)
 refine ⟨f,k,hf,htb,hk,hfg,g0,g1,hM,⟨hasc,?_⟩,⟨unl_ok (delK_ok ht.1),?_,ht.2.2⟩,?_,?_⟩
 ·show VM WA (Mof (unl _ _)) r
  rw [hM];exact hpr.1
 ·have h1:(delK ns g).length≤ns.length:=List.length_filter_le _ _
  have h2:=ht.2.1
  show (unl _ _).length≤_
  simp only [unl_len]
  simp only at h2
  omega
 ·have hfr:frP WA (Mof (unl (g.toNat*256+4) (delK ns g))) r (2 - (l+1)) (p/8^(l+1+1))=some f:=by
   rw [hM,show 2 - (l+1)=1 - l by omega,hpr.2 _ _ hx,if_neg (by omega)]
   exact hf
  have hwf:wM (Mof (unl (g.toNat*256+4) (delK ns g))) f (dgt p (l+1))=0:=by
   rw [hM,wM_updM1,if_neg hfg,wM_updW hus (by omega),if_pos ⟨rfl,rfl⟩]
  rw [wlk_of hp (by omega) hfr (.inl (by rw [hwf];exact tab0)),hwf]
 ·refine ext_asc hasc (kpF_asc hsa) fun x=>?_
  rw [hM,Mof_kp hsa,Mof_set h.asc hk]
  unfold updM1
  simp
end Go.AM
namespace Go.AM
open Go Go.Proofs
theorem td_del {β:Type} {l:List (Int×β)} (ha:ascK l) {i:Nat} (hi:i<l.length):l.take i++l.drop (i+1)=delK l (l[i]).1:=by
 have hlt:∀ a∈l.take i,a.1≠(l[i]).1:=fun a ha'=>by
  obtain ⟨k,hk,rfl⟩:=List.getElem_of_mem ha'
  simp only [List.length_take] at hk
  rw [List.getElem_take]
  have:=List.pairwise_iff_getElem.1 ha k i (by omega) hi (by omega)
  omega
 have hgt:∀ a∈l.drop (i+1),a.1≠(l[i]).1:=fun a ha'=>by
  obtain ⟨k,hk,rfl⟩:=List.getElem_of_mem ha'
  simp only [List.length_drop] at hk
  rw [List.getElem_drop]
  have:=List.pairwise_iff_getElem.1 ha i (i+1+k) hi (by omega) (by omega)
  omega
 have e:delK l (l[i]).1=delK (l.take i++l[i]::l.drop (i+1)) (l[i]).1:=by rw [List.getElem_cons_drop,List.take_append_drop]
 rw [e]
 unfold delK
 rw [List.filter_append,List.filter_cons,if_neg (by simp),List.filter_eq_self.2 (fun a ha'=>by simpa using hlt a ha'),List.filter_eq_self.2 (fun a ha'=>by simpa using hgt a ha')]
theorem delL_eq {ds:List Dp} (ha:ascK ds) {g:Int} (h:lowD ds g<ds.length) (h2:(gp ds (lowD ds g)).1=g):delL ds g=delK ds g∧lastK (-1) g ds=(gp ds (lowD ds g)).2:=by
 have hm:gp ds (lowD ds g)∈ds:=by rw [gp_eq h];exact List.getElem_mem h
 constructor
 ·have:=td_del (l:=ds) ha h
  rw [← gp_eq h,h2] at this
  exact this
 ·refine lastK_at ha ?_
  obtain ⟨x,hx⟩:∃ x,x=gp ds (lowD ds g):=⟨_,rfl⟩
  rw [← hx] at h2 hm ⊢
  obtain ⟨x1,x2⟩:=x
  simp only at h2
  subst h2
  exact hm
def clrR (r:Int) (ds:List Dp) (p:Nat):Nat→NdL→NdL×List Int
 | 0,ns=>(ns,[])
 | k+1,ns=>if (gn ns (lsT (r,ns,ds) p).1).2=zs8 then
   ((clrR r ds p k (unl ((gn ns (lsT (r,ns,ds) p).1).1.toNat*256+4) (delK ns (gn ns (lsT (r,ns,ds) p).1).1))).1,(gn ns (lsT (r,ns,ds) p).1).1::(clrR r ds p k (unl ((gn ns (lsT (r,ns,ds) p).1).1.toNat*256+4) (delK ns (gn ns (lsT (r,ns,ds) p).1).1))).2)
  else (ns,[])
theorem end_nd {r:Int} {ns:NdL} {ds:List Dp} (h:Pv (r,ns,ds)) {p:Nat} (hp:p<512) {g:Int} {l w:Nat} (hw:wlk (Mof ns) r p=(g,l,w)):fnd ns g=some (lsT (r,ns,ds) p).1∧(lsT (r,ns,ds) p).2=(l,w)∧(gn ns (lsT (r,ns,ds) p).1).1=g∧Mof ns g=some (gn ns (lsT (r,ns,ds) p).1).2∧(lsT (r,ns,ds) p).1<ns.length:=by
 have h1:=h.walk hp
 simp only at h1
 rw [hw] at h1
 exact ⟨h1.2.1,h1.2.2,fnd_frame h1.2.1,Mof_some.2 ⟨_,h1.2.1,rfl⟩,fnd_lt h1.2.1⟩
theorem path_f0 {r:Int} {ns:NdL} {ds:List Dp} (h:Pv (r,ns,ds)) {p:Nat} (hp:p<512) (hl:(lsT (r,ns,ds) p).2.1=0):∃ n2 w2 n1 w1 g1 g0,ptL (r,ns,ds) p=[(n2,2,w2),(n1,1,w1),lsT (r,ns,ds) p]∧fnd ns r=some n2∧fnd ns g1=some n1∧fnd ns g0=some (lsT (r,ns,ds) p).1 ∧
  frP WA (Mof ns) r 1 (p/64)=some g1∧frP WA (Mof ns) r 2 (p/8)=some g0:=by
 have hr:=h.root
 simp only at hr
 have d2:dgt p 2=p/64:=dgt2 hp
 have d1:dgt p 1=p/8%8:=dgt1
 have f1:frP WA (Mof ns) r 1 (p/64)=tabW (wd ns (rtN (r,ns,ds)) (p/64)):=by
  simp only [frP,Option.bind_some]
  rw [show p/64%8=p/64 by omega,wM_Mof hr]
  rfl
 have f2:frP WA (Mof ns) r 2 (p/8)=(frP WA (Mof ns) r 1 (p/64)).bind fun f=>tabW (wM (Mof ns) f (p/8%8)):=by
  show (frP WA (Mof ns) r 1 (p/8/8)).bind _=_
  rw [show p/8/8=p/64 by omega]
  rfl
 unfold lsT ptL at *
 simp only [lst,pth,d2,d1] at hl ⊢
 cases h2:kid WA ns (wd ns (rtN (r,ns,ds)) (p/64)) with
 | none=>rw [h2] at hl;simp at hl
 | some n1 =>
  rw [h2] at hl
  simp only at hl ⊢
  cases h1:kid WA ns (wd ns n1 (p/8%8)) with
  | none=>rw [h1] at hl;simp at hl
  | some n0 =>
   obtain ⟨g1,t1,hg1⟩:=kid_some.1 h2
   obtain ⟨g0,t0,hg0⟩:=kid_some.1 h1
   rw [show WA.tab=tabW from rfl] at t1 t0
   rw [t1] at f1
   rw [f1,Option.bind_some,wM_Mof hg1,t0] at f2
   exact ⟨_,_,n1,_,g1,g0,rfl,hr,hg1,hg0,f1,f2⟩
theorem path_f1 {r:Int} {ns:NdL} {ds:List Dp} (h:Pv (r,ns,ds)) {p:Nat} (hp:p<512) (hl:(lsT (r,ns,ds) p).2.1=1):∃ n2 w2 g1,ptL (r,ns,ds) p=[(n2,2,w2),lsT (r,ns,ds) p]∧fnd ns r=some n2∧fnd ns g1=some (lsT (r,ns,ds) p).1∧frP WA (Mof ns) r 1 (p/64)=some g1:=by
 have hr:=h.root
 simp only at hr
 have d2:dgt p 2=p/64:=dgt2 hp
 have d1:dgt p 1=p/8%8:=dgt1
 have f1:frP WA (Mof ns) r 1 (p/64)=tabW (wd ns (rtN (r,ns,ds)) (p/64)):=by
  simp only [frP,Option.bind_some]
  rw [show p/64%8=p/64 by omega,wM_Mof hr]
  rfl
 unfold lsT ptL at *
 simp only [lst,pth,d2,d1] at hl ⊢
 cases h2:kid WA ns (wd ns (rtN (r,ns,ds)) (p/64)) with
 | none=>rw [h2] at hl;simp at hl
 | some n1 =>
  rw [h2] at hl
  simp only at hl ⊢
  obtain ⟨g1,t1,hg1⟩:=kid_some.1 h2
  rw [show WA.tab=tabW from rfl] at t1
  rw [t1] at f1
  cases h1:kid WA ns (wd ns n1 (p/8%8)) with
  | none=>exact ⟨_,_,g1,rfl,hr,hg1,f1⟩
  | some n0=>rw [h1] at hl;simp at hl
theorem kp_kp {ns:NdL} {a b:List Int}:kpF a (kpF b ns)=kpF (b++a) ns:=by
 unfold kpF
 rw [List.filter_filter]
 congr 1
 funext n
 unfold inF
 by_cases h1:n.1∈a<;>by_cases h2:n.1∈b<;>simp [h1,h2]
theorem clr_start {r:Int} {ns:NdL} {ds:List Dp} (h:Pv (r,ns,ds)) (ht:tbOK (r,ns,ds)) {p:Nat} (hp:p<512) {g:Int} {l w:Nat} (hw:wlk (Mof ns) r p=(g,l,w)) :
  let ns1:=setN ns (lsT (r,ns,ds) p).1 (dgt p l) 0
  Pv (r,ns1,ds)∧tbOK (r,ns1,ds)∧wlk (Mof ns1) r p=(g,l,0)∧(∀ d q,(d,q)∈Pos→frP WA (Mof ns1) r d q=frP WA (Mof ns) r d q):=by
 obtain ⟨a1,a2,a3,a4,a5,a6⟩:=wlk_at h.vm hp hw
 obtain ⟨e1,e2,_⟩:=end_nd h hp hw
 obtain ⟨b1,b2,b3,b4,b5⟩:=h.put ht hp hw (w:=0) (by omega) tab0 (ok0 _)
 have hst:(putT (r,ns,ds) p 0).2.1=setN ns (lsT (r,ns,ds) p).1 (dgt p l) 0:=by unfold putT;simp only [e2]
 rw [hst] at b1 b2 b3 b4
 exact ⟨b1,b2,wlk_put_self h.vm hp hw tab0 b3 b4,b4⟩
theorem clr_0 {r:Int} {ns:NdL} {ds:List Dp} (h:Pv (r,ns,ds)) (ht:tbOK (r,ns,ds)) {p:Nat} (hp:p<512) (hl:(lsT (r,ns,ds) p).2.1=0) :
  (clrR r ds p 2 (setN ns (lsT (r,ns,ds) p).1 (dgt p 0) 0)).1=kpF (clrL p ns (ptL (r,ns,ds) p).reverse).2 (clrL p ns (ptL (r,ns,ds) p).reverse).1∧(clrR r ds p 2 (setN ns (lsT (r,ns,ds) p).1 (dgt p 0) 0)).2=(clrL p ns (ptL (r,ns,ds) p).reverse).2:=by
 obtain ⟨g,l,w,hw⟩:∃ f l w,wlk (Mof ns) r p=(f,l,w):=⟨_,_,_,rfl⟩
 obtain ⟨e1,e2,e3,e4,e5⟩:=end_nd h hp hw
 obtain rfl:l=0:=by rw [e2] at hl;exact hl
 obtain ⟨n2,w2,n1,w1,g1,g0,hpt,q2,q1,q0,f1,f0⟩:=path_f0 h hp hl
 obtain rfl:g0=g:=by
  have k1:=fnd_frame q0
  have k2:=fnd_frame e1
  rw [← k1,k2]
 obtain ⟨b1,b2,b3,b4⟩:=clr_start h ht hp hw
 obtain ⟨ns1,hns1⟩:∃ x,x=setN ns (lsT (r,ns,ds) p).1 (dgt p 0) 0:=⟨_,rfl⟩
 rw [← hns1] at b1 b2 b3 b4
 obtain ⟨a1,a2,a3,a4,a5⟩:=end_nd b1 hp b3
 have hfnd:∀ x,fnd ns1 x=fnd ns x:=fun x=>by rw [hns1];exact fnd_set e5 x
 have hpos:(lsT (r,ns1,ds) p).1=(lsT (r,ns,ds) p).1:=by
  rw [hfnd,e1] at a1
  simpa using a1.symm
 rw [hpos] at a3 a4 a5
 rw [hpt]
 simp only [List.reverse_cons,List.reverse_nil,List.nil_append,List.cons_append]
 have hs:(lsT (r,ns,ds) p).2.1=0:=hl
 unfold clrR
 rw [← hns1,hpos,a3]
 simp only [clrL,hs,← hns1]
 by_cases hz:(gn ns1 (lsT (r,ns,ds) p).1).2=zs8
 ·rw [if_pos hz,if_pos hz]
  obtain ⟨f,k,c1,c2,c3,c4,c5,c6,c7,c8,c9,c10,c11⟩:=round b1 b2 hp b3 (by omega) (zs_leaf (by rw [a4,hz]))
  have hfg:f=g1:=by
   have hx1:(1,p/64)∈Pos:=Pos1 (by omega)
   rw [show 1 - 0=1 from rfl,show p/8^(0+2)=p/64 by simp,b4 _ _ hx1,f1] at c1
   simpa using c1.symm
  subst hfg
  have hk:k=n1:=by
   rw [hfnd,q1] at c3
   simpa using c3.symm
  subst hk
  simp only [Nat.zero_add] at c2 c7 c10 c11
  obtain ⟨d1,d2,d3,d4,d5⟩:=end_nd c8 hp c10
  have hg0:(gn ns (lsT (r,ns,ds) p).1).1=g0:=e3
  obtain ⟨nsB,hnsB⟩:∃ x,x=unl (g0.toNat*256+4) (delK ns1 g0):=⟨_,rfl⟩
  rw [← hnsB] at c7 c8 c9 c10 c11 d1 d2 d3 d4 d5 ⊢
  obtain ⟨ns2,hns2⟩:∃ x,x=setN ns1 k (dgt p 1) 0:=⟨_,rfl⟩
  rw [← hns2] at c11 ⊢
  have hkl:k<ns1.length:=fnd_lt c3
  have hasc2:ascN ns2:=by rw [hns2];exact setN_asc b1.asc hkl
  have hfk2:fnd ns2 f=some k:=by rw [hns2,fnd_set hkl];exact c3
  have hmid:(gn nsB (lsT (r,nsB,ds) p).1).2=(gn ns2 k).2:=by
   have h1:Mof nsB f=some (gn ns2 k).2:=by
    rw [c11,Mof_kp hasc2,if_neg (by simpa using c4)]
    exact Mof_some.2 ⟨k,hfk2,rfl⟩
   rw [d4] at h1
   simpa using h1
  unfold clrR
  rw [d3,hmid,hg0]
  by_cases hz2:(gn ns2 k).2=zs8
  ·rw [if_pos hz2,if_pos hz2]
   have hzB:Mof nsB f=some zs8:=by rw [d4,hmid,hz2]
   obtain ⟨f',k',i1,i2,i3,i4,i5,i6,i7,i8,i9,i10,i11⟩:=round c8 c9 hp c10 (by omega) (zs_leaf hzB)
   have hfr:f'=r:=by
    rw [show 1 - 1=0 from rfl] at i1
    simp only [frP,Option.some.injEq] at i1
    exact i1.symm
   subst hfr
   simp only [clrR]
   have hfk:(gn ns1 k).1=f:=fnd_frame c3
   rw [hfk]
   refine ⟨?_,rfl⟩
   have hk2:n2<ns2.length:=by rw [hns2,setN_len,hns1,setN_len];exact fnd_lt q2
   have hasc3:ascN (setN ns2 n2 (dgt p 2) 0):=setN_asc hasc2 hk2
   have hr2:fnd ns2 f'=some n2:=by rw [hns2,fnd_set hkl,hfnd];exact q2
   have hg0r:g0≠f':=by
    intro e
    have:=h.vm.inj _ _ _ _ (Pos2 (q:=p/8) (by omega)) Pos0 g0 f0 (by rw [e];rfl)
    omega
   refine ext_asc i8.asc (kpF_asc hasc3) fun x=>?_
   rw [i7,Mof_kp hasc3,Mof_set hasc2 hr2]
   unfold updM1
   rw [show Mof nsB=fun x=>if x∈[g0] then none else Mof ns2 x from Mof_ext fun x=>by rw [c11,Mof_kp hasc2]]
   unfold updW
   by_cases x1:x=f
   ·simp [x1]
   ·by_cases x2:x=f'
    ·subst x2
     have:¬ x=g0:=fun e=>hg0r e.symm
     simp [x1,this]
    ·simp [x1,x2]
  ·rw [if_neg hz2,if_neg hz2]
   exact ⟨c11,rfl⟩
 ·rw [if_neg hz,if_neg hz]
  exact ⟨kpF_nil.symm,rfl⟩
theorem clr_1 {r:Int} {ns:NdL} {ds:List Dp} (h:Pv (r,ns,ds)) (ht:tbOK (r,ns,ds)) {p:Nat} (hp:p<512) (hl:(lsT (r,ns,ds) p).2.1=1) :
  (clrR r ds p 1 (setN ns (lsT (r,ns,ds) p).1 (dgt p 1) 0)).1=kpF (clrL p ns (ptL (r,ns,ds) p).reverse).2 (clrL p ns (ptL (r,ns,ds) p).reverse).1∧(clrR r ds p 1 (setN ns (lsT (r,ns,ds) p).1 (dgt p 1) 0)).2=(clrL p ns (ptL (r,ns,ds) p).reverse).2:=by
 obtain ⟨g,l,w,hw⟩:∃ f l w,wlk (Mof ns) r p=(f,l,w):=⟨_,_,_,rfl⟩
 obtain ⟨e1,e2,e3,e4,e5⟩:=end_nd h hp hw
 obtain rfl:l=1:=by rw [e2] at hl;exact hl
 obtain ⟨n2,w2,g1,hpt,q2,q1,f1⟩:=path_f1 h hp hl
 obtain ⟨b1,b2,b3,b4⟩:=clr_start h ht hp hw
 obtain ⟨ns1,hns1⟩:∃ x,x=setN ns (lsT (r,ns,ds) p).1 (dgt p 1) 0:=⟨_,rfl⟩
 rw [← hns1] at b1 b2 b3 b4
 obtain ⟨a1,a2,a3,a4,a5⟩:=end_nd b1 hp b3
 have hfnd:∀ x,fnd ns1 x=fnd ns x:=fun x=>by rw [hns1];exact fnd_set e5 x
 have hpos:(lsT (r,ns1,ds) p).1=(lsT (r,ns,ds) p).1:=by
  rw [hfnd,e1] at a1
  simpa using a1.symm
 rw [hpos] at a3 a4 a5
 rw [hpt]
 simp only [List.reverse_cons,List.reverse_nil,List.nil_append,List.cons_append]
 have hs:(lsT (r,ns,ds) p).2.1=1:=hl
 unfold clrR
 rw [← hns1,hpos,a3]
 simp only [clrL,hs,← hns1]
 by_cases hz:(gn ns1 (lsT (r,ns,ds) p).1).2=zs8
 ·rw [if_pos hz,if_pos hz]
  obtain ⟨f,k,c1,c2,c3,c4,c5,c6,c7,c8,c9,c10,c11⟩:=round b1 b2 hp b3 (by omega) (zs_leaf (by rw [a4,hz]))
  have hfr:f=r:=by
   rw [show 1 - 1=0 from rfl] at c1
   simp only [frP,Option.some.injEq] at c1
   exact c1.symm
  subst hfr
  have hk:k=n2:=by
   rw [hfnd,q2] at c3
   simpa using c3.symm
  subst hk
  simp only [clrR]
  rw [show (gn ns (lsT (f,ns,ds) p).1).1=g from e3]
  exact ⟨c11,rfl⟩
 ·rw [if_neg hz,if_neg hz]
  exact ⟨kpF_nil.symm,rfl⟩
end Go.AM
namespace Go.AM
open Go Go.Proofs
def uStep (w:Nat) (S:NdL) (i j:Nat):NdL:=if wd S i j=w then setN S i j 0 else S
def uRow (w:Nat) (S:NdL) (i:Nat):Nat→NdL
 | 0=>S
 | j+1=>uStep w (uRow w S i j) i j
def uAll (w:Nat) (ns:NdL):Nat→NdL
 | 0=>ns
 | i+1=>uRow w (uAll w ns i) i 8
theorem uStep_len {w:Nat} {S:NdL} {i j:Nat}:(uStep w S i j).length=S.length:=by unfold uStep;split<;>simp
theorem uRow_len {w:Nat} {S:NdL} {i:Nat}:∀ {j:Nat},(uRow w S i j).length=S.length
 | 0=>rfl
 | j+1=>by rw [uRow,uStep_len,uRow_len]
theorem uAll_len {w:Nat} {ns:NdL}:∀ {i:Nat},(uAll w ns i).length=ns.length
 | 0=>rfl
 | i+1=>by rw [uAll,uRow_len,uAll_len]
theorem uStep_ok {w:Nat} {S:NdL} {i j:Nat} (h:∀ x∈S,ndOK x) (hi:i<S.length):∀ x∈uStep w S i j,ndOK x:=by
 unfold uStep
 split
 ·exact setN_ok h (by omega) hi
 ·exact h
theorem uRow_ok {w:Nat} {S:NdL} {i:Nat} (h:∀ x∈S,ndOK x) (hi:i<S.length):∀ {j:Nat},∀ x∈uRow w S i j,ndOK x
 | 0=>h
 | j+1=>uStep_ok (uRow_ok h hi) (by rw [uRow_len];exact hi)
theorem uAll_ok {w:Nat} {ns:NdL} (h:∀ x∈ns,ndOK x):∀ {i:Nat},i≤ns.length→∀ x∈uAll w ns i,ndOK x
 | 0,_=>h
 | i+1,hi=>uRow_ok (uAll_ok h (by omega)) (by rw [uAll_len];omega)
theorem gn_setN {S:NdL} {i j w k:Nat} (hi:i<S.length):gn (setN S i j w) k=if k=i then ((gn S i).1,(gn S i).2.set j w) else gn S k:=by
 by_cases e:k=i
 ·subst e
  rw [if_pos rfl,gn_eq (by rw [setN_len];exact hi)]
  unfold setN
  rw [List.getElem_set_self];rfl
 ·rw [if_neg e]
  unfold gn setN
  rw [List.getD_eq_getElem?_getD,List.getElem?_set_ne (by omega),List.getD_eq_getElem?_getD]
theorem uRow_gn {w:Nat} {S:NdL} {i:Nat} (hi:i<S.length) (h8:(gn S i).2.length=8):∀ {j:Nat},j≤8→∀ k,gn (uRow w S i j) k=if k=i then ((gn S i).1,(unlW w (gn S i).2).take j++(gn S i).2.drop j) else gn S k
 | 0,_,k=>by
  simp only [uRow]
  split
  ·rename_i e;subst e;simp
  ·rfl
 | j+1,hj,k=>by
  have ih:=uRow_gn (w:=w) hi h8 (j:=j) (by omega)
  have hii:=ih i
  rw [if_pos rfl] at hii
  have hl:(uRow w S i j).length=S.length:=uRow_len
  have hj8:j<(gn S i).2.length:=by omega
  have hdr:(gn S i).2.drop j=(gn S i).2[j]::(gn S i).2.drop (j+1):=(List.getElem_cons_drop hj8).symm
  have htl:((unlW w (gn S i).2).take j).length=j:=by simp;omega
  have htk:(unlW w (gn S i).2).take (j+1)=(unlW w (gn S i).2).take j++[if (gn S i).2[j]=w then 0 else (gn S i).2[j]]:=by
   rw [List.take_add_one,List.getElem?_eq_getElem (by simp;omega)]
   simp [unlW]
  have hwd:wd (uRow w S i j) i j=(gn S i).2[j]:=by
   unfold wd
   rw [← gn_getD,hii]
   simp only
   rw [List.getD_eq_getElem?_getD,List.getElem?_append_right (by omega),htl,hdr,Nat.sub_self,List.getElem?_cons_zero]
   rfl
  simp only [uRow,uStep,hwd]
  by_cases e:(gn S i).2[j]=w
  ·rw [if_pos e,gn_setN (by rw [hl];exact hi),hii]
   by_cases ek:k=i
   ·rw [if_pos ek,if_pos ek,htk,if_pos e]
    simp only
    rw [List.set_append_right _ _ (by omega),htl,hdr,Nat.sub_self,List.set_cons_zero,List.append_assoc]
    rfl
   ·rw [if_neg ek,if_neg ek,ih k,if_neg ek]
  ·rw [if_neg e,ih k]
   by_cases ek:k=i
   ·rw [if_pos ek,if_pos ek,htk,if_neg e]
    rw [hdr,List.append_assoc]
    rfl
   ·rw [if_neg ek,if_neg ek]
theorem uAll_gn {w:Nat} {ns:NdL} (h:∀ x∈ns,ndOK x):∀ {i:Nat},i≤ns.length→∀ k,gn (uAll w ns i) k=if k<i then ((gn ns k).1,unlW w (gn ns k).2) else gn ns k
 | 0,_,k=>by simp [uAll]
 | i+1,hi,k=>by
  have ih:=uAll_gn (w:=w) h (i:=i) (by omega)
  have hii:=ih i
  rw [if_neg (by omega)] at hii
  have h8:(gn ns i).2.length=8:=(h _ (gn_mem (by omega))).1
  simp only [uAll]
  rw [uRow_gn (by rw [uAll_len];omega) (by rw [hii];exact h8) (Nat.le_refl _),hii]
  by_cases ek:k=i
  ·subst ek
   rw [if_pos rfl,if_pos (by omega),List.take_of_length_le (by simp;omega),List.drop_of_length_le (by omega),List.append_nil]
  ·rw [if_neg ek,ih k]
   by_cases e2:k<i
   ·rw [if_pos e2,if_pos (by omega)]
   ·rw [if_neg e2,if_neg (by omega)]
theorem uAll_unl {w:Nat} {ns:NdL} (h:∀ x∈ns,ndOK x):uAll w ns ns.length=unl w ns:=by
 refine List.ext_getElem (by rw [uAll_len,unl_len]) fun k h1 h2=>?_
 rw [uAll_len] at h1
 have:=uAll_gn (w:=w) h (Nat.le_refl _) k
 rw [if_pos h1,gn_eq (by rw [uAll_len];exact h1),gn_eq h1] at this
 rw [this]
 simp [unl]
end Go.AM
set_option maxHeartbeats 2000000
namespace Go.AM
open Go Go.Proofs
set_option maxRecDepth 4000
theorem keS_at {t:Tb} {g f:Int} (ht:tbOK t):keepS2 [tAV t,I g,I f] (tMs t)=some (.agg [I t.1,.sl 0 1 9 0 t.2.1.length,.sl 2 1 2 0 (t.2.2.length+1)],tMs t++[.vec 1 2 false (prows (insK t.2.2 (g,f)))]):=by
 refine specG_eq (ι:={x:Tb×Int×Int // tbOK x.1}) (A:=fun x=>[tAV x.1.1,I x.1.2.1,I x.1.2.2]) (M:=fun x=>tMs x.1.1) (R:=fun x=>retOf [.agg [I x.1.1.1,.sl 0 1 9 0 x.1.1.2.1.length,.sl 2 1 2 0 (x.1.1.2.2.length+1)]]) (O:=fun x=>tMs x.1.1++[.vec 1 2 false (prows (insK x.1.1.2.2 (x.1.2.1,x.1.2.2)))]) ⟨(t,g,f),ht⟩ fun j hA hM=>?_
 obtain ⟨⟨t',g',f'⟩,h'⟩:=j
 simp only [List.cons.injEq,and_true,I,AV.v.injEq,Value.int.injEq,true_and] at hA
 have e1:=tAV_inj hA.1 hM
 subst e1
 obtain ⟨_,rfl,rfl⟩:=hA
 exact ⟨rfl,rfl⟩
theorem reS_at {t:Tb} {g:Int} (ht:tbOK t):relS [tAV t,I g] (tMs t)=some (.tup [.agg [I t.1,.sl 0 1 9 0 t.2.1.length,.sl 2 1 2 0 (delK t.2.2 g).length],I (lastK (-1) g t.2.2)],tMs t++[.vec 1 2 false (prows (delK t.2.2 g))]):=by
 refine specG_eq (ι:={x:Tb×Int // tbOK x.1}) (A:=fun x=>[tAV x.1.1,I x.1.2]) (M:=fun x=>tMs x.1.1) (R:=fun x=>retOf [.agg [I x.1.1.1,.sl 0 1 9 0 x.1.1.2.1.length,.sl 2 1 2 0 (delK x.1.1.2.2 x.1.2).length],I (lastK (-1) x.1.2 x.1.1.2.2)]) (O:=fun x=>tMs x.1.1++[.vec 1 2 false (prows (delK x.1.1.2.2 x.1.2))]) ⟨(t,g),ht⟩ fun j hA hM=>?_
 obtain ⟨⟨t',g'⟩,h'⟩:=j
 simp only [List.cons.injEq,and_true,I,AV.v.injEq,Value.int.injEq,true_and] at hA
 have e1:=tAV_inj hA.1 hM
 subst e1
 obtain ⟨_,rfl⟩:=hA
 exact ⟨rfl,rfl⟩
theorem rmS_at {t:Tb} {g:Int} (ht:tbOK t):remS [tAV t,I g] (tMs t)=some (.agg [I t.1,.sl 2 1 9 0 (delK t.2.1 g).length,.sl 1 1 2 0 t.2.2.length],tMs t++[.vec 1 9 false (nrows (delK t.2.1 g))]):=by
 refine specG_eq (ι:={x:Tb×Int // tbOK x.1}) (A:=fun x=>[tAV x.1.1,I x.1.2]) (M:=fun x=>tMs x.1.1) (R:=fun x=>retOf [.agg [I x.1.1.1,.sl 2 1 9 0 (delK x.1.1.2.1 x.1.2).length,.sl 1 1 2 0 x.1.1.2.2.length]]) (O:=fun x=>tMs x.1.1++[.vec 1 9 false (nrows (delK x.1.1.2.1 x.1.2))]) ⟨(t,g),ht⟩ fun j hA hM=>?_
 obtain ⟨⟨t',g'⟩,h'⟩:=j
 simp only [List.cons.injEq,and_true,I,AV.v.injEq,Value.int.injEq,true_and] at hA
 have e1:=tAV_inj hA.1 hM
 subst e1
 obtain ⟨_,rfl⟩:=hA
 exact ⟨rfl,rfl⟩
theorem callKe {a b:Nat} (hab:a≠b) {r:Int} {ns:NdL} {ds:List Dp} {g f:Int} (ht:tbOK (r,ns,ds)) {v v2:Nat} (M:Nat→AO) (nid:Nat) (ha:a<nid) (hb:b<nid)
  (h0:M a=.vec (v+1) 9 false (nrows ns)) (h1:M b=.vec (v2+1) 2 false (prows ds)) :
  callG keepS2 [.agg [I r,.sl a (v+1) 9 0 ns.length,.sl b (v2+1) 2 0 ds.length],I g,I f] M nid=some (.agg [I r,.sl a (v+1) 9 0 ns.length,.sl nid 1 2 0 (ds.length+1)],[(a,.vec (v+1) 9 false (nrows ns)),(b,.vec (v2+1) 2 false (prows ds)),(nid,.vec 1 2 false (prows (insK ds (g,f))))]):=by
 have hF:=keS_at (t:=(r,ns,ds)) (g:=g) (f:=f) ht
 simp only [tAV,tMs] at hF
 unfold callG
 have hba:b≠a:=fun e=>hab e.symm
 have hg:gat M 64 (nmsL [.agg [I r,.sl a (v+1) 9 0 ns.length,.sl b (v2+1) 2 0 ds.length],I g,I f]) []=[a,b]:=by
  simp [gat,nmsL,AV.nms,AO.nms,h0,h1,hab,hba]
 simp only [hg]
 rw [if_pos ?cg]
 case cg=>simp [CallG,nmsL,AV.nms,AO.nms,Led,curBL,AV.curB,AO.curB,verOf,notDead,h0,h1,hab,hba]
 have e1:1+v=v+1:=by omega
 have e2:1+v2=v2+1:=by omega
 simp [renL,AV.ren,AO.ren,posN,canO,nmsL,h0,h1,hF,RetG,getL,AV.nms,AO.nms,updN,nmN,shN,verOf,rng,Led,hab,hba,e1,e2]
theorem callRe {a b:Nat} (hab:a≠b) {r:Int} {ns:NdL} {ds:List Dp} {g:Int} (ht:tbOK (r,ns,ds)) {v v2:Nat} (M:Nat→AO) (nid:Nat) (ha:a<nid) (hb:b<nid)
  (h0:M a=.vec (v+1) 9 false (nrows ns)) (h1:M b=.vec (v2+1) 2 false (prows ds)) :
  callG relS [.agg [I r,.sl a (v+1) 9 0 ns.length,.sl b (v2+1) 2 0 ds.length],I g] M nid=some (.tup [.agg [I r,.sl a (v+1) 9 0 ns.length,.sl nid 1 2 0 (delK ds g).length],I (lastK (-1) g ds)],[(a,.vec (v+1) 9 false (nrows ns)),(b,.vec (v2+1) 2 false (prows ds)),(nid,.vec 1 2 false (prows (delK ds g)))]):=by
 have hF:=reS_at (t:=(r,ns,ds)) (g:=g) ht
 simp only [tAV,tMs] at hF
 unfold callG
 have hba:b≠a:=fun e=>hab e.symm
 have hg:gat M 64 (nmsL [.agg [I r,.sl a (v+1) 9 0 ns.length,.sl b (v2+1) 2 0 ds.length],I g]) []=[a,b]:=by
  simp [gat,nmsL,AV.nms,AO.nms,h0,h1,hab,hba]
 simp only [hg]
 rw [if_pos ?cg]
 case cg=>simp [CallG,nmsL,AV.nms,AO.nms,Led,curBL,AV.curB,AO.curB,verOf,notDead,h0,h1,hab,hba]
 have e1:1+v=v+1:=by omega
 have e2:1+v2=v2+1:=by omega
 simp [renL,AV.ren,AO.ren,posN,canO,nmsL,h0,h1,hF,RetG,getL,AV.nms,AO.nms,updN,nmN,shN,verOf,rng,Led,hab,hba,e1,e2]
theorem callRm {a b:Nat} (hab:a≠b) {r:Int} {ns:NdL} {ds:List Dp} {g:Int} (ht:tbOK (r,ns,ds)) {v v2:Nat} (M:Nat→AO) (nid:Nat) (ha:a<nid) (hb:b<nid)
  (h0:M a=.vec (v+1) 9 false (nrows ns)) (h1:M b=.vec (v2+1) 2 false (prows ds)) :
  callG remS [.agg [I r,.sl a (v+1) 9 0 ns.length,.sl b (v2+1) 2 0 ds.length],I g] M nid=some (.agg [I r,.sl nid 1 9 0 (delK ns g).length,.sl b (v2+1) 2 0 ds.length],[(a,.vec (v+1) 9 false (nrows ns)),(b,.vec (v2+1) 2 false (prows ds)),(nid,.vec 1 9 false (nrows (delK ns g)))]):=by
 have hF:=rmS_at (t:=(r,ns,ds)) (g:=g) ht
 simp only [tAV,tMs] at hF
 unfold callG
 have hba:b≠a:=fun e=>hab e.symm
 have hg:gat M 64 (nmsL [.agg [I r,.sl a (v+1) 9 0 ns.length,.sl b (v2+1) 2 0 ds.length],I g]) []=[a,b]:=by
  simp [gat,nmsL,AV.nms,AO.nms,h0,h1,hab,hba]
 simp only [hg]
 rw [if_pos ?cg]
 case cg=>simp [CallG,nmsL,AV.nms,AO.nms,Led,curBL,AV.curB,AO.curB,verOf,notDead,h0,h1,hab,hba]
 have e1:1+v=v+1:=by omega
 have e2:1+v2=v2+1:=by omega
 simp [renL,AV.ren,AO.ren,posN,canO,nmsL,h0,h1,hF,RetG,getL,AV.nms,AO.nms,updN,nmN,shN,verOf,rng,Led,hab,hba,e1,e2]
end Go.AM
