/- A part of the proof: what functions of the program compute, by abstract execution of their code. Its theorems hold without further condition. -/
import Derived.Test.YtcfhmdljeeppfaaGreatSPt73
set_option linter.all false
set_option maxHeartbeats 2000000
namespace Go.AM
open Go Go.Proofs
set_option maxRecDepth 4000
theorem insK_put {ns:NdL} (ha:ascN ns) {f:Int} (hf:∀ n∈ns,n.1≠f) {a i w:Nat} (hn:a<ns.length) :
  ∃ m,m<(insK ns (f,zs8)).length∧(gn (insK ns (f,zs8)) m).1=(gn ns a).1∧setN (insK ns (f,zs8)) m i w=insK (setN ns a i w) (f,zs8):=by
 have hi:ascN (insK ns (f,zs8)):=insK_asc ha hf
 have h1:fnd ns (gn ns a).1=some a:=fnd_at ha hn
 have hM:Mof ns (gn ns a).1=some (gn ns a).2:=Mof_some.2 ⟨a,h1,rfl⟩
 have hne:(gn ns a).1≠f:=hf _ (gn_mem hn)
 have hM2:Mof (insK ns (f,zs8)) (gn ns a).1=some (gn ns a).2:=by
  rw [Mof_ins ha hf];unfold updM1;rw [if_neg hne];exact hM
 obtain ⟨m,h2,_⟩:=Mof_some.1 hM2
 refine ⟨m,fnd_lt h2,fnd_frame h2,?_⟩
 have hsf:=setN_fr (i:=i) (w:=w) hn hf
 refine ext_asc (setN_asc hi (fnd_lt h2)) (insK_asc (setN_asc ha hn) hsf) fun g=>?_
 rw [Mof_set hi h2,Mof_ins (setN_asc ha hn) hsf,show Mof (insK ns (f,zs8))=updM1 (Mof ns) f (some zs8) from Mof_ext (Mof_ins ha hf),show Mof (setN ns a i w)=updW (Mof ns) (gn ns a).1 i w from Mof_ext (Mof_set ha h1)]
 unfold updW updM1
 by_cases e2:g=(gn ns a).1
 ·subst e2;simp [hne]
 ·by_cases e1:g=f
  ·subst e1;simp [e2]
  ·simp [e1,e2]
theorem insS_at {t:Tb} {f:Int} (ht:tbOK t):insS [tAV t,I f] (tMs t)=some (.agg [I t.1,.sl 2 1 9 0 (t.2.1.length+1),.sl 1 1 2 0 t.2.2.length],tMs t++[.vec 1 9 false (nrows (insK t.2.1 (f,zs8)))]):=by
 refine specG_eq (ι:={x:Tb×Int // tbOK x.1}) (A:=fun x=>[tAV x.1.1,I x.1.2]) (M:=fun x=>tMs x.1.1) (R:=fun x=>retOf [.agg [I x.1.1.1,.sl 2 1 9 0 (x.1.1.2.1.length+1),.sl 1 1 2 0 x.1.1.2.2.length]]) (O:=fun x=>tMs x.1.1++[.vec 1 9 false (nrows (insK x.1.1.2.1 (x.1.2,zs8)))]) ⟨(t,f),ht⟩ fun j hA hM=>?_
 obtain ⟨⟨t',f'⟩,h'⟩:=j
 simp only [List.cons.injEq,and_true,I,AV.v.injEq,Value.int.injEq,true_and] at hA
 have e1:=tAV_inj hA.1 hM
 subst e1
 obtain ⟨_,rfl⟩:=hA
 exact ⟨rfl,rfl⟩
theorem callIn {a b:Nat} (hab:a≠b) {r:Int} {ns:NdL} {ds:List Dp} {f:Int} (ht:tbOK (r,ns,ds)) {v v2:Nat} (M:Nat→AO) (nid:Nat) (ha:a<nid) (hb:b<nid)
  (h0:M a=.vec (v+1) 9 false (nrows ns)) (h1:M b=.vec (v2+1) 2 false (prows ds)) :
  callG insS [.agg [I r,.sl a (v+1) 9 0 ns.length,.sl b (v2+1) 2 0 ds.length],I f] M nid=some (.agg [I r,.sl nid 1 9 0 (ns.length+1),.sl b (v2+1) 2 0 ds.length],[(a,.vec (v+1) 9 false (nrows ns)),(b,.vec (v2+1) 2 false (prows ds)),(nid,.vec 1 9 false (nrows (insK ns (f,zs8))))]):=by
 have hF:=insS_at (t:=(r,ns,ds)) (f:=f) ht
 simp only [tAV,tMs] at hF
 unfold callG
 have hba:b≠a:=fun e=>hab e.symm
 have n1:nid≠a:=by omega
 have n2:nid≠b:=by omega
 have hg:gat M 64 (nmsL [.agg [I r,.sl a (v+1) 9 0 ns.length,.sl b (v2+1) 2 0 ds.length],I f]) []=[a,b]:=by
  simp [gat,nmsL,AV.nms,AO.nms,h0,h1,hab,hba]
 simp only [hg]
 rw [if_pos ?cg]
 case cg=>simp [CallG,nmsL,AV.nms,AO.nms,Led,curBL,AV.curB,AO.curB,verOf,notDead,h0,h1,hab,hba]
 have e1:1+v=v+1:=by omega
 have e2:1+v2=v2+1:=by omega
 simp [renL,AV.ren,AO.ren,posN,canO,nmsL,h0,h1,hF,RetG,getL,AV.nms,AO.nms,updN,nmN,shN,verOf,rng,Led,hab,hba,e1,e2]
theorem rpS_at {t:Tb} {n i w:Nat} (h:rpOK (t,n,i,w)):rpS [tAV t,I (gn t.2.1 n).1,I i,U w] (tMs t)=some (.tup [],tMs (t.1,setN t.2.1 n i w,t.2.2)):=by
 refine specG_eq (ι:={x:RpD // rpOK x}) (A:=fun x=>[tAV x.1.1,I (gn x.1.1.2.1 x.1.2.1).1,I x.1.2.2.1,U x.1.2.2.2]) (M:=fun x=>tMs x.1.1) (R:=fun x=>.tup []) (O:=fun x=>tMs (x.1.1.1,setN x.1.1.2.1 x.1.2.1 x.1.2.2.1 x.1.2.2.2,x.1.1.2.2)) ⟨(t,n,i,w),h⟩ fun j hA hM=>?_
 obtain ⟨⟨t',n',i',w'⟩,h'⟩:=j
 simp only [List.cons.injEq,and_true,I,U,AV.v.injEq,Value.int.injEq,true_and,Int.ofNat_inj] at hA
 have e1:=tAV_inj hA.1 hM
 subst e1
 obtain ⟨_,e2,rfl,rfl⟩:=hA
 have e3:n'=n:=by
  have k1:=fnd_at h'.2.1 h'.2.2.1
  have k2:=fnd_at h.2.1 h.2.2.1
  simp only at k1 k2 e2
  rw [← gn_getD] at k1 k2
  rw [e2,k2] at k1
  simpa using k1.symm
 subst e3
 exact ⟨rfl,rfl⟩
theorem callRp {a b:Nat} (hab:a≠b) {r:Int} {ns:NdL} {ds:List Dp} {n i w:Nat} {f:Int} (h:rpOK ((r,ns,ds),n,i,w)) (hf:f=(gn ns n).1) {v v2:Nat} (M:Nat→AO) (nid:Nat)
  (h0:M a=.vec (v+1) 9 false (nrows ns)) (h1:M b=.vec (v2+1) 2 false (prows ds)) :
  callG rpS [.agg [I r,.sl a (v+1) 9 0 ns.length,.sl b (v2+1) 2 0 ds.length],I f,I i,U w] M nid=some (.tup [],[(a,.vec (v+1) 9 false (nrows (setN ns n i w))),(b,.vec (v2+1) 2 false (prows ds))]):=by
 subst hf
 have hF:=rpS_at h
 have hsl:(setN ns n i w).length=ns.length:=setN_len
 simp only [tAV,tMs] at hF
 unfold callG
 have hba:b≠a:=fun e=>hab e.symm
 have hg:gat M 64 (nmsL [.agg [I r,.sl a (v+1) 9 0 ns.length,.sl b (v2+1) 2 0 ds.length],I (gn ns n).1,I i,U w]) []=[a,b]:=by
  simp [gat,nmsL,AV.nms,AO.nms,h0,h1,hab,hba,U]
 simp only [hg]
 rw [if_pos ?cg]
 case cg=>simp [CallG,nmsL,AV.nms,AO.nms,Led,curBL,AV.curB,AO.curB,verOf,notDead,h0,h1,hab,hba,U]
 have e1:1+v=v+1:=by omega
 have e2:1+v2=v2+1:=by omega
 simp only [U] at hF ⊢
 simp [renL,AV.ren,AO.ren,posN,canO,nmsL,h0,h1,hF,RetG,getL,AV.nms,AO.nms,updN,nmN,shN,verOf,rng,Led,hab,hba,e1,e2]
theorem s150 (X:AX) (hX:XOK Tryz.prog X) (hw:X.W wT) (hen:∀ k f d a x h M n,X.call 187 [.agg [I k,I f,B d,B a,B x,B h]] M n=some (.tup [U (encR (k,f,d,a,x,h)).1,I (encR (k,f,d,a,x,h)).2],[])):PSound Tryz.prog 150 (specF (ι:=En) (fun x=>[EnV x]) fun x=>retOf [U (encR x).1]):=by
 refine psound_spec hX mixed Tryz.func150 rfl fun ⟨k,f,d,a,x,h⟩ w0 G=>⟨by show 1≤11;decide,rfl,?_⟩
 show AW ⟨Tryz.prog,X,11,w0,.pure G⟩ _ _ _
 have hc:Cx.OK ⟨Tryz.prog,X,11,w0,.pure G⟩:=⟨hX,mixed⟩
 have hen':=hen k f d a x h
 obtain ⟨e,he⟩:∃ e,e=encR (k,f,d,a,x,h):=⟨_,rfl⟩
 rw [← he] at hen' ⊢
 obtain ⟨e1,e2⟩:=e
 simp only [EnV,U] at hen' ⊢
 have zS:=hen'
 refine dM64 ?_
 repeat (intro K hK)
 clear zS
 refine ⟨by simp,?_⟩
 simp [leaves_iff,Tryz.f150]
 try exact dt
end Go.AM
namespace Go.AM
open Go Go.Proofs
theorem tabW_inv {x:Nat} {g:Int} (h:tabW x=some g):0≤g∧g≤4294967295∧x=g.toNat*256+4:=by
 have hr:=decR_rng x
 unfold tabW at h
 split at h
 case isFalse=>simp at h
 rename_i hk
 simp only [Option.some.injEq] at h
 rw [h] at hr
 refine ⟨hr.1,hr.2,?_⟩
 by_cases he:encR (prs x)=((x:Int),0)
 ·rw [decR_z he] at hk h
  simp only at hk h
  have hb:¬ badF (prs x):=fun hb=>by rw [encR_f (by rw [hk];decide) hb] at he;simp at he
  cases hf:frmE (prs x) with
  | false=>rw [encR_m (by rw [hk];decide) hb hf] at he;simp at he
  | true =>
   rw [encR_z (by rw [hk];decide) hb hf] at he
   simp only [Prod.mk.injEq,and_true] at he
   unfold frmE noFl at hf
   rw [if_neg (by rw [hk];decide),if_neg (by rw [hk];decide),if_neg (by rw [hk];decide),if_pos (.inr hk)] at hf
   simp only [Bool.and_eq_true,Bool.not_eq_true'] at hf
   unfold encW fb at he
   rw [hk,h,hf.1,hf.2.1,hf.2.2.1,hf.2.2.2] at he
   simp at he
   omega
 ·rw [decR_n he] at hk
  exact absurd hk (by decide)
def unlW (w:Nat) (ws:List Nat):List Nat:=ws.map fun x=>if x=w then 0 else x
def unl (w:Nat) (ns:NdL):NdL:=ns.map fun n=>(n.1,unlW w n.2)
@[simp] theorem unl_len {w:Nat} {ns:NdL}:(unl w ns).length=ns.length:=by simp [unl]
@[simp] theorem unlW_len {w:Nat} {ws:List Nat}:(unlW w ws).length=ws.length:=by simp [unlW]
theorem fnd_unl {w:Nat} {ns:NdL} {f:Int}:fnd (unl w ns) f=fnd ns f:=by
 unfold fnd unl
 rw [List.findIdx_map,List.length_map]
 rfl
theorem Mof_unl {w:Nat} {ns:NdL} {f:Int}:Mof (unl w ns) f=(Mof ns f).map (unlW w):=by
 unfold Mof
 rw [fnd_unl]
 cases fnd ns f with
 | none=>rfl
 | some i =>
  simp only [Option.map_some,unl,List.getD_eq_getElem?_getD,List.getElem?_map]
  cases ns[i]?<;>rfl
theorem unl_asc {w:Nat} {ns:NdL} (h:ascN ns):ascN (unl w ns):=by
 unfold ascN unl
 rw [List.pairwise_map]
 exact h
theorem unl_ok {w:Nat} {ns:NdL} (h:∀ x∈ns,ndOK x):∀ x∈unl w ns,ndOK x:=fun x hx=>by
 obtain ⟨y,hy,rfl⟩:=List.mem_map.1 hx
 refine ⟨by simp [(h y hy).1],fun z hz=>?_⟩
 obtain ⟨u,hu,rfl⟩:=List.mem_map.1 hz
 have:=(h y hy).2 u hu
 split
 ·decide
 ·exact this
theorem delK_ok {ns:NdL} {g:Int} (h:∀ x∈ns,ndOK x):∀ x∈delK ns g,ndOK x:=fun x hx=>h x (mem_delK.1 hx).1
theorem unl_one {M:Mm} {root:Int} (hV:VM WA M root) {d q:Nat} (hx:(d,q)∈Pos) (hd:d<2) {f:Int} (hf:frP WA M root d q=some f) {i:Nat} (hi:i<8) {g:Int} (h0:tabW (wM M f i)=some g) {h:Int} {us:List Nat} (hm:M h=some us) :
  unlW (g.toNat*256+4) us=if h=f then us.set i 0 else us:=by
 obtain ⟨g0,g1,gw⟩:=tabW_inv h0
 obtain ⟨d',q',hx',hf'⟩:=hV.all h us hm
 obtain ⟨us',hm',h8,hok⟩:=hV.nd d' q' hx' h hf'
 rw [hm] at hm'
 simp only [Option.some.injEq] at hm'
 subst hm'
 have hgP:frP WA M root (d+1) (q*8+i)=some g:=by
  simp only [frP]
  rw [show (q*8+i)/8=q by omega,show (q*8+i)%8=i by omega,hf]
  exact h0
 have key:∀ j,j<8→us.getD j 0=g.toNat*256+4→h=f∧j=i:=fun j hj e=>by
  have hj':=hok j hj
  have htw:tabW (us.getD j 0)=some g:=by
   rw [e,tabW_tw (g:=g.toNat) (by omega),Int.toNat_of_nonneg g0]
  have hd':d'≤2:=by have:=mem_Pos.1 hx';simp only at this;omega
  by_cases e2:d'=2
  ·subst e2
   have:=(WD_ok fun _=>true).flat _ hj'
   rw [show (WD fun _=>true).tab=tabW from rfl,htw] at this
   simp at this
  ·have hgP':frP WA M root (d'+1) (q'*8+j)=some g:=by
    simp only [frP]
    rw [show (q'*8+j)/8=q' by omega,show (q'*8+j)%8=j by omega,hf']
    show tabW (wM M h j)=some g
    unfold wM
    rw [hm];exact htw
   have hin:=hV.inj _ _ _ _ (Pos_dn hx' (by omega) hj) (Pos_dn hx hd hi) g hgP' hgP
   have e3:d'=d:=by omega
   have e4:q'=q:=by omega
   subst e3 e4
   rw [hf] at hf'
   simp only [Option.some.injEq] at hf'
   exact ⟨hf'.symm,by omega⟩
 refine List.ext_getElem (by split<;>simp) fun j h1 h2=>?_
 have hj:j<8:=by simp at h1;omega
 have hg:us.getD j 0=us[j]'(by simpa using h1):=by rw [List.getD_eq_getElem?_getD,List.getElem?_eq_getElem (by simpa using h1)];rfl
 have k:=key j hj
 rw [hg] at k
 simp only [unlW,List.getElem_map]
 by_cases e:us[j]'(by simpa using h1)=g.toNat*256+4
 ·obtain ⟨rfl,rfl⟩:=k e
  rw [if_pos e]
  simp
 ·rw [if_neg e]
  by_cases e2:h=f
  ·subst e2
   simp only [if_true]
   rw [List.getElem_set]
   split
   ·rename_i e3
    subst e3
    exfalso
    apply e
    unfold wM at gw
    rw [hm] at gw
    simp only at gw
    rw [← hg]
    exact gw
   ·rfl
  ·simp only [if_neg e2]
theorem Mof_kp {ns:NdL} (ha:ascN ns) {fr:List Int} (x:Int):Mof (kpF fr ns) x=if x∈fr then none else Mof ns x:=by
 have hk:ascN (kpF fr ns):=List.Pairwise.filter _ ha
 split
 ·rename_i h
  refine (Mof_none hk).2 fun n hn e=>?_
  have:=(List.mem_filter.1 hn).2
  unfold inF at this
  rw [e] at this
  simp [h] at this
 ·rename_i h
  cases hm:Mof ns x with
  | none=>exact (Mof_none hk).2 fun n hn=>(Mof_none ha).1 hm n (List.mem_filter.1 hn).1
  | some us =>
   refine (mem_Mof hk).1 (List.mem_filter.2 ⟨(mem_Mof ha).2 hm,?_⟩)
   unfold inF
   simp [h]
theorem kpF_asc {ns:NdL} (ha:ascN ns) {fr:List Int}:ascN (kpF fr ns):=List.Pairwise.filter _ ha
theorem round {r:Int} {ns:NdL} {ds:List Dp} (h:Pv (r,ns,ds)) (ht:tbOK (r,ns,ds)) {p:Nat} (hp:p<512) {g:Int} {l w:Nat} (hw:wlk (Mof ns) r p=(g,l,w)) (hl:l<2) (hlf:∀ j,j<8→tabW (wM (Mof ns) g j)=none) :
  ∃ f k,frP WA (Mof ns) r (1 - l) (p/8^(l+2))=some f∧tabW (wM (Mof ns) f (dgt p (l+1)))=some g∧fnd ns f=some k∧f≠g∧0≤g∧g≤4294967295 ∧
   Mof (unl (g.toNat*256+4) (delK ns g))=updM1 (updW (Mof ns) f (dgt p (l+1)) 0) g none∧Pv (r,unl (g.toNat*256+4) (delK ns g),ds)∧tbOK (r,unl (g.toNat*256+4) (delK ns g),ds) ∧
   wlk (Mof (unl (g.toNat*256+4) (delK ns g))) r p=(f,l+1,0)∧unl (g.toNat*256+4) (delK ns g)=kpF [g] (setN ns k (dgt p (l+1)) 0):=by
 obtain ⟨a1,a2,a3,a4,a5,a6⟩:=wlk_at h.vm hp hw
 simp only at a3
 have hq:p/8^(l+1)=p/8^(l+2)*8+dgt p (l+1):=by
  unfold dgt
  rw [Nat.pow_succ 8 (l+1),← Nat.div_div_eq_div_mul]
  omega
 have hd8:=dgt_lt p (l+1)
 obtain ⟨f,hf,htb⟩:∃ f,frP WA (Mof ns) r (1 - l) (p/8^(l+2))=some f∧tabW (wM (Mof ns) f (dgt p (l+1)))=some g:=by
  rw [show 2 - l=(1 - l)+1 by omega,hq] at a3
  simp only [frP] at a3
  rw [show (p/8^(l+2)*8+dgt p (l+1))/8=p/8^(l+2) by omega,show (p/8^(l+2)*8+dgt p (l+1))%8=dgt p (l+1) by omega] at a3
  cases hc:frP WA (Mof ns) r (1 - l) (p/8^(l+2)) with
  | none=>rw [hc] at a3;simp at a3
  | some f=>rw [hc] at a3;exact ⟨f,rfl,a3⟩
 have hx:(1 - l,p/8^(l+2))∈Pos:=by
  have:=Pos_up (d:=1 - l) (q:=p/8^(l+1)) (by rw [show 1 - l+1=2 - l by omega];exact a2)
  rwa [hq,show (p/8^(l+2)*8+dgt p (l+1))/8=p/8^(l+2) by omega] at this
 obtain ⟨g0,g1,gw⟩:=tabW_inv htb
 have hpr:=h.vm.prune hx (by omega) hf hd8 (w:=0) htb hlf tab0 (ok0 (2 - (1 - l)))
 obtain ⟨us,hus,hu8,_⟩:=h.vm.nd _ _ hx f hf
 obtain ⟨k,hk,_⟩:=Mof_some.1 hus
 have hfg:f≠g:=fun e=>by
  have:=h.vm.inj _ _ _ _ hx a2 f hf (by rw [e];exact a3)
  omega
 have hM:Mof (unl (g.toNat*256+4) (delK ns g))=updM1 (updW (Mof ns) f (dgt p (l+1)) 0) g none:=by
  refine Mof_ext fun x=>?_
  rw [Mof_unl,Mof_del h.asc]
  unfold updM1 updW
  by_cases e:x=g
  ·simp [e]
  ·simp only [if_neg e]
   cases hm:Mof ns x with
   | none =>
    split
    ·rename_i e2;rw [e2,hus] at hm;simp at hm
    ·rfl
   | some vs =>
    simp only [Option.map_some]
    rw [unl_one h.vm hx (by omega) hf hd8 htb hm]
    by_cases e2:x=f
    ·subst e2;rw [hm];simp
    ·simp [e2]
 have hasc:ascN (unl (g.toNat*256+4) (delK ns g)):=unl_asc (delK_asc h.asc)
 have hsa:=setN_asc h.asc (i:=dgt p (l+1)) (w:=0) (fnd_lt hk)
 refine ⟨f,k,hf,htb,hk,hfg,g0,g1,hM,⟨hasc,?_⟩,⟨unl_ok (delK_ok ht.1),?_,ht.2.2⟩,?_,?_⟩
 ·show VM WA (Mof (unl _ _)) r
  rw [hM];exact hpr.1
 ·have h1:(delK ns g).length≤ns.length:=List.length_filter_le _ _
  have h2:=ht.2.1
  show (unl _ _).length≤_
  simp only [unl_len]
  simp only at h2
  omega
 ·have hfr:frP WA (Mof (unl (g.toNat*256+4) (delK ns g))) r (2 - (l+1)) (p/8^(l+1+1))=some f:=by
   rw [hM,show 2 - (l+1)=1 - l by omega,hpr.2 _ _ hx,if_neg (by omega)]
   exact hf
  have hwf:wM (Mof (unl (g.toNat*256+4) (delK ns g))) f (dgt p (l+1))=0:=by
   rw [hM,wM_updM1,if_neg hfg,wM_updW hus (by omega),if_pos ⟨rfl,rfl⟩]
  rw [wlk_of hp (by omega) hfr (.inl (by rw [hwf];exact tab0)),hwf]
 ·refine ext_asc hasc (kpF_asc hsa) fun x=>?_
  rw [hM,Mof_kp hsa,Mof_set h.asc hk]
  unfold updM1
  simp
end Go.AM
namespace Go.AM
open Go Go.Proofs
theorem lowD_split {ds:List Dp} {g:Int} (h:lowD ds g<ds.length):ds=ds.take (lowD ds g)++gp ds (lowD ds g)::ds.drop (lowD ds g+1):=by
 rw [gp_eq h,List.getElem_cons_drop,List.take_append_drop]
theorem end_nd {r:Int} {ns:NdL} {ds:List Dp} (h:Pv (r,ns,ds)) {p:Nat} (hp:p<512) {g:Int} {l w:Nat} (hw:wlk (Mof ns) r p=(g,l,w)):fnd ns g=some (lsT (r,ns,ds) p).1∧(lsT (r,ns,ds) p).2=(l,w)∧(gn ns (lsT (r,ns,ds) p).1).1=g∧Mof ns g=some (gn ns (lsT (r,ns,ds) p).1).2∧(lsT (r,ns,ds) p).1<ns.length:=by
 have h1:=h.walk hp
 simp only at h1
 rw [hw] at h1
 exact ⟨h1.2.1,h1.2.2,fnd_frame h1.2.1,Mof_some.2 ⟨_,h1.2.1,rfl⟩,fnd_lt h1.2.1⟩
end Go.AM
namespace Go.AM
open Go Go.Proofs
theorem lowD_lt {ds:List Dp} {g:Int} {k:Nat} (h:k<lowD ds g):¬ g≤(gp ds k).1:=by
 have hk:k<ds.length:=Nat.lt_of_lt_of_le h lowD_le
 have:=List.not_of_lt_findIdx (p:=fun d:Dp=>decide (g≤d.1)) (xs:=ds) h
 rw [gp_eq hk]
 simpa using this
theorem lowD_ge {ds:List Dp} {g:Int} (h:lowD ds g<ds.length):g≤(gp ds (lowD ds g)).1:=by
 have:=List.findIdx_getElem (p:=fun d:Dp=>decide (g≤d.1)) (xs:=ds) (w:=h)
 rw [gp_eq h]
 exact of_decide_eq_true this
theorem insL_eq {ds:List Dp} (ha:ascK ds) {g f:Int} (hn:∀ d∈ds,d.1≠g):insL ds g f=insK ds (g,f):=by
 have h1:∀ a∈ds.take (lowD ds g),¬ (g,f).1<a.1:=fun a ha'=>by
  obtain ⟨k,hk,rfl⟩:=List.getElem_of_mem ha'
  simp only [List.length_take] at hk
  rw [List.getElem_take]
  have:=lowD_lt (ds:=ds) (g:=g) (k:=k) (by omega)
  rw [gp_eq (by omega)] at this
  simp only
  omega
 unfold insL
 by_cases h:lowD ds g<ds.length
 ·have h2:=lowD_ge (ds:=ds) (g:=g) h
  have hm:gp ds (lowD ds g)∈ds:=by rw [gp_eq h];exact List.getElem_mem h
  have h3:=hn _ hm
  have e:=insK_hit (n:=(g,f)) (x:=gp ds (lowD ds g)) (r:=ds.drop (lowD ds g+1)) (l:=ds.take (lowD ds g)) h1 (by simp only;omega)
  rw [← lowD_split h] at e
  rw [e,gp_eq h,List.getElem_cons_drop]
 ·have e:=insK_none (n:=(g,f)) (l:=ds.take (lowD ds g)) h1
  rw [List.take_of_length_le (by omega)] at e
  rw [List.take_of_length_le (by omega),List.drop_of_length_le (by omega),e]
theorem grp_abs {r:Int} {ns:NdL} {ds:List Dp} (hv:Vt (r,ns,ds)) {g:Nat} (hg:g<64) (h0:(decR (lsT (r,ns,ds) (g*8)).2.2).1.2.2.2.2.2=false):∀ d∈ds,d.1≠(g:Int):=fun d hd e=>by
 have hm:(g:Int)∈ds.map (·.1):=List.mem_map.2 ⟨d,hd,e⟩
 have hdp:=hv.dep
 simp only at hdp
 rw [hdp] at hm
 obtain ⟨k,hk,e2,hb⟩:=mem_hugM.1 hm
 have:k=g:=by omega
 subst this
 rw [hugB_last hv hk,h0] at hb
 simp at hb
end Go.AM
namespace Go.AM
open Go Go.Proofs
abbrev RdD:=Tb×Nat×Nat×List Int
def rdOK (x:RdD):Prop:=tbOK x.1∧Pv x.1∧x.2.1<512∧usB x.1.2.1 x.1.2.2 x.2.2.2=true∧x.1.2.1.length≤999000∧x.2.2.2.length≤1000∧x.2.2.2.length+x.2.2.1≤(lsT x.1 x.2.1).2.1
set_option maxHeartbeats 8000000 in
theorem s134 (X:AX) (hX:XOK Tryz.prog X) (hw:X.W wT)
  (hcl:∀ t:Tb,tbOK t→∀ M n,X.call 104 [TbV t] M n=some (TbC t n,[(n,.vec 1 9 false (nrows t.2.1)),(n+1,.vec 1 2 false (prows t.2.2))]))
  (hst:OwnR X 111 (fun t x=>0≤x∧ptO t x.toNat) fun t x=>.tup [I (lsT t x.toNat).1,I (lsT t x.toNat).2.1])
  (hdg:∀ (p l:Nat),p<512→l≤2→∀ M n,X.call 112 [I p,I l] M n=some (I (dig p l),[]))
  (hwd:∀ f:Nat,f≤4294967295→∀ M n,X.call 150 [.agg [I 4,I f,B false,B false,B false,B false]] M n=some (U ((f*256+4:Nat)),[]))
  (hin:X.call 148=callG insS) (hpu:X.call 149=callG rpS) :
  PSound Tryz.prog 134 (specF (ι:={x:RdD // rdOK x}) (fun x=>[TbV x.1.1,I x.1.2.1,I x.1.2.2.1,.rd 1 (irows x.1.2.2.2)]) fun x=>retOf [TbO (x.1.1.1,dpN x.1.1.1 x.1.1.2.2 x.1.2.1 x.1.1.2.1 x.1.2.2.2,x.1.1.2.2)]):=by
 refine psound_spec hX mixed Tryz.func134 rfl fun ⟨⟨⟨r,ns,ds⟩,p,L,fs⟩,ht,hpv,hp,hu,hl9,hf8,hlv⟩ w0 G=>⟨by show 4≤52;decide,rfl,?_⟩
 show AW ⟨Tryz.prog,X,52,w0,.pure G⟩ _ _ _
 have hc:Cx.OK ⟨Tryz.prog,X,52,w0,.pure G⟩:=⟨hX,mixed⟩
 simp only at ht hpv hp hu hl9 hf8 hlv ⊢
 have hl1:ns.length≤1000000:=ht.2.1
 have hl2:ds.length≤1000000:=ht.2.2
 have hcl':=hcl _ ht
 obtain ⟨f0,l0,w0',hwk⟩:∃ f l w,wlk (Mof ns) r p=(f,l,w):=⟨_,_,_,rfl⟩
 have hlv2:=(hpv.walk hp).2.2
 simp only at hlv2
 rw [hwk] at hlv2
 rw [hlv2] at hlv
 simp only at hlv
 have hl02:l0≤2:=(wlk_at hpv.vm hp hwk).1
 have hdp:=(deep_ok hpv ht hp hu hl9 hwk hf8 (by omega)).2
 have hdL:=fun i hi hil=>deepL hpv ht hp hu hl9 hwk i hi hil
 simp only [TbV,TbC,TbO] at hcl' ⊢
 have zS:=hcl'
 repeat' (first|(apply aw_seq_k;intro K hK)|(refine eF64 ?_)|(refine aw_cond (b:=_) (by exact rfl) (fun h=>?_) (fun h=>?_)<;>(try simp at h))|(refine eB ?_)|(refine hK _ ?_;clear hK)|(clear hK;refine hK _ ?_;clear hK)|(clear hK;clear hK;refine hK _ ?_;clear hK)|(clear hK;clear hK;clear hK;refine hK _ ?_;clear hK))
 all_goals clear zS
 refine aw_loopK (s0:=?lps1) (m0:=?lpm1) (ι:={i:Nat // i≤fs.length}) [1,2,4,8,16,17] (fun s=>[(18,I s.1)]) (fun s=>[(0,.box [I r,.sl 48 1 9 0 (dpN r ds p ns (fs.take s.1)).length,.sl 49 1 2 0 ds.length]),(48,.vec 1 9 false (nrows (dpN r ds p ns (fs.take s.1))))]) (fun s=>fs.length - s.1) ⟨0,by simp⟩ ?lhs1 ?lhm1 ?_ ?_
 case lhs1=>first|(simp [keepS];done)|(simp [keepS];rfl)
 case lhm1=>first|rfl|(simp;done)|(simp;rfl)
 ·simp only [dpN_0]
  exact dle
 ·rintro ⟨i,hi⟩
  simp only at hi ⊢
  rcases Decidable.em (i<fs.length) with hil|hil
  ·have hilI:(i:Int)<(fs.length:Int):=by omega
   obtain ⟨hpt,hnf,hf0,hf1⟩:=hdp i hil
   obtain ⟨j1,j2,⟨f',w',j3,_⟩,j4,_⟩:=hdL i (by omega) (by omega)
   have hds:=@dpN_s r ds p ns fs i hil
   have hg1:=irows_gi hil
   have hg2:=gE' hil
   obtain ⟨NS,hNS⟩:∃ NS,NS=dpN r ds p ns (fs.take i):=⟨_,rfl⟩
   rw [← hNS] at hpt hnf hds j1 j2 j3 j4 ⊢
   obtain ⟨f,hf⟩:=Int.eq_ofNat_of_zero_le hf0
   rw [hf] at hf1 hnf hds hg1 hg2
   have hwd':=hwd f (by omega)
   have hst':=hst r NS ds p ⟨by omega,hpt⟩
   obtain ⟨e1,e2,e3,e4,e5⟩:=end_nd j1 hp j3
   have ht:=j2
   have ha:=j1.asc
   have hNl:NS.length≤1000000:=ht.2.1
   unfold stD at hds
   obtain ⟨⟨a,b,c⟩,hS⟩:∃ S,S=lsT (r,NS,ds) p:=⟨_,rfl⟩
   simp only [Int.toNat_natCast] at hst' hds
   rw [← hS] at hst' hds e1 e2 e3 e5
   simp only [Prod.mk.injEq] at hst' hds e1 e2 e3 e5
   obtain ⟨rfl,rfl⟩:=e2
   have hb2:l0 - i≤2:=by omega
   have hbL:¬ ((l0 - i:Nat):Int)≤(L:Int):=by omega
   have hbL':((l0 - i:Nat):Int)≤(L:Int)↔False:=by simp [hbL]
   have hdg':=hdg p (l0 - i) hp hb2
   rw [dig_dgt hp hb2] at hdg'
   have hdl:=dgt_lt p (l0 - i)
   have haN:(a:Int)<(NS.length:Int):=by omega
   have hgn:=nrows_gi e5
   have hgnE:=nrows_gE e5
   obtain ⟨m,m1,m2,m3⟩:=insK_put ha (f:=(f:Int)) hnf (i:=dgt p (l0 - i)) (w:=f*256+4) e5
   have hil2:=@insK_len _ ((f:Int),zs8) NS
   have hin':=fun (a b:Nat) (hab:a≠b) M nid h1 h2=>@callIn a b hab r NS ds f ht 0 0 M nid h1 h2
   rw [← hin] at hin'
   have hI:=insK_asc (n:=((f:Int),zs8)) ha hnf
   obtain ⟨NT,hNT⟩:∃ NT,NT=insK NS ((f:Int),zs8):=⟨_,rfl⟩
   have hNTok:∀ x∈NT,ndOK x:=fun x hx=>by
    rw [hNT] at hx
    rcases mem_insK.1 hx with e|hx
    ·rw [e];exact ⟨rfl,fun w hw=>by simp [zs8] at hw;omega⟩
    ·exact ht.1 x hx
   rw [← hNT] at hin' m1 m2 m3 hil2 hI
   have hrp:rpOK ((r,NT,ds),m,dgt p (l0 - i),f*256+4):=⟨⟨hNTok,by show NT.length≤1000000;rw [hil2];omega,hl2⟩,hI,m1,hdl,by show f*256+4<2^64;omega⟩
   have hpu':=fun (a b:Nat) (hab:a≠b) M nid=>@callRp a b hab r NT ds m (dgt p (l0 - i)) (f*256+4) _ hrp rfl 0 0 M nid
   rw [← hpu,m3,← hds,m2,e3] at hpu'
   rw [hil2] at hpu'
   obtain ⟨wd,hwd0⟩:∃ wd,wd=f*256+4:=⟨_,rfl⟩
   rw [← hwd0] at hwd' hpu'
   obtain ⟨⟨fr,ws⟩,hm⟩:∃ m,m=gn NS a:=⟨_,rfl⟩
   rw [← hm] at hgn hgnE e3
   simp only at hgn hgnE e3
   subst e3
   obtain ⟨dg,hdg0⟩:∃ dg,dg=dgt p (l0 - i):=⟨_,rfl⟩
   rw [← hdg0] at hdg' hpu'
   obtain ⟨cs,hcs⟩:∃ cs,cs=wcs ws:=⟨_,rfl⟩
   rw [← hcs] at hgn hgnE
   clear hcs hm hS hwd0 hdg0
   have hsl:(dpN r ds p ns (fs.take (i+1))).length=NS.length+1:=by rw [hds,← m3,setN_len,hil2]
   simp only [U,Nat.zero_add] at hpu' hwd' hin'
   have zS:=jj hilI<|jj hg1<|jj hg2<|jj hst'<|jj hwd'<|jj hdg'<|jj hbL'<|jj e5<|jj haN<|jj hgn<|jj hgnE<|jj hin'<|hpu'
   repeat' (first|(apply aw_seq_k;intro K hK)|(refine eF64 ?_)|(refine aw_cond (b:=_) (by exact rfl) (fun h=>?_) (fun h=>?_)<;>(try simp at h))|(refine eB ?_)|(refine hK _ ?_;clear hK)|(clear hK;refine hK _ ?_;clear hK)|(clear hK;clear hK;refine hK _ ?_;clear hK)|(clear hK;clear hK;clear hK;refine hK _ ?_;clear hK))
   all_goals clear zS
   trace_state
   refine ⟨i+1,?_,by omega,by omega⟩
   simp only [hsl]
   refine le_turn (s1:=?tus2) (m1:=?tum2) [(512,48)] [1,2,4,8,16,17,18] [0,16,48,49,512] ?tua2 ?tub2 ?tuc2 ?tud2 ?tue2 ?tuf2 ?tug2
   case tua2=>first|(simp [keepS];done)|(simp [keepS];rfl)
   case tub2=>first|(simp;done)|(simp;rfl)
   case tuc2=>simp
   case tud2=>simp
   case tue2=>simp
   case tuf2=>simp
   case tug2 =>
    simp [swp,vr]
    exact dle
  ·obtain rfl:i=fs.length:=by omega
   rw [List.take_length]
   repeat' (first|(apply aw_seq_k;intro K hK)|(refine eM64o ?_)|(refine aw_cond (b:=_) (by exact rfl) (fun h=>?_) (fun h=>?_)<;>(try simp at h))|(refine eB ?_)|(refine hK _ ?_;clear hK)|(clear hK;refine hK _ ?_;clear hK)|(clear hK;clear hK;refine hK _ ?_;clear hK)|(clear hK;clear hK;clear hK;refine hK _ ?_;clear hK))
   have tkR:List.take (dpN r ds p ns fs).length (nrows (dpN r ds p ns fs))=nrows (dpN r ds p ns fs):=List.take_of_length_le (by simp)
   have tkd:List.take ds.length (prows ds)=prows ds:=List.take_of_length_le (by simp)
   refine ⟨by simp,?_⟩
   simp [leaves_iff,Tryz.f134,tkR,tkd]
   try exact dt
end Go.AM
namespace Go.AM
open Go Go.Proofs
theorem huge_kind {w:Nat} (h:(decR w).2=0):suitB (decR w).1 0=decide (¬ ((decR w).1.1=4∨(decR w).1.2.2.2.2.2=true)):=by
 have hk:=@kind_huge w h
 unfold suitB
 by_cases h0:(decR w).1.1=0
 ·rw [if_pos h0]
  cases hh:(decR w).1.2.2.2.2.2 with
  | false=>simp [h0]
  | true=>have:=hk hh;omega
 ·rw [if_neg h0]
  by_cases h4:(decR w).1.1=4
  ·simp [h4]
  ·rw [if_neg h4]
   by_cases h1:(decR w).1.1=1
   ·simp [h1]
   ·rw [if_neg h1]
    cases hh:(decR w).1.2.2.2.2.2 with
    | false=>simp [h4]
    | true=>exact absurd (hk hh) h1
set_option maxHeartbeats 8000000 in
theorem s52 (X:AX) (hX:XOK Tryz.prog X) (hw:X.W wT)
  (hwa:∀ (t:Tb) (x:Int),tbOK t→∀ M n,X.call 36 [TbV t,I x] M n=some (.tup [U (walkT t x).1,I (walkT t x).2.1,I (walkT t x).2.2],[]))
  (hdc:∀ n:Nat,n<2^64→∀ M k,X.call 131 [U n] M k=some (.tup [EnV (decR n).1,I (decR n).2],[]))
  (hsu:∀ (e:En) (l:Nat) M n,X.call 132 [EnV e,I l] M n=some (B (suitB e l),[]))
  (hus:∀ (t:Tb) (fs:List Int),tbOK t→fs.length≤1000→∀ M n,X.call 133 [TbV t,.rd 1 (irows fs)] M n=some (B (usB t.2.1 t.2.2 fs),[]))
  (hde:∀ (t:Tb) (p L:Nat) (fs:List Int),rdOK (t,p,L,fs)→∀ M n,X.call 134 [TbV t,I p,I L,.rd 1 (irows fs)] M n=some (TbC (t.1,dpN t.1 t.2.2 p t.2.1 fs,t.2.2) n,outT (t.1,dpN t.1 t.2.2 p t.2.1 fs,t.2.2) n))
  (hst:OwnR X 111 (fun t x=>0≤x∧ptO t x.toNat) fun t x=>.tup [I (lsT t x.toNat).1,I (lsT t x.toNat).2.1]) :
  PSound Tryz.prog 52 (specF (ι:={x:StD // stOK x}) (fun x=>[TbV x.1.1,I x.1.2.1,U x.1.2.2.1,.rd 1 (irows x.1.2.2.2)]) fun x=>retOf [TbO (setP x.1.1 x.1.2.1 x.1.2.2.1 x.1.2.2.2).1,I (setP x.1.1 x.1.2.1 x.1.2.2.1 x.1.2.2.2).2]):=by
 refine psound_spec hX mixed Tryz.func52 rfl fun ⟨⟨⟨r,ns,ds⟩,pI,w,fs⟩,ht,hl9,hw64,hf8⟩ w0 G=>⟨by show 4≤79;decide,rfl,?_⟩
 show AW ⟨Tryz.prog,X,79,w0,.pure G⟩ _ _ _
 have hc:Cx.OK ⟨Tryz.prog,X,79,w0,.pure G⟩:=⟨hX,mixed⟩
 simp only at hl9 hw64 hf8 ht ⊢
 have hwa':=hwa _ pI ht
 have hl1:ns.length≤1000000:=ht.2.1
 have hl2:ds.length≤1000000:=ht.2.2
 have tkz:∀ l:List (List AV),List.take 0 l=[]:=fun l=>rfl
 rcases Decidable.em (ckd (r,ns,ds) pI 512≠0) with hk|hk
 ·have e:setP (r,ns,ds) pI w fs=(zT,ckd (r,ns,ds) pI 512):=by unfold setP;rw [if_pos hk]
  rw [e]
  rw [walkT_n (by exact hk)] at hwa'
  obtain ⟨c,hc0⟩:∃ c,c=ckd (r,ns,ds) pI 512:=⟨_,rfl⟩
  rw [← hc0] at hwa' hk ⊢
  simp only [TbV,TbO,zT,U] at hwa' ⊢
  have zS:=jj hwa'<|hk
  refine dM64 ?_
  repeat (intro K hK)
  clear zS
  refine ⟨by simp,?_⟩
  simp [leaves_iff,Tryz.f52,nrows,prows]
  try exact dt
 ·obtain ⟨hpv,hp0,hp1⟩:=ckd_pt ht hk
  obtain ⟨p,rfl⟩:=Int.eq_ofNat_of_zero_le hp0
  have hp:p<512:=by omega
  have hz:ckd (r,ns,ds) p 512=0:=by omega
  rw [walkT_z hz,Int.toNat_natCast] at hwa'
  have hdc':=hdc w hw64
  have hlw:=lsT_u64 ht hpv hp
  have hlv:=(hpv.walk hp).2.2
  obtain ⟨f0,l0,w0',hwk⟩:∃ f l w,wlk (Mof ns) r p=(f,l,w):=⟨_,_,_,rfl⟩
  obtain ⟨hl02,_,_,_,hwt,hwok⟩:=wlk_at hpv.vm hp hwk
  simp only at hlv
  rw [hwk] at hlv
  simp only at hlv
  have hus':=hus (r,ns,ds) fs ht hf8
  have eS:setP (r,ns,ds) p w fs=if (decR w).2≠0∨(decR w).1.1=0∨(decR w).1.1=4∨(decR w).1.2.2.2.2.2=true then (zT,3)
    else if w0'≠0 then (zT,7)
    else if fs.length=l0∧usB ns ds fs=true then (putT (r,dpN r ds p ns fs,ds) p w,0)
    else (zT,1):=by
   unfold setP
   rw [if_neg hk,Int.toNat_natCast,hlv]
  rw [eS]
  rw [hlv] at hwa' hlw
  simp only at hwa' hlw
  have hhk:=@huge_kind w
  have hsu':=hsu (decR w).1 0
  obtain ⟨⟨⟨k,f,d,a,x,h⟩,e⟩,hE⟩:∃ r,r=decR w:=⟨_,rfl⟩
  rw [← hE] at hdc' hhk hsu' ⊢
  clear eS hE hwa hdc hsu hus
  simp only [TbV,TbO,zT,EnV,U] at hwa' hdc' hus' hhk hsu' ⊢
  rcases Decidable.em (e≠0∨k=0∨k=4∨h=true) with hb|hb
  ·rw [if_pos hb]
   rcases Decidable.em (e=0) with he|he
   ·rcases Decidable.em (k=0) with hk1|hk1
    ·have zS:=jj hwa'<|jj hdc'<|jj he<|hk1
     refine dM64 ?_
     repeat (intro K hK)
     clear zS
     all_goals refine ⟨by simp,?_⟩
     all_goals simp [leaves_iff,Tryz.f52,nrows,prows]
     all_goals try exact dt
    ·have hh4:k=4∨h=true:=by
      rcases hb with hb|hb|hb|hb
      ·exact absurd he hb
      ·exact absurd hb hk1
      ·exact .inl hb
      ·exact .inr hb
     have hs:=hhk he
     rw [decide_eq_false (fun hn=>hn hh4)] at hs
     rw [hs] at hsu'
     have hsu'':=hsu'
     rw [show ((0:Nat):Int)=(0:Int) from rfl] at hsu''
     have zS:=jj hwa'<|jj hdc'<|jj he<|jj hk1<|hsu''
     refine dM64 ?_
     repeat (intro K hK)
     clear zS
     all_goals refine ⟨by simp,?_⟩
     all_goals simp [leaves_iff,Tryz.f52,nrows,prows]
     all_goals try exact dt
   ·have zS:=jj hwa'<|jj hdc'<|he
    refine dM64 ?_
    repeat (intro K hK)
    clear zS
    all_goals refine ⟨by simp,?_⟩
    all_goals simp [leaves_iff,Tryz.f52,nrows,prows]
    all_goals try exact dt
  ·rw [if_neg hb]
   obtain ⟨rfl,hk1,hk2,rfl⟩:e=0∧k≠0∧k≠4∧h=false:=by
    refine ⟨by omega,by omega,by omega,?_⟩
    cases h
    ·rfl
    ·exact absurd (Or.inr (Or.inr (Or.inr rfl))) hb
   have hs:=hhk rfl
   rw [decide_eq_true (by simp [hk2])] at hs
   rw [hs] at hsu'
   have hsu'':=hsu'
   rw [show ((0:Nat):Int)=(0:Int) from rfl] at hsu''
   rcases Decidable.em (w0'=0) with hw0|hw0
   ·rw [if_neg (by simp [hw0])]
    have hw0I:(w0':Int)=0:=by omega
    rcases Decidable.em (fs.length=l0) with hf1|hf1
    ·have hf1I:(fs.length:Int)=(l0:Int):=by omega
     rcases Decidable.em (usB ns ds fs=true) with hf2|hf2
     ·rw [if_pos ⟨hf1,hf2⟩]
      rw [hf2] at hus'
      have hde':=hde (r,ns,ds) p 0 fs ⟨ht,hpv,hp,hf2,hl9,hf8,by rw [hlv];simp only;omega⟩
      obtain ⟨j1,j2,⟨f',w',j3,j4⟩,j5,j6⟩:=deepL hpv ht hp hf2 hl9 hwk fs.length (Nat.le_refl _) (by omega)
      rw [List.take_length] at j1 j2 j3 j5
      have hst':=hst r (dpN r ds p ns fs) ds p ⟨by omega,j1.pto j2 hp⟩
      obtain ⟨e1,e2,e3,e4,e5⟩:=end_nd j1 hp j3
      simp only [Int.toNat_natCast] at hst'
      have hput:putT (r,dpN r ds p ns fs,ds) p w=(r,setN (dpN r ds p ns fs) (lsT (r,dpN r ds p ns fs,ds) p).1 (p%8) w,ds):=by
       unfold putT
       rw [e2,show l0 - fs.length=0 by omega]
       simp [dgt]
      rw [hput]
      simp only
      obtain ⟨⟨a2,b2,c2⟩,hS⟩:∃ S,S=lsT (r,dpN r ds p ns fs,ds) p:=⟨_,rfl⟩
      rw [← hS] at hst' e1 e2 e3 e5 ⊢
      simp only at hst' e1 e2 e3 e5 ⊢
      rw [show ((0:Nat):Int)=(0:Int) from rfl] at hde'
      simp only [TbV,TbC,outT] at hde'
      obtain ⟨D,hD⟩:∃ D,D=dpN r ds p ns fs:=⟨_,rfl⟩
      rw [← hD] at hde' hst' e5 j2 j5 ⊢
      have haI:(a2:Int)<(D.length:Int):=by omega
      have hgn:=nrows_gi e5
      have hgnE:=nrows_gE e5
      have h8:(gn D a2).2.length=8:=(j2.1 _ (gn_mem e5)).1
      have hset:=@nrows_setN D a2 (p%8) w e5
      have hwl:(wcs (gn D a2).2).length=8:=by simp [h8]
      have hdl:p%8<8:=by omega
      have hdI:((p%8:Nat):Int)<8:=by omega
      have hrem:(p:Int).tmod 8=((p%8:Nat):Int):=by rw [Int.tmod_eq_emod_of_nonneg (by omega)];omega
      have hsl:(setN D a2 (p%8) w).length=D.length:=setN_len
      have tkR:List.take D.length (nrows (setN D a2 (p%8) w))=nrows (setN D a2 (p%8) w):=List.take_of_length_le (by simp)
      have tkd:List.take ds.length (prows ds)=prows ds:=List.take_of_length_le (by simp)
      obtain ⟨R,hR⟩:∃ R,R=setN D a2 (p%8) w:=⟨_,rfl⟩
      rw [← hR] at hset hsl tkR ⊢
      obtain ⟨⟨fr,ws⟩,hm⟩:∃ m,m=gn D a2:=⟨_,rfl⟩
      rw [← hm] at hgn hgnE hwl hset
      simp only at hgn hgnE hwl hset
      obtain ⟨cs,hcs⟩:∃ cs,cs=wcs ws:=⟨_,rfl⟩
      rw [← hcs] at hgn hgnE hwl hset
      obtain ⟨dg,hdg0⟩:∃ dg,dg=p%8:=⟨_,rfl⟩
      rw [← hdg0] at hdl hdI hset hrem
      have hs1:∀ w:Int,(I fr::cs).set (1+dg) (AV.v (.int .u64 w))=I fr::cs.set dg (AV.v (.int .u64 w)):=fun w=>by rw [Nat.add_comm];rfl
      clear hcs hm hR hD hS hput h8 hdg0
      simp only [U] at hset
      have hpI:((p:Int)<512):=by omega
      have zS:=jj hwa'<|jj hdc'<|jj hk1<|jj hsu''<|jj hw0<|jj hw0I<|jj hf1<|jj hf1I<|jj hus'<|jj hde'<|jj hst'<|jj e5<|jj haI<|jj hgn<|jj hgnE<|jj hwl<|jj hdl<|jj hdI<|jj hrem<|jj hset<|hs1
      refine dF64 ?_
      repeat (intro K hK)
      clear zS
      trace_state
      refine ⟨by simp,?_⟩
      simp [leaves_iff,Tryz.f52,hsl,tkR,tkd]
      try exact dt
     ·rw [if_neg (fun h=>hf2 h.2)]
      have hff:usB ns ds fs=false:=by simpa using hf2
      rw [hff] at hus'
      have zS:=jj hwa'<|jj hdc'<|jj hk1<|jj hsu''<|jj hw0<|jj hw0I<|jj hf1<|jj hf1I<|hus'
      refine dM64 ?_
      repeat (intro K hK)
      clear zS
      all_goals refine ⟨by simp,?_⟩
      all_goals simp [leaves_iff,Tryz.f52,nrows,prows]
      all_goals try exact dt
    ·rw [if_neg (fun h=>hf1 h.1)]
     have hf1I:¬ (fs.length:Int)=(l0:Int):=by omega
     have zS:=jj hwa'<|jj hdc'<|jj hk1<|jj hsu''<|jj hw0<|jj hw0I<|jj hf1<|hf1I
     refine dM64 ?_
     repeat (intro K hK)
     clear zS
     all_goals refine ⟨by simp,?_⟩
     all_goals simp [leaves_iff,Tryz.f52,nrows,prows]
     all_goals try exact dt
   ·rw [if_pos hw0]
    have hw0I:¬ (w0':Int)=0:=by omega
    have zS:=jj hwa'<|jj hdc'<|jj hk1<|jj hsu''<|jj hw0<|hw0I
    refine dM64 ?_
    repeat (intro K hK)
    clear zS
    all_goals refine ⟨by simp,?_⟩
    all_goals simp [leaves_iff,Tryz.f52,nrows,prows]
    all_goals try exact dt
end Go.AM
