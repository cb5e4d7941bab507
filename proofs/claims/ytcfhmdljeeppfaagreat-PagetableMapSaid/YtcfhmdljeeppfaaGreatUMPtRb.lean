/- A part of the proof: what functions of the program compute, by abstract execution of their code. Its theorems hold without further condition. -/
import Derived.Test.YtcfhmdljeeppfaaGreatUPtU
import Derived.Test.YtcfhmdljeeppfaaGreatUPt55
import Derived.Test.YtcfhmdljeeppfaaGreatUPt33
import Derived.Test.YtcfhmdljeeppfaaGreatUPt61
set_option linter.all false
namespace Go.AM
open Go Go.Proofs
theorem lev0 {r:Int} {ns:NdL} (hv:Vt (r,ns,[])) {p:Nat} (hp:p<512) {f:Int} {l w:Nat} (hw:wlk (Mof ns) r p=(f,l,w)) (h0:w≠0):l=0:=by
 obtain ⟨a1,a2,a3,a4,a5,a6⟩:=wlk_at hv.vm hp hw
 by_cases hl:l=0
 ·exact hl
 exfalso
 apply h0
 refine (kind0 a6).1 ?_
 have hd:=hv.dep
 simp only [List.map_nil] at hd
 have hh:l=1→hugW w=false:=by
  rintro rfl
  have hk:p/8<64:=by omega
  have hc:=wlk_cell hv.vm hp hw (p':=p/8*8) (by omega) (by simp)
  have hb:=hugB_wlk hv.vm hk hc
  cases hx:hugW w with
  | false=>rfl
  | true =>
   rw [hx] at hb
   have:((p/8:Nat):Int)∈hugM (Mof ns) r:=mem_hugM.2 ⟨p/8,hk,rfl,by rw [hb];rfl⟩
   rw [← hd] at this
   simp at this
 by_cases k0:(decR w).1.1=0
 ·exact k0
 exfalso
 have k4:(decR w).1.1≠4:=fun k=>by unfold tabW at a5;rw [if_pos k] at a5;simp at a5
 unfold okWb suitB at a6
 rw [if_neg k0,if_neg k4] at a6
 by_cases k1:(decR w).1.1=1
 ·rw [if_pos k1,if_neg hl] at a6
  by_cases hl1:l=1
  ·have h1:=hh hl1
   unfold hugW at h1
   rw [k1] at h1
   simp at h1
   rw [if_pos hl1,h1] at a6
   simp at a6
  ·rw [if_neg hl1] at a6
   simp at a6
 ·rw [if_neg k1] at a6
  simp [hl] at a6
theorem grow_fr {r:Int} {ns:NdL} {ds:List Dp} (hv:Pv (r,ns,ds)) (ht:tbOK (r,ns,ds)) {p:Nat} (hp:p<512) {g:Nat} (hg:g≤4294967295) (hn:∀ n∈ns,n.1≠(g:Int)) {f:Int} {l w:Nat} (hw:wlk (Mof ns) r p=(f,l+1,w)) (hlen:ns.length<1000000) {d q:Nat} (hq:(d,q)∈Pos) {x:Int} (hx:frP WA (Mof (stD r ds p ns g)) r d q=some x) :
  frP WA (Mof ns) r d q=some x∨q=p/8^(3 - d):=by
 obtain ⟨d1,d2,d3,d4,d5,d6⟩:=hv.grow ht hp hg hn hw hlen
 obtain ⟨a1,a2,a3,a4,a5,a6⟩:=wlk_at hv.vm hp hw
 have hDg:Mof ns (g:Int)=none:=(Mof_none hv.asc).2 hn
 have hgr:=hv.vm.grow (wdZ fun _=>true) a2 (by omega) a3 (i:=dgt p (l+1)) (w:=g*256+4) (dgt_lt p (l+1)) (by simp only at a4;rw [← a4];exact a5) hDg (tabW_tw (by omega)) (by show okWb (2 - (2 - (l+1))) _=true;exact okWb_tw (by omega) (by omega))
 rw [d3,hgr.2 d q hq] at hx
 split at hx
 ·rename_i h
  right
  obtain ⟨rfl,rfl⟩:=h
  rw [show 3 - (2 - (l+1)+1)=l+1 by omega]
  unfold dgt
  rw [Nat.pow_succ,← Nat.div_div_eq_div_mul]
  omega
 ·exact .inl hx
theorem deep_fr {r:Int} {ns:NdL} {ds:List Dp} (hv:Vt (r,ns,ds)) (ht:tbOK (r,ns,ds)) {p:Nat} (hp:p<512) {fs:List Int} (hu:usB ns ds fs=true) (hlen:ns.length≤999000) {f:Int} {l:Nat} (hw:wlk (Mof ns) r p=(f,l,0)) {d q:Nat} (hq:(d,q)∈Pos) {x:Int}:∀ i,i≤fs.length→i≤l →
  frP WA (Mof (dpN r ds p ns (fs.take i))) r d q=some x→frP WA (Mof ns) r d q=some x∨q=p/8^(3 - d)
 | 0,_,_,hx=>by rw [dpN_0] at hx;exact .inl hx
 | i+1,hi,hil,hx=>by
  have hl2:=(wlk_at hv.vm hp hw).1
  obtain ⟨h1,h2,⟨f',h3⟩,h4,h5,h6⟩:=vt_deep hv ht hp hu hlen hw i (by omega) (by omega)
  obtain ⟨⟨g0,g1⟩,u2,u3,u4⟩:=usB_iff.1 hu i (by omega)
  obtain ⟨g,hg⟩:=Int.eq_ofNat_of_zero_le g0
  rw [dpN_s (by omega)] at hx
  rw [hg] at g1 u2 u3 u4 hx
  obtain ⟨L,hL⟩:∃ L,l - i=L+1:=⟨l - i - 1,by omega⟩
  rw [hL] at h3
  have hnew:∀ n∈dpN r ds p ns (fs.take i),n.1≠(g:Int):=fun n hn e=>by
   rcases h5 n hn with ⟨m,hm,k⟩|⟨j,hj,k⟩
   ·exact u2 m hm (by rw [← k];exact e)
   ·exact u4 j hj (by rw [← k];exact e)
  rcases grow_fr h1.pv h2 hp (g:=g) (by omega) hnew h3 (by omega) hq hx with h|h
  ·exact deep_fr hv ht hp hu hlen hw hq i (by omega) (by omega) h
  ·exact .inr h
structure IsM (ns:NdL) (m:List Nat) (nx:Nat):Prop where
 v:Vt (0,ns,[])
 ok:tbOK (0,ns,[])
 len:m.length=512
 w:∀ p,p<512→(wlk (Mof ns) 0 p).2.2=m.getD p 0
 f:∀ d q,(d,q)∈Pos→0<d→∀ x,frP WA (Mof ns) 0 d q=some x→∃ p,p<512∧p/8^(3 - d)=q∧m.getD p 0≠0
 fr:∀ n∈ns,n.1<nx
 u64:∀ w∈m,w<2^64
theorem nodup_le:∀ {l m:List Int},l.Nodup→(∀ x∈l,x∈m)→l.length≤m.length
 | [],_,_,_=>by simp
 | x::l,m,h,hs=>by
  rw [List.nodup_cons] at h
  have h1:=nodup_le (l:=l) (m:=m.erase x) h.2 fun y hy=>by
   have:y≠x:=fun e=>h.1 (e ▸ hy)
   exact (List.mem_erase_of_ne this).2 (hs y (by simp [hy]))
  rw [List.length_erase_of_mem (hs x (by simp))] at h1
  have:0<m.length:=List.length_pos_of_mem (hs x (by simp))
  simp only [List.length_cons]
  omega
def plcs (M:Mm) (r:Int):List Int:=Pos.filterMap fun x=>frP WA M r x.1 x.2
theorem filterMap_nodup {α:Type} {f:α→Option Int}:∀ {l:List α},l.Nodup→(∀ a∈l,∀ b∈l,∀ x,f a=some x→f b=some x→a=b)→(l.filterMap f).Nodup
 | [],_,_=>by simp
 | a::l,h,hi=>by
  rw [List.nodup_cons] at h
  have ih:=filterMap_nodup (l:=l) h.2 fun x hx y hy=>hi x (by simp [hx]) y (by simp [hy])
  rw [List.filterMap_cons]
  cases hf:f a with
  | none=>exact ih
  | some x =>
   simp only
   rw [List.nodup_cons]
   refine ⟨fun hx=>?_,ih⟩
   obtain ⟨b,hb,e⟩:=List.mem_filterMap.1 hx
   have:=hi a (by simp) b (by simp [hb]) x hf e
   exact h.1 (this ▸ hb)
theorem plcs_len {r:Int} {ns:NdL} (ha:ascN ns) (hV:VM WA (Mof ns) r):ns.length=(plcs (Mof ns) r).length:=by
 have h1:(ns.map (·.1)).Nodup:=by
  unfold List.Nodup
  rw [List.pairwise_map]
  exact List.Pairwise.imp (fun h=>Int.ne_of_lt h) ha
 have h2:(plcs (Mof ns) r).Nodup:=by
  refine filterMap_nodup Pos_nodup fun a ha' b hb x h3 h4=>?_
  obtain ⟨a1,a2⟩:=a
  obtain ⟨b1,b2⟩:=b
  obtain ⟨e1,e2⟩:=hV.inj _ _ _ _ ha' hb x h3 h4
  rw [e1,e2]
 have k1:=nodup_le h1 (m:=plcs (Mof ns) r) fun x hx=>by
  obtain ⟨n,hn,rfl⟩:=List.mem_map.1 hx
  obtain ⟨d,q,hq,e⟩:=hV.all n.1 n.2 ((mem_Mof ha).1 hn)
  exact List.mem_filterMap.2 ⟨(d,q),hq,e⟩
 have k2:=nodup_le h2 (m:=ns.map (·.1)) fun x hx=>by
  obtain ⟨⟨d,q⟩,hq,e⟩:=List.mem_filterMap.1 hx
  obtain ⟨ws,m1,_⟩:=hV.nd d q hq x e
  exact List.mem_map.2 ⟨(x,ws),(mem_Mof ha).2 m1,rfl⟩
 simp only [List.length_map] at k1 k2
 omega
theorem plcs_le {M:Mm} {r:Int}:(plcs M r).length≤73:=by
 have:=List.length_filterMap_le (fun x:Nat×Nat=>frP WA M r x.1 x.2) Pos
 have h2:Pos.length=73:=by decide
 unfold plcs
 omega
theorem IsM.le {ns:NdL} {m:List Nat} {nx:Nat} (h:IsM ns m nx):ns.length≤73:=by
 rw [plcs_len h.v.num.asc h.v.vm]
 exact plcs_le
def nxF (nx k:Nat):List Int:=(List.range k).map fun i=>((nx+i:Nat):Int)
@[simp] theorem nxF_len {nx k:Nat}:(nxF nx k).length=k:=by simp [nxF]
theorem nxF_gi {nx k i:Nat} (h:i<k):gi (nxF nx k) i=((nx+i:Nat):Int):=by
 rw [gi_eq (by simpa using h)]
 simp [nxF]
theorem getD_set {m:List Nat} {p q w:Nat} (hp:p<m.length):(m.set p w).getD q 0=if q=p then w else m.getD q 0:=by
 rw [List.getD_eq_getElem?_getD,List.getElem?_set]
 by_cases e:p=q
 ·subst e;simp [hp]
 ·have:¬ q=p:=fun h=>e h.symm
  simp [e,this,List.getD_eq_getElem?_getD]
theorem IsM.set {ns:NdL} {m:List Nat} {nx:Nat} (h:IsM ns m nx) {p:Nat} (hp:p<512) (h0:m.getD p 0=0) {w:Nat} (hw64:w<2^64) (e1:(decR w).2=0) (e2:(decR w).1.1≠0) (e3:(decR w).1.1≠4) (e4:(decR w).1.2.2.2.2.2=false) (hnx:nx+2≤4294967295) :
  ∃ k N,missT (0,ns,[]) p=(k,0)∧k≤2∧setP (0,ns,[]) p w (nxF nx k)=((0,N,[]),0)∧IsM N (m.set p w) (nx+k):=by
 have hck:ckd (0,ns,[]) (p:Int) 512=0:=ckd_z ((chk_iff h.ok).2 h.v) (by omega) (by omega)
 have hls:=(h.v.pv.walk hp).2.2
 have hle:=h.le
 simp only at hls
 obtain ⟨f,l,w0,hw⟩:∃ f l w,wlk (Mof ns) 0 p=(f,l,w):=⟨_,_,_,rfl⟩
 have hw0:w0=0:=by have:=h.w p hp;rw [hw,h0] at this;exact this
 subst hw0
 rw [hw] at hls
 have hl2:=(wlk_at h.v.vm hp hw).1
 have hmi:missT (0,ns,[]) p=(l,0):=by
  unfold missT
  rw [if_pos hck,Int.toNat_natCast,hls]
  simp only
  rw [if_neg]
  rintro ⟨_,hx⟩
  rw [decR_0] at hx
  simp [zE] at hx
 have hus:usB ns [] (nxF nx l)=true:=by
  refine usB_iff.2 fun i hi=>?_
  simp only [nxF_len] at hi
  unfold usC
  rw [nxF_gi hi]
  refine ⟨⟨by omega,by omega⟩,fun n hn=>?_,fun k hk=>by simp at hk,fun j hj=>?_⟩
  ·have:=h.fr n hn;omega
  ·rw [nxF_gi (by omega)];omega
 have hse:∃ N,setP (0,ns,[]) p w (nxF nx l)=((0,N,[]),0):=by
  unfold setP
  rw [if_neg (by simp [hck]),if_neg (by simp [e1,e2,e3,e4]),Int.toNat_natCast,hls]
  simp only
  rw [if_neg (by simp),if_pos ⟨by simp,hus⟩]
  exact ⟨_,rfl⟩
 obtain ⟨N,hN⟩:=hse
 obtain ⟨q,f1,f',hpq,hq,hv,h1,h2,h3,h4,hwq,hu,hue,v1,v2,v3,v4,v5⟩:=set_vt h.ok (by omega) hw64 hN
 obtain rfl:p=q:=by omega
 refine ⟨l,N,hmi,hl2,hN,?_⟩
 obtain ⟨d1,d2,⟨f2,d3⟩,d4,d5,d6⟩:=vt_deep h.v h.ok hp hus (by omega) hw l (by simp) (Nat.le_refl _)
 rw [List.take_of_length_le (by simp)] at d1 d2 d3 d4 d5
 have hok0:okWb 0 w=true:=(wlk_at v1.vm hp v4).2.2.2.2.2
 simp only [Prod.mk.injEq,true_and,and_true] at hue
 obtain ⟨b1,b2,b3,b4,b5⟩:=d1.pv.put d2 hp (by rw [Nat.sub_self] at d3;exact d3) hw64 h3 hok0
 have hpl:p<m.length:=by rw [h.len];exact hp
 refine ⟨v1,v2,by simp [h.len],fun q hq'=>?_,fun d q hq' hd x hx=>?_,fun n hn=>?_,fun x hx=>?_⟩
 ·rw [getD_set hpl]
  by_cases e:q=p
  ·subst e
   rw [if_pos rfl]
   simp only at v4
   rw [v4]
  ·rw [if_neg e,← h.w q hq']
   exact v5 q hq' e
 ·rw [hue] at hx
  rw [b4 d q hq'] at hx
  rcases deep_fr h.v h.ok hp hus (by omega) hw hq' (i:=l) (by simp) (Nat.le_refl _) (by rw [List.take_of_length_le (by simp)];exact hx) with h6|h6
  ·obtain ⟨p',k1,k2,k3⟩:=h.f d q hq' hd x h6
   refine ⟨p',k1,k2,?_⟩
   rw [getD_set hpl]
   split
   ·exact h4
   ·exact k3
  ·refine ⟨p,hp,h6.symm,?_⟩
   rw [getD_set hpl,if_pos rfl]
   exact h4
 ·rw [hue] at hn
  have hfr:∃ m∈dpN 0 [] p ns (nxF nx l),m.1=n.1:=by
   rcases List.mem_or_eq_of_mem_set hn with h7|h7
   ·exact ⟨n,h7,rfl⟩
   ·exact ⟨_,gn_mem (lsT_lt d1.pv hp).1,by rw [h7];rfl⟩
  obtain ⟨n2,hn2,e⟩:=hfr
  rw [← e]
  rcases d5 n2 hn2 with ⟨n3,hn3,e5⟩|⟨j,hj,e5⟩
  ·have:=h.fr n3 hn3;omega
  ·rw [nxF_gi hj] at e5;omega
 ·rcases List.mem_or_eq_of_mem_set hx with h7|h7
  ·exact h.u64 x h7
  ·rw [h7];exact hw64
theorem IsM.clr {ns:NdL} {m:List Nat} {nx:Nat} (h:IsM ns m nx) {p:Nat} (hp:p<512) (h0:m.getD p 0≠0) :
  ∃ N A,clrP (0,ns,[]) (p:Int)=((0,N,[]),m.getD p 0,A,0)∧IsM N (m.set p 0) nx:=by
 obtain ⟨f,l,w,hw⟩:∃ f l w,wlk (Mof ns) 0 p=(f,l,w):=⟨_,_,_,rfl⟩
 have hwm:w=m.getD p 0:=by have:=h.w p hp;rw [hw] at this;exact this
 rw [← hwm] at h0 ⊢
 obtain rfl:=lev0 h.v hp hw h0
 obtain ⟨N,A,c1,c2,c3,⟨g,l,c4,c5⟩,c6,c7,c8⟩:=clr_vt h.v h.ok hp hw h0
 have hpl:p<m.length:=by rw [h.len];exact hp
 refine ⟨N,A,c1,c2,c3,by simp [h.len],fun q hq=>?_,fun d q hq hd x hx=>?_,fun n hn=>?_,fun x hx=>?_⟩
 ·rw [getD_set hpl]
  by_cases e:q=p
  ·subst e
   rw [if_pos rfl,c4]
  ·rw [if_neg e,← h.w q hq]
   exact c7 q hq e
 ·have hd2:d≤2:=by have:=mem_Pos.1 hq;simp only at this;omega
  by_cases hpq:q=p/8^(3 - d)
  ·obtain ⟨a1,a2,a3,a4,a5,a6⟩:=wlk_at c2.vm hp c4
   have hld:l≤2 - d:=by
    rcases (by omega:d=1∨d=2) with rfl|rfl
    ·rcases (by omega:l=0∨l=1∨l=2) with rfl|rfl|rfl
     ·omega
     ·omega
     ·exfalso
      rw [hpq,show (8:Nat)^(3 - 1)=64 from rfl,frP1 hp] at hx
      have a3':frP WA (Mof N) 0 0 (p/8^(2+1))=some g:=a3
      simp only [frP,Option.some.injEq] at a3'
      rw [dgt2 hp] at a4
      rw [a3',← a4,a5] at hx
      simp at hx
    ·rcases (by omega:l=0∨l=1∨l=2) with rfl|rfl|rfl
     ·omega
     ·exfalso
      rw [hpq,show p/8^(3 - 2)=p/8 by simp,frP2] at hx
      have a3':frP WA (Mof N) 0 1 (p/64)=some g:=by have:=a3;rwa [show p/8^(1+1)=p/64 by simp] at this
      rw [dgt1] at a4
      rw [a3',Option.bind_some,← a4,a5] at hx
      simp at hx
     ·exfalso
      rw [hpq,show p/8^(3 - 2)=p/8 by simp,frP2,frP1 hp] at hx
      have a3':frP WA (Mof N) 0 0 (p/8^(2+1))=some g:=a3
      simp only [frP,Option.some.injEq] at a3'
      rw [dgt2 hp] at a4
      rw [a3',← a4,a5] at hx
      simp at hx
   have hl1:l≤1:=by omega
   have hnz:=c5.resolve_left (by omega)
   obtain ⟨ws,m1,m2,m3⟩:=c2.vm.nd _ _ a2 g a3
   obtain ⟨j,hj,hjw⟩:∃ j,j<8∧ws.getD j 0≠0:=by
    by_cases hall:∀ j,j<8→ws.getD j 0=0
    ·exfalso
     apply hnz
     rw [m1]
     congr 1
     refine List.ext_getElem (by rw [m2];rfl) fun j h1 h2=>?_
     have k1:=hall j (by omega)
     rw [List.getD_eq_getElem?_getD,List.getElem?_eq_getElem h1] at k1
     simp only [Option.getD_some] at k1
     rw [k1]
     exact (List.eq_of_mem_replicate (n:=8) (a:=0) (show zs8[j]∈List.replicate 8 0 from List.getElem_mem h2)).symm
    ·simp only [Classical.not_forall] at hall
     obtain ⟨j,hj,hjw⟩:=hall
     exact ⟨j,hj,hjw⟩
   have hjM:wM (Mof N) g j=ws.getD j 0:=by unfold wM;rw [m1]
   rcases (by omega:l=0∨l=1) with rfl|rfl
   ·have hp':p/8*8+j<512:=by omega
    have e8:(p/8*8+j)/8^(0+1)=p/8^(0+1):=by simp;omega
    have hwk:=wlk_of (M:=Mof N) (root:=0) hp' (l:=0) (by omega) (f:=g) (by rw [e8];exact a3) (.inr rfl)
    rw [dgt0,show (p/8*8+j)%8=j by omega,hjM] at hwk
    have hne:p/8*8+j≠p:=by
     intro e
     rw [e,c4] at hwk
     simp only [Prod.mk.injEq] at hwk
     exact hjw hwk.2.2.symm
    refine ⟨p/8*8+j,hp',?_,?_⟩
    ·rw [hpq]
     rcases (by omega:d=1∨d=2) with rfl|rfl<;>simp<;>omega
    ·rw [getD_set hpl,if_neg hne,← h.w _ hp',← c7 _ hp' hne,hwk]
     exact hjw
   ·obtain rfl:d=1:=by omega
    have hp':p/64*64+j*8<512:=by omega
    have e8:(p/64*64+j*8)/8^(1+1)=p/8^(1+1):=by simp;omega
    have hjd:j≠dgt p 1:=by
     intro e
     rw [e] at hjM hjw
     rw [hjM] at a4
     exact hjw a4.symm
    rw [dgt1] at hjd
    cases htj:tabW (wM (Mof N) g j) with
    | none =>
     exfalso
     have hwk:=wlk_of (M:=Mof N) (root:=0) hp' (l:=1) (by omega) (f:=g) (by rw [e8];exact a3) (.inl (by rw [dgt1,show (p/64*64+j*8)/8%8=j by omega];exact htj))
     rw [dgt1,show (p/64*64+j*8)/8%8=j by omega,hjM] at hwk
     have:=lev0 c2 hp' hwk hjw
     omega
    | some g2 =>
     have hq2:(2,p/64*8+j)∈Pos:=Pos2 (by omega)
     have hf2:frP WA (Mof N) 0 2 (p/64*8+j)=some g2:=by
      have a3':frP WA (Mof N) 0 1 (p/64)=some g:=by have:=a3;rwa [show p/8^(1+1)=p/64 by simp] at this
      show (frP WA (Mof N) 0 1 ((p/64*8+j)/8)).bind _=_
      rw [show (p/64*8+j)/8=p/64 by omega,a3',show (p/64*8+j)%8=j by omega]
      exact htj
     obtain ⟨p',k1,k2,k3⟩:=h.f 2 _ hq2 (by omega) g2 (c8 _ _ hq2 _ hf2)
     have k2':p'/8=p/64*8+j:=by simpa using k2
     have hne:p'≠p:=by
      rintro rfl
      omega
     refine ⟨p',k1,?_,?_⟩
     ·rw [hpq];simp;omega
     ·rw [getD_set hpl,if_neg hne];exact k3
  ·obtain ⟨p',k1,k2,k3⟩:=h.f d q hq hd x (c8 d q hq x hx)
   refine ⟨p',k1,k2,?_⟩
   rw [getD_set hpl,if_neg]
   ·exact k3
   ·rintro rfl;exact hpq k2.symm
 ·obtain ⟨m2,hm2,e⟩:=c6 n hn
  rw [← e];exact h.fr m2 hm2
 ·rcases List.mem_or_eq_of_mem_set hx with h7|h7
  ·exact h.u64 x h7
  ·rw [h7];omega
end Go.AM
namespace Go.AM
open Go Go.Proofs
def ns0:NdL:=[(0,zs8)]
def m0:List Nat:=List.replicate 512 0
theorem m0_len:m0.length=512:=List.length_replicate
theorem m0_getD {p:Nat}:m0.getD p 0=0:=by
 unfold m0
 rw [List.getD_eq_getElem?_getD,List.getElem?_replicate]
 split<;>rfl
theorem newT_0:newT 0=((0,ns0,[]),0):=by unfold newT;rw [if_pos (by decide)];rfl
theorem ns0_ok:tbOK (0,ns0,[]):=by
 refine ⟨fun n hn=>?_,by simp [ns0],by simp⟩
 simp [ns0] at hn
 subst hn
 exact ⟨rfl,fun w hw=>by simp [zs8] at hw;omega⟩
theorem ns0_chk:chkC (0,ns0,[])=true:=by kernel_rfl
theorem isM_0:IsM ns0 m0 1:=by
 have hv:Vt (0,ns0,[]):=(chk_iff ns0_ok).1 (chkC_ok ns0_chk)
 have hM:Mof ns0 0=some zs8:=(mem_Mof hv.num.asc).1 (by simp [ns0])
 have hz:∀ i,wM (Mof ns0) 0 i=0:=fun i=>by unfold wM;rw [hM];exact zs8_getD i
 have h1:∀ q,frP WA (Mof ns0) 0 1 q=none:=fun q=>by
  simp only [frP,Option.bind_some]
  rw [hz];exact tab0
 refine ⟨hv,ns0_ok,m0_len,fun p hp=>?_,fun d q hq hd x hx=>?_,fun n hn=>?_,fun w hw=>?_⟩
 ·rw [wlk_of (M:=Mof ns0) (root:=0) hp (l:=2) (by omega) (f:=0) rfl (.inl (by rw [hz];exact tab0)),m0_getD]
  exact hz _
 ·exfalso
  have hd2:d≤2:=by have:=mem_Pos.1 hq;simp only at this;omega
  rcases (by omega:d=1∨d=2) with rfl|rfl
  ·rw [h1] at hx;simp at hx
  ·simp only [frP] at hx
   have:=h1 (q/8)
   simp only [frP] at this
   rw [this] at hx
   simp at hx
 ·simp [ns0] at hn
  subst hn
  show (0:Int)<_
  omega
 ·have:=List.eq_of_mem_replicate hw
  omega
def cellB (m:List Nat) (i j n:Nat):Bool:=(List.range n).any fun k=>decide (m.getD (i*64+j*8+k) 0≠0)
def rowN (m:List Nat) (i n:Nat):Nat:=((List.range n).filter fun j=>cellB m i j 8).length
def rowB (m:List Nat) (i n:Nat):Bool:=(List.range n).any fun j=>cellB m i j 8
def prefN (m:List Nat):Nat→Nat
 | 0=>1
 | n+1=>prefN m n+(rowN m n 8+if rowB m n 8=true then 1 else 0)
theorem cellB_s {m:List Nat} {i j n:Nat}:cellB m i j (n+1)=(cellB m i j n||decide (m.getD (i*64+j*8+n) 0≠0)):=by
 unfold cellB
 rw [List.range_succ,List.any_append]
 simp
theorem rowN_s {m:List Nat} {i n:Nat}:rowN m i (n+1)=rowN m i n+if cellB m i n 8=true then 1 else 0:=by
 unfold rowN
 rw [List.range_succ,List.filter_append,List.length_append]
 cases h:cellB m i n 8<;>simp [h]
theorem rowB_s {m:List Nat} {i n:Nat}:rowB m i (n+1)=(rowB m i n||cellB m i n 8):=by
 unfold rowB
 rw [List.range_succ,List.any_append]
 simp
theorem rowN_le {m:List Nat} {i n:Nat}:rowN m i n≤n:=by
 have:=List.length_filter_le (fun j=>cellB m i j 8) (List.range n)
 simpa [rowN] using this
theorem prefN_le {m:List Nat}:∀ {n:Nat},prefN m n≤1+9*n
 | 0=>by simp [prefN]
 | n+1=>by
  have:=@prefN_le m n
  have h2:=@rowN_le m n 8
  simp only [prefN]
  split<;>omega
theorem cellB_iff {m:List Nat} {i j:Nat} (hj:j<8):cellB m i j 8=true↔∃ p,p/8=i*8+j∧m.getD p 0≠0:=by
 unfold cellB
 rw [List.any_eq_true]
 constructor
 ·rintro ⟨k,hk,h⟩
  rw [List.mem_range] at hk
  exact ⟨i*64+j*8+k,by omega,by simpa using h⟩
 ·rintro ⟨p,hp,h⟩
  refine ⟨p%8,List.mem_range.2 (by omega),?_⟩
  rw [show i*64+j*8+p%8=p by omega]
  simpa using h
theorem rowB_iff {m:List Nat} {i:Nat}:rowB m i 8=true↔∃ p,p/64=i∧m.getD p 0≠0:=by
 unfold rowB
 rw [List.any_eq_true]
 constructor
 ·rintro ⟨j,hj,h⟩
  rw [List.mem_range] at hj
  obtain ⟨p,hp,h0⟩:=(cellB_iff hj).1 h
  exact ⟨p,by omega,h0⟩
 ·rintro ⟨p,hp,h0⟩
  refine ⟨p/8%8,List.mem_range.2 (by omega),(cellB_iff (by omega)).2 ⟨p,by omega,h0⟩⟩
theorem fm_len {M:Mm} {r:Int} {i:Nat} {g:Nat→Bool} (hg:∀ j,j<8→(frP WA M r 2 (i*8+j)).isSome=g j):∀ n,n≤8 →
  (((List.range n).map fun j=>(2,i*8+j)).filterMap fun x:Nat×Nat=>frP WA M r x.1 x.2).length=((List.range n).filter g).length
 | 0,_=>rfl
 | n+1,hn=>by
  have ih:=fm_len hg n (by omega)
  have h1:=hg n (by omega)
  rw [List.range_succ,List.map_append,List.filterMap_append,List.length_append,ih,List.filter_append,List.length_append]
  congr 1
  simp only [List.map_cons,List.map_nil,List.filterMap_cons,List.filterMap_nil,List.filter_cons,List.filter_nil]
  cases hx:frP WA M r 2 (i*8+n) with
  | none=>rw [hx] at h1;simp at h1;rw [h1];simp
  | some f=>rw [hx] at h1;simp at h1;rw [h1];simp
theorem IsM.count {ns:NdL} {m:List Nat} {nx:Nat} (h:IsM ns m nx):ns.length=prefN m 8:=by
 have hlo:∀ p,m.getD p 0≠0→p<512:=fun p hp=>by
  by_cases hlt:p<m.length
  ·have:=h.len;omega
  ·exfalso;apply hp
   rw [List.getD_eq_getElem?_getD,List.getElem?_eq_none (by omega)];rfl
 have hend:∀ p,m.getD p 0≠0→∃ f,frP WA (Mof ns) 0 2 (p/8)=some f:=fun p hp=>by
  have hlt:=hlo p hp
  obtain ⟨f,l,w,hw⟩:∃ f l w,wlk (Mof ns) 0 p=(f,l,w):=⟨_,_,_,rfl⟩
  have hwm:=h.w p hlt
  rw [hw] at hwm
  simp only at hwm
  obtain rfl:=lev0 h.v hlt hw (by rw [hwm];exact hp)
  have:=(wlk_at h.v.vm hlt hw).2.2.1
  exact ⟨f,by simpa using this⟩
 have h2:∀ i j,i<8→j<8→(frP WA (Mof ns) 0 2 (i*8+j)).isSome=cellB m i j 8:=fun i j hi hj=>by
  rw [Bool.eq_iff_iff,Option.isSome_iff_exists,cellB_iff hj]
  constructor
  ·rintro ⟨x,hx⟩
   obtain ⟨p,k1,k2,k3⟩:=h.f 2 _ (Pos2 (by omega)) (by omega) x hx
   exact ⟨p,by simpa using k2,k3⟩
  ·rintro ⟨p,hp,h0⟩
   rw [← hp]
   exact hend p h0
 have h1:∀ i,i<8→(frP WA (Mof ns) 0 1 i).isSome=rowB m i 8:=fun i hi=>by
  rw [Bool.eq_iff_iff,Option.isSome_iff_exists,rowB_iff]
  constructor
  ·rintro ⟨x,hx⟩
   obtain ⟨p,k1,k2,k3⟩:=h.f 1 _ (Pos1 hi) (by omega) x hx
   exact ⟨p,by simpa using k2,k3⟩
  ·rintro ⟨p,hp,h0⟩
   obtain ⟨f,hf⟩:=hend p h0
   rw [frP2,show p/64=i from hp] at hf
   cases hx:frP WA (Mof ns) 0 1 i with
   | none=>rw [hx] at hf;simp at hf
   | some g=>exact ⟨g,rfl⟩
 have key:∀ n,n≤8→(((List.range n).flatMap fun i=>((1,i):Nat×Nat)::(List.range 8).map fun j=>(2,i*8+j)).filterMap fun x:Nat×Nat=>frP WA (Mof ns) 0 x.1 x.2).length+1=prefN m n:=by
  intro n
  induction n with
  | zero=>intro _;rfl
  | succ n ih =>
   intro hn
   rw [show List.range (n+1)=List.range n++[n] from List.range_succ,List.flatMap_append,List.filterMap_append,List.length_append]
   have e1:=ih (by omega)
   have e2:=fm_len (M:=Mof ns) (r:=0) (i:=n) (g:=fun j=>cellB m n j 8) (fun j hj=>h2 n j (by omega) hj) 8 (Nat.le_refl _)
   have e3:=h1 n (by omega)
   simp only [List.flatMap_cons,List.flatMap_nil,List.append_nil,List.filterMap_cons,prefN]
   unfold rowN
   cases hx:frP WA (Mof ns) 0 1 n with
   | none =>
    rw [hx] at e3
    simp only [Option.isSome_none] at e3
    rw [← e3]
    simp only [Bool.false_eq_true,if_false]
    omega
   | some f =>
    rw [hx] at e3
    simp only [Option.isSome_some] at e3
    rw [← e3]
    simp only [List.length_cons,if_true]
    omega
 rw [plcs_len h.v.num.asc h.v.vm,← key 8 (Nat.le_refl _)]
 unfold plcs Pos
 rw [List.filterMap_cons]
 simp only [frP,List.length_cons]
def lstM (m:List Nat):Nat→List Pe
 | 0=>[]
 | n+1=>lstM m n++if m.getD n 0≠0 then [((n:Int),m.getD n 0)] else []
theorem lstM_le {m:List Nat}:∀ {n:Nat},(lstM m n).length≤n
 | 0=>by simp [lstM]
 | n+1=>by
  have:=@lstM_le m n
  simp only [lstM,List.length_append]
  split<;>simp<;>omega
theorem IsM.chk {ns:NdL} {m:List Nat} {nx:Nat} (h:IsM ns m nx):chk (0,ns,[])=0:=(chk_iff h.ok).2 h.v
theorem IsM.lst {ns:NdL} {m:List Nat} {nx:Nat} (h:IsM ns m nx):lstT (0,ns,[])=lstM m 512:=by
 unfold lstT
 rw [if_pos h.chk]
 have key:∀ n,n≤512→lsA (0,ns,[]) n=lstM m n:=by
  intro n
  induction n with
  | zero=>intro _;rfl
  | succ n ih =>
   intro hn
   have hp:n<512:=by omega
   simp only [lsA,lstM]
   rw [ih (by omega)]
   congr 1
   unfold lsF
   obtain ⟨f,l,w,hw⟩:∃ f l w,wlk (Mof ns) 0 n=(f,l,w):=⟨_,_,_,rfl⟩
   have hwm:=h.w n hp
   have hls:=(h.v.pv.walk hp).2.2
   simp only at hls
   rw [hw] at hwm hls
   simp only at hwm
   rw [hls,← hwm]
   by_cases h0:w=0
   ·simp [h0]
   ·have hl:=lev0 h.v hp hw h0
    rw [if_pos ⟨h0,.inl hl⟩,if_pos h0]
 exact key 512 (Nat.le_refl _)
theorem IsM.walk {ns:NdL} {m:List Nat} {nx:Nat} (h:IsM ns m nx) {p:Nat} (hp:p<512):∃ l,walkT (0,ns,[]) (p:Int)=(m.getD p 0,l,0):=by
 have hls:=(h.v.pv.walk hp).2.2
 simp only at hls
 rw [walkT_z (ckd_z h.chk (by omega) (by omega)),Int.toNat_natCast,← h.w p hp,hls]
 exact ⟨_,rfl⟩
theorem IsM.frm {ns:NdL} {m:List Nat} {nx:Nat} (h:IsM ns m nx):(frmT (0,ns,[])).length=ns.length:=by
 unfold frmT framesT
 rw [if_pos h.chk]
 simp
end Go.AM
namespace Go.AM
open Go Go.Proofs
def z512:List Value:=List.replicate 512 (.int .u64 0)
@[simp] theorem ty512:Types Tryz.prog 99=some ⟨.array 512 76,512,4096,z512⟩:=by kernel_rfl
theorem z512_one:∀ x∈z512,x.oneCell'=true:=by
 intro x hx
 rw [(List.mem_replicate.1 hx).2];rfl
theorem z512_all:(∀ x:Value,x∈z512→x.oneCell'=true)=True:=eq_true z512_one
theorem z512_map:z512.map AV.v=wcs m0:=by
 unfold z512 wcs m0
 rw [List.map_replicate,List.map_replicate]
 rfl
theorem wcs_rd {m:List Nat} {k n:Nat} (hm:m.length=n) (h:k<n):(wcs m)[k]?=some (U (m.getD k 0)):=by
 have:k<m.length:=by omega
 simp [wcs,List.getElem?_eq_getElem this]
theorem wcs_rE {m:List Nat} {k n:Nat} (hm:m.length=n) (h:k<n):∀ h',(wcs m)[k]'(h')=U (m.getD k 0):=fun h'=>by
 have:=wcs_rd hm h
 rw [List.getElem?_eq_getElem h'] at this
 exact Option.some.inj this
@[simp] theorem wcs_under (n:Nat) (l:List Nat):AV.underL n (wcs l):=by
 rw [underL_iff]
 intro a ha
 obtain ⟨x,_,rfl⟩:=List.mem_map.1 ha
 trivial
@[simp] theorem wcs_cur (M:Nat→AO) (l:List Nat):curL M (wcs l):=by
 induction l with
 | nil=>trivial
 | cons a l ih=>exact ⟨trivial,ih⟩
@[simp] theorem wcs_iso (n:Nat) (σ:Nat→Nat) (l:List Nat):isoL n σ (wcs l)=wcs l:=by
 induction l with
 | nil=>rfl
 | cons a l ih=>show _::isoL n σ (wcs l)=_;rw [ih];rfl
theorem tk512 {m:List Nat} (h:m.length=512):List.take 512 (wcs m)=wcs m:=List.take_of_length_le (by simp [h])
def vN (m:List Nat) (i j:Nat):Nat:=prefN m i+rowN m i j
theorem vN_0 {m:List Nat} {i:Nat}:vN m i 0=prefN m i:=by unfold vN rowN;rfl
theorem vN_t {m:List Nat} {i j:Nat} (h:cellB m i j 8=true):((vN m i j:Nat):Int)+1=(vN m i (j+1):Nat):=by
 unfold vN
 rw [rowN_s,if_pos h]
 omega
theorem vN_f {m:List Nat} {i j:Nat} (h:cellB m i j 8=false):vN m i j=vN m i (j+1):=by
 unfold vN
 rw [rowN_s,if_neg (by simp [h])]
 rfl
theorem vN_8t {m:List Nat} {i:Nat} (h:rowB m i 8=true):((vN m i 8:Nat):Int)+1=(prefN m (i+1):Nat):=by
 unfold vN
 simp only [prefN,if_pos h]
 omega
theorem vN_8f {m:List Nat} {i:Nat} (h:rowB m i 8=false):vN m i 8=prefN m (i+1):=by
 unfold vN
 simp only [prefN,h]
 rfl
theorem vN_le {m:List Nat} {i j:Nat} (hi:i≤8) (hj:j≤8):vN m i j≤100:=by
 have h1:=@prefN_le m i
 have h2:=@rowN_le m i j
 unfold vN
 omega
noncomputable def PxF:List AV→Option AV:=specF (ι:={m:List Nat // m.length=512}) (fun x=>[.agg (wcs x.1)]) fun x=>retOf [I (prefN x.1 8)]
set_option maxHeartbeats 4000000 in
theorem s57 (X:AX) (hX:XOK Tryz.prog X) (hw:X.W wT):PSound Tryz.prog 57 PxF:=by
 unfold PxF
 refine psound_spec hX mixed Tryz.func57 rfl fun ⟨m,hm⟩ w0 G=>⟨by show 1≤41;decide,rfl,?_⟩
 show AW ⟨Tryz.prog,X,41,w0,.pure G⟩ _ _ _
 have hc:Cx.OK ⟨Tryz.prog,X,41,w0,.pure G⟩:=⟨hX,mixed⟩
 simp only at hm ⊢
 have hwl:(wcs m).length=512:=by simp [hm]
 have hrd:=@wcs_rd m
 have hrE:=@wcs_rE m
 have htk:=tk512 hm
 repeat' (first|(apply aw_seq_k;intro K hK)|(refine aw_run hc (by first|exact aw_nod|(intro _;rw [ordB_w hw];kernel_rfl)|(intro _;rw [ordB_w0 hw0];kernel_rfl)|(intro _;kernel_rfl)) ?_;simp [List.zipIdx,hwl,htk,-getM,getM_hit,getM_miss,getM_none];(repeat (simp (disch:=first|omega|assumption|fail) only [if_pos,if_neg,wrap64];try simp [List.zipIdx,hwl,htk,-getM,getM_hit,getM_miss,getM_none]));try (repeat' (refine guardQ_split (fun h=>?_) (fun h=>?_)<;>simp at h<;>(simp [List.zipIdx,hwl,htk,-getM,getM_hit,getM_miss,getM_none];(repeat (simp (disch:=first|omega|assumption|fail) only [if_pos,if_neg,wrap64];try simp [List.zipIdx,hwl,htk,-getM,getM_hit,getM_miss,getM_none]))))))|(refine aw_cond (b:=_) (by exact rfl) (fun h=>?_) (fun h=>?_)<;>(try simp at h))|(refine aw_block ?_)|(refine aw_skip ?_;simp only [thenQ,blockQ,if_true])|(refine aw_exit ?_;simp [thenQ,blockQ])|(refine aw_ret ?_;simp only [thenQ,blockQ])|(refine aw_round ?_)|(refine hK _ ?_;clear hK)|(clear hK;refine hK _ ?_;clear hK)|(clear hK;clear hK;refine hK _ ?_;clear hK)|(clear hK;clear hK;clear hK;refine hK _ ?_;clear hK))
 refine aw_loopK (s0:=?lps1) (m0:=?lpm1) (ι:={i:Nat // i≤8}) [1] (fun s=>[(3,I (prefN m s.1)),(9,I s.1)]) (fun _=>[]) (fun s=>8 - s.1) ⟨0,by omega⟩ ?lhs1 ?lhm1 ?_ ?_
 case lhs1=>first|(simp [keepS];done)|(simp [keepS];rfl)
 case lhm1=>first|rfl|(simp;done)|(simp;rfl)
 ·simp only [show prefN m 0=1 from rfl]
  exact le_of2 (by simp) (by simp [AVle,AV.under,AV.underL]<;>omega) (by simp [AOle,AO.under,AV.underL,AV.under]<;>omega)
 ·rintro ⟨i,hi⟩
  simp only
  have hv0:=@vN_0 m i
  have hpl:prefN m i≤100:=by rw [← hv0];exact vN_le hi (by omega)
  rcases Decidable.em (i<8) with hil|hil
  ·have hilI:(i:Int)<8:=by omega
   rw [← hv0]
   repeat' (first|(apply aw_seq_k;intro K hK)|(refine aw_run hc (by first|exact aw_nod|(intro _;rw [ordB_w hw];kernel_rfl)|(intro _;rw [ordB_w0 hw0];kernel_rfl)|(intro _;kernel_rfl)) ?_;simp [List.zipIdx,hilI,hil,-getM,getM_hit,getM_miss,getM_none];(repeat (simp (disch:=first|omega|assumption|fail) only [if_pos,if_neg,wrap64];try simp [List.zipIdx,hilI,hil,-getM,getM_hit,getM_miss,getM_none]));try (repeat' (refine guardQ_split (fun h=>?_) (fun h=>?_)<;>simp at h<;>(simp [List.zipIdx,hilI,hil,-getM,getM_hit,getM_miss,getM_none];(repeat (simp (disch:=first|omega|assumption|fail) only [if_pos,if_neg,wrap64];try simp [List.zipIdx,hilI,hil,-getM,getM_hit,getM_miss,getM_none]))))))|(refine aw_cond (b:=_) (by exact rfl) (fun h=>?_) (fun h=>?_)<;>(try simp at h))|(refine aw_block ?_)|(refine aw_skip ?_;simp only [thenQ,blockQ,if_true])|(refine aw_exit ?_;simp [thenQ,blockQ])|(refine aw_ret ?_;simp only [thenQ,blockQ])|(refine aw_round ?_)|(refine hK _ ?_;clear hK)|(clear hK;refine hK _ ?_;clear hK)|(clear hK;clear hK;refine hK _ ?_;clear hK)|(clear hK;clear hK;clear hK;refine hK _ ?_;clear hK))
   refine aw_loopK (s0:=?lps2) (m0:=?lpm2) (ι:={j:Nat // j≤8}) [1,4,9] (fun s=>[(3,I (vN m i s.1)),(5,B (rowB m i s.1)),(12,I s.1)]) (fun _=>[]) (fun s=>8 - s.1) ⟨0,by omega⟩ ?lhs2 ?lhm2 ?_ ?_
   case lhs2=>first|(simp [keepS];done)|(simp [keepS];rfl)
   case lhm2=>first|rfl|(simp;done)|(simp;rfl)
   ·simp only [show rowB m i 0=false from rfl]
    exact le_of2 (by simp) (by simp [AVle,AV.under,AV.underL]<;>omega) (by simp [AOle,AO.under,AV.underL,AV.under]<;>omega)
   ·rintro ⟨j,hj⟩
    simp only
    have hvl:=vN_le (m:=m) hi hj
    rcases Decidable.em (j<8) with hjl|hjl
    ·have hjlI:(j:Int)<8:=by omega
     have hbs:=@rowB_s m i j
     repeat' (first|(apply aw_seq_k;intro K hK)|(refine aw_run hc (by first|exact aw_nod|(intro _;rw [ordB_w hw];kernel_rfl)|(intro _;rw [ordB_w0 hw0];kernel_rfl)|(intro _;kernel_rfl)) ?_;simp [List.zipIdx,hjlI,hjl,-getM,getM_hit,getM_miss,getM_none];(repeat (simp (disch:=first|omega|assumption|fail) only [if_pos,if_neg,wrap64];try simp [List.zipIdx,hjlI,hjl,-getM,getM_hit,getM_miss,getM_none]));try (repeat' (refine guardQ_split (fun h=>?_) (fun h=>?_)<;>simp at h<;>(simp [List.zipIdx,hjlI,hjl,-getM,getM_hit,getM_miss,getM_none];(repeat (simp (disch:=first|omega|assumption|fail) only [if_pos,if_neg,wrap64];try simp [List.zipIdx,hjlI,hjl,-getM,getM_hit,getM_miss,getM_none]))))))|(refine aw_cond (b:=_) (by exact rfl) (fun h=>?_) (fun h=>?_)<;>(try simp at h))|(refine aw_block ?_)|(refine aw_skip ?_;simp only [thenQ,blockQ,if_true])|(refine aw_exit ?_;simp [thenQ,blockQ])|(refine aw_ret ?_;simp only [thenQ,blockQ])|(refine aw_round ?_)|(refine hK _ ?_;clear hK)|(clear hK;refine hK _ ?_;clear hK)|(clear hK;clear hK;refine hK _ ?_;clear hK)|(clear hK;clear hK;clear hK;refine hK _ ?_;clear hK))
     refine aw_loopK (s0:=?lps3) (m0:=?lpm3) (ι:={k:Nat // k≤8}) [1,3,4,5,6,9,12] (fun s=>[(7,B (cellB m i j s.1)),(15,I s.1)]) (fun _=>[]) (fun s=>8 - s.1) ⟨0,by omega⟩ ?lhs3 ?lhm3 ?_ ?_
     case lhs3=>first|(simp [keepS];done)|(simp [keepS];rfl)
     case lhm3=>first|rfl|(simp;done)|(simp;rfl)
     ·simp only [show cellB m i j 0=false from rfl]
      exact le_of2 (by simp) (by simp [AVle,AV.under,AV.underL]<;>omega) (by simp [AOle,AO.under,AV.underL,AV.under]<;>omega)
     ·rintro ⟨k,hk⟩
      simp only
      rcases Decidable.em (k<8) with hkl|hkl
      ·have hklI:(k:Int)<8:=by omega
       have hcb:=@cellB_s m i j k
       obtain ⟨x,hx⟩:∃ x,x=i*64+j*8+k:=⟨_,rfl⟩
       have hxI:(i:Int)*64+(j:Int)*8+(k:Int)=(x:Int):=by omega
       have hxl:x<512:=by omega
       have hxlI:(x:Int)<512:=by omega
       have hr1:=hrd hm hxl
       have hr2:=hrE hm hxl
       rw [← hx] at hcb
       obtain ⟨v,hv⟩:∃ v,v=m.getD x 0:=⟨_,rfl⟩
       rw [← hv] at hcb hr1 hr2
       simp only [U] at hr1 hr2
       cases hb:cellB m i j k with
       | true =>
        rw [hb,Bool.true_or] at hcb
        repeat' (first|(apply aw_seq_k;intro K hK)|(refine aw_run hc (by first|exact aw_nod|(intro _;rw [ordB_w hw];kernel_rfl)|(intro _;rw [ordB_w0 hw0];kernel_rfl)|(intro _;kernel_rfl)) ?_;simp [List.zipIdx,hklI,hkl,hxI,-getM,getM_hit,getM_miss,getM_none];(repeat (simp (disch:=first|omega|assumption|fail) only [if_pos,if_neg,wrap64];try simp [List.zipIdx,hklI,hkl,hxI,-getM,getM_hit,getM_miss,getM_none]));try (repeat' (refine guardQ_split (fun h=>?_) (fun h=>?_)<;>simp at h<;>(simp [List.zipIdx,hklI,hkl,hxI,-getM,getM_hit,getM_miss,getM_none];(repeat (simp (disch:=first|omega|assumption|fail) only [if_pos,if_neg,wrap64];try simp [List.zipIdx,hklI,hkl,hxI,-getM,getM_hit,getM_miss,getM_none]))))))|(refine aw_cond (b:=_) (by exact rfl) (fun h=>?_) (fun h=>?_)<;>(try simp at h))|(refine aw_block ?_)|(refine aw_skip ?_;simp only [thenQ,blockQ,if_true])|(refine aw_exit ?_;simp [thenQ,blockQ])|(refine aw_ret ?_;simp only [thenQ,blockQ])|(refine aw_round ?_)|(refine hK _ ?_;clear hK)|(clear hK;refine hK _ ?_;clear hK)|(clear hK;clear hK;refine hK _ ?_;clear hK)|(clear hK;clear hK;clear hK;refine hK _ ?_;clear hK))
        first|refine ⟨k+1,?_,by omega,by omega⟩|refine ⟨k+1,⟨by omega,?_⟩,by omega⟩
        simp only [hcb]
        exact le_of2 (by simp) (by simp [AVle,AV.under,AV.underL]<;>omega) (by simp [AOle,AO.under,AV.underL,AV.under]<;>omega)
       | false =>
        rw [hb,Bool.false_or] at hcb
        rcases Decidable.em (v=0) with hv0|hv0
        ·subst hv0
         repeat' (first|(apply aw_seq_k;intro K hK)|(refine aw_run hc (by first|exact aw_nod|(intro _;rw [ordB_w hw];kernel_rfl)|(intro _;rw [ordB_w0 hw0];kernel_rfl)|(intro _;kernel_rfl)) ?_;simp [List.zipIdx,hklI,hkl,hxI,hxl,hxlI,hr1,hr2,hwl,-getM,getM_hit,getM_miss,getM_none];(repeat (simp (disch:=first|omega|assumption|fail) only [if_pos,if_neg,wrap64];try simp [List.zipIdx,hklI,hkl,hxI,hxl,hxlI,hr1,hr2,hwl,-getM,getM_hit,getM_miss,getM_none]));try (repeat' (refine guardQ_split (fun h=>?_) (fun h=>?_)<;>simp at h<;>(simp [List.zipIdx,hklI,hkl,hxI,hxl,hxlI,hr1,hr2,hwl,-getM,getM_hit,getM_miss,getM_none];(repeat (simp (disch:=first|omega|assumption|fail) only [if_pos,if_neg,wrap64];try simp [List.zipIdx,hklI,hkl,hxI,hxl,hxlI,hr1,hr2,hwl,-getM,getM_hit,getM_miss,getM_none]))))))|(refine aw_cond (b:=_) (by exact rfl) (fun h=>?_) (fun h=>?_)<;>(try simp at h))|(refine aw_block ?_)|(refine aw_skip ?_;simp only [thenQ,blockQ,if_true])|(refine aw_exit ?_;simp [thenQ,blockQ])|(refine aw_ret ?_;simp only [thenQ,blockQ])|(refine aw_round ?_)|(refine hK _ ?_;clear hK)|(clear hK;refine hK _ ?_;clear hK)|(clear hK;clear hK;refine hK _ ?_;clear hK)|(clear hK;clear hK;clear hK;refine hK _ ?_;clear hK))
         first|refine ⟨k+1,?_,by omega,by omega⟩|refine ⟨k+1,⟨by omega,?_⟩,by omega⟩
         simp only [hcb]
         exact le_of2 (by simp) (by simp [AVle,AV.under,AV.underL]<;>omega) (by simp [AOle,AO.under,AV.underL,AV.under]<;>omega)
        ·have hvI:¬ (v:Int)=0:=by omega
         repeat' (first|(apply aw_seq_k;intro K hK)|(refine aw_run hc (by first|exact aw_nod|(intro _;rw [ordB_w hw];kernel_rfl)|(intro _;rw [ordB_w0 hw0];kernel_rfl)|(intro _;kernel_rfl)) ?_;simp [List.zipIdx,hklI,hkl,hxI,hxl,hxlI,hr1,hr2,hwl,hv0,hvI,-getM,getM_hit,getM_miss,getM_none];(repeat (simp (disch:=first|omega|assumption|fail) only [if_pos,if_neg,wrap64];try simp [List.zipIdx,hklI,hkl,hxI,hxl,hxlI,hr1,hr2,hwl,hv0,hvI,-getM,getM_hit,getM_miss,getM_none]));try (repeat' (refine guardQ_split (fun h=>?_) (fun h=>?_)<;>simp at h<;>(simp [List.zipIdx,hklI,hkl,hxI,hxl,hxlI,hr1,hr2,hwl,hv0,hvI,-getM,getM_hit,getM_miss,getM_none];(repeat (simp (disch:=first|omega|assumption|fail) only [if_pos,if_neg,wrap64];try simp [List.zipIdx,hklI,hkl,hxI,hxl,hxlI,hr1,hr2,hwl,hv0,hvI,-getM,getM_hit,getM_miss,getM_none]))))))|(refine aw_cond (b:=_) (by exact rfl) (fun h=>?_) (fun h=>?_)<;>(try simp at h))|(refine aw_block ?_)|(refine aw_skip ?_;simp only [thenQ,blockQ,if_true])|(refine aw_exit ?_;simp [thenQ,blockQ])|(refine aw_ret ?_;simp only [thenQ,blockQ])|(refine aw_round ?_)|(refine hK _ ?_;clear hK)|(clear hK;refine hK _ ?_;clear hK)|(clear hK;clear hK;refine hK _ ?_;clear hK)|(clear hK;clear hK;clear hK;refine hK _ ?_;clear hK))
         first|refine ⟨k+1,?_,by omega,by omega⟩|refine ⟨k+1,⟨by omega,?_⟩,by omega⟩
         simp only [hcb,hv0]
         exact le_of2 (by simp) (by simp [AVle,AV.under,AV.underL]<;>omega) (by simp [AOle,AO.under,AV.underL,AV.under]<;>omega)
      ·obtain rfl:k=8:=by omega
       cases hb:cellB m i j 8 with
       | true =>
        have hvt:=vN_t hb
        rw [hb,Bool.or_true] at hbs
        repeat' (first|(apply aw_seq_k;intro K hK)|(refine aw_run hc (by first|exact aw_nod|(intro _;rw [ordB_w hw];kernel_rfl)|(intro _;rw [ordB_w0 hw0];kernel_rfl)|(intro _;kernel_rfl)) ?_;simp [List.zipIdx,hvt,-getM,getM_hit,getM_miss,getM_none];(repeat (simp (disch:=first|omega|assumption|fail) only [if_pos,if_neg,wrap64];try simp [List.zipIdx,hvt,-getM,getM_hit,getM_miss,getM_none]));try (repeat' (refine guardQ_split (fun h=>?_) (fun h=>?_)<;>simp at h<;>(simp [List.zipIdx,hvt,-getM,getM_hit,getM_miss,getM_none];(repeat (simp (disch:=first|omega|assumption|fail) only [if_pos,if_neg,wrap64];try simp [List.zipIdx,hvt,-getM,getM_hit,getM_miss,getM_none]))))))|(refine aw_cond (b:=_) (by exact rfl) (fun h=>?_) (fun h=>?_)<;>(try simp at h))|(refine aw_block ?_)|(refine aw_skip ?_;simp only [thenQ,blockQ,if_true])|(refine aw_exit ?_;simp [thenQ,blockQ])|(refine aw_ret ?_;simp only [thenQ,blockQ])|(refine aw_round ?_)|(refine hK _ ?_;clear hK)|(clear hK;refine hK _ ?_;clear hK)|(clear hK;clear hK;refine hK _ ?_;clear hK)|(clear hK;clear hK;clear hK;refine hK _ ?_;clear hK))
        first|refine ⟨j+1,?_,by omega,by omega⟩|refine ⟨j+1,⟨by omega,?_⟩,by omega⟩
        simp only [hbs]
        exact le_of2 (by simp) (by simp [AVle,AV.under,AV.underL]<;>omega) (by simp [AOle,AO.under,AV.underL,AV.under]<;>omega)
       | false =>
        have hvf:=vN_f hb
        rw [hb,Bool.or_false] at hbs
        repeat' (first|(apply aw_seq_k;intro K hK)|(refine aw_run hc (by first|exact aw_nod|(intro _;rw [ordB_w hw];kernel_rfl)|(intro _;rw [ordB_w0 hw0];kernel_rfl)|(intro _;kernel_rfl)) ?_;simp [List.zipIdx,-getM,getM_hit,getM_miss,getM_none];(repeat (simp (disch:=first|omega|assumption|fail) only [if_pos,if_neg,wrap64];try simp [List.zipIdx,-getM,getM_hit,getM_miss,getM_none]));try (repeat' (refine guardQ_split (fun h=>?_) (fun h=>?_)<;>simp at h<;>(simp [List.zipIdx,-getM,getM_hit,getM_miss,getM_none];(repeat (simp (disch:=first|omega|assumption|fail) only [if_pos,if_neg,wrap64];try simp [List.zipIdx,-getM,getM_hit,getM_miss,getM_none]))))))|(refine aw_cond (b:=_) (by exact rfl) (fun h=>?_) (fun h=>?_)<;>(try simp at h))|(refine aw_block ?_)|(refine aw_skip ?_;simp only [thenQ,blockQ,if_true])|(refine aw_exit ?_;simp [thenQ,blockQ])|(refine aw_ret ?_;simp only [thenQ,blockQ])|(refine aw_round ?_)|(refine hK _ ?_;clear hK)|(clear hK;refine hK _ ?_;clear hK)|(clear hK;clear hK;refine hK _ ?_;clear hK)|(clear hK;clear hK;clear hK;refine hK _ ?_;clear hK))
        first|refine ⟨j+1,?_,by omega,by omega⟩|refine ⟨j+1,⟨by omega,?_⟩,by omega⟩
        simp only [hbs,← hvf]
        exact le_of2 (by simp) (by simp [AVle,AV.under,AV.underL]<;>omega) (by simp [AOle,AO.under,AV.underL,AV.under]<;>omega)
    ·obtain rfl:j=8:=by omega
     cases hb:rowB m i 8 with
     | true =>
      have hvt:=vN_8t hb
      repeat' (first|(apply aw_seq_k;intro K hK)|(refine aw_run hc (by first|exact aw_nod|(intro _;rw [ordB_w hw];kernel_rfl)|(intro _;rw [ordB_w0 hw0];kernel_rfl)|(intro _;kernel_rfl)) ?_;simp [List.zipIdx,hvt,-getM,getM_hit,getM_miss,getM_none];(repeat (simp (disch:=first|omega|assumption|fail) only [if_pos,if_neg,wrap64];try simp [List.zipIdx,hvt,-getM,getM_hit,getM_miss,getM_none]));try (repeat' (refine guardQ_split (fun h=>?_) (fun h=>?_)<;>simp at h<;>(simp [List.zipIdx,hvt,-getM,getM_hit,getM_miss,getM_none];(repeat (simp (disch:=first|omega|assumption|fail) only [if_pos,if_neg,wrap64];try simp [List.zipIdx,hvt,-getM,getM_hit,getM_miss,getM_none]))))))|(refine aw_cond (b:=_) (by exact rfl) (fun h=>?_) (fun h=>?_)<;>(try simp at h))|(refine aw_block ?_)|(refine aw_skip ?_;simp only [thenQ,blockQ,if_true])|(refine aw_exit ?_;simp [thenQ,blockQ])|(refine aw_ret ?_;simp only [thenQ,blockQ])|(refine aw_round ?_)|(refine hK _ ?_;clear hK)|(clear hK;refine hK _ ?_;clear hK)|(clear hK;clear hK;refine hK _ ?_;clear hK)|(clear hK;clear hK;clear hK;refine hK _ ?_;clear hK))
      refine ⟨i+1,?_,by omega,by omega⟩
      exact le_of2 (by simp) (by simp [AVle,AV.under,AV.underL]<;>omega) (by simp [AOle,AO.under,AV.underL,AV.under]<;>omega)
     | false =>
      have hvf:=vN_8f hb
      repeat' (first|(apply aw_seq_k;intro K hK)|(refine aw_run hc (by first|exact aw_nod|(intro _;rw [ordB_w hw];kernel_rfl)|(intro _;rw [ordB_w0 hw0];kernel_rfl)|(intro _;kernel_rfl)) ?_;simp [List.zipIdx,-getM,getM_hit,getM_miss,getM_none];(repeat (simp (disch:=first|omega|assumption|fail) only [if_pos,if_neg,wrap64];try simp [List.zipIdx,-getM,getM_hit,getM_miss,getM_none]));try (repeat' (refine guardQ_split (fun h=>?_) (fun h=>?_)<;>simp at h<;>(simp [List.zipIdx,-getM,getM_hit,getM_miss,getM_none];(repeat (simp (disch:=first|omega|assumption|fail) only [if_pos,if_neg,wrap64];try simp [List.zipIdx,-getM,getM_hit,getM_miss,getM_none]))))))|(refine aw_cond (b:=_) (by exact rfl) (fun h=>?_) (fun h=>?_)<;>(try simp at h))|(refine aw_block ?_)|(refine aw_skip ?_;simp only [thenQ,blockQ,if_true])|(refine aw_exit ?_;simp [thenQ,blockQ])|(refine aw_ret ?_;simp only [thenQ,blockQ])|(refine aw_round ?_)|(refine hK _ ?_;clear hK)|(clear hK;refine hK _ ?_;clear hK)|(clear hK;clear hK;refine hK _ ?_;clear hK)|(clear hK;clear hK;clear hK;refine hK _ ?_;clear hK))
      refine ⟨i+1,?_,by omega,by omega⟩
      simp only [← hvf]
      exact le_of2 (by simp) (by simp [AVle,AV.under,AV.underL]<;>omega) (by simp [AOle,AO.under,AV.underL,AV.under]<;>omega)
  ·obtain rfl:i=8:=by omega
   repeat' (first|(apply aw_seq_k;intro K hK)|(refine aw_run hc (by first|exact aw_nod|(intro _;rw [ordB_w hw];kernel_rfl)|(intro _;rw [ordB_w0 hw0];kernel_rfl)|(intro _;kernel_rfl)) ?_;simp [List.zipIdx,-getM,getM_hit,getM_miss,getM_none];(repeat (simp (disch:=first|omega|assumption|fail) only [if_pos,if_neg,wrap64];try simp [List.zipIdx,-getM,getM_hit,getM_miss,getM_none]));try (repeat' (refine guardQ_split (fun h=>?_) (fun h=>?_)<;>simp at h<;>(simp [List.zipIdx,-getM,getM_hit,getM_miss,getM_none];(repeat (simp (disch:=first|omega|assumption|fail) only [if_pos,if_neg,wrap64];try simp [List.zipIdx,-getM,getM_hit,getM_miss,getM_none]))))))|(refine aw_cond (b:=_) (by exact rfl) (fun h=>?_) (fun h=>?_)<;>(try simp at h))|(refine aw_block ?_)|(refine aw_skip ?_;simp only [thenQ,blockQ,if_true])|(refine aw_exit ?_;simp [thenQ,blockQ])|(refine aw_ret ?_;simp only [thenQ,blockQ])|(refine aw_round ?_)|(refine hK _ ?_;clear hK)|(clear hK;refine hK _ ?_;clear hK)|(clear hK;clear hK;refine hK _ ?_;clear hK)|(clear hK;clear hK;clear hK;refine hK _ ?_;clear hK))
   refine ⟨by simp,?_⟩
   simp [leaves_iff,Tryz.f57]
   try (first|omega|(refine decide_eq_decide.2 ?_;omega)|(refine decide_eq_false ?_;omega)|(refine decide_eq_true ?_;omega))
end Go.AM
namespace Go.AM
open Go Go.Proofs
set_option maxRecDepth 4000
noncomputable def Tm1:AX:=TeB.add 57 (callP PxF)
theorem tm1:XOK Tryz.prog Tm1:=xok_spec teB (s57 TeB teB w0T) (fun x=>trivial) Tryz.func57 (by kernel_rfl)
def Own3 (X:AX) (f:FuncId) (t:Tb) (x:Int) (r:Nat→AV×List (Nat×AO)):Prop:=∀ (a va b vb:Nat) (fa fb:Bool) (M:Nat→AO) (n:Nat),M a=.vec va 9 fa (nrows t.2.1)→M b=.vec vb 2 fb (prows t.2.2)→X.call f [TbS t a va b vb,I x] M n=some (r n)
def Own1 (X:AX) (f:FuncId) (t:Tb) (r:Nat→AV×List (Nat×AO)):Prop:=∀ (a va b vb:Nat) (fa fb:Bool) (M:Nat→AO) (n:Nat),M a=.vec va 9 fa (nrows t.2.1)→M b=.vec vb 2 fb (prows t.2.2)→X.call f [TbS t a va b vb] M n=some (r n)
structure LawM (X:AX):Prop extends LawP X where
 ne:∀ x M n,X.call 49 [I x] M n=some (.tup [TbC (newT x).1 n,I (newT x).2],outT (newT x).1 n)
 de:∀ w:Nat,w<2^64→∀ M n,X.call 56 [U w] M n=some (.tup [EnV (decR w).1,I (decR w).2],[])
 mi:∀ (t:Tb) (x:Int),tbOK t→Own3 X 37 t x fun _=>(.tup [I (missT t x).1,I (missT t x).2],[])
 se:∀ x:StD,stOK x→∀ (a va b vb c vc:Nat) (fa fb fc:Bool) (M:Nat→AO) (n:Nat),M a=.vec va 9 fa (nrows x.1.2.1)→M b=.vec vb 2 fb (prows x.1.2.2)→M c=.vec vc 1 fc (irows x.2.2.2) →
  X.call 51 [TbS x.1 a va b vb,I x.2.1,U x.2.2.1,.sl c vc 1 0 x.2.2.2.length] M n=some (.tup [TbC (setP x.1 x.2.1 x.2.2.1 x.2.2.2).1 n,I (setP x.1 x.2.1 x.2.2.1 x.2.2.2).2],outT (setP x.1 x.2.1 x.2.2.1 x.2.2.2).1 n)
 cl:∀ (t:Tb) (x:Int),tbOK t→t.2.1.length≤999000→Own3 X 55 t x fun n=>(.tup [TbC (clrP t x).1 n,U (clrP t x).2.1,.sl (n+2) 1 1 0 (clrP t x).2.2.1.length,I (clrP t x).2.2.2],outT (clrP t x).1 n++[(n+2,.vec 1 1 false (irows (clrP t x).2.2.1))])
 wa:∀ (t:Tb) (x:Int),tbOK t→Own3 X 35 t x fun _=>(.tup [U (walkT t x).1,I (walkT t x).2.1,I (walkT t x).2.2],[])
 li:∀ t:Tb,tbOK t→Own1 X 44 t fun n=>(.sl n 1 2 0 (lstT t).length,[(n,.vec 1 2 false (erows (lstT t)))])
 fr:∀ t:Tb,tbOK t→Own1 X 47 t fun n=>(.sl n 1 1 0 (frmT t).length,[(n,.vec 1 1 false (irows (frmT t)))])
 ch:∀ t:Tb,tbOK t→Own1 X 39 t fun _=>(I (chk t),[])
 px:∀ m:List Nat,m.length=512→∀ M n,X.call 57 [.agg (wcs m)] M n=some (I (prefN m 8),[])
theorem peek_wm {M:Nat→AO}:∀ {ws:List Nat},peekLeaves M (wcs ws)=some (wcs ws)
 | []=>rfl
 | w::ws=>by
  have ih:=peek_wm (M:=M) (ws:=ws)
  show (match peekLeaf M (U w),peekLeaves M (wcs ws) with
   | some x,some xs=>some (x::xs)
   | _,_=>none)=_
  rw [ih];rfl
theorem peek_wsm {M:Nat→AO} {ws:List Nat}:peekVals M [.agg (wcs ws)]=some [.agg (wcs ws)]:=by
 simp [peekVals,peekVal,peek_wm]
theorem lawPm:LawP Tm1:=⟨tm1,w0T,fun t M n=>cFew t M n,fun M n=>cAw M n,fun t h=>samO rfl h,fun l h=>eqiO rfl h,fun l h=>eqpO rfl h⟩
theorem lawM:LawM Tm1:=⟨lawPm,fun x M n=>cNe x M n,fun w h M n=>cDe w h M n,
 fun t x h a va b vb fa fb M n h1 h2=>oT2 (D:=fun t _=>tbOK t) (R:=fun t x=>retOf [I (missT t x).1,I (missT t x).2]) h ⟨⟨fa,h1⟩,fb,h2⟩ n rfl (by simp [retOf,openRet,openVals,openVal,openLeaves,openLeaf,U]),
 fun x h a va b vb c vc fa fb fc M n h1 h2 h3=>by
  show callP SeF _ M n=_
  unfold SeF
  have tk:List.take x.2.2.2.length (irows x.2.2.2)=irows x.2.2.2:=List.take_of_length_le (by simp)
  rw [callP_spec (ι:={x:StD // stOK x}) (A:=fun x=>[TbV x.1.1,I x.1.2.1,U x.1.2.2.1,.rd 1 (irows x.1.2.2.2)]) (R:=fun x=>retOf [TbO (setP x.1.1 x.1.2.1 x.1.2.2.1 x.1.2.2.2).1,I (setP x.1.1 x.1.2.1 x.1.2.2.1 x.1.2.2.2).2]) ⟨x,h⟩ (peek_tab ⟨⟨fa,h1⟩,fb,h2⟩ (by simp [h3,tk,U])) ?_ (by rw [open_tab];simp only;omega),open_tab]
  rintro ⟨⟨t',p',w',fs'⟩,h'⟩ e
  obtain ⟨t,p,w,fs⟩:=x
  simp only [List.cons.injEq,TbV_inj,U,I,AV.v.injEq,Value.int.injEq,true_and,and_true,AV.rd.injEq,irows_inj,Int.ofNat_inj] at e
  obtain ⟨rfl,rfl,rfl,rfl⟩:=e;rfl,
 fun t x h hl a va b vb fa fb M n h1 h2=>oT2 (D:=fun t _=>tbOK t∧t.2.1.length≤999000) (R:=fun t x=>retOf [TbO (clrP t x).1,U (clrP t x).2.1,.ow 1 (irows (clrP t x).2.2.1),I (clrP t x).2.2.2]) ⟨h,hl⟩ ⟨⟨fa,h1⟩,fb,h2⟩ n open_clr (by omega),
 fun t x h a va b vb fa fb M n h1 h2=>oT2 (D:=fun t _=>tbOK t) (R:=fun t x=>retOf [U (walkT t x).1,I (walkT t x).2.1,I (walkT t x).2.2]) h ⟨⟨fa,h1⟩,fb,h2⟩ n rfl (by simp [retOf,openRet,openVals,openVal,openLeaves,openLeaf,U]),
 fun t h a va b vb fa fb M n h1 h2=>oT1 (D:=tbOK) (R:=fun t=>retOf [.ow 2 (erows (lstT t))]) h ⟨⟨fa,h1⟩,fb,h2⟩ n open_erow (by omega),
 fun t h a va b vb fa fb M n h1 h2=>oT1 (D:=tbOK) (R:=fun t=>retOf [.ow 1 (irows (frmT t))]) h ⟨⟨fa,h1⟩,fb,h2⟩ n open_irow (by omega),
 fun t h a va b vb fa fb M n h1 h2=>oT1 (D:=tbOK) (R:=fun t=>retOf [I (chk t)]) h ⟨⟨fa,h1⟩,fb,h2⟩ n rfl (by simp [retOf,openRet,openVals,openVal,openLeaves,openLeaf]),
 fun m h M n=>callP_spec (ι:={m:List Nat // m.length=512}) (A:=fun x=>[.agg (wcs x.1)]) (R:=fun x=>retOf [I (prefN x.1 8)]) (avs:=[.agg (wcs m)]) (M:=M) (n:=n) ⟨m,h⟩ peek_wsm (by
  rintro ⟨m',h'⟩ e
  simp only [List.cons.injEq,AV.agg.injEq,wcs_inj,and_true] at e
  subst e;rfl) (by simp)⟩
def oprow (o:Opp):List AV:=[I o.1,U o.2.1,.rd 1 (irows o.2.2)]
def oprows (l:List Opp):List (List AV):=l.map oprow
@[simp] theorem oprows_len {l:List Opp}:(oprows l).length=l.length:=by simp [oprows]
def gop (l:List Opp) (i:Nat):Opp:=l.getD i (0,0,[])
theorem gop_eq {l:List Opp} {i:Nat} (h:i<l.length):gop l i=l[i]:=by
 unfold gop
 rw [List.getD_eq_getElem?_getD,List.getElem?_eq_getElem h];rfl
theorem gop_mem {l:List Opp} {i:Nat} (h:i<l.length):gop l i∈l:=by rw [gop_eq h];exact List.getElem_mem h
theorem oprows_gi {l:List Opp} {i:Nat} (h:i<l.length):(oprows l)[i]?=some (oprow (gop l i)):=by
 rw [gop_eq h]
 simp [oprows,List.getElem?_eq_getElem h]
theorem oprows_gE {l:List Opp} {i:Nat} (h:i<l.length):∀ h',(oprows l)[i]'(h')=oprow (gop l i):=fun h'=>by
 have:=oprows_gi h
 rw [List.getElem?_eq_getElem h'] at this
 exact Option.some.inj this
theorem rows_op:∀ {xs:List (List AV)},(∀ e∈xs,FitL [shI,shQ,shL] e)→∃ l,xs=oprows l∧∀ o∈l,o.2.1<2^64
 | [],_=>⟨[],rfl,by simp⟩
 | e::r,h=>by
  obtain ⟨l,rfl,hl⟩:=rows_op (xs:=r) fun e' he=>h e' (by simp [he])
  obtain ⟨a,ar,rfl,ha,hr⟩:=fitL_cons (h e (by simp))
  obtain ⟨b,br,rfl,hb,hr2⟩:=fitL_cons hr
  obtain ⟨c,rfl,hc3⟩:=fitL_one hr2
  obtain ⟨p,rfl,_⟩:=fit_int ha
  obtain ⟨w,rfl,hw⟩:=fit_u64 hb
  obtain ⟨fs,rfl,_⟩:=fit_ints hc3
  refine ⟨(p,w,fs)::l,rfl,fun o ho=>?_⟩
  rcases List.mem_cons.1 ho with rfl|ho
  ·exact hw
  ·exact hl o ho
theorem shOps:shapeOf Tryz.prog 10 98=some [.sl [shI,shQ,shL]]:=by kernel_rfl
theorem ops_F (avs:List AV) (h:FitArgs Tryz.prog [98] avs):specF (ι:={l:List Opp // ∀ o∈l,o.2.1<2^64}) (fun x=>[.rd 3 (oprows x.1)]) (fun _=>retOf [B true]) avs=some (B true):=by
 match avs,h with
 | [a],h =>
  simp only [FitArgs] at h
  have hf:=arg_one shOps (fun fs=>by simp [Tryz.underlying98]) (fun n e=>by simp [Tryz.underlying98]) h.1
  simp only [Fit] at hf
  obtain ⟨xs,rfl,_,hx⟩:=hf
  obtain ⟨l,rfl,hl⟩:=rows_op hx
  exact specF_eq (A:=fun x:{l:List Opp // ∀ o∈l,o.2.1<2^64}=>[.rd 3 (oprows x.1)]) (R:=fun _=>retOf [B true]) ⟨l,hl⟩ fun _ _=>rfl
 | [],h=>simp [FitArgs] at h
 | _::_::_,h=>simp [FitArgs] at h
end Go.AM
