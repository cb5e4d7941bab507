/- A part of the proof: what functions of the program compute, by abstract execution of their code. Its theorems hold without further condition. -/
import Derived.Test.YtcfhmdljeeppfaaAmT
import Derived.WalkKit
set_option linter.all false
namespace Go.AM
open Go
theorem getM_hit {k:Nat} {o:AO} {r:List (Nat×AO)}:getM ((k,o)::r) k=o:=by simp [getM]
theorem getM_miss {k b:Nat} {o:AO} {r:List (Nat×AO)} (h:k≠b):getM ((k,o)::r) b=getM r b:=by simp [getM,h]
theorem getM_none {b:Nat}:getM [] b=.dead:=rfl
def vr (n b m:Nat):Nat:=if b<n then m else if m=0 then 0 else 1
mutual
def AV.iso (n:Nat) (σ:Nat→Nat):AV→AV
 | .bp b o=>.bp (σ b) o
 | .sl b m s o k=>.sl (σ b) (vr n b m) s o k
 | .ep b m s i j=>.ep (σ b) (vr n b m) s i j
 | .bs b o s k=>.bs (σ b) o s k
 | .agg cs=>.agg (isoL n σ cs)
 | .tup cs=>.tup (isoL n σ cs)
 | .fn f cs=>.fn f (isoL n σ cs)
 | .ifc f cs=>.ifc f (isoL n σ cs)
 | .any=>.any
 | .v x=>.v x
 | .rd s xs=>.rd s xs
 | .ow s xs=>.ow s xs
 | .rp cs=>.rp cs
 | .rf cs=>.rf cs
 | .mp b m=>.mp (σ b) (vr n b m)
 | .rm k es=>.rm k es
 | .om k es=>.om k es
def isoL (n:Nat) (σ:Nat→Nat):List AV→List AV
 | []=>[]
 | a::r=>a.iso n σ::isoL n σ r
end
mutual
def AV.cur (M:Nat→AO):AV→Prop
 | .sl b m _ _ _|.ep b m _ _ _=>(∃ s f xs,M b=.vec m s f xs)∨∃ s xs k e,M b=.vo m s xs k e
 | .mp b m=>∃ k es,M b=.map m k es
 | .agg cs|.tup cs|.fn _ cs|.ifc _ cs=>curL M cs
 | _=>True
def curL (M:Nat→AO):List AV→Prop
 | []=>True
 | a::r=>a.cur M∧curL M r
end
def AO.iso (n:Nat) (σ:Nat→Nat) (b:Nat):AO→AO
 | .dead=>.dead
 | .box cs=>.box (isoL n σ cs)
 | .vec m s f xs=>.vec (vr n b m) s f xs
 | .map m k es=>.map (vr n b m) k es
 | .vo m s xs k e=>.vo (vr n b m) s xs k (isoL n σ e)
def AO.cur (M:Nat→AO):AO→Prop
 | .box cs=>curL M cs
 | .vo _ _ _ _ e=>curL M e
 | _=>True
def Env.iso (E:Env) (n:Nat) (τ:Nat→Nat):Env:={ G:=E.G,alive:=fun b=>E.alive (τ b),ver:=fun b=>vr n (τ b) (E.ver (τ b)),loc:=fun b=>E.loc (τ b) }
section
variable {E:Env} {w:World} {n:Nat} {σ τ:Nat→Nat} {M:Nat→AO}
mutual
theorem Rep.iso (hst:∀ b,τ (σ b)=b) (hM:MemOK E w M):∀ {a:AV} {x:Value},a.cur M→Rep E w a x→Rep (E.iso n τ) w (a.iso n σ) x
 | .bp b o,x,_,h=>by
  simp only [Rep,AV.iso,Env.iso,hst] at h ⊢
  obtain ⟨h1,h2,h3⟩:=h
  exact ⟨h1,by rw [h2];simp [vr],h3⟩
 | .sl b m s o k,x,hc,h=>by
  simp only [Rep,AV.iso,Env.iso,hst,AV.cur] at h hc ⊢
  obtain ⟨h1,h2,h3,p,c,h4,h5,h6,h7⟩:=h
  have hv:E.ver b=m:=by
   have ho:=hM b h1
   rcases hc with ⟨s',f',xs',hb⟩|⟨s',xs',k',e',hb⟩
   ·rw [hb] at ho
    simp only [ObjRep] at ho
    exact ho.1
   ·rw [hb] at ho
    simp only [ObjRep] at ho
    exact ho.1
  refine ⟨h1,?_,?_,p,c,h4,h5,h6,fun _=>h7 hv.symm⟩
  ·unfold vr;split
   ·exact h2
   ·rw [if_neg (by omega)];exact Nat.le_refl _
  ·rw [hv];exact Nat.le_refl _
 | .ep b m s i j,x,hc,h=>by
  simp only [Rep,AV.iso,Env.iso,hst,AV.cur] at h hc ⊢
  obtain ⟨h1,h2,h3,a,h4,h5⟩:=h
  have hv:E.ver b=m:=by
   have ho:=hM b h1
   rcases hc with ⟨s',f',xs',hb⟩|⟨s',xs',k',e',hb⟩
   ·rw [hb] at ho
    simp only [ObjRep] at ho
    exact ho.1
   ·rw [hb] at ho
    simp only [ObjRep] at ho
    exact ho.1
  refine ⟨h1,?_,?_,a,h4,fun _=>h5 hv.symm⟩
  ·unfold vr;split
   ·exact h2
   ·rw [if_neg (by omega)];exact Nat.le_refl _
  ·rw [hv];exact Nat.le_refl _
 | .bs b o s k,x,_,h=>by
  simp only [Rep,AV.iso,Env.iso,hst] at h ⊢
  obtain ⟨h1,h2,h3⟩:=h
  exact ⟨h1,by rw [h2];simp [vr],h3⟩
 | .mp b m,x,hc,h=>by
  simp only [Rep,AV.iso,Env.iso,hst,AV.cur] at h hc ⊢
  obtain ⟨h1,h2,h3,blk,h4,h5⟩:=h
  obtain ⟨k',es',hb⟩:=hc
  have ho:=hM b h1
  rw [hb] at ho
  simp only [ObjRep] at ho
  obtain ⟨hv,_⟩:=ho
  refine ⟨h1,?_,?_,blk,h4,fun _=>h5 hv.symm⟩
  ·unfold vr;split
   ·exact h2
   ·rw [if_neg (by omega)];exact Nat.le_refl _
  ·rw [hv];exact Nat.le_refl _
 | .rm ..,_,_,h=>by simp only [Rep,AV.iso] at h ⊢;exact h
 | .om ..,_,_,h=>by simp only [Rep,AV.iso] at h ⊢;exact h
 | .agg cs,x,hc,h=>by
  simp only [Rep,AV.iso,AV.cur] at h hc ⊢
  obtain ⟨vs,h1,h2,h3⟩:=h
  exact ⟨vs,h1,h2,RepL.iso hst hM hc h3⟩
 | .tup cs,x,hc,h=>by
  simp only [Rep,AV.iso,AV.cur] at h hc ⊢
  obtain ⟨vs,h1,h3⟩:=h
  exact ⟨vs,h1,RepL.iso hst hM hc h3⟩
 | .fn f cs,x,hc,h=>by
  simp only [Rep,AV.iso,AV.cur] at h hc ⊢
  obtain ⟨vs,h1,h3⟩:=h
  exact ⟨vs,h1,RepL.iso hst hM hc h3⟩
 | .ifc f cs,x,hc,h=>by
  simp only [Rep,AV.iso,AV.cur] at h hc ⊢
  obtain ⟨vs,h1,h3⟩:=h
  exact ⟨vs,h1,RepL.iso hst hM hc h3⟩
 | .any,_,_,h=>by simp only [Rep,AV.iso] at h ⊢;exact h
 | .v _,_,_,h=>by simp only [Rep,AV.iso] at h ⊢;exact h
 | .rd ..,_,_,h=>by simp only [Rep,AV.iso] at h ⊢;exact h
 | .ow ..,_,_,h=>by simp only [Rep,AV.iso] at h ⊢;exact h
 | .rp ..,_,_,h=>by simp only [Rep,AV.iso] at h ⊢;exact h
 | .rf ..,_,_,h=>by simp only [Rep,AV.iso] at h ⊢;exact h
theorem RepL.iso (hst:∀ b,τ (σ b)=b) (hM:MemOK E w M):∀ {as:List AV} {xs:List Value},curL M as→RepL E w as xs→RepL (E.iso n τ) w (isoL n σ as) xs
 | [],[],_,_=>by simp [RepL,isoL]
 | a::as,x::xs,hc,h=>by
  simp only [RepL,isoL,curL] at h hc ⊢
  exact ⟨Rep.iso hst hM hc.1 h.1,RepL.iso hst hM hc.2 h.2⟩
 | [],_::_,_,h=>by simp [RepL] at h
 | _::_,[],_,h=>by simp [RepL] at h
end
theorem isoL_len {n:Nat} {σ:Nat→Nat}:∀ {l:List AV},(isoL n σ l).length=l.length
 | []=>rfl
 | a::r=>by simp [isoL,isoL_len (l:=r)]
theorem ObjRep.iso (hst:∀ b,τ (σ b)=b) (hM:MemOK E w M) {b:Nat}:∀ {o:AO},o.cur M→ObjRep E w b o→ObjRep (E.iso n τ) w (σ b) (o.iso n σ b)
 | .dead,_,_=>trivial
 | .box cs,hc,h=>by
  simp only [ObjRep,AO.iso,Env.iso,hst,AO.cur] at h hc ⊢
  obtain ⟨h1,blk,t,vs,h2,h3,h4,h5⟩:=h
  exact ⟨by rw [h1];simp [vr],blk,t,vs,h2,h3,h4,RepL.iso hst hM hc h5⟩
 | .vec m s f xs,_,h=>by
  simp only [ObjRep,AO.iso,Env.iso,hst] at h ⊢
  obtain ⟨h1,h2,h3⟩:=h
  refine ⟨by rw [h1],?_,h3⟩
  unfold vr;split
  ·exact h2
  ·rw [if_neg (by omega)];exact Nat.le_refl _
 | .map m k es,_,h=>by
  simp only [ObjRep,AO.iso,Env.iso,hst] at h ⊢
  obtain ⟨h1,h2,h3⟩:=h
  refine ⟨by rw [h1],?_,h3⟩
  unfold vr;split
  ·exact h2
  ·rw [if_neg (by omega)];exact Nat.le_refl _
 | .vo m s xs k e,hc,h=>by
  simp only [ObjRep,AO.iso,Env.iso,hst,AO.cur] at h hc ⊢
  obtain ⟨h1,h2,kk,ke,blk,base,sz,c,t,vs,hl,k4,k5,k5',k6,k7,k8,k9⟩:=h
  refine ⟨by rw [h1],?_,kk,by rw [isoL_len];exact ke,blk,base,sz,c,t,vs,hl,k4,k5,k5',k6,k7,RepL.iso hst hM hc k8,k9⟩
  unfold vr;split
  ·exact h2
  ·rw [if_neg (by omega)];exact Nat.le_refl _
end
def St.iso (n:Nat) (σ:Nat→Nat) (st:St):St:=⟨st.s.map fun p=>(p.1,p.2.iso n σ),st.m.map fun p=>(σ p.1,p.2.iso n σ p.1),st.nx⟩
theorem getS_iso {n:Nat} {σ:Nat→Nat} {t:Nat}:∀ {l:List (Nat×AV)},getS (l.map fun p=>(p.1,p.2.iso n σ)) t=(getS l t).iso n σ
 | []=>by simp [getS,AV.iso]
 | p::r=>by
  simp only [List.map_cons,getS]
  split
  ·rfl
  ·exact getS_iso
theorem getM_iso {n:Nat} {σ τ:Nat→Nat} (hst:∀ b,τ (σ b)=b) (hts:∀ b,σ (τ b)=b) {t:Nat}:∀ {l:List (Nat×AO)},getM (l.map fun p=>(σ p.1,p.2.iso n σ p.1)) t=(getM l (τ t)).iso n σ (τ t)
 | []=>by simp [getM,AO.iso]
 | p::r=>by
  simp only [List.map_cons,getM]
  by_cases e:σ p.1=t
  ·have:p.1=τ t:=by rw [← e,hst]
   rw [if_pos e,if_pos this,this]
  ·have:¬ p.1=τ t:=fun h=>e (by rw [h,hts])
   rw [if_neg e,if_neg this]
   exact getM_iso hst hts
theorem le_iso {n:Nat} {st:St} {σ τ:Nat→Nat} (hst:∀ b,τ (σ b)=b) (hts:∀ b,σ (τ b)=b) (hfix:∀ b,b<n→σ b=b) (hnx:∀ b,b<st.nx→σ b<st.nx)
  (hs:∀ p∈st.s,p.2.cur (getM st.m)) (hm:∀ p∈st.m,p.2.cur (getM st.m)):Le n st (st.iso n σ):=fun N w0 bl a w hb ⟨E,h,h1,h2⟩=>by
 subst hb
 have hcs:∀ t,(getS st.s t).cur (getM st.m):=fun t=>by
  rcases getS_mem (s:=st.s) (t:=t) with e|⟨p,hp,_,e⟩
  ·rw [e];simp [AV.cur]
  ·rw [← e];exact hs p hp
 have hcm:∀ t,(getM st.m t).cur (getM st.m):=fun t=>by
  rcases getM_mem (m:=st.m) (t:=t) with e|⟨p,hp,_,e⟩
  ·rw [e];trivial
  ·rw [← e];exact hm p hp
 have hfix':∀ b,b<bl.n→τ b=b:=fun b hb=>by have:=hfix b hb;rw [← this,hst,this]
 refine ⟨E.iso bl.n τ,⟨h.defers,h.size,⟨h.inv.frame,⟨h.inv.gin.G,fun b hb=>?_,fun b hb=>?_⟩,h.inv.low,h.inv.gout,h.inv.good,fun b blk base sz hb hl=>h.inv.locs (τ b) blk base sz hb hl,fun b b' blk base sz base' sz' hb hb' hl hl'=>?_⟩,fun b hb=>?_,fun t=>?_⟩,fun k hk=>?_,fun k hk=>?_⟩
 ·have hlow:=h.inv.low b hb
  show E.alive (τ b)
  rw [hfix' b hlow];exact h.inv.gin.alive b hb
 ·have hlow:=h.inv.low b hb
  have:=h.inv.gin.same b hb
  simp only [Env.iso,hfix' b hlow,vr,if_pos hlow]
  exact this
 ·have:=h.inv.apart (τ b) (τ b') blk base sz base' sz' hb hb' hl hl'
  rw [← hts b,this,hts]
 ·have:=ObjRep.iso (n:=bl.n) hst h.mem (hcm (τ b)) (h.mem (τ b) hb)
  simp only [St.iso]
  rw [getM_iso hst hts]
  rwa [hts] at this
 ·simp only [St.iso]
  rw [getS_iso]
  exact Rep.iso hst h.mem (hcs t) (h.slots t)
 ·have h3:=h1 (τ k) hk
  have:=hnx (τ k) h3
  rwa [hts] at this
 ·simp only [St.iso] at hk
  rw [getM_iso hst hts] at hk
  have h3:=h2 (τ k) (fun e=>hk (by rw [e];rfl))
  have:=hnx (τ k) h3
  rwa [hts] at this
def swp (l:List (Nat×Nat)) (b:Nat):Nat:=match l with
 | []=>b
 | (i,j)::r=>if b=i then j else if b=j then i else swp r b
def swpL:List (Nat×Nat)→List Nat
 | []=>[]
 | (i,j)::r=>i::j::swpL r
theorem swp_or:∀ (l:List (Nat×Nat)) (b:Nat),swp l b=b∨swp l b∈swpL l
 | [],b=>.inl rfl
 | (i,j)::r,b=>by
  simp only [swp,swpL]
  split
  ·right;simp
  ·split
   ·right;simp
   ·rcases swp_or r b with h|h
    ·exact .inl h
    ·right;simp [h]
theorem swp_out:∀ {l:List (Nat×Nat)} {b:Nat},b ∉ swpL l→swp l b=b
 | [],b,_=>rfl
 | (i,j)::r,b,h=>by
  simp only [swpL,List.mem_cons,not_or] at h
  simp only [swp,if_neg h.1,if_neg h.2.1]
  exact swp_out h.2.2
theorem swp_inv:∀ {l:List (Nat×Nat)},(swpL l).Nodup→∀ b,swp l (swp l b)=b
 | [],_,_=>rfl
 | (i,j)::r,h,b=>by
  simp only [swpL,List.nodup_cons,List.mem_cons,not_or] at h
  obtain ⟨⟨h1,h2⟩,h3,h4⟩:=h
  have ih:=swp_inv h4
  by_cases e1:b=i
  ·subst e1
   simp only [swp,if_true]
   rw [if_neg (fun e=>h1 e.symm)]
  ·by_cases e2:b=j
   ·subst e2
    simp only [swp,if_neg e1,if_true]
   ·have:swp ((i,j)::r) b=swp r b:=by simp only [swp,if_neg e1,if_neg e2]
    rw [this]
    rcases swp_or r b with h|h
    ·rw [h];simp only [swp,if_neg e1,if_neg e2];exact h
    ·simp only [swp]
     have n1:¬ swp r b=i:=fun e=>h2 (by rw [← e];exact h)
     have n2:¬ swp r b=j:=fun e=>h3 (by rw [← e];exact h)
     rw [if_neg n1,if_neg n2]
     exact ih b
theorem le_swp {n:Nat} {st:St} (l:List (Nat×Nat)) (hl:(swpL l).Nodup) (hb:∀ b∈swpL l,n≤b∧b<st.nx) (hs:∀ p∈st.s,p.2.cur (getM st.m)) (hm:∀ p∈st.m,p.2.cur (getM st.m)):Le n st (st.iso n (swp l)) :=
 le_iso (swp_inv hl) (swp_inv hl) (fun b hb'=>swp_out fun h=>by have:=(hb b h).1;omega) (fun b hb'=>by
  rcases swp_or l b with h|h
  ·rw [h];exact hb'
  ·exact (hb _ h).2) hs hm
def keepM (ks:List Nat) (m:List (Nat×AO)):List (Nat×AO):=ks.map fun k=>(k,getM m k)
theorem getM_keepM {ks:List Nat} {m:List (Nat×AO)} {t:Nat}:getM (keepM ks m) t=if t∈ks then getM m t else .dead:=by
 induction ks with
 | nil=>rfl
 | cons k r ih =>
  simp only [keepM,List.map_cons,getM,List.mem_cons]
  by_cases e:k=t
  ·subst e;simp
  ·rw [if_neg e]
   simp only [keepM] at ih
   rw [ih]
   simp [Ne.symm e]
theorem le_keep2 (n:Nat) (ks km:List Nat) (st:St):Le n st ⟨keepS ks st.s,keepM km st.m,st.nx⟩:=fun N w0 bl a w _ ⟨E,h,h1,h2⟩=>by
 refine ⟨E,⟨h.defers,h.size,h.inv,fun b hb=>?_,fun t=>?_⟩,h1,fun k hk=>h2 k fun e=>hk ?_⟩
 ·rw [getM_keepM]
  split
  ·exact h.mem b hb
  ·trivial
 ·rw [getS_keepS]
  split
  ·exact h.slots t
  ·simp [Rep,CRep]
 ·rw [getM_keepM,e];simp
theorem le_turn {n:Nat} {s s':List (Nat×AV)} {m m':List (Nat×AO)} {nx nx':Nat} (l:List (Nat×Nat)) (ks km:List Nat) {s1:List (Nat×AV)} {m1:List (Nat×AO)}
  (e1:keepS ks s=s1) (e2:keepM km m=m1) (hl:(swpL l).Nodup) (hb:∀ b∈swpL l,n≤b∧b<nx) (hs:∀ p∈s1,p.2.cur (getM m1)) (hm:∀ p∈m1,p.2.cur (getM m1))
  (h:Le n ⟨s1.map fun p=>(p.1,p.2.iso n (swp l)),m1.map fun p=>(swp l p.1,p.2.iso n (swp l) p.1),nx⟩ ⟨s',m',nx'⟩):Le n ⟨s,m,nx⟩ ⟨s',m',nx'⟩:=by
 subst e1 e2
 exact ((le_keep2 n ks km ⟨s,m,nx⟩).trans (le_swp l hl hb hs hm)).trans h
theorem RepL.set' {E:Env} {w:World}:∀ {as:List AV} {xs:List Value} {i:Nat} {a:AV} {x:Value},RepL E w as xs→xs[i]?=some x→Rep E w a x→RepL E w (as.set i a) xs
 | [],[],i,a,x,_,h,_=>by simp at h
 | b::as,y::xs,0,a,x,h,hx,hr=>by
  simp only [RepL,List.set_cons_zero] at h ⊢
  simp only [List.getElem?_cons_zero,Option.some.injEq] at hx
  subst hx
  exact ⟨hr,h.2⟩
 | b::as,y::xs,i+1,a,x,h,hx,hr=>by
  simp only [RepL,List.set_cons_succ] at h ⊢
  exact ⟨h.1,RepL.set' h.2 (by simpa using hx) hr⟩
 | [],_::_,_,_,_,h,_,_=>by simp [RepL] at h
 | _::_,[],_,_,_,h,_,_=>by simp [RepL] at h
theorem le_nilcell {n:Nat} {s:List (Nat×AV)} {m:List (Nat×AO)} {nx b i sz:Nat} {cs:List AV} (hb:getM m b=.box cs) (hi:cs[i]?=some (.v (.slice none 0 0))) :
  Le n ⟨s,m,nx⟩ ⟨s,(b,.box (cs.set i (.sl nx 1 sz 0 0)))::(nx,.vec 1 sz false [])::m,nx+1⟩:=fun N w0 bl a w _ ⟨E,hs,h1,h2⟩=>by
 have hna:¬ E.alive nx:=fun hh=>by have:=h1 nx hh;simp at this
 have hbn:b<nx:=h2 b (by rw [hb];simp)
 have st:=StepTo.none hs.inv nx sz hna false
 have hmem:=st.mem hs.inv hs.mem
 refine ⟨_,⟨hs.defers,hs.size,st.inv,fun k hk=>?_,fun k=>st.rep hs.inv (hs.slots k)⟩,fun k hk=>?_,fun k hk=>?_⟩
 ·have:=hmem k hk
  simp only [updM] at this
  simp only [getM]
  by_cases e:b=k
  ·subst e
   rw [if_pos rfl]
   rw [if_neg (by omega),hb] at this
   simp only [ObjRep] at this ⊢
   obtain ⟨g1,blk,t,vs,g2,g3,g4,g5⟩:=this
   obtain ⟨x,q1,q2⟩:=g5.get hi
   simp only [Rep,CRep] at q2
   refine ⟨g1,blk,t,vs,g2,g3,g4,g5.set' q1 ?_⟩
   rw [q2]
   simp only [Rep]
   exact ⟨.inr rfl,Nat.le_refl _,by simp [Env.upd],none,0,rfl,Nat.le_refl _,fun _=>rfl,fun _=>by simp [Env.upd,SlAt]⟩
  ·rw [if_neg e]
   exact this
 ·rcases hk with hk|hk
  ·have:=h1 k hk;simp at this ⊢;omega
  ·simp;omega
 ·simp only [getM] at hk
  split at hk
  ·simp;omega
  ·split at hk
   ·simp;omega
   ·have:=h2 k hk;simp at this ⊢;omega
def AWR (c:Cx) (x:Code) (Q:Exit→St→Prop):Nat→St→Prop
 | 0,_=>False
 | n+1,st=>AW c x st (thenQ (AWR c x Q n) Q)
theorem aw_round {c:Cx} {x:Code} {Q:Exit→St→Prop} {n:Nat} {st:St} (h:AW c x st (thenQ (AWR c x Q n) Q)):AWR c x Q (n+1) st:=h
open Classical in
theorem aw_rounds {c:Cx} {x:Code} {Q:Exit→St→Prop} (n:Nat) {st:St} (h:AWR c x Q n st):AW c (.loop x) st Q :=
 aw_loop (ι:={p:Nat×St // AWR c x Q p.1 p.2}) (fun i=>i.1.2) (fun i=>i.1.1) ⟨(n,st),h⟩ (Le.refl _ _) fun ⟨⟨m,s⟩,hm⟩=>by
  cases m with
  | zero=>exact hm.elim
  | succ m =>
   exact aw_mono hm fun e s' hq=>by
    cases e with
    | normal=>exact ⟨⟨(m,s'),hq⟩,Le.refl _ _,by simp⟩
    | _=>exact hq
end Go.AM
namespace Go.AM
open Go
def nilA (s:Nat):AV→AV
 | .v (.slice none 0 0)=>.rd s []
 | a=>a
def nilV (s:Nat):AV→AV
 | .agg cs=>.agg (cs.map (nilA s))
 | a=>nilA s a
theorem nilA_ok {s:Nat} {w:World} {G:Nat→Prop} {a:AV} {x:Value} (h:CRep w G a x):CRep w G (nilA s a) x:=by
 unfold nilA
 split
 ·simp only [CRep] at h ⊢
  subst h
  exact ⟨none,0,rfl,by simp,fun _=>rfl,.inl trivial⟩
 ·exact h
theorem nilL_ok {s:Nat} {w:World} {G:Nat→Prop}:∀ {as:List AV} {xs:List Value},CRepL w G as xs→CRepL w G (as.map (nilA s)) xs
 | [],[],h=>h
 | a::as,x::xs,h=>by simp only [CRepL,List.map_cons] at h ⊢;exact ⟨nilA_ok h.1,nilL_ok h.2⟩
 | [],_::_,h=>by simp [CRepL] at h
 | _::_,[],h=>by simp [CRepL] at h
theorem nilV_ok {s:Nat} {w:World} {G:Nat→Prop} {a:AV} {x:Value} (h:CRep w G a x):CRep w G (nilV s a) x:=by
 unfold nilV
 split
 ·simp only [CRep] at h ⊢
  obtain ⟨vs,h1,h2,h3⟩:=h
  exact ⟨vs,h1,h2,nilL_ok h3⟩
 ·exact nilA_ok h
theorem nilVs_ok {s:Nat} {w:World} {G:Nat→Prop}:∀ {as:List AV} {xs:List Value},CRepL w G as xs→CRepL w G (as.map (nilV s)) xs
 | [],[],h=>h
 | a::as,x::xs,h=>by simp only [CRepL,List.map_cons] at h ⊢;exact ⟨nilV_ok h.1,nilVs_ok h.2⟩
 | [],_::_,h=>by simp [CRepL] at h
 | _::_,[],h=>by simp [CRepL] at h
theorem PSound.nil {P:Program} {f:FuncId} {F:List AV→Option AV} (h:PSound P f F) (s:Nat):PSound P f fun avs=>F (avs.map (nilV s)) :=
 fun w G args avs r hr hG ha=>h w G args _ r hr hG (nilVs_ok ha)
attribute [simp] AV.iso isoL AV.cur curL AO.iso AO.cur swpL keepM
end Go.AM
namespace Go.AM
open Go
def RLe:AV→AV→Prop
 | .tup as,.tup bs=>SLeVs as bs
 | .tup _,_=>False
 | _,.tup _=>False
 | a,b=>SLeV a b
theorem RLe.ret {w:World} {G:Nat→Prop} {a b:AV} {x:Value} {bl:List Nat} (h:RLe a b) (ho:ORet w G a x bl) (hn:bl.Nodup) :
  ∃ bl',bl'.Sublist bl∧∀ G',(∀ k,G k→G' k)→(∀ k∈bl,k ∉ bl'→G' k)→ORet w G' b x bl':=by
 by_cases ha:∃ as,a=.tup as
 ·obtain ⟨as,rfl⟩:=ha
  cases b<;>simp only [RLe] at h
  rename_i bs
  simp only [ORet] at ho
  obtain ⟨vs,rfl,ho⟩:=ho
  obtain ⟨c,k1,k2⟩:=h.vals ho hn
  exact ⟨c,k1,fun G' p q=>by simp only [ORet];exact ⟨vs,rfl,k2 G' p q⟩⟩
 ·have h1:SLeV a b:=by cases a<;>first|exact absurd ⟨_,rfl⟩ ha|(cases b<;>first|exact h|exact h.elim)
  have h2:OVal w G a x bl:=by cases a<;>first|exact absurd ⟨_,rfl⟩ ha|exact ho
  obtain ⟨c,k1,k2⟩:=h1.val h2 hn
  refine ⟨c,k1,fun G' p q=>?_⟩
  have:=k2 G' p q
  cases b<;>first|exact this|(cases a<;>first|exact h.elim|exact absurd ⟨_,rfl⟩ ha)
theorem PSound.soft {P:Program} {f:FuncId} {F F':List AV→Option AV} (h:PSound P f F) (hs:∀ avs r',F' avs=some r'→∃ r,F avs=some r∧RLe r r'):PSound P f F':=by
 intro w G args avs r' hr hG ha
 obtain ⟨r,h1,h2⟩:=hs avs r' hr
 refine (h w G args avs r h1 hG ha).mono fun e w' hq=>?_
 obtain ⟨x,G',bl,q1,q2,q3,q4,q5,q6,q7⟩:=hq
 obtain ⟨c,k1,k2⟩:=h2.ret q5 q6
 refine ⟨x,fun k=>G' k∨(k∈bl∧k ∉ c),c,q1,q2,fun k hk=>.inl (q3 k hk),fun k hk=>?_,k2 _ (fun k hk=>.inl hk) (fun k hk hn=>.inr ⟨hk,hn⟩),k1.nodup q6,fun k hk=>?_⟩
 ·rcases hk with hk|⟨hk,_⟩
  ·exact q4 k hk
  ·exact ⟨(q7 k hk).1,.inr (q7 k hk).2.2⟩
 ·have:=q7 k (k1.subset hk)
  exact ⟨this.1,fun hh=>hh.elim this.2.1 fun h3=>h3.2 hk,this.2.2⟩
theorem specF_soft {ι:Type} {A:ι→List AV} {R R':ι→AV} (h:∀ i,RLe (R i) (R' i)) {avs:List AV} {r':AV} (hr:specF A R' avs=some r'):∃ r,specF A R avs=some r∧RLe r r':=by
 unfold specF at hr ⊢
 split at hr
 ·rename_i hh
  simp only [Option.some.injEq] at hr
  subst hr
  rw [dif_pos hh]
  exact ⟨_,rfl,h _⟩
 ·simp at hr
theorem PSound.softF {P:Program} {f:FuncId} {ι:Type} {A:ι→List AV} {R R':ι→AV} (h:PSound P f (specF A R)) (hs:∀ i,RLe (R i) (R' i)):PSound P f (specF A R'):=h.soft fun _ _ hr=>specF_soft hs hr
theorem le_nilslot {n:Nat} {s:List (Nat×AV)} {m:List (Nat×AO)} {nx t sz:Nat} (hb:getS s t=.v (.slice none 0 0)) :
  Le n ⟨s,m,nx⟩ ⟨(t,.sl nx 1 sz 0 0)::s,(nx,.vec 1 sz false [])::m,nx+1⟩:=fun N w0 bl a w _ ⟨E,hs,h1,h2⟩=>by
 have hna:¬ E.alive nx:=fun hh=>by have:=h1 nx hh;simp at this
 have st:=StepTo.none hs.inv nx sz hna false
 have hmem:=st.mem hs.inv hs.mem
 refine ⟨_,⟨hs.defers,hs.size,st.inv,fun k hk=>?_,fun k=>?_⟩,fun k hk=>?_,fun k hk=>?_⟩
 ·have:=hmem k hk
  simpa only [updM,getM] using this
 ·simp only [getS]
  by_cases e:t=k
  ·subst e
   rw [if_pos rfl]
   have hr:=hs.slots t
   rw [hb] at hr
   simp only [Rep,CRep] at hr
   rw [hr]
   simp only [Rep]
   exact ⟨.inr rfl,Nat.le_refl _,by simp [Env.upd],none,0,rfl,Nat.le_refl _,fun _=>rfl,fun _=>by simp [Env.upd,SlAt]⟩
  ·rw [if_neg e]
   exact st.rep hs.inv (hs.slots k)
 ·rcases hk with hk|hk
  ·have:=h1 k hk;simp at this ⊢;omega
  ·simp;omega
 ·simp only [getM] at hk
  split at hk
  ·simp;omega
  ·have:=h2 k hk;simp at this ⊢;omega
def AV.closedV:AV→Bool
 | .agg cs|.fn _ cs=>cs.all AV.isClosed
 | a=>a.isClosed
theorem Rep.to_cV {E:Env} {w:World} {a:AV} {x:Value} (hc:a.closedV=true) (h:Rep E w a x):CRep w E.G a x:=by
 by_cases ha:∃ cs,a=.agg cs
 ·obtain ⟨cs,rfl⟩:=ha
  simp only [Rep] at h
  obtain ⟨vs,h1,h2,h3⟩:=h
  simp only [CRep]
  exact ⟨vs,h1,h2,h3.to_c hc⟩
 ·by_cases hf:∃ g cs,a=.fn g cs
  ·obtain ⟨g,cs,rfl⟩:=hf
   simp only [Rep] at h
   obtain ⟨vs,h1,h3⟩:=h
   simp only [CRep]
   exact ⟨vs,h1,h3.to_c hc⟩
  have:a.isClosed=true:=by cases a<;>first|exact hc|exact absurd ⟨_,rfl⟩ ha|exact absurd ⟨_,_,rfl⟩ hf
  exact h.to_c this
theorem RepL.to_cV {E:Env} {w:World}:∀ {as:List AV} {xs:List Value},as.all AV.closedV=true→RepL E w as xs→CRepL w E.G as xs
 | [],[],_,_=>by simp [CRepL]
 | a::as,x::xs,hc,h=>by
  simp only [List.all_cons,Bool.and_eq_true] at hc
  simp only [RepL] at h
  simp only [CRepL]
  exact ⟨Rep.to_cV hc.1 h.1,RepL.to_cV hc.2 h.2⟩
 | [],_::_,_,h=>by simp [RepL] at h
 | _::_,[],_,h=>by simp [RepL] at h
def callD (F:List AV→Option AV) (avs:List AV) (_M:Nat→AO) (nid:Nat):Option (AV×List (Nat×AO)) :=
 if avs.all AV.closedV=true then match F avs with
  | some r=>if (openRet nid r).2.2≤nid+16 then some ((openRet nid r).1,(openRet nid r).2.1) else none
  | none=>none
 else none
theorem PSound.callD {P:Program} {f:FuncId} {F:List AV→Option AV} (h:PSound P f F):CallOK P f (callD F):=by
 intro avs M nid av u hc w0 bl E w args hr hM hI hnid
 unfold AM.callD at hc
 split at hc
 case isFalse=>simp at hc
 rename_i hcl
 cases hF:F avs<;>simp only [hF,reduceCtorEq] at hc
 rename_i r
 split at hc
 case isFalse=>simp at hc
 rename_i hle
 simp only [Option.some.injEq,Prod.mk.injEq] at hc
 obtain ⟨rfl,rfl⟩:=hc
 refine (h w E.G args avs r hF hI.good (hr.to_cV hcl)).mono fun e w' ⟨x,G',bs,he,hf,hG,hG',ho,hnd,hb⟩=>?_
 have st:=StepTo.pure hI hf G' hG hG'
 have hsp:Spare w0 bl { E with G:=G' } w' bs:=fun k hk=>by
  have h1:=hb k hk
  refine ⟨h1.1,h1.2.1,.inl (Nat.le_trans hI.frame.size h1.2.2),fun b base sz hb' hl=>?_⟩
  have:=(hI.locs b k base sz hb' hl).1
  omega
 obtain ⟨E',o,hx⟩:=openRet_ok st.inv (nid:=nid) (a:=r) (fun k p q=>hnid k p (by omega)) ho hsp hnd
 exact ⟨x,E',he,st.trans o.step (by simp),hx⟩
theorem callD_keys {F:List AV→Option AV} {avs:List AV} {M:Nat→AO} {nid:Nat} {r:AV×List (Nat×AO)} (h:callD F avs M nid=some r):∀ b∈r.2.map (·.1),nid≤b∧b<nid+16:=by
 simp only [callD] at h
 split at h
 case isFalse=>simp at h
 split at h
 case h_2=>simp at h
 split at h
 case isFalse=>simp at h
 rename_i hle
 simp only [Option.some.injEq] at h
 subst h
 intro b hb
 have:=openRet_keys b hb
 omega
end Go.AM
namespace Go.AM
open Go Go.ChangeShapes Go.WideShapes Go.ChangeAt Go.RowKit
theorem okWide_agg {P:Program} {w:World} {r:Reach} {base:Nat} {t:TypeId} {v:Value} (h:Value.okWide P w r base t v) :
    (∃ cs,v=.agg cs∧((∃ fs,P.underlying t=some (.struct fs))∨∃ n e,P.underlying t=some (.array n e))) ∨
    (v.cells=#[v]∧(∀ fs,P.underlying t≠some (.struct fs))∧∀ n e,P.underlying t≠some (.array n e)):=by
  unfold Value.okWide at h
  split at h
  · rename_i fs hu
    obtain ⟨cs,rfl,_⟩:=h
    exact .inl ⟨cs,rfl,.inl ⟨fs,hu⟩⟩
  · rename_i n e hu
    obtain ⟨cs,rfl,_⟩:=h
    exact .inl ⟨cs,rfl,.inr ⟨n,e,hu⟩⟩
  · rename_i h1 h2
    right
    refine ⟨?_,fun fs hu=>h1 fs hu,fun n e hu=>h2 n e hu⟩
    cases v with
    | agg cs =>
      exfalso
      unfold Cell.okWide at h
      split at h<;>try (rename_i heq;simp at heq;done)
      all_goals first
        | (rename_i heq;cases heq;done)
        | (unfold Cell.ok at h
           split at h<;>first|exact h|(rename_i heq;cases heq))
    | _=>rfl
def FitArg (P:Program) (t:TypeId) (a:AV):Prop:=∃ sh,shapeOf P 10 t=some sh ∧
  ((((∃ fs,P.underlying t=some (.struct fs))∨∃ n e,P.underlying t=some (.array n e))∧∃ cs,a=.agg cs∧FitL sh cs) ∨
   (((∀ fs,P.underlying t≠some (.struct fs))∧∀ n e,P.underlying t≠some (.array n e))∧FitL sh [a]))
def FitArgs (P:Program):List TypeId→List AV→Prop
 | [],[]=>True
 | t::ts,a::as=>FitArg P t a∧FitArgs P ts as
 | _,_=>False
section
variable {H:Type} {enc:TypeId×Value→H} {P:Program} {w:World}
theorem args_open {base:Nat} {sp:Nat→Bool} {b0:Nat} {r:Reach}:∀ {ts:List TypeId} {vs:List Value} {ds:List (DataW H)} {ps:List MemPlace},(∀ t∈ts,(shapeOf P 10 t).isSome=true) →
  (∀ (j:Nat) (t:TypeId) (v:Value),ts[j]?=some t→vs[j]?=some v→Value.okWide P w r b0 t v)→DataW.TrodAll enc P w base sp true ts vs ds ps→∃ avs,FitArgs P ts avs∧CRepL w (allG w) avs vs∧ds.length=ts.length
 | [],[],[],_,_,_,_=>⟨[],by simp [FitArgs],by simp [CRepL],rfl⟩
 | t::ts,v::vs,d::ds,ps,hs,ho,h=>by
  obtain ⟨p,q,h1,h2,_⟩:=h
  obtain ⟨avs,k1,k2,k3⟩:=args_open (fun t ht=>hs t (by simp [ht])) (fun j t v hj hv=>ho (j+1) t v (by simpa using hj) (by simpa using hv)) h2
  have hsh:=hs t (by simp)
  obtain ⟨sh,hsh⟩:=Option.isSome_iff_exists.1 hsh
  obtain ⟨fuel,hf⟩:=h1
  obtain ⟨as,q1,q2,q3⟩:=shape_open 10 t sh fuel _ _ hsh hf
  rcases okWide_agg (ho 0 t v rfl rfl) with ⟨cs,rfl,hu⟩|⟨hc,hu⟩
  ·simp only [Value.cells] at q2 q3
   refine ⟨.agg as::avs,?_,?_,by simp [k3]⟩
   ·simp only [FitArgs];exact ⟨⟨sh,hsh,.inl ⟨hu,as,rfl,q1⟩⟩,k1⟩
   ·simp only [CRepL,CRep];exact ⟨⟨cs.toList,by simp,q3,q2⟩,k2⟩
  ·rw [hc] at q2
   simp only [List.size_toArray,Array.toList] at q2
   match as,q1,q2 with
   | [a],q1,q2 =>
    simp only [CRepL] at q2
    refine ⟨a::avs,?_,?_,by simp [k3]⟩
    ·simp only [FitArgs];exact ⟨⟨sh,hsh,.inr ⟨hu,q1⟩⟩,k1⟩
    ·simp only [CRepL];exact ⟨q2.1,k2⟩
   | [],_,q2=>simp [CRepL] at q2
   | _::_::_,_,q2=>simp [CRepL] at q2
 | [],_::_,_,_,_,_,h=>by simp [DataW.TrodAll] at h
 | [],[],_::_,_,_,_,h=>by simp [DataW.TrodAll] at h
 | _::_,[],_,_,_,_,h=>by simp [DataW.TrodAll] at h
 | _::_,_::_,[],_,_,_,h=>by simp [DataW.TrodAll] at h
theorem args_stay (hl:laidOutB P=true) {W W':World} (hsize:∀ p:MemPlace,p.block<W.heap.size→W.sameAt W' p) {sp':Nat→Bool}:∀ {ts:List TypeId} {vs:List Value} {ds:List (DataW H)} {ps:List MemPlace},(∀ t∈ts,(P.readableRec t&&Nat.blt t P.types.size)=true) →
  DataW.TrodAll enc P W 0 (fun _=>true) true ts vs ds ps→(∀ p∈ps,p.block<W.heap.size)→(∀ p∈ps,sp' p.block=true)→DataW.TrodAll enc P W' 0 sp' true ts vs ds ps
 | [],[],[],_,_,h,_,_=>h
 | t::ts,v::vs,d::ds,ps,hs,h,hlt,hsp=>by
  obtain ⟨p,q,h1,h2,rfl⟩:=h
  have ht:=hs t (by simp)
  simp only [Bool.and_eq_true] at ht
  exact ⟨p,q,WideElems.Trod_stays hl ht.1 (by have:=ht.2;simp only [Nat.blt,Nat.ble_eq] at this;exact this) h1 (fun x hx=>hsize x (hlt x (by simp [hx]))) (fun x hx=>hsp x (by simp [hx])),
   args_stay hl hsize (fun t ht=>hs t (by simp [ht])) h2 (fun x hx=>hlt x (by simp [hx])) (fun x hx=>hsp x (by simp [hx])),rfl⟩
 | [],_::_,_,_,_,h,_,_=>by simp [DataW.TrodAll] at h
 | [],[],_::_,_,_,h,_,_=>by simp [DataW.TrodAll] at h
 | _::_,[],_,_,_,h,_,_=>by simp [DataW.TrodAll] at h
 | _::_,_::_,[],_,_,h,_,_=>by simp [DataW.TrodAll] at h
theorem post_stay {f:Func} {s:ChangeSpec} {apart fresh handsOn again:Bool} {W W':World} {args:Array Value} {v:Value} {ds gs:List (DataW H)} {before pa pv:List MemPlace}
  (hW:DataW.Whole enc P f.params.toList s.vars apart W args.toList ds gs before)
  (hres:∀ (b:Nat) (sp:Nat→Bool) (hd:Bool),DataW.TrodAll enc P W' b sp hd f.resultTypes.toList (v.resultList f.resultTypes.size) (s.fn H (ds++gs)).results [])
  (hargs:∀ sp:Nat→Bool,(∀ p∈before,sp p.block=true)→DataW.TrodAll enc P W' 0 sp true f.params.toList args.toList (s.fn H (ds++gs)).args pa)
  (hvars:∀ sp:Nat→Bool,(∀ p∈before,sp p.block=true)→DataW.TrodVars enc P W' sp s.vars (s.fn H (ds++gs)).vars pv)
  (hps:before=pa++pv) (hk:W.keptBut W' (·∈before)) (hfz:∀ a:Addr,a.block<W.heap.size→W'.frozen? a=W.frozen? a)
  (hok:∀ (j:Nat) (t:TypeId) (r:Value),f.resultTypes[j]?=some t→(v.resultList f.resultTypes.size)[j]?=some r→Value.okWide P W' .any 0 t r) :
  s.post enc P f apart fresh handsOn again W args v W':=by
 have hlt:=hW.lt
 have hthere:∀ p∈before,(fun b=>decide (b<W.heap.size)) p.block=true:=fun p hp=>by simpa using hlt p hp
 refine ⟨ds,gs,before,[],pa,pv,hW,hres _ _ _,hargs _ hthere,hvars _ hthere,World.keptBut_mono (fun p hp=>⟨hp,.inr (by rw [hps,List.mem_append] at hp;exact hp)⟩) hk,fun _=>?_⟩
 obtain ⟨_,_,_,_,_,hz,hn⟩:=hW
 have hmem:∀ p,p∈([]++pa)++pv→p∈before:=fun p hp=>by rw [hps];simpa using hp
 refine ⟨hok,_,_,([]++pa)++pv,⟨[]++pa,pv,trodAll_append (hargs _ (fun _ _=>rfl)) (hres _ _ _),hvars _ (fun _ _=>rfl),rfl,fun b off hp=>?_,fun ha=>?_⟩,fun p hp _=>?_⟩
 ·rw [hfz _ (hlt _ (hmem _ hp))]
  exact hz b off (hmem _ hp)
 ·have:=hn ha
  rw [hps] at this
  simpa using this
 ·rw [hps]
  simpa using hp
theorem law_contract {f:FuncId} {fn:Func} {s:ChangeSpec} {F:List AV→Option AV} {apart fresh handsOn again:Bool} {tb:TypeId} (hs:PSound P f F) (hl:laidOutB P=true)
  (hvars:s.vars=[]) (hspec:∀ (H:Type) (ds:List (DataW H)),ds.length=fn.params.size→(s.fn H ds).results=[.lit (.bool true)]∧(s.fn H ds).args=ds∧(s.fn H ds).vars=[])
  (hres:fn.resultTypes=#[tb]) (htb:P.underlying tb=some .bool) (hp:fn.params.toList.all (fun t=>(shapeOf P 10 t).isSome&&P.readableRec t&&Nat.blt t P.types.size)=true)
  (hF:∀ avs,FitArgs P fn.params.toList avs→F avs=some (B true))
  {W:World} {base:Nat} {args:Array Value} {ds gs:List (DataW H)} {before:List MemPlace}
  (hval:∀ (j:Nat) t v,fn.params[j]?=some t→args[j]?=some v→Value.okWide P W .any base t v)
  (hW:DataW.Whole enc P fn.params.toList s.vars apart W args.toList ds gs before) :
  Calls P f args W fun e W'=>∃ v,e=.returned v∧s.post enc P fn apart fresh handsOn again W args v W':=by
 have hW':=hW
 obtain ⟨p,q,hA,hV,rfl,hfz,hnd⟩:=hW
 rw [hvars] at hV
 obtain ⟨rfl,rfl⟩:=trodVars_none hV
 have hpp:∀ t∈fn.params.toList,(shapeOf P 10 t).isSome=true∧(P.readableRec t&&Nat.blt t P.types.size)=true:=fun t ht=>by
  have:=List.all_eq_true.1 hp t ht
  simp only [Bool.and_eq_true] at this ⊢
  exact ⟨this.1.1,this.1.2,this.2⟩
 obtain ⟨avs,h1,h2,h3⟩:=args_open (fun t ht=>(hpp t ht).1) (fun j t v hj hv=>hval j t v (by simpa using hj) (by simpa using hv)) hA
 refine (hs W (allG W) args avs (B true) (hF avs h1) (fun _ h=>h) h2).mono fun e W' ⟨x,G',bl,he,hf,_,_,ho,_,_⟩=>?_
 subst he
 have hx:x=.bool true:=by simp only [ORet,OVal,OLeaf,CRep] at ho;exact ho.2
 subst hx
 have hlt:∀ y∈p,y.block<W.heap.size:=fun y hy=>hW'.lt y (by simp [hy])
 have hold:∀ k,k<W.heap.size→W'.heap[k]?=W.heap[k]?:=fun k hk=>hf.old k hk (by simp)
 have hsame:∀ y:MemPlace,y.block<W.heap.size→W.sameAt W' y:=fun y hy=>by
  cases y with
  | cell b o=>exact World.cell?_of_block (w:=W) (hold b hy)
  | map b=>exact hold b hy
 have hfr:∀ a:Addr,a.block<W.heap.size→W'.frozen? a=W.frozen? a:=fun a ha=>World.frozen?_of_block (w:=W) (hold a.block ha)
 have hsp:=hspec H (ds++[]) (by rw [List.append_nil,h3];simp)
 simp only [List.append_nil] at hW' hsp
 refine ⟨_,rfl,post_stay (pa:=p) (pv:=[]) (by simpa using hW') (fun b sp hd=>?_) (fun sp hsp'=>?_) (fun sp hsp'=>?_) rfl ⟨hf.os,hf.out,fun i hi=>?_⟩ hfr (ok_one hres rfl (okWide_bool_mk htb _))⟩
 ·rw [List.append_nil,hsp.1,hres]
  exact trodAll_mk1 (shut_bool htb true)
 ·rw [List.append_nil,hsp.2.1]
  exact args_stay hl hsame (fun t ht=>(hpp t ht).2) hA hlt fun y hy=>hsp' y (by simp [hy])
 ·rw [List.append_nil,hsp.2.2,hvars]
  rfl
 ·rw [hold i hi]
  split<;>simp_all
end
end Go.AM
namespace Go.AM
open Go
def getL (ms:List AO) (b:Nat):AO:=(ms[b]?).getD .dead
def GSound (P:Program) (f:FuncId) (F:List AV→List AO→Option (AV×List AO)):Prop :=
 ∀ (w:World) (l:List Nat) (E:Env) (args:List Value) (avs:List AV) (ms:List AO) (r:AV) (ms':List AO),F avs ms=some (r,ms') →
  Inv w ⟨l,E,ms.length⟩ E w→(∀ b,b<ms.length→E.alive b)→MemOK E w (getL ms)→RepL E w avs args →
  Calls P f args.toArray w fun e w'=>∃ x E',e=.returned x∧Inv w ⟨l,E,ms.length⟩ E' w'∧(∀ b,E'.alive b→b<ms'.length)∧MemOK E' w' (getL ms')∧Rep E' w' r x
def idx:Nat→List AO→List (Nat×AO)
 | _,[]=>[]
 | k,o::r=>(k,o)::idx (k+1) r
theorem getM_idx:∀ {ms:List AO} {k b:Nat},getM (idx k ms) (k+b)=getL ms b
 | [],k,b=>by simp [idx,getM,getL]
 | o::r,k,0=>by simp [idx,getM,getL]
 | o::r,k,b+1=>by
  have ih:=getM_idx (ms:=r) (k:=k+1) (b:=b)
  simp only [idx,getM]
  rw [if_neg (by omega),show k+(b+1)=k+1+b by omega,ih]
  simp [getL]
theorem getM_idx0 {ms:List AO}:getM (idx 0 ms)=getL ms:=by
 funext b
 have:=getM_idx (ms:=ms) (k:=0) (b:=b)
 simpa using this
def LeavesG (T:TypeId→Option TD) (rv:List ResultVar) (n:Nat) (st:St) (r:AV) (ms':List AO):Prop :=
 ∃ as,aResults T st rv=some as∧Le n ⟨[(0,retOf as)],st.m,st.nx⟩ ⟨[(0,r)],idx 0 ms',ms'.length⟩
theorem gsound_of {P:Program} {f:FuncId} {fn:Func} {c:Code} {N:Nat} {F:List AV→List AO→Option (AV×List AO)} (hf:P.funcs[f]?=some fn) (hb:fn.body=some c) (hN:fn.ntmps=N)
  (h:∀ (w0:World) (l:List Nat) (E:Env) (avs:List AV) (ms:List AO) (r:AV) (ms':List AO),F avs ms=some (r,ms')→avs.length≤N∧∃ X,
   AW ⟨P,X,N,w0,⟨l,E,ms.length⟩⟩ c ⟨enterS avs,idx 0 ms,ms.length⟩ (fun e st=>(e=.normal∨e=.ret)∧LeavesG (Types P) fn.results.toList ms.length st r ms')) :
  GSound P f F:=by
 intro w l E args avs ms r ms' hF hI hal hM hr
 obtain ⟨hlen,X,haw⟩:=h w l E avs ms r ms' hF
 have hll:=hr.length
 have hsat:Sat N w ⟨l,E,ms.length⟩ { tmps:=args.toArray++Array.replicate (fn.ntmps - args.toArray.size) undef,defers:=[] } w ⟨enterS avs,idx 0 ms,ms.length⟩:=by
  refine ⟨E,⟨rfl,by simp [hN];omega,hI,by rw [getM_idx0];exact hM,fun t=>?_⟩,hI.low,fun k hk=>?_⟩
  ·rw [enterS,getS_enter]
   simp only [Nat.zero_le,if_true,Nat.sub_zero]
   cases ht:avs[t]? with
   | none=>simp [Rep,CRep]
   | some a =>
    obtain ⟨x,h1,h2⟩:=hr.get ht
    have hlt:=(List.getElem?_eq_some_iff.1 ht).1
    rw [Array.getD_eq_getD_getElem?,Array.getElem?_append_left (by simp;omega)]
    have:args.toArray[t]?=some x:=by simpa using h1
    rw [this]
    exact h2
  ·rw [getM_idx0] at hk
   unfold getL at hk
   by_cases e:k<ms.length
   ·exact e
   ·rw [List.getElem?_eq_none (by omega)] at hk
    exact absurd rfl hk
 refine calls_of_wp hf hb (wp_mono (haw _ _ hsat) fun e a w' ⟨st,⟨he,as,h1,h2⟩,E',hs,h3,h4⟩=>?_)
 obtain ⟨vs,k1,k2⟩:=aResults_ok hs h1
 have hrun:(results fn a.tmps).run P w'=.ok (if h:vs.toArray.size=1 then vs.toArray[0] else .tuple vs.toArray) w':=by
  unfold results
  rw [Sem.run_bind,← Array.toArray_toList (xs:=fn.results),List.mapM_toArray]
  simp only [Sem.run_map]
  have:(List.mapM (fun x=>match x with|.tmp t=>pure (a.tmps.getD t undef)|.cell b t=>do loadVar t (← asAddr (a.tmps.getD b undef))) fn.results.toList:Sem (List Value)).run P w'=.ok vs w':=k1
  erw [this]
  rfl
 have hrep:Rep E' w' (retOf as) (if h:vs.toArray.size=1 then vs.toArray[0] else .tuple vs.toArray):=by
  match as,vs,k2 with
  | [],[],_=>simp only [retOf,Rep];exact ⟨[],by simp,by simp [RepL]⟩
  | [a],[v],h =>
   simp only [RepL] at h
   simpa [retOf] using h.1
  | a::b::as,v::u::vs,h =>
   simp only [retOf,Rep]
   exact ⟨v::u::vs,by simp,h⟩
 have hs1:Sat 1 w ⟨l,E,ms.length⟩ { tmps:=#[if h:vs.toArray.size=1 then vs.toArray[0] else .tuple vs.toArray],defers:=[] } w' ⟨[(0,retOf as)],st.m,st.nx⟩:=by
  refine ⟨E',⟨rfl,rfl,hs.inv,hs.mem,fun t=>?_⟩,h3,h4⟩
  simp only [getS]
  split
  ·rename_i e;subst e;simpa using hrep
  ·simp [Rep,CRep]
 obtain ⟨E2,hs2,h5,_⟩:=h2 _ _ _ _ _ rfl hs1
 have hx:=hs2.slots 0
 simp only [getS,if_true] at hx
 have hfin:∃ x E',Ending.returned (if h:vs.toArray.size=1 then vs.toArray[0] else .tuple vs.toArray)=Ending.returned x∧Inv w ⟨l,E,ms.length⟩ E' w'∧(∀ b,E'.alive b→b<ms'.length)∧MemOK E' w' (getL ms')∧Rep E' w' r x :=
  ⟨_,E2,rfl,hs2.inv,h5,by have:=hs2.mem;rwa [getM_idx0] at this,by simpa using hx⟩
 rcases he with rfl|rfl
 ·exact ⟨hs.defers,_,hrun,hfin⟩
 ·exact ⟨hs.defers,_,hrun,hfin⟩
noncomputable def specG {ι:Type} (A:ι→List AV) (M:ι→List AO) (R:ι→AV) (O:ι→List AO) (avs:List AV) (ms:List AO):Option (AV×List AO) :=
 open Classical in if h:∃ i,A i=avs∧M i=ms then some (R h.choose,O h.choose) else none
theorem specG_eq {ι:Type} {A:ι→List AV} {M:ι→List AO} {R:ι→AV} {O:ι→List AO} (i:ι) (h:∀ j,A j=A i→M j=M i→R j=R i∧O j=O i):specG A M R O (A i) (M i)=some (R i,O i):=by
 unfold specG
 have hex:∃ j,A j=A i∧M j=M i:=⟨i,rfl,rfl⟩
 rw [dif_pos hex]
 obtain ⟨h1,h2⟩:=h _ hex.choose_spec.1 hex.choose_spec.2
 rw [h1,h2]
theorem specG_some {ι:Type} {A:ι→List AV} {M:ι→List AO} {R:ι→AV} {O:ι→List AO} {avs:List AV} {ms:List AO} {r:AV} {o:List AO} (h:specG A M R O avs ms=some (r,o)):∃ i,A i=avs∧M i=ms∧R i=r∧O i=o:=by
 unfold specG at h
 split at h
 ·rename_i hex
  simp only [Option.some.injEq,Prod.mk.injEq] at h
  exact ⟨_,hex.choose_spec.1,hex.choose_spec.2,h.1,h.2⟩
 ·simp at h
theorem gsound_spec {ι:Type} {A:ι→List AV} {M:ι→List AO} {R:ι→AV} {O:ι→List AO} {P:Program} {f:FuncId} {fn:Func} {c:Code} (hf:P.funcs[f]?=some fn) (hb:fn.body=some c) (X:AX)
  (h:∀ (i:ι) (w0:World) (l:List Nat) (E:Env),(A i).length≤fn.ntmps ∧
   AW ⟨P,X,fn.ntmps,w0,⟨l,E,(M i).length⟩⟩ c ⟨enterS (A i),idx 0 (M i),(M i).length⟩ (fun e st=>(e=.normal∨e=.ret)∧LeavesG (Types P) fn.results.toList (M i).length st (R i) (O i))) :
  GSound P f (specG A M R O) :=
 gsound_of hf hb rfl fun w0 l E avs ms r ms' hr=>by
  obtain ⟨i,rfl,rfl,rfl,rfl⟩:=specG_some hr
  exact ⟨(h i w0 l E).1,X,(h i w0 l E).2⟩
mutual
def AV.nms:AV→List Nat
 | .bp b _|.sl b _ _ _ _|.ep b _ _ _ _|.bs b _ _ _|.mp b _=>[b]
 | .agg cs|.tup cs|.fn _ cs|.ifc _ cs=>nmsL cs
 | _=>[]
def nmsL:List AV→List Nat
 | []=>[]
 | a::r=>a.nms++nmsL r
end
def AO.nms:AO→List Nat
 | .box cs=>nmsL cs
 | .vo _ _ _ _ e=>nmsL e
 | _=>[]
theorem mem_nmsL {b:Nat}:∀ {l:List AV},b∈nmsL l↔∃ a∈l,b∈a.nms
 | []=>by simp [nmsL]
 | a::r=>by simp [nmsL,mem_nmsL (l:=r)]
mutual
theorem Rep.nms_alive {E:Env} {w:World}:∀ {a:AV} {x:Value},Rep E w a x→∀ b∈a.nms,E.alive b
 | .bp b o,x,h,c,hc=>by simp only [Rep,AV.nms,List.mem_singleton] at h hc;subst hc;exact h.1
 | .sl b m s o n,x,h,c,hc=>by simp only [Rep,AV.nms,List.mem_singleton] at h hc;subst hc;exact h.1
 | .ep b m s i j,x,h,c,hc=>by simp only [Rep,AV.nms,List.mem_singleton] at h hc;subst hc;exact h.1
 | .bs b o s n,x,h,c,hc=>by simp only [Rep,AV.nms,List.mem_singleton] at h hc;subst hc;exact h.1
 | .mp b m,x,h,c,hc=>by simp only [Rep,AV.nms,List.mem_singleton] at h hc;subst hc;exact h.1
 | .agg cs,x,h,c,hc=>by
  simp only [Rep,AV.nms] at h hc
  obtain ⟨vs,_,_,h⟩:=h
  exact RepL.nms_alive h c hc
 | .tup cs,x,h,c,hc=>by
  simp only [Rep,AV.nms] at h hc
  obtain ⟨vs,_,h⟩:=h
  exact RepL.nms_alive h c hc
 | .fn _ cs,x,h,c,hc=>by
  simp only [Rep,AV.nms] at h hc
  obtain ⟨vs,_,h⟩:=h
  exact RepL.nms_alive h c hc
 | .ifc _ cs,x,h,c,hc=>by
  simp only [Rep,AV.nms] at h hc
  obtain ⟨vs,_,h⟩:=h
  exact RepL.nms_alive h c hc
 | .any,_,_,c,hc=>by simp [AV.nms] at hc
 | .v _,_,_,c,hc=>by simp [AV.nms] at hc
 | .rd ..,_,_,c,hc=>by simp [AV.nms] at hc
 | .ow ..,_,_,c,hc=>by simp [AV.nms] at hc
 | .rp ..,_,_,c,hc=>by simp [AV.nms] at hc
 | .rf ..,_,_,c,hc=>by simp [AV.nms] at hc
 | .rm ..,_,_,c,hc=>by simp [AV.nms] at hc
 | .om ..,_,_,c,hc=>by simp [AV.nms] at hc
theorem RepL.nms_alive {E:Env} {w:World}:∀ {as:List AV} {xs:List Value},RepL E w as xs→∀ b∈nmsL as,E.alive b
 | [],[],_,c,hc=>by simp [nmsL] at hc
 | a::as,x::xs,h,c,hc=>by
  simp only [RepL,nmsL,List.mem_append] at h hc
  rcases hc with hc|hc
  ·exact Rep.nms_alive h.1 c hc
  ·exact RepL.nms_alive h.2 c hc
 | [],_::_,h,_,_=>by simp [RepL] at h
 | _::_,[],h,_,_=>by simp [RepL] at h
end
theorem ObjRep.nms_alive {E:Env} {w:World} {b:Nat} {o:AO} (h:ObjRep E w b o):∀ c∈o.nms,E.alive c:=by
 intro c hc
 cases o with
 | box cs =>
  simp only [ObjRep,AO.nms] at h hc
  obtain ⟨_,_,_,_,_,_,_,h⟩:=h
  exact h.nms_alive c hc
 | vo m s xs k e =>
  simp only [ObjRep,AO.nms] at h hc
  obtain ⟨_,_,_,_,_,_,_,_,_,_,_,_,_,_,_,_,h,_⟩:=h
  exact h.nms_alive c hc
 | _=>simp [AO.nms] at hc
def Led (M:Nat→AO):List Nat→List Nat→Prop
 | _,[]=>True
 | fr,b::r=>b∈fr∧Led M ((M b).nms++fr) r
theorem led_alive {E:Env} {w:World} {M:Nat→AO} (hM:MemOK E w M):∀ {σ fr:List Nat},(∀ b∈fr,E.alive b)→Led M fr σ→∀ b∈σ,E.alive b
 | [],_,_,_,b,hb=>by simp at hb
 | c::σ,fr,hfr,h,b,hb=>by
  simp only [Led] at h
  have hc:=hfr c h.1
  rcases List.mem_cons.1 hb with rfl|hb
  ·exact hc
  ·refine led_alive hM (fr:=(M c).nms++fr) (fun d hd=>?_) h.2 b hb
   rcases List.mem_append.1 hd with hd|hd
   ·exact (hM c hc).nms_alive d hd
   ·exact hfr d hd
mutual
def AV.ren (σ:Nat→Nat) (v:Nat→Nat→Nat):AV→AV
 | .bp b o=>.bp (σ b) o
 | .sl b m s o k=>.sl (σ b) (v b m) s o k
 | .ep b m s i j=>.ep (σ b) (v b m) s i j
 | .bs b o s k=>.bs (σ b) o s k
 | .agg cs=>.agg (renL σ v cs)
 | .tup cs=>.tup (renL σ v cs)
 | .fn f cs=>.fn f (renL σ v cs)
 | .ifc f cs=>.ifc f (renL σ v cs)
 | .any=>.any
 | .v x=>.v x
 | .rd s xs=>.rd s xs
 | .ow s xs=>.ow s xs
 | .rp cs=>.rp cs
 | .rf cs=>.rf cs
 | .mp b m=>.mp (σ b) (v b m)
 | .rm k es=>.rm k es
 | .om k es=>.om k es
def renL (σ:Nat→Nat) (v:Nat→Nat→Nat):List AV→List AV
 | []=>[]
 | a::r=>a.ren σ v::renL σ v r
end
def AO.ren (σ:Nat→Nat) (v:Nat→Nat→Nat) (b:Nat):AO→AO
 | .dead=>.dead
 | .box cs=>.box (renL σ v cs)
 | .vec m s f xs=>.vec (v b m) s f xs
 | .map m k es=>.map (v b m) k es
 | .vo m s xs k e=>.vo (v b m) s xs k (renL σ v e)
def verOf:AO→Nat
 | .vec m _ _ _|.map m _ _|.vo m _ _ _ _=>m
 | _=>0
mutual
def AV.curB (M:Nat→AO):AV→Bool
 | .sl b m _ _ _|.ep b m _ _ _|.mp b m=>Nat.beq m (verOf (M b))
 | .agg cs|.tup cs|.fn _ cs|.ifc _ cs=>curBL M cs
 | _=>true
def curBL (M:Nat→AO):List AV→Bool
 | []=>true
 | a::r=>a.curB M&&curBL M r
end
def AO.curB (M:Nat→AO):AO→Bool
 | .box cs=>curBL M cs
 | .vo _ _ _ _ e=>curBL M e
 | _=>true
theorem verOf_ver {E:Env} {w:World} {b m:Nat} {o:AO} (h:ObjRep E w b o) (h1:1≤m) (e:m=verOf o):E.ver b=m:=by
 cases o with
 | vec m' s f xs=>simp only [ObjRep,verOf] at h e;rw [h.1,e]
 | map m' n es=>simp only [ObjRep,verOf] at h e;rw [h.1,e]
 | vo m' s xs k e'=>simp only [ObjRep,verOf] at h e;rw [h.1,e]
 | _=>simp only [verOf] at e;omega
mutual
def AV.okR (D:Nat→Prop) (V:Nat→Nat→Prop):AV→Prop
 | .bp b _|.bs b _ _ _=>D b
 | .sl b m _ _ _|.ep b m _ _ _|.mp b m=>D b∧V b m
 | .agg cs|.tup cs|.fn _ cs|.ifc _ cs=>okRL D V cs
 | _=>True
def okRL (D:Nat→Prop) (V:Nat→Nat→Prop):List AV→Prop
 | []=>True
 | a::r=>a.okR D V∧okRL D V r
end
def AO.okR (D:Nat→Prop) (V:Nat→Nat→Prop):AO→Prop
 | .box cs=>okRL D V cs
 | .vo _ _ _ _ e=>okRL D V e
 | _=>True
mutual
theorem okR_true:∀ {a:AV},a.okR (fun _=>True) (fun _ _=>True)
 | .bp ..|.bs ..|.sl ..|.ep ..|.mp ..=>by simp [AV.okR]
 | .agg cs|.tup cs|.fn _ cs|.ifc _ cs=>by simp only [AV.okR];exact okRL_true
 | .any|.v _|.rd ..|.ow ..|.rp ..|.rf ..|.rm ..|.om ..=>by simp [AV.okR]
theorem okRL_true:∀ {l:List AV},okRL (fun _=>True) (fun _ _=>True) l
 | []=>by simp [okRL]
 | a::r=>by simp only [okRL];exact ⟨okR_true,okRL_true⟩
end
theorem okRO_true {o:AO}:o.okR (fun _=>True) (fun _ _=>True):=by
 cases o<;>simp only [AO.okR]
 all_goals exact okRL_true
section
variable {D:Nat→Prop} {M:Nat→AO}
mutual
theorem okR_cur:∀ {a:AV},(∀ b∈a.nms,D b)→a.curB M=true→a.okR D (fun b m=>m=verOf (M b))
 | .bp ..,h,_|.bs ..,h,_=>by simpa [AV.okR,AV.nms] using h
 | .sl b m _ _ _,h,k|.ep b m _ _ _,h,k|.mp b m,h,k=>by
  simp only [AV.okR,AV.nms,List.mem_singleton,forall_eq,AV.curB] at h k ⊢
  exact ⟨h,Nat.eq_of_beq_eq_true k⟩
 | .agg cs,h,k|.tup cs,h,k|.fn _ cs,h,k|.ifc _ cs,h,k=>by simp only [AV.okR,AV.nms,AV.curB] at h k ⊢;exact okRL_cur h k
 | .any,_,_|.v _,_,_|.rd ..,_,_|.ow ..,_,_|.rp ..,_,_|.rf ..,_,_|.rm ..,_,_|.om ..,_,_=>by simp [AV.okR]
theorem okRL_cur:∀ {l:List AV},(∀ b∈nmsL l,D b)→curBL M l=true→okRL D (fun b m=>m=verOf (M b)) l
 | [],_,_=>by simp [okRL]
 | a::r,h,k=>by
  simp only [okRL,nmsL,List.mem_append,curBL,Bool.and_eq_true] at h k ⊢
  exact ⟨okR_cur (fun b hb=>h b (.inl hb)) k.1,okRL_cur (fun b hb=>h b (.inr hb)) k.2⟩
end
theorem okRO_cur {o:AO} (h:∀ b∈o.nms,D b) (k:o.curB M=true):o.okR D (fun b m=>m=verOf (M b)):=by
 cases o<;>simp only [AO.okR]
 all_goals exact okRL_cur h k
end
structure RenOK (E E':Env) (w w':World) (σ:Nat→Nat) (v:Nat→Nat→Nat) (D:Nat→Prop) (V:Nat→Nat→Prop):Prop where
 G:∀ k,E.G k→E'.G k
 alive:∀ b,E.alive b→D b→E'.alive (σ b)
 loc:∀ b,E.alive b→D b→E'.loc (σ b)=E.loc b
 box:∀ b,E.alive b→D b→E.ver b=0→E'.ver (σ b)=0
 ver:∀ b m,E.alive b→D b→V b m→1≤m→m≤E.ver b→1≤v b m∧v b m≤E'.ver (σ b)∧(v b m=E'.ver (σ b)→m=E.ver b)
 heap:∀ k,E.G k→w'.heap[k]?=w.heap[k]?
section
variable {E E':Env} {w w':World} {σ:Nat→Nat} {v:Nat→Nat→Nat} {D:Nat→Prop} {V:Nat→Nat→Prop}
mutual
theorem RenOK.rep (h:RenOK E E' w w' σ v D V):∀ {a:AV} {x:Value},a.okR D V→Rep E w a x→Rep E' w' (a.ren σ v) x
 | .bp b o,x,hd,hr=>by
  simp only [Rep,AV.ren,AV.okR] at hr hd ⊢
  obtain ⟨h1,h2,blk,sz,h3,h4⟩:=hr
  exact ⟨h.alive b h1 hd,h.box b h1 hd h2,blk,sz,by rw [h.loc b h1 hd];exact h3,h4⟩
 | .bs b o s n,x,hd,hr=>by
  simp only [Rep,AV.ren,AV.okR] at hr hd ⊢
  obtain ⟨h1,h2,blk,sz,p,c,h3,h4⟩:=hr
  exact ⟨h.alive b h1 hd,h.box b h1 hd h2,blk,sz,p,c,by rw [h.loc b h1 hd];exact h3,h4⟩
 | .sl b m s o n,x,hd,hr=>by
  simp only [Rep,AV.ren,AV.okR] at hr hd ⊢
  obtain ⟨hd,hv⟩:=hd
  obtain ⟨h1,h2,h3,p,c,h4,h5,h6,h7⟩:=hr
  obtain ⟨k1,k2,k3⟩:=h.ver b m h1 hd hv h2 h3
  exact ⟨h.alive b h1 hd,k1,k2,p,c,h4,h5,h6,fun e=>by rw [h.loc b h1 hd];exact h7 (k3 e)⟩
 | .ep b m s i j,x,hd,hr=>by
  simp only [Rep,AV.ren,AV.okR] at hr hd ⊢
  obtain ⟨hd,hv⟩:=hd
  obtain ⟨h1,h2,h3,a,h4,h5⟩:=hr
  obtain ⟨k1,k2,k3⟩:=h.ver b m h1 hd hv h2 h3
  exact ⟨h.alive b h1 hd,k1,k2,a,h4,fun e=>by rw [h.loc b h1 hd];exact h5 (k3 e)⟩
 | .mp b m,x,hd,hr=>by
  simp only [Rep,AV.ren,AV.okR] at hr hd ⊢
  obtain ⟨hd,hv⟩:=hd
  obtain ⟨h1,h2,h3,blk,h4,h5⟩:=hr
  obtain ⟨k1,k2,k3⟩:=h.ver b m h1 hd hv h2 h3
  exact ⟨h.alive b h1 hd,k1,k2,blk,h4,fun e=>by rw [h.loc b h1 hd];exact h5 (k3 e)⟩
 | .agg cs,_,hd,hr=>by
  simp only [Rep,AV.ren,AV.okR] at hr hd ⊢
  obtain ⟨vs,h1,h2,h3⟩:=hr
  exact ⟨vs,h1,h2,RenOK.repL h hd h3⟩
 | .tup cs,_,hd,hr=>by
  simp only [Rep,AV.ren,AV.okR] at hr hd ⊢
  obtain ⟨vs,h1,h3⟩:=hr
  exact ⟨vs,h1,RenOK.repL h hd h3⟩
 | .fn f cs,_,hd,hr=>by
  simp only [Rep,AV.ren,AV.okR] at hr hd ⊢
  obtain ⟨vs,h1,h3⟩:=hr
  exact ⟨vs,h1,RenOK.repL h hd h3⟩
 | .ifc f cs,_,hd,hr=>by
  simp only [Rep,AV.ren,AV.okR] at hr hd ⊢
  obtain ⟨vs,h1,h3⟩:=hr
  exact ⟨vs,h1,RenOK.repL h hd h3⟩
 | .any,_,_,hr=>by simp only [Rep,AV.ren] at hr ⊢;exact hr.mono h.G h.heap
 | .v _,_,_,hr=>by simp only [Rep,AV.ren] at hr ⊢;exact hr.mono h.G h.heap
 | .rd ..,_,_,hr=>by simp only [Rep,AV.ren] at hr ⊢;exact hr.mono h.G h.heap
 | .ow ..,_,_,hr=>by simp only [Rep,AV.ren] at hr ⊢;exact hr.mono h.G h.heap
 | .rp ..,_,_,hr=>by simp only [Rep,AV.ren] at hr ⊢;exact hr.mono h.G h.heap
 | .rf ..,_,_,hr=>by simp only [Rep,AV.ren] at hr ⊢;exact hr.mono h.G h.heap
 | .rm ..,_,_,hr=>by simp only [Rep,AV.ren] at hr ⊢;exact hr.mono h.G h.heap
 | .om ..,_,_,hr=>by simp only [Rep,AV.ren] at hr ⊢;exact hr.mono h.G h.heap
theorem RenOK.repL (h:RenOK E E' w w' σ v D V):∀ {as:List AV} {xs:List Value},okRL D V as→RepL E w as xs→RepL E' w' (renL σ v as) xs
 | [],[],_,_=>by simp [RepL,renL]
 | a::as,x::xs,hd,hr=>by
  simp only [RepL,renL,okRL] at hr hd ⊢
  exact ⟨RenOK.rep h hd.1 hr.1,RenOK.repL h hd.2 hr.2⟩
 | [],_::_,_,hr=>by simp [RepL] at hr
 | _::_,[],_,hr=>by simp [RepL] at hr
end
def AO.renV (σ:Nat→Nat) (v:Nat→Nat→Nat) (m':Nat):AO→AO
 | .dead=>.dead
 | .box cs=>.box (renL σ v cs)
 | .vec _ s f xs=>.vec m' s f xs
 | .map _ n es=>.map m' n es
 | .vo _ s xs k e=>.vo m' s xs k (renL σ v e)
theorem renL_len {σ:Nat→Nat} {v:Nat→Nat→Nat}:∀ {l:List AV},(renL σ v l).length=l.length
 | []=>rfl
 | a::r=>by simp [renL,renL_len (l:=r)]
theorem RenOK.obj (h:RenOK E E' w w' σ v D V) {b:Nat} {o:AO} {m':Nat} (hw:∀ blk base sz,E.loc b=some (blk,base,sz)→w'.heap[blk]?=w.heap[blk]?) (ha:E.alive b) (hb:D b) (hd:o.okR D V) (hm:1≤E.ver b→1≤m'∧E'.ver (σ b)=m') (ho:ObjRep E w b o) :
  ObjRep E' w' (σ b) (o.renV σ v m'):=by
 cases o with
 | dead=>trivial
 | box cs =>
  simp only [ObjRep,AO.okR,AO.renV] at ho hd ⊢
  obtain ⟨h1,blk,t,vs,h2,h3,h4,h5⟩:=ho
  exact ⟨h.box b ha hb h1,blk,t,vs,by rw [h.loc b ha hb];exact h2,by rw [hw blk _ _ h2];exact h3,h4,h.repL hd h5⟩
 | vec m s f xs =>
  simp only [ObjRep,AO.renV] at ho ⊢
  obtain ⟨h1,h2,h3⟩:=ho
  obtain ⟨k1,k2⟩:=hm (by omega)
  refine ⟨k2,k1,?_⟩
  rw [h.loc b ha hb]
  cases hl:E.loc b with
  | none=>simpa only [hl] using h3
  | some L =>
   obtain ⟨blk,base,sz⟩:=L
   simp only [hl] at h3 ⊢
   obtain ⟨c,t,q1,q2,q3,q4,q5,q6⟩:=h3
   have hh:=hw blk base sz hl
   exact ⟨c,t,by rw [hh];exact q1,q2,q3,q4,q5,q6.mono h.G h.heap (.inl hh)⟩
 | map m n es =>
  simp only [ObjRep,AO.renV] at ho ⊢
  obtain ⟨h1,h2,blk,ents,clk,h3,h4,h5⟩:=ho
  obtain ⟨k1,k2⟩:=hm (by omega)
  exact ⟨k2,k1,blk,ents,clk,by rw [h.loc b ha hb];exact h3,by rw [hw blk _ _ h3];exact h4,h5.mono h.G h.heap⟩
 | vo m s xs k e =>
  simp only [ObjRep,AO.okR,AO.renV] at ho hd ⊢
  obtain ⟨h1,h2,kk,ke,blk,base,sz,c,t,vs,hl,k4,k5,k5',k6,k7,k8,k8',k9⟩:=ho
  obtain ⟨k1,k2⟩:=hm (by omega)
  have hh:=hw blk base sz hl
  exact ⟨k2,k1,kk,by rw [renL_len];exact ke,blk,base,sz,c,t,vs,by rw [h.loc b ha hb];exact hl,by rw [hh];exact k4,k5,k5',k6,fun i r hi hr=>⟨(k7 i r hi hr).1,(k7 i r hi hr).2.mono h.G h.heap (.inl hh)⟩,h.repL hd k8,k8',fun j v hv=>by rw [cell_of_heap hh];exact k9 j v hv⟩
end
def posN:List Nat→Nat→Nat
 | [],_=>0
 | c::r,b=>if c=b then 0 else posN r b+1
def nmN (σ:List Nat) (nid i:Nat):Nat:=if h:i<σ.length then σ[i] else nid+(i - σ.length)
def shN (M:Nat→AO) (σ:List Nat) (i:Nat):Nat:=match σ[i]? with
 | some b=>verOf (M b) - 1
 | none=>0
def canO (σ:List Nat) (o:AO):AO:=match o with
 | .dead=>.dead
 | .box cs=>.box (renL (posN σ) (fun _ _=>1) cs)
 | .vec _ s _ xs=>.vec 1 s false xs
 | .map _ n es=>.map 1 n es
 | .vo _ s xs k e=>.vo 1 s xs k (renL (posN σ) (fun _ _=>1) e)
def notDead:AO→Bool
 | .dead=>false
 | _=>true
def updN (M:Nat→AO) (σ:List Nat) (nid:Nat):Nat→List AO→List (Nat×AO)
 | _,[]=>[]
 | i,o::r=>(nmN σ nid i,o.ren (nmN σ nid) (fun j m=>m+shN M σ j) i)::updN M σ nid (i+1) r
def rng:Nat→Nat→List Nat
 | _,0=>[]
 | i,n+1=>i::rng (i+1) n
def gat (M:Nat→AO):Nat→List Nat→List Nat→List Nat
 | 0,_,acc=>acc
 | _+1,[],acc=>acc
 | n+1,b::t,acc=>if b∈acc then gat M n t acc else gat M n ((M b).nms++t) (acc++[b])
def CallG (M:Nat→AO) (avs:List AV) (σ:List Nat):Prop :=
 σ.Nodup∧Led M (nmsL avs) σ∧(∀ b∈σ,notDead (M b)=true)∧(∀ b∈nmsL avs,b∈σ)∧(∀ b∈σ,∀ c∈(M b).nms,c∈σ)∧curBL M avs=true∧∀ b∈σ,(M b).curB M=true
def RetG (k:Nat) (r:AV) (ms':List AO):Prop :=
 (k≤ms'.length∧ms'.length≤k+16)∧Led (getL ms') (r.nms++(rng 0 k).flatMap fun i=>(getL ms' i).nms) (rng k (ms'.length - k))
open Classical in
noncomputable def callG (F:List AV→List AO→Option (AV×List AO)) (avs:List AV) (M:Nat→AO) (nid:Nat):Option (AV×List (Nat×AO)) :=
 let σ:=gat M 64 (nmsL avs) []
 if CallG M avs σ then
  match F (renL (posN σ) (fun _ _=>1) avs) (σ.map fun b=>canO σ (M b)) with
  | some (r,ms')=>if RetG σ.length r ms' then some (r.ren (nmN σ nid) (fun j m=>m+shN M σ j),updN M σ nid 0 ms') else none
  | none=>none
 else none
end Go.AM
