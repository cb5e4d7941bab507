/- A part of the proof. -/
import Derived.Test.YtcfhmdljeeppfaaGreatCAmTa
set_option linter.all false
namespace Go.AM
abbrev Mm:=Int→Option (List Nat)
def wM (M:Mm) (f:Int) (i:Nat):Nat:=match M f with
 | some ws=>ws.getD i 0
 | none=>0
def frP (D:Wd) (M:Mm) (root:Int):Nat→Nat→Option Int
 | 0,_=>some root
 | d+1,q=>(frP D M root d (q/8)).bind fun f=>D.tab (wM M f (q%8))
structure VM (D:Wd) (M:Mm) (root:Int):Prop where
 nd:∀ d q,(d,q)∈Pos→∀ f,frP D M root d q=some f→∃ ws,M f=some ws∧ws.length=8∧∀ i,i<8→D.ok (2 - d) (ws.getD i 0)=true
 inj:∀ d q d' q',(d,q)∈Pos→(d',q')∈Pos→∀ f,frP D M root d q=some f→frP D M root d' q'=some f→d=d'∧q=q'
 all:∀ f ws,M f=some ws→∃ d q,(d,q)∈Pos∧frP D M root d q=some f
def updW (M:Mm) (f:Int) (i w:Nat):Mm:=fun g=>if g=f then (M f).map (·.set i w) else M g
def updM1 (M:Mm) (f:Int) (v:Option (List Nat)):Mm:=fun g=>if g=f then v else M g
def zs8:List Nat:=List.replicate 8 0
section
variable {D:Wd} {M:Mm} {root:Int}
theorem wM_updW {f g:Int} {i j w:Nat} {ws:List Nat} (h:M f=some ws) (hi:i<ws.length):wM (updW M f i w) g j=if g=f∧j=i then w else wM M g j:=by
 unfold wM updW
 by_cases e:g=f
 ·subst e
  simp only [if_true,h,Option.map_some,true_and]
  rw [List.getD_eq_getElem?_getD,List.getElem?_set]
  by_cases e2:i=j
  ·subst e2;simp [hi]
  ·have:¬ j=i:=fun h=>e2 h.symm
   simp [e2,this,List.getD_eq_getElem?_getD]
 ·simp [e]
theorem wM_updM1 {f g:Int} {v:Option (List Nat)} {j:Nat}:wM (updM1 M f v) g j=if g=f then (v.getD []).getD j 0 else wM M g j:=by
 unfold wM updM1
 by_cases e:g=f
 ·subst e;cases v<;>simp
 ·simp [e]
theorem zs8_getD (i:Nat):zs8.getD i 0=0:=by
 unfold zs8
 rw [List.getD_eq_getElem?_getD,List.getElem?_replicate]
 split<;>rfl
theorem Pos0:(0,0)∈Pos:=by decide
theorem Pos1 {q:Nat} (h:q<8):(1,q)∈Pos:=mem_Pos.2 (.inr (.inl ⟨rfl,h⟩))
theorem Pos2 {q:Nat} (h:q<64):(2,q)∈Pos:=mem_Pos.2 (.inr (.inr ⟨rfl,h⟩))
theorem Pos_up {d q:Nat} (h:(d+1,q)∈Pos):(d,q/8)∈Pos:=by
 have:=mem_Pos.1 h
 simp only at this
 refine mem_Pos.2 ?_
 simp only
 omega
theorem Pos_dn {d q i:Nat} (h:(d,q)∈Pos) (hd:d<2) (hi:i<8):(d+1,q*8+i)∈Pos:=by
 have:=mem_Pos.1 h
 simp only at this
 refine mem_Pos.2 ?_
 simp only
 omega
theorem frP_put {M':Mm} (h:∀ d q,(d,q)∈Pos→∀ f,frP D M root d q=some f→∀ i,i<8→D.tab (wM M' f i)=D.tab (wM M f i)):∀ d q,(d,q)∈Pos→frP D M' root d q=frP D M root d q:=by
 intro d
 induction d with
 | zero=>intro q _;rfl
 | succ d ih =>
  intro q hq
  simp only [frP]
  rw [ih (q/8) (Pos_up hq)]
  cases hf:frP D M root d (q/8) with
  | none=>rfl
  | some f=>simp only [Option.bind_some];exact h d (q/8) (Pos_up hq) f hf (q%8) (by omega)
theorem VM.put (hV:VM D M root) {d q:Nat} (hx:(d,q)∈Pos) {f:Int} (hf:frP D M root d q=some f) {i w:Nat} (hi:i<8) (ht:D.tab w=D.tab (wM M f i)) (hok:D.ok (2 - d) w=true) :
  VM D (updW M f i w) root∧∀ d q,(d,q)∈Pos→frP D (updW M f i w) root d q=frP D M root d q:=by
 obtain ⟨ws,h1,h2,h3⟩:=hV.nd d q hx f hf
 have hfr:∀ d q,(d,q)∈Pos→frP D (updW M f i w) root d q=frP D M root d q:=frP_put fun d' q' hy g hg j hj=>by
  rw [wM_updW h1 (by omega)]
  split
  ·rename_i e;obtain ⟨rfl,rfl⟩:=e;exact ht
  ·rfl
 refine ⟨⟨fun d' q' hy g hg=>?_,fun a b a' b' ha hb g hg hg'=>?_,fun g us hg=>?_⟩,hfr⟩
 ·rw [hfr _ _ hy] at hg
  by_cases e:g=f
  ·subst e
   obtain ⟨rfl,rfl⟩:=hV.inj _ _ _ _ hy hx g hg hf
   refine ⟨ws.set i w,by simp [updW,h1],by simp [h2],fun j hj=>?_⟩
   rw [List.getD_eq_getElem?_getD,List.getElem?_set]
   by_cases e2:i=j
   ·subst e2;simp [h2,hi,hok]
   ·simp only [e2,if_false]
    have:=h3 j hj
    rwa [List.getD_eq_getElem?_getD] at this
  ·obtain ⟨us,k1,k2⟩:=hV.nd _ _ hy g hg
   exact ⟨us,by simp [updW,e,k1],k2⟩
 ·rw [hfr _ _ ha] at hg
  rw [hfr _ _ hb] at hg'
  exact hV.inj _ _ _ _ ha hb g hg hg'
 ·have:∃ us',M g=some us':=by
   unfold updW at hg
   split at hg
   ·rename_i e;exact ⟨ws,by rw [e];exact h1⟩
   ·exact ⟨us,hg⟩
  obtain ⟨us',hu⟩:=this
  obtain ⟨d',q',hy,k⟩:=hV.all g us' hu
  exact ⟨d',q',hy,by rw [hfr _ _ hy];exact k⟩
structure WdZ (D:Wd):Prop where
 ok:∀ l,D.ok l 0=true
 tab:D.tab 0=none
theorem VM.grow (hZ:WdZ D) (hV:VM D M root) {d q:Nat} (hx:(d,q)∈Pos) (hd:d<2) {f:Int} (hf:frP D M root d q=some f) {i w:Nat} (hi:i<8) (h0:D.tab (wM M f i)=none) {g:Int} (hg:M g=none) (ht:D.tab w=some g) (hok:D.ok (2 - d) w=true) :
  VM D (updM1 (updW M f i w) g (some zs8)) root∧∀ a b,(a,b)∈Pos→frP D (updM1 (updW M f i w) g (some zs8)) root a b=if a=d+1∧b=q*8+i then some g else frP D M root a b:=by
 obtain ⟨ws,h1,h2,h3⟩:=hV.nd d q hx f hf
 have hfg:¬ f=g:=fun e=>by rw [e] at h1;rw [h1] at hg;simp at hg
 have hw:∀ h j,wM (updM1 (updW M f i w) g (some zs8)) h j=if h=g then 0 else if h=f∧j=i then w else wM M h j:=fun h j=>by
  rw [wM_updM1]
  by_cases e:h=g
  ·rw [if_pos e,if_pos e];exact zs8_getD j
  ·rw [if_neg e,if_neg e,wM_updW h1 (by omega)]
 have hne:∀ a b,(a,b)∈Pos→frP D M root a b≠some g:=fun a b ha e=>by
  obtain ⟨us,k1,_⟩:=hV.nd a b ha g e
  rw [k1] at hg;simp at hg
 have hch:frP D M root (d+1) (q*8+i)=none:=by
  simp only [frP]
  rw [show (q*8+i)/8=q by omega,show (q*8+i)%8=i by omega,hf]
  exact h0
 have hfr:∀ a b,(a,b)∈Pos→frP D (updM1 (updW M f i w) g (some zs8)) root a b=if a=d+1∧b=q*8+i then some g else frP D M root a b:=by
  intro a
  induction a with
  | zero=>intro b _;rw [if_neg (by omega)];rfl
  | succ a ih =>
   intro b hb
   have hup:=Pos_up hb
   simp only [frP]
   rw [ih (b/8) hup]
   by_cases e1:a=d+1∧b/8=q*8+i
   ·rw [if_pos e1,if_neg (by omega)]
    obtain ⟨e2,e3⟩:=e1
    rw [e2,e3,hch]
    simp only [Option.bind_some,Option.bind_none]
    rw [hw,if_pos rfl]
    exact hZ.tab
   ·rw [if_neg e1]
    cases hh:frP D M root a (b/8) with
    | none =>
     simp only [Option.bind_none]
     rw [if_neg]
     rintro ⟨e2,e3⟩
     have e4:a=d:=by omega
     have e5:b/8=q:=by omega
     rw [e4,e5,hf] at hh;simp at hh
    | some h =>
     simp only [Option.bind_some]
     have hhg:¬ h=g:=fun e=>hne _ _ hup (by rw [hh,e])
     rw [hw,if_neg hhg]
     by_cases e2:h=f∧b%8=i
     ·rw [if_pos e2]
      obtain ⟨e3,e4⟩:=e2
      subst e3
      obtain ⟨e5,e6⟩:=hV.inj _ _ _ _ hup hx h hh hf
      rw [if_pos ⟨by omega,by omega⟩,ht]
     ·rw [if_neg e2,if_neg]
      rintro ⟨e3,e4⟩
      have e5:a=d:=by omega
      have e6:b/8=q:=by omega
      rw [e5,e6,hf] at hh
      simp only [Option.some.injEq] at hh
      exact e2 ⟨hh.symm,by omega⟩
 refine ⟨⟨fun a b ha h hh=>?_,fun a b a' b' ha hb h hh hh'=>?_,fun h us hh=>?_⟩,hfr⟩
 ·rw [hfr _ _ ha] at hh
  split at hh
  ·simp only [Option.some.injEq] at hh
   subst hh
   refine ⟨zs8,by simp [updM1],by simp [zs8],fun j _=>by rw [zs8_getD];exact hZ.ok _⟩
  ·have hhg:¬ h=g:=fun e=>hne _ _ ha (by rw [hh,e])
   by_cases e:h=f
   ·subst e
    obtain ⟨rfl,rfl⟩:=hV.inj _ _ _ _ ha hx h hh hf
    refine ⟨ws.set i w,by simp [updM1,hhg,updW,h1],by simp [h2],fun j hj=>?_⟩
    rw [List.getD_eq_getElem?_getD,List.getElem?_set]
    by_cases e2:i=j
    ·subst e2;simp [h2,hi,hok]
    ·simp only [e2,if_false]
     have:=h3 j hj
     rwa [List.getD_eq_getElem?_getD] at this
   ·obtain ⟨us,k1,k2⟩:=hV.nd _ _ ha h hh
    exact ⟨us,by simp [updM1,hhg,updW,e,k1],k2⟩
 ·rw [hfr _ _ ha] at hh
  rw [hfr _ _ hb] at hh'
  split at hh<;>split at hh'
  ·omega
  ·rename_i e _
   simp only [Option.some.injEq] at hh
   subst hh
   exact absurd hh' (hne _ _ hb)
  ·rename_i _ e
   simp only [Option.some.injEq] at hh'
   subst hh'
   exact absurd hh (hne _ _ ha)
  ·exact hV.inj _ _ _ _ ha hb h hh hh'
 ·by_cases e:h=g
  ·subst e
   exact ⟨d+1,q*8+i,Pos_dn hx hd hi,by rw [hfr _ _ (Pos_dn hx hd hi),if_pos ⟨rfl,rfl⟩]⟩
  ·have:∃ us',M h=some us':=by
    unfold updM1 updW at hh
    simp only [e,if_false] at hh
    split at hh
    ·rename_i e2;exact ⟨ws,by rw [e2];exact h1⟩
    ·exact ⟨us,hh⟩
   obtain ⟨us',hu⟩:=this
   obtain ⟨a,b,ha,k⟩:=hV.all h us' hu
   refine ⟨a,b,ha,?_⟩
   rw [hfr _ _ ha,if_neg]
   ·exact k
   ·rintro ⟨rfl,rfl⟩
    rw [hch] at k;simp at k
theorem VM.prune (hV:VM D M root) {d q:Nat} (hx:(d,q)∈Pos) (hd:d<2) {f:Int} (hf:frP D M root d q=some f) {i w:Nat} (hi:i<8) {g:Int} (h0:D.tab (wM M f i)=some g) (hlf:∀ j,j<8→D.tab (wM M g j)=none) (ht:D.tab w=none) (hok:D.ok (2 - d) w=true) :
  VM D (updM1 (updW M f i w) g none) root∧∀ a b,(a,b)∈Pos→frP D (updM1 (updW M f i w) g none) root a b=if a=d+1∧b=q*8+i then none else frP D M root a b:=by
 obtain ⟨ws,h1,h2,h3⟩:=hV.nd d q hx f hf
 have hcx:=Pos_dn hx hd hi
 have hch:frP D M root (d+1) (q*8+i)=some g:=by
  simp only [frP]
  rw [show (q*8+i)/8=q by omega,show (q*8+i)%8=i by omega,hf]
  exact h0
 have hfg:¬ f=g:=fun e=>by
  subst e
  have:=hV.inj _ _ _ _ hx hcx f hf hch
  omega
 have hw:∀ h j,¬ h=g→wM (updM1 (updW M f i w) g none) h j=if h=f∧j=i then w else wM M h j:=fun h j e=>by
  rw [wM_updM1,if_neg e,wM_updW h1 (by omega)]
 have hfr:∀ a b,(a,b)∈Pos→frP D (updM1 (updW M f i w) g none) root a b=if a=d+1∧b=q*8+i then none else frP D M root a b:=by
  intro a
  induction a with
  | zero=>intro b _;rw [if_neg (by omega)];rfl
  | succ a ih =>
   intro b hb
   have hup:=Pos_up hb
   simp only [frP]
   rw [ih (b/8) hup]
   by_cases e1:a=d+1∧b/8=q*8+i
   ·rw [if_pos e1,if_neg (by omega)]
    obtain ⟨e2,e3⟩:=e1
    rw [e2,e3,hch]
    simp only [Option.bind_some,Option.bind_none]
    exact (hlf _ (by omega)).symm
   ·rw [if_neg e1]
    cases hh:frP D M root a (b/8) with
    | none =>
     simp only [Option.bind_none]
     split<;>rfl
    | some h =>
     simp only [Option.bind_some]
     have hhg:¬ h=g:=fun e=>by
      subst e
      have:=hV.inj _ _ _ _ hup hcx h hh hch
      omega
     rw [hw _ _ hhg]
     by_cases e2:h=f∧b%8=i
     ·rw [if_pos e2]
      obtain ⟨e3,e4⟩:=e2
      subst e3
      obtain ⟨e5,e6⟩:=hV.inj _ _ _ _ hup hx h hh hf
      rw [if_pos ⟨by omega,by omega⟩,ht]
     ·rw [if_neg e2,if_neg]
      rintro ⟨e3,e4⟩
      have e5:a=d:=by omega
      have e6:b/8=q:=by omega
      rw [e5,e6,hf] at hh
      simp only [Option.some.injEq] at hh
      exact e2 ⟨hh.symm,by omega⟩
 refine ⟨⟨fun a b ha h hh=>?_,fun a b a' b' ha hb h hh hh'=>?_,fun h us hh=>?_⟩,hfr⟩
 ·rw [hfr _ _ ha] at hh
  split at hh
  ·simp at hh
  ·rename_i hnc
   have hhg:¬ h=g:=fun e=>by
    subst e
    exact hnc (hV.inj _ _ _ _ ha hcx h hh hch)
   by_cases e:h=f
   ·subst e
    obtain ⟨rfl,rfl⟩:=hV.inj _ _ _ _ ha hx h hh hf
    refine ⟨ws.set i w,by simp [updM1,hhg,updW,h1],by simp [h2],fun j hj=>?_⟩
    rw [List.getD_eq_getElem?_getD,List.getElem?_set]
    by_cases e2:i=j
    ·subst e2;simp [h2,hi,hok]
    ·simp only [e2,if_false]
     have:=h3 j hj
     rwa [List.getD_eq_getElem?_getD] at this
   ·obtain ⟨us,k1,k2⟩:=hV.nd _ _ ha h hh
    exact ⟨us,by simp [updM1,hhg,updW,e,k1],k2⟩
 ·rw [hfr _ _ ha] at hh
  rw [hfr _ _ hb] at hh'
  split at hh<;>split at hh'
  ·simp at hh
  ·simp at hh
  ·simp at hh'
  ·exact hV.inj _ _ _ _ ha hb h hh hh'
 ·have e:¬ h=g:=fun e=>by subst e;simp [updM1] at hh
  have:∃ us',M h=some us':=by
   unfold updM1 updW at hh
   simp only [e,if_false] at hh
   split at hh
   ·rename_i e2;exact ⟨ws,by rw [e2];exact h1⟩
   ·exact ⟨us,hh⟩
  obtain ⟨us',hu⟩:=this
  obtain ⟨a,b,ha,k⟩:=hV.all h us' hu
  refine ⟨a,b,ha,?_⟩
  rw [hfr _ _ ha,if_neg]
  ·exact k
  ·rintro ⟨rfl,rfl⟩
   rw [hch] at k
   simp only [Option.some.injEq] at k
   exact e k.symm
end
end Go.AM
namespace Go.AM
def Mof (ns:NdL):Mm:=fun f=>(fnd ns f).map fun i=>(ns.getD i (0,[])).2
def ascN (ns:NdL):Prop:=ns.Pairwise fun a b=>a.1<b.1
def nds8 (ns:NdL):Prop:=∀ n∈ns,n.2.length=8
section
variable {D:Wd} {ns:NdL} {root:Int}
theorem fFr {f:Int} {i:Nat} (h:fnd ns f=some i):(ns.getD i (0,[])).1=f:=by
 have hl:=fnd_lt h
 unfold fnd at h
 split at h
 ·rename_i hh
  simp only [Option.some.injEq] at h
  subst h
  have:=List.findIdx_getElem (w:=hh)
  rw [List.getD_eq_getElem?_getD,List.getElem?_eq_getElem hh]
  simpa using this
 ·simp at h
theorem asc_lt (h:ascN ns) {i j:Nat} (hij:i<j) (hj:j<ns.length):(ns.getD i (0,[])).1<(ns.getD j (0,[])).1:=by
 have:=List.pairwise_iff_getElem.1 h i j (by omega) hj hij
 rw [List.getD_eq_getElem?_getD,List.getElem?_eq_getElem (by omega:i<ns.length),List.getD_eq_getElem?_getD,List.getElem?_eq_getElem hj]
 exact this
theorem fnd_at (h:ascN ns) {i:Nat} (hi:i<ns.length):fnd ns (ns.getD i (0,[])).1=some i:=by
 have:ns.findIdx (fun n=>decide (n.1=(ns.getD i (0,[])).1))=i:=by
  rw [List.findIdx_eq hi]
  refine ⟨by rw [List.getD_eq_getElem?_getD,List.getElem?_eq_getElem hi];simp,fun j hj=>?_⟩
  have:=asc_lt h hj hi
  rw [List.getD_eq_getElem?_getD,List.getElem?_eq_getElem (by omega:j<ns.length)] at this
  simp only [Option.getD_some] at this
  simp only [decide_eq_false_iff_not]
  omega
 unfold fnd
 rw [this,if_pos hi]
theorem wM_Mof {f:Int} {n:Nat} (h:fnd ns f=some n) (i:Nat):wM (Mof ns) f i=wd ns n i:=by
 unfold wM Mof wd
 rw [h];rfl
theorem Mof_some {f:Int} {ws:List Nat}:Mof ns f=some ws↔∃ i,fnd ns f=some i∧(ns.getD i (0,[])).2=ws:=by
 unfold Mof;simp
theorem Mof_len (h8:nds8 ns) {f:Int} {ws:List Nat} (h:Mof ns f=some ws):ws.length=8:=by
 obtain ⟨i,h1,rfl⟩:=Mof_some.1 h
 have:=fnd_lt h1
 rw [List.getD_eq_getElem?_getD,List.getElem?_eq_getElem this]
 exact h8 _ (List.getElem_mem this)
def frN (ns:NdL) (n:Nat):Int:=(ns.getD n (0,[])).1
theorem kid_some {w n:Nat}:kid D ns w=some n↔∃ g,D.tab w=some g∧fnd ns g=some n:=by
 unfold kid
 cases D.tab w<;>simp
theorem frP_pl {r:Nat} (hr:fnd ns root=some r) (hfound:∀ d q,(d,q)∈Pos→∀ n,plN D ns r d q=some n→∀ i,i<8→∀ g,D.tab (wd ns n i)=some g→d<2→∃ nx,fnd ns g=some nx) :
  ∀ d q,(d,q)∈Pos→frP D (Mof ns) root d q=(plN D ns r d q).map (frN ns)∧∀ n,plN D ns r d q=some n→fnd ns (frN ns n)=some n:=by
 intro d
 induction d with
 | zero =>
  intro q _
  simp only [frP,plN,Option.map_some,Option.some.injEq]
  refine ⟨(fFr hr).symm,?_⟩
  rintro n rfl
  show fnd ns (ns.getD r (0,[])).1=some r
  rw [fFr hr];exact hr
 | succ d ih =>
  intro q hq
  have hup:=Pos_up hq
  obtain ⟨h1,h2⟩:=ih _ hup
  simp only [frP,plN]
  rw [h1]
  cases hp:plN D ns r d (q/8) with
  | none=>exact ⟨rfl,fun n h=>by simp at h⟩
  | some m =>
   simp only [Option.map_some,Option.bind_some]
   rw [wM_Mof (h2 m hp)]
   have hd:d<2:=by have:=mem_Pos.1 hq;simp only at this;omega
   cases ht:D.tab (wd ns m (q%8)) with
   | none=>unfold kid;rw [ht];exact ⟨rfl,fun n h=>by simp at h⟩
   | some g =>
    obtain ⟨nx,h3⟩:=hfound d _ hup m hp (q%8) (by omega) g ht hd
    have hk:kid D ns (wd ns m (q%8))=some nx:=kid_some.2 ⟨g,ht,h3⟩
    rw [hk]
    simp only [Option.map_some,Option.some.injEq]
    refine ⟨(fFr h3).symm,?_⟩
    rintro n rfl
    show fnd ns (ns.getD nx (0,[])).1=some nx
    rw [fFr h3];exact h3
theorem valid_iff (hD:WdOK D) (ha:ascN ns) (h8:nds8 ns) {r:Nat} (hr:fnd ns root=some r) :
  (good D ns 2 r 0∧(ids D ns 2 r).Nodup∧∀ n,n<ns.length→n∈ids D ns 2 r) ↔
   (VM D (Mof ns) root∧∀ q i f,q<8→i<8→frP D (Mof ns) root 1 q=some f→D.hug (wM (Mof ns) f i)=true→D.adm ((q*8+i:Nat):Int)=true):=by
 rw [good_pos hD,ids_nodup]
 constructor
 ·rintro ⟨h1,h2,h3⟩
  have hfr:=frP_pl hr fun d q hx n hn i hi g hg _=>(h1 (d,q) hx n hn i hi).2.2 g hg
  have key:∀ d q,(d,q)∈Pos→∀ f,frP D (Mof ns) root d q=some f→∃ n,plN D ns r d q=some n∧frN ns n=f∧fnd ns f=some n:=fun d q hx f hf=>by
   rw [(hfr d q hx).1] at hf
   cases hp:plN D ns r d q with
   | none=>rw [hp] at hf;simp at hf
   | some n =>
    rw [hp] at hf
    simp only [Option.map_some,Option.some.injEq] at hf
    exact ⟨n,rfl,hf,by rw [← hf];exact (hfr d q hx).2 n hp⟩
  refine ⟨⟨fun d q hx f hf=>?_,fun d q d' q' hx hy f hf hf'=>?_,fun f ws hf=>?_⟩,fun q i f hq hi hf hh=>?_⟩
  ·obtain ⟨n,k1,k2,k3⟩:=key d q hx f hf
   refine ⟨(ns.getD n (0,[])).2,Mof_some.2 ⟨n,k3,rfl⟩,Mof_len h8 (Mof_some.2 ⟨n,k3,rfl⟩),fun i hi=>?_⟩
   exact (h1 (d,q) hx n k1 i hi).1
  ·obtain ⟨n,k1,k2,k3⟩:=key d q hx f hf
   obtain ⟨m,l1,l2,l3⟩:=key d' q' hy f hf'
   rw [k3] at l3
   simp only [Option.some.injEq] at l3
   subst l3
   have:=h2 (d,q) hx (d',q') hy n k1 l1
   simpa using this
  ·obtain ⟨n,k1,k2⟩:=Mof_some.1 hf
   obtain ⟨x,hx,k3⟩:=mem_ids.1 (h3 n (fnd_lt k1))
   refine ⟨x.1,x.2,hx,?_⟩
   rw [(hfr x.1 x.2 hx).1,k3]
   simp only [Option.map_some,Option.some.injEq]
   exact fFr k1
  ·obtain ⟨n,k1,k2,k3⟩:=key 1 q (Pos1 hq) f hf
   rw [wM_Mof k3] at hh
   exact (h1 (1,q) (Pos1 hq) n k1 i hi).2.1 rfl hh
 ·rintro ⟨hV,hadm⟩
  have hfr:∀ d q,(d,q)∈Pos→frP D (Mof ns) root d q=(plN D ns r d q).map (frN ns)∧∀ n,plN D ns r d q=some n→fnd ns (frN ns n)=some n:=by
   intro d
   induction d with
   | zero =>
    intro q _
    simp only [frP,plN,Option.map_some,Option.some.injEq]
    refine ⟨(fFr hr).symm,?_⟩
    rintro n rfl
    show fnd ns (ns.getD r (0,[])).1=some r
    rw [fFr hr];exact hr
   | succ d ih =>
    intro q hq
    have hup:=Pos_up hq
    obtain ⟨h1,h2⟩:=ih _ hup
    have hfP:frP D (Mof ns) root (d+1) q=(frP D (Mof ns) root d (q/8)).bind fun f=>D.tab (wM (Mof ns) f (q%8)):=rfl
    simp only [plN]
    rw [h1] at hfP
    cases hp:plN D ns r d (q/8) with
    | none=>rw [hp] at hfP;rw [hfP];exact ⟨rfl,fun n h=>by simp at h⟩
    | some m =>
     rw [hp] at hfP
     simp only [Option.map_some,Option.bind_some] at hfP ⊢
     rw [wM_Mof (h2 m hp)] at hfP
     cases ht:D.tab (wd ns m (q%8)) with
     | none=>rw [hfP,ht];unfold kid;rw [ht];exact ⟨rfl,fun n h=>by simp at h⟩
     | some g =>
      rw [ht] at hfP
      obtain ⟨ws,k1,_⟩:=hV.nd _ _ hq g hfP
      obtain ⟨nx,h3,_⟩:=Mof_some.1 k1
      have hk:kid D ns (wd ns m (q%8))=some nx:=kid_some.2 ⟨g,ht,h3⟩
      rw [hk,hfP]
      simp only [Option.map_some,Option.some.injEq]
      refine ⟨(fFr h3).symm,?_⟩
      rintro n rfl
      show fnd ns (ns.getD nx (0,[])).1=some nx
      rw [fFr h3];exact h3
  refine ⟨fun x hx n hn i hi=>?_,fun x hx y hy n h1 h2=>?_,fun n hn=>?_⟩
  ·obtain ⟨d,q⟩:=x
   simp only at hn ⊢
   have k1:=(hfr d q hx).1
   have k2:=(hfr d q hx).2 n hn
   rw [hn] at k1
   obtain ⟨ws,l1,l2,l3⟩:=hV.nd d q hx _ k1
   have hw:∀ i,wd ns n i=ws.getD i 0:=fun i=>by
    rw [← wM_Mof k2 i];unfold wM;rw [l1]
   have hok:D.ok (2 - d) (wd ns n i)=true:=by rw [hw];exact l3 i hi
   refine ⟨hok,fun e hh=>?_,fun g hg=>?_⟩
   ·subst e
    have hq:q<8:=by have:=mem_Pos.1 hx;simp only at this;omega
    exact hadm q i _ hq hi k1 (by rw [wM_Mof k2];exact hh)
   ·rcases Nat.lt_or_ge d 2 with hd|hd
    ·have hc:frP D (Mof ns) root (d+1) (q*8+i)=some g:=by
      simp only [frP]
      rw [show (q*8+i)/8=q by omega,show (q*8+i)%8=i by omega,k1]
      simp only [Option.map_some,Option.bind_some]
      rw [wM_Mof k2];exact hg
     obtain ⟨us,m1,_⟩:=hV.nd _ _ (Pos_dn hx hd hi) g hc
     obtain ⟨nx,m2,_⟩:=Mof_some.1 m1
     exact ⟨nx,m2⟩
    ·have:d=2:=by have:=mem_Pos.1 hx;simp only at this;omega
     subst this
     rw [hD.flat _ hok] at hg;simp at hg
  ·have k1:=(hfr x.1 x.2 hx).1
   have k2:=(hfr y.1 y.2 hy).1
   rw [h1] at k1
   rw [h2] at k2
   obtain ⟨e1,e2⟩:=hV.inj _ _ _ _ hx hy _ k1 k2
   exact Prod.ext e1 e2
  ·have hf:=fnd_at ha hn
   obtain ⟨d,q,hx,k1⟩:=hV.all _ _ (Mof_some.2 ⟨n,hf,rfl⟩)
   refine mem_ids.2 ⟨(d,q),hx,?_⟩
   have k2:=(hfr d q hx).1
   rw [k1] at k2
   cases hp:plN D ns r d q with
   | none=>rw [hp] at k2;simp at k2
   | some m =>
    rw [hp] at k2
    simp only [Option.map_some,Option.some.injEq] at k2
    have k3:=(hfr d q hx).2 m hp
    rw [← k2,hf] at k3
    exact k3.symm
theorem hugP_iff (hD:WdOK D) (ha:ascN ns) (h8:nds8 ns) {r:Nat} (hr:fnd ns root=some r) (hg:good D ns 2 r 0) {g:Nat} (hg64:g<64):hugP D ns r g=true↔∃ f,frP D (Mof ns) root 1 (g/8)=some f∧D.hug (wM (Mof ns) f (g%8))=true:=by
 have h1:=(good_pos hD).1 hg
 have hfr:=frP_pl hr fun d q hx n hn i hi g hg _=>(h1 (d,q) hx n hn i hi).2.2 g hg
 obtain ⟨k1,k2⟩:=hfr 1 (g/8) (Pos1 (by omega))
 unfold hugP
 rw [k1]
 cases hp:plN D ns r 1 (g/8) with
 | none=>simp
 | some n =>
  simp only [Option.map_some,Option.some.injEq,exists_eq_left']
  rw [wM_Mof (k2 n hp)]
end
end Go.AM
namespace Go.AM
open Go Go.Proofs Tryz
theorem mget_mset {es:List (List Int×AV)} {q r:List Int} {a:AV}:mget (mset es q a) r=if r=q then some a else mget es r:=by
 induction es with
 | nil =>
  simp only [mset,mget]
 | cons e es ih =>
  obtain ⟨k,b⟩:=e
  simp only [mset]
  split
  ·rename_i h;subst h
   simp only [mget]
   split<;>simp_all
  ·rename_i h
   simp only [mget,ih]
   by_cases h1:r=k
   ·subst h1
    rw [if_pos rfl,if_neg fun e=>h e.symm]
    simp
   ·rw [if_neg h1,if_neg h1]
theorem gn_getD (l:List Nd) (n:Nat):gn l n=l.getD n (0,[]):=rfl
theorem idxE_none {ns:List Nd} {f:Int}:∀ {n:Nat},(∀ k,k<n→(gn ns k).1≠f)→mget (idxE ns n) [f]=none
 | 0,_=>rfl
 | n+1,h=>by
  simp only [idxE]
  rw [mget_mset,if_neg,idxE_none fun k hk=>h k (by omega)]
  intro e
  simp only [cJ,and_true] at e
  exact h n (by omega) e.symm
theorem idxE_at {ns:List Nd} (ha:ascN ns) {k:Nat}:∀ {n:Nat},k<n→n≤ns.length→mget (idxE ns n) [(gn ns k).1]=some (I k)
 | 0,h,_=>by omega
 | n+1,h,hn=>by
  simp only [idxE]
  rw [mget_mset]
  by_cases e:k=n
  ·subst e;simp
  ·rw [if_neg]
   ·exact idxE_at ha (by omega) (by omega)
   ·intro e2
    simp only [cJ,and_true] at e2
    have:=asc_lt ha (i:=k) (j:=n) (by omega) (by omega)
    rw [gn_getD,gn_getD] at e2
    omega
theorem idxE_get {ns:List Nd} (ha:ascN ns) (f:Int):mget (idxE ns ns.length) [f]=(fnd ns f).map fun k=>I (k:Int):=by
 cases h:fnd ns f with
 | some k =>
  have h1:=fFr h
  rw [← h1]
  exact idxE_at ha (fnd_lt h) (Nat.le_refl _)
 | none =>
  refine idxE_none fun k hk e=>?_
  have:=fnd_at ha hk
  rw [← gn_getD,e,h] at this
  simp at this
def seeE (ns:List Nd) (ds:List Dp):Nat→List (List Int×AV)
 | 0=>idxE ns ns.length
 | k+1=>mset (seeE ns ds k) [(gp ds k).2] (I (-1))
theorem seeE_not {ns:List Nd} {ds:List Dp} {f:Int}:∀ {n:Nat},(∀ k,k<n→(gp ds k).2≠f)→mget (seeE ns ds n) [f]=mget (idxE ns ns.length) [f]
 | 0,_=>rfl
 | n+1,h=>by
  simp only [seeE]
  rw [mget_mset,if_neg,seeE_not fun k hk=>h k (by omega)]
  intro e
  simp only [cJ,and_true] at e
  exact h n (by omega) e.symm
theorem seeE_at {ns:List Nd} {ds:List Dp} {k:Nat}:∀ {n:Nat},k<n→mget (seeE ns ds n) [(gp ds k).2]=some (I (-1))
 | 0,h=>by omega
 | n+1,h=>by
  simp only [seeE]
  rw [mget_mset]
  by_cases e:(gp ds k).2=(gp ds n).2
  ·rw [e];simp
  ·rw [if_neg (by simpa using e)]
   have:k≠n:=fun h=>e (by rw [h])
   exact seeE_at (by omega)
theorem ascN_of {t:Tb} (h:ascB t=true):ascN t.2.1:=by
 have h1:=(ascB_iff.1 h).1
 refine List.pairwise_iff_getElem.2 fun i j hi hj hij=>?_
 have key:∀ d,i+d+1<t.2.1.length→(gn t.2.1 i).1<(gn t.2.1 (i+d+1)).1:=by
  intro d
  induction d with
  | zero=>intro h;exact h1 i h
  | succ d ih=>intro h;exact Int.lt_trans (ih (by omega)) (h1 (i+d+1) h)
 have:=key (j - i - 1) (by omega)
 rw [show i+(j - i - 1)+1=j by omega,gn_eq hi,gn_eq hj] at this
 exact this
noncomputable def numB (t:Tb):Int:=if rngB t=false then 2 else if ascB t=false then 10 else if twB t=true then 7 else if fnd t.2.1 t.1=none then 6 else 0
theorem twN_get {t:Tb} (ha:ascN t.2.1) {i:Nat} (hno:∀ j,j<i→¬ twN t j):twN t i↔mget (seeE t.2.1 t.2.2 i) [(gp t.2.2 i).2]≠none:=by
 unfold twN
 constructor
 ·rintro (⟨j,hj,e⟩|⟨j,hj,e⟩)
  ·by_cases hh:∃ k,k<i∧(gp t.2.2 k).2=(gp t.2.2 i).2
   ·obtain ⟨k,hk,e2⟩:=hh
    rw [← e2,seeE_at hk];simp
   ·rw [seeE_not fun k hk e2=>hh ⟨k,hk,e2⟩,← e,idxE_at ha hj (Nat.le_refl _)];simp
  ·rw [← e,seeE_at hj];simp
 ·intro h
  by_cases hh:∃ k,k<i∧(gp t.2.2 k).2=(gp t.2.2 i).2
  ·exact .inr hh
  ·left
   rw [seeE_not fun k hk e2=>hh ⟨k,hk,e2⟩] at h
   by_cases h3:∃ j,j<t.2.1.length∧(gn t.2.1 j).1=(gp t.2.2 i).2
   ·exact h3
   ·exact absurd (idxE_none fun k hk e=>h3 ⟨k,hk,e⟩) h
theorem numB_2 {t:Tb} (h:rngB t=false):numB t=2:=by unfold numB;rw [if_pos h]
theorem numB_10 {t:Tb} (h0:rngB t=true) (h:ascB t=false):numB t=10:=by unfold numB;rw [if_neg (by simp [h0]),if_pos h]
theorem numB_7 {t:Tb} (h0:rngB t=true) (h1:ascB t=true) (h:twB t=true):numB t=7:=by unfold numB;rw [if_neg (by simp [h0]),if_neg (by simp [h1]),if_pos h]
theorem numB_6 {t:Tb} (h0:rngB t=true) (h1:ascB t=true) (h2:twB t=false) (h:fnd t.2.1 t.1=none):numB t=6:=by unfold numB;rw [if_neg (by simp [h0]),if_neg (by simp [h1]),if_neg (by simp [h2]),if_pos h]
theorem numB_0 {t:Tb} (h0:rngB t=true) (h1:ascB t=true) (h2:twB t=false) (h:fnd t.2.1 t.1≠none):numB t=0:=by unfold numB;rw [if_neg (by simp [h0]),if_neg (by simp [h1]),if_neg (by simp [h2]),if_neg h]
theorem see_root {t:Tb} (ha:ascN t.2.1) (h2:twB t=false):(∃ k:Nat,fnd t.2.1 t.1=some k∧mget (seeE t.2.1 t.2.2 t.2.2.length) [t.1]=some (I k))∨(fnd t.2.1 t.1=none∧(mget (seeE t.2.1 t.2.2 t.2.2.length) [t.1]=none∨mget (seeE t.2.1 t.2.2 t.2.2.length) [t.1]=some (I (-1)))):=by
 have hno:∀ i,i<t.2.2.length→¬ twN t i:=fun i hi h=>by
  have:=twB_iff.2 ⟨i,hi,h⟩
  rw [h2] at this;simp at this
 by_cases hh:∃ k,k<t.2.2.length∧(gp t.2.2 k).2=t.1
 ·obtain ⟨k,hk,e⟩:=hh
  right
  refine ⟨?_,.inr (by rw [← e];exact seeE_at hk)⟩
  cases h:fnd t.2.1 t.1 with
  | none=>rfl
  | some j =>
   exfalso
   exact hno k hk (.inl ⟨j,fnd_lt h,by rw [e];exact fFr h⟩)
 ·rw [seeE_not fun k hk e=>hh ⟨k,hk,e⟩,idxE_get ha]
  cases h:fnd t.2.1 t.1 with
  | none=>right;exact ⟨rfl,.inl rfl⟩
  | some j=>left;exact ⟨j,rfl,rfl⟩
set_option maxHeartbeats 4000000 in
theorem s114 (X:AX) (hX:XOK prog X) (hw:X.W wT) (hfr:∀ x M n,X.call 126 [I x] M n=some (B (decide (0≤x∧x≤4294967295)),[]))
  (hix:∀ t:Tb,tbOK t→∀ M n,X.call 115 [TbV t] M n=some (.mp n 1,[(n,.map 1 1 (idxE t.2.1 t.2.1.length))])) :
  PSd prog 114 (spF (ι:={x:Tb // tbOK x}) (fun x=>[TbV x.1]) fun x=>rtO [I (numB x.1)]):=by
 refine psS hX mixed func114 rfl fun ⟨⟨r,ns,ds⟩,ht⟩ w0 G=>⟨by show 1≤126;decide,rfl,?_⟩
 show AW ⟨prog,X,126,w0,.pure G⟩ _ _ _
 have hc:=okc hX 126 w0 G
 have hl1:ns.length≤1000000:=ht.2.1
 have hl2:ds.length≤1000000:=ht.2.2
 have hix':=hix (r,ns,ds) ht
 simp only [TbV] at hix' ⊢
 repeat' (first|(refine aSk fun K hK=>?_)|(refine eMo ?_)|(refine eC (fun h=>?_) (fun h=>?_)<;>(try simp at h))|(refine hK _ ?_;clear hK)|(clear hK;refine hK _ ?_;clear hK))
 refine aLK (s0:=?lps1) (m0:=?lpm1) (ι:={i:Nat // i≤ns.length∧∀ j,j<i→frmN (gn ns j).1}) [1,17,18] (fun i=>[(19,I i.1)]) (fun _=>[]) (fun i=>ns.length - i.1) ⟨0,by omega,by omega⟩ ?lhs1 ?lhm1 ?_ ?_
 case lhs1=>first|(simp [kpS];done)|(simp [kpS];rfl)
 case lhm1=>first|rfl|(simp;done)|(simp;rfl)
 ·exact dle
 ·rintro ⟨i,hi,hinv⟩
  simp only
  rcases dE (i<ns.length) with hil|hil
  ·have hilI:(i:Int)<(ns.length:Int):=by omega
   have hg:=nrG hil
   have hgE:=nrE hil
   have hno:¬ frmN (gn ns i).1→numB (r,ns,ds)=2:=fun h=>numB_2 (rngB_no fun h2=>h (h2.1 i hil))
   have hlen:=(ht.1 _ (gn_mem hil)).1
   obtain ⟨⟨g,ws⟩,hm⟩:∃ m,m=gn ns i:=⟨_,rfl⟩
   rw [← hm] at hg hgE hno hlen
   simp only [frmN] at hg hgE hno hlen
   have hfr':=hfr g
   rcases dE (0≤g∧g≤4294967295) with h1|h1
   ·rw [decide_eq_true h1] at hfr'
    have zS:=jj hilI<|jj hg<|jj hgE<|jj hfr'<|hlen
    repeat' (first|(refine aSk fun K hK=>?_)|(refine eM64 ?_)|(refine eC (fun h=>?_) (fun h=>?_)<;>(try simp at h))|(refine hK _ ?_;clear hK)|clear hK)
    all_goals clear zS
    refine ⟨i+1,?_,⟨by omega,fun j hj=>?_⟩,by omega⟩
    ·exact dle
    ·rcases Nat.lt_succ_iff_lt_or_eq.1 hj with h3|rfl
     ·exact hinv j h3
     ·rw [← hm];unfold frmN;simp only;omega
   ·rw [decide_eq_false h1] at hfr'
    have e:=hno h1
    have zS:=jj hilI<|jj hg<|jj hgE<|jj hfr'<|hlen
    repeat' (first|(refine aSk fun K hK=>?_)|(refine eM64 ?_)|(refine eC (fun h=>?_) (fun h=>?_)<;>(try simp at h))|(refine hK _ ?_;clear hK)|clear hK)
    all_goals clear zS
    refine ⟨by simp,?_⟩
    simp [lvI,f114,e]
    try exact dt
  ·obtain rfl:i=ns.length:=by omega
   repeat' (first|(refine aSk fun K hK=>?_)|(refine eMo ?_)|(refine eC (fun h=>?_) (fun h=>?_)<;>(try simp at h))|(refine hK _ ?_;clear hK)|(clear hK;refine hK _ ?_;clear hK))
   refine aLK (s0:=?lps2) (m0:=?lpm2) (ι:={i:Nat // i≤ds.length∧∀ j,j<i→frmN (gp ds j).2∧0≤(gp ds j).1∧(gp ds j).1<64}) [1,29,30] (fun i=>[(31,I i.1)]) (fun _=>[]) (fun i=>ds.length - i.1) ⟨0,by omega,by omega⟩ ?lhs2 ?lhm2 ?_ ?_
   case lhs2=>first|(simp [kpS];done)|(simp [kpS];rfl)
   case lhm2=>first|rfl|(simp;done)|(simp;rfl)
   ·exact dle
   ·rintro ⟨i,hi2,hinv2⟩
    simp only
    rcases dE (i<ds.length) with hil2|hil2
    ·have hilI2:(i:Int)<(ds.length:Int):=by omega
     have hg:=prows_gi hil2
     have hgE:=prows_gE hil2
     have hno:¬ (frmN (gp ds i).2∧0≤(gp ds i).1∧(gp ds i).1<64)→numB (r,ns,ds)=2:=fun h=>numB_2 (rngB_no fun h2=>h (h2.2 i hil2))
     obtain ⟨⟨a,b⟩,hm⟩:∃ m,m=gp ds i:=⟨_,rfl⟩
     rw [← hm] at hg hgE hno
     simp only [frmN] at hg hgE hno
     have hfr':=hfr b
     rcases dE (0≤b∧b≤4294967295) with h1|h1
     ·rw [decide_eq_true h1] at hfr'
      rcases dE (a<0) with h3|h3
      ·have e:=hno (by omega)
       have zS:=jj hilI2<|jj hg<|jj hgE<|jj hfr'<|h3
       repeat' (first|(refine aSk fun K hK=>?_)|(refine eM64 ?_)|(refine eC (fun h=>?_) (fun h=>?_)<;>(try simp at h))|(refine hK _ ?_;clear hK)|clear hK)
       all_goals clear zS
       refine ⟨by simp,?_⟩
       simp [lvI,f114,e]
       try exact dt
      ·rcases dE (64≤a) with h4|h4
       ·have e:=hno (by omega)
        have zS:=jj hilI2<|jj hg<|jj hgE<|jj hfr'<|jj h3<|h4
        repeat' (first|(refine aSk fun K hK=>?_)|(refine eM64 ?_)|(refine eC (fun h=>?_) (fun h=>?_)<;>(try simp at h))|(refine hK _ ?_;clear hK)|clear hK)
        all_goals clear zS
        refine ⟨by simp,?_⟩
        simp [lvI,f114,e]
        try exact dt
       ·have zS:=jj hilI2<|jj hg<|jj hgE<|jj hfr'<|jj h3<|h4
        repeat' (first|(refine aSk fun K hK=>?_)|(refine eM64 ?_)|(refine eC (fun h=>?_) (fun h=>?_)<;>(try simp at h))|(refine hK _ ?_;clear hK)|clear hK)
        all_goals clear zS
        refine ⟨i+1,?_,⟨by omega,fun j hj=>?_⟩,by omega⟩
        ·exact dle
        ·rcases Nat.lt_succ_iff_lt_or_eq.1 hj with h5|rfl
         ·exact hinv2 j h5
         ·rw [← hm];unfold frmN;simp only;omega
     ·rw [decide_eq_false h1] at hfr'
      have e:=hno (by omega)
      have zS:=jj hilI2<|jj hg<|jj hgE<|hfr'
      repeat' (first|(refine aSk fun K hK=>?_)|(refine eM64 ?_)|(refine eC (fun h=>?_) (fun h=>?_)<;>(try simp at h))|(refine hK _ ?_;clear hK)|clear hK)
      all_goals clear zS
      refine ⟨by simp,?_⟩
      simp [lvI,f114,e]
      try exact dt
    ·obtain rfl:i=ds.length:=by omega
     have hR:rngB (r,ns,ds)=true:=rngB_iff.2 ⟨fun j hj=>hinv j hj,fun j hj=>hinv2 j hj⟩
     clear hinv hinv2
     repeat' (first|(refine aSk fun K hK=>?_)|(refine eMo ?_)|(refine eC (fun h=>?_) (fun h=>?_)<;>(try simp at h))|(refine hK _ ?_;clear hK)|(clear hK;refine hK _ ?_;clear hK))
     refine aLK (s0:=?lps3) (m0:=?lpm3) (ι:={k:Nat // k≤ns.length∧∀ j,j<k→(gn ns j).1<(gn ns (j+1)).1}) [1] (fun k=>[(7,I ((k.1:Int)+1))]) (fun _=>[]) (fun k=>ns.length - k.1) ⟨0,by omega,by omega⟩ ?lhs3 ?lhm3 ?_ ?_
     case lhs3=>first|(simp [kpS];done)|(simp [kpS];rfl)
     case lhm3=>first|rfl|(simp;done)|(simp;rfl)
     ·exact dle
     ·rintro ⟨k,hk,hinv⟩
      simp only
      rcases dE (k+1<ns.length) with hil|hil
      ·have hilI:(k:Int)+1<(ns.length:Int):=by omega
       have hk1:k<ns.length:=by omega
       have hk1I:(k:Int)<(ns.length:Int):=by omega
       have hg:=nrG hil
       have hgE:=nrE hil
       have hg2:=nrG hk1
       have hgE2:=nrE hk1
       have hno:¬ (gn ns k).1<(gn ns (k+1)).1→numB (r,ns,ds)=10:=fun h=>numB_10 hR (ascB_no fun h2=>h (h2.1 k hil))
       obtain ⟨⟨a,b⟩,hm⟩:∃ m,m=gn ns (k+1):=⟨_,rfl⟩
       obtain ⟨⟨c,d⟩,hm2⟩:∃ m,m=gn ns k:=⟨_,rfl⟩
       rw [← hm] at hg hgE hno
       rw [← hm2] at hg2 hgE2 hno
       simp only at hg hgE hg2 hgE2 hno
       rcases dE (a≤c) with h1|h1
       ·have e:=hno (by omega)
        have zS:=jj hil<|jj hilI<|jj hk1<|jj hk1I<|jj hg<|jj hgE<|jj hg2<|jj hgE2<|h1
        repeat' (first|(refine aSk fun K hK=>?_)|(refine eM64 ?_)|(refine eC (fun h=>?_) (fun h=>?_)<;>(try simp at h))|(refine hK _ ?_;clear hK)|clear hK)
        all_goals clear zS
        refine ⟨by simp,?_⟩
        simp [lvI,f114,e]
        try exact dt
       ·have zS:=jj hil<|jj hilI<|jj hk1<|jj hk1I<|jj hg<|jj hgE<|jj hg2<|jj hgE2<|h1
        repeat' (first|(refine aSk fun K hK=>?_)|(refine eM64 ?_)|(refine eC (fun h=>?_) (fun h=>?_)<;>(try simp at h))|(refine hK _ ?_;clear hK)|clear hK)
        all_goals clear zS
        refine ⟨k+1,?_,⟨by omega,fun j hj=>?_⟩,by omega⟩
        ·exact dle
        ·rcases Nat.lt_succ_iff_lt_or_eq.1 hj with h3|rfl
         ·exact hinv j h3
         ·rw [← hm,← hm2];simp only;omega
      ·have hordN:∀ j,j+1<ns.length→(gn ns j).1<(gn ns (j+1)).1:=fun j hj=>hinv j (by omega)
       have hilI:¬ (k:Int)+1<(ns.length:Int):=by omega
       have zS:=jj hil<|hilI
       repeat' (first|(refine aSk fun K hK=>?_)|(refine eM64 ?_)|(refine eC (fun h=>?_) (fun h=>?_)<;>(try simp at h))|(refine hK _ ?_;clear hK)|(clear hK;refine hK _ ?_;clear hK))
       all_goals clear zS
       refine aLK (s0:=?lps4) (m0:=?lpm4) (ι:={k:Nat // k≤ds.length∧∀ j,j<k→(gp ds j).1<(gp ds (j+1)).1}) [1] (fun k=>[(8,I ((k.1:Int)+1))]) (fun _=>[]) (fun k=>ds.length - k.1) ⟨0,by omega,by omega⟩ ?lhs4 ?lhm4 ?_ ?_
       case lhs4=>first|(simp [kpS];done)|(simp [kpS];rfl)
       case lhm4=>first|rfl|(simp;done)|(simp;rfl)
       ·exact dle
       ·rintro ⟨k2,hk2,hinv2⟩
        simp only
        rcases dE (k2+1<ds.length) with hilb|hilb
        ·have hilbI:(k2:Int)+1<(ds.length:Int):=by omega
         have hk3:k2<ds.length:=by omega
         have hk3I:(k2:Int)<(ds.length:Int):=by omega
         have hg:=prows_gi hilb
         have hgE:=prows_gE hilb
         have hg2:=prows_gi hk3
         have hgE2:=prows_gE hk3
         have hno:¬ (gp ds k2).1<(gp ds (k2+1)).1→numB (r,ns,ds)=10:=fun h=>numB_10 hR (ascB_no fun h2=>h (h2.2 k2 hilb))
         obtain ⟨⟨a,b⟩,hm⟩:∃ m,m=gp ds (k2+1):=⟨_,rfl⟩
         obtain ⟨⟨c,d⟩,hm2⟩:∃ m,m=gp ds k2:=⟨_,rfl⟩
         rw [← hm] at hg hgE hno
         rw [← hm2] at hg2 hgE2 hno
         simp only at hg hgE hg2 hgE2 hno
         rcases dE (a≤c) with h1|h1
         ·have e:=hno (by omega)
          have zS:=jj hilb<|jj hilbI<|jj hk3<|jj hk3I<|jj hg<|jj hgE<|jj hg2<|jj hgE2<|h1
          repeat' (first|(refine aSk fun K hK=>?_)|(refine eM64 ?_)|(refine eC (fun h=>?_) (fun h=>?_)<;>(try simp at h))|(refine hK _ ?_;clear hK)|clear hK)
          all_goals clear zS
          refine ⟨by simp,?_⟩
          simp [lvI,f114,e]
          try exact dt
         ·have zS:=jj hilb<|jj hilbI<|jj hk3<|jj hk3I<|jj hg<|jj hgE<|jj hg2<|jj hgE2<|h1
          repeat' (first|(refine aSk fun K hK=>?_)|(refine eM64 ?_)|(refine eC (fun h=>?_) (fun h=>?_)<;>(try simp at h))|(refine hK _ ?_;clear hK)|clear hK)
          all_goals clear zS
          refine ⟨k2+1,?_,⟨by omega,fun j hj=>?_⟩,by omega⟩
          ·exact dle
          ·rcases Nat.lt_succ_iff_lt_or_eq.1 hj with h3|rfl
           ·exact hinv2 j h3
           ·rw [← hm,← hm2];simp only;omega
        ·have hilbI:¬ (k2:Int)+1<(ds.length:Int):=by omega
         have hA:ascB (r,ns,ds)=true:=ascB_iff.2 ⟨hordN,fun j hj=>hinv2 j (by have:j+1<ds.length:=hj;omega)⟩
         have hAN:=ascN_of hA
         simp only at hAN
         clear hordN hinv2
         have zS:=jj hilb<|jj hilbI<|hix'
         repeat' (first|(refine aSk fun K hK=>?_)|(refine eM64 ?_)|(refine eC (fun h=>?_) (fun h=>?_)<;>(try simp at h))|(refine hK _ ?_;clear hK)|(clear hK;refine hK _ ?_;clear hK))
         all_goals clear zS
         refine aLK (s0:=?lps5) (m0:=?lpm5) (ι:={i:Nat // i≤ds.length∧∀ j,j<i→¬ twN (r,ns,ds) j}) [1,9,95,96] (fun i=>[(97,I i.1)]) (fun i=>[(400,.map 1 1 (seeE ns ds i.1))]) (fun i=>ds.length - i.1) ⟨0,by omega,by omega⟩ ?lhs5 ?lhm5 ?_ ?_
         case lhs5=>first|(simp [kpS];done)|(simp [kpS];rfl)
         case lhm5=>first|rfl|(simp;done)|(simp;rfl)
         ·simp only [seeE]
          exact dle
         ·rintro ⟨i,hi3,hinv⟩
          simp only
          rcases dE (i<ds.length) with hil3|hil3
          ·have hilI3:(i:Int)<(ds.length:Int):=by omega
           have hg:=prows_gi hil3
           have hgE:=prows_gE hil3
           have htw:=twN_get (t:=(r,ns,ds)) hAN (i:=i) hinv
           simp only at htw
           have hyes:twN (r,ns,ds) i→numB (r,ns,ds)=7:=fun h=>numB_7 hR hA (twB_iff.2 ⟨i,hil3,h⟩)
           have hnx:seeE ns ds (i+1)=mset (seeE ns ds i) [(gp ds i).2] (I (-1)):=rfl
           obtain ⟨S,hS⟩:∃ S,S=seeE ns ds i:=⟨_,rfl⟩
           rw [← hS] at hnx htw
           rw [← hS]
           obtain ⟨⟨a,b⟩,hm⟩:∃ m,m=gp ds i:=⟨_,rfl⟩
           rw [← hm] at hg hgE hnx htw
           simp only at hg hgE hnx htw
           cases hget:mget S [b] with
           | some v =>
            have e:=hyes (htw.2 (by rw [hget];simp))
            have zS:=jj hilI3<|jj hg<|jj hgE<|hget
            repeat' (first|(refine aSk fun K hK=>?_)|(refine eM64 ?_)|(refine eC (fun h=>?_) (fun h=>?_)<;>(try simp at h))|(refine hK _ ?_;clear hK)|clear hK)
            all_goals clear zS
            refine ⟨by simp,?_⟩
            simp [lvI,f114,e]
            try exact dt
           | none =>
            have hno:¬ twN (r,ns,ds) i:=fun h=>htw.1 h hget
            have zS:=jj hilI3<|jj hg<|jj hgE<|hget
            repeat' (first|(refine aSk fun K hK=>?_)|(refine eM64 ?_)|(refine eC (fun h=>?_) (fun h=>?_)<;>(try simp at h))|(refine hK _ ?_;clear hK)|clear hK)
            all_goals clear zS
            refine ⟨i+1,?_,⟨by omega,fun j hj=>?_⟩,by omega⟩
            ·simp only [hnx]
             refine le_turn (s1:=?tus6) (m1:=?tum6) [] [1,9,95,96,97] [0,400] ?tua6 ?tub6 ?tuc6 ?tud6 ?tue6 ?tuf6 ?tug6
             case tua6=>first|(simp [kpS];done)|(simp [kpS];rfl)
             case tub6=>first|(simp;done)|(simp;rfl)
             case tuc6=>simp
             case tud6=>simp
             case tue6=>simp
             case tuf6=>simp
             case tug6 =>
              simp [swp,vr]
              exact dle
            ·rcases Nat.lt_succ_iff_lt_or_eq.1 hj with h3|rfl
             ·exact hinv j h3
             ·exact hno
          ·obtain rfl:i=ds.length:=by omega
           have hT:twB (r,ns,ds)=false:=twB_no fun j hj=>hinv j hj
           rcases see_root (t:=(r,ns,ds)) hAN hT with ⟨k,h1,h2⟩|⟨h1,h2|h2⟩
           ·simp only at h1 h2
            have e:numB (r,ns,ds)=0:=numB_0 hR hA hT (by simp only;rw [h1];simp)
            have hk0:¬ (k:Int)<0:=by omega
            have zS:=jj h2<|hk0
            repeat' (first|(refine aSk fun K hK=>?_)|(refine eM64 ?_)|(refine eC (fun h=>?_) (fun h=>?_)<;>(try simp at h))|(refine hK _ ?_;clear hK)|clear hK)
            all_goals clear zS
            refine ⟨by simp,?_⟩
            simp [lvI,f114,e]
            try exact dt
           ·simp only at h1 h2
            have e:numB (r,ns,ds)=6:=numB_6 hR hA hT h1
            have zS:=h2
            repeat' (first|(refine aSk fun K hK=>?_)|(refine eM64 ?_)|(refine eC (fun h=>?_) (fun h=>?_)<;>(try simp at h))|(refine hK _ ?_;clear hK)|clear hK)
            all_goals clear zS
            refine ⟨by simp,?_⟩
            simp [lvI,f114,e]
            try exact dt
           ·simp only at h1 h2
            have e:numB (r,ns,ds)=6:=numB_6 hR hA hT h1
            have zS:=h2
            repeat' (first|(refine aSk fun K hK=>?_)|(refine eM64 ?_)|(refine eC (fun h=>?_) (fun h=>?_)<;>(try simp at h))|(refine hK _ ?_;clear hK)|clear hK)
            all_goals clear zS
            refine ⟨by simp,?_⟩
            simp [lvI,f114,e]
            try exact dt
@[simp] theorem tyFn:Types prog 134=some ⟨.func,1,8,[.nilFunc]⟩:=by kernel_rfl
@[simp] theorem one_nilFunc:(Value.nilFunc).oneCell'=true:=rfl
def okWb (l w:Nat):Bool:=decide ((decR w).2=0)&&suitB (decR w).1 l
def tabW (w:Nat):Option Int:=if (decR w).1.1=4 then some (decR w).1.2.1 else none
def hugW (w:Nat):Bool:=decide ((decR w).1.1=1)&&(decR w).1.2.2.2.2.2
def WD (adm:Int→Bool):Wd:=⟨okWb,tabW,hugW,adm⟩
abbrev WA:Wd:=WD fun _=>true
theorem WD_ok (adm:Int→Bool):WdOK (WD adm) where
 flat:=fun w h=>by
  simp only [WD,okWb,Bool.and_eq_true] at h
  simp only [WD,tabW]
  rw [if_neg]
  intro e
  have:=h.2
  simp [suitB,e] at this
 one:=fun l w h h2=>by
  simp only [WD,okWb,Bool.and_eq_true] at h
  simp only [WD,hugW,Bool.and_eq_true,decide_eq_true_eq] at h2
  have:=h.2
  simp only [suitB,h2.1,h2.2] at this
  simp at this
  omega
 notab:=fun w h=>by
  simp only [WD,hugW,Bool.and_eq_true,decide_eq_true_eq] at h
  simp only [WD,tabW]
  rw [if_neg (by rw [h.1];decide)]
section
variable {D:Wd} {ns:NdL} {rc:Nat→Nat→WSt→Bool×WSt} {l n first k i:Nat} {st:WSt}
theorem wkF_bad (h:D.ok l (wd ns n i)=false):wkF D ns rc l n first (k+1) i st=(false,st):=by simp [wkF,h]
theorem wkF_adm (h:D.ok l (wd ns n i)=true) (h2:D.hug (wd ns n i)=true) (h3:D.adm (((first+i*8^l)/8:Nat):Int)=false):wkF D ns rc l n first (k+1) i st=(false,st):=by simp only [wkF,h];rw [if_neg (by simp),if_pos ⟨h2,h3⟩]
theorem wkF_hug (h:D.ok l (wd ns n i)=true) (h2:D.hug (wd ns n i)=true) (h3:D.adm (((first+i*8^l)/8:Nat):Int)=true) (h4:D.tab (wd ns n i)=none):wkF D ns rc l n first (k+1) i st=wkF D ns rc l n first k (i+1) (st.1,st.2++[(((first+i*8^l)/8:Nat):Int)]):=by
 simp only [wkF,h]
 rw [if_neg (by simp),if_neg (by rw [h3];simp),h4,if_pos h2]
theorem wkF_pl (h:D.ok l (wd ns n i)=true) (h2:D.hug (wd ns n i)=false) (h4:D.tab (wd ns n i)=none):wkF D ns rc l n first (k+1) i st=wkF D ns rc l n first k (i+1) st:=by
 simp only [wkF,h]
 rw [if_neg (by simp),if_neg (by rw [h2];simp),h4,if_neg (by rw [h2];simp)]
theorem wkF_lost {g:Int} (h:D.ok l (wd ns n i)=true) (h2:D.hug (wd ns n i)=false) (h4:D.tab (wd ns n i)=some g) (h5:fnd ns g=none):wkF D ns rc l n first (k+1) i st=(false,st):=by
 simp only [wkF,h]
 rw [if_neg (by simp),if_neg (by rw [h2];simp),h4,if_neg (by rw [h2];simp)]
 simp only [h5]
theorem wkF_rec {g:Int} {nx:Nat} (h:D.ok l (wd ns n i)=true) (h2:D.hug (wd ns n i)=false) (h4:D.tab (wd ns n i)=some g) (h5:fnd ns g=some nx):wkF D ns rc l n first (k+1) i st=if (rc nx (first+i*8^l) st).1=true then wkF D ns rc l n first k (i+1) (rc nx (first+i*8^l) st).2 else (false,(rc nx (first+i*8^l) st).2):=by
 simp only [wkF,h]
 rw [if_neg (by simp),if_neg (by rw [h2];simp),h4,if_neg (by rw [h2];simp)]
 simp only [h5]
def Adds (rc:Nat→Nat→WSt→Bool×WSt) (b:Nat):Prop:=∀ n f st,(rc n f st).2.1.length=st.1.length∧st.2.length≤(rc n f st).2.2.length∧(rc n f st).2.2.length≤st.2.length+b
theorem wkF_adds {b:Nat} (hrc:Adds rc b):∀ (k i:Nat) (st:WSt),(wkF D ns rc l n first k i st).2.1.length=st.1.length∧st.2.length≤(wkF D ns rc l n first k i st).2.2.length∧(wkF D ns rc l n first k i st).2.2.length≤st.2.length+k*(1+b)
 | 0,i,st=>by simp [wkF]
 | k+1,i,st=>by
  have hm:(k+1)*(1+b)=k*(1+b)+(1+b):=by rw [Nat.add_mul];omega
  rw [hm]
  cases h:D.ok l (wd ns n i) with
  | false=>rw [wkF_bad h];exact ⟨rfl,Nat.le_refl _,by simp only;omega⟩
  | true =>
   cases h2:D.hug (wd ns n i) with
   | true =>
    cases h3:D.adm (((first+i*8^l)/8:Nat):Int) with
    | false=>rw [wkF_adm h h2 h3];exact ⟨rfl,Nat.le_refl _,by simp only;omega⟩
    | true =>
     simp only [wkF,h,h2,h3]
     simp only [Bool.true_eq_false,if_false,and_false,if_true]
     cases h4:D.tab (wd ns n i) with
     | none =>
      simp only
      have:=wkF_adds hrc k (i+1) (st.1,st.2++[(((first+i*8^l)/8:Nat):Int)])
      simp only [List.length_append,List.length_singleton] at this
      refine ⟨this.1,by omega,by omega⟩
     | some g =>
      simp only
      cases h5:fnd ns g with
      | none=>simp;omega
      | some nx =>
       simp only
       obtain ⟨R,hR⟩:∃ R,R=rc nx (first+i*8^l) (st.1,st.2++[(((first+i*8^l)/8:Nat):Int)]):=⟨_,rfl⟩
       have h6:=hrc nx (first+i*8^l) (st.1,st.2++[(((first+i*8^l)/8:Nat):Int)])
       rw [← hR] at h6 ⊢
       simp only [List.length_append,List.length_singleton] at h6
       split
       ·have:=wkF_adds hrc k (i+1) R.2
        refine ⟨by omega,by omega,by omega⟩
       ·simp only
        refine ⟨by omega,by omega,by omega⟩
   | false =>
    cases h4:D.tab (wd ns n i) with
    | none =>
     rw [wkF_pl h h2 h4]
     have:=wkF_adds hrc k (i+1) st
     refine ⟨this.1,by omega,by omega⟩
    | some g =>
     cases h5:fnd ns g with
     | none=>rw [wkF_lost h h2 h4 h5];exact ⟨rfl,Nat.le_refl _,by simp only;omega⟩
     | some nx =>
      rw [wkF_rec h h2 h4 h5]
      obtain ⟨R,hR⟩:∃ R,R=rc nx (first+i*8^l) st:=⟨_,rfl⟩
      have h6:=hrc nx (first+i*8^l) st
      rw [← hR] at h6 ⊢
      split
      ·have:=wkF_adds hrc k (i+1) R.2
       refine ⟨by omega,by omega,by omega⟩
      ·simp only
       refine ⟨by omega,by omega,by omega⟩
end
def addsB:Nat→Nat
 | 0=>8
 | l+1=>8*(1+addsB l)
theorem wk_adds {D:Wd} {ns:NdL}:∀ {l:Nat},Adds (wk D ns l) (addsB l)
 | 0=>fun n f st=>by
  simp only [wk]
  split
  ·exact ⟨rfl,Nat.le_refl _,by simp only;omega⟩
  ·have:=wkF_adds (D:=D) (ns:=ns) (l:=0) (n:=n) (first:=f) (rc:=fun _ _ st=>(false,st)) (b:=0) (fun _ _ st=>by simp) 8 0 (st.1.set n true,st.2)
   simp only [List.length_set] at this
   simp only [addsB]
   exact this
 | l+1=>fun n f st=>by
  simp only [wk]
  split
  ·exact ⟨rfl,Nat.le_refl _,by simp only;omega⟩
  ·have:=wkF_adds (D:=D) (ns:=ns) (l:=l+1) (n:=n) (first:=f) (wk_adds (D:=D) (ns:=ns) (l:=l)) 8 0 (st.1.set n true,st.2)
   simp only [List.length_set] at this
   simp only [addsB]
   exact this
def brows (l:List Bool):List (List AV):=l.map fun b=>[B b]
@[simp] theorem brows_length (l:List Bool):(brows l).length=l.length:=by simp [brows]
theorem brows_gi {l:List Bool} {n:Nat} (h:n<l.length):(brows l)[n]?=some [B (l.getD n false)]:=by
 simp [brows,h,List.getD_eq_getElem?_getD]
theorem brows_gE {l:List Bool} {n:Nat} (h:n<l.length):∀ h',(brows l)[n]'(h')=[B (l.getD n false)]:=fun h'=>by
 have hg:=brows_gi h
 rw [List.getElem?_eq_getElem h'] at hg
 exact Option.some.inj hg
theorem brows_set {l:List Bool} {n:Nat} {b:Bool}:(brows l).set n [B b]=brows (l.set n b):=by simp [brows,List.map_set]
theorem brows_inj {a b:List Bool}:brows a=brows b↔a=b:=by
 constructor
 ·intro h
  refine List.map_inj_right (f:=fun b:Bool=>[B b]) (fun x y e=>?_) |>.1 h
  simpa [B] using e
 ·rintro rfl;rfl
abbrev CkD:=Tb×Nat×Nat×List Bool×List Int
def ckA (l:Nat) (x:CkD):List AV:=[I x.2.1,I l,I x.2.2.1,.bp 0 0,.bp 2 0,.bp 3 0,.bp 5 0,.bp 7 0]
def ckM (t:Tb) (led:List Bool) (hs:List Int) (v:Nat):List AO:=[.box [.sl 1 1 1 0 led.length],.vec 1 1 false (brows led),.box [I t.1,.rd 9 (nrw t.2.1),.rd 2 (prw t.2.2)],.box [.sl 4 v 1 0 hs.length],.vec v 1 false (irw hs),.box [.mp 6 1],.map 1 1 (idxE t.2.1 t.2.1.length),.box [.fn 116 [.bp 0 0,.bp 2 0,.bp 3 0,.bp 5 0,.bp 7 0]]]
def ckR (l:Nat) (x:CkD):Bool×WSt:=wk WA x.1.2.1 l x.2.1 x.2.2.1 (x.2.2.2.1,x.2.2.2.2)
def ckF:Nat→Nat
 | 2=>100|1=>600|_=>700
def ckH:Nat→Nat
 | 2=>100|1=>1000|_=>2000
def ckOK (l:Nat) (x:CkD):Prop:=tbOK x.1∧ascN x.1.2.1∧x.2.1<x.1.2.1.length∧x.2.2.1≤ckF l∧x.2.2.2.1.length=x.1.2.1.length∧x.2.2.2.2.length≤ckH l
noncomputable def ckS (l:Nat):List AV→List AO→Option (AV×List AO):=specG (ι:={x:CkD // ckOK l x}) (fun x=>ckA l x.1) (fun x=>ckM x.1.1 x.1.2.2.2.1 x.1.2.2.2.2 1) (fun x=>rtO [B (ckR l x.1).1]) fun x=>ckM x.1.1 (ckR l x.1).2.1 (ckR l x.1).2.2 (1+((ckR l x.1).2.2.length - x.1.2.2.2.2.length))
theorem ckS_at {l:Nat} {x:CkD} (h:ckOK l x):ckS l (ckA l x) (ckM x.1 x.2.2.2.1 x.2.2.2.2 1)=some (B (ckR l x).1,ckM x.1 (ckR l x).2.1 (ckR l x).2.2 (1+((ckR l x).2.2.length - x.2.2.2.2.length))):=by
 refine sGe (ι:={x:CkD // ckOK l x}) (A:=fun x=>ckA l x.1) (M:=fun x=>ckM x.1.1 x.1.2.2.2.1 x.1.2.2.2.2 1) (R:=fun x=>rtO [B (ckR l x.1).1]) ⟨x,h⟩ fun j hA hM=>?_
 obtain ⟨⟨⟨r,ns,ds⟩,n,f,led,hs⟩,hj⟩:=j
 obtain ⟨⟨r',ns',ds'⟩,n',f',led',hs'⟩:=x
 simp only [ckA,ckM,I,cJ,AV.v.injEq,Value.int.injEq,true_and,and_true,AO.box.injEq,AO.vec.injEq,AV.rd.injEq,brows_inj,irI,nrows_inj,prows_inj,AO.map.injEq] at hA hM
 obtain ⟨e1,e2⟩:=hA
 have e1:n=n':=by omega
 have e2:f=f':=by omega
 subst e1 e2
 obtain ⟨_,rfl,⟨rfl,rfl,rfl⟩,_,rfl,_⟩:=hM
 exact ⟨rfl,rfl⟩
end Go.AM
namespace Go.AM
open Go Go.Proofs Tryz
set_option maxHeartbeats 2000000 in
set_option maxRecDepth 4000 in
theorem callCk {l:Nat} {t:Tb} {n f:Nat} {led:List Bool} {hs:List Int} (h:ckOK l (t,n,f,led,hs)) {v:Nat} (hv:1≤v) {fl1 fl2:Bool} (M:Nat→AO) (nid:Nat)
  (h0:M 0=.box [.sl 1 1 1 0 led.length]) (h1:M 1=.vec 1 1 fl1 (brows led)) (h2:M 2=.box [I t.1,.rd 9 (nrw t.2.1),.rd 2 (prw t.2.2)]) (h3:M 3=.box [.sl 4 v 1 0 hs.length]) (h4:M 4=.vec v 1 fl2 (irw hs)) (h5:M 5=.box [.mp 6 1]) (h6:M 6=.map 1 1 (idxE t.2.1 t.2.1.length)) (h7:M 7=.box [.fn 116 [.bp 0 0,.bp 2 0,.bp 3 0,.bp 5 0,.bp 7 0]]) :
  caG (ckS l) [I n,I l,I f,.bp 0 0,.bp 2 0,.bp 3 0,.bp 5 0,.bp 7 0] M nid=some (B (ckR l (t,n,f,led,hs)).1,[(0,.box [.sl 1 1 1 0 (ckR l (t,n,f,led,hs)).2.1.length]),(1,.vec 1 1 false (brows (ckR l (t,n,f,led,hs)).2.1)),(2,.box [I t.1,.rd 9 (nrw t.2.1),.rd 2 (prw t.2.2)]),(3,.box [.sl 4 (v+((ckR l (t,n,f,led,hs)).2.2.length - hs.length)) 1 0 (ckR l (t,n,f,led,hs)).2.2.length]),(4,.vec (v+((ckR l (t,n,f,led,hs)).2.2.length - hs.length)) 1 false (irw (ckR l (t,n,f,led,hs)).2.2)),(5,.box [.mp 6 1]),(6,.map 1 1 (idxE t.2.1 t.2.1.length)),(7,.box [.fn 116 [.bp 0 0,.bp 2 0,.bp 3 0,.bp 5 0,.bp 7 0]])]):=by
 have hF:=ckS_at h
 simp only [ckA,ckM] at hF
 obtain ⟨R,hR⟩:∃ R,R=ckR l (t,n,f,led,hs):=⟨_,rfl⟩
 rw [← hR] at hF ⊢
 have hvv:1+(R.2.2.length - hs.length)+(v - 1)=v+(R.2.2.length - hs.length):=by omega
 have hv0:¬ v=0:=by omega
 unfold caG
 have hg:gat M 64 (nmsL [I n,I l,I f,.bp 0 0,.bp 2 0,.bp 3 0,.bp 5 0,.bp 7 0]) []=[0,1,2,3,4,5,6,7]:=by
  simp [gat,nmsL,AV.nms,AO.nms,h0,h1,h2,h3,h4,h5,h6,h7]
 simp only [hg]
 rw [if_pos ?cg]
 case cg=>simp [CallG,nmsL,AV.nms,AO.nms,Led,curBL,AV.curB,AO.curB,verOf,nDd,h0,h1,h2,h3,h4,h5,h6,h7]
 simp [renL,AV.ren,AO.ren,posN,canO,nmsL,h0,h1,h2,h3,h4,h5,h6,h7,hF,RetG,getL,AV.nms,AO.nms,updN,nmN,shN,verOf,hvv,rng,Led]
theorem wd_lt {t:Tb} (ht:tbOK t) {n i:Nat} (hn:n<t.2.1.length):wd t.2.1 n i<2^64:=by
 unfold wd
 have h:=(ht.1 _ (gn_mem hn)).2
 rw [gn_getD] at h
 rw [List.getD_eq_getElem?_getD]
 cases hg:(t.2.1.getD n (0,[])).2[i]? with
 | none=>simp
 | some w=>simp only [Option.getD_some];exact h w (List.mem_of_getElem? hg)
theorem wcs_gi {l:List Nat} {i:Nat} (h:i<l.length):(wcs l)[i]?=some (U (l.getD i 0:Nat)):=by
 simp [wcs,h,List.getD_eq_getElem?_getD]
theorem wcs_gE {l:List Nat} {i:Nat} (h:i<l.length):∀ h',(wcs l)[i]'(h')=U (l.getD i 0:Nat):=fun h'=>by
 have hg:=wcs_gi h
 rw [List.getElem?_eq_getElem h'] at hg
 exact Option.some.inj hg
set_option maxHeartbeats 8000000 in
theorem s116_0 (X:AX) (hX:XOK prog X) (hw:X.W wT) (hd:∀ n:Nat,n<2^64→∀ M k,X.call 56 [U n] M k=some (.tup [EnV (decR n).1,I (decR n).2],[]))
  (hsu:∀ (e:En) (l:Nat) M n,X.call 117 [EnV e,I l] M n=some (B (suitB e l),[])):GSd prog 116 (ckS 0):=by
 unfold ckS
 refine gsS func116 rfl X fun ⟨⟨⟨r,ns,ds⟩,n,first,led,hs⟩,hx⟩ w0 L E=>⟨by show 8≤96;decide,?_⟩
 obtain ⟨ht,ha,hn,hf,hled,hhs⟩:=hx
 simp only [ckF,ckH] at ht ha hn hf hled hhs
 show AW ⟨prog,X,96,w0,⟨L,E,8⟩⟩ _ _ _
 have hc:Cx.OK ⟨prog,X,96,w0,⟨L,E,8⟩⟩:=⟨hX,mixed⟩
 have hl1:ns.length≤1000000:=ht.2.1
 obtain ⟨R,hR⟩:∃ R,R=ckR 0 ((r,ns,ds),n,first,led,hs):=⟨_,rfl⟩
 simp only [← hR,ckM,ckA]
 have hnl:n<led.length:=by omega
 have hnI:(n:Int)<(led.length:Int):=by omega
 have hnN:(n:Int)<(ns.length:Int):=by omega
 have hg0:=brows_gi hnl
 have hgE0:=brows_gE hnl
 unfold ckR at hR
 simp only at hR
 rw [wk] at hR
 cases hb:led.getD n false with
 | true =>
  rw [hb] at hR hg0 hgE0
  simp only [if_true] at hR
  subst hR
  simp only
  have zS:=jj hnl<|jj hnI<|jj hg0<|hgE0
  refine dM64 ?_
  repeat (intro K hK)
  clear zS
  refine ⟨by simp,_,by simp [aRs,aRt,f116];rfl,?_⟩
  simp only [Nat.sub_self,Nat.add_zero,idx]
  exact dle
 | false =>
  rw [hb] at hR hg0 hgE0
  simp only [Bool.false_eq_true,if_false] at hR
  have hset:=@brows_set led n true
  obtain ⟨led1,hl1⟩:∃ l,l=led.set n true:=⟨_,rfl⟩
  have hled1:led1.length=led.length:=by rw [hl1];simp
  rw [← hl1] at hR hset
  have zS:=jj hnl<|jj hnI<|jj hg0<|jj hgE0<|hset
  repeat' (first|(refine aSk fun K hK=>?_)|(refine eM64 ?_)|(refine eC (fun h=>?_) (fun h=>?_)<;>(try simp at h))|(refine hK _ ?_;clear hK)|(clear hK;refine hK _ ?_;clear hK))
  all_goals clear zS
  refine aRs_ 1 (aRd ?_)
  repeat' (first|(refine aSk fun K hK=>?_)|(refine eMo ?_)|(refine eC (fun h=>?_) (fun h=>?_)<;>(try simp at h))|(refine hK _ ?_;clear hK)|(clear hK;refine hK _ ?_;clear hK))
  obtain ⟨h0,hh0⟩:∃ h0,h0=hs.length:=⟨_,rfl⟩
  obtain ⟨ln,hln⟩:∃ ln,ln=led.length:=⟨_,rfl⟩
  have hRl:R.2.1.length=ln:=by rw [hR,(wkF_adds (b:=0) (fun _ _ _=>by simp) 8 0 (led1,hs)).1,hln];exact hled1
  rw [hRl,← hln]
  rw [← hh0]
  refine aLK (s0:=?lps1) (m0:=?lpm1) (ι:={s:Nat×List Bool×List Int // s.1≤8∧s.2.1.length=ln∧h0≤s.2.2.length∧s.2.2.length≤h0+1*s.1∧wkF WA ns (fun _ _ st=>(false,st)) 0 n first (8 - s.1) s.1 (s.2.1,s.2.2)=R}) [0,1,2,4,5,6,7,12] (fun s=>[(31,I s.1.1)]) (fun s=>[(1,.vec 1 1 false (brows s.1.2.1)),(3,.box [.sl 4 (1+(s.1.2.2.length - h0)) 1 0 s.1.2.2.length]),(4,.vec (1+(s.1.2.2.length - h0)) 1 false (irw s.1.2.2))]) (fun s=>8 - s.1.1) ⟨(0,led1,hs),by simp,by simp only;omega,by simp only;omega,by simp only;omega,hR.symm⟩ ?lhs1 ?lhm1 ?_ ?_
  case lhs1=>first|(simp [kpS];done)|(simp [kpS];rfl)
  case lhm1=>first|rfl|(simp;done)|(simp;rfl)
  ·simp only [← hh0,Nat.sub_self,Nat.add_zero]
   exact dle
  ·clear hR hset hg0 hgE0 hb hnl hnI
   clear hl1
   rintro ⟨⟨i,led2,hs2⟩,hi,hl2,hh2,hb2,hst⟩
   simp only at hi hl2 hh2 hb2 hst ⊢
   obtain ⟨v,hv⟩:∃ v,v=1+(hs2.length - h0):=⟨_,rfl⟩
   rw [← hv]
   have hv1:1≤v:=by omega
   rcases dE (i<8) with hi8|hi8
   ·have hiI:(i:Int)<8:=by omega
    have hgn:=nrG hn
    have hgnE:=nrE hn
    have h8:(gn ns n).2.length=8:=(ht.1 _ (gn_mem hn)).1
    have hw8:=wcs_gi (l:=(gn ns n).2) (i:=i) (by omega)
    have hwE:=wcs_gE (l:=(gn ns n).2) (i:=i) (by omega)
    have hw64:=wd_lt ht (n:=n) (i:=i) hn
    obtain ⟨k8,hk8⟩:∃ k,8 - i=k+1:=⟨7 - i,by omega⟩
    have hk7:8 - (i+1)=k8:=by omega
    rw [hk8] at hst
    obtain ⟨w,hwd⟩:∃ w,w=wd ns n i:=⟨_,rfl⟩
    have hwg:(gn ns n).2.getD i 0=w:=hwd.symm
    rw [hwg] at hw8 hwE
    simp only at hw64
    rw [← hwd] at hw64
    have hwl:(wcs (gn ns n).2).length=8:=by simp [h8]
    obtain ⟨⟨fr,ws⟩,hm⟩:∃ m,m=gn ns n:=⟨_,rfl⟩
    rw [← hm] at hgn hgnE hw8 hwE hwl
    simp only at hgn hgnE hw8 hwE hwl
    obtain ⟨cs,hcs⟩:∃ cs,cs=wcs ws:=⟨_,rfl⟩
    rw [← hcs] at hgn hgnE hw8 hwE hwl
    clear hcs hm h8 hwg
    have hd':=hd w hw64
    have bad:=@wkF_bad WA ns (fun _ _ st=>(false,st)) 0 n first k8 i (led2,hs2)
    have pl:=@wkF_pl WA ns (fun _ _ st=>(false,st)) 0 n first k8 i (led2,hs2)
    have hug:=@wkF_hug WA ns (fun _ _ st=>(false,st)) 0 n first k8 i (led2,hs2)
    have lost:=fun g=>@wkF_lost WA ns (fun _ _ st=>(false,st)) 0 n first k8 i (led2,hs2) g
    have rcr:=fun g nx=>@wkF_rec WA ns (fun _ _ st=>(false,st)) 0 n first k8 i (led2,hs2) g nx
    have hone:=(WD_ok fun _=>true).one 0 w
    have hflat:=(WD_ok fun _=>true).flat w
    rw [← hwd] at bad pl hug lost rcr
    rw [hst] at bad pl hug lost rcr
    have hsu':=fun e=>hsu e 0
    obtain ⟨⟨⟨k,f,d,a,x,h⟩,e⟩,hE⟩:∃ r,r=decR w:=⟨_,rfl⟩
    have hok:WA.ok 0 w=(decide (e=0)&&suitB (k,f,d,a,x,h) 0):=by show okWb 0 w=_;unfold okWb;rw [← hE]
    have hhg:WA.hug w=(decide (k=1)&&h):=by show hugW w=_;unfold hugW;rw [← hE]
    have htb:WA.tab w=if k=4 then some f else none:=by show tabW w=_;unfold tabW;rw [← hE]
    rw [← hE] at hd'
    clear hE
    simp only [EnV,U] at hd' hw8 hwE
    have hsu2:∀ M n,X.call 117 [.agg [I k,I f,B d,B a,B x,B h],I 0] M n=some (B (suitB (k,f,d,a,x,h) 0),[]):=hsu' (k,f,d,a,x,h)
    rcases dE (e=0) with he|he
    ·subst he
     cases hsb:suitB (k,f,d,a,x,h) 0 with
     | false =>
      rw [hsb] at hsu2
      have hfin:=bad (by rw [hok,hsb];rfl)
      subst hfin
      simp only
      clear pl hug lost rcr hone hflat
      have zS:=jj hiI<|jj hi8<|jj hgn<|jj hgnE<|jj hw8<|jj hwE<|jj hwl<|jj hd'<|jj hsu2<|jj hn<|hnN
      repeat' (first|(refine aSk fun K hK=>?_)|(refine eM64 ?_)|(refine eC (fun h=>?_) (fun h=>?_)<;>(try simp at h))|(refine hK _ ?_;clear hK)|clear hK)
      all_goals clear zS
      refine ⟨by simp,_,by simp [aRs,aRt,f116];rfl,?_⟩
      simp only [← hv,idx]
      exact dle
     | true =>
      rw [hsb] at hsu2
      have hok1:WA.ok 0 w=true:=by rw [hok,hsb];rfl
      rcases dE (k=1∧h=true) with hk|hk
      ·obtain ⟨rfl,rfl⟩:=hk
       exact absurd (hone hok1 (by rw [hhg];rfl)) (by decide)
      ·have hhf:(decide (k=1)&&h)=false:=by
        rw [Bool.eq_false_iff];intro hh;simp only [Bool.and_eq_true,decide_eq_true_eq] at hh;exact hk hh
       rw [hhf] at hhg
       rcases dE (k=4) with hk4|hk4
       ·subst hk4
        have:=hflat hok1
        rw [htb] at this
        simp at this
       ·have hfin:=pl hok1 hhg (by rw [htb,if_neg hk4])
        clear bad hug lost rcr hone hflat
        rcases dE (k=1) with hk1|hk1
        ·subst hk1
         have hh0:h=false:=by cases h with|false=>rfl|true=>exact absurd ⟨rfl,rfl⟩ hk
         subst hh0
         have zS:=jj hiI<|jj hi8<|jj hgn<|jj hgnE<|jj hw8<|jj hwE<|jj hwl<|jj hd'<|jj hsu2<|jj hn<|hnN
         repeat' (first|(refine aSk fun K hK=>?_)|(refine eM64 ?_)|(refine eC (fun h=>?_) (fun h=>?_)<;>(try simp at h))|(refine hK _ ?_;clear hK)|clear hK)
         all_goals clear zS
         refine ⟨i+1,led2,hs2,?_,⟨by omega,hl2,by omega,by omega,by rw [hk7];exact hfin.symm⟩,by omega⟩
         simp only [← hv]
         exact dle
        ·have zS:=jj hiI<|jj hi8<|jj hgn<|jj hgnE<|jj hw8<|jj hwE<|jj hwl<|jj hd'<|jj hsu2<|jj hn<|jj hnN<|jj hk1<|hk4
         repeat' (first|(refine aSk fun K hK=>?_)|(refine eM64 ?_)|(refine eC (fun h=>?_) (fun h=>?_)<;>(try simp at h))|(refine hK _ ?_;clear hK)|clear hK)
         all_goals clear zS
         refine ⟨i+1,led2,hs2,?_,⟨by omega,hl2,by omega,by omega,by rw [hk7];exact hfin.symm⟩,by omega⟩
         simp only [← hv]
         exact dle
    ·have hfin:=bad (by rw [hok];simp [he])
     subst hfin
     simp only
     clear pl hug lost rcr hone hflat
     have zS:=jj hiI<|jj hi8<|jj hgn<|jj hgnE<|jj hw8<|jj hwE<|jj hwl<|jj hd'<|jj he<|jj hn<|hnN
     repeat' (first|(refine aSk fun K hK=>?_)|(refine eM64 ?_)|(refine eC (fun h=>?_) (fun h=>?_)<;>(try simp at h))|(refine hK _ ?_;clear hK)|clear hK)
     all_goals clear zS
     refine ⟨by simp,_,by simp [aRs,aRt,f116];rfl,?_⟩
     simp only [← hv,idx]
     exact dle
   ·obtain rfl:i=8:=by omega
    simp only [Nat.sub_self,wkF] at hst
    subst hst
    simp only
    repeat' (first|(refine aSk fun K hK=>?_)|(refine eMo ?_)|(refine eC (fun h=>?_) (fun h=>?_)<;>(try simp at h))|(refine hK _ ?_;clear hK)|clear hK)
    refine ⟨by simp,_,by simp [aRs,aRt,f116];rfl,?_⟩
    simp only [← hv,idx]
    exact dle
set_option maxHeartbeats 8000000 in
theorem s116_1 (X:AX) (hX:XOK prog X) (hw:X.W wT) (hd:∀ n:Nat,n<2^64→∀ M k,X.call 56 [U n] M k=some (.tup [EnV (decR n).1,I (decR n).2],[]))
  (hsu:∀ (e:En) (l:Nat) M n,X.call 117 [EnV e,I l] M n=some (B (suitB e l),[])) (hrec:X.call 116=caG (ckS 0)):GSd prog 116 (ckS 1):=by
 unfold ckS
 refine gsS func116 rfl X fun ⟨⟨⟨r,ns,ds⟩,n,first,led,hs⟩,hx⟩ w0 L E=>⟨by show 8≤96;decide,?_⟩
 obtain ⟨ht,ha,hn,hf,hled,hhs⟩:=hx
 simp only [ckF,ckH] at ht ha hn hf hled hhs
 show AW ⟨prog,X,96,w0,⟨L,E,8⟩⟩ _ _ _
 have hc:Cx.OK ⟨prog,X,96,w0,⟨L,E,8⟩⟩:=⟨hX,mixed⟩
 have hl1:ns.length≤1000000:=ht.2.1
 obtain ⟨R,hR⟩:∃ R,R=ckR 1 ((r,ns,ds),n,first,led,hs):=⟨_,rfl⟩
 simp only [← hR,ckM,ckA]
 have hnl:n<led.length:=by omega
 have hnI:(n:Int)<(led.length:Int):=by omega
 have hnN:(n:Int)<(ns.length:Int):=by omega
 have hg0:=brows_gi hnl
 have hgE0:=brows_gE hnl
 unfold ckR at hR
 simp only at hR
 rw [wk] at hR
 cases hb:led.getD n false with
 | true =>
  rw [hb] at hR hg0 hgE0
  simp only [if_true] at hR
  subst hR
  simp only
  have zS:=jj hnl<|jj hnI<|jj hg0<|hgE0
  refine dM64 ?_
  repeat (intro K hK)
  clear zS
  refine ⟨by simp,_,by simp [aRs,aRt,f116];rfl,?_⟩
  simp only [Nat.sub_self,Nat.add_zero,idx]
  exact dle
 | false =>
  rw [hb] at hR hg0 hgE0
  simp only [Bool.false_eq_true,if_false] at hR
  have hset:=@brows_set led n true
  obtain ⟨led1,hl1⟩:∃ l,l=led.set n true:=⟨_,rfl⟩
  have hled1:led1.length=led.length:=by rw [hl1];simp
  rw [← hl1] at hR hset
  have zS:=jj hnl<|jj hnI<|jj hg0<|jj hgE0<|hset
  repeat' (first|(refine aSk fun K hK=>?_)|(refine eM64 ?_)|(refine eC (fun h=>?_) (fun h=>?_)<;>(try simp at h))|(refine hK _ ?_;clear hK)|(clear hK;refine hK _ ?_;clear hK))
  all_goals clear zS
  refine aRs_ 2 (aRd ?_)
  repeat' (first|(refine aSk fun K hK=>?_)|(refine eMo ?_)|(refine eC (fun h=>?_) (fun h=>?_)<;>(try simp at h))|(refine hK _ ?_;clear hK)|(clear hK;refine hK _ ?_;clear hK))
  obtain ⟨h0,hh0⟩:∃ h0,h0=hs.length:=⟨_,rfl⟩
  obtain ⟨ln,hln⟩:∃ ln,ln=led.length:=⟨_,rfl⟩
  have hRl:R.2.1.length=ln:=by rw [hR,(wkF_adds (b:=8) (wk_adds (l:=0)) 8 0 (led1,hs)).1,hln];exact hled1
  rw [hRl,← hln]
  rw [← hh0]
  refine aLK (s0:=?lps1) (m0:=?lpm1) (ι:={s:Nat×List Bool×List Int // s.1≤8∧s.2.1.length=ln∧h0≤s.2.2.length∧s.2.2.length≤h0+9*s.1∧wkF WA ns (wk WA ns 0) 1 n first (8 - s.1) s.1 (s.2.1,s.2.2)=R}) [0,1,2,4,5,6,7,12] (fun s=>[(31,I s.1.1)]) (fun s=>[(1,.vec 1 1 false (brows s.1.2.1)),(3,.box [.sl 4 (1+(s.1.2.2.length - h0)) 1 0 s.1.2.2.length]),(4,.vec (1+(s.1.2.2.length - h0)) 1 false (irw s.1.2.2))]) (fun s=>8 - s.1.1) ⟨(0,led1,hs),by simp,by simp only;omega,by simp only;omega,by simp only;omega,hR.symm⟩ ?lhs1 ?lhm1 ?_ ?_
  case lhs1=>first|(simp [kpS];done)|(simp [kpS];rfl)
  case lhm1=>first|rfl|(simp;done)|(simp;rfl)
  ·simp only [← hh0,Nat.sub_self,Nat.add_zero]
   exact dle
  ·clear hR hset hg0 hgE0 hb hnl hnI
   clear hl1
   rintro ⟨⟨i,led2,hs2⟩,hi,hl2,hh2,hb2,hst⟩
   simp only at hi hl2 hh2 hb2 hst ⊢
   obtain ⟨v,hv⟩:∃ v,v=1+(hs2.length - h0):=⟨_,rfl⟩
   rw [← hv]
   have hv1:1≤v:=by omega
   rcases dE (i<8) with hi8|hi8
   ·have hiI:(i:Int)<8:=by omega
    have hgn:=nrG hn
    have hgnE:=nrE hn
    have h8:(gn ns n).2.length=8:=(ht.1 _ (gn_mem hn)).1
    have hw8:=wcs_gi (l:=(gn ns n).2) (i:=i) (by omega)
    have hwE:=wcs_gE (l:=(gn ns n).2) (i:=i) (by omega)
    have hw64:=wd_lt ht (n:=n) (i:=i) hn
    obtain ⟨k8,hk8⟩:∃ k,8 - i=k+1:=⟨7 - i,by omega⟩
    have hk7:8 - (i+1)=k8:=by omega
    rw [hk8] at hst
    obtain ⟨w,hwd⟩:∃ w,w=wd ns n i:=⟨_,rfl⟩
    have hwg:(gn ns n).2.getD i 0=w:=hwd.symm
    rw [hwg] at hw8 hwE
    simp only at hw64
    rw [← hwd] at hw64
    have hwl:(wcs (gn ns n).2).length=8:=by simp [h8]
    obtain ⟨⟨fr,ws⟩,hm⟩:∃ m,m=gn ns n:=⟨_,rfl⟩
    rw [← hm] at hgn hgnE hw8 hwE hwl
    simp only at hgn hgnE hw8 hwE hwl
    obtain ⟨cs,hcs⟩:∃ cs,cs=wcs ws:=⟨_,rfl⟩
    rw [← hcs] at hgn hgnE hw8 hwE hwl
    clear hcs hm h8 hwg
    have hd':=hd w hw64
    have bad:=@wkF_bad WA ns (wk WA ns 0) 1 n first k8 i (led2,hs2)
    have pl:=@wkF_pl WA ns (wk WA ns 0) 1 n first k8 i (led2,hs2)
    have hug:=@wkF_hug WA ns (wk WA ns 0) 1 n first k8 i (led2,hs2)
    have lost:=fun g=>@wkF_lost WA ns (wk WA ns 0) 1 n first k8 i (led2,hs2) g
    have rcr:=fun g nx=>@wkF_rec WA ns (wk WA ns 0) 1 n first k8 i (led2,hs2) g nx
    have hone:=(WD_ok fun _=>true).one 1 w
    have hflat:=(WD_ok fun _=>true).flat w
    rw [← hwd] at bad pl hug lost rcr
    rw [hst] at bad pl hug lost rcr
    have hsu':=fun e=>hsu e 1
    obtain ⟨⟨⟨k,f,d,a,x,h⟩,e⟩,hE⟩:∃ r,r=decR w:=⟨_,rfl⟩
    have hok:WA.ok 1 w=(decide (e=0)&&suitB (k,f,d,a,x,h) 1):=by show okWb 1 w=_;unfold okWb;rw [← hE]
    have hhg:WA.hug w=(decide (k=1)&&h):=by show hugW w=_;unfold hugW;rw [← hE]
    have htb:WA.tab w=if k=4 then some f else none:=by show tabW w=_;unfold tabW;rw [← hE]
    rw [← hE] at hd'
    clear hE
    simp only [EnV,U] at hd' hw8 hwE
    have hsu2:∀ M n,X.call 117 [.agg [I k,I f,B d,B a,B x,B h],I 1] M n=some (B (suitB (k,f,d,a,x,h) 1),[]):=hsu' (k,f,d,a,x,h)
    rcases dE (e=0) with he|he
    ·subst he
     cases hsb:suitB (k,f,d,a,x,h) 1 with
     | false =>
      rw [hsb] at hsu2
      have hfin:=bad (by rw [hok,hsb];rfl)
      subst hfin
      simp only
      clear pl hug lost rcr hone hflat
      have zS:=jj hiI<|jj hi8<|jj hgn<|jj hgnE<|jj hw8<|jj hwE<|jj hwl<|jj hd'<|jj hsu2<|jj hn<|hnN
      repeat' (first|(refine aSk fun K hK=>?_)|(refine eM64 ?_)|(refine eC (fun h=>?_) (fun h=>?_)<;>(try simp at h))|(refine hK _ ?_;clear hK)|clear hK)
      all_goals clear zS
      refine ⟨by simp,_,by simp [aRs,aRt,f116];rfl,?_⟩
      simp only [← hv,idx]
      exact dle
     | true =>
      rw [hsb] at hsu2
      have hok1:WA.ok 1 w=true:=by rw [hok,hsb];rfl
      rcases dE (k=1∧h=true) with hk|hk
      ·obtain ⟨rfl,rfl⟩:=hk
       have hfin:=hug hok1 (by rw [hhg];rfl) rfl (by rw [htb];rfl)
       clear bad pl lost rcr hone hflat
       have hq:((first:Int)+(i:Int)*8).tdiv 8=(((first+i*8^1)/8:Nat):Int):=by rw [Int.tdiv_eq_ediv_of_nonneg (by omega)];omega
       obtain ⟨gq,hgq⟩:∃ g:Int,g=(((first+i*8^1)/8:Nat):Int):=⟨_,rfl⟩
       rw [← hgq] at hq hfin
       have hq2:((first:Int)+(i:Int)*8)/8=gq:=by rw [hgq];omega
       have happ:List.take hs2.length (irw hs2)++[[I gq]]=irw (hs2++[gq]):=by rw [← irows_append,tkL (by simp)];rfl
       simp only [I] at happ
       have zS:=jj hiI<|jj hi8<|jj hgn<|jj hgnE<|jj hw8<|jj hwE<|jj hwl<|jj hd'<|jj hsu2<|jj hn<|jj hnN<|jj hq<|hq2
       repeat' (first|(refine aSk fun K hK=>?_)|(refine eM64 ?_)|(refine eC (fun h=>?_) (fun h=>?_)<;>(try simp at h))|(refine hK _ ?_;clear hK)|clear hK)
       all_goals clear zS
       refine ⟨i+1,led2,hs2++[gq],?_,⟨by omega,hl2,by simp only [List.length_append,List.length_singleton];omega,by simp only [List.length_append,List.length_singleton];omega,by rw [hk7];exact hfin.symm⟩,by omega⟩
       simp only [List.length_append,List.length_singleton,show 1+(hs2.length+1 - h0)=v+1 by omega,← happ]
       exact dle
      ·have hhf:(decide (k=1)&&h)=false:=by
        rw [Bool.eq_false_iff];intro hh;simp only [Bool.and_eq_true,decide_eq_true_eq] at hh;exact hk hh
       rw [hhf] at hhg
       rcases dE (k=4) with hk4|hk4
       ·subst hk4
        clear hone hflat hug pl bad
        have hget:=idxE_get ha f
        cases hfn:fnd ns f with
        | none =>
         rw [hfn] at hget
         try simp only [Option.map_none] at hget
         have hfin:=lost f hok1 hhg (by rw [htb];rfl) hfn
         subst hfin
         simp only
         clear lost rcr
         have zS:=jj hiI<|jj hi8<|jj hgn<|jj hgnE<|jj hw8<|jj hwE<|jj hwl<|jj hd'<|jj hsu2<|jj hn<|jj hnN<|hget
         repeat' (first|(refine aSk fun K hK=>?_)|(refine eM64 ?_)|(refine eC (fun h=>?_) (fun h=>?_)<;>(try simp at h))|(refine hK _ ?_;clear hK)|clear hK)
         all_goals clear zS
         refine ⟨by simp,_,by simp [aRs,aRt,f116];rfl,?_⟩
         simp only [← hv,idx]
         exact dle
        | some nx =>
         rw [hfn] at hget
         try simp only [Option.map_some] at hget
         have hnx:=fnd_lt hfn
         have hfin:=rcr f nx hok1 hhg (by rw [htb];rfl) hfn
         clear lost rcr
         have hckk:ckOK 0 ((r,ns,ds),nx,first+i*8,led2,hs2):=⟨ht,ha,hnx,by simp only [ckF];omega,by simp only;omega,by simp only [ckH];omega⟩
         have hcall:=@callCk 0 (r,ns,ds) nx (first+i*8) led2 hs2 hckk v hv1 false false
         have hckR:ckR 0 ((r,ns,ds),nx,first+i*8,led2,hs2)=wk WA ns 0 nx (first+i*8) (led2,hs2):=rfl
         rw [hckR] at hcall
         have hadd:=wk_adds (D:=WA) (ns:=ns) (l:=0) nx (first+i*8) (led2,hs2)
         rw [show (8:Nat)^1=8 from rfl] at hfin
         obtain ⟨⟨b3,led3,hs3⟩,hR3⟩:∃ R,R=wk WA ns 0 nx (first+i*8) (led2,hs2):=⟨_,rfl⟩
         rw [← hR3] at hcall hfin hadd
         clear hR3 hckR hckk
         simp only [addsB] at hcall hfin hadd
         rw [hl2] at hcall hadd
         rw [hadd.1] at hcall
         rw [← hrec] at hcall
         have hfI:((first+i*8:Nat):Int)=(first:Int)+(i:Int)*8:=by omega
         rw [hfI,show ((0:Nat):Int)=(0:Int) from rfl] at hcall
         obtain ⟨v3,hv3⟩:∃ v3,v3=v+(hs3.length - hs2.length):=⟨_,rfl⟩
         rw [← hv3] at hcall
         cases b3 with
         | false =>
          simp only [Bool.false_eq_true,if_false] at hfin
          subst hfin
          simp only
          have zS:=jj hiI<|jj hi8<|jj hgn<|jj hgnE<|jj hw8<|jj hwE<|jj hwl<|jj hd'<|jj hsu2<|jj hn<|jj hnN<|jj hget<|hcall
          repeat' (first|(refine aSk fun K hK=>?_)|(refine eM64 ?_)|(refine eC (fun h=>?_) (fun h=>?_)<;>(try simp at h))|(refine hK _ ?_;clear hK)|clear hK)
          all_goals clear zS
          refine ⟨by simp,_,by simp [aRs,aRt,f116];rfl,?_⟩
          simp only [show 1+(hs3.length - h0)=v3 by omega,idx]
          exact dle
         | true =>
          simp only [if_true] at hfin
          have zS:=jj hiI<|jj hi8<|jj hgn<|jj hgnE<|jj hw8<|jj hwE<|jj hwl<|jj hd'<|jj hsu2<|jj hn<|jj hnN<|jj hget<|hcall
          repeat' (first|(refine aSk fun K hK=>?_)|(refine eM64 ?_)|(refine eC (fun h=>?_) (fun h=>?_)<;>(try simp at h))|(refine hK _ ?_;clear hK)|clear hK)
          all_goals clear zS
          refine ⟨i+1,led3,hs3,?_,⟨by omega,hadd.1,by omega,by omega,by rw [hk7];exact hfin.symm⟩,by omega⟩
          simp only [show 1+(hs3.length - h0)=v3 by omega]
          exact dle
       ·have hfin:=pl hok1 hhg (by rw [htb,if_neg hk4])
        clear bad hug lost rcr hone hflat
        rcases dE (k=1) with hk1|hk1
        ·subst hk1
         have hh0:h=false:=by cases h with|false=>rfl|true=>exact absurd ⟨rfl,rfl⟩ hk
         subst hh0
         have zS:=jj hiI<|jj hi8<|jj hgn<|jj hgnE<|jj hw8<|jj hwE<|jj hwl<|jj hd'<|jj hsu2<|jj hn<|hnN
         repeat' (first|(refine aSk fun K hK=>?_)|(refine eM64 ?_)|(refine eC (fun h=>?_) (fun h=>?_)<;>(try simp at h))|(refine hK _ ?_;clear hK)|clear hK)
         all_goals clear zS
         refine ⟨i+1,led2,hs2,?_,⟨by omega,hl2,by omega,by omega,by rw [hk7];exact hfin.symm⟩,by omega⟩
         simp only [← hv]
         exact dle
        ·have zS:=jj hiI<|jj hi8<|jj hgn<|jj hgnE<|jj hw8<|jj hwE<|jj hwl<|jj hd'<|jj hsu2<|jj hn<|jj hnN<|jj hk1<|hk4
         repeat' (first|(refine aSk fun K hK=>?_)|(refine eM64 ?_)|(refine eC (fun h=>?_) (fun h=>?_)<;>(try simp at h))|(refine hK _ ?_;clear hK)|clear hK)
         all_goals clear zS
         refine ⟨i+1,led2,hs2,?_,⟨by omega,hl2,by omega,by omega,by rw [hk7];exact hfin.symm⟩,by omega⟩
         simp only [← hv]
         exact dle
    ·have hfin:=bad (by rw [hok];simp [he])
     subst hfin
     simp only
     clear pl hug lost rcr hone hflat
     have zS:=jj hiI<|jj hi8<|jj hgn<|jj hgnE<|jj hw8<|jj hwE<|jj hwl<|jj hd'<|jj he<|jj hn<|hnN
     repeat' (first|(refine aSk fun K hK=>?_)|(refine eM64 ?_)|(refine eC (fun h=>?_) (fun h=>?_)<;>(try simp at h))|(refine hK _ ?_;clear hK)|clear hK)
     all_goals clear zS
     refine ⟨by simp,_,by simp [aRs,aRt,f116];rfl,?_⟩
     simp only [← hv,idx]
     exact dle
   ·obtain rfl:i=8:=by omega
    simp only [Nat.sub_self,wkF] at hst
    subst hst
    simp only
    repeat' (first|(refine aSk fun K hK=>?_)|(refine eMo ?_)|(refine eC (fun h=>?_) (fun h=>?_)<;>(try simp at h))|(refine hK _ ?_;clear hK)|clear hK)
    refine ⟨by simp,_,by simp [aRs,aRt,f116];rfl,?_⟩
    simp only [← hv,idx]
    exact dle
set_option maxHeartbeats 8000000 in
theorem s116_2 (X:AX) (hX:XOK prog X) (hw:X.W wT) (hd:∀ n:Nat,n<2^64→∀ M k,X.call 56 [U n] M k=some (.tup [EnV (decR n).1,I (decR n).2],[]))
  (hsu:∀ (e:En) (l:Nat) M n,X.call 117 [EnV e,I l] M n=some (B (suitB e l),[])) (hrec:X.call 116=caG (ckS 1)):GSd prog 116 (ckS 2):=by
 unfold ckS
 refine gsS func116 rfl X fun ⟨⟨⟨r,ns,ds⟩,n,first,led,hs⟩,hx⟩ w0 L E=>⟨by show 8≤96;decide,?_⟩
 obtain ⟨ht,ha,hn,hf,hled,hhs⟩:=hx
 simp only [ckF,ckH] at ht ha hn hf hled hhs
 show AW ⟨prog,X,96,w0,⟨L,E,8⟩⟩ _ _ _
 have hc:Cx.OK ⟨prog,X,96,w0,⟨L,E,8⟩⟩:=⟨hX,mixed⟩
 have hl1:ns.length≤1000000:=ht.2.1
 obtain ⟨R,hR⟩:∃ R,R=ckR 2 ((r,ns,ds),n,first,led,hs):=⟨_,rfl⟩
 simp only [← hR,ckM,ckA]
 have hnl:n<led.length:=by omega
 have hnI:(n:Int)<(led.length:Int):=by omega
 have hnN:(n:Int)<(ns.length:Int):=by omega
 have hg0:=brows_gi hnl
 have hgE0:=brows_gE hnl
 unfold ckR at hR
 simp only at hR
 rw [wk] at hR
 cases hb:led.getD n false with
 | true =>
  rw [hb] at hR hg0 hgE0
  simp only [if_true] at hR
  subst hR
  simp only
  have zS:=jj hnl<|jj hnI<|jj hg0<|hgE0
  refine dM64 ?_
  repeat (intro K hK)
  clear zS
  refine ⟨by simp,_,by simp [aRs,aRt,f116];rfl,?_⟩
  simp only [Nat.sub_self,Nat.add_zero,idx]
  exact dle
 | false =>
  rw [hb] at hR hg0 hgE0
  simp only [Bool.false_eq_true,if_false] at hR
  have hset:=@brows_set led n true
  obtain ⟨led1,hl1⟩:∃ l,l=led.set n true:=⟨_,rfl⟩
  have hled1:led1.length=led.length:=by rw [hl1];simp
  rw [← hl1] at hR hset
  have zS:=jj hnl<|jj hnI<|jj hg0<|jj hgE0<|hset
  repeat' (first|(refine aSk fun K hK=>?_)|(refine eM64 ?_)|(refine eC (fun h=>?_) (fun h=>?_)<;>(try simp at h))|(refine hK _ ?_;clear hK)|(clear hK;refine hK _ ?_;clear hK))
  all_goals clear zS
  refine aRs_ 3 (aRd ?_)
  repeat' (first|(refine aSk fun K hK=>?_)|(refine eMo ?_)|(refine eC (fun h=>?_) (fun h=>?_)<;>(try simp at h))|(refine hK _ ?_;clear hK)|(clear hK;refine hK _ ?_;clear hK))
  obtain ⟨h0,hh0⟩:∃ h0,h0=hs.length:=⟨_,rfl⟩
  obtain ⟨ln,hln⟩:∃ ln,ln=led.length:=⟨_,rfl⟩
  have hRl:R.2.1.length=ln:=by rw [hR,(wkF_adds (b:=72) (wk_adds (l:=1)) 8 0 (led1,hs)).1,hln];exact hled1
  rw [hRl,← hln]
  rw [← hh0]
  refine aLK (s0:=?lps1) (m0:=?lpm1) (ι:={s:Nat×List Bool×List Int // s.1≤8∧s.2.1.length=ln∧h0≤s.2.2.length∧s.2.2.length≤h0+73*s.1∧wkF WA ns (wk WA ns 1) 2 n first (8 - s.1) s.1 (s.2.1,s.2.2)=R}) [0,1,2,4,5,6,7,12] (fun s=>[(31,I s.1.1)]) (fun s=>[(1,.vec 1 1 false (brows s.1.2.1)),(3,.box [.sl 4 (1+(s.1.2.2.length - h0)) 1 0 s.1.2.2.length]),(4,.vec (1+(s.1.2.2.length - h0)) 1 false (irw s.1.2.2))]) (fun s=>8 - s.1.1) ⟨(0,led1,hs),by simp,by simp only;omega,by simp only;omega,by simp only;omega,hR.symm⟩ ?lhs1 ?lhm1 ?_ ?_
  case lhs1=>first|(simp [kpS];done)|(simp [kpS];rfl)
  case lhm1=>first|rfl|(simp;done)|(simp;rfl)
  ·simp only [← hh0,Nat.sub_self,Nat.add_zero]
   exact dle
  ·clear hR hset hg0 hgE0 hb hnl hnI
   clear hl1
   rintro ⟨⟨i,led2,hs2⟩,hi,hl2,hh2,hb2,hst⟩
   simp only at hi hl2 hh2 hb2 hst ⊢
   obtain ⟨v,hv⟩:∃ v,v=1+(hs2.length - h0):=⟨_,rfl⟩
   rw [← hv]
   have hv1:1≤v:=by omega
   rcases dE (i<8) with hi8|hi8
   ·have hiI:(i:Int)<8:=by omega
    have hgn:=nrG hn
    have hgnE:=nrE hn
    have h8:(gn ns n).2.length=8:=(ht.1 _ (gn_mem hn)).1
    have hw8:=wcs_gi (l:=(gn ns n).2) (i:=i) (by omega)
    have hwE:=wcs_gE (l:=(gn ns n).2) (i:=i) (by omega)
    have hw64:=wd_lt ht (n:=n) (i:=i) hn
    obtain ⟨k8,hk8⟩:∃ k,8 - i=k+1:=⟨7 - i,by omega⟩
    have hk7:8 - (i+1)=k8:=by omega
    rw [hk8] at hst
    obtain ⟨w,hwd⟩:∃ w,w=wd ns n i:=⟨_,rfl⟩
    have hwg:(gn ns n).2.getD i 0=w:=hwd.symm
    rw [hwg] at hw8 hwE
    simp only at hw64
    rw [← hwd] at hw64
    have hwl:(wcs (gn ns n).2).length=8:=by simp [h8]
    obtain ⟨⟨fr,ws⟩,hm⟩:∃ m,m=gn ns n:=⟨_,rfl⟩
    rw [← hm] at hgn hgnE hw8 hwE hwl
    simp only at hgn hgnE hw8 hwE hwl
    obtain ⟨cs,hcs⟩:∃ cs,cs=wcs ws:=⟨_,rfl⟩
    rw [← hcs] at hgn hgnE hw8 hwE hwl
    clear hcs hm h8 hwg
    have hd':=hd w hw64
    have bad:=@wkF_bad WA ns (wk WA ns 1) 2 n first k8 i (led2,hs2)
    have pl:=@wkF_pl WA ns (wk WA ns 1) 2 n first k8 i (led2,hs2)
    have hug:=@wkF_hug WA ns (wk WA ns 1) 2 n first k8 i (led2,hs2)
    have lost:=fun g=>@wkF_lost WA ns (wk WA ns 1) 2 n first k8 i (led2,hs2) g
    have rcr:=fun g nx=>@wkF_rec WA ns (wk WA ns 1) 2 n first k8 i (led2,hs2) g nx
    have hone:=(WD_ok fun _=>true).one 2 w
    have hflat:=(WD_ok fun _=>true).flat w
    rw [← hwd] at bad pl hug lost rcr
    rw [hst] at bad pl hug lost rcr
    have hsu':=fun e=>hsu e 2
    obtain ⟨⟨⟨k,f,d,a,x,h⟩,e⟩,hE⟩:∃ r,r=decR w:=⟨_,rfl⟩
    have hok:WA.ok 2 w=(decide (e=0)&&suitB (k,f,d,a,x,h) 2):=by show okWb 2 w=_;unfold okWb;rw [← hE]
    have hhg:WA.hug w=(decide (k=1)&&h):=by show hugW w=_;unfold hugW;rw [← hE]
    have htb:WA.tab w=if k=4 then some f else none:=by show tabW w=_;unfold tabW;rw [← hE]
    rw [← hE] at hd'
    clear hE
    simp only [EnV,U] at hd' hw8 hwE
    have hsu2:∀ M n,X.call 117 [.agg [I k,I f,B d,B a,B x,B h],I 2] M n=some (B (suitB (k,f,d,a,x,h) 2),[]):=hsu' (k,f,d,a,x,h)
    rcases dE (e=0) with he|he
    ·subst he
     cases hsb:suitB (k,f,d,a,x,h) 2 with
     | false =>
      rw [hsb] at hsu2
      have hfin:=bad (by rw [hok,hsb];rfl)
      subst hfin
      simp only
      clear pl hug lost rcr hone hflat
      have zS:=jj hiI<|jj hi8<|jj hgn<|jj hgnE<|jj hw8<|jj hwE<|jj hwl<|jj hd'<|jj hsu2<|jj hn<|hnN
      repeat' (first|(refine aSk fun K hK=>?_)|(refine eM64 ?_)|(refine eC (fun h=>?_) (fun h=>?_)<;>(try simp at h))|(refine hK _ ?_;clear hK)|clear hK)
      all_goals clear zS
      refine ⟨by simp,_,by simp [aRs,aRt,f116];rfl,?_⟩
      simp only [← hv,idx]
      exact dle
     | true =>
      rw [hsb] at hsu2
      have hok1:WA.ok 2 w=true:=by rw [hok,hsb];rfl
      rcases dE (k=1∧h=true) with hk|hk
      ·obtain ⟨rfl,rfl⟩:=hk
       exact absurd (hone hok1 (by rw [hhg];rfl)) (by decide)
      ·have hhf:(decide (k=1)&&h)=false:=by
        rw [Bool.eq_false_iff];intro hh;simp only [Bool.and_eq_true,decide_eq_true_eq] at hh;exact hk hh
       rw [hhf] at hhg
       rcases dE (k=4) with hk4|hk4
       ·subst hk4
        clear hone hflat hug pl bad
        have hget:=idxE_get ha f
        cases hfn:fnd ns f with
        | none =>
         rw [hfn] at hget
         try simp only [Option.map_none] at hget
         have hfin:=lost f hok1 hhg (by rw [htb];rfl) hfn
         subst hfin
         simp only
         clear lost rcr
         have zS:=jj hiI<|jj hi8<|jj hgn<|jj hgnE<|jj hw8<|jj hwE<|jj hwl<|jj hd'<|jj hsu2<|jj hn<|jj hnN<|hget
         repeat' (first|(refine aSk fun K hK=>?_)|(refine eM64 ?_)|(refine eC (fun h=>?_) (fun h=>?_)<;>(try simp at h))|(refine hK _ ?_;clear hK)|clear hK)
         all_goals clear zS
         refine ⟨by simp,_,by simp [aRs,aRt,f116];rfl,?_⟩
         simp only [← hv,idx]
         exact dle
        | some nx =>
         rw [hfn] at hget
         try simp only [Option.map_some] at hget
         have hnx:=fnd_lt hfn
         have hfin:=rcr f nx hok1 hhg (by rw [htb];rfl) hfn
         clear lost rcr
         have hckk:ckOK 1 ((r,ns,ds),nx,first+i*64,led2,hs2):=⟨ht,ha,hnx,by simp only [ckF];omega,by simp only;omega,by simp only [ckH];omega⟩
         have hcall:=@callCk 1 (r,ns,ds) nx (first+i*64) led2 hs2 hckk v hv1 false false
         have hckR:ckR 1 ((r,ns,ds),nx,first+i*64,led2,hs2)=wk WA ns 1 nx (first+i*64) (led2,hs2):=rfl
         rw [hckR] at hcall
         have hadd:=wk_adds (D:=WA) (ns:=ns) (l:=1) nx (first+i*64) (led2,hs2)
         rw [show (8:Nat)^2=64 from rfl] at hfin
         obtain ⟨⟨b3,led3,hs3⟩,hR3⟩:∃ R,R=wk WA ns 1 nx (first+i*64) (led2,hs2):=⟨_,rfl⟩
         rw [← hR3] at hcall hfin hadd
         clear hR3 hckR hckk
         simp only [addsB] at hcall hfin hadd
         rw [hl2] at hcall hadd
         rw [hadd.1] at hcall
         rw [← hrec] at hcall
         have hfI:((first+i*64:Nat):Int)=(first:Int)+(i:Int)*64:=by omega
         rw [hfI,show ((1:Nat):Int)=(1:Int) from rfl] at hcall
         obtain ⟨v3,hv3⟩:∃ v3,v3=v+(hs3.length - hs2.length):=⟨_,rfl⟩
         rw [← hv3] at hcall
         cases b3 with
         | false =>
          simp only [Bool.false_eq_true,if_false] at hfin
          subst hfin
          simp only
          have zS:=jj hiI<|jj hi8<|jj hgn<|jj hgnE<|jj hw8<|jj hwE<|jj hwl<|jj hd'<|jj hsu2<|jj hn<|jj hnN<|jj hget<|hcall
          repeat' (first|(refine aSk fun K hK=>?_)|(refine eM64 ?_)|(refine eC (fun h=>?_) (fun h=>?_)<;>(try simp at h))|(refine hK _ ?_;clear hK)|clear hK)
          all_goals clear zS
          refine ⟨by simp,_,by simp [aRs,aRt,f116];rfl,?_⟩
          simp only [show 1+(hs3.length - h0)=v3 by omega,idx]
          exact dle
         | true =>
          simp only [if_true] at hfin
          have zS:=jj hiI<|jj hi8<|jj hgn<|jj hgnE<|jj hw8<|jj hwE<|jj hwl<|jj hd'<|jj hsu2<|jj hn<|jj hnN<|jj hget<|hcall
          repeat' (first|(refine aSk fun K hK=>?_)|(refine eM64 ?_)|(refine eC (fun h=>?_) (fun h=>?_)<;>(try simp at h))|(refine hK _ ?_;clear hK)|clear hK)
          all_goals clear zS
          refine ⟨i+1,led3,hs3,?_,⟨by omega,hadd.1,by omega,by omega,by rw [hk7];exact hfin.symm⟩,by omega⟩
          simp only [show 1+(hs3.length - h0)=v3 by omega]
          exact dle
       ·have hfin:=pl hok1 hhg (by rw [htb,if_neg hk4])
        clear bad hug lost rcr hone hflat
        rcases dE (k=1) with hk1|hk1
        ·subst hk1
         have hh0:h=false:=by cases h with|false=>rfl|true=>exact absurd ⟨rfl,rfl⟩ hk
         subst hh0
         have zS:=jj hiI<|jj hi8<|jj hgn<|jj hgnE<|jj hw8<|jj hwE<|jj hwl<|jj hd'<|jj hsu2<|jj hn<|hnN
         repeat' (first|(refine aSk fun K hK=>?_)|(refine eM64 ?_)|(refine eC (fun h=>?_) (fun h=>?_)<;>(try simp at h))|(refine hK _ ?_;clear hK)|clear hK)
         all_goals clear zS
         refine ⟨i+1,led2,hs2,?_,⟨by omega,hl2,by omega,by omega,by rw [hk7];exact hfin.symm⟩,by omega⟩
         simp only [← hv]
         exact dle
        ·have zS:=jj hiI<|jj hi8<|jj hgn<|jj hgnE<|jj hw8<|jj hwE<|jj hwl<|jj hd'<|jj hsu2<|jj hn<|jj hnN<|jj hk1<|hk4
         repeat' (first|(refine aSk fun K hK=>?_)|(refine eM64 ?_)|(refine eC (fun h=>?_) (fun h=>?_)<;>(try simp at h))|(refine hK _ ?_;clear hK)|clear hK)
         all_goals clear zS
         refine ⟨i+1,led2,hs2,?_,⟨by omega,hl2,by omega,by omega,by rw [hk7];exact hfin.symm⟩,by omega⟩
         simp only [← hv]
         exact dle
    ·have hfin:=bad (by rw [hok];simp [he])
     subst hfin
     simp only
     clear pl hug lost rcr hone hflat
     have zS:=jj hiI<|jj hi8<|jj hgn<|jj hgnE<|jj hw8<|jj hwE<|jj hwl<|jj hd'<|jj he<|jj hn<|hnN
     repeat' (first|(refine aSk fun K hK=>?_)|(refine eM64 ?_)|(refine eC (fun h=>?_) (fun h=>?_)<;>(try simp at h))|(refine hK _ ?_;clear hK)|clear hK)
     all_goals clear zS
     refine ⟨by simp,_,by simp [aRs,aRt,f116];rfl,?_⟩
     simp only [← hv,idx]
     exact dle
   ·obtain rfl:i=8:=by omega
    simp only [Nat.sub_self,wkF] at hst
    subst hst
    simp only
    repeat' (first|(refine aSk fun K hK=>?_)|(refine eMo ?_)|(refine eC (fun h=>?_) (fun h=>?_)<;>(try simp at h))|(refine hK _ ?_;clear hK)|clear hK)
    refine ⟨by simp,_,by simp [aRs,aRt,f116];rfl,?_⟩
    simp only [← hv,idx]
    exact dle
noncomputable section
theorem fstG_mem {α:Type} [DecidableEq α] {l:List α} {v:α}:0≤fstG (fun x=>decide (x=v)) l↔v∈l:=by
 rw [fstG_pos]
 constructor
 ·rintro ⟨j,hj,e⟩
  simp only [decide_eq_true_eq] at e
  rw [← e];exact List.getElem_mem hj
 ·intro h
  obtain ⟨j,hj,e⟩:=List.getElem_of_mem h
  exact ⟨j,hj,by simp [e]⟩
def FIxB:List AV→Option AV:=spF (ι:={x:List Bool×Bool // x.1.length≤9223372036854775807}) (fun x=>[.rd 1 (brows x.1.1),B x.1.2]) fun x=>rtO [I (fstG (fun y=>decide (y=x.1.2)) x.1.1)]
theorem FIxB_at {l:List Bool} {v:Bool} (h:l.length≤9223372036854775807):FIxB [.rd 1 (brows l),B v]=some (I (fstG (fun y=>decide (y=v)) l)):=by
 refine sFe (ι:={x:List Bool×Bool // x.1.length≤9223372036854775807}) (A:=fun x=>[.rd 1 (brows x.1.1),B x.1.2]) (R:=fun x=>rtO [I (fstG (fun y=>decide (y=x.1.2)) x.1.1)]) ⟨(l,v),h⟩ fun j e=>?_
 obtain ⟨⟨l',v'⟩,h'⟩:=j
 simp only [cJ,AV.rd.injEq,true_and,brows_inj,B,AV.v.injEq,Value.bool.injEq,and_true] at e
 obtain ⟨rfl,rfl⟩:=e
 rfl
theorem s182 (X:AX) (hX:XOK prog X):PSd prog 182 FIxB:=by
 unfold FIxB
 refine psS hX mixed func182 rfl fun ⟨⟨l,v⟩,hl⟩ w0 G=>⟨by show 2≤19;decide,rfl,?_⟩
 show AW ⟨prog,X,19,w0,.pure G⟩ _ _ _
 have hc:=okc hX 19 w0 G
 simp only at hl ⊢
 repeat' (first|(refine aSk fun K hK=>?_)|(refine eMo ?_)|(refine eC (fun h=>?_) (fun h=>?_)<;>(try simp at h))|(refine hK _ ?_;clear hK)|(clear hK;refine hK _ ?_;clear hK))
 refine aLK (s0:=?lps1) (m0:=?lpm1) (ι:={i:Nat // i≤l.length∧∀ j,j<i→¬ l.getD j false=v}) [0,1,7] (fun i=>[(8,I i.1)]) (fun _=>[]) (fun i=>l.length - i.1) ⟨0,by omega,by omega⟩ ?lhs1 ?lhm1 ?_ ?_
 case lhs1=>first|(simp [kpS];done)|(simp [kpS];rfl)
 case lhm1=>first|rfl|(simp;done)|(simp;rfl)
 ·exact dle
 ·rintro ⟨i,hi,hinv⟩
  simp only
  rcases dE (i<l.length) with hil|hil
  ·have hilI:(i:Int)<(l.length:Int):=by omega
   have hg:=brows_gi hil
   have hgE:=brows_gE hil
   have hat:=fstG_at (p:=fun y:Bool=>decide (y=v)) hil
   have hge:l[i]=l.getD i false:=by rw [List.getD_eq_getElem?_getD,List.getElem?_eq_getElem hil];rfl
   rw [hge] at hat
   obtain ⟨b,hb⟩:∃ b,b=l.getD i false:=⟨_,rfl⟩
   rw [← hb] at hg hgE hat
   rcases dE (b=v) with h1|h1
   ·subst h1
    have e:=hat (by simp) fun j hj=>by
     have:=hinv j hj
     rw [List.getD_eq_getElem?_getD,List.getElem?_eq_getElem (by omega)] at this
     simpa using this
    have zS:=jj hilI<|jj hg<|hgE
    repeat' (first|(refine aSk fun K hK=>?_)|(refine eM64 ?_)|(refine eC (fun h=>?_) (fun h=>?_)<;>(try simp at h))|(refine hK _ ?_;clear hK)|clear hK)
    all_goals clear zS
    refine ⟨by simp,?_⟩
    simp [lvI,f182,e]
    try exact dt
   ·have h1':¬ v=b:=fun h=>h1 h.symm
    have h1b:(v == b)=false:=by simpa using h1'
    have zS:=jj hilI<|jj hg<|jj hgE<|jj h1'<|h1b
    repeat' (first|(refine aSk fun K hK=>?_)|(refine eM64 ?_)|(refine eC (fun h=>?_) (fun h=>?_)<;>(try simp at h))|(refine hK _ ?_;clear hK)|clear hK)
    all_goals clear zS
    refine ⟨i+1,?_,⟨by omega,fun j hj=>?_⟩,by omega⟩
    ·exact dle
    ·rcases Nat.lt_succ_iff_lt_or_eq.1 hj with h2|rfl
     ·exact hinv j h2
     ·first|(rw [← hb];exact h1)|(rw [hb] at h1;simpa using h1)
  ·obtain rfl:i=l.length:=by omega
   have e:fstG (fun y:Bool=>decide (y=v)) l=-1:=fstG_not fun j hj=>by
    have:=hinv j hj
    rw [List.getD_eq_getElem?_getD,List.getElem?_eq_getElem hj] at this
    simpa using this
   repeat' (first|(refine aSk fun K hK=>?_)|(refine eMo ?_)|(refine eC (fun h=>?_) (fun h=>?_)<;>(try simp at h))|(refine hK _ ?_;clear hK)|clear hK)
   refine ⟨by simp,?_⟩
   simp [lvI,f182,e]
   try exact dt
def FCtB:List AV→Option AV:=spF (ι:={x:List Bool×Bool // x.1.length≤9223372036854775807}) (fun x=>[.rd 1 (brows x.1.1),B x.1.2]) fun x=>rtO [B (decide (x.1.2∈x.1.1))]
theorem FCtB_at {l:List Bool} {v:Bool} (h:l.length≤9223372036854775807):FCtB [.rd 1 (brows l),B v]=some (B (decide (v∈l))):=by
 refine sFe (ι:={x:List Bool×Bool // x.1.length≤9223372036854775807}) (A:=fun x=>[.rd 1 (brows x.1.1),B x.1.2]) (R:=fun x=>rtO [B (decide (x.1.2∈x.1.1))]) ⟨(l,v),h⟩ fun j e=>?_
 obtain ⟨⟨l',v'⟩,h'⟩:=j
 simp only [cJ,AV.rd.injEq,true_and,brows_inj,B,AV.v.injEq,Value.bool.injEq,and_true] at e
 obtain ⟨rfl,rfl⟩:=e
 rfl
theorem s118 (X:AX) (hX:XOK prog X) (hi:X.call 182=caP FIxB):PSd prog 118 FCtB:=by
 unfold FCtB
 refine psS hX mixed func118 rfl fun ⟨⟨l,v⟩,hl⟩ w0 G=>⟨by show 2≤9;decide,rfl,?_⟩
 show AW ⟨prog,X,9,w0,.pure G⟩ _ _ _
 have hc:=okc hX 9 w0 G
 simp only at hl ⊢
 have hat:=FIxB_at (v:=v) hl
 have hm:=fstG_mem (l:=l) (v:=v)
 obtain ⟨q,hq⟩:∃ q,q=fstG (fun y=>decide (y=v)) l:=⟨_,rfl⟩
 rw [← hq] at hat hm
 rcases dE (0≤q) with h1|h1
 ·have e:decide (v∈l)=true:=decide_eq_true (hm.1 h1)
  have zS:=jj hi<|jj hat<|h1
  refine dM64 ?_
  repeat (intro K hK)
  clear zS
  refine ⟨by simp,?_⟩
  simp [lvI,f118,e]
  try exact dt
 ·have e:decide (v∈l)=false:=decide_eq_false fun h=>h1 (hm.2 h)
  have zS:=jj hi<|jj hat<|h1
  refine dM64 ?_
  repeat (intro K hK)
  clear zS
  refine ⟨by simp,?_⟩
  simp [lvI,f118,e]
  try exact dt
theorem irows_gE {l:List Int} {n:Nat} (h:n<l.length):∀ h',(irw l)[n]'(h')=[I (gi l n)]:=fun h'=>by
 have hg:=irows_gi h
 rw [List.getElem?_eq_getElem h'] at hg
 exact Option.some.inj hg
def FIxI:List AV→Option AV:=spF (ι:={x:List Int×Int // x.1.length≤9223372036854775807}) (fun x=>[.rd 1 (irw x.1.1),I x.1.2]) fun x=>rtO [I (fstG (fun y=>decide (y=x.1.2)) x.1.1)]
theorem FIxI_at {l:List Int} {v:Int} (h:l.length≤9223372036854775807):FIxI [.rd 1 (irw l),I v]=some (I (fstG (fun y=>decide (y=v)) l)):=by
 refine sFe (ι:={x:List Int×Int // x.1.length≤9223372036854775807}) (A:=fun x=>[.rd 1 (irw x.1.1),I x.1.2]) (R:=fun x=>rtO [I (fstG (fun y=>decide (y=x.1.2)) x.1.1)]) ⟨(l,v),h⟩ fun j e=>?_
 obtain ⟨⟨l',v'⟩,h'⟩:=j
 simp only [cJ,AV.rd.injEq,true_and,irI,I,AV.v.injEq,Value.int.injEq,and_true] at e
 obtain ⟨rfl,rfl⟩:=e
 rfl
theorem s194 (X:AX) (hX:XOK prog X):PSd prog 194 FIxI:=by
 unfold FIxI
 refine psS hX mixed func194 rfl fun ⟨⟨l,v⟩,hl⟩ w0 G=>⟨by show 2≤19;decide,rfl,?_⟩
 show AW ⟨prog,X,19,w0,.pure G⟩ _ _ _
 have hc:=okc hX 19 w0 G
 simp only at hl ⊢
 repeat' (first|(refine aSk fun K hK=>?_)|(refine eMo ?_)|(refine eC (fun h=>?_) (fun h=>?_)<;>(try simp at h))|(refine hK _ ?_;clear hK)|(clear hK;refine hK _ ?_;clear hK))
 refine aLK (s0:=?lps2) (m0:=?lpm2) (ι:={i:Nat // i≤l.length∧∀ j,j<i→¬ gi l j=v}) [0,1,7] (fun i=>[(8,I i.1)]) (fun _=>[]) (fun i=>l.length - i.1) ⟨0,by omega,by omega⟩ ?lhs2 ?lhm2 ?_ ?_
 case lhs2=>first|(simp [kpS];done)|(simp [kpS];rfl)
 case lhm2=>first|rfl|(simp;done)|(simp;rfl)
 ·exact dle
 ·rintro ⟨i,hi,hinv⟩
  simp only
  rcases dE (i<l.length) with hil|hil
  ·have hilI:(i:Int)<(l.length:Int):=by omega
   have hg:=irows_gi hil
   have hgE:=irows_gE hil
   have hat:=fstG_at (p:=fun y:Int=>decide (y=v)) hil
   have hge:l[i]=gi l i:=(gi_eq hil).symm
   rw [hge] at hat
   obtain ⟨b,hb⟩:∃ b,b=gi l i:=⟨_,rfl⟩
   rw [← hb] at hg hgE hat
   rcases dE (b=v) with h1|h1
   ·subst h1
    have e:=hat (by simp) fun j hj=>by
     have:=hinv j hj
     rw [gi_eq (by omega)] at this
     simpa using this
    have zS:=jj hilI<|jj hg<|hgE
    repeat' (first|(refine aSk fun K hK=>?_)|(refine eM64 ?_)|(refine eC (fun h=>?_) (fun h=>?_)<;>(try simp at h))|(refine hK _ ?_;clear hK)|clear hK)
    all_goals clear zS
    refine ⟨by simp,?_⟩
    simp [lvI,f194,e]
    try exact dt
   ·have h1':¬ v=b:=fun h=>h1 h.symm
    have zS:=jj hilI<|jj hg<|jj hgE<|h1'
    repeat' (first|(refine aSk fun K hK=>?_)|(refine eM64 ?_)|(refine eC (fun h=>?_) (fun h=>?_)<;>(try simp at h))|(refine hK _ ?_;clear hK)|clear hK)
    all_goals clear zS
    refine ⟨i+1,?_,⟨by omega,fun j hj=>?_⟩,by omega⟩
    ·exact dle
    ·rcases Nat.lt_succ_iff_lt_or_eq.1 hj with h2|rfl
     ·exact hinv j h2
     ·first|(rw [← hb];exact h1)|(rw [hb] at h1;simpa using h1)
  ·obtain rfl:i=l.length:=by omega
   have e:fstG (fun y:Int=>decide (y=v)) l=-1:=fstG_not fun j hj=>by
    have:=hinv j hj
    rw [gi_eq hj] at this
    simpa using this
   repeat' (first|(refine aSk fun K hK=>?_)|(refine eMo ?_)|(refine eC (fun h=>?_) (fun h=>?_)<;>(try simp at h))|(refine hK _ ?_;clear hK)|clear hK)
   refine ⟨by simp,?_⟩
   simp [lvI,f194,e]
   try exact dt
def FCtI:List AV→Option AV:=spF (ι:={x:List Int×Int // x.1.length≤9223372036854775807}) (fun x=>[.rd 1 (irw x.1.1),I x.1.2]) fun x=>rtO [B (decide (x.1.2∈x.1.1))]
theorem s142 (X:AX) (hX:XOK prog X) (hi:X.call 194=caP FIxI):PSd prog 142 FCtI:=by
 unfold FCtI
 refine psS hX mixed func142 rfl fun ⟨⟨l,v⟩,hl⟩ w0 G=>⟨by show 2≤9;decide,rfl,?_⟩
 show AW ⟨prog,X,9,w0,.pure G⟩ _ _ _
 have hc:=okc hX 9 w0 G
 simp only at hl ⊢
 have hat:=FIxI_at (v:=v) hl
 have hm:=fstG_mem (l:=l) (v:=v)
 obtain ⟨q,hq⟩:∃ q,q=fstG (fun y=>decide (y=v)) l:=⟨_,rfl⟩
 rw [← hq] at hat hm
 rcases dE (0≤q) with h1|h1
 ·have e:decide (v∈l)=true:=decide_eq_true (hm.1 h1)
  have zS:=jj hi<|jj hat<|h1
  refine dM64 ?_
  repeat (intro K hK)
  clear zS
  refine ⟨by simp,?_⟩
  simp [lvI,f142,e]
  try exact dt
 ·have e:decide (v∈l)=false:=decide_eq_false fun h=>h1 (hm.2 h)
  have zS:=jj hi<|jj hat<|h1
  refine dM64 ?_
  repeat (intro K hK)
  clear zS
  refine ⟨by simp,?_⟩
  simp [lvI,f142,e]
  try exact dt
end
set_option maxHeartbeats 2000000 in
set_option maxRecDepth 4000 in
theorem callCkT {l:Nat} {t:Tb} {n f:Nat} {led:List Bool} {hs:List Int} (h:ckOK l (t,n,f,led,hs)) {v:Nat} (hv:1≤v) {fl1 fl2:Bool} (M:Nat→AO) (nid:Nat)
  (h0:M 240=.box [.sl 224 1 1 0 led.length]) (h1:M 224=.vec 1 1 fl1 (brows led)) (h2:M 0=.box [I t.1,.rd 9 (nrw t.2.1),.rd 2 (prw t.2.2)]) (h3:M 272=.box [.sl 336 v 1 0 hs.length]) (h4:M 336=.vec v 1 fl2 (irw hs)) (h5:M 144=.box [.mp 128 1]) (h6:M 128=.map 1 1 (idxE t.2.1 t.2.1.length)) (h7:M 288=.box [.fn 116 [.bp 240 0,.bp 0 0,.bp 272 0,.bp 144 0,.bp 288 0]]) :
  caG (ckS l) [I n,I l,I f,.bp 240 0,.bp 0 0,.bp 272 0,.bp 144 0,.bp 288 0] M nid=some (B (ckR l (t,n,f,led,hs)).1,[(240,.box [.sl 224 1 1 0 (ckR l (t,n,f,led,hs)).2.1.length]),(224,.vec 1 1 false (brows (ckR l (t,n,f,led,hs)).2.1)),(0,.box [I t.1,.rd 9 (nrw t.2.1),.rd 2 (prw t.2.2)]),(272,.box [.sl 336 (v+((ckR l (t,n,f,led,hs)).2.2.length - hs.length)) 1 0 (ckR l (t,n,f,led,hs)).2.2.length]),(336,.vec (v+((ckR l (t,n,f,led,hs)).2.2.length - hs.length)) 1 false (irw (ckR l (t,n,f,led,hs)).2.2)),(144,.box [.mp 128 1]),(128,.map 1 1 (idxE t.2.1 t.2.1.length)),(288,.box [.fn 116 [.bp 240 0,.bp 0 0,.bp 272 0,.bp 144 0,.bp 288 0]])]):=by
 have hF:=ckS_at h
 simp only [ckA,ckM] at hF
 obtain ⟨R,hR⟩:∃ R,R=ckR l (t,n,f,led,hs):=⟨_,rfl⟩
 rw [← hR] at hF ⊢
 have hvv:1+(R.2.2.length - hs.length)+(v - 1)=v+(R.2.2.length - hs.length):=by omega
 have hv0:¬ v=0:=by omega
 unfold caG
 have hg:gat M 64 (nmsL [I n,I l,I f,.bp 240 0,.bp 0 0,.bp 272 0,.bp 144 0,.bp 288 0]) []=[240,224,0,272,336,144,128,288]:=by
  simp [gat,nmsL,AV.nms,AO.nms,h0,h1,h2,h3,h4,h5,h6,h7]
 simp only [hg]
 rw [if_pos ?cg]
 case cg=>simp [CallG,nmsL,AV.nms,AO.nms,Led,curBL,AV.curB,AO.curB,verOf,nDd,h0,h1,h2,h3,h4,h5,h6,h7]
 simp [renL,AV.ren,AO.ren,posN,canO,nmsL,h0,h1,h2,h3,h4,h5,h6,h7,hF,RetG,getL,AV.nms,AO.nms,updN,nmN,shN,verOf,hvv,rng,Led]
def wkA (t:Tb):Bool×WSt:=wk WA t.2.1 2 ((fnd t.2.1 t.1).getD 0) 0 (List.replicate t.2.1.length false,[])
noncomputable def chk (t:Tb):Int:=if numB t≠0 then numB t else if (wkA t).1=true∧false ∉ (wkA t).2.1∧(wkA t).2.2=t.2.2.map (·.1) then 0 else 3
theorem numB_zero {t:Tb} (h:numB t=0):rngB t=true∧ascB t=true∧twB t=false∧∃ r,fnd t.2.1 t.1=some r:=by
 unfold numB at h
 cases h1:rngB t with
 | false=>rw [if_pos h1] at h;simp at h
 | true =>
  rw [if_neg (by simp [h1])] at h
  cases h2:ascB t with
  | false=>rw [if_pos h2] at h;simp at h
  | true =>
   rw [if_neg (by simp [h2])] at h
   cases h3:twB t with
   | true=>rw [if_pos h3] at h;simp at h
   | false =>
    rw [if_neg (by simp [h3])] at h
    cases h4:fnd t.2.1 t.1 with
    | none=>rw [if_pos h4] at h;simp at h
    | some r=>exact ⟨rfl,rfl,rfl,r,rfl⟩
theorem falses (n:Nat):List.replicate n [AV.v (.bool false)]=brows (List.replicate n false):=by simp [brows,B]
set_option maxHeartbeats 4000000 in
theorem s39 (X:AX) (hX:XOK prog X) (hw:X.W wT) (hnu:∀ t:Tb,tbOK t→∀ M n,X.call 114 [TbV t] M n=some (I (numB t),[]))
  (hix:∀ t:Tb,tbOK t→∀ M n,X.call 115 [TbV t] M n=some (.mp n 1,[(n,.map 1 1 (idxE t.2.1 t.2.1.length))]))
  (hwa:X.call 116=caG (ckS 2)) (hco:X.call 118=caP FCtB) :
  PSd prog 39 (spF (ι:={x:Tb // tbOK x}) (fun x=>[TbV x.1]) fun x=>rtO [I (chk x.1)]):=by
 refine psS hX mixed func39 rfl fun ⟨⟨r,ns,ds⟩,ht⟩ w0 G=>⟨by show 1≤57;decide,rfl,?_⟩
 show AW ⟨prog,X,57,w0,.pure G⟩ _ _ _
 have hc:=okc hX 57 w0 G
 have hl1:ns.length≤1000000:=ht.2.1
 have hl2:ds.length≤1000000:=ht.2.2
 have hix':=hix (r,ns,ds) ht
 have hnu':=hnu (r,ns,ds) ht
 have hcz:numB (r,ns,ds)≠0→chk (r,ns,ds)=numB (r,ns,ds):=fun h=>by unfold chk;rw [if_pos h]
 obtain ⟨c,hcc⟩:∃ c,c=numB (r,ns,ds):=⟨_,rfl⟩
 simp only [TbV] at hix' hnu' ⊢
 rw [← hcc] at hnu' hcz
 rcases dE (c=0) with h0|h0
 ·subst h0
  obtain ⟨hR,hA,hT,rt,hrt⟩:=numB_zero hcc.symm
  have hAN:=ascN_of hA
  simp only at hAN hrt
  have hget:=idxE_get hAN r
  rw [hrt] at hget
  try simp only [Option.map_some] at hget
  have hrl:=fnd_lt hrt
  have hfs:=falses ns.length
  try simp only at hfs
  iterate 29 (first|(apply aSk;intro K hK)|(refine aw_run hc (by first|exact aw_nod|(intro _;rw [ordB_w hw];kernel_rfl)|(intro _;rw [ordB_w0 hw0];kernel_rfl)|(intro _;kernel_rfl)) ?_;simp [List.zipIdx,hnu',hix',hget,hfs,-getM,gMh,gMm,gMn];(repeat (simp (disch:=first|omega|assumption|fail) only [if_pos,if_neg,w64_];try simp [List.zipIdx,hnu',hix',hget,hfs,-getM,gMh,gMm,gMn]));try (repeat' (refine gQs (fun h=>?_) (fun h=>?_)<;>simp at h<;>(simp [List.zipIdx,hnu',hix',hget,hfs,-getM,gMh,gMm,gMn];(repeat (simp (disch:=first|omega|assumption|fail) only [if_pos,if_neg,w64_];try simp [List.zipIdx,hnu',hix',hget,hfs,-getM,gMh,gMm,gMn]))))))|(refine eC (fun h=>?_) (fun h=>?_)<;>(try simp at h))|(refine aBl ?_)|(refine aw_skip ?_;simp only [thenQ,bkQ,if_true])|(refine aw_exit ?_;simp [thenQ,bkQ])|(refine aw_ret ?_;simp only [thenQ,bkQ])|(refine aRd ?_)|(refine hK _ ?_;clear hK)|(clear hK;refine hK _ ?_;clear hK)|(clear hK;clear hK;refine hK _ ?_;clear hK)|(clear hK;clear hK;clear hK;refine hK _ ?_;clear hK))
  refine aw_weaken (le_nilcell (b:=272) (i:=0) (sz:=1) rfl rfl) ?_
  have hck:ckOK 2 ((r,ns,ds),rt,0,List.replicate ns.length false,[]):=⟨ht,hAN,hrl,by simp,by simp,by simp⟩
  have hcall:=@callCkT 2 (r,ns,ds) rt 0 (List.replicate ns.length false) [] hck 1 (Nat.le_refl _) false false
  have hckR:ckR 2 ((r,ns,ds),rt,0,List.replicate ns.length false,[])=wkA (r,ns,ds):=by unfold ckR wkA;simp only;rw [hrt];rfl
  rw [hckR] at hcall
  have hadd:=wk_adds (D:=WA) (ns:=ns) (l:=2) rt 0 (List.replicate ns.length false,[])
  rw [show wk WA ns 2 rt 0 (List.replicate ns.length false,[])=wkA (r,ns,ds) from hckR] at hadd
  have hfin:chk (r,ns,ds)=if (wkA (r,ns,ds)).1=true∧false ∉ (wkA (r,ns,ds)).2.1∧(wkA (r,ns,ds)).2.2=ds.map (·.1) then 0 else 3:=by unfold chk;rw [if_neg (by rw [← hcc];simp)]
  obtain ⟨⟨b,led,hs⟩,hR3⟩:∃ R,R=wkA (r,ns,ds):=⟨_,rfl⟩
  rw [← hR3] at hcall hadd hfin
  simp only [List.length_replicate,addsB,List.length_nil] at hcall hadd hfin
  rw [hadd.1] at hcall
  rw [← hwa,show ((2:Nat):Int)=(2:Int) from rfl,show ((0:Nat):Int)=(0:Int) from rfl] at hcall
  obtain ⟨v,hv⟩:∃ v,v=1+(hs.length - 0):=⟨_,rfl⟩
  rw [← hv] at hcall
  have hirn:irw []=[]:=rfl
  have hct:=FCtB_at (l:=led) (v:=false) (by omega)
  have htk:List.take ns.length (brows led)=brows led:=tkL (by simp;omega)
  rw [hirn] at hcall
  cases b with
  | false =>
   rw [hfin]
   have zS:=jj hcall<|hget
   repeat' (first|(refine aSk fun K hK=>?_)|(refine eM64 ?_)|(refine eC (fun h=>?_) (fun h=>?_)<;>(try simp at h))|(refine hK _ ?_;clear hK)|clear hK)
   all_goals clear zS
   refine ⟨by simp,?_⟩
   simp [lvI,f39]
   try exact dt
  | true =>
   rcases dE (false∈led) with h1|h1
   ·rw [decide_eq_true h1] at hct
    rw [hfin,if_neg (fun h=>h.2.1 h1)]
    have zS:=jj hcall<|jj hget<|jj hco<|jj hct<|htk
    repeat' (first|(refine aSk fun K hK=>?_)|(refine eM64 ?_)|(refine eC (fun h=>?_) (fun h=>?_)<;>(try simp at h))|(refine hK _ ?_;clear hK)|clear hK)
    all_goals clear zS
    refine ⟨by simp,?_⟩
    simp [lvI,f39]
    try exact dt
   ·rw [decide_eq_false h1] at hct
    rcases dE (hs.length=ds.length) with h2|h2
    ·have hfin2:chk (r,ns,ds)=if hs=ds.map (·.1) then 0 else 3:=by rw [hfin];simp [h1]
     have zS:=jj hcall<|jj hget<|jj hco<|jj hct<|jj htk<|h2
     repeat' (first|(refine aSk fun K hK=>?_)|(refine eM64 ?_)|(refine eC (fun h=>?_) (fun h=>?_)<;>(try simp at h))|(refine hK _ ?_;clear hK)|(clear hK;refine hK _ ?_;clear hK))
     all_goals clear zS
     refine aLK (s0:=?lps1) (m0:=?lpm1) (ι:={i:Nat // i≤ds.length∧∀ j,j<i→gi hs j=(gp ds j).1}) [6,42,43] (fun i=>[(44,I i.1)]) (fun _=>[]) (fun i=>ds.length - i.1) ⟨0,by omega,by omega⟩ ?lhs1 ?lhm1 ?_ ?_
     case lhs1=>first|(simp [kpS];done)|(simp [kpS];rfl)
     case lhm1=>first|rfl|(simp;done)|(simp;rfl)
     ·exact dle
     ·rintro ⟨i,hi,hinv⟩
      simp only
      rcases dE (i<ds.length) with hil|hil
      ·have hilI:(i:Int)<(ds.length:Int):=by omega
       have hg:=prows_gi hil
       have hgE:=prows_gE hil
       have hg2:=irows_gi (l:=hs) (n:=i) (by omega)
       have hgE2:=irows_gE (l:=hs) (n:=i) (by omega)
       have hno:¬ gi hs i=(gp ds i).1→chk (r,ns,ds)=3:=fun h=>by
        rw [hfin2,if_neg]
        intro e
        refine h ?_
        rw [gi_eq (by omega),gp_eq hil]
        subst e
        simp
       obtain ⟨x,hx⟩:∃ x,x=gi hs i:=⟨_,rfl⟩
       rw [← hx] at hg2 hgE2 hno
       obtain ⟨⟨a,b⟩,hm⟩:∃ m,m=gp ds i:=⟨_,rfl⟩
       rw [← hm] at hg hgE hno
       simp only at hg hgE hno
       rcases dE (x=a) with h3|h3
       ·have zS:=jj hil<|jj hilI<|jj hg<|jj hgE<|jj hg2<|jj hgE2<|h3
        repeat' (first|(refine aSk fun K hK=>?_)|(refine eM64 ?_)|(refine eC (fun h=>?_) (fun h=>?_)<;>(try simp at h))|(refine hK _ ?_;clear hK)|clear hK)
        all_goals clear zS
        refine ⟨i+1,?_,⟨by omega,fun j hj=>?_⟩,by omega⟩
        ·exact dle
        ·rcases Nat.lt_succ_iff_lt_or_eq.1 hj with h4|rfl
         ·exact hinv j h4
         ·rw [← hx,← hm];exact h3
       ·have e:=hno h3
        have zS:=jj hil<|jj hilI<|jj hg<|jj hgE<|jj hg2<|jj hgE2<|h3
        repeat' (first|(refine aSk fun K hK=>?_)|(refine eM64 ?_)|(refine eC (fun h=>?_) (fun h=>?_)<;>(try simp at h))|(refine hK _ ?_;clear hK)|clear hK)
        all_goals clear zS
        refine ⟨by simp,?_⟩
        simp [lvI,f39,e]
        try exact dt
      ·obtain rfl:i=ds.length:=by omega
       have e:chk (r,ns,ds)=0:=by
        rw [hfin2,if_pos]
        refine List.ext_getElem (by simp [h2]) fun j hj hj2=>?_
        have:=hinv j (by omega)
        rw [gi_eq hj,gp_eq (by omega)] at this
        simpa using this
       repeat' (first|(refine aSk fun K hK=>?_)|(refine eMo ?_)|(refine eC (fun h=>?_) (fun h=>?_)<;>(try simp at h))|(refine hK _ ?_;clear hK)|clear hK)
       refine ⟨by simp,?_⟩
       simp [lvI,f39,e]
       try exact dt
    ·rw [hfin,if_neg (fun h=>h2 (by rw [h.2.2];simp))]
     have h2I:¬ (hs.length:Int)=(ds.length:Int):=by omega
     have zS:=jj hcall<|jj hget<|jj hco<|jj hct<|jj htk<|jj h2<|h2I
     repeat' (first|(refine aSk fun K hK=>?_)|(refine eM64 ?_)|(refine eC (fun h=>?_) (fun h=>?_)<;>(try simp at h))|(refine hK _ ?_;clear hK)|clear hK)
     all_goals clear zS
     refine ⟨by simp,?_⟩
     simp [lvI,f39]
     try exact dt
 ·rw [hcz h0]
  have zS:=jj hnu'<|h0
  refine dM64 ?_
  repeat (intro K hK)
  clear zS
  refine ⟨by simp,?_⟩
  simp [lvI,f39]
  try exact dt
def Hom (rc:Nat→Nat→WSt→Bool×WSt):Prop:=∀ n f led hs,rc n f (led,hs)=((rc n f (led,[])).1,(rc n f (led,[])).2.1,hs++(rc n f (led,[])).2.2)
theorem wkF_hom {D:Wd} {ns:NdL} {rc:Nat→Nat→WSt→Bool×WSt} (hrc:Hom rc) {l n first:Nat}:∀ (k i:Nat) (led:List Bool) (hs:List Int),wkF D ns rc l n first k i (led,hs)=((wkF D ns rc l n first k i (led,[])).1,(wkF D ns rc l n first k i (led,[])).2.1,hs++(wkF D ns rc l n first k i (led,[])).2.2)
 | 0,i,led,hs=>by simp [wkF]
 | k+1,i,led,hs=>by
  have ih:=wkF_hom (D:=D) (ns:=ns) hrc (l:=l) (n:=n) (first:=first) k (i+1)
  have key:∀ (a b:List Int),(match D.tab (wd ns n i) with
   | none=>wkF D ns rc l n first k (i+1) (led,a++b)
   | some g=>match fnd ns g with
    | none=>(false,led,a++b)
    | some nx=>if (rc nx (first+i*8^l) (led,a++b)).1=true then wkF D ns rc l n first k (i+1) (rc nx (first+i*8^l) (led,a++b)).2 else (false,(rc nx (first+i*8^l) (led,a++b)).2)) =
   ((match D.tab (wd ns n i) with
   | none=>wkF D ns rc l n first k (i+1) (led,b)
   | some g=>match fnd ns g with
    | none=>(false,led,b)
    | some nx=>if (rc nx (first+i*8^l) (led,b)).1=true then wkF D ns rc l n first k (i+1) (rc nx (first+i*8^l) (led,b)).2 else (false,(rc nx (first+i*8^l) (led,b)).2)).1,(match D.tab (wd ns n i) with
   | none=>wkF D ns rc l n first k (i+1) (led,b)
   | some g=>match fnd ns g with
    | none=>(false,led,b)
    | some nx=>if (rc nx (first+i*8^l) (led,b)).1=true then wkF D ns rc l n first k (i+1) (rc nx (first+i*8^l) (led,b)).2 else (false,(rc nx (first+i*8^l) (led,b)).2)).2.1,a++(match D.tab (wd ns n i) with
   | none=>wkF D ns rc l n first k (i+1) (led,b)
   | some g=>match fnd ns g with
    | none=>(false,led,b)
    | some nx=>if (rc nx (first+i*8^l) (led,b)).1=true then wkF D ns rc l n first k (i+1) (rc nx (first+i*8^l) (led,b)).2 else (false,(rc nx (first+i*8^l) (led,b)).2)).2.2):=by
   intro a b
   cases D.tab (wd ns n i) with
   | none =>
    simp only
    rw [ih led (a++b),ih led b]
    simp
   | some g =>
    simp only
    cases fnd ns g with
    | none=>simp
    | some nx =>
     simp only
     rw [hrc nx _ led (a++b),hrc nx _ led b]
     obtain ⟨⟨b1,l1,h1⟩,hR⟩:∃ R,R=rc nx (first+i*8^l) (led,[]):=⟨_,rfl⟩
     rw [← hR]
     cases b1 with
     | false=>simp
     | true =>
      simp only [if_true]
      rw [ih l1 (a++b++h1),ih l1 (b++h1)]
      simp
  simp only [wkF]
  cases h:D.ok l (wd ns n i) with
  | false=>simp
  | true =>
   simp only [Bool.true_eq_false,if_false]
   split
   ·simp
   ·cases h2:D.hug (wd ns n i) with
    | true =>
     simp only [if_true]
     exact key hs [(((first+i*8^l)/8:Nat):Int)]
    | false =>
     simp only [Bool.false_eq_true,if_false]
     have:=key hs []
     rw [List.append_nil] at this
     exact this
theorem wk_hom {D:Wd} {ns:NdL}:∀ {l:Nat},Hom (wk D ns l)
 | 0=>fun n f led hs=>by
  simp only [wk]
  split
  ·simp
  ·exact wkF_hom (rc:=fun _ _ st=>(false,st)) (fun _ _ _ _=>by simp) 8 0 _ _
 | l+1=>fun n f led hs=>by
  simp only [wk]
  split
  ·simp
  ·exact wkF_hom (wk_hom (l:=l)) 8 0 _ _
theorem fstG_fnd {ns:List Nd} {f:Int}:fstG (fun n=>decide (n.1=f)) ns=match fnd ns f with
  | some i=>(i:Int)
  | none=>-1:=by
 unfold fstG fnd
 split<;>rfl
def admR (ds:List Dp) (g:Int):Bool:=decide (0≤fstG (fun n:Dp=>decide (n.1=g)) ds)
abbrev WR (ds:List Dp):Wd:=WD (admR ds)
abbrev RwD:=Tb×Nat×Nat×List Bool×Nat
def rwA (l:Nat) (x:RwD):List AV:=[TbV x.1,I x.2.1,I l,I x.2.2.1,.sl 0 1 1 0 x.2.2.2.1.length,.bp 1 0]
def rwM (led:List Bool) (c:Nat):List AO:=[.vec 1 1 false (brows led),.box [I c]]
def rwR (l:Nat) (x:RwD):Bool×WSt:=wk (WR x.1.2.2) x.1.2.1 l x.2.1 x.2.2.1 (x.2.2.2.1,[])
def rwOK (l:Nat) (x:RwD):Prop:=tbOK x.1∧x.2.1<x.1.2.1.length∧x.2.2.1≤ckF l∧x.2.2.2.1.length=x.1.2.1.length∧x.2.2.2.2≤ckH l
noncomputable def rwS (l:Nat):List AV→List AO→Option (AV×List AO):=specG (ι:={x:RwD // rwOK l x}) (fun x=>rwA l x.1) (fun x=>rwM x.1.2.2.2.1 x.1.2.2.2.2) (fun x=>rtO [B (rwR l x.1).1]) fun x=>rwM (rwR l x.1).2.1 (x.1.2.2.2.2+(rwR l x.1).2.2.length)
theorem rwS_at {l:Nat} {x:RwD} (h:rwOK l x):rwS l (rwA l x) (rwM x.2.2.2.1 x.2.2.2.2)=some (B (rwR l x).1,rwM (rwR l x).2.1 (x.2.2.2.2+(rwR l x).2.2.length)):=by
 refine sGe (ι:={x:RwD // rwOK l x}) (A:=fun x=>rwA l x.1) (M:=fun x=>rwM x.1.2.2.2.1 x.1.2.2.2.2) (R:=fun x=>rtO [B (rwR l x.1).1]) ⟨x,h⟩ fun j hA hM=>?_
 obtain ⟨⟨t,n,f,led,c⟩,hj⟩:=j
 obtain ⟨t',n',f',led',c'⟩:=x
 simp only [rwA,rwM,I,cJ,AV.v.injEq,Value.int.injEq,true_and,and_true,AO.box.injEq,AO.vec.injEq,brows_inj,TbJ] at hA hM
 obtain ⟨rfl,e1,e2,_⟩:=hA
 have e1:n=n':=by omega
 have e2:f=f':=by omega
 obtain ⟨rfl,e3⟩:=hM
 have e3:c=c':=by omega
 subst e1 e2 e3
 exact ⟨rfl,rfl⟩
set_option maxHeartbeats 2000000 in
set_option maxRecDepth 4000 in
theorem callRw {l:Nat} {t:Tb} {n f:Nat} {led:List Bool} {c:Nat} (h:rwOK l (t,n,f,led,c)) {fl1:Bool} (M:Nat→AO) (nid:Nat)
  (h0:M 0=.vec 1 1 fl1 (brows led)) (h1:M 1=.box [I c]) :
  caG (rwS l) [.agg [I t.1,.rd 9 (nrw t.2.1),.rd 2 (prw t.2.2)],I n,I l,I f,.sl 0 1 1 0 led.length,.bp 1 0] M nid=some (B (rwR l (t,n,f,led,c)).1,[(0,.vec 1 1 false (brows (rwR l (t,n,f,led,c)).2.1)),(1,.box [I ((c+(rwR l (t,n,f,led,c)).2.2.length:Nat):Int)])]):=by
 have hF:=rwS_at h
 simp only [rwA,rwM,TbV] at hF
 obtain ⟨R,hR⟩:∃ R,R=rwR l (t,n,f,led,c):=⟨_,rfl⟩
 rw [← hR] at hF ⊢
 unfold caG
 have hg:gat M 64 (nmsL [.agg [I t.1,.rd 9 (nrw t.2.1),.rd 2 (prw t.2.2)],I n,I l,I f,.sl 0 1 1 0 led.length,.bp 1 0]) []=[0,1]:=by
  simp [gat,nmsL,AV.nms,AO.nms,h0,h1]
 simp only [hg]
 rw [if_pos ?cg]
 case cg=>simp [CallG,nmsL,AV.nms,AO.nms,Led,curBL,AV.curB,AO.curB,verOf,nDd,h0,h1]
 simp [renL,AV.ren,AO.ren,posN,canO,nmsL,h0,h1,hF,RetG,getL,AV.nms,AO.nms,updN,nmN,shN,verOf,rng,Led]
set_option maxHeartbeats 8000000 in
theorem s123_0 (X:AX) (hX:XOK prog X) (hw:X.W wT) (hd:∀ n:Nat,n<2^64→∀ M k,X.call 131 [U n] M k=some (.tup [EnV (decR n).1,I (decR n).2],[]))
  (hsu:∀ (e:En) (l:Nat) M n,X.call 132 [EnV e,I l] M n=some (B (suitB e l),[])) (hfi:∀ (t:Tb) f,tbOK t→∀ M n,X.call 122 [TbV t,I f] M n=some (I (fstG (fun n=>decide (n.1=f)) t.2.1),[]))
  (hde:∀ (t:Tb) f,tbOK t→∀ M n,X.call 124 [TbV t,I f] M n=some (I (fstG (fun n=>decide (n.1=f)) t.2.2),[])):GSd prog 123 (rwS 0):=by
 unfold rwS
 refine gsS func123 rfl X fun ⟨⟨⟨r,ns,ds⟩,n,first,led,c⟩,hx⟩ w0 L E=>⟨by show 6≤96;decide,?_⟩
 obtain ⟨ht,hn,hf,hled,hcc⟩:=hx
 simp only [ckF,ckH] at ht hn hf hled hcc
 show AW ⟨prog,X,96,w0,⟨L,E,2⟩⟩ _ _ _
 have hc:Cx.OK ⟨prog,X,96,w0,⟨L,E,2⟩⟩:=⟨hX,mixed⟩
 have hl1:ns.length≤1000000:=ht.2.1
 have hfi':=fun f=>hfi (r,ns,ds) f ht
 have hde':=fun f=>hde (r,ns,ds) f ht
 obtain ⟨R,hR⟩:∃ R,R=rwR 0 ((r,ns,ds),n,first,led,c):=⟨_,rfl⟩
 simp only [← hR,rwM,rwA,TbV]
 simp only [TbV] at hfi' hde'
 have hnl:n<led.length:=by omega
 have hnI:(n:Int)<(led.length:Int):=by omega
 have hnN:(n:Int)<(ns.length:Int):=by omega
 have hg0:=brows_gi hnl
 have hgE0:=brows_gE hnl
 unfold rwR at hR
 simp only at hR
 rw [wk] at hR
 cases hb:led.getD n false with
 | true =>
  rw [hb] at hR hg0 hgE0
  simp only [if_true] at hR
  subst hR
  simp only
  have zS:=jj hnl<|jj hnI<|jj hg0<|hgE0
  refine dM64 ?_
  repeat (intro K hK)
  clear zS
  refine ⟨by simp,_,by simp [aRs,aRt,f123];rfl,?_⟩
  simp only [List.length_nil,Nat.add_zero,idx]
  exact dle
 | false =>
  rw [hb] at hR hg0 hgE0
  simp only [Bool.false_eq_true,if_false] at hR
  have hset:=@brows_set led n true
  obtain ⟨led1,hl1⟩:∃ l,l=led.set n true:=⟨_,rfl⟩
  have hled1:led1.length=led.length:=by rw [hl1];simp
  rw [← hl1] at hR hset
  have hgn:=nrG hn
  have hgnE:=nrE hn
  have h8:(gn ns n).2.length=8:=(ht.1 _ (gn_mem hn)).1
  have hw8:=fun i (h:i<8)=>wcs_gi (l:=(gn ns n).2) (i:=i) (by omega)
  have hwE:=fun i (h:i<8)=>wcs_gE (l:=(gn ns n).2) (i:=i) (by omega)
  have hwg:∀ i,(gn ns n).2.getD i 0=wd ns n i:=fun _=>rfl
  simp only [hwg] at hw8 hwE
  have hwl:(wcs (gn ns n).2).length=8:=by simp [h8]
  obtain ⟨⟨fr,ws⟩,hm⟩:∃ m,m=gn ns n:=⟨_,rfl⟩
  rw [← hm] at hgn hgnE hw8 hwE hwl
  simp only at hgn hgnE hw8 hwE hwl
  obtain ⟨cs,hcs⟩:∃ cs,cs=wcs ws:=⟨_,rfl⟩
  rw [← hcs] at hgn hgnE hw8 hwE hwl
  have hcu:∀ m,AV.underL m cs:=fun m=>underL_iff.2 fun a ha=>by
   rw [hcs] at ha
   obtain ⟨w,_,rfl⟩:=List.mem_map.1 ha
   trivial
  clear hcs hm h8 hwg
  have hct:List.take 8 cs=cs:=tkL (by omega)
  have zS:=jj hnl<|jj hnI<|jj hg0<|jj hgE0<|jj hset<|jj hgn<|jj hgnE<|jj hn<|jj hnN<|jj hwl<|hct
  repeat' (first|(refine aSk fun K hK=>?_)|(refine eM64 ?_)|(refine eC (fun h=>?_) (fun h=>?_)<;>(try simp at h))|(refine hK _ ?_;clear hK)|(clear hK;refine hK _ ?_;clear hK))
  all_goals clear zS
  obtain ⟨ln,hln⟩:∃ ln,ln=led.length:=⟨_,rfl⟩
  have hRl:R.2.1.length=ln:=by rw [hR,(wkF_adds (b:=0) (fun _ _ _=>by simp) 8 0 (led1,[])).1,hln];exact hled1
  rw [← hln]
  refine aLK (s0:=?lps1) (m0:=?lpm1) (ι:={s:Nat×List Bool×List Int // s.1≤8∧s.2.1.length=ln∧s.2.2.length≤1*s.1∧wkF (WR ds) ns (fun _ _ st=>(false,st)) 0 n first (8 - s.1) s.1 (s.2.1,s.2.2)=R}) [2,3,4,5,6,31] (fun s=>[(32,I s.1.1)]) (fun s=>[(0,.vec 1 1 false (brows s.1.2.1)),(1,.box [I ((c+s.1.2.2.length:Nat):Int)])]) (fun s=>8 - s.1.1) ⟨(0,led1,[]),by simp,by simp only;omega,by simp,hR.symm⟩ ?lhs1 ?lhm1 ?_ ?_
  case lhs1=>first|(simp [kpS];done)|(simp [kpS];rfl)
  case lhm1=>first|rfl|(simp;done)|(simp;rfl)
  ·simp only [List.length_nil,Nat.add_zero]
   exact le_of3
  ·clear hR hset hg0 hgE0 hb hnl hnI
   clear hl1
   rintro ⟨⟨i,led2,hs2⟩,hi,hl2,hb2,hst⟩
   simp only at hi hl2 hb2 hst ⊢
   obtain ⟨cn,hcn⟩:∃ cn,cn=c+hs2.length:=⟨_,rfl⟩
   rw [← hcn]
   rcases dE (i<8) with hi8|hi8
   ·have hiI:(i:Int)<8:=by omega
    have hw8:=hw8 i hi8
    have hwE:=hwE i hi8
    have hw64:=wd_lt ht (n:=n) (i:=i) hn
    obtain ⟨k8,hk8⟩:∃ k,8 - i=k+1:=⟨7 - i,by omega⟩
    have hk7:8 - (i+1)=k8:=by omega
    rw [hk8] at hst
    obtain ⟨w,hwd⟩:∃ w,w=wd ns n i:=⟨_,rfl⟩
    simp only at hw64
    rw [← hwd] at hw64 hw8 hwE
    have hd':=hd w hw64
    have bad:=@wkF_bad (WR ds) ns (fun _ _ st=>(false,st)) 0 n first k8 i (led2,hs2)
    have pl:=@wkF_pl (WR ds) ns (fun _ _ st=>(false,st)) 0 n first k8 i (led2,hs2)
    have adm:=@wkF_adm (WR ds) ns (fun _ _ st=>(false,st)) 0 n first k8 i (led2,hs2)
    have hug:=@wkF_hug (WR ds) ns (fun _ _ st=>(false,st)) 0 n first k8 i (led2,hs2)
    have lost:=fun g=>@wkF_lost (WR ds) ns (fun _ _ st=>(false,st)) 0 n first k8 i (led2,hs2) g
    have rcr:=fun g nx=>@wkF_rec (WR ds) ns (fun _ _ st=>(false,st)) 0 n first k8 i (led2,hs2) g nx
    have hone:=(WD_ok (admR ds)).one 0 w
    have hflat:=(WD_ok (admR ds)).flat w
    rw [← hwd] at bad pl hug lost rcr adm
    rw [hst] at bad pl hug lost rcr adm
    have hsu':=fun e=>hsu e 0
    obtain ⟨⟨⟨k,f,d,a,x,h⟩,e⟩,hE⟩:∃ r,r=decR w:=⟨_,rfl⟩
    have hok:(WR ds).ok 0 w=(decide (e=0)&&suitB (k,f,d,a,x,h) 0):=by show okWb 0 w=_;unfold okWb;rw [← hE]
    have hhg:(WR ds).hug w=(decide (k=1)&&h):=by show hugW w=_;unfold hugW;rw [← hE]
    have htb:(WR ds).tab w=if k=4 then some f else none:=by show tabW w=_;unfold tabW;rw [← hE]
    rw [← hE] at hd'
    clear hE
    simp only [EnV,U] at hd' hw8 hwE
    have hsu2:∀ M n,X.call 132 [.agg [I k,I f,B d,B a,B x,B h],I 0] M n=some (B (suitB (k,f,d,a,x,h) 0),[]):=hsu' (k,f,d,a,x,h)
    rcases dE (e=0) with he|he
    ·subst he
     cases hsb:suitB (k,f,d,a,x,h) 0 with
     | false =>
      rw [hsb] at hsu2
      have hfin:=bad (by rw [hok,hsb];rfl)
      subst hfin
      simp only
      clear pl hug lost rcr hone hflat
      have zS:=jj hiI<|jj hi8<|jj hw8<|jj hwE<|jj hwl<|jj hd'<|hsu2
      repeat' (first|(refine aSk fun K hK=>?_)|(refine eM64 ?_)|(refine eC (fun h=>?_) (fun h=>?_)<;>(try simp at h))|(refine hK _ ?_;clear hK)|clear hK)
      all_goals clear zS
      refine ⟨by simp,_,by simp [aRs,aRt,f123];rfl,?_⟩
      try simp only [← hcn]
      simp only [idx]
      exact le_of3
     | true =>
      rw [hsb] at hsu2
      have hok1:(WR ds).ok 0 w=true:=by rw [hok,hsb];rfl
      rcases dE (k=1∧h=true) with hk|hk
      ·obtain ⟨rfl,rfl⟩:=hk
       exact absurd (hone hok1 (by rw [hhg];rfl)) (by decide)
      ·have hhf:(decide (k=1)&&h)=false:=by
        rw [Bool.eq_false_iff];intro hh;simp only [Bool.and_eq_true,decide_eq_true_eq] at hh;exact hk hh
       rw [hhf] at hhg
       rcases dE (k=4) with hk4|hk4
       ·subst hk4
        have:=hflat hok1
        rw [htb] at this
        simp at this
       ·have hfin:=pl hok1 hhg (by rw [htb,if_neg hk4])
        clear bad hug lost rcr hone hflat
        rcases dE (k=1) with hk1|hk1
        ·subst hk1
         have hh0:h=false:=by cases h with|false=>rfl|true=>exact absurd ⟨rfl,rfl⟩ hk
         subst hh0
         have zS:=jj hiI<|jj hi8<|jj hw8<|jj hwE<|jj hwl<|jj hd'<|hsu2
         repeat' (first|(refine aSk fun K hK=>?_)|(refine eM64 ?_)|(refine eC (fun h=>?_) (fun h=>?_)<;>(try simp at h))|(refine hK _ ?_;clear hK)|clear hK)
         all_goals clear zS
         refine ⟨i+1,led2,hs2,?_,⟨by omega,hl2,by omega,by rw [hk7];exact hfin.symm⟩,by omega⟩
         try simp only [← hcn]
         exact le_of3
        ·have zS:=jj hiI<|jj hi8<|jj hw8<|jj hwE<|jj hwl<|jj hd'<|jj hsu2<|jj hk1<|hk4
         repeat' (first|(refine aSk fun K hK=>?_)|(refine eM64 ?_)|(refine eC (fun h=>?_) (fun h=>?_)<;>(try simp at h))|(refine hK _ ?_;clear hK)|clear hK)
         all_goals clear zS
         refine ⟨i+1,led2,hs2,?_,⟨by omega,hl2,by omega,by rw [hk7];exact hfin.symm⟩,by omega⟩
         try simp only [← hcn]
         exact le_of3
    ·have hfin:=bad (by rw [hok];simp [he])
     subst hfin
     simp only
     clear pl hug lost rcr hone hflat
     have zS:=jj hiI<|jj hi8<|jj hw8<|jj hwE<|jj hwl<|jj hd'<|he
     repeat' (first|(refine aSk fun K hK=>?_)|(refine eM64 ?_)|(refine eC (fun h=>?_) (fun h=>?_)<;>(try simp at h))|(refine hK _ ?_;clear hK)|clear hK)
     all_goals clear zS
     refine ⟨by simp,_,by simp [aRs,aRt,f123];rfl,?_⟩
     try simp only [← hcn]
     simp only [idx]
     exact le_of3
   ·obtain rfl:i=8:=by omega
    simp only [Nat.sub_self,wkF] at hst
    subst hst
    simp only
    repeat' (first|(refine aSk fun K hK=>?_)|(refine eMo ?_)|(refine eC (fun h=>?_) (fun h=>?_)<;>(try simp at h))|(refine hK _ ?_;clear hK)|clear hK)
    refine ⟨by simp,_,by simp [aRs,aRt,f123];rfl,?_⟩
    try simp only [← hcn]
    simp only [idx]
    exact le_of3
end Go.AM
