/- A part of the proof. -/
import Derived.Test.YtcfhmdljeeppfaaGreatCMm4
import Derived.Test.YtcfhmdljeeppfaaGreatCPt36
import Derived.Test.YtcfhmdljeeppfaaGreatCPt27
import Derived.Test.YtcfhmdljeeppfaaGreatCAmW
import Derived.Maps.RangeRun
set_option linter.all false
namespace Go.AM
open Go Go.Proofs Tryz
section
variable {M M':Mm} {root:Int} {p p':Nat}
theorem frP1 (hp:p<512):frP WA M root 1 (p/64)=tabW (wM M root (p/64)):=by
 simp only [frP,Option.bind_some]
 rw [show p/64%8=p/64 by omega];rfl
theorem frP2:frP WA M root 2 (p/8)=(frP WA M root 1 (p/64)).bind fun f=>tabW (wM M f (p/8%8)):=by
 show (frP WA M root 1 (p/8/8)).bind _=_
 rw [show p/8/8=p/64 by omega]
 rfl
theorem posL (hp:p<512) {l:Nat} (hl:l≤2):(2 - l,p/8^(l+1))∈Pos:=by
 rcases (by omega:l=0∨l=1∨l=2) with rfl|rfl|rfl<;>rw [mem_Pos]<;>simp<;>omega
theorem wlk_same (hp:p<512) (h:∀ l,l≤2→∀ f,frP WA M root (2 - l) (p/8^(l+1))=some f→wM M' f (dgt p l)=wM M f (dgt p l)):wlk M' root p=wlk M root p:=by
 have h2:wM M' root (p/64)=wM M root (p/64):=by
  have:=h 2 (by omega) root rfl
  rwa [dgt2 hp] at this
 have h1:∀ f,frP WA M root 1 (p/64)=some f→wM M' f (p/8%8)=wM M f (p/8%8):=fun f hf=>by
  have:=h 1 (by omega) f (by rw [show p/8^(1+1)=p/64 by simp];exact hf)
  rwa [dgt1] at this
 have h0:∀ f,frP WA M root 2 (p/8)=some f→wM M' f (p%8)=wM M f (p%8):=fun f hf=>by
  have:=h 0 (by omega) f (by rw [show p/8^(0+1)=p/8 by simp];exact hf)
  rwa [dgt0] at this
 have e1:frP WA M' root 1 (p/64)=frP WA M root 1 (p/64):=by rw [frP1 hp,frP1 hp,h2]
 have e2:frP WA M' root 2 (p/8)=frP WA M root 2 (p/8):=by
  rw [frP2,frP2,e1]
  cases hx:frP WA M root 1 (p/64) with
  | none=>rfl
  | some f=>simp only [Option.bind_some];rw [h1 f hx]
 unfold wlk
 rw [e2,e1]
 cases hx:frP WA M root 2 (p/8) with
 | some f=>simp only;rw [h0 f hx]
 | none =>
  simp only
  cases hy:frP WA M root 1 (p/64) with
  | some f=>simp only;rw [h1 f hy]
  | none=>simp only;rw [h2]
theorem cell_ne {l:Nat} (h1:p'/8^(l+1)=p/8^(l+1)) (hd:dgt p' l=dgt p l):p'/8^l=p/8^l:=by
 unfold dgt at hd
 rw [Nat.pow_succ,← Nat.div_div_eq_div_mul,← Nat.div_div_eq_div_mul] at h1
 omega
theorem wlk_put_ne (hV:VM WA M root) (hp:p<512) {f:Int} {l w0 w:Nat} (hw:wlk M root p=(f,l,w0)) (hM:M'=updW M f (dgt p l) w) (hp':p'<512) (hne:p'/8^l≠p/8^l):wlk M' root p'=wlk M root p':=by
 obtain ⟨a1,a2,a3,a4,a5,a6⟩:=wlk_at hV hp hw
 obtain ⟨ws,c1,c2,_⟩:=hV.nd _ _ a2 f a3
 refine wlk_same hp' fun l' hl' f' hf'=>?_
 rw [hM,wM_updW c1 (by have:=dgt_lt p l;omega),if_neg]
 rintro ⟨rfl,hd⟩
 obtain ⟨i1,i2⟩:=hV.inj _ _ _ _ (posL hp' hl') a2 _ hf' a3
 obtain rfl:l'=l:=by omega
 exact hne (cell_ne i2 hd)
theorem wlk_grow_ne (hV:VM WA M root) (hp:p<512) {f:Int} {l w x:Nat} {g:Int} (hw:wlk M root p=(f,l,w)) (hg:M g=none) (hM:M'=updM1 (updW M f (dgt p l) x) g (some zs8)) (hp':p'<512) (hne:p'/8^l≠p/8^l):wlk M' root p'=wlk M root p':=by
 obtain ⟨a1,a2,a3,a4,a5,a6⟩:=wlk_at hV hp hw
 obtain ⟨ws,c1,c2,_⟩:=hV.nd _ _ a2 f a3
 refine wlk_same hp' fun l' hl' f' hf'=>?_
 obtain ⟨ws',c1',_⟩:=hV.nd _ _ (posL hp' hl') f' hf'
 rw [hM,wM_updM1,if_neg (by rintro rfl;rw [hg] at c1';cases c1'),wM_updW c1 (by have:=dgt_lt p l;omega),if_neg]
 rintro ⟨rfl,hd⟩
 obtain ⟨i1,i2⟩:=hV.inj _ _ _ _ (posL hp' hl') a2 _ hf' a3
 obtain rfl:l'=l:=by omega
 exact hne (cell_ne i2 hd)
theorem hugW_tab {x:Nat} {f:Int} (h:tabW x=some f):hugW x=false:=by
 obtain ⟨h1,h2,h3⟩:=tabW_inv h
 unfold hugW
 rw [h3,decR_tw (by omega)]
 rfl
theorem hBw (hV:VM WA M root) {g:Nat} (hg:g<64) {f:Int} {l w:Nat} (hw:wlk M root (g*8)=(f,l,w)):hugB M root g=(decide (l=1)&&hugW w):=by
 have hp:g*8<512:=by omega
 obtain ⟨a1,a2,a3,a4,a5,a6⟩:=wlk_at hV hp hw
 have e1:g*8/64=g/8:=by omega
 have e2:g*8/8=g:=by omega
 rcases (by omega:l=0∨l=1∨l=2) with rfl|rfl|rfl
 ·rw [show g*8/8^(0+1)=g*8/8 by simp] at a3
  have a3':frP WA M root 2 (g*8/8)=some f:=a3
  rw [frP2,e1,e2] at a3'
  unfold hugB
  cases hx:frP WA M root 1 (g/8) with
  | none=>rfl
  | some f1 =>
   rw [hx] at a3'
   simp only [Option.bind_some] at a3'
   simp only
   rw [hugW_tab a3'];rfl
 ·rw [show g*8/8^(1+1)=g*8/64 by simp,e1] at a3
  have a3':frP WA M root 1 (g/8)=some f:=a3
  rw [dgt1,e2] at a4
  unfold hugB
  rw [a3']
  simp only
  rw [← a4];simp
 ·have a3':frP WA M root 0 (g*8/8^(2+1))=some f:=a3
  simp only [frP,oJ] at a3'
  subst a3'
  rw [dgt2 hp] at a4
  have:frP WA M root 1 (g/8)=none:=by rw [← e1,frP1 hp,← a4,a5]
  unfold hugB
  rw [this];rfl
end
theorem spl_map {r:Int} {ns:NdL} {ds:List Dp} (hv:Vt (r,ns,ds)) (ht:tbOK (r,ns,ds)) (hl9:ns.length≤999000) {g p:Nat} (hg:g<64) (hpg:p=g*8) {f0:Int} {w:Nat} (hw:wlk (Mof ns) r p=(f0,1,w)) (hh:(decR w).1.2.2.2.2.2=true) :
    ∃ F:Nat,(gp ds (lowD ds g)).2=F∧F≤4294967295∧(∀ n∈ns,n.1≠(F:Int))∧lowD ds g<ds.length ∧
      (let S:=spN r ds p w (spB (r,ns,ds) p (gp ds (lowD ds g)).2) 8
       Pv (r,S,ds)∧tbOK (r,S,ds)∧S.length=ns.length+1∧(∀ i,i<8→wlk (Mof S) r (p+i)=((F:Int),0,spW w i)) ∧
       (Mof S=updM1 (updW (Mof ns) f0 (dgt p 1) (F*256+4)) F (some ((List.range 8).map (spW w)))) ∧
       ∀ p',p'<512→p'/8≠g→wlk (Mof S) r p'=wlk (Mof ns) r p'):=by
  have hpv:=hv.pv
  have hp:p<512:=by omega
  obtain ⟨s0,s1,⟨F,sF,sF2,sC⟩,s4⟩:=split_steps hv ht hl9 hg hpg hw hh
  simp only at s4
  obtain ⟨s5,s6⟩:=s4
  have hfn:∀ n∈ns,n.1≠(F:Int):=fun n hn=>by rw [← sF];exact hv.num.apart _ (gp_mem s1) n hn
  obtain ⟨c1,c2,c3,c4,c5⟩:=hpv.put ht hp hw (w:=0) (by omega) tab0 (ok0 1)
  have c6:=wlk_put_self hpv.vm hp hw (w:=0) tab0 c3 c4
  have hspB:spB (r,ns,ds) p (gp ds (lowD ds g)).2=stD r ds p (putT (r,ns,ds) p 0).2.1 F:=by unfold spB;rw [sF]
  have hfr1:∀ n∈(putT (r,ns,ds) p 0).2.1,n.1≠(F:Int):=setN_fr (lsT_lt hpv hp).1 hfn
  rw [hspB] at s5 s6 ⊢
  obtain ⟨N1,hN1⟩:∃ N1,N1=(putT (r,ns,ds) p 0).2.1:=⟨_,rfl⟩
  rw [← hN1] at c1 c2 c3 c4 c5 c6 hfr1 s5 s6 ⊢
  obtain ⟨d1,d2,d3,d4,d5,d6⟩:=c1.grow c2 hp sF2 hfr1 (l:=0) c6 (by omega)
  obtain ⟨e1,e2,e3,e4,e5⟩:=s6 8 (by omega)
  obtain ⟨N,hN⟩:∃ N,N=stD r ds p N1 F:=⟨_,rfl⟩
  rw [← hN] at d1 d2 d3 d4 d5 d6 s5 e1 e2 e3 e4 e5 ⊢
  have hM1:Mof N1 F=none:=(Mof_none c1.asc).2 hfr1
  have hpl:frP WA (Mof N) r 2 g=some (F:Int):=by
    have:=(wlk_at d1.vm hp d4).2.2.1
    simp only at this
    have e:p/8^(0+1)=g:=by simp;omega
    rw [e] at this;exact this
  rw [sF] at e4 e5
  refine ⟨F,sF,sF2,hfn,s1,e1,e2,by rw [e3,s5],fun i hi=>by have:=e4 i hi;rwa [if_pos hi] at this,?_,fun p' hp' hne=>?_⟩
  · rw [e5]
    funext x
    unfold updM1
    by_cases hx:x=(F:Int)
    · rw [if_pos hx,if_pos hx]
      congr 1
    · rw [if_neg hx,if_neg hx,d3]
      unfold updM1
      rw [if_neg hx,c3]
      unfold updW
      by_cases h0:x=f0
      · rw [if_pos h0,if_pos h0]
        cases Mof ns f0<;>simp [h0]
      · rw [if_neg h0,if_neg h0,if_neg h0]
  · have k1:p'/8^1≠p/8^1:=by simp;omega
    have w1:wlk (Mof N1) r p'=wlk (Mof ns) r p':=wlk_put_ne hpv.vm hp hw c3 hp' k1
    have w2:wlk (Mof N) r p'=wlk (Mof N1) r p':=wlk_grow_ne c1.vm hp c6 hM1 d3 hp' k1
    rw [← w1,← w2]
    refine wlk_same hp' fun l' hl' f' hf'=>?_
    rw [e5]
    unfold wM
    simp only
    rw [if_neg]
    rintro rfl
    obtain ⟨i1,i2⟩:=d1.vm.inj _ _ _ _ (posL hp' hl') (Pos2 hg) _ hf' hpl
    obtain rfl:l'=0:=by omega
    simp at i2
    exact hne i2
theorem pw_ne {α β:Type} {f:α→β}:∀ {l:List α},l.Pairwise (fun a b=>f a≠f b)→∀ a∈l,∀ b∈l,a≠b→f a≠f b
 | [],_,a,ha,_,_,_=>by simp at ha
 | x::l,h,a,ha,b,hb,e=>by
  rw [List.pairwise_cons] at h
  rcases List.mem_cons.1 ha with ea|ha'
  ·rcases List.mem_cons.1 hb with eb|hb'
   ·exact absurd (ea.trans eb.symm) e
   ·rw [ea];exact h.1 b hb'
  ·rcases List.mem_cons.1 hb with eb|hb'
   ·rw [eb];exact fun k=>h.1 a ha' k.symm
   ·exact pw_ne h.2 a ha' b hb' e
theorem spl_vt {r:Int} {ns:NdL} {ds:List Dp} (hv:Vt (r,ns,ds)) (ht:tbOK (r,ns,ds)) (hl9:ns.length≤999000) {g:Nat} (hg:g<64) {f0:Int} {w:Nat} (hw:wlk (Mof ns) r (g*8)=(f0,1,w)) (hh:(decR w).1.2.2.2.2.2=true) :
  Vt (splN (r,ns,ds) g w)∧tbOK (splN (r,ns,ds) g w)∧(gp ds (lowD ds g)).1=g∧(splN (r,ns,ds) g w).2.2=delK ds (g:Int):=by
 obtain ⟨F,h1,h2,h3,h4,h5,h6,h7,h8,h9,h10⟩:=spl_map hv ht hl9 hg rfl hw hh
 obtain ⟨s0,_⟩:=split_steps hv ht hl9 hg rfl hw hh
 have hgB:hugB (Mof ns) r g=true:=by
  rw [hBw hv.vm hg hw]
  unfold hugW
  rw [kind_huge s0 hh,hh];rfl
 have hgm:(g:Int)∈ds.map (·.1):=by
  have:=hv.dep
  simp only at this
  rw [this]
  exact mem_hugM.2 ⟨g,hg,rfl,hgB⟩
 obtain ⟨_,k2⟩:=lowD_key (ds:=ds) hv.num.dasc hgm
 have hdl:=(delL_eq hv.num.dasc h4 k2).1
 have hS:splN (r,ns,ds) g w=(r,spN r ds (g*8) w (spB (r,ns,ds) (g*8) (gp ds (lowD ds g)).2) 8,delK ds (g:Int)):=by unfold splN;rw [hdl]
 rw [hS]
 obtain ⟨S,hSS⟩:∃ S,S=spN r ds (g*8) w (spB (r,ns,ds) (g*8) (gp ds (lowD ds g)).2) 8:=⟨_,rfl⟩
 rw [← hSS] at h5 h6 h7 h8 h9 h10 ⊢
 have hfr:∀ n∈S,n.1=(F:Int)∨∃ m∈ns,m.1=n.1:=fun n hn=>by
  have e:=(mMo h5.asc (f:=n.1) (ws:=n.2)).1 hn
  by_cases hx:n.1=(F:Int)
  ·exact .inl hx
  ·right
   rw [h9] at e
   unfold updM1 updW at e
   rw [if_neg hx] at e
   cases hm:Mof ns n.1 with
   | none =>
    split at e
    ·rename_i h0;rw [← h0,hm] at e;simp at e
    ·rw [hm] at e;simp at e
   | some ws=>exact ⟨(n.1,ws),(mMo hv.num.asc).2 hm,rfl⟩
 refine ⟨⟨⟨fun n hn=>?_,fun d hd=>hv.num.df d (mem_delK.1 hd).1,h5.asc,delK_asc hv.num.dasc,fun d hd n hn=>?_,List.Pairwise.filter _ hv.num.once,?_⟩,h5.vm,?_⟩,⟨h6.1,h6.2.1,?_⟩,k2,rfl⟩
 ·rcases hfr n hn with e|⟨m,hm,e⟩
  ·rw [e];exact ⟨by omega,by omega⟩
  ·rw [← e];exact hv.num.fr m hm
 ·obtain ⟨d1,d2⟩:=mem_delK.1 hd
  rcases hfr n hn with e|⟨m,hm,e⟩
  ·rw [e,← h1]
   exact pw_ne (f:=fun d:Dp=>d.2) hv.num.once _ (gp_mem h4) _ d1 (fun k=>d2 (by rw [← k];exact k2))
  ·rw [← e];exact hv.num.apart d d1 m hm
 ·obtain ⟨ws,m1,_⟩:=h5.vm.nd 0 0 Pos0 r rfl
  exact ⟨(r,ws),(mMo h5.asc).2 m1,rfl⟩
 ·have hd:=hv.dep
  simp only at hd ⊢
  have e1:(delK ds (g:Int)).map (·.1)=(ds.map (·.1)).filter fun x=>decide (x≠(g:Int)):=by
   unfold delK;rw [List.filter_map];rfl
  rw [e1,hd]
  unfold hugM
  rw [List.filter_map,List.filter_filter]
  congr 1
  refine List.filter_congr fun k hk=>?_
  have hk:=List.mem_range.1 hk
  simp only [Function.comp]
  by_cases e:k=g
  ·subst e
   have:=h8 0 (by omega)
   rw [Nat.add_zero] at this
   rw [hBw h5.vm hk this]
   simp
  ·obtain ⟨f',l',w',hwk⟩:∃ f l w,wlk (Mof ns) r (k*8)=(f,l,w):=⟨_,_,_,rfl⟩
   have hwk2:=h10 (k*8) (by omega) (by omega)
   rw [hwk] at hwk2
   rw [hBw h5.vm hk hwk2,hBw hv.vm hk hwk]
   have:decide ((k:Int)≠(g:Int))=true:=decide_eq_true (by omega)
   rw [this,Bool.true_and]
 ·have h:=ht.2.2
  simp only at h ⊢
  exact Nat.le_trans (List.length_filter_le _ _) h
end Go.AM
namespace Go.AM
open Go Go.Proofs Tryz
section
variable {M M':Mm} {root:Int} {p p':Nat}
end
end Go.AM
namespace Go.AM
open Go Go.Proofs Tryz
section
variable {M M':Mm} {root:Int} {p p':Nat}
theorem cell_up {l:Nat} (h:p'/8^l=p/8^l):p'/8^(l+1)=p/8^(l+1)∧dgt p' l=dgt p l:=by
 refine ⟨?_,by unfold dgt;rw [h]⟩
 rw [Nat.pow_succ,← Nat.div_div_eq_div_mul,← Nat.div_div_eq_div_mul,h]
theorem wlk_cell (hV:VM WA M root) (hp:p<512) {f:Int} {l w:Nat} (hw:wlk M root p=(f,l,w)) (hp':p'<512) (he:p'/8^l=p/8^l):wlk M root p'=(f,l,w):=by
 obtain ⟨a1,a2,a3,a4,a5,a6⟩:=wlk_at hV hp hw
 obtain ⟨c1,c2⟩:=cell_up he
 have:=wlk_of (M:=M) (root:=root) hp' a1 (f:=f) (by rw [c1];exact a3) (.inl (by rw [c2,← a4];exact a5))
 rw [this,c2,← a4]
theorem wlk_grow_eq (hV':VM WA M' root) (hp:p<512) {l:Nat} {g:Int} (hw:wlk M' root p=(g,l,0)) (hg:M' g=some zs8) (hp':p'<512) (he:p'/8^(l+1)=p/8^(l+1)):wlk M' root p'=(g,l,0):=by
 obtain ⟨a1,a2,a3,a4,a5,a6⟩:=wlk_at hV' hp hw
 have hz:wM M' g (dgt p' l)=0:=by unfold wM;rw [hg];exact zs8_getD _
 have:=wlk_of (M:=M') (root:=root) hp' a1 (f:=g) (by rw [he];exact a3) (.inl (by rw [hz];exact tab0))
 rw [this,hz]
end
theorem hugW_0:hugW 0=false:=by unfold hugW;rw [decR_0];rfl
theorem hugM_congr {M M':Mm} {root:Int} (h:∀ k,k<64→hugB M' root k=hugB M root k):hugM M' root=hugM M root:=by
 unfold hugM
 congr 1
 exact List.filter_congr fun k hk=>h k (List.mem_range.1 hk)
theorem vt_grow {r:Int} {ns:NdL} {ds:List Dp} (hv:Vt (r,ns,ds)) (ht:tbOK (r,ns,ds)) {p:Nat} (hp:p<512) {g:Nat} (hg:g≤4294967295) (hn:∀ n∈ns,n.1≠(g:Int)) (hd:∀ d∈ds,d.2≠(g:Int)) {f:Int} {l:Nat} (hw:wlk (Mof ns) r p=(f,l+1,0)) (hlen:ns.length<1000000) :
  Vt (r,stD r ds p ns g,ds)∧tbOK (r,stD r ds p ns g,ds)∧wlk (Mof (stD r ds p ns g)) r p=((g:Int),l,0)∧(stD r ds p ns g).length=ns.length+1 ∧
  ∀ p',p'<512→(wlk (Mof (stD r ds p ns g)) r p').2.2=(wlk (Mof ns) r p').2.2:=by
 obtain ⟨d1,d2,d3,d4,d5,d6⟩:=hv.pv.grow ht hp hg hn hw hlen
 obtain ⟨N,hN⟩:∃ N,N=stD r ds p ns g:=⟨_,rfl⟩
 rw [← hN] at d1 d2 d3 d4 d5 d6 ⊢
 have hMg:Mof ns g=none:=(Mof_none hv.num.asc).2 hn
 have hMf:Mof N g=some zs8:=by rw [d3];simp [updM1]
 have hne:=fun p' (hp':p'<512) (h:p'/8^(l+1)≠p/8^(l+1))=>wlk_grow_ne hv.vm hp hw hMg d3 hp' h
 have heq:=fun p' (hp':p'<512) (h:p'/8^(l+1)=p/8^(l+1))=>wlk_grow_eq d1.vm hp d4 hMf hp' h
 have heq0:=fun p' (hp':p'<512) (h:p'/8^(l+1)=p/8^(l+1))=>wlk_cell hv.vm hp hw hp' h
 refine ⟨⟨⟨fun n hn'=>?_,hv.num.df,d1.asc,hv.num.dasc,fun d hd' n hn'=>?_,hv.num.once,?_⟩,d1.vm,?_⟩,d2,d4,d5,fun p' hp'=>?_⟩
 ·rcases d6 n hn' with e|⟨m,hm,e⟩
  ·rw [e];exact ⟨by omega,by omega⟩
  ·rw [e];exact hv.num.fr m hm
 ·rcases d6 n hn' with e|⟨m,hm,e⟩
  ·rw [e];exact fun k=>hd d hd' k.symm
  ·rw [e];exact hv.num.apart d hd' m hm
 ·obtain ⟨ws,m1,_⟩:=d1.vm.nd 0 0 Pos0 r rfl
  exact ⟨(r,ws),(mMo d1.asc).2 m1,rfl⟩
 ·have hdp:=hv.dep
  simp only at hdp ⊢
  rw [hdp]
  refine (hugM_congr fun k hk=>?_).symm
  have hk8:k*8<512:=by omega
  by_cases h:k*8/8^(l+1)=p/8^(l+1)
  ·rw [hBw d1.vm hk (heq _ hk8 h),hBw hv.vm hk (heq0 _ hk8 h),hugW_0]
   simp
  ·obtain ⟨f',l',w',hwk⟩:∃ f l w,wlk (Mof ns) r (k*8)=(f,l,w):=⟨_,_,_,rfl⟩
   rw [hBw d1.vm hk ((hne _ hk8 h).trans hwk),hBw hv.vm hk hwk]
 ·by_cases h:p'/8^(l+1)=p/8^(l+1)
  ·rw [heq _ hp' h,heq0 _ hp' h]
  ·rw [hne _ hp' h]
theorem vt_put {r:Int} {ns:NdL} {ds:List Dp} (hv:Vt (r,ns,ds)) (ht:tbOK (r,ns,ds)) {p:Nat} (hp:p<512) {f:Int} {l w0 w:Nat} (hw:wlk (Mof ns) r p=(f,l,w0)) (h0:hugW w0=false) (hw64:w<2^64) (htb:tabW w=none) (hok:okWb l w=true) (hh:hugW w=false) :
  Vt (r,(putT (r,ns,ds) p w).2.1,ds)∧tbOK (r,(putT (r,ns,ds) p w).2.1,ds)∧wlk (Mof (putT (r,ns,ds) p w).2.1) r p=(f,l,w)∧(putT (r,ns,ds) p w).2.1.length=ns.length ∧
  ∀ p',p'<512→p'/8^l≠p/8^l→wlk (Mof (putT (r,ns,ds) p w).2.1) r p'=wlk (Mof ns) r p':=by
 obtain ⟨c1,c2,c3,c4,c5⟩:=hv.pv.put ht hp hw hw64 htb hok
 have c6:=wlk_put_self hv.vm hp hw htb c3 c4
 have hnl:=(lsT_lt hv.pv hp).1
 have hfr:∀ n∈(putT (r,ns,ds) p w).2.1,∃ m∈ns,m.1=n.1:=fun n hn=>by
  rcases List.mem_or_eq_of_mem_set hn with h1|h1
  ·exact ⟨n,h1,rfl⟩
  ·exact ⟨_,gn_mem hnl,by rw [h1];rfl⟩
 obtain ⟨N,hN⟩:∃ N,N=(putT (r,ns,ds) p w).2.1:=⟨_,rfl⟩
 rw [← hN] at c1 c2 c3 c4 c5 c6 hfr ⊢
 have hne:=fun p' (hp':p'<512) (h:p'/8^l≠p/8^l)=>wlk_put_ne hv.vm hp hw c3 hp' h
 refine ⟨⟨⟨fun n hn'=>?_,hv.num.df,c1.asc,hv.num.dasc,fun d hd' n hn'=>?_,hv.num.once,?_⟩,c1.vm,?_⟩,c2,c6,c5,hne⟩
 ·obtain ⟨m,hm,e⟩:=hfr n hn'
  rw [← e];exact hv.num.fr m hm
 ·obtain ⟨m,hm,e⟩:=hfr n hn'
  rw [← e];exact hv.num.apart d hd' m hm
 ·obtain ⟨ws,m1,_⟩:=c1.vm.nd 0 0 Pos0 r rfl
  exact ⟨(r,ws),(mMo c1.asc).2 m1,rfl⟩
 ·have hdp:=hv.dep
  simp only at hdp ⊢
  rw [hdp]
  refine (hugM_congr fun k hk=>?_).symm
  have hk8:k*8<512:=by omega
  by_cases h:k*8/8^l=p/8^l
  ·rw [hBw c1.vm hk (wlk_cell c1.vm hp c6 hk8 h),hBw hv.vm hk (wlk_cell hv.vm hp hw hk8 h),hh,h0]
  ·obtain ⟨f',l',w',hwk⟩:∃ f l w,wlk (Mof ns) r (k*8)=(f,l,w):=⟨_,_,_,rfl⟩
   rw [hBw c1.vm hk ((hne _ hk8 h).trans hwk),hBw hv.vm hk hwk]
theorem vt_deep {r:Int} {ns:NdL} {ds:List Dp} (hv:Vt (r,ns,ds)) (ht:tbOK (r,ns,ds)) {p:Nat} (hp:p<512) {fs:List Int} (hu:usB ns ds fs=true) (hlen:ns.length≤999000) {f:Int} {l:Nat} (hw:wlk (Mof ns) r p=(f,l,0)):∀ i,i≤fs.length→i≤l →
  Vt (r,dpN r ds p ns (fs.take i),ds)∧tbOK (r,dpN r ds p ns (fs.take i),ds)∧(∃ f',wlk (Mof (dpN r ds p ns (fs.take i))) r p=(f',l - i,0))∧(dpN r ds p ns (fs.take i)).length=ns.length+i ∧
  (∀ n∈dpN r ds p ns (fs.take i),(∃ m∈ns,n.1=m.1)∨∃ j,j<i∧n.1=gi fs j)∧∀ p',p'<512→(wlk (Mof (dpN r ds p ns (fs.take i))) r p').2.2=(wlk (Mof ns) r p').2.2
 | 0,_,_=>⟨by rw [dpN_0];exact hv,by rw [dpN_0];exact ht,⟨f,by rw [dpN_0];exact hw⟩,by rw [dpN_0];rfl,fun n hn=>.inl ⟨n,by rw [dpN_0] at hn;exact hn,rfl⟩,fun p' _=>by rw [dpN_0]⟩
 | i+1,hi,hil=>by
  have hl2:=(wlk_at hv.vm hp hw).1
  obtain ⟨h1,h2,⟨f',h3⟩,h4,h5,h6⟩:=vt_deep hv ht hp hu hlen hw i (by omega) (by omega)
  obtain ⟨⟨g0,g1⟩,u2,u3,u4⟩:=usB_iff.1 hu i (by omega)
  obtain ⟨g,hg⟩:=Int.eq_ofNat_of_zero_le g0
  rw [dpN_s (by omega)]
  rw [hg] at g1 u2 u3 u4 ⊢
  obtain ⟨L,hL⟩:∃ L,l - i=L+1:=⟨l - i - 1,by omega⟩
  rw [hL] at h3
  have hnew:∀ n∈dpN r ds p ns (fs.take i),n.1≠(g:Int):=fun n hn e=>by
   rcases h5 n hn with ⟨m,hm,k⟩|⟨j,hj,k⟩
   ·exact u2 m hm (by rw [← k];exact e)
   ·exact u4 j hj (by rw [← k];exact e)
  have hdn:∀ d∈ds,d.2≠(g:Int):=fun d hd=>by
   obtain ⟨k,hk,rfl⟩:=List.getElem_of_mem hd
   rw [← gp_eq hk];exact u3 k hk
  obtain ⟨_,_,_,_,_,k6⟩:=h1.pv.grow h2 hp (g:=g) (by omega) hnew h3 (by omega)
  obtain ⟨k1,k2,k3,k4,k5⟩:=vt_grow h1 h2 hp (g:=g) (by omega) hnew hdn h3 (by omega)
  refine ⟨k1,k2,⟨_,by rw [show l - (i+1)=L by omega];exact k3⟩,by rw [k4,h4];omega,fun n hn=>?_,fun p' hp'=>by rw [k5 p' hp',h6 p' hp']⟩
  rcases k6 n hn with e|⟨m,hm,e⟩
  ·exact .inr ⟨i,by omega,by rw [e,hg]⟩
  ·rcases h5 m hm with ⟨m2,hm2,k⟩|⟨j,hj,k⟩
   ·exact .inl ⟨m2,hm2,by rw [e,k]⟩
   ·exact .inr ⟨j,by omega,by rw [e,k]⟩
theorem set_vt {r:Int} {ns:NdL} {ds:List Dp} (ht:tbOK (r,ns,ds)) (hl9:ns.length≤999000) {p:Int} {w:Nat} (hw64:w<2^64) {fs:List Int} {u:Tb} (h:setP (r,ns,ds) p w fs=(u,0)) :
  ∃ (q:Nat) (f f':Int),p=q∧q<512∧Vt (r,ns,ds)∧(decR w).2=0∧hugW w=false∧tabW w=none∧w≠0∧wlk (Mof ns) r q=(f,fs.length,0)∧usB ns ds fs=true ∧
   u=(r,(putT (r,dpN r ds q ns fs,ds) q w).2.1,ds)∧Vt u∧tbOK u∧u.2.1.length=ns.length+fs.length∧wlk (Mof u.2.1) r q=(f',0,w) ∧
   ∀ p',p'<512→p'≠q→(wlk (Mof u.2.1) r p').2.2=(wlk (Mof ns) r p').2.2:=by
 unfold setP at h
 split at h
 ·rename_i hk;simp only [pJ] at h;exact absurd h.2 hk
 rename_i hk
 obtain ⟨hpv,hp0,hp1⟩:=ckd_pt ht hk
 have hv:=ckd_vt ht hk
 obtain ⟨q,rfl⟩:=Int.eq_ofNat_of_zero_le hp0
 have hq:q<512:=by omega
 split at h
 ·simp at h
 rename_i he
 rw [Int.toNat_natCast] at h
 split at h
 ·simp at h
 rename_i h0
 split at h
 ·rename_i hc
  simp only [pJ,and_true] at h
  obtain ⟨hlf,hu⟩:=hc
  have hls:=(hpv.walk hq).2.2
  simp only at hls h0 hlf hu h
  obtain ⟨f,l,w0,hw⟩:∃ f l w,wlk (Mof ns) r q=(f,l,w):=⟨_,_,_,rfl⟩
  rw [hw] at hls
  rw [hls] at hlf h0
  simp only at hlf h0
  obtain rfl:w0=0:=by omega
  have hl2:=(wlk_at hpv.vm hq hw).1
  obtain ⟨d1,d2,⟨f',d3⟩,d4,d5,d6⟩:=vt_deep hv ht hq hu hl9 hw fs.length (Nat.le_refl _) (by omega)
  rw [List.take_length] at d1 d2 d3 d4 d5 d6
  rw [show l - fs.length=0 by omega] at d3
  have hd0:(decR w).2=0:=by
   by_cases k:(decR w).2=0
   ·exact k
   ·exact absurd (.inl k) he
  have hfl:(decR w).1.2.2.2.2.2=false:=by
   cases k:(decR w).1.2.2.2.2.2
   ·rfl
   ·exact absurd (.inr (.inr (.inr k))) he
  have hk4:(decR w).1.1≠4:=fun k=>he (.inr (.inr (.inl k)))
  have hk0:(decR w).1.1≠0:=fun k=>he (.inr (.inl k))
  have hhw:hugW w=false:=by unfold hugW;rw [hfl];simp
  have htb:tabW w=none:=by unfold tabW;rw [if_neg hk4]
  have hw0:w≠0:=fun k=>hk0 (by rw [k,decR_0];rfl)
  have hok:okWb 0 w=true:=by
   unfold okWb suitB
   rw [hd0,if_neg hk0,if_neg hk4,hfl]
   by_cases k1:(decR w).1.1=1<;>simp [k1]
  obtain ⟨e1,e2,e3,e4,e5⟩:=vt_put d1 d2 hq d3 hugW_0 hw64 htb hok hhw
  have hu':u=(r,(putT (r,dpN r ds q ns fs,ds) q w).2.1,ds):=h.symm
  refine ⟨q,f,f',rfl,hq,hv,hd0,hhw,htb,hw0,by rw [hw,hlf],hu,hu',?_⟩
  rw [hu']
  refine ⟨e1,e2,by show (putT _ _ _).2.1.length=_;rw [e4,d4],e3,fun p' hp' hne=>?_⟩
  show (wlk (Mof (putT _ _ _).2.1) r p').2.2=_
  rw [e5 p' hp' (by simpa using hne),d6 p' hp']
 ·simp at h
end Go.AM
namespace Go.AM
open Go Go.Proofs Tryz
section
variable {M M':Mm} {root:Int} {p p':Nat}
theorem wlk_prune_ne (hV:VM WA M root) (hp:p<512) {f g:Int} {l w:Nat} (hw:wlk M root p=(g,l,w)) (hl:l<2) (hx:(1 - l,p/8^(l+2))∈Pos) (hf:frP WA M root (1 - l) (p/8^(l+2))=some f) (hM:M'=updM1 (updW M f (dgt p (l+1)) 0) g none) (hp':p'<512) (hne:p'/8^(l+1)≠p/8^(l+1)):wlk M' root p'=wlk M root p':=by
 obtain ⟨a1,a2,a3,a4,a5,a6⟩:=wlk_at hV hp hw
 obtain ⟨ws,c1,c2,_⟩:=hV.nd _ _ hx f hf
 refine wlk_same hp' fun l' hl' f' hf'=>?_
 have hg':f'≠g:=by
  rintro rfl
  obtain ⟨i1,i2⟩:=hV.inj _ _ _ _ (posL hp' hl') a2 _ hf' a3
  obtain rfl:l'=l:=by omega
  exact hne i2
 rw [hM,wM_updM1,if_neg hg',wM_updW c1 (by have:=dgt_lt p (l+1);omega),if_neg]
 rintro ⟨rfl,hd⟩
 obtain ⟨i1,i2⟩:=hV.inj _ _ _ _ (posL hp' hl') hx _ hf' hf
 obtain rfl:l'=l+1:=by omega
 exact hne (cell_ne i2 hd)
end
theorem vt_round {r:Int} {ns:NdL} {ds:List Dp} (hv:Vt (r,ns,ds)) (ht:tbOK (r,ns,ds)) {p:Nat} (hp:p<512) {g:Int} {l w:Nat} (hw:wlk (Mof ns) r p=(g,l,w)) (hl:l<2) (hz:Mof ns g=some zs8) :
  Vt (r,unl (g.toNat*256+4) (delK ns g),ds)∧tbOK (r,unl (g.toNat*256+4) (delK ns g),ds)∧(∃ f,frP WA (Mof ns) r (1 - l) (p/8^(l+2))=some f∧f≠g∧wlk (Mof (unl (g.toNat*256+4) (delK ns g))) r p=(f,l+1,0)∧Mof (unl (g.toNat*256+4) (delK ns g))=updM1 (updW (Mof ns) f (dgt p (l+1)) 0) g none) ∧
  (∀ n∈unl (g.toNat*256+4) (delK ns g),∃ m∈ns,m.1=n.1)∧(∀ p',p'<512→(wlk (Mof (unl (g.toNat*256+4) (delK ns g))) r p').2.2=(wlk (Mof ns) r p').2.2) ∧
  ∀ d q,(d,q)∈Pos→∀ x,frP WA (Mof (unl (g.toNat*256+4) (delK ns g))) r d q=some x→frP WA (Mof ns) r d q=some x:=by
 obtain ⟨f,k,c1,c2,c3,c4,c5,c6,c7,c8,c9,c10,c11⟩:=round hv.pv ht hp hw hl (zs_leaf hz)
 have hasc2:ascN (unl (g.toNat*256+4) (delK ns g)):=c8.asc
 have hfr:∀ n∈unl (g.toNat*256+4) (delK ns g),∃ m∈ns,m.1=n.1:=fun n hn=>by
  obtain ⟨m,hm,rfl⟩:=List.mem_map.1 hn
  exact ⟨m,(mem_delK.1 hm).1,rfl⟩
 obtain ⟨N,hN⟩:∃ N,N=unl (g.toNat*256+4) (delK ns g):=⟨_,rfl⟩
 rw [← hN] at c7 c8 c9 c10 hfr hasc2 ⊢
 have hx:(1 - l,p/8^(l+2))∈Pos:=by
  have:=posL hp (l:=l+1) (by omega)
  rwa [show 2 - (l+1)=1 - l by omega] at this
 have hw0:w=0:=by
  obtain ⟨a1,a2,a3,a4,a5,a6⟩:=wlk_at hv.vm hp hw
  rw [a4];unfold wM;rw [hz];exact zs8_getD _
 subst hw0
 have hne:=fun p' (hp':p'<512) (h:p'/8^(l+1)≠p/8^(l+1))=>wlk_prune_ne hv.vm hp hw hl hx c1 c7 hp' h
 have heq0:=fun p' (hp':p'<512) (h:p'/8^(l+1)=p/8^(l+1))=>wlk_grow_eq hv.vm hp hw hz hp' h
 have heq:=fun p' (hp':p'<512) (h:p'/8^(l+1)=p/8^(l+1))=>wlk_cell c8.vm hp c10 hp' h
 refine ⟨⟨⟨fun n hn'=>?_,hv.num.df,hasc2,hv.num.dasc,fun d hd' n hn'=>?_,hv.num.once,?_⟩,c8.vm,?_⟩,c9,⟨f,c1,c4,c10,c7⟩,hfr,fun p' hp'=>?_,fun d q hq x hxx=>?_⟩
 ·obtain ⟨m,hm,e⟩:=hfr n hn'
  rw [← e];exact hv.num.fr m hm
 ·obtain ⟨m,hm,e⟩:=hfr n hn'
  rw [← e];exact hv.num.apart d hd' m hm
 ·obtain ⟨ws,m1,_⟩:=c8.vm.nd 0 0 Pos0 r rfl
  exact ⟨(r,ws),(mMo c8.asc).2 m1,rfl⟩
 ·have hdp:=hv.dep
  simp only at hdp ⊢
  rw [hdp]
  refine (hugM_congr fun k hk=>?_).symm
  have hk8:k*8<512:=by omega
  by_cases h:k*8/8^(l+1)=p/8^(l+1)
  ·rw [hBw c8.vm hk (heq _ hk8 h),hBw hv.vm hk (heq0 _ hk8 h),hugW_0]
   simp
  ·obtain ⟨f',l',w',hwk⟩:∃ f l w,wlk (Mof ns) r (k*8)=(f,l,w):=⟨_,_,_,rfl⟩
   rw [hBw c8.vm hk ((hne _ hk8 h).trans hwk),hBw hv.vm hk hwk]
 ·by_cases h:p'/8^(l+1)=p/8^(l+1)
  ·rw [heq _ hp' h,heq0 _ hp' h]
  ·rw [hne _ hp' h]
 ·have hpr:=hv.vm.prune hx (by omega) c1 (dgt_lt p (l+1)) (w:=0) c2 (zs_leaf hz) tab0 (ok0 (2 - (1 - l)))
  rw [c7,hpr.2 d q hq] at hxx
  split at hxx
  ·simp at hxx
  ·exact hxx
theorem clrR_vt {r:Int} {ds:List Dp} {p:Nat} (hp:p<512):∀ (k:Nat) {ns:NdL} (hv:Vt (r,ns,ds)) (ht:tbOK (r,ns,ds)) {g:Int} {l:Nat} (hw:wlk (Mof ns) r p=(g,l,0)) (hk:l+k=2),
  Vt (r,(clrR r ds p k ns).1,ds)∧tbOK (r,(clrR r ds p k ns).1,ds)∧(∃ g' l',wlk (Mof (clrR r ds p k ns).1) r p=(g',l',0)∧(l'=2∨Mof (clrR r ds p k ns).1 g'≠some zs8)) ∧
  (∀ n∈(clrR r ds p k ns).1,∃ m∈ns,m.1=n.1)∧(∀ p',p'<512→(wlk (Mof (clrR r ds p k ns).1) r p').2.2=(wlk (Mof ns) r p').2.2) ∧
  ∀ d q,(d,q)∈Pos→∀ x,frP WA (Mof (clrR r ds p k ns).1) r d q=some x→frP WA (Mof ns) r d q=some x
 | 0,ns,hv,ht,g,l,hw,hk=>⟨hv,ht,⟨g,l,hw,.inl (by omega)⟩,fun n hn=>⟨n,hn,rfl⟩,fun _ _=>rfl,fun _ _ _ _ h=>h⟩
 | k+1,ns,hv,ht,g,l,hw,hk=>by
  obtain ⟨e1,e2,e3,e4,e5⟩:=end_nd hv.pv hp hw
  unfold clrR
  by_cases hz:(gn ns (lsT (r,ns,ds) p).1).2=zs8
  ·rw [if_pos hz]
   simp only
   rw [e3]
   rw [hz] at e4
   obtain ⟨v1,v2,⟨f,v3,v4,v5,v6⟩,v7,v8,v9⟩:=vt_round hv ht hp hw (by omega) e4
   obtain ⟨u1,u2,u3,u4,u5,u6⟩:=clrR_vt hp k v1 v2 v5 (by omega)
   refine ⟨u1,u2,u3,fun n hn=>?_,fun p' hp'=>by rw [u5 p' hp',v8 p' hp'],fun d q hq x hx=>v9 d q hq x (u6 d q hq x hx)⟩
   obtain ⟨m,hm,em⟩:=u4 n hn
   obtain ⟨m2,hm2,em2⟩:=v7 m hm
   exact ⟨m2,hm2,em2.trans em⟩
  ·rw [if_neg hz]
   refine ⟨hv,ht,⟨g,l,hw,.inr ?_⟩,fun n hn=>⟨n,hn,rfl⟩,fun _ _=>rfl,fun _ _ _ _ h=>h⟩
   simp only
   rw [e4]
   simpa using hz
theorem ok_hug0 {w:Nat} (h:okWb 0 w=true):hugW w=false:=by
 unfold okWb suitB at h
 unfold hugW
 by_cases h0:(decR w).1.1=0
 ·simp [h0]
 ·by_cases h4:(decR w).1.1=4
  ·simp [h4]
  ·by_cases h1:(decR w).1.1=1
   ·simp [h1] at h
    simp [h.2]
   ·simp [h1]
theorem clr_at {r:Int} {ns:NdL} {ds:List Dp} (hv:Vt (r,ns,ds)) (ht:tbOK (r,ns,ds)) {p:Nat} (hp:p<512) {f:Int} {w:Nat} (hw:wlk (Mof ns) r p=(f,0,w)) (h0:w≠0) :
  clrP (r,ns,ds) (p:Int)=((r,(clrR r ds p 2 (putT (r,ns,ds) p 0).2.1).1,ds),w,(clrR r ds p 2 (putT (r,ns,ds) p 0).2.1).2,0):=by
 have hck:ckd (r,ns,ds) (p:Int) 512=0:=ckd_z ((chk_iff ht).2 hv) (by omega) (by omega)
 have hls:=(hv.pv.walk hp).2.2
 simp only at hls
 rw [hw] at hls
 have hl:(lsT (r,ns,ds) p).2.1=0:=by rw [hls]
 have hw2:(lsT (r,ns,ds) p).2.2=w:=by rw [hls]
 obtain ⟨k1,k2⟩:=clr_0 hv.pv ht hp hl
 have hst:(putT (r,ns,ds) p 0).2.1=setN ns (lsT (r,ns,ds) p).1 (dgt p 0) 0:=by unfold putT;simp only [hl]
 unfold clrP
 rw [if_neg (by simp [hck]),Int.toNat_natCast,hw2,if_neg h0]
 have ha:clrA (r,ns,ds) p=(clrL p ns (ptL (r,ns,ds) p).reverse).2:=by unfold clrA clrF;rw [if_neg (by omega)];rfl
 have hd:clrD (r,ns,ds) p=ds:=by unfold clrD;rw [if_neg (by omega)]
 rw [ha,hd,hst,k1,k2]
theorem clr_vt {r:Int} {ns:NdL} {ds:List Dp} (hv:Vt (r,ns,ds)) (ht:tbOK (r,ns,ds)) {p:Nat} (hp:p<512) {f:Int} {w:Nat} (hw:wlk (Mof ns) r p=(f,0,w)) (h0:w≠0) :
  ∃ N A,clrP (r,ns,ds) (p:Int)=((r,N,ds),w,A,0)∧Vt (r,N,ds)∧tbOK (r,N,ds)∧(∃ g' l',wlk (Mof N) r p=(g',l',0)∧(l'=2∨Mof N g'≠some zs8)) ∧
  (∀ n∈N,∃ m∈ns,m.1=n.1)∧(∀ p',p'<512→p'≠p→(wlk (Mof N) r p').2.2=(wlk (Mof ns) r p').2.2) ∧
  ∀ d q,(d,q)∈Pos→∀ x,frP WA (Mof N) r d q=some x→frP WA (Mof ns) r d q=some x:=by
 obtain ⟨a1,a2,a3,a4,a5,a6⟩:=wlk_at hv.vm hp hw
 obtain ⟨c1,c2,c3,c4,c5⟩:=vt_put hv ht hp hw (ok_hug0 a6) (w:=0) (by omega) tab0 (ok0 0) hugW_0
 obtain ⟨b1,b2,b3,b4,b5⟩:=hv.pv.put ht hp hw (w:=0) (by omega) tab0 (ok0 _)
 have hfr:∀ n∈(putT (r,ns,ds) p 0).2.1,∃ m∈ns,m.1=n.1:=fun n hn=>by
  rcases List.mem_or_eq_of_mem_set hn with h1|h1
  ·exact ⟨n,h1,rfl⟩
  ·exact ⟨_,gn_mem (lsT_lt hv.pv hp).1,by rw [h1];rfl⟩
 obtain ⟨u1,u2,u3,u4,u5,u6⟩:=clrR_vt hp 2 c1 c2 c3 rfl
 refine ⟨_,_,clr_at hv ht hp hw h0,u1,u2,u3,fun n hn=>?_,fun p' hp' hne=>?_,fun d q hq x hx=>?_⟩
 ·obtain ⟨m,hm,em⟩:=u4 n hn
  obtain ⟨m2,hm2,em2⟩:=hfr m hm
  exact ⟨m2,hm2,em2.trans em⟩
 ·rw [u5 p' hp',c5 p' hp' (by simpa using hne)]
 ·have:=u6 d q hq x hx
  rwa [b4 d q hq] at this
end Go.AM
namespace Go.AM
open Go Go.Proofs Tryz
theorem join_dec {ws:List Nat} (h:(joinR ws).2=0):∃ n:Nat,(joinR ws).1=(n:Int)∧n<2^64∧(decR n).2=0∧(decR n).1.1=1∧(decR n).1.2.2.2.2.2=true ∧
  ∀ i,i<8→(decR (ws.getD i 0)).1.1=1∧(decR (ws.getD i 0)).1.2.1=(decR n).1.2.1+i∧(decR (ws.getD i 0)).1.2.2.1=(decR n).1.2.2.1∧(decR (ws.getD i 0)).1.2.2.2.2.2=false:=by
 unfold joinR joinL at h ⊢
 split at h
 ·rename_i hc
  rw [if_pos hc]
  have hall:=chain_0 (fun p hp hf=>by
   simp only [joinC,List.mem_cons,List.not_mem_nil,or_false] at hp
   rcases hp with rfl|rfl|rfl|rfl|rfl|rfl|rfl|rfl|rfl|rfl|rfl|rfl|rfl|rfl|rfl|rfl|rfl|rfl|rfl|rfl|rfl|rfl|rfl|rfl|rfl|rfl|rfl|rfl|rfl|rfl|rfl|rfl<;>first|(intro h;simp at h;done)|(have:=of_decide_eq_false hf;exact this)) hc
  have hr:=decR_rng (ws.getD 0 0)
  obtain ⟨e0,h0⟩:∃ E,E=decR (ws.getD 0 0):=⟨_,rfl⟩
  obtain ⟨e1,h1⟩:∃ E,E=decR (ws.getD 1 0):=⟨_,rfl⟩
  obtain ⟨e2,h2⟩:∃ E,E=decR (ws.getD 2 0):=⟨_,rfl⟩
  obtain ⟨e3,h3⟩:∃ E,E=decR (ws.getD 3 0):=⟨_,rfl⟩
  obtain ⟨e4,h4⟩:∃ E,E=decR (ws.getD 4 0):=⟨_,rfl⟩
  obtain ⟨e5,h5⟩:∃ E,E=decR (ws.getD 5 0):=⟨_,rfl⟩
  obtain ⟨e6,h6⟩:∃ E,E=decR (ws.getD 6 0):=⟨_,rfl⟩
  obtain ⟨e7,h7⟩:∃ E,E=decR (ws.getD 7 0):=⟨_,rfl⟩
  rw [← h0] at hr
  rw [← h0,← h1,← h2,← h3,← h4,← h5,← h6,← h7] at h ⊢ hall
  simp only [joinC,List.mem_cons,List.not_mem_nil,or_false,forall_eq_or_imp,forall_eq,Bool.and_eq_true,decide_eq_true_eq,beq_iff_eq,Bool.not_eq_true'] at hall
  obtain ⟨_,_,_,_,_,_,_,_,k0,k1,k2,k3,k4,k5,k6,k7,_,f1,f2,f3,f4,f5,f6,f7,_,d1,d2,d3,d4,d5,d6,d7⟩:=hall
  rw [k0.1] at h ⊢
  obtain ⟨a,ha⟩:∃ a:Bool,a=((((((((e0.1.2.2.2.1||e0.1.2.2.2.1)||e1.1.2.2.2.1)||e2.1.2.2.2.1)||e3.1.2.2.2.1)||e4.1.2.2.2.1)||e5.1.2.2.2.1)||e6.1.2.2.2.1)||e7.1.2.2.2.1):=⟨_,rfl⟩
  obtain ⟨d,hd⟩:∃ a:Bool,a=((((((((e0.1.2.2.2.2.1||e0.1.2.2.2.2.1)||e1.1.2.2.2.2.1)||e2.1.2.2.2.2.1)||e3.1.2.2.2.2.1)||e4.1.2.2.2.2.1)||e5.1.2.2.2.2.1)||e6.1.2.2.2.2.1)||e7.1.2.2.2.2.1):=⟨_,rfl⟩
  rw [← ha,← hd] at h ⊢
  by_cases hb:badF (1,e0.1.2.1,e0.1.2.2.1,a,d,true)
  ·rw [encR_f (by simp) hb] at h;simp at h
  ·obtain ⟨n,g1,g2,g3⟩:=decR_enc (k:=1) (f:=e0.1.2.1) (d:=e0.1.2.2.1) (a:=a) (x:=d) (h:=true) (by decide) hr hb rfl
   rw [g1]
   refine ⟨n,rfl,g2,by rw [g3],by rw [g3],by rw [g3],fun i hi=>?_⟩
   rw [g3]
   simp only
   rcases (by omega:i=0∨i=1∨i=2∨i=3∨i=4∨i=5∨i=6∨i=7) with rfl|rfl|rfl|rfl|rfl|rfl|rfl|rfl
   ·rw [← h0];exact ⟨k0.1,by omega,rfl,k0.2⟩
   ·rw [← h1];exact ⟨k1.1,by omega,d1,k1.2⟩
   ·rw [← h2];exact ⟨k2.1,by omega,d2,k2.2⟩
   ·rw [← h3];exact ⟨k3.1,by omega,d3,k3.2⟩
   ·rw [← h4];exact ⟨k4.1,by omega,d4,k4.2⟩
   ·rw [← h5];exact ⟨k5.1,by omega,d5,k5.2⟩
   ·rw [← h6];exact ⟨k6.1,by omega,d6,k6.2⟩
   ·rw [← h7];exact ⟨k7.1,by omega,d7,k7.2⟩
 ·rename_i hc
  exact absurd h hc
theorem int_ext {l m:List Int} (hl:l.Pairwise (·<·)) (hm:m.Pairwise (·<·)) (h:∀ x,x∈l↔x∈m):l=m:=by
 have:=ascK_ext (β:=Unit) (l:=l.map fun x=>(x,())) (m:=m.map fun x=>(x,())) (by unfold ascK;rw [List.pairwise_map];exact hl) (by unfold ascK;rw [List.pairwise_map];exact hm) fun x=>by
  simp only [List.mem_map]
  constructor
  ·rintro ⟨y,hy,rfl⟩;exact ⟨y,(h y).1 hy,rfl⟩
  ·rintro ⟨y,hy,rfl⟩;exact ⟨y,(h y).2 hy,rfl⟩
 have h2:=congrArg (List.map Prod.fst) this
 simpa [List.map_map,Function.comp_def] using h2
theorem insK_once {l:List Dp} {n:Dp} (h:l.Pairwise fun a b=>a.2≠b.2) (hn:∀ a∈l,a.2≠n.2):(insK l n).Pairwise fun a b=>a.2≠b.2:=by
 induction l with
 | nil=>simp [insK]
 | cons a r ih =>
  rw [List.pairwise_cons] at h
  simp only [insK]
  split
  ·refine List.pairwise_cons.2 ⟨fun b hb=>?_,List.pairwise_cons.2 h⟩
   exact fun e=>hn b hb e.symm
  ·refine List.pairwise_cons.2 ⟨fun b hb=>?_,ih h.2 fun b hb=>hn b (by simp [hb])⟩
   rcases mem_insK.1 hb with rfl|hb
   ·exact hn a (by simp)
   ·exact h.1 b hb
theorem asm_vt {r:Int} {ns:NdL} {ds:List Dp} (hv:Vt (r,ns,ds)) (ht:tbOK (r,ns,ds)) (hd9:ds.length≤999000) {g:Nat} (hg:g<64) {u:Tb} (h:asmP (r,ns,ds) g=(u,0)) :
  ∃ (f:Int) (w:Nat) (ws:List Nat) (f1:Int),u.1=r∧u.2.2=insK ds ((g:Int),f)∧Vt u∧tbOK u∧u.2.1.length≤ns.length∧(∀ n∈u.2.1,∃ m∈ns,m.1=n.1)∧(∃ m∈ns,m.1=f) ∧
   joinR ws=((w:Int),0)∧(∀ i,i<8→wlk (Mof ns) r (g*8+i)=(f,0,ws.getD i 0))∧(∀ i,i<8→wlk (Mof u.2.1) r (g*8+i)=(f1,1,w)) ∧
   ∀ p',p'<512→p'/8≠g→wlk (Mof u.2.1) r p'=wlk (Mof ns) r p':=by
 have hp:g*8<512:=by omega
 have hpv:=hv.pv
 have hck:ckd (r,ns,ds) g 64=0:=ckd_z ((chk_iff ht).2 hv) (by omega) (by omega)
 unfold asmP at h
 rw [if_neg (by simp [hck]),Int.toNat_natCast] at h
 split at h
 ·simp at h
 rename_i hl0
 have hl0:(lsT (r,ns,ds) (g*8)).2.1=0:=by simpa using hl0
 split at h
 ·rename_i hj
  rw [pJ] at h;exact absurd h.2 hj
 rename_i hj
 simp only [ne_eq,Decidable.not_not] at hj
 obtain ⟨f,l,w0,hw⟩:∃ f l w,wlk (Mof ns) r (g*8)=(f,l,w):=⟨_,_,_,rfl⟩
 obtain ⟨q1,q2,q3,q4,q5⟩:=end_nd hpv hp hw
 obtain rfl:l=0:=by rw [q2] at hl0;exact hl0
 simp only at hj h
 obtain ⟨n,j1,j2,j3,j4,j5,j6⟩:=join_dec hj
 rw [j1,Int.toNat_natCast] at h
 obtain ⟨n2,w2,n1,w1,g1,fN,a1,a2,a3,a4,a5,a6,a7,a8,a9,a10⟩:=asm_eq hpv ht hp hl0 n
 obtain rfl:f=(fN:Int):=by rw [← q3,a3]
 have htb:tabW n=none:=by unfold tabW;rw [if_neg (by rw [j4];decide)]
 have hok:okWb 1 n=true:=by
  unfold okWb suitB
  rw [j3,j4,j5];simp
 obtain ⟨f00,hfz⟩:∃ x,frP WA (Mof ns) r 2 (g*8/8)=some x∧x=(fN:Int):=by
  have:=(wlk_at hpv.vm hp hw).2.2.1
  exact ⟨_,by simpa using this,rfl⟩
 have hfz:frP WA (Mof ns) r 2 g=some (fN:Int):=by
  rw [← hfz.2,← hfz.1];congr 1;omega
 have hlf:∀ j,j<8→tabW (wM (Mof ns) (fN:Int) j)=none:=fun j hj=>by
  obtain ⟨ws,m1,m2,m3⟩:=hpv.vm.nd 2 g (Pos2 hg) _ hfz
  have:=m3 j hj
  have h1:=(WD_ok fun _=>true).flat _ this
  unfold wM
  rw [m1]
  exact h1
 obtain ⟨f',k,c1,c2,c3,c4,c5,c6,c7,c8,c9,c10,c11⟩:=round hpv ht hp hw (by omega) hlf
 simp only [Int.toNat_natCast,Nat.zero_add] at c2 c7 c8 c9 c10
 obtain rfl:f'=g1:=by
  rw [a7] at c10
  simp only [pJ] at c10
  exact c10.1.symm
 obtain ⟨p1,p2,p3,p4,p5⟩:=a5.put a6 hp a7 j2 htb hok
 have hpu:(putT (r,unl (fN*256+4) (delK ns (fN:Int)),ds) (g*8) n).2.1=asN (r,ns,ds) (g*8) n:=by
  rw [← a8]
  unfold putT
  simp only
  rw [(a5.lev hp).1]
  simp only
  rw [a7]
 rw [hpu] at p1 p2 p3 p4 p5
 have hself:=wlk_put_self a5.vm hp a7 htb p3 p4
 have hasc:=hv.num.asc
 have hfr:∀ x∈asN (r,ns,ds) (g*8) n,x.1≠(fN:Int)∧∃ m∈ns,m.1=x.1:=fun x hx=>by
  have e:=(mMo p1.asc (f:=x.1) (ws:=x.2)).1 hx
  rw [p3,c7] at e
  unfold updW updM1 at e
  simp only at e
  by_cases e1:x.1=(fN:Int)
  ·exfalso
   rw [e1] at e
   rw [if_neg (fun hh=>c4 hh.symm),if_pos rfl] at e
   cases e
  ·refine ⟨e1,?_⟩
   cases hm:Mof ns x.1 with
   | some ws=>exact ⟨(x.1,ws),(mMo hasc).2 hm,rfl⟩
   | none =>
    exfalso
    rw [if_neg e1] at e
    by_cases e2:x.1=f'
    ·rw [if_pos e2,if_neg (by rw [← e2];exact e1),← e2] at e
     rw [hm] at e;simp at e
    ·rw [if_neg e2,if_neg e2,hm] at e;cases e
 have hmf:(gn ns (lsT (r,ns,ds) (g*8)).1)∈ns:=by
  rw [gn_eq q5];exact List.getElem_mem q5
 have hfm:∃ m∈ns,m.1=(fN:Int):=⟨_,hmf,q3⟩
 have hw0:(lsT (r,ns,ds) (g*8)).2.2=w0:=by rw [q2]
 have hgl:∀ d∈ds,d.1≠(g:Int):=grp_abs hv hg (by
  cases hh:(decR (lsT (r,ns,ds) (g*8)).2.2).1.2.2.2.2.2 with
  | false=>rfl
  | true =>
   exfalso
   have h1:=hugB_last hv hg
   rw [hh,hBw hpv.vm hg hw] at h1
   simp at h1)
 have hfd:∀ d∈ds,d.2≠(fN:Int):=fun d hd e=>by
  obtain ⟨m,hm,e2⟩:=hfm
  exact hv.num.apart d hd m hm (e2.trans e.symm)
 simp only [pJ] at h
 obtain ⟨hu,_⟩:=h
 rw [q3] at hu
 have hdm:(insK ds ((g:Int),(fN:Int))).map (·.1)=hugM (Mof (asN (r,ns,ds) (g*8) n)) r:=by
  refine int_ext ?_ hugM_asc fun x=>?_
  ·rw [List.pairwise_map]
   exact insK_asc hv.num.dasc hgl
  ·have hx:x∈(insK ds ((g:Int),(fN:Int))).map (·.1)↔x=(g:Int)∨x∈ds.map (·.1):=by
    simp only [List.mem_map]
    constructor
    ·rintro ⟨y,hy,rfl⟩
     rcases mem_insK.1 hy with rfl|hy
     ·exact .inl rfl
     ·exact .inr ⟨y,hy,rfl⟩
    ·rintro (rfl|⟨y,hy,rfl⟩)
     ·exact ⟨_,mem_insK.2 (.inl rfl),rfl⟩
     ·exact ⟨y,mem_insK.2 (.inr hy),rfl⟩
   have hd:=hv.dep
   simp only at hd
   rw [hx,hd,mem_hugM,mem_hugM]
   have hB:∀ k,k<64→hugB (Mof (asN (r,ns,ds) (g*8) n)) r k=(decide (k=g)||hugB (Mof ns) r k):=fun k hk=>by
    by_cases e:k=g
    ·subst e
     rw [hBw p1.vm hk hself]
     unfold hugW
     rw [j4,j5];simp
    ·obtain ⟨fk,lk,wk,hwk⟩:∃ f l w,wlk (Mof ns) r (k*8)=(f,l,w):=⟨_,_,_,rfl⟩
     have h1:=wlk_put_ne a5.vm hp a7 p3 (p':=k*8) (by omega) (by simp;omega)
     have h2:=wlk_prune_ne hpv.vm hp hw (by omega) (posL hp (l:=1) (by omega)) c1 c7 (p':=k*8) (by omega) (by simp;omega)
     have h3:=h1.trans (h2.trans hwk)
     rw [hBw p1.vm hk h3,hBw hpv.vm hk hwk]
     simp [e]
   constructor
   ·rintro (rfl|⟨k,k1,rfl,k3⟩)
    ·exact ⟨g,hg,rfl,by rw [hB g hg];simp⟩
    ·exact ⟨k,k1,rfl,by rw [hB k k1,k3];simp⟩
   ·rintro ⟨k,k1,rfl,k3⟩
    rw [hB k k1] at k3
    simp only [Bool.or_eq_true,decide_eq_true_eq] at k3
    rcases k3 with rfl|k3
    ·exact .inl rfl
    ·exact .inr ⟨k,k1,rfl,k3⟩
 have hlen5:(asN (r,ns,ds) (g*8) n).length≤ns.length:=by
  rw [p5]
  unfold unl
  rw [List.length_map]
  exact delK_len
 subst hu
 refine ⟨(fN:Int),n,(gn ns (lsT (r,ns,ds) (g*8)).1).2,f',rfl,rfl,⟨⟨fun x hx=>?_,fun d hd=>?_,p1.asc,insK_asc hv.num.dasc hgl,fun d hd x hx=>?_,insK_once hv.num.once hfd,?_⟩,p1.vm,hdm⟩,⟨p2.1,p2.2.1,?_⟩,hlen5,fun x hx=>(hfr x hx).2,hfm,Prod.ext j1 hj,fun i hi=>?_,fun i hi=>?_,fun p' hp' hne=>?_⟩
 ·obtain ⟨_,m,hm,e⟩:=hfr x hx
  rw [← e];exact hv.num.fr m hm
 ·rcases mem_insK.1 hd with rfl|hd
  ·exact ⟨⟨by simp only;omega,by simp only;omega⟩,by simp only;omega,by simp only;omega⟩
  ·exact hv.num.df d hd
 ·obtain ⟨e1,m,hm,e⟩:=hfr x hx
  rcases mem_insK.1 hd with rfl|hd
  ·exact e1
  ·rw [← e];exact hv.num.apart d hd m hm
 ·obtain ⟨ws,m1,_⟩:=p1.vm.nd 0 0 Pos0 r rfl
  exact ⟨(r,ws),(mMo p1.asc).2 m1,rfl⟩
 ·show (insK ds _).length≤_
  rw [insK_len];omega
 ·unfold wlk
  rw [show (g*8+i)/8=g by omega,hfz]
  simp only
  rw [show (g*8+i)%8=i by omega]
  unfold wM
  rw [q4]
 ·exact wlk_cell p1.vm hp hself (by omega) (by simp;omega)
 ·have h1:=wlk_put_ne a5.vm hp a7 p3 hp' (by simp;omega)
  have h2:=wlk_prune_ne hpv.vm hp hw (by omega) (posL hp (l:=1) (by omega)) c1 c7 hp' (by simp;omega)
  exact h1.trans h2
theorem lev0 {r:Int} {ns:NdL} (hv:Vt (r,ns,[])) {p:Nat} (hp:p<512) {f:Int} {l w:Nat} (hw:wlk (Mof ns) r p=(f,l,w)) (h0:w≠0):l=0:=by
 obtain ⟨a1,a2,a3,a4,a5,a6⟩:=wlk_at hv.vm hp hw
 by_cases hl:l=0
 ·exact hl
 exfalso
 apply h0
 refine (kind0 a6).1 ?_
 have hd:=hv.dep
 simp only [List.map_nil] at hd
 have hh:l=1→hugW w=false:=by
  rintro rfl
  have hk:p/8<64:=by omega
  have hc:=wlk_cell hv.vm hp hw (p':=p/8*8) (by omega) (by simp)
  have hb:=hBw hv.vm hk hc
  cases hx:hugW w with
  | false=>rfl
  | true =>
   rw [hx] at hb
   have:((p/8:Nat):Int)∈hugM (Mof ns) r:=mem_hugM.2 ⟨p/8,hk,rfl,by rw [hb];rfl⟩
   rw [← hd] at this
   simp at this
 by_cases k0:(decR w).1.1=0
 ·exact k0
 exfalso
 have k4:(decR w).1.1≠4:=fun k=>by unfold tabW at a5;rw [if_pos k] at a5;simp at a5
 unfold okWb suitB at a6
 rw [if_neg k0,if_neg k4] at a6
 by_cases k1:(decR w).1.1=1
 ·rw [if_pos k1,if_neg hl] at a6
  by_cases hl1:l=1
  ·have h1:=hh hl1
   unfold hugW at h1
   rw [k1] at h1
   simp at h1
   rw [if_pos hl1,h1] at a6
   simp at a6
  ·rw [if_neg hl1] at a6
   simp at a6
 ·rw [if_neg k1] at a6
  simp [hl] at a6
theorem grow_fr {r:Int} {ns:NdL} {ds:List Dp} (hv:Pv (r,ns,ds)) (ht:tbOK (r,ns,ds)) {p:Nat} (hp:p<512) {g:Nat} (hg:g≤4294967295) (hn:∀ n∈ns,n.1≠(g:Int)) {f:Int} {l w:Nat} (hw:wlk (Mof ns) r p=(f,l+1,w)) (hlen:ns.length<1000000) {d q:Nat} (hq:(d,q)∈Pos) {x:Int} (hx:frP WA (Mof (stD r ds p ns g)) r d q=some x) :
  frP WA (Mof ns) r d q=some x∨q=p/8^(3 - d):=by
 obtain ⟨d1,d2,d3,d4,d5,d6⟩:=hv.grow ht hp hg hn hw hlen
 obtain ⟨a1,a2,a3,a4,a5,a6⟩:=wlk_at hv.vm hp hw
 have hDg:Mof ns (g:Int)=none:=(Mof_none hv.asc).2 hn
 have hgr:=hv.vm.grow (wdZ fun _=>true) a2 (by omega) a3 (i:=dgt p (l+1)) (w:=g*256+4) (dgt_lt p (l+1)) (by simp only at a4;rw [← a4];exact a5) hDg (tabW_tw (by omega)) (by show okWb (2 - (2 - (l+1))) _=true;exact okWb_tw (by omega) (by omega))
 rw [d3,hgr.2 d q hq] at hx
 split at hx
 ·rename_i h
  right
  obtain ⟨rfl,rfl⟩:=h
  rw [show 3 - (2 - (l+1)+1)=l+1 by omega]
  unfold dgt
  rw [Nat.pow_succ,← Nat.div_div_eq_div_mul]
  omega
 ·exact .inl hx
theorem deep_fr {r:Int} {ns:NdL} {ds:List Dp} (hv:Vt (r,ns,ds)) (ht:tbOK (r,ns,ds)) {p:Nat} (hp:p<512) {fs:List Int} (hu:usB ns ds fs=true) (hlen:ns.length≤999000) {f:Int} {l:Nat} (hw:wlk (Mof ns) r p=(f,l,0)) {d q:Nat} (hq:(d,q)∈Pos) {x:Int}:∀ i,i≤fs.length→i≤l →
  frP WA (Mof (dpN r ds p ns (fs.take i))) r d q=some x→frP WA (Mof ns) r d q=some x∨q=p/8^(3 - d)
 | 0,_,_,hx=>by rw [dpN_0] at hx;exact .inl hx
 | i+1,hi,hil,hx=>by
  have hl2:=(wlk_at hv.vm hp hw).1
  obtain ⟨h1,h2,⟨f',h3⟩,h4,h5,h6⟩:=vt_deep hv ht hp hu hlen hw i (by omega) (by omega)
  obtain ⟨⟨g0,g1⟩,u2,u3,u4⟩:=usB_iff.1 hu i (by omega)
  obtain ⟨g,hg⟩:=Int.eq_ofNat_of_zero_le g0
  rw [dpN_s (by omega)] at hx
  rw [hg] at g1 u2 u3 u4 hx
  obtain ⟨L,hL⟩:∃ L,l - i=L+1:=⟨l - i - 1,by omega⟩
  rw [hL] at h3
  have hnew:∀ n∈dpN r ds p ns (fs.take i),n.1≠(g:Int):=fun n hn e=>by
   rcases h5 n hn with ⟨m,hm,k⟩|⟨j,hj,k⟩
   ·exact u2 m hm (by rw [← k];exact e)
   ·exact u4 j hj (by rw [← k];exact e)
  rcases grow_fr h1.pv h2 hp (g:=g) (by omega) hnew h3 (by omega) hq hx with h|h
  ·exact deep_fr hv ht hp hu hlen hw hq i (by omega) (by omega) h
  ·exact .inr h
structure IsM (ns:NdL) (m:List Nat) (nx:Nat):Prop where
 v:Vt (0,ns,[])
 ok:tbOK (0,ns,[])
 len:m.length=512
 w:∀ p,p<512→(wlk (Mof ns) 0 p).2.2=m.getD p 0
 f:∀ d q,(d,q)∈Pos→0<d→∀ x,frP WA (Mof ns) 0 d q=some x→∃ p,p<512∧p/8^(3 - d)=q∧m.getD p 0≠0
 fr:∀ n∈ns,n.1<nx
 u64:∀ w∈m,w<2^64
theorem nodup_le:∀ {l m:List Int},l.Nodup→(∀ x∈l,x∈m)→l.length≤m.length
 | [],_,_,_=>by simp
 | x::l,m,h,hs=>by
  rw [List.nodup_cons] at h
  have h1:=nodup_le (l:=l) (m:=m.erase x) h.2 fun y hy=>by
   have:y≠x:=fun e=>h.1 (e ▸ hy)
   exact (List.mem_erase_of_ne this).2 (hs y (by simp [hy]))
  rw [List.length_erase_of_mem (hs x (by simp))] at h1
  have:0<m.length:=List.length_pos_of_mem (hs x (by simp))
  simp only [List.length_cons]
  omega
def plcs (M:Mm) (r:Int):List Int:=Pos.filterMap fun x=>frP WA M r x.1 x.2
theorem filterMap_nodup {α:Type} {f:α→Option Int}:∀ {l:List α},l.Nodup→(∀ a∈l,∀ b∈l,∀ x,f a=some x→f b=some x→a=b)→(l.filterMap f).Nodup
 | [],_,_=>by simp
 | a::l,h,hi=>by
  rw [List.nodup_cons] at h
  have ih:=filterMap_nodup (l:=l) h.2 fun x hx y hy=>hi x (by simp [hx]) y (by simp [hy])
  rw [List.filterMap_cons]
  cases hf:f a with
  | none=>exact ih
  | some x =>
   simp only
   rw [List.nodup_cons]
   refine ⟨fun hx=>?_,ih⟩
   obtain ⟨b,hb,e⟩:=List.mem_filterMap.1 hx
   have:=hi a (by simp) b (by simp [hb]) x hf e
   exact h.1 (this ▸ hb)
theorem plcs_len {r:Int} {ns:NdL} (ha:ascN ns) (hV:VM WA (Mof ns) r):ns.length=(plcs (Mof ns) r).length:=by
 have h1:(ns.map (·.1)).Nodup:=by
  unfold List.Nodup
  rw [List.pairwise_map]
  exact List.Pairwise.imp (fun h=>Int.ne_of_lt h) ha
 have h2:(plcs (Mof ns) r).Nodup:=by
  refine filterMap_nodup Pos_nodup fun a ha' b hb x h3 h4=>?_
  obtain ⟨a1,a2⟩:=a
  obtain ⟨b1,b2⟩:=b
  obtain ⟨e1,e2⟩:=hV.inj _ _ _ _ ha' hb x h3 h4
  rw [e1,e2]
 have k1:=nodup_le h1 (m:=plcs (Mof ns) r) fun x hx=>by
  obtain ⟨n,hn,rfl⟩:=List.mem_map.1 hx
  obtain ⟨d,q,hq,e⟩:=hV.all n.1 n.2 ((mMo ha).1 hn)
  exact List.mem_filterMap.2 ⟨(d,q),hq,e⟩
 have k2:=nodup_le h2 (m:=ns.map (·.1)) fun x hx=>by
  obtain ⟨⟨d,q⟩,hq,e⟩:=List.mem_filterMap.1 hx
  obtain ⟨ws,m1,_⟩:=hV.nd d q hq x e
  exact List.mem_map.2 ⟨(x,ws),(mMo ha).2 m1,rfl⟩
 simp only [List.length_map] at k1 k2
 omega
theorem plcs_le {M:Mm} {r:Int}:(plcs M r).length≤73:=by
 have:=List.length_filterMap_le (fun x:Nat×Nat=>frP WA M r x.1 x.2) Pos
 have h2:Pos.length=73:=by decide
 unfold plcs
 omega
theorem IsM.le {ns:NdL} {m:List Nat} {nx:Nat} (h:IsM ns m nx):ns.length≤73:=by
 rw [plcs_len h.v.num.asc h.v.vm]
 exact plcs_le
def nxF (nx k:Nat):List Int:=(List.range k).map fun i=>((nx+i:Nat):Int)
@[simp] theorem nxF_len {nx k:Nat}:(nxF nx k).length=k:=by simp [nxF]
theorem nxF_gi {nx k i:Nat} (h:i<k):gi (nxF nx k) i=((nx+i:Nat):Int):=by
 rw [gi_eq (by simpa using h)]
 simp [nxF]
theorem getD_set {m:List Nat} {p q w:Nat} (hp:p<m.length):(m.set p w).getD q 0=if q=p then w else m.getD q 0:=by
 rw [List.getD_eq_getElem?_getD,List.getElem?_set]
 by_cases e:p=q
 ·subst e;simp [hp]
 ·have:¬ q=p:=fun h=>e h.symm
  simp [e,this,List.getD_eq_getElem?_getD]
theorem IsM.set {ns:NdL} {m:List Nat} {nx:Nat} (h:IsM ns m nx) {p:Nat} (hp:p<512) (h0:m.getD p 0=0) {w:Nat} (hw64:w<2^64) (e1:(decR w).2=0) (e2:(decR w).1.1≠0) (e3:(decR w).1.1≠4) (e4:(decR w).1.2.2.2.2.2=false) (hnx:nx+2≤4294967295) :
  ∃ k N,missT (0,ns,[]) p=(k,0)∧k≤2∧setP (0,ns,[]) p w (nxF nx k)=((0,N,[]),0)∧IsM N (m.set p w) (nx+k):=by
 have hck:ckd (0,ns,[]) (p:Int) 512=0:=ckd_z ((chk_iff h.ok).2 h.v) (by omega) (by omega)
 have hls:=(h.v.pv.walk hp).2.2
 have hle:=h.le
 simp only at hls
 obtain ⟨f,l,w0,hw⟩:∃ f l w,wlk (Mof ns) 0 p=(f,l,w):=⟨_,_,_,rfl⟩
 have hw0:w0=0:=by have:=h.w p hp;rw [hw,h0] at this;exact this
 subst hw0
 rw [hw] at hls
 have hl2:=(wlk_at h.v.vm hp hw).1
 have hmi:missT (0,ns,[]) p=(l,0):=by
  unfold missT
  rw [if_pos hck,Int.toNat_natCast,hls]
  simp only
  rw [if_neg]
  rintro ⟨_,hx⟩
  rw [decR_0] at hx
  simp [zE] at hx
 have hus:usB ns [] (nxF nx l)=true:=by
  refine usB_iff.2 fun i hi=>?_
  simp only [nxF_len] at hi
  unfold usC
  rw [nxF_gi hi]
  refine ⟨⟨by omega,by omega⟩,fun n hn=>?_,fun k hk=>by simp at hk,fun j hj=>?_⟩
  ·have:=h.fr n hn;omega
  ·rw [nxF_gi (by omega)];omega
 have hse:∃ N,setP (0,ns,[]) p w (nxF nx l)=((0,N,[]),0):=by
  unfold setP
  rw [if_neg (by simp [hck]),if_neg (by simp [e1,e2,e3,e4]),Int.toNat_natCast,hls]
  simp only
  rw [if_neg (by simp),if_pos ⟨by simp,hus⟩]
  exact ⟨_,rfl⟩
 obtain ⟨N,hN⟩:=hse
 obtain ⟨q,f1,f',hpq,hq,hv,h1,h2,h3,h4,hwq,hu,hue,v1,v2,v3,v4,v5⟩:=set_vt h.ok (by omega) hw64 hN
 obtain rfl:p=q:=by omega
 refine ⟨l,N,hmi,hl2,hN,?_⟩
 obtain ⟨d1,d2,⟨f2,d3⟩,d4,d5,d6⟩:=vt_deep h.v h.ok hp hus (by omega) hw l (by simp) (Nat.le_refl _)
 rw [tkL (by simp)] at d1 d2 d3 d4 d5
 have hok0:okWb 0 w=true:=(wlk_at v1.vm hp v4).2.2.2.2.2
 simp only [pJ,true_and,and_true] at hue
 obtain ⟨b1,b2,b3,b4,b5⟩:=d1.pv.put d2 hp (by rw [Nat.sub_self] at d3;exact d3) hw64 h3 hok0
 have hpl:p<m.length:=by rw [h.len];exact hp
 refine ⟨v1,v2,by simp [h.len],fun q hq'=>?_,fun d q hq' hd x hx=>?_,fun n hn=>?_,fun x hx=>?_⟩
 ·rw [getD_set hpl]
  by_cases e:q=p
  ·subst e
   rw [if_pos rfl]
   simp only at v4
   rw [v4]
  ·rw [if_neg e,← h.w q hq']
   exact v5 q hq' e
 ·rw [hue] at hx
  rw [b4 d q hq'] at hx
  rcases deep_fr h.v h.ok hp hus (by omega) hw hq' (i:=l) (by simp) (Nat.le_refl _) (by rw [tkL (by simp)];exact hx) with h6|h6
  ·obtain ⟨p',k1,k2,k3⟩:=h.f d q hq' hd x h6
   refine ⟨p',k1,k2,?_⟩
   rw [getD_set hpl]
   split
   ·exact h4
   ·exact k3
  ·refine ⟨p,hp,h6.symm,?_⟩
   rw [getD_set hpl,if_pos rfl]
   exact h4
 ·rw [hue] at hn
  have hfr:∃ m∈dpN 0 [] p ns (nxF nx l),m.1=n.1:=by
   rcases List.mem_or_eq_of_mem_set hn with h7|h7
   ·exact ⟨n,h7,rfl⟩
   ·exact ⟨_,gn_mem (lsT_lt d1.pv hp).1,by rw [h7];rfl⟩
  obtain ⟨n2,hn2,e⟩:=hfr
  rw [← e]
  rcases d5 n2 hn2 with ⟨n3,hn3,e5⟩|⟨j,hj,e5⟩
  ·have:=h.fr n3 hn3;omega
  ·rw [nxF_gi hj] at e5;omega
 ·rcases List.mem_or_eq_of_mem_set hx with h7|h7
  ·exact h.u64 x h7
  ·rw [h7];exact hw64
end Go.AM
namespace Go.AM
open Go
def Unt (E:Env) (w:World) (k:Nat):Prop:=k<w.heap.size∧¬ E.G k∧∀ b base sz,E.alive b→E.loc b≠some (k,base,sz)
theorem SatF.other {N:Nat} {w0:World} {bl:Bk} {E:Env} {a:Act} {w w':World} {g:Nat→AV} {m:Nat→AO} (h:SatF N w0 bl E a w g m) {r:Nat} (hg:¬ E.G r) (hl:∀ b base sz,E.alive b→E.loc b≠some (r,base,sz)) (hr0:w0.heap.size≤r)
  (hsz:w.heap.size≤w'.heap.size) (hos:w'.os=w.os) (hout:w'.output=w.output) (hk:∀ k,k<w.heap.size→k≠r→w'.heap[k]?=w.heap[k]?):SatF N w0 bl E a w' g m:=by
 have hG:∀ k,E.G k→w'.heap[k]?=w.heap[k]?:=fun k hk'=>hk k (h.inv.good k hk') fun e=>hg (e ▸ hk')
 refine ⟨h.defers,h.size,⟨⟨hos.trans h.inv.frame.os,hout.trans h.inv.frame.out,Nat.le_trans h.inv.frame.size hsz,fun k h1 h2=>?_⟩,h.inv.gin,h.inv.low,h.inv.gout,fun k hk'=>Nat.lt_of_lt_of_le (h.inv.good k hk') hsz,fun b blk base sz h1 h2=>?_,h.inv.apart⟩,fun b hb=>?_,fun t=>?_⟩
 ·rw [hk k (by have:=h.inv.frame.size;omega) (by omega)]
  exact h.inv.frame.old k h1 h2
 ·obtain ⟨q1,q2,q3⟩:=h.inv.locs b blk base sz h1 h2
  exact ⟨by omega,q2,q3⟩
 ·refine (h.mem b hb).mono (Env.Le.refl E) hG rfl rfl fun blk base sz h1=>?_
  exact hk blk (h.inv.locs b blk base sz hb h1).1 fun e=>hl b base sz hb (e ▸ h1)
 ·exact (h.slots t).mono (Env.Le.refl E) hG
def SatX (N:Nat) (w0:World) (bl:Bk) (a:Act) (w:World) (st:St) (F:List Nat):Prop :=
 ∃ E,SatF N w0 bl E a w (getS st.s) (getM st.m)∧(∀ k,E.alive k→k<st.nx)∧(∀ k,getM st.m k≠.dead→k<st.nx)∧∀ k∈F,Unt E w k
theorem SatX.other {N:Nat} {w0:World} {bl:Bk} {a:Act} {w w':World} {st:St} {F:List Nat} (h:SatX N w0 bl a w st F) {r:Nat} (hr:r∈F) (hr0:w0.heap.size≤r)
  (hsz:w.heap.size≤w'.heap.size) (hos:w'.os=w.os) (hout:w'.output=w.output) (hk:∀ k,k<w.heap.size→k≠r→w'.heap[k]?=w.heap[k]?):SatX N w0 bl a w' st F:=by
 obtain ⟨E,h1,h2,h3,h4⟩:=h
 exact ⟨E,h1.other (h4 r hr).2.1 (h4 r hr).2.2 hr0 hsz hos hout hk,h2,h3,fun k hk'=>⟨Nat.lt_of_lt_of_le (h4 k hk').1 hsz,(h4 k hk').2⟩⟩
end Go.AM
namespace Go.AM
open Go Go.Proofs Tryz
@[simp] theorem one_mapM (b:Option Nat):(Value.map b).oneCell'=true:=rfl
theorem or_16 {w:Nat}:w ||| 16=w+16*(1 - w/16%2):=by
 have key:∀ s:Fin 32,∀ j:Fin 5,(s.1+16*(1 - s.1/16%2)).testBit j.1=(s.1.testBit j.1||(16:Nat).testBit j.1):=by decide
 obtain ⟨q,s,hs,rfl⟩:∃ q s,s<32∧w=2^5*q+s:=⟨w/32,w%32,Nat.mod_lt _ (by omega),by omega⟩
 have e1:(2^5*q+s)/16%2=s/16%2:=by omega
 have e2:2^5*q+s+16*(1 - s/16%2)=2^5*q+(s+16*(1 - s/16%2)):=by omega
 rw [e1,e2]
 refine Nat.eq_of_testBit_eq fun j=>?_
 rw [Nat.testBit_or,show (16:Nat)=2^5*0+16 by omega,Nat.testBit_two_pow_mul_add _ (by omega:16<2^5),Nat.testBit_two_pow_mul_add _ (by omega:s<2^5),← show (16:Nat)=2^5*0+16 by omega,Nat.testBit_two_pow_mul_add _ (by omega:s+16*(1 - s/16%2)<2^5)]
 by_cases hj:j<5
 ·simp only [hj,if_true]
  rw [key ⟨s,hs⟩ ⟨j,hj⟩]
 ·simp [hj]
theorem or_32 {w:Nat}:w ||| 32=w+32*(1 - w/32%2):=by
 have key:∀ s:Fin 64,∀ j:Fin 6,(s.1+32*(1 - s.1/32%2)).testBit j.1=(s.1.testBit j.1||(32:Nat).testBit j.1):=by decide
 obtain ⟨q,s,hs,rfl⟩:∃ q s,s<64∧w=2^6*q+s:=⟨w/64,w%64,Nat.mod_lt _ (by omega),by omega⟩
 have e1:(2^6*q+s)/32%2=s/32%2:=by omega
 have e2:2^6*q+s+32*(1 - s/32%2)=2^6*q+(s+32*(1 - s/32%2)):=by omega
 rw [e1,e2]
 refine Nat.eq_of_testBit_eq fun j=>?_
 rw [Nat.testBit_or,show (32:Nat)=2^6*0+32 by omega,Nat.testBit_two_pow_mul_add _ (by omega:32<2^6),Nat.testBit_two_pow_mul_add _ (by omega:s<2^6),← show (32:Nat)=2^6*0+32 by omega,Nat.testBit_two_pow_mul_add _ (by omega:s+32*(1 - s/32%2)<2^6)]
 by_cases hj:j<6
 ·simp only [hj,if_true]
  rw [key ⟨s,hs⟩ ⟨j,hj⟩]
 ·simp [hj]
theorem mark_ok {w:Nat} {wr:Bool} {f:Int} {d a x h:Bool} (hd:decR w=((1,f,d,a,x,h),0)) (hp:wr=true→d=true) :
  (mkW w wr).2=0∧(mkW w wr).1<2^64∧decR (mkW w wr).1=((1,f,d,true,x||wr,h),0):=by
 obtain ⟨h1,h2,h3,h4⟩:=decR_ok (w:=w) (by rw [hd])
 have hr:=decR_rng w
 rw [hd] at h1 h2 h3 h4 hr
 simp only at h1 h2 h3 h4 hr
 have hb:¬ badF (1,f,d,true,x||wr,h):=h2
 have hm:frmE (1,f,d,true,x||wr,h)=true:=rfl
 obtain ⟨n,n1,n2,n3⟩:=decR_enc h1 hr hb hm
 rw [encR_z h1 h2 h3] at h4
 rw [encR_z h1 hb hm] at n1
 have e4:=(Prod.mk.inj h4).1
 have e1:=(Prod.mk.inj n1).1
 have key:mkW w wr=(n,0):=by
  unfold mkW
  rw [hd]
  simp only [ne_eq,not_true_eq_false,if_false]
  unfold encW fb at e4 e1
  simp only at e4 e1
  cases wr with
  | false =>
   simp only [if_true,Bool.or_false] at e1 ⊢
   rw [or_16]
   congr 1
   cases d<;>cases a<;>cases x<;>cases h<;>simp at e4 e1<;>omega
  | true =>
   obtain rfl:=hp rfl
   simp only [Bool.or_true,if_true] at e1 ⊢
   rw [if_neg (by decide),if_neg (by decide),or_16,or_32]
   congr 1
   cases a<;>cases x<;>cases h<;>simp at e4 e1<;>omega
 rw [key]
 exact ⟨rfl,n2,n3⟩
def keyW (w:Nat):Int×Int×Int×Bool×Bool:=((decR w).2,(decR w).1.1,(decR w).1.2.1,(decR w).1.2.2.1,(decR w).1.2.2.2.2.2)
theorem key_all {a b:Nat} (h:keyW a=keyW b):(decR a).2=(decR b).2∧(decR a).1.1=(decR b).1.1∧(decR a).1.2.1=(decR b).1.2.1∧(decR a).1.2.2.1=(decR b).1.2.2.1∧(decR a).1.2.2.2.2.2=(decR b).1.2.2.2.2.2:=by
 unfold keyW at h
 simp only [pJ] at h
 exact h
theorem fr_key {a b:Nat} (h:keyW a=keyW b) (p:Int):frmG (decR a).1 p=frmG (decR b).1 p:=by
 obtain ⟨h1,h2,h3,h4,h5⟩:=key_all h
 unfold frmG;rw [h3,h5]
theorem ok_key {a b l:Nat} (h:keyW a=keyW b):okWb l a=okWb l b:=by
 obtain ⟨h1,h2,h3,h4,h5⟩:=key_all h
 unfold okWb suitB;rw [h1,h2,h5]
theorem tab_key {a b:Nat} (h:keyW a=keyW b):tabW a=tabW b:=by
 obtain ⟨h1,h2,h3,h4,h5⟩:=key_all h
 unfold tabW;rw [h2,h3]
theorem hug_key {a b:Nat} (h:keyW a=keyW b):hugW a=hugW b:=by
 obtain ⟨h1,h2,h3,h4,h5⟩:=key_all h
 unfold hugW;rw [h2,h5]
theorem mark_key {w:Nat} {wr:Bool} (h0:(decR w).2=0) (h1:(decR w).1.1=1) (hp:wr=true→(decR w).1.2.2.1=true):keyW (mkW w wr).1=keyW w∧(mkW w wr).1<2^64∧(decR (mkW w wr).1).1.2.2.2.1=true∧(wr=true→(decR (mkW w wr).1).1.2.2.2.2.1=true):=by
 obtain ⟨⟨⟨k,f,d,a,x,h⟩,e⟩,hx⟩:∃ y,y=decR w:=⟨_,rfl⟩
 rw [← hx] at h0 h1 hp
 simp only at h0 h1 hp
 subst h0 h1
 obtain ⟨q1,q2,q3⟩:=mark_ok (wr:=wr) hx.symm hp
 refine ⟨?_,q2,by rw [q3],fun hw=>by rw [q3,hw];simp⟩
 unfold keyW
 rw [q3,← hx]
theorem vt_rep {r:Int} {ns:NdL} {ds:List Dp} (hv:Vt (r,ns,ds)) (ht:tbOK (r,ns,ds)) {p:Nat} (hp:p<512) {f:Int} {l w0 w:Nat} (hw:wlk (Mof ns) r p=(f,l,w0)) (hhq:hugW w=hugW w0) (hw64:w<2^64) (htb:tabW w=none) (hok:okWb l w=true) :
  Vt (r,(putT (r,ns,ds) p w).2.1,ds)∧tbOK (r,(putT (r,ns,ds) p w).2.1,ds)∧wlk (Mof (putT (r,ns,ds) p w).2.1) r p=(f,l,w) ∧
  ∀ p',p'<512→p'/8^l≠p/8^l→wlk (Mof (putT (r,ns,ds) p w).2.1) r p'=wlk (Mof ns) r p':=by
 obtain ⟨c1,c2,c3,c4,c5⟩:=hv.pv.put ht hp hw hw64 htb hok
 have c6:=wlk_put_self hv.vm hp hw htb c3 c4
 have hnl:=(lsT_lt hv.pv hp).1
 have hfr:∀ n∈(putT (r,ns,ds) p w).2.1,∃ m∈ns,m.1=n.1:=fun n hn=>by
  rcases List.mem_or_eq_of_mem_set hn with h1|h1
  ·exact ⟨n,h1,rfl⟩
  ·exact ⟨_,gn_mem hnl,by rw [h1];rfl⟩
 obtain ⟨N,hN⟩:∃ N,N=(putT (r,ns,ds) p w).2.1:=⟨_,rfl⟩
 rw [← hN] at c1 c2 c3 c4 c5 c6 hfr ⊢
 have hne:=fun p' (hp':p'<512) (h:p'/8^l≠p/8^l)=>wlk_put_ne hv.vm hp hw c3 hp' h
 refine ⟨⟨⟨fun n hn'=>?_,hv.num.df,c1.asc,hv.num.dasc,fun d hd' n hn'=>?_,hv.num.once,?_⟩,c1.vm,?_⟩,c2,c6,hne⟩
 ·obtain ⟨m,hm,e⟩:=hfr n hn'
  rw [← e];exact hv.num.fr m hm
 ·obtain ⟨m,hm,e⟩:=hfr n hn'
  rw [← e];exact hv.num.apart d hd' m hm
 ·obtain ⟨ws,m1,_⟩:=c1.vm.nd 0 0 Pos0 r rfl
  exact ⟨(r,ws),(mMo c1.asc).2 m1,rfl⟩
 ·have hdp:=hv.dep
  simp only at hdp ⊢
  rw [hdp]
  refine (hugM_congr fun k hk=>?_).symm
  have hk8:k*8<512:=by omega
  by_cases h:k*8/8^l=p/8^l
  ·rw [hBw c1.vm hk (wlk_cell c1.vm hp c6 hk8 h),hBw hv.vm hk (wlk_cell hv.vm hp hw hk8 h),hhq]
  ·obtain ⟨f',l',w',hwk⟩:∃ f l w,wlk (Mof ns) r (k*8)=(f,l,w):=⟨_,_,_,rfl⟩
   rw [hBw c1.vm hk ((hne _ hk8 h).trans hwk),hBw hv.vm hk hwk]
theorem ls_ok {t:Tb} (ht:tbOK t) (h0:chk t=0) {p:Nat} (hp:p<512):(lsT t p).2.1≤2∧tabW (lsT t p).2.2=none∧okWb (lsT t p).2.1 (lsT t p).2.2=true:=by
 have hv:=(chk_iff ht).1 h0
 obtain ⟨r,ns,ds⟩:=t
 have h2:=(hv.pv.walk hp).2.2
 simp only at h2
 obtain ⟨f,l,w,hw⟩:∃ f l w,wlk (Mof ns) r p=(f,l,w):=⟨_,_,_,rfl⟩
 obtain ⟨a1,a2,a3,a4,a5,a6⟩:=wlk_at hv.vm hp hw
 rw [hw] at h2
 rw [h2]
 exact ⟨a1,a5,a6⟩
theorem ls_cell {t:Tb} (ht:tbOK t) (h0:chk t=0) {p q:Nat} (hp:p<512) (hq:q<512) (he:q/8^(lsT t p).2.1=p/8^(lsT t p).2.1):(lsT t q).2=(lsT t p).2:=by
 have hv:=(chk_iff ht).1 h0
 obtain ⟨r,ns,ds⟩:=t
 have h2:=(hv.pv.walk hp).2.2
 have h3:=(hv.pv.walk hq).2.2
 simp only at h2 h3
 obtain ⟨f,l,w,hw⟩:∃ f l w,wlk (Mof ns) r p=(f,l,w):=⟨_,_,_,rfl⟩
 rw [hw] at h2
 rw [h2] at he
 rw [wlk_cell hv.vm hp hw hq he] at h3
 rw [h2,h3]
theorem kind_ne0 {w:Nat} (h:(decR w).1.1=1):w≠0:=by
 rintro rfl
 rw [decR_0] at h
 exact absurd h (by decide)
theorem rep_ok {t:Tb} (ht:tbOK t) (h0:chk t=0) {p:Nat} (hp:p<512) {w:Nat} (hw:w<2^64) (hk:keyW w=keyW (lsT t p).2.2) (h1:(decR (lsT t p).2.2).1.1=1) :
  (repP t p w).1=putT t p w∧chk (putT t p w)=0∧tbOK (putT t p w)∧∀ q,q<512→(q/8^(lsT t p).2.1=p/8^(lsT t p).2.1→(lsT (putT t p w) q).2=((lsT t p).2.1,w))∧(q/8^(lsT t p).2.1≠p/8^(lsT t p).2.1→(lsT (putT t p w) q).2=(lsT t q).2):=by
 obtain ⟨o1,o2,o3⟩:=ls_ok ht h0 hp
 have hv:=(chk_iff ht).1 h0
 have ek:=key_all hk
 have er:(repP t p w).1=putT t p w:=by
  unfold repP
  rw [if_neg (by rw [ckd_z h0 (by omega) (by omega)];decide),Int.toNat_natCast,if_neg (kind_ne0 h1),if_neg]
  have h5:=(ok_key (l:=(lsT t p).2.1) hk).trans o3
  unfold okWb at h5
  simp only [Bool.and_eq_true,decide_eq_true_eq] at h5
  rintro (h|h|h|h)
  ·exact h h5.1
  ·rw [ek.2.1,h1] at h;exact absurd h (by decide)
  ·rw [ek.2.1,h1] at h;exact absurd h (by decide)
  ·rw [h5.2] at h;cases h
 obtain ⟨r,ns,ds⟩:=t
 have h2:=(hv.pv.walk hp).2.2
 simp only at h2
 obtain ⟨f,l,w0,hwk⟩:∃ f l w,wlk (Mof ns) r p=(f,l,w):=⟨_,_,_,rfl⟩
 rw [hwk] at h2
 rw [h2] at hk o2 o3
 obtain ⟨v1,v2,v3,v4⟩:=vt_rep hv ht hp hwk (hug_key hk) hw ((tab_key hk).trans o2) ((ok_key hk).trans o3)
 refine ⟨er,(chk_iff v2).2 v1,v2,fun q hq=>?_⟩
 rw [h2]
 have hq2:=(v1.pv.walk hq).2.2
 have hq3:=(hv.pv.walk hq).2.2
 simp only at hq2 hq3
 refine ⟨fun he=>?_,fun hne=>?_⟩
 ·rw [wlk_cell v1.vm hp v3 hq he] at hq2
  exact hq2
 ·rw [v4 q hq hne,← hq3] at hq2
  exact hq2
theorem chB_pw {b:Tl}:chB b=0↔1≤b.1∧b.1≤16∧(b.2.length:Int)≤b.1∧(∀ x∈b.2,efE x=0)∧b.2.Pairwise fun x y=>ovB x y=false:=by
 rw [chB_z]
 constructor
 ·rintro ⟨h1,h2,h3,h4⟩
  refine ⟨h1,h2,h3,fun x hx=>?_,List.pairwise_iff_getElem.2 fun i j hi hj hij=>?_⟩
  ·obtain ⟨i,hi,rfl⟩:=List.mem_iff_getElem.1 hx
   rw [← gt_eq hi]
   exact (erE_z (h4 i hi)).1
  ·have:=(erE_z (h4 j hj)).2 (gt b.2 i) (by rw [gt_eq hi];exact List.mem_take_iff_getElem.2 ⟨i,by omega,rfl⟩)
   rw [gt_eq hi,gt_eq hj,ovB_comm] at this
   exact this
 ·rintro ⟨h1,h2,h3,h4,h5⟩
  refine ⟨h1,h2,h3,fun i hi=>?_⟩
  refine erE_0 (h4 _ (gt_mem hi)) ?_
  rw [List.any_eq_false]
  intro y hy
  obtain ⟨j,hj,rfl⟩:=List.mem_take_iff_getElem.1 hy
  have:=List.pairwise_iff_getElem.1 h5 j i (by omega) hi (by omega)
  rw [gt_eq hi,ovB_comm,this];simp
theorem chB_sub {z:Int} {l l':List Te} (h:chB (z,l)=0) (hs:l'.Sublist l):chB (z,l')=0:=by
 rw [chB_pw] at h ⊢
 obtain ⟨h1,h2,h3,h4,h5⟩:=h
 have:=hs.length_le
 exact ⟨h1,h2,by simp only at h3 ⊢;omega,fun x hx=>h4 x (hs.subset hx),h5.sublist hs⟩
theorem chB_fill {b:Tl} {x:Te} (h:chB b=0) (hx:efE x=0):chB (b.1,fiL b x)=0:=by
 have h':=chB_pw.1 h
 obtain ⟨h1,h2,h3,h4,h5⟩:=h'
 have hls:∀ l':List Te,l'.Sublist b.2→(l'.length:Int)<b.1→(∀ y∈l',ovB x y=false)→chB (b.1,l'++[x])=0:=fun l' hs hl hno=>by
  have hc:=chB_pw.1 (chB_sub (z:=b.1) h hs)
  rw [chB_pw]
  refine ⟨h1,h2,by simp only [List.length_append,List.length_cons,List.length_nil];omega,fun y hy=>?_,?_⟩
  ·rcases List.mem_append.1 hy with hy|hy
   ·exact hc.2.2.2.1 y hy
   ·simp at hy;rw [hy];exact hx
  ·refine List.pairwise_append.2 ⟨hc.2.2.2.2,List.pairwise_singleton _ _,fun y hy y' hy'=>?_⟩
   simp at hy'
   subst hy'
   rw [ovB_comm]
   exact hno y hy
 have hfl:((b.2.filter fun y=>!ovB x y).length:Int)≤b.1:=by
  have:=(List.filter_sublist (p:=fun y=>!ovB x y) (l:=b.2)).length_le
  omega
 unfold fiL
 split
 ·rename_i he
  refine hls _ ((List.drop_sublist _ _).trans List.filter_sublist) (by simp only [List.length_drop];omega) fun y hy=>?_
  have:=(List.mem_filter.1 (List.mem_of_mem_drop hy)).2
  simpa using this
 ·rename_i he
  refine hls _ List.filter_sublist (by omega) fun y hy=>?_
  have:=(List.mem_filter.1 hy).2
  simpa using this
theorem fi_mem {b:Tl} {x y:Te} (h:y∈fiL b x):y∈b.2∨y=x:=by
 unfold fiL at h
 rcases List.mem_append.1 h with h|h
 ·left
  split at h
  ·exact (List.mem_filter.1 (List.mem_of_mem_drop h)).1
  ·exact (List.mem_filter.1 h).1
 ·right;simpa using h
theorem lk_cases {b:Tl} (h:chB b=0) (s p:Int):(∃ x∈b.2,cvB x s p=true∧lkT b s p=(x.2.2,true))∨(lkT b s p=(0,false)∧∀ x∈b.2,cvB x s p=false):=by
 unfold lkT
 rw [if_neg (by simp [h])]
 cases hf:b.2.find? fun x=>cvB x s p with
 | none =>
  right
  refine ⟨rfl,fun x hx=>?_⟩
  have:=List.find?_eq_none.1 hf x hx
  simpa using this
 | some x =>
  left
  exact ⟨x,List.mem_of_find?_eq_some hf,by have:=List.find?_some hf;simpa using this,rfl⟩
theorem fiX_ok {s:Int} {p w:Nat} (hs:0≤s∧s<8) (hp:p<512) (h0:trB w=true):efE (fiX s p w)=0∧cvB (fiX s p w) s p=true:=by
 unfold efE fiX cvB plcB spn
 simp only
 cases hg:hgB w with
 | true =>
  simp only [if_true]
  refine ⟨?_,decide_eq_true ⟨trivial,by omega,by omega⟩⟩
  rw [if_neg (by simp;omega),if_neg]
  rintro (h|⟨_,h⟩)
  ·rw [h0] at h;cases h
  ·omega
 | false =>
  simp only [Bool.false_eq_true,if_false]
  refine ⟨?_,decide_eq_true ⟨trivial,by omega,by omega⟩⟩
  rw [if_neg (by simp;omega),if_neg]
  rintro (h|⟨h,_⟩)
  ·rw [h0] at h;cases h
  ·cases h
theorem walk_nat {t:Tb} (h:chk t=0) {p:Nat} (hp:p<512):walkT t p=((lsT t p).2.2,(lsT t p).2.1,0):=by
 rw [walkT_z (ckd_z h (by omega) (by omega)),Int.toNat_natCast]
theorem tlOK_of {b:Tl} (h:chB b=0) (hw:∀ x∈b.2,x.2.2<2^64):tlOK b:=by
 have:=chB_z.1 h
 exact ⟨by omega,hw⟩
theorem ac_miss {u:Tb} {b:Tl} {s:Int} {p:Nat} {wr:Bool} (hu:tbOK u) (hc:chk u=0) (hb:tlOK b) (hbc:chB b=0) (hs:0≤s∧s<8) (hp:p<512)
  (hm:¬ ((lkT b s p).2=true∧(wr=false∨((decR (lkT b s p).1).1.2.2.1=true∧(decR (lkT b s p).1).1.2.2.2.2.1=true)))) (hr:rfE (decR (lsT u p).2.2).1 wr=0) :
  ∃ w,w<2^64∧keyW w=keyW (lsT u p).2.2∧(decR (lsT u p).2.2).1.1=1∧(decR w).1.2.2.2.1=true∧(wr=true→(decR w).1.2.2.1=true∧(decR w).1.2.2.2.2.1=true)∧trB w=true ∧
   acT u b s p wr=(putT u p w,(b.1,fiL b (fiX s p w)),frmG (decR (lsT u p).2.2).1 p,0):=by
 obtain ⟨o1,o2,o3⟩:=ls_ok hu hc hp
 have hpl:plcB s p=true:=by unfold plcB;exact decide_eq_true ⟨hs.1,hs.2,by omega,by omega⟩
 have hk1:(decR (lsT u p).2.2).1.1=1:=by
  unfold rfE at hr
  split at hr
  ·exact absurd hr (by decide)
  ·rename_i h;exact Decidable.not_not.1 h
 have hW:wr=true→(decR (lsT u p).2.2).1.2.2.1=true:=fun h=>by
  unfold rfE at hr
  rw [if_neg (by simp [hk1])] at hr
  split at hr
  ·exact absurd hr (by decide)
  ·rename_i h2
   cases hx:(decR (lsT u p).2.2).1.2.2.1 with
   | true=>rfl
   | false=>exact absurd ⟨h,hx⟩ h2
 have h0:(decR (lsT u p).2.2).2=0:=by
  unfold okWb at o3
  simp only [Bool.and_eq_true,decide_eq_true_eq] at o3
  exact o3.1
 obtain ⟨m1,m2,m3,m4⟩:=mark_key (wr:=wr) h0 hk1 hW
 have mk:=key_all m1
 have htr:trB (mkW (lsT u p).2.2 wr).1=true:=by
  unfold trB
  exact decide_eq_true ⟨mk.1.trans h0,mk.2.1.trans hk1⟩
 obtain ⟨r1,r2,r3,r4⟩:=rep_ok hu hc hp m2 m1 hk1
 refine ⟨_,m2,m1,hk1,m3,fun h=>⟨mk.2.2.2.1.trans (hW h),m4 h⟩,htr,?_⟩
 unfold acT
 rw [if_neg (by simp [hc]),if_neg (by simp [hbc]),if_neg (by simp [hpl]),if_neg hm]
 unfold acM
 rw [walk_nat hc hp]
 simp only
 rw [if_neg (by simp [hr]),r1]
 unfold fiT
 rw [if_neg (by simp [hbc]),if_neg (by simp [hpl]),if_neg (by simp [htr])]
def gdW (w p:Nat) (d:Bool):Prop:=(decR w).2=0∧(decR w).1.1=1∧frmG (decR w).1 (p:Int)=(p:Int)∧(decR w).1.2.2.1=d
theorem gdW_key {a b p:Nat} {d:Bool} (h:keyW a=keyW b) (hg:gdW b p d):gdW a p d:=by
 have h2:=fr_key h (p:Int)
 obtain ⟨k1,k2,k3,k4,k5⟩:=key_all h
 exact ⟨k1.trans hg.1,k2.trans hg.2.1,h2.trans hg.2.2.1,k4.trans hg.2.2.2⟩
theorem gdW_ne {w p:Nat} {d:Bool} (h:gdW w p d):w≠0:=kind_ne0 h.2.1
structure Tc (t:Tb) (fr:List Int) (wr:List Bool) (nx:Nat):Prop where
 v:Vt t
 ok:tbOK t
 fl:fr.length=512
 wl:wr.length=512
 low:(∀ n∈t.2.1,n.1<nx)∧∀ d∈t.2.2,d.2<nx
 frv:∀ p:Nat,p<512→fr.getD p 0=-1∨fr.getD p 0=p
 emp:∀ p:Nat,p<512→fr.getD p 0=-1→(wlk (Mof t.2.1) t.1 p).2.2=0
 map:∀ p:Nat,p<512→fr.getD p 0=p→gdW (wlk (Mof t.2.1) t.1 p).2.2 p (wr.getD p false)
structure Bc (b:Tl) (fr:List Int) (wr:List Bool):Prop where
 ok:tlOK b
 c:chB b=0
 ent:∀ x∈b.2,∀ p:Nat,p<512→cvB x 3 p=true→fr.getD p 0=p∧gdW x.2.2 p (wr.getD p false)
theorem getDs {α:Type} {m:List α} {p q:Nat} {w d:α} (hp:p<m.length):(m.set p w).getD q d=if q=p then w else m.getD q d:=by
 rw [List.getD_eq_getElem?_getD,List.getElem?_set]
 by_cases e:p=q
 ·subst e;simp [hp]
 ·have:¬ q=p:=fun h=>e h.symm
  simp [e,this,List.getD_eq_getElem?_getD]
theorem vt_len {t:Tb} (h:Vt t):t.2.1.length≤73:=by
 rw [plcs_len h.num.asc h.vm]
 exact plcs_le
theorem vt_dlen {t:Tb} (h:Vt t):t.2.2.length≤64:=by
 have h1:(t.2.2.map (·.1)).length≤64:=by
  rw [h.dep]
  unfold hugM
  rw [List.length_map]
  exact Nat.le_trans (List.length_filter_le _ _) (by simp)
 simpa using h1
theorem Tc.ne {t:Tb} {fr:List Int} {wr:List Bool} {nx:Nat} (h:Tc t fr wr nx) {p:Nat} (hp:p<512) (h0:(wlk (Mof t.2.1) t.1 p).2.2≠0):fr.getD p 0=p:=by
 rcases h.frv p hp with h1|h1
 ·exact absurd (h.emp p hp h1) h0
 ·exact h1
theorem Bc.upd {b:Tl} {fr fr':List Int} {wr wr':List Bool} (h:Bc b fr wr) (he:∀ x∈b.2,∀ p:Nat,p<512→cvB x 3 p=true→fr'.getD p 0=fr.getD p 0∧wr'.getD p false=wr.getD p false):Bc b fr' wr' :=
 ⟨h.ok,h.c,fun x hx p hp hc=>by
  obtain ⟨e1,e2⟩:=he x hx p hp hc
  rw [e1,e2]
  exact h.ent x hx p hp hc⟩
theorem Bc.flush {b:Tl} {fr:List Int} {wr:List Bool} (h:Bc b fr wr) {p:Nat} (hp:p<512) {v:Int} {d:Bool} (hf:fr.length=512) (hw:wr.length=512) :
  inT b 3 p=((b.1,b.2.filter fun y=>!cvB y 3 p),0)∧Bc (b.1,b.2.filter fun y=>!cvB y 3 p) (fr.set p v) (wr.set p d)∧Bc (b.1,b.2.filter fun y=>!cvB y 3 p) (fr.set p v) wr∧Bc (b.1,b.2.filter fun y=>!cvB y 3 p) fr (wr.set p d):=by
 have hpl:plcB 3 p=true:=by unfold plcB;exact decide_eq_true ⟨by omega,by omega,by omega,by omega⟩
 have hcs:chB (b.1,b.2.filter fun y=>!cvB y 3 p)=0:=chB_sub h.c List.filter_sublist
 have hB:Bc (b.1,b.2.filter fun y=>!cvB y 3 p) fr wr:=⟨tlOK_of hcs fun x hx=>h.ok.2 x (List.mem_filter.1 hx).1,hcs,fun x hx q hq hc=>h.ent x (List.mem_filter.1 hx).1 q hq hc⟩
 have hne:∀ x∈(b.2.filter fun y=>!cvB y 3 p),∀ q:Nat,q<512→cvB x 3 q=true→q≠p:=fun x hx q _ hc e=>by
  have:=(List.mem_filter.1 hx).2
  subst e
  rw [hc] at this;simp at this
 refine ⟨?_,hB.upd fun x hx q hq hc=>?_,hB.upd fun x hx q hq hc=>?_,hB.upd fun x hx q hq hc=>?_⟩
 ·unfold inT
  rw [if_neg (by simp [h.c]),if_neg (by simp [hpl])]
 ·have:=hne x hx q hq hc
  rw [getDs (by omega),if_neg this,getDs (by omega),if_neg this];exact ⟨rfl,rfl⟩
 ·have:=hne x hx q hq hc
  rw [getDs (by omega),if_neg this];exact ⟨rfl,rfl⟩
 ·have:=hne x hx q hq hc
  rw [getDs (by omega),if_neg this];exact ⟨rfl,rfl⟩
theorem Tc.set {r:Int} {ns:NdL} {ds:List Dp} {fr:List Int} {wr:List Bool} {nx:Nat} (h:Tc (r,ns,ds) fr wr nx) {p:Nat} (hp:p<512) (h0:fr.getD p 0=-1) {w:Nat} (hw64:w<2^64) (hd:decR w=((1,(p:Int),true,false,false,false),0)) (hnx:nx+2≤4294967295) :
  ∃ k N,missT (r,ns,ds) p=(k,0)∧k≤2∧setP (r,ns,ds) p w (nxF nx k)=((r,N,ds),0)∧Tc (r,N,ds) (fr.set p p) (wr.set p true) (nx+k):=by
 have hck:ckd (r,ns,ds) (p:Int) 512=0:=ckd_z ((chk_iff h.ok).2 h.v) (by omega) (by omega)
 have hls:=(h.v.pv.walk hp).2.2
 have hle:=vt_len h.v
 simp only at hls hle
 obtain ⟨f,l,w0,hw⟩:∃ f l w,wlk (Mof ns) r p=(f,l,w):=⟨_,_,_,rfl⟩
 have hw0:w0=0:=by have:=h.emp p hp h0;simp only at this;rw [hw] at this;exact this
 subst hw0
 rw [hw] at hls
 have hl2:=(wlk_at h.v.vm hp hw).1
 have hmi:missT (r,ns,ds) p=(l,0):=by
  unfold missT
  rw [if_pos hck,Int.toNat_natCast,hls]
  simp only
  rw [if_neg]
  rintro ⟨_,hx⟩
  rw [decR_0] at hx
  simp [zE] at hx
 have hus:usB ns ds (nxF nx l)=true:=by
  refine usB_iff.2 fun i hi=>?_
  simp only [nxF_len] at hi
  unfold usC
  rw [nxF_gi hi]
  refine ⟨⟨by omega,by omega⟩,fun n hn=>?_,fun k hk=>?_,fun j hj=>?_⟩
  ·have:=h.low.1 n hn;omega
  ·have h5:(gp ds k).2<(nx:Int):=h.low.2 _ (gp_mem hk)
   omega
  ·rw [nxF_gi (by omega)];omega
 have hse:∃ N,setP (r,ns,ds) p w (nxF nx l)=((r,N,ds),0):=by
  unfold setP
  rw [if_neg (by simp [hck]),if_neg (by simp [hd]),Int.toNat_natCast,hls]
  simp only
  rw [if_neg (by simp),if_pos ⟨by simp,hus⟩]
  exact ⟨_,rfl⟩
 obtain ⟨N,hN⟩:=hse
 obtain ⟨q,f1,f',hpq,hq,hv,h1,h2,h3,h4,hwq,hu,hue,v1,v2,v3,v4,v5⟩:=set_vt h.ok (by omega) hw64 hN
 obtain rfl:p=q:=by omega
 refine ⟨l,N,hmi,hl2,hN,?_⟩
 obtain ⟨d1,d2,⟨f2,d3⟩,d4,d5,d6⟩:=vt_deep h.v h.ok hp hus (by omega) hw l (by simp) (Nat.le_refl _)
 rw [tkL (by simp)] at d1 d2 d3 d4 d5
 simp only [pJ,true_and,and_true] at hue
 have hpl:p<fr.length:=by rw [h.fl];exact hp
 have hpw:p<wr.length:=by rw [h.wl];exact hp
 have hg:gdW w p true:=by
  unfold gdW frmG
  rw [hd];simp
 refine ⟨v1,v2,by simp [h.fl],by simp [h.wl],⟨fun n hn=>?_,fun d hd=>?_⟩,fun q hq'=>?_,fun q hq' e0=>?_,fun q hq' e0=>?_⟩
 ·simp only at hn
  rw [hue] at hn
  have hfr:∃ m∈dpN r ds p ns (nxF nx l),m.1=n.1:=by
   rcases List.mem_or_eq_of_mem_set hn with h7|h7
   ·exact ⟨n,h7,rfl⟩
   ·exact ⟨_,gn_mem (lsT_lt d1.pv hp).1,by rw [h7];rfl⟩
  obtain ⟨n2,hn2,e⟩:=hfr
  rw [← e]
  rcases d5 n2 hn2 with ⟨n3,hn3,e5⟩|⟨j,hj,e5⟩
  ·have:=h.low.1 n3 hn3;omega
  ·rw [nxF_gi hj] at e5;omega
 ·have:=h.low.2 d hd;omega
 ·rw [getDs hpl]
  split
  ·rename_i e;rw [e];exact .inr rfl
  ·exact h.frv q hq'
 ·rw [getDs hpl] at e0
  split at e0
  ·omega
  ·rename_i e
   have:=h.emp q hq' e0
   rw [v5 q hq' e];exact this
 ·rw [getDs hpl] at e0
  rw [getDs hpw]
  by_cases e:q=p
  ·subst e
   rw [if_pos rfl]
   simp only at v4 ⊢
   rw [v4]
   exact hg
  ·rw [if_neg e] at e0 ⊢
   have:=h.map q hq' e0
   simp only at this ⊢
   rw [v5 q hq' e];exact this
theorem Bc.set {b:Tl} {fr:List Int} {wr:List Bool} (h:Bc b fr wr) {p:Nat} (hp:p<512) (hf:fr.length=512) (hw:wr.length=512) (h0:fr.getD p 0=-1) {v:Int} {d:Bool}:Bc b (fr.set p v) (wr.set p d) :=
 h.upd fun x hx q hq hc=>by
  have hne:q≠p:=fun e=>by
   subst e
   have:=(h.ent x hx q hq hc).1
   omega
  rw [getDs (by omega),if_neg hne,getDs (by omega),if_neg hne]
  exact ⟨rfl,rfl⟩
theorem hug_iff {r:Int} {ns:NdL} {ds:List Dp} (hv:Vt (r,ns,ds)) (ht:tbOK (r,ns,ds)) {g:Nat} (hg:g<64):hugeT (r,ns,ds) g=(decR (wlk (Mof ns) r (g*8)).2.2).1.2.2.2.2.2:=by
 unfold hugeT
 rw [if_pos (ckd_z ((chk_iff ht).2 hv) (by omega) (by omega)),Int.toNat_natCast]
 have:=(hv.pv.walk (p:=g*8) (by omega)).2.2
 simp only at this
 rw [show (lsT (r,ns,ds) (g*8)).2.2=(wlk (Mof ns) r (g*8)).2.2 by rw [this]]
theorem lev_0 {r:Int} {ns:NdL} {ds:List Dp} (hv:Vt (r,ns,ds)) (ht:tbOK (r,ns,ds)) {p:Nat} (hp:p<512) (hh:hugeT (r,ns,ds) ((p/8:Nat):Int)=false) {f:Int} {l w:Nat} (hw:wlk (Mof ns) r p=(f,l,w)) (h1:(decR w).1.1=1):l=0∧(decR w).1.2.2.2.2.2=false:=by
 obtain ⟨a1,a2,a3,a4,a5,a6⟩:=wlk_at hv.vm hp hw
 rw [hug_iff hv ht (by omega)] at hh
 by_cases hl:l=1
 ·subst hl
  have hc:=wlk_cell hv.vm hp hw (p':=p/8*8) (by omega) (by simp)
  rw [hc] at hh
  unfold okWb suitB at a6
  rw [h1,hh] at a6
  simp at a6
 ·unfold okWb suitB at a6
  rw [h1] at a6
  by_cases hl0:l=0
  ·subst hl0
   refine ⟨rfl,?_⟩
   simp at a6
   exact a6.2
  ·simp [hl,hl0] at a6
theorem Tc.clr {r:Int} {ns:NdL} {ds:List Dp} {fr:List Int} {wr:List Bool} {nx:Nat} (h:Tc (r,ns,ds) fr wr nx) {p:Nat} (hp:p<512) (h0:fr.getD p 0=p) (hh:hugeT (r,ns,ds) ((p/8:Nat):Int)=false) :
  ∃ N w A,clrP (r,ns,ds) p=((r,N,ds),w,A,0)∧Tc (r,N,ds) (fr.set p (-1)) wr nx:=by
 obtain ⟨f,l,w,hw⟩:∃ f l w,wlk (Mof ns) r p=(f,l,w):=⟨_,_,_,rfl⟩
 have hg:=h.map p hp h0
 simp only at hg
 rw [hw] at hg
 obtain ⟨rfl,_⟩:=lev_0 h.v h.ok hp hh hw hg.2.1
 obtain ⟨N,A,c1,c2,c3,⟨g',l',c4,_⟩,c6,c7,_⟩:=clr_vt h.v h.ok hp hw (gdW_ne hg)
 have hpl:p<fr.length:=by rw [h.fl];exact hp
 refine ⟨N,w,A,c1,c2,c3,by simp [h.fl],h.wl,⟨fun n hn=>?_,h.low.2⟩,fun q hq=>?_,fun q hq e0=>?_,fun q hq e0=>?_⟩
 ·obtain ⟨m,hm,e⟩:=c6 n hn
  rw [← e];exact h.low.1 m hm
 ·rw [getDs hpl]
  split
  ·exact .inl rfl
  ·exact h.frv q hq
 ·rw [getDs hpl] at e0
  by_cases e:q=p
  ·subst e
   simp only
   rw [c4]
  ·rw [if_neg e] at e0
   have:=h.emp q hq e0
   simp only at this ⊢
   rw [c7 q hq e];exact this
 ·rw [getDs hpl] at e0
  by_cases e:q=p
  ·rw [if_pos e] at e0;omega
  ·rw [if_neg e] at e0
   have:=h.map q hq e0
   simp only at this ⊢
   rw [c7 q hq e];exact this
theorem putT_fr {r:Int} {ns:NdL} {ds:List Dp} (hv:Vt (r,ns,ds)) {p w:Nat} (hp:p<512):∀ n∈(putT (r,ns,ds) p w).2.1,∃ m∈ns,m.1=n.1:=fun n hn=>by
 rcases List.mem_or_eq_of_mem_set hn with h7|h7
 ·exact ⟨n,h7,rfl⟩
 ·exact ⟨_,gn_mem (lsT_lt hv.pv hp).1,by rw [h7];rfl⟩
theorem Tc.prot {r:Int} {ns:NdL} {ds:List Dp} {fr:List Int} {wr:List Bool} {nx:Nat} (h:Tc (r,ns,ds) fr wr nx) {p:Nat} (hp:p<512) (h0:fr.getD p 0=p) (hh:hugeT (r,ns,ds) ((p/8:Nat):Int)=false)
  {w':Nat} (hw64:w'<2^64) (d1:(decR w').2=0) (d2:(decR w').1.1=1) (d3:(decR w').1.2.1=(decR (wlk (Mof ns) r p).2.2).1.2.1) (d4:(decR w').1.2.2.1=false) (d5:(decR w').1.2.2.2.2.2=(decR (wlk (Mof ns) r p).2.2).1.2.2.2.2.2) :
  ∃ N w,repP (r,ns,ds) p w'=((r,N,ds),w,0)∧Tc (r,N,ds) fr (wr.set p false) nx:=by
 obtain ⟨f,l,w,hw⟩:∃ f l w,wlk (Mof ns) r p=(f,l,w):=⟨_,_,_,rfl⟩
 have hg:=h.map p hp h0
 simp only at hg
 rw [hw] at hg d3 d5
 simp only at hg d3 d5
 obtain ⟨rfl,h5⟩:=lev_0 h.v h.ok hp hh hw hg.2.1
 rw [h5] at d5
 have hck:ckd (r,ns,ds) (p:Int) 512=0:=ckd_z ((chk_iff h.ok).2 h.v) (by omega) (by omega)
 have hls:=(h.v.pv.walk hp).2.2
 simp only at hls
 rw [hw] at hls
 have hsu:suitB (decR w').1 0=true:=by unfold suitB;rw [d2,d5];simp
 have htb:tabW w'=none:=by unfold tabW;rw [d2];simp
 have hok:okWb 0 w'=true:=by unfold okWb;rw [d1,hsu];simp
 have hhq:hugW w'=hugW w:=by unfold hugW;rw [d5,h5];simp
 obtain ⟨v1,v2,v3,v4⟩:=vt_rep h.v h.ok hp hw hhq hw64 htb hok
 have hr:repP (r,ns,ds) p w'=((r,(putT (r,ns,ds) p w').2.1,ds),w,0):=by
  unfold repP
  rw [if_neg (by simp [hck]),Int.toNat_natCast,hls]
  simp only
  rw [if_neg (gdW_ne hg),if_neg (by simp [d1,d2,hsu])]
  rfl
 have hpw:p<wr.length:=by rw [h.wl];exact hp
 refine ⟨_,w,hr,v1,v2,h.fl,by simp [h.wl],⟨fun n hn=>?_,h.low.2⟩,h.frv,fun q hq e0=>?_,fun q hq e0=>?_⟩
 ·obtain ⟨m,hm,e⟩:=putT_fr h.v hp n hn
  rw [← e];exact h.low.1 m hm
 ·have hne:q≠p:=fun e=>by subst e;omega
  simp only
  rw [v4 q hq (by simpa using hne)]
  exact h.emp q hq e0
 ·rw [getDs hpw]
  by_cases e:q=p
  ·subst e
   rw [if_pos rfl]
   simp only
   rw [v3]
   refine ⟨d1,d2,?_,d4⟩
   have:=hg.2.2.1
   unfold frmG at this ⊢
   rw [h5] at this
   rw [d5,d3];exact this
  ·rw [if_neg e]
   simp only
   rw [v4 q hq (by simpa using e)]
   exact h.map q hq e0
theorem Tc.split {r:Int} {ns:NdL} {ds:List Dp} {fr:List Int} {wr:List Bool} {nx:Nat} (h:Tc (r,ns,ds) fr wr nx) {g:Nat} (hg:g<64) (hh:hugeT (r,ns,ds) g=true) :
  ∃ u,splP (r,ns,ds) g=((r,u),0)∧Tc (r,u) fr wr nx∧hugeT (r,u) g=false:=by
 have hh':=hh
 rw [hug_iff h.v h.ok hg] at hh'
 obtain ⟨f,l,w,hw⟩:∃ f l w,wlk (Mof ns) r (g*8)=(f,l,w):=⟨_,_,_,rfl⟩
 rw [hw] at hh'
 simp only at hh'
 have hp:g*8<512:=by omega
 obtain ⟨a1,a2,a3,a4,a5,a6⟩:=wlk_at h.v.vm hp hw
 have hd0:(decR w).2=0:=by unfold okWb at a6;simp only [Bool.and_eq_true,decide_eq_true_eq] at a6;exact a6.1
 have hk:=kind_huge hd0 hh'
 obtain rfl:l=1:=by
  unfold okWb suitB at a6
  rw [hk,hh'] at a6
  rcases (by omega:l=0∨l=1∨l=2) with rfl|rfl|rfl
  ·simp at a6
  ·rfl
  ·simp at a6
 have hle:=vt_len h.v
 simp only at hle
 obtain ⟨v1,v2,v3,v4⟩:=spl_vt h.v h.ok (by omega) hg hw hh'
 obtain ⟨F,h1,h2,h3,h4,h5,h6,h7,h8,h9,h10⟩:=spl_map h.v h.ok (by omega) hg rfl hw hh'
 have hls:=(h.v.pv.walk hp).2.2
 simp only at hls
 rw [hw] at hls
 have hck:ckd (r,ns,ds) (g:Int) 64=0:=ckd_z ((chk_iff h.ok).2 h.v) (by omega) (by omega)
 have hs:splP (r,ns,ds) g=(splN (r,ns,ds) g w,0):=by
  unfold splP
  rw [if_neg (by simp [hck]),Int.toNat_natCast,hls]
  simp only
  rw [if_pos (by simp [hh'])]
 have hS:splN (r,ns,ds) g w=(r,spN r ds (g*8) w (spB (r,ns,ds) (g*8) (gp ds (lowD ds g)).2) 8,delK ds (g:Int)):=Prod.ext rfl (Prod.ext rfl v4)
 rw [hS] at v1 v2 hs
 obtain ⟨S,hSS⟩:∃ S,S=spN r ds (g*8) w (spB (r,ns,ds) (g*8) (gp ds (lowD ds g)).2) 8:=⟨_,rfl⟩
 rw [← hSS] at h5 h6 h7 h8 h9 h10 v1 v2 hs
 have hfr:∀ n∈S,n.1=(F:Int)∨∃ m∈ns,m.1=n.1:=fun n hn=>by
  have e:=(mMo h5.asc (f:=n.1) (ws:=n.2)).1 hn
  by_cases hx:n.1=(F:Int)
  ·exact .inl hx
  ·right
   rw [h9] at e
   unfold updM1 updW at e
   rw [if_neg hx] at e
   cases hm:Mof ns n.1 with
   | none =>
    split at e
    ·rename_i h0;rw [← h0,hm] at e;simp at e
    ·rw [hm] at e;simp at e
   | some ws=>exact ⟨(n.1,ws),(mMo h.v.num.asc).2 hm,rfl⟩
 have hpart:∀ i,i<8→(decR (spW w i))=((1,(decR w).1.2.1+i,(decR w).1.2.2.1,(decR w).1.2.2.2.1,(decR w).1.2.2.2.2.1,false),0):=fun i hi=>by
  obtain ⟨n,n1,n2,n3⟩:=part_ok hd0 hh' hi
  have:spW w i=n:=by unfold spW;rw [n1];rfl
  rw [this];exact n3
 have hcell:∀ q,q<512→q/8=g→(wlk (Mof ns) r q).2.2=w:=fun q hq e=>by
  rw [wlk_cell h.v.vm hp hw hq (by simp;omega)]
 have hin:∀ q,q<512→q/8=g→∃ i,i<8∧q=g*8+i:=fun q hq e=>⟨q - g*8,by omega,by omega⟩
 refine ⟨(S,delK ds (g:Int)),hs,⟨v1,v2,h.fl,h.wl,⟨fun n hn=>?_,fun d hd=>h.low.2 d (mem_delK.1 hd).1⟩,h.frv,fun q hq e0=>?_,fun q hq e0=>?_⟩,?_⟩
 ·rcases hfr n hn with e|⟨m,hm,e⟩
  ·rw [e,← h1];exact h.low.2 _ (gp_mem h4)
  ·rw [← e];exact h.low.1 m hm
 ·have h0:=h.emp q hq e0
  simp only at h0 ⊢
  by_cases e:q/8=g
  ·rw [hcell q hq e] at h0
   exact absurd h0 (kind_ne0 hk)
  ·rw [h10 q hq e];exact h0
 ·have h0:=h.map q hq e0
  simp only at h0 ⊢
  by_cases e:q/8=g
  ·rw [hcell q hq e] at h0
   obtain ⟨i,hi,rfl⟩:=hin q hq e
   rw [h8 i hi]
   have hp2:=hpart i hi
   obtain ⟨_,_,k3,k4⟩:=h0
   unfold gdW
   rw [hp2]
   refine ⟨rfl,rfl,?_,k4⟩
   unfold frmG at k3 ⊢
   rw [hh'] at k3
   simp only [if_true,Bool.false_eq_true,if_false] at k3 ⊢
   omega
  ·rw [h10 q hq e];exact h0
 ·rw [hug_iff v1 v2 hg]
  have:=h8 0 (by omega)
  rw [Nat.add_zero] at this
  rw [this]
  simp only
  rw [hpart 0 (by omega)]
theorem Tc.asm {r:Int} {ns:NdL} {ds:List Dp} {fr:List Int} {wr:List Bool} {nx:Nat} (h:Tc (r,ns,ds) fr wr nx) {g:Nat} (hg:g<64) {u:Tb} (hs:asmP (r,ns,ds) g=(u,0)):u.1=r∧Tc u fr wr nx:=by
 have hdl:=vt_dlen h.v
 simp only at hdl
 obtain ⟨f,w,ws,f1,e1,e2,v1,v2,v3,v4,v5,v6,v7,v8,v9⟩:=asm_vt h.v h.ok (by omega) hg hs
 obtain ⟨n,j1,j2,j3,j4,j5,j6⟩:=join_dec (ws:=ws) (by rw [v6])
 obtain rfl:w=n:=by rw [v6] at j1;simp only at j1;omega
 have hin:∀ q,q<512→q/8=g→∃ i,i<8∧q=g*8+i:=fun q hq e=>⟨q - g*8,by omega,by omega⟩
 refine ⟨e1,v1,v2,h.fl,h.wl,⟨fun n hn=>?_,fun d hd=>?_⟩,h.frv,fun q hq e0=>?_,fun q hq e0=>?_⟩
 ·obtain ⟨m,hm,e⟩:=v4 n hn
  rw [← e];exact h.low.1 m hm
 ·rw [e2] at hd
  rcases mem_insK.1 hd with rfl|hd
  ·obtain ⟨m,hm,e⟩:=v5
   simp only
   rw [← e];exact h.low.1 m hm
  ·exact h.low.2 d hd
 ·have h0:=h.emp q hq e0
  simp only at h0
  rw [e1]
  by_cases e:q/8=g
  ·obtain ⟨i,hi,rfl⟩:=hin q hq e
   rw [v7 i hi] at h0
   simp only at h0
   have:=(j6 i hi).1
   rw [h0,decR_0] at this
   simp [zE] at this
  ·rw [v9 q hq e];exact h0
 ·have h0:=h.map q hq e0
  simp only at h0
  rw [e1]
  by_cases e:q/8=g
  ·obtain ⟨i,hi,rfl⟩:=hin q hq e
   rw [v7 i hi] at h0
   simp only at h0
   rw [v8 i hi]
   simp only
   obtain ⟨k1,k2,k3,k4⟩:=j6 i hi
   obtain ⟨_,_,m3,m4⟩:=h0
   refine ⟨j3,j4,?_,k3.symm.trans m4⟩
   unfold frmG at m3 ⊢
   rw [k4,k2] at m3
   rw [j5]
   simp only [if_true,Bool.false_eq_true,if_false] at m3 ⊢
   omega
  ·rw [v9 q hq e];exact h0
theorem Tc.acc {r:Int} {ns:NdL} {ds:List Dp} {fr:List Int} {wr:List Bool} {nx:Nat} (h:Tc (r,ns,ds) fr wr nx) {b:Tl} (hb:Bc b fr wr) {p:Nat} (hp:p<512) (wt:Bool) :
  ∃ N b' f e,acT (r,ns,ds) b 3 p wt=((r,N,ds),b',f,e)∧Tc (r,N,ds) fr wr nx∧Bc b' fr wr ∧
   (fr.getD p 0=-1∧e=13∨fr.getD p 0=p∧wt=true∧wr.getD p false=false∧e=12∨fr.getD p 0=p∧(wt=true→wr.getD p false=true)∧e=0∧f=p):=by
 have hs:(0:Int)≤3∧(3:Int)<8:=by omega
 have hpl:plcB 3 p=true:=by unfold plcB;exact decide_eq_true ⟨by omega,by omega,by omega,by omega⟩
 have hc:=(chk_iff h.ok).2 h.v
 have hwl:∀ q,q<512→(lsT (r,ns,ds) q).2=(wlk (Mof ns) r q).2:=fun q hq=>(h.v.pv.walk hq).2.2
 by_cases hm:(lkT b 3 p).2=true∧(wt=false∨((decR (lkT b 3 p).1).1.2.2.1=true∧(decR (lkT b 3 p).1).1.2.2.2.2.1=true))
 ·have ea:acT (r,ns,ds) b 3 p wt=((r,ns,ds),b,frmG (decR (lkT b 3 p).1).1 p,0):=by
   unfold acT
   rw [if_neg (by simp [hc]),if_neg (by simp [hb.c]),if_neg (by simp [hpl]),if_pos hm]
  refine ⟨ns,b,_,_,ea,h,hb,.inr (.inr ?_)⟩
  rcases lk_cases hb.c 3 p with ⟨x,hx,hcv,e⟩|⟨e,_⟩
  ·rw [e] at hm ⊢
   simp only at hm ⊢
   obtain ⟨k1,k2,k3,k4,k5⟩:=hb.ent x hx p hp hcv
   refine ⟨k1,fun hw=>?_,trivial,k4⟩
   rcases hm.2 with h2|h2
   ·rw [h2] at hw;cases hw
   ·rw [← k5];exact h2.1
  ·rw [e] at hm
   exact absurd hm.1 (by decide)
 ·by_cases hr:rfE (decR (lsT (r,ns,ds) p).2.2).1 wt=0
  ·obtain ⟨w,w1,w2,w3,w4,w5,w6,ea⟩:=ac_miss h.ok hc hb.ok hb.c hs hp hm hr
   obtain ⟨r1,r2,r3,r4⟩:=rep_ok h.ok hc hp w1 w2 w3
   have hv':=(chk_iff r3).1 r2
   have hwl':∀ q,q<512→(lsT (putT (r,ns,ds) p w) q).2=(wlk (Mof (putT (r,ns,ds) p w).2.1) r q).2:=fun q hq=>(hv'.pv.walk hq).2.2
   have hfp:=h.ne hp (by
    show (wlk (Mof ns) r p).2.2≠0
    rw [← hwl p hp];exact kind_ne0 w3)
   have hgp:=h.map p hp hfp
   simp only at hgp
   rw [← hwl p hp] at hgp
   have hT:Tc (putT (r,ns,ds) p w) fr wr nx:=by
    refine ⟨hv',r3,h.fl,h.wl,⟨fun n hn=>?_,h.low.2⟩,h.frv,fun q hq e0=>?_,fun q hq e0=>?_⟩
    ·obtain ⟨m,hm,e⟩:=putT_fr h.v hp n hn
     rw [← e];exact h.low.1 m hm
    ·have h0:=h.emp q hq e0
     simp only at h0
     show (wlk (Mof (putT (r,ns,ds) p w).2.1) r q).2.2=0
     rw [← hwl q hq] at h0
     rw [← hwl' q hq]
     obtain ⟨k1,k2⟩:=r4 q hq
     by_cases he:q/8^(lsT (r,ns,ds) p).2.1=p/8^(lsT (r,ns,ds) p).2.1
     ·rw [ls_cell h.ok hc hp hq he] at h0
      exact absurd h0 (kind_ne0 w3)
     ·rw [k2 he];exact h0
    ·have h0:=h.map q hq e0
     simp only at h0
     show gdW (wlk (Mof (putT (r,ns,ds) p w).2.1) r q).2.2 q _
     rw [← hwl q hq] at h0
     rw [← hwl' q hq]
     obtain ⟨k1,k2⟩:=r4 q hq
     by_cases he:q/8^(lsT (r,ns,ds) p).2.1=p/8^(lsT (r,ns,ds) p).2.1
     ·rw [ls_cell h.ok hc hp hq he] at h0
      rw [k1 he]
      exact gdW_key w2 h0
     ·rw [k2 he];exact h0
   obtain ⟨x1,x2⟩:=fiX_ok (s:=3) (w:=w) hs hp w6
   have hcf:=chB_fill hb.c x1
   obtain ⟨o1,o2,o3⟩:=ls_ok h.ok hc hp
   have hlev:hgB w=true→(lsT (r,ns,ds) p).2.1=1:=fun hg=>by
    have o3':=(ok_key (l:=(lsT (r,ns,ds) p).2.1) w2).trans o3
    have wk:=(key_all w2).2.1.trans w3
    unfold okWb suitB at o3'
    unfold hgB at hg
    simp only [Bool.and_eq_true,decide_eq_true_eq] at o3' hg
    rw [wk,hg.2] at o3'
    rcases (by omega:(lsT (r,ns,ds) p).2.1=0∨(lsT (r,ns,ds) p).2.1=1∨(lsT (r,ns,ds) p).2.1=2) with h|h|h
    ·rw [h] at o3';simp at o3'
    ·exact h
    ·rw [h] at o3';simp at o3'
   have hB:Bc (b.1,fiL b (fiX 3 p w)) fr wr:=by
    refine ⟨tlOK_of hcf fun x hx=>?_,hcf,fun x hx q hq hcv=>?_⟩
    ·rcases fi_mem hx with hx|rfl
     ·exact hb.ok.2 x hx
     ·exact w1
    ·rcases fi_mem hx with hx|rfl
     ·exact hb.ent x hx q hq hcv
     ·have hcell:(lsT (r,ns,ds) q).2=(lsT (r,ns,ds) p).2:=by
       unfold cvB fiX spn at hcv
       cases hg:hgB w with
       | true =>
        have hl:=hlev hg
        simp only [hg,if_true,decide_eq_true_eq] at hcv
        exact ls_cell h.ok hc hp hq (by rw [hl];simp;omega)
       | false =>
        simp only [hg,Bool.false_eq_true,if_false,decide_eq_true_eq] at hcv
        obtain rfl:q=p:=by omega
        rfl
      have hw2:(wlk (Mof ns) r q).2.2=(lsT (r,ns,ds) p).2.2:=by rw [← hwl q hq,hcell]
      have hfq:=h.ne hq (by
       show (wlk (Mof ns) r q).2.2≠0
       rw [hw2];exact kind_ne0 w3)
      have hgq:=h.map q hq hfq
      simp only at hgq
      rw [hw2] at hgq
      exact ⟨hfq,gdW_key w2 hgq⟩
   refine ⟨_,_,_,_,ea,hT,hB,.inr (.inr ⟨hfp,fun hw=>?_,rfl,hgp.2.2.1⟩)⟩
   have:=(w5 hw).1
   rw [← hgp.2.2.2,← (key_all w2).2.2.2.1];exact this
  ·have ea:acT (r,ns,ds) b 3 p wt=((r,ns,ds),(b.1,b.2.filter fun y=>!cvB y 3 p),0,rfE (decR (lsT (r,ns,ds) p).2.2).1 wt):=by
    unfold acT
    rw [if_neg (by simp [hc]),if_neg (by simp [hb.c]),if_neg (by simp [hpl]),if_neg hm]
    unfold acM
    rw [walk_nat hc hp]
    simp only
    rw [if_pos hr]
    unfold inT
    rw [if_neg (by simp [hb.c]),if_neg (by simp [hpl])]
   have hcs:chB (b.1,b.2.filter fun y=>!cvB y 3 p)=0:=chB_sub hb.c List.filter_sublist
   have hB:Bc (b.1,b.2.filter fun y=>!cvB y 3 p) fr wr:=⟨tlOK_of hcs fun x hx=>hb.ok.2 x (List.mem_filter.1 hx).1,hcs,fun x hx q hq hc=>hb.ent x (List.mem_filter.1 hx).1 q hq hc⟩
   refine ⟨_,_,_,_,ea,h,hB,?_⟩
   rcases h.frv p hp with h1|h1
   ·left
    refine ⟨h1,?_⟩
    have h0:=h.emp p hp h1
    simp only at h0
    rw [hwl p hp,h0,decR_0]
    unfold rfE zE
    simp
   ·right;left
    have h0:=h.map p hp h1
    simp only at h0
    rw [← hwl p hp] at h0
    have hk:rfE (decR (lsT (r,ns,ds) p).2.2).1 wt=if wt=true∧wr.getD p false=false then 12 else 0:=by
     unfold rfE
     rw [if_neg (by simp [h0.2.1]),h0.2.2.2]
    rw [hk] at hr ⊢
    by_cases hx:wt=true∧wr.getD p false=false
    ·rw [if_pos hx];exact ⟨h1,hx.1,hx.2,rfl⟩
    ·rw [if_neg hx] at hr;exact absurd rfl hr
structure Sc (s:AsD):Prop where
 t:Tc s.1 s.2.2.2.1 s.2.2.2.2.1 s.2.2.2.2.2.toNat
 a:Bc s.2.1 s.2.2.2.1 s.2.2.2.2.1
 b:Bc s.2.2.1 s.2.2.2.1 s.2.2.2.2.1
 n:0≤s.2.2.2.2.2∧s.2.2.2.2.2≤1000000
theorem Sc.k {s:AsD} (h:Sc s):asK s:=⟨h.t.ok,h.a.ok,h.b.ok,h.t.fl,h.t.wl⟩
def wdP (p:Nat):Nat:=(encR (1,(p:Int),true,false,false,false)).1.toNat
theorem wdP_ok {p:Nat} (hp:p<512):encR (1,(p:Int),true,false,false,false)=((wdP p:Int),0)∧wdP p<2^64∧decR (wdP p)=((1,(p:Int),true,false,false,false),0):=by
 obtain ⟨n,n1,n2,n3⟩:=decR_enc (k:=1) (f:=p) (d:=true) (a:=false) (x:=false) (h:=false) (by decide) (by omega) (by unfold badF;simp;omega) rfl
 have:wdP p=n:=by unfold wdP;rw [n1];rfl
 rw [this]
 exact ⟨n1,n2,n3⟩
noncomputable def stA (s:AsD) (p:Nat):AsD:=((setP s.1 p (wdP p) (nxF s.2.2.2.2.2.toNat (missT s.1 p).1)).1,s.2.1,s.2.2.1,s.2.2.2.1.set p p,s.2.2.2.2.1.set p true,s.2.2.2.2.2+(missT s.1 p).1)
theorem stA_ok {s:AsD} (h:Sc s) {p:Nat} (hp:p<512) (h0:s.2.2.2.1.getD p 0=-1) (hn:s.2.2.2.2.2+2≤1000000):Sc (stA s p)∧(missT s.1 p).2=0∧(missT s.1 p).1≤2∧(setP s.1 p (wdP p) (nxF s.2.2.2.2.2.toNat (missT s.1 p).1)).2=0∧(stA s p).2.2.2.2.2≤s.2.2.2.2.2+2:=by
 obtain ⟨⟨r,ns,ds⟩,b0,b1,fr,wr,nx⟩:=s
 obtain ⟨ht,ha,hb,hn0⟩:=h
 simp only at ht ha hb hn0 h0 hn ⊢
 obtain ⟨e1,e2,e3⟩:=wdP_ok hp
 obtain ⟨k,N,m1,m2,m3,m4⟩:=ht.set hp h0 e2 e3 (by omega)
 have ek:(stA ((r,ns,ds),b0,b1,fr,wr,nx) p)=((r,N,ds),b0,b1,fr.set p p,wr.set p true,nx+k):=by
  unfold stA
  simp only [m1,m3]
 rw [ek]
 refine ⟨⟨?_,ha.set hp ht.fl ht.wl h0,hb.set hp ht.fl ht.wl h0,by simp only;omega⟩,by rw [m1],by rw [m1];exact m2,by rw [m1];simp only;rw [m3],by simp only;omega⟩
 simp only
 rw [show (nx+(k:Int)).toNat=nx.toNat+k by omega]
 exact m4
abbrev StI:={x:AsD×Nat // Sc x.1∧x.2<512∧x.1.2.2.2.1.getD x.2 0=-1∧x.1.2.2.2.2.2+2≤1000000}
noncomputable def stS:List AV→List AO→Option (AV×List AO):=specG (ι:=StI) (fun x=>[.bp 0 0,I x.1.2]) (fun x=>asM x.1.1) (fun _=>rtO [B true]) fun x=>asM (stA x.1.1 x.1.2)
theorem stS_at {s:AsD} {p:Nat} (h:Sc s) (hp:p<512) (h0:s.2.2.2.1.getD p 0=-1) (hn:s.2.2.2.2.2+2≤1000000):stS [.bp 0 0,I p] (asM s)=some (B true,asM (stA s p)):=by
 refine sGe (ι:=StI) (A:=fun x=>[.bp 0 0,I x.1.2]) (M:=fun x=>asM x.1.1) (R:=fun _=>rtO [B true]) (O:=fun x=>asM (stA x.1.1 x.1.2)) ⟨(s,p),h,hp,h0,hn⟩ fun j hA hM=>?_
 obtain ⟨⟨s',p'⟩,h'⟩:=j
 have e:=asM_inj h'.1.k h.k hM
 simp only at e
 subst e
 simp only [cJ,I,AV.v.injEq,Value.int.injEq,true_and,and_true,Int.ofNat_inj] at hA
 subst hA
 exact ⟨rfl,rfl⟩
theorem nxF_s {n k:Nat}:nxF n (k+1)=nxF n k++[((n+k:Nat):Int)]:=by
 unfold nxF
 rw [List.range_succ,List.map_append];rfl
set_option maxHeartbeats 8000000 in
theorem s70 (X:AX) (hX:XOK prog X) (hw:X.W wT)
  (hmi:∀ (t:Tb) (x:Int),tbOK t→∀ M n,X.call 37 [TbV t,I x] M n=some (.tup [I (missT t x).1,I (missT t x).2],[]))
  (hen:∀ (k f:Int) (d a x h:Bool) (M:Nat→AO) (n:Nat),X.call 143 [.agg [I k,I f,B d,B a,B x,B h]] M n=some (.tup [U (encR (k,f,d,a,x,h)).1,I (encR (k,f,d,a,x,h)).2],[]))
  (hse:∀ (t:Tb) (x:Int) (w:Nat) (fs:List Int),stOK (t,x,w,fs)→∀ M n,X.call 51 [TbV t,I x,U w,.rd 1 (irw fs)] M n=some (.tup [TbV (setP t x w fs).1,I (setP t x w fs).2],[])):GSd prog 70 stS:=by
 unfold stS
 refine gsS func70 rfl X fun ⟨⟨s,p⟩,hs,hp,h0,hn⟩ w0 L E=>⟨by show 2≤86;decide,?_⟩
 simp only at hs hp h0 hn ⊢
 obtain ⟨_,q1,q2,q3,_⟩:=stA_ok hs hp h0 hn
 have hk:=hs.k
 have hnx:=hs.n
 have eA:stA s p=((setP s.1 p (wdP p) (nxF s.2.2.2.2.2.toNat (missT s.1 p).1)).1,s.2.1,s.2.2.1,s.2.2.2.1.set p p,s.2.2.2.2.1.set p true,s.2.2.2.2.2+(missT s.1 p).1):=rfl
 rw [eA]
 obtain ⟨t,b0,b1,fr,wr,nx⟩:=s
 obtain ⟨k0,k1,k2,hf,hwl⟩:=hk
 simp only at k0 k1 k2 hf hwl hnx q1 q2 q3 hn ⊢
 obtain ⟨N,rfl⟩:=Int.eq_ofNat_of_zero_le hnx.1
 rw [Int.toNat_natCast] at q3 ⊢
 have mi:=hmi t p k0
 obtain ⟨w1,w2,w3⟩:=wdP_ok hp
 have en:=hen 1 p true false false false
 rw [w1] at en
 simp only at en
 rw [q1] at mi
 obtain ⟨k,hkk⟩:∃ k,k=(missT t p).1:=⟨_,rfl⟩
 rw [← hkk] at mi q2 q3 ⊢
 have hvl:=vt_len hs.t.v
 have se:=hse t p (wdP p) (nxF N k) ⟨k0,by simp only at hvl ⊢;omega,w2,by simp;omega⟩
 rw [q3] at se
 obtain ⟨⟨ur,un,ud⟩,hu⟩:∃ u,u=(setP t p (wdP p) (nxF N k)).1:=⟨_,rfl⟩
 rw [← hu] at se ⊢
 obtain ⟨w,hwd⟩:∃ w,w=wdP p:=⟨_,rfl⟩
 rw [← hwd] at en se
 have hln:=fun t fr wr nx h1 h2=>@asC_len t b0 b1 fr wr nx h1 h2
 have hl1:=fun nx=>@asC_len t b0 b1 fr wr nx hf hwl
 have gn:=fun nx=>@asC_n t b0 b1 fr wr nx hf hwl
 have gnE:=fun nx=>getE_of (@asC_n t b0 b1 fr wr nx hf hwl)
 have sn:=fun nx v=>@asC_sn t b0 b1 fr wr nx hf hwl v
 obtain ⟨r,ns,ds⟩:=t
 simp only [TbV] at mi se
 simp only [asM]
 show AW ⟨prog,X,86,w0,⟨L,E,1⟩⟩ _ _ _
 have hc:Cx.OK ⟨prog,X,86,w0,⟨L,E,1⟩⟩:=⟨hX,mixed⟩
 have hkI1:¬ (k:Int)<0:=by omega
 have hkI2:¬ (2:Int)<(k:Int):=by omega
 have hkN2:¬ 2<k:=by omega
 have zS:=jj mi<|jj hl1<|jj hkI1<|jj hkI2<|hkN2
 repeat' (first|(refine aSk fun K hK=>?_)|(refine eF64 ?_)|(refine eC (fun h=>?_) (fun h=>?_)<;>(try simp at h))|(refine hK _ ?_;clear hK)|(clear hK;refine hK _ ?_;clear hK))
 all_goals clear zS
 refine aw_weaken (le_nilslot (t:=7) (sz:=1) (by simp)) ?_
 have hap:∀ i,irw (nxF N i)++[[I ((N:Int)+(i:Nat))]]=irw (nxF N (i+1)):=fun i=>by
  rw [nxF_s,irows_ap];simp
 have htk:∀ i,List.take i (irw (nxF N i))=irw (nxF N i):=fun i=>tkL (by simp)
 refine aLK (s0:=?lps1) (m0:=?lpm1) (ι:={i:Nat // i≤k}) [0,1,30] (fun i=>[(31,I i.1),(7,.sl 401 1 1 0 i.1)]) (fun i=>[(0,.box (asC (r,ns,ds) b0 b1 fr wr ((N:Int)+i.1))),(401,.vec 1 1 false (irw (nxF N i.1)))]) (fun i=>k - i.1) ⟨0,by omega⟩ ?lhs1 ?lhm1 ?_ ?_
 case lhs1=>first|(simp [kpS];done)|(simp [kpS];rfl)
 case lhm1=>first|rfl|(simp;done)|(simp;rfl)
 ·simp only [show nxF N 0=[] from rfl,Int.natCast_zero,Int.add_zero]
  exact le_of2 (by simp) (by simp [AVle,AV.under,AV.underL,irw]<;>omega) (by simp [AOle,AO.under,AV.underL,AV.under,irw]<;>omega)
 ·rintro ⟨i,hi⟩
  simp only
  rcases dE (i<k) with hil|hil
  ·have hilI:(i:Int)<(k:Int):=by omega
   have hilN:i<1000:=by omega
   have zS:=jj hilI<|jj hl1<|jj hap<|jj htk<|jj gn<|jj gnE<|sn
   repeat' (first|(refine aSk fun K hK=>?_)|(refine eF64 ?_)|(refine eC (fun h=>?_) (fun h=>?_)<;>(try simp at h))|(refine hK _ ?_;clear hK)|clear hK)
   all_goals clear zS
   refine ⟨i+1,?_,by omega,by omega⟩
   simp only [show (N:Int)+((i+1:Nat):Int)=N+i+1 by omega]
   refine le_turn (s1:=?tus2) (m1:=?tum2) [] [0,1,7,30,31] [0,401] ?tua2 ?tub2 ?tuc2 ?tud2 ?tue2 ?tuf2 ?tug2
   case tua2=>first|(simp [kpS];done)|(simp [kpS];rfl)
   case tub2=>first|(simp;done)|(simp;rfl)
   case tuc2=>simp
   case tud2=>simp
   case tue2=>simp
   case tuf2=>simp
   case tug2 =>
    simp [swp,vr]
    exact dle
  ·obtain rfl:i=k:=by omega
   refine aw_weaken (le_seal (t:=7) (b:=401) (v:=1) (sz:=1) (f:=false) (xs:=irw (nxF N i)) (by simp) (by simp)) ?_
   have hl2:=fun t nx=>@asC_len t b0 b1 fr wr nx hf hwl
   have hl3:=fun t nx=>@asC_len t b0 b1 (fr.set p p) wr nx (by simp [hf]) hwl
   have sf:=fun t nx=>@asC_sf t b0 b1 fr wr nx hf p hp p
   have sw:=fun t nx=>@asC_sw t b0 b1 (fr.set p p) wr nx (by simp [hf]) hwl p hp true
   have zS:=jj en<|jj se<|jj hl2<|jj hl3<|jj sf<|sw
   repeat' (first|(refine aSk fun K hK=>?_)|(refine eF64 ?_)|(refine eC (fun h=>?_) (fun h=>?_)<;>(try simp at h))|(refine hK _ ?_;clear hK)|clear hK)
   all_goals clear zS
   refine ⟨by simp,_,by simp [aRs,aRt,f70];rfl,?_⟩
   simp only [idx]
   exact dle
noncomputable section
def prW (w:Nat):Nat×Int:=if (decR w).2≠0 then (0,(decR w).2) else if (decR w).1.1≠1∧(decR w).1.1≠3 then (0,11) else (w &&& (18446744073709551615 - 8),0)
theorem and_8 {w:Nat} (hw:w<2^64):w &&& (18446744073709551615 - 8)=w - 8*(w/8%2):=by
 have key:∀ s:Fin 16,∀ j:Fin 4,(s.1 - 8*(s.1/8%2)).testBit j.1=(s.1.testBit j.1&&(7:Nat).testBit j.1):=by decide
 obtain ⟨q,s,hs,rfl⟩:∃ q s,s<16∧w=2^4*q+s:=⟨w/16,w%16,Nat.mod_lt _ (by omega),by omega⟩
 have hq:q<2^60:=by omega
 have e1:(2^4*q+s)/8%2=s/8%2:=by omega
 have e2:2^4*q+s - 8*(s/8%2)=2^4*q+(s - 8*(s/8%2)):=by omega
 rw [e1,e2]
 refine Nat.eq_of_testBit_eq fun j=>?_
 rw [Nat.testBit_and,show (18446744073709551615 - 8:Nat)=2^4*(2^60 - 1)+7 by decide,Nat.testBit_two_pow_mul_add _ (by omega:7<2^4),Nat.testBit_two_pow_mul_add _ (by omega:s<2^4),Nat.testBit_two_pow_mul_add _ (by omega:s - 8*(s/8%2)<2^4)]
 by_cases hj:j<4
 ·simp only [hj,if_true]
  rw [key ⟨s,hs⟩ ⟨j,hj⟩]
 ·simp only [hj,if_false]
  rw [Nat.testBit_two_pow_sub_one]
  by_cases hj2:j - 4<60
  ·simp [hj2]
  ·rw [Nat.testBit_lt_two_pow (Nat.lt_of_lt_of_le hq (Nat.pow_le_pow_right (by omega) (by omega)))]
   simp
theorem prot_ok {w:Nat} {f:Int} {d a x h:Bool} (hw:w<2^64) (hd:decR w=((1,f,d,a,x,h),0)) :
  (prW w).2=0∧(prW w).1<2^64∧decR (prW w).1=((1,f,false,a,x,h),0):=by
 obtain ⟨h1,h2,h3,h4⟩:=decR_ok (w:=w) (by rw [hd])
 have hr:=decR_rng w
 rw [hd] at h1 h2 h3 h4 hr
 simp only at h1 h2 h3 h4 hr
 have hb:¬ badF (1,f,false,a,x,h):=h2
 have hm:frmE (1,f,false,a,x,h)=true:=rfl
 obtain ⟨n,n1,n2,n3⟩:=decR_enc h1 hr hb hm
 rw [encR_z h1 h2 h3] at h4
 rw [encR_z h1 hb hm] at n1
 have e4:=(Prod.mk.inj h4).1
 have e1:=(Prod.mk.inj n1).1
 have key:prW w=(n,0):=by
  unfold prW
  rw [hd]
  simp only [ne_eq,not_true_eq_false,if_false,false_and]
  rw [and_8 hw]
  unfold encW fb at e4 e1
  simp only at e4 e1
  congr 1
  cases d<;>cases a<;>cases x<;>cases h<;>simp at e4 e1<;>omega
 rw [key]
 exact ⟨rfl,n2,n3⟩
def PtF:List AV→Option AV:=spF (ι:={w:Nat // w<2^64}) (fun x=>[U x.1]) fun x=>rtO [U (prW x.1).1,I (prW x.1).2]
set_option maxHeartbeats 2000000 in
theorem s156 (X:AX) (hX:XOK prog X) (hw:X.W wT) (hde:∀ w:Nat,w<2^64→∀ M k,X.call 56 [U w] M k=some (.tup [EnV (decR w).1,I (decR w).2],[])):PSd prog 156 PtF:=by
 unfold PtF
 refine psS hX mixed func156 rfl fun ⟨w,hw64⟩ w0 G=>⟨by show 1≤24;decide,rfl,?_⟩
 show AW ⟨prog,X,24,w0,.pure G⟩ _ _ _
 have hc:=okc hX 24 w0 G
 simp only at hw64 ⊢
 have de:=hde w hw64
 have e0:prW w=if (decR w).2≠0 then (0,(decR w).2) else if (decR w).1.1≠1∧(decR w).1.1≠3 then (0,11) else (w &&& (18446744073709551615 - 8),0):=rfl
 obtain ⟨⟨⟨k,num,b1,b2,b3,hg⟩,er⟩,hx⟩:∃ x,x=decR w:=⟨_,rfl⟩
 rw [← hx] at de e0
 simp only at e0
 have o1:=an_u hw64 (show 8<2^64 by decide)
 rw [show ((8:Nat):Int)=8 from rfl] at o1
 obtain ⟨w1,hw1⟩:∃ x,x=w &&& (18446744073709551615 - 8):=⟨_,rfl⟩
 rw [← hw1] at o1 e0
 rw [e0]
 simp only [EnV,U] at de ⊢
 rcases dE (er=0) with h1|h1
 ·rw [if_neg (by simp [h1])]
  subst h1
  rcases dE (k=1) with h2|h2
  ·rw [if_neg (by simp [h2])]
   subst h2
   have zS:=jj de<|o1
   refine dM64 ?_
   repeat (intro K hK)
   clear zS
   refine ⟨by simp,?_⟩
   simp [lvI,f156]
   try exact dt
  ·rcases dE (k=3) with h3|h3
   ·rw [if_neg (by simp [h3])]
    subst h3
    have zS:=jj de<|o1
    refine dM64 ?_
    repeat (intro K hK)
    clear zS
    refine ⟨by simp,?_⟩
    simp [lvI,f156]
    try exact dt
   ·rw [if_pos ⟨h2,h3⟩]
    have zS:=jj de<|jj h2<|h3
    refine dM64 ?_
    repeat (intro K hK)
    clear zS
    refine ⟨by simp,?_⟩
    simp [lvI,f156]
    try exact dt
 ·rw [if_pos h1]
  have zS:=jj de<|h1
  refine dM64 ?_
  repeat (intro K hK)
  clear zS
  refine ⟨by simp,?_⟩
  simp [lvI,f156]
  try exact dt
def chT (s:AsD) (p:Nat):Tb:=if hugeT s.1 ((p/8:Nat):Int)=true then (splP s.1 ((p/8:Nat):Int)).1 else s.1
def chA (s:AsD) (p:Nat) (pr:Bool):AsD :=
 if pr=true then ((repP (chT s p) p (prW (walkT (chT s p) p).1).1).1,(inT s.2.1 3 p).1,(inT s.2.2.1 3 p).1,s.2.2.2.1,s.2.2.2.2.1.set p false,s.2.2.2.2.2)
 else ((clrP (chT s p) p).1,(inT s.2.1 3 p).1,(inT s.2.2.1 3 p).1,s.2.2.2.1.set p (-1),s.2.2.2.2.1,s.2.2.2.2.2)
theorem chT_ok {s:AsD} (h:Sc s) {p:Nat} (hp:p<512):Tc (chT s p) s.2.2.2.1 s.2.2.2.2.1 s.2.2.2.2.2.toNat∧hugeT (chT s p) ((p/8:Nat):Int)=false∧(hugeT s.1 ((p/8:Nat):Int)=true→(splP s.1 ((p/8:Nat):Int)).2=0):=by
 obtain ⟨⟨r,ns,ds⟩,b0,b1,fr,wr,nx⟩:=s
 unfold chT
 have ht:=h.t
 simp only at ht ⊢
 by_cases hh:hugeT (r,ns,ds) ((p/8:Nat):Int)=true
 ·rw [if_pos hh]
  obtain ⟨u,u1,u2,u3⟩:=ht.split (by omega) hh
  rw [u1]
  exact ⟨u2,u3,fun _=>rfl⟩
 ·rw [if_neg hh]
  exact ⟨ht,by simpa using hh,fun h=>absurd h hh⟩
theorem ch_ok {s:AsD} (h:Sc s) {p:Nat} (hp:p<512) (h0:s.2.2.2.1.getD p 0=p) (pr:Bool):Sc (chA s p pr)∧(pr=false→(clrP (chT s p) p).2.2.2=0) ∧
  (pr=true→(walkT (chT s p) p).2.2=0∧(walkT (chT s p) p).1<2^64∧(prW (walkT (chT s p) p).1).2=0∧(prW (walkT (chT s p) p).1).1<2^64∧(repP (chT s p) p (prW (walkT (chT s p) p).1).1).2.2=0):=by
 obtain ⟨t1,t2,t3⟩:=chT_ok h hp
 have ha:=h.a
 have hb:=h.b
 have hn:=h.n
 unfold chA
 obtain ⟨⟨r,ns,ds⟩,hT⟩:∃ t,t=chT s p:=⟨_,rfl⟩
 rw [← hT] at t1 t2 ⊢
 obtain ⟨fa,fa1,fa2,fa3⟩:=ha.flush hp (v:=-1) (d:=false) t1.fl t1.wl
 obtain ⟨fb,fb1,fb2,fb3⟩:=hb.flush hp (v:=-1) (d:=false) t1.fl t1.wl
 rw [fa,fb]
 cases pr with
 | false =>
  obtain ⟨N,w,A,c1,c2⟩:=t1.clr hp h0 t2
  rw [if_neg (by simp),c1]
  exact ⟨⟨c2,fa2,fb2,hn⟩,fun _=>rfl,fun h=>absurd h (by decide)⟩
 | true =>
  have hg:=t1.map p hp h0
  simp only at hg
  have hwk:=(t1.v.pv.walk hp).2.2
  simp only at hwk
  have hww:=walk_nat ((chk_iff t1.ok).2 t1.v) hp
  obtain ⟨f,l,w,hw⟩:∃ f l w,wlk (Mof ns) r p=(f,l,w):=⟨_,_,_,rfl⟩
  rw [hw] at hg hwk
  simp only at hg hwk
  rw [hwk] at hww
  simp only at hww
  have hw64:w<2^64:=by
   have:=walk_u64 t1.ok p
   rw [hww] at this
   exact this
  rw [if_pos rfl,hww]
  simp only
  obtain ⟨⟨⟨k,num,b1',b2,b3,hgh⟩,er⟩,hx⟩:∃ x,x=decR w:=⟨_,rfl⟩
  have g1:=hg.1
  have g2:=hg.2.1
  rw [← hx] at g1 g2
  simp only at g1 g2
  subst g1 g2
  obtain ⟨p1,p2,p3⟩:=prot_ok hw64 hx.symm
  obtain ⟨N,w2,c1,c2⟩:=t1.prot hp h0 t2 (w':=(prW w).1) p2 (by rw [p3]) (by rw [p3]) (by rw [p3,hw];simp only;rw [← hx]) (by rw [p3]) (by rw [p3,hw];simp only;rw [← hx])
  rw [c1]
  exact ⟨⟨c2,fa3,fb3,hn⟩,fun h=>absurd h (by decide),fun _=>⟨trivial,hw64,p1,p2,rfl⟩⟩
end
set_option maxHeartbeats 16000000
set_option maxRecDepth 4000 in
theorem callFl {s:AsD} {p:Nat} (hk:asK s) (h0:chB s.2.1=0) (h1:chB s.2.2.1=0) (hp:p<512) {b:Nat} (M:Nat→AO) (nid:Nat) (hM:M b=.box (asC s.1 s.2.1 s.2.2.1 s.2.2.2.1 s.2.2.2.2.1 s.2.2.2.2.2)) :
  caG flS [.bp b 0,I p] M nid=some (B true,[(b,.box (asC s.1 (inT s.2.1 3 p).1 (inT s.2.2.1 3 p).1 s.2.2.2.1 s.2.2.2.2.1 s.2.2.2.2.2))]):=by
 have hF:=flS_at hk h0 h1 hp
 simp only [asM] at hF
 unfold caG
 have hg:gat M 64 (nmsL [.bp b 0,I p]) []=[b]:=by
  simp [gat,nmsL,AV.nms,AO.nms,hM]
 simp only [hg]
 rw [if_pos ?cg]
 case cg=>simp [CallG,nmsL,AV.nms,AO.nms,Led,curBL,AV.curB,AO.curB,verOf,nDd,hM]
 simp [renL,AV.ren,AO.ren,posN,canO,nmsL,hM,hF,RetG,getL,AV.nms,AO.nms,updN,nmN,shN,verOf,rng,Led]
abbrev ChI:={x:AsD×Nat×Bool // Sc x.1∧x.2.1<512∧x.1.2.2.2.1.getD x.2.1 0=x.2.1}
noncomputable def chS:List AV→List AO→Option (AV×List AO):=specG (ι:=ChI) (fun x=>[.bp 0 0,I x.1.2.1,B x.1.2.2]) (fun x=>asM x.1.1) (fun _=>rtO [B true]) fun x=>asM (chA x.1.1 x.1.2.1 x.1.2.2)
theorem chS_at {s:AsD} {p:Nat} (pr:Bool) (h:Sc s) (hp:p<512) (h0:s.2.2.2.1.getD p 0=p):chS [.bp 0 0,I p,B pr] (asM s)=some (B true,asM (chA s p pr)):=by
 refine sGe (ι:=ChI) (A:=fun x=>[.bp 0 0,I x.1.2.1,B x.1.2.2]) (M:=fun x=>asM x.1.1) (R:=fun _=>rtO [B true]) (O:=fun x=>asM (chA x.1.1 x.1.2.1 x.1.2.2)) ⟨(s,p,pr),h,hp,h0⟩ fun j hA hM=>?_
 obtain ⟨⟨s',p',pr'⟩,h'⟩:=j
 have e:=asM_inj h'.1.k h.k hM
 simp only at e
 subst e
 simp only [cJ,I,B,AV.v.injEq,Value.int.injEq,Value.bool.injEq,true_and,and_true,Int.ofNat_inj] at hA
 obtain ⟨rfl,rfl⟩:=hA
 exact ⟨rfl,rfl⟩
structure TsX (X:AX):Prop where
 ok:XOK prog X
 w:X.W wT
 hu:∀ (t:Tb) (x:Int),tbOK t→∀ M n,X.call 41 [TbV t,I x] M n=some (B (hugeT t x),[])
 sp:∀ (t:Tb) (x:Int),tbOK t∧t.2.1.length≤999000→∀ M n,X.call 64 [TbV t,I x] M n=some (.tup [TbV (splP t x).1,I (splP t x).2],[])
 am:∀ (t:Tb) (x:Int),tbOK t∧t.2.1.length≤999000→∀ M n,X.call 66 [TbV t,I x] M n=some (.tup [TbV (asmP t x).1,I (asmP t x).2],[])
 cl:∀ (t:Tb) (x:Int),tbOK t∧t.2.1.length≤999000→∀ M n,X.call 55 [TbV t,I x] M n=some (.tup [TbV (clrP t x).1,U (clrP t x).2.1,.rd 1 (irw (clrP t x).2.2.1),I (clrP t x).2.2.2],[])
 wa:∀ (t:Tb) (x:Int),tbOK t→∀ M n,X.call 35 [TbV t,I x] M n=some (.tup [U (walkT t x).1,I (walkT t x).2.1,I (walkT t x).2.2],[])
 pr:∀ w:Nat,w<2^64→∀ M n,X.call 156 [U w] M n=some (.tup [U (prW w).1,I (prW w).2],[])
 re:∀ (t:Tb) (x:Int) (w:Nat),tbOK t∧w<2^64→∀ M n,X.call 61 [TbV t,I x,U w] M n=some (.tup [TbV (repP t x w).1,U (repP t x w).2.1,I (repP t x w).2.2],[])
 ac:∀ (t:Tb) (b:Tl) (s p:Int) (wr:Bool),tbOK t∧tlOK b→∀ M n,X.call 29 [TbV t,TlV b,I s,I p,B wr] M n=some (.tup [TbV (acT t b s p wr).1,TlV (acT t b s p wr).2.1,I (acT t b s p wr).2.2.1,I (acT t b s p wr).2.2.2],[])
theorem s71 (X:AX) (L:TsX X) (hfl:X.call 155=caG flS):GSd prog 71 chS:=by
 have hX:=L.ok
 have hw:=L.w
 unfold chS
 refine gsS func71 rfl X fun ⟨⟨s,p,pr⟩,hs,hp,h0⟩ w0 B' E=>⟨by show 3≤123;decide,?_⟩
 simp only at hs hp h0 ⊢
 obtain ⟨v1,v2,v3⟩:=ch_ok hs hp h0 pr
 obtain ⟨t1,t2,t3⟩:=chT_ok hs hp
 have hk:=hs.k
 have hba:=hs.a.c
 have hbb:=hs.b.c
 have hvl:=vt_len hs.t.v
 have hvl1:=vt_len t1.v
 have ht1:=t1.ok
 have eT:chT s p=if hugeT s.1 ((p/8:Nat):Int)=true then (splP s.1 ((p/8:Nat):Int)).1 else s.1:=rfl
 have eA:chA s p pr=if pr=true then ((repP (chT s p) p (prW (walkT (chT s p) p).1).1).1,(inT s.2.1 3 p).1,(inT s.2.2.1 3 p).1,s.2.2.2.1,s.2.2.2.2.1.set p false,s.2.2.2.2.2)
  else ((clrP (chT s p) p).1,(inT s.2.1 3 p).1,(inT s.2.2.1 3 p).1,s.2.2.2.1.set p (-1),s.2.2.2.2.1,s.2.2.2.2.2):=rfl
 rw [eA] at v1 ⊢
 clear t1 t2
 obtain ⟨t,b0,b1,fr,wr,nx⟩:=s
 obtain ⟨k0,k1,k2,hf,hwl⟩:=hk
 simp only at k0 k1 k2 hf hwl hba hbb hvl t3 eT ⊢
 have hu:=L.hu t ((p/8:Nat):Int) k0
 have sp:=L.sp t ((p/8:Nat):Int) ⟨k0,by omega⟩
 obtain ⟨T1,hT1⟩:∃ x,x=chT (t,b0,b1,fr,wr,nx) p:=⟨_,rfl⟩
 rw [← hT1] at v1 v2 v3 hvl1 ht1 eT ⊢
 clear hT1
 have hq:((p:Int)).tdiv 8=((p/8:Nat):Int):=by
  rw [Int.tdiv_eq_ediv_of_nonneg (by omega)];omega
 have hq2:((p:Int))/8=((p/8:Nat):Int):=by omega
 obtain ⟨g,hg⟩:∃ g,g=((p/8:Nat):Int):=⟨_,rfl⟩
 rw [← hg] at hu sp hq hq2 t3 eT
 have hl:=fun t fr wr h1 h2=>@asC_len t b0 b1 fr wr nx h1 h2
 have hl1:=fun t=>@asC_len t b0 b1 fr wr nx hf hwl
 have hl2:=fun t v=>@asC_len t b0 b1 (fr.set p v) wr nx (by simp [hf]) hwl
 have hl3:=fun t v=>@asC_len t b0 b1 fr (wr.set p v) nx hf (by simp [hwl])
 have sf:=fun t v=>@asC_sf t b0 b1 fr wr nx hf p hp v
 have sw:=fun t v=>@asC_sw t b0 b1 fr wr nx hf hwl p hp v
 have fl:=fun s hk h0 h1 M n hM=>@callFl s p hk h0 h1 hp 0 M n hM
 rw [← hfl] at fl
 cases pr with
 | false =>
  rw [if_neg (by simp)] at v1 ⊢
  have cl:=L.cl T1 p ⟨ht1,by omega⟩
  rw [v2 rfl] at cl
  obtain ⟨⟨ur,un,ud⟩,hU⟩:∃ u,u=(clrP T1 p).1:=⟨_,rfl⟩
  rw [← hU] at cl v1 ⊢
  have fl:=fl ((ur,un,ud),b0,b1,fr.set p (-1),wr,nx) ⟨v1.t.ok,k1,k2,by simp [hf],hwl⟩ hba hbb
  simp only at fl
  obtain ⟨y0,e0⟩:∃ x,x=(inT b0 3 p).1:=⟨_,rfl⟩
  obtain ⟨y1,e1⟩:∃ x,x=(inT b1 3 p).1:=⟨_,rfl⟩
  rw [← e0,← e1] at fl
  simp only [asM,← e0,← e1]
  obtain ⟨cw,hcw⟩:∃ x,x=(clrP T1 p).2.1:=⟨_,rfl⟩
  obtain ⟨cf,hcf⟩:∃ x,x=(clrP T1 p).2.2.1:=⟨_,rfl⟩
  rw [← hcw,← hcf] at cl
  clear v1 hU hcw hcf
  cases hh:hugeT t g with
  | true =>
   rw [hh] at hu
   rw [t3 hh] at sp
   rw [hh,if_pos rfl] at eT
   rw [← eT] at sp
   obtain ⟨r,ns,ds⟩:=t
   obtain ⟨r1,n1,d1⟩:=T1
   simp only [TbV] at hu sp cl
   show AW ⟨prog,X,123,w0,⟨B',E,1⟩⟩ _ _ _
   have hc:Cx.OK ⟨prog,X,123,w0,⟨B',E,1⟩⟩:=⟨hX,mixed⟩
   have zS:=jj hu<|jj sp<|jj cl<|jj hl1<|jj hl2<|jj sf<|jj hq<|jj hq2<|fl
   refine dF64 ?_
   repeat (intro K hK)
   clear zS
   refine ⟨by simp,_,by simp [aRs,aRt,f71];rfl,?_⟩
   simp only [idx]
   exact dle
  | false =>
   rw [hh] at hu
   rw [hh,if_neg (by simp)] at eT
   subst eT
   obtain ⟨r,ns,ds⟩:=T1
   simp only [TbV] at hu cl
   show AW ⟨prog,X,123,w0,⟨B',E,1⟩⟩ _ _ _
   have hc:Cx.OK ⟨prog,X,123,w0,⟨B',E,1⟩⟩:=⟨hX,mixed⟩
   have zS:=jj hu<|jj cl<|jj hl1<|jj hl2<|jj sf<|jj hq<|jj hq2<|fl
   refine dF64 ?_
   repeat (intro K hK)
   clear zS
   refine ⟨by simp,_,by simp [aRs,aRt,f71];rfl,?_⟩
   simp only [idx]
   exact dle
 | true =>
  rw [if_pos rfl] at v1 ⊢
  obtain ⟨z1,z2,z3,z4,z5⟩:=v3 rfl
  have wa:=L.wa T1 p ht1
  have pr:=L.pr _ z2
  have re:=L.re T1 p _ ⟨ht1,z4⟩
  rw [z1] at wa
  rw [z3] at pr
  rw [z5] at re
  obtain ⟨⟨ur,un,ud⟩,hU⟩:∃ u,u=(repP T1 p (prW (walkT T1 p).1).1).1:=⟨_,rfl⟩
  rw [← hU] at re v1 ⊢
  have fl:=fl ((ur,un,ud),b0,b1,fr,wr.set p false,nx) ⟨v1.t.ok,k1,k2,hf,by simp [hwl]⟩ hba hbb
  simp only at fl
  obtain ⟨y0,e0⟩:∃ x,x=(inT b0 3 p).1:=⟨_,rfl⟩
  obtain ⟨y1,e1⟩:∃ x,x=(inT b1 3 p).1:=⟨_,rfl⟩
  rw [← e0,← e1] at fl
  simp only [asM,← e0,← e1]
  obtain ⟨rw2,hrw⟩:∃ x,x=(repP T1 p (prW (walkT T1 p).1).1).2.1:=⟨_,rfl⟩
  rw [← hrw] at re
  obtain ⟨pw,hpw⟩:∃ x,x=(prW (walkT T1 p).1).1:=⟨_,rfl⟩
  rw [← hpw] at pr re
  obtain ⟨ww,hww⟩:∃ x,x=(walkT T1 p).1:=⟨_,rfl⟩
  obtain ⟨wl2,hwl2⟩:∃ x,x=(walkT T1 p).2.1:=⟨_,rfl⟩
  rw [← hww,← hwl2] at wa
  rw [← hww] at pr
  clear v1 hU hrw hpw hww hwl2 z1 z2 z3 z4 z5
  cases hh:hugeT t g with
  | true =>
   rw [hh] at hu
   rw [t3 hh] at sp
   rw [hh,if_pos rfl] at eT
   rw [← eT] at sp
   obtain ⟨r,ns,ds⟩:=t
   obtain ⟨r1,n1,d1⟩:=T1
   simp only [TbV] at hu sp wa re
   show AW ⟨prog,X,123,w0,⟨B',E,1⟩⟩ _ _ _
   have hc:Cx.OK ⟨prog,X,123,w0,⟨B',E,1⟩⟩:=⟨hX,mixed⟩
   have zS:=jj hu<|jj sp<|jj wa<|jj pr<|jj re<|jj hl1<|jj hl3<|jj sw<|jj hq<|jj hq2<|fl
   refine dF64 ?_
   repeat (intro K hK)
   clear zS
   refine ⟨by simp,_,by simp [aRs,aRt,f71];rfl,?_⟩
   simp only [idx]
   exact dle
  | false =>
   rw [hh] at hu
   rw [hh,if_neg (by simp)] at eT
   subst eT
   obtain ⟨r,ns,ds⟩:=T1
   simp only [TbV] at hu wa re
   show AW ⟨prog,X,123,w0,⟨B',E,1⟩⟩ _ _ _
   have hc:Cx.OK ⟨prog,X,123,w0,⟨B',E,1⟩⟩:=⟨hX,mixed⟩
   have zS:=jj hu<|jj wa<|jj pr<|jj re<|jj hl1<|jj hl3<|jj sw<|jj hq<|jj hq2<|fl
   refine dF64 ?_
   repeat (intro K hK)
   clear zS
   refine ⟨by simp,_,by simp [aRs,aRt,f71];rfl,?_⟩
   simp only [idx]
   exact dle
noncomputable def acA (s:AsD) (c p:Nat) (wt:Bool):AsD :=
 if c=0 then ((acT s.1 s.2.1 3 p wt).1,(acT s.1 s.2.1 3 p wt).2.1,s.2.2) else ((acT s.1 s.2.2.1 3 p wt).1,s.2.1,(acT s.1 s.2.2.1 3 p wt).2.1,s.2.2.2)
theorem acA_ok {s:AsD} (h:Sc s) {c p:Nat} (hp:p<512) (wt:Bool):Sc (acA s c p wt):=by
 obtain ⟨⟨r,ns,ds⟩,b0,b1,fr,wr,nx⟩:=s
 obtain ⟨ht,ha,hb,hn⟩:=h
 simp only at ht ha hb hn
 unfold acA
 split
 ·obtain ⟨N,b',f,e,ea,hT,hB,_⟩:=ht.acc ha hp wt
  simp only [ea]
  exact ⟨hT,hB,hb,hn⟩
 ·obtain ⟨N,b',f,e,ea,hT,hB,_⟩:=ht.acc hb hp wt
  simp only [ea]
  exact ⟨hT,ha,hB,hn⟩
abbrev AcI:={x:AsD×Nat×Nat×Bool // Sc x.1∧x.2.1<2∧x.2.2.1<512}
noncomputable def acS:List AV→List AO→Option (AV×List AO):=specG (ι:=AcI) (fun x=>[.bp 0 0,I x.1.2.1,I x.1.2.2.1,B x.1.2.2.2]) (fun x=>asM x.1.1) (fun _=>rtO [B true]) fun x=>asM (acA x.1.1 x.1.2.1 x.1.2.2.1 x.1.2.2.2)
theorem acS_at {s:AsD} {c p:Nat} (wt:Bool) (h:Sc s) (hc:c<2) (hp:p<512):acS [.bp 0 0,I c,I p,B wt] (asM s)=some (B true,asM (acA s c p wt)):=by
 refine sGe (ι:=AcI) (A:=fun x=>[.bp 0 0,I x.1.2.1,I x.1.2.2.1,B x.1.2.2.2]) (M:=fun x=>asM x.1.1) (R:=fun _=>rtO [B true]) (O:=fun x=>asM (acA x.1.1 x.1.2.1 x.1.2.2.1 x.1.2.2.2)) ⟨(s,c,p,wt),h,hc,hp⟩ fun j hA hM=>?_
 obtain ⟨⟨s',c',p',wt'⟩,h'⟩:=j
 have e:=asM_inj h'.1.k h.k hM
 simp only at e
 subst e
 simp only [cJ,I,B,AV.v.injEq,Value.int.injEq,Value.bool.injEq,true_and,and_true,Int.ofNat_inj] at hA
 obtain ⟨rfl,rfl,rfl⟩:=hA
 exact ⟨rfl,rfl⟩
set_option maxHeartbeats 16000000 in
theorem s72 (X:AX) (L:TsX X):GSd prog 72 acS:=by
 have hX:=L.ok
 have hw:=L.w
 unfold acS
 refine gsS func72 rfl X fun ⟨⟨s,c,p,wt⟩,hs,hcc,hp⟩ w0 B' E=>⟨by show 4≤86;decide,?_⟩
 simp only at hs hcc hp ⊢
 have hk:=hs.k
 have eA:acA s c p wt=if c=0 then ((acT s.1 s.2.1 3 p wt).1,(acT s.1 s.2.1 3 p wt).2.1,s.2.2) else ((acT s.1 s.2.2.1 3 p wt).1,s.2.1,(acT s.1 s.2.2.1 3 p wt).2.1,s.2.2.2):=rfl
 rw [eA]
 obtain ⟨⟨r,ns,ds⟩,b0,b1,fr,wr,nx⟩:=s
 obtain ⟨ht,ha,hb,hn⟩:=hs
 obtain ⟨k0,k1,k2,hf,hwl⟩:=hk
 simp only at ht ha hb hn k0 k1 k2 hf hwl ⊢
 have hl:=fun t b0 b1=>@asC_len t b0 b1 fr wr nx hf hwl
 have gf:=fun t b0 b1=>@asC_f t b0 b1 fr wr nx hf p hp
 have gw:=fun t b0 b1=>@asC_w t b0 b1 fr wr nx hf hwl p hp
 rcases (by omega:c=0∨c=1) with rfl|rfl
 ·rw [if_pos rfl]
  obtain ⟨N,⟨y,m⟩,f,e,ea,_,_,hcs⟩:=ht.acc ha hp wt
  have ac:=L.ac (r,ns,ds) b0 3 p wt ⟨k0,k1⟩
  rw [ea] at ac ⊢
  simp only [TbV,TlV] at ac
  simp only [asM]
  show AW ⟨prog,X,86,w0,⟨B',E,1⟩⟩ _ _ _
  have hc:Cx.OK ⟨prog,X,86,w0,⟨B',E,1⟩⟩:=⟨hX,mixed⟩
  rcases hcs with ⟨h1,rfl⟩|⟨h1,rfl,h2,rfl⟩|⟨h1,h2,rfl,rfl⟩
  ·rw [h1] at gf
   have gfE:=fun t b0 b1=>getE_of (gf t b0 b1)
   have zS:=jj ac<|jj hl<|jj gf<|gfE
   refine dF64 ?_
   repeat (intro K hK)
   clear zS
   refine ⟨by simp,_,by simp [aRs,aRt,f72];rfl,?_⟩
   simp only [idx]
   exact dle
  ·rw [h1] at gf
   rw [h2] at gw
   have gfE:=fun t b0 b1=>getE_of (gf t b0 b1)
   have gwE:=fun t b0 b1=>getE_of (gw t b0 b1)
   have hp0:¬ (p:Int)<0:=by omega
   have zS:=jj ac<|jj hl<|jj gf<|jj gfE<|jj gw<|jj gwE<|hp0
   refine dF64 ?_
   repeat (intro K hK)
   clear zS
   refine ⟨by simp,_,by simp [aRs,aRt,f72];rfl,?_⟩
   simp only [idx]
   exact dle
  ·rw [h1] at gf
   have hp0:¬ (p:Int)<0:=by omega
   have gfE:=fun t b0 b1=>getE_of (gf t b0 b1)
   cases wt with
   | true =>
    rw [h2 rfl] at gw
    have gwE:=fun t b0 b1=>getE_of (gw t b0 b1)
    have zS:=jj ac<|jj hl<|jj gf<|jj gfE<|jj gw<|jj gwE<|hp0
    refine dF64 ?_
    repeat (intro K hK)
    clear zS
    refine ⟨by simp,_,by simp [aRs,aRt,f72];rfl,?_⟩
    simp only [idx]
    exact dle
   | false =>
    have zS:=jj ac<|jj hl<|jj gf<|jj gfE<|hp0
    refine dF64 ?_
    repeat (intro K hK)
    clear zS
    refine ⟨by simp,_,by simp [aRs,aRt,f72];rfl,?_⟩
    simp only [idx]
    exact dle
 ·rw [if_neg (by decide)]
  obtain ⟨N,⟨y,m⟩,f,e,ea,_,_,hcs⟩:=ht.acc hb hp wt
  have ac:=L.ac (r,ns,ds) b1 3 p wt ⟨k0,k2⟩
  rw [ea] at ac ⊢
  simp only [TbV,TlV] at ac
  simp only [asM]
  show AW ⟨prog,X,86,w0,⟨B',E,1⟩⟩ _ _ _
  have hc:Cx.OK ⟨prog,X,86,w0,⟨B',E,1⟩⟩:=⟨hX,mixed⟩
  rcases hcs with ⟨h1,rfl⟩|⟨h1,rfl,h2,rfl⟩|⟨h1,h2,rfl,rfl⟩
  ·rw [h1] at gf
   have gfE:=fun t b0 b1=>getE_of (gf t b0 b1)
   have zS:=jj ac<|jj hl<|jj gf<|gfE
   refine dF64 ?_
   repeat (intro K hK)
   clear zS
   refine ⟨by simp,_,by simp [aRs,aRt,f72];rfl,?_⟩
   simp only [idx]
   exact dle
  ·rw [h1] at gf
   rw [h2] at gw
   have gfE:=fun t b0 b1=>getE_of (gf t b0 b1)
   have gwE:=fun t b0 b1=>getE_of (gw t b0 b1)
   have hp0:¬ (p:Int)<0:=by omega
   have zS:=jj ac<|jj hl<|jj gf<|jj gfE<|jj gw<|jj gwE<|hp0
   refine dF64 ?_
   repeat (intro K hK)
   clear zS
   refine ⟨by simp,_,by simp [aRs,aRt,f72];rfl,?_⟩
   simp only [idx]
   exact dle
  ·rw [h1] at gf
   have hp0:¬ (p:Int)<0:=by omega
   have gfE:=fun t b0 b1=>getE_of (gf t b0 b1)
   cases wt with
   | true =>
    rw [h2 rfl] at gw
    have gwE:=fun t b0 b1=>getE_of (gw t b0 b1)
    have zS:=jj ac<|jj hl<|jj gf<|jj gfE<|jj gw<|jj gwE<|hp0
    refine dF64 ?_
    repeat (intro K hK)
    clear zS
    refine ⟨by simp,_,by simp [aRs,aRt,f72];rfl,?_⟩
    simp only [idx]
    exact dle
   | false =>
    have zS:=jj ac<|jj hl<|jj gf<|jj gfE<|hp0
    refine dF64 ?_
    repeat (intro K hK)
    clear zS
    refine ⟨by simp,_,by simp [aRs,aRt,f72];rfl,?_⟩
    simp only [idx]
    exact dle
end Go.AM
