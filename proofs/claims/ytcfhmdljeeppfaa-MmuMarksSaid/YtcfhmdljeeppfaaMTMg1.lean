/- A part of the proof: what functions of the program compute, by abstract execution of their code. Its theorems hold without further condition. -/
import Derived.Test.YtcfhmdljeeppfaaUTPt81
import Derived.Test.YtcfhmdljeeppfaaUTMb0
import Derived.Test.YtcfhmdljeeppfaaUAmMp
set_option linter.all false
namespace Go.AM
open Go Go.Proofs
theorem rcT_len {b:Tl} {wr:Bool}:(rcT b wr).length≤128:=by
 unfold rcT
 split
 ·simp
 ·rename_i h
  have h2:=chB_z.1 (Decidable.not_not.1 h)
  have:=@rcL_len wr b.2 b.2.length
  simp
  omega
theorem haT_ok {t:Tb} (ht:tbOK t):tbOK (haT t).1∧(haT t).2.1.length≤512:=by
 unfold haT
 split
 ·exact ⟨zT_okm,by simp⟩
 ·obtain ⟨h1,h2⟩:=haL_ok ht (lst_u64 ht) (Nat.le_refl _)
  have:=@lstT_l5 t
  exact ⟨h1,by simp only;omega⟩
end Go.AM
namespace Go.AM
open Go Go.Proofs
section
variable {M M':Mm} {root:Int} {p p':Nat}
theorem frP1 (hp:p<512):frP WA M root 1 (p/64)=tabW (wM M root (p/64)):=by
 simp only [frP,Option.bind_some]
 rw [show p/64%8=p/64 by omega];rfl
theorem frP2:frP WA M root 2 (p/8)=(frP WA M root 1 (p/64)).bind fun f=>tabW (wM M f (p/8%8)):=by
 show (frP WA M root 1 (p/8/8)).bind _=_
 rw [show p/8/8=p/64 by omega]
 rfl
theorem posL (hp:p<512) {l:Nat} (hl:l≤2):(2 - l,p/8^(l+1))∈Pos:=by
 rcases (by omega:l=0∨l=1∨l=2) with rfl|rfl|rfl<;>rw [mem_Pos]<;>simp<;>omega
theorem wlk_same (hp:p<512) (h:∀ l,l≤2→∀ f,frP WA M root (2 - l) (p/8^(l+1))=some f→wM M' f (dgt p l)=wM M f (dgt p l)):wlk M' root p=wlk M root p:=by
 have h2:wM M' root (p/64)=wM M root (p/64):=by
  have:=h 2 (by omega) root rfl
  rwa [dgt2 hp] at this
 have h1:∀ f,frP WA M root 1 (p/64)=some f→wM M' f (p/8%8)=wM M f (p/8%8):=fun f hf=>by
  have:=h 1 (by omega) f (by rw [show p/8^(1+1)=p/64 by simp];exact hf)
  rwa [dgt1] at this
 have h0:∀ f,frP WA M root 2 (p/8)=some f→wM M' f (p%8)=wM M f (p%8):=fun f hf=>by
  have:=h 0 (by omega) f (by rw [show p/8^(0+1)=p/8 by simp];exact hf)
  rwa [dgt0] at this
 have e1:frP WA M' root 1 (p/64)=frP WA M root 1 (p/64):=by rw [frP1 hp,frP1 hp,h2]
 have e2:frP WA M' root 2 (p/8)=frP WA M root 2 (p/8):=by
  rw [frP2,frP2,e1]
  cases hx:frP WA M root 1 (p/64) with
  | none=>rfl
  | some f=>simp only [Option.bind_some];rw [h1 f hx]
 unfold wlk
 rw [e2,e1]
 cases hx:frP WA M root 2 (p/8) with
 | some f=>simp only;rw [h0 f hx]
 | none =>
  simp only
  cases hy:frP WA M root 1 (p/64) with
  | some f=>simp only;rw [h1 f hy]
  | none=>simp only;rw [h2]
theorem cell_ne {l:Nat} (h1:p'/8^(l+1)=p/8^(l+1)) (hd:dgt p' l=dgt p l):p'/8^l=p/8^l:=by
 unfold dgt at hd
 rw [Nat.pow_succ,← Nat.div_div_eq_div_mul,← Nat.div_div_eq_div_mul] at h1
 omega
theorem wlk_put_ne (hV:VM WA M root) (hp:p<512) {f:Int} {l w0 w:Nat} (hw:wlk M root p=(f,l,w0)) (hM:M'=updW M f (dgt p l) w) (hp':p'<512) (hne:p'/8^l≠p/8^l):wlk M' root p'=wlk M root p':=by
 obtain ⟨a1,a2,a3,a4,a5,a6⟩:=wlk_at hV hp hw
 obtain ⟨ws,c1,c2,_⟩:=hV.nd _ _ a2 f a3
 refine wlk_same hp' fun l' hl' f' hf'=>?_
 rw [hM,wM_updW c1 (by have:=dgt_lt p l;omega),if_neg]
 rintro ⟨rfl,hd⟩
 obtain ⟨i1,i2⟩:=hV.inj _ _ _ _ (posL hp' hl') a2 _ hf' a3
 obtain rfl:l'=l:=by omega
 exact hne (cell_ne i2 hd)
theorem hugW_tab {x:Nat} {f:Int} (h:tabW x=some f):hugW x=false:=by
 obtain ⟨h1,h2,h3⟩:=tabW_inv h
 unfold hugW
 rw [h3,decR_tw (by omega)]
 rfl
theorem hugB_wlk (hV:VM WA M root) {g:Nat} (hg:g<64) {f:Int} {l w:Nat} (hw:wlk M root (g*8)=(f,l,w)):hugB M root g=(decide (l=1)&&hugW w):=by
 have hp:g*8<512:=by omega
 obtain ⟨a1,a2,a3,a4,a5,a6⟩:=wlk_at hV hp hw
 have e1:g*8/64=g/8:=by omega
 have e2:g*8/8=g:=by omega
 rcases (by omega:l=0∨l=1∨l=2) with rfl|rfl|rfl
 ·rw [show g*8/8^(0+1)=g*8/8 by simp] at a3
  have a3':frP WA M root 2 (g*8/8)=some f:=a3
  rw [frP2,e1,e2] at a3'
  unfold hugB
  cases hx:frP WA M root 1 (g/8) with
  | none=>rfl
  | some f1 =>
   rw [hx] at a3'
   simp only [Option.bind_some] at a3'
   simp only
   rw [hugW_tab a3'];rfl
 ·rw [show g*8/8^(1+1)=g*8/64 by simp,e1] at a3
  have a3':frP WA M root 1 (g/8)=some f:=a3
  rw [dgt1,e2] at a4
  unfold hugB
  rw [a3']
  simp only
  rw [← a4];simp
 ·have a3':frP WA M root 0 (g*8/8^(2+1))=some f:=a3
  simp only [frP,Option.some.injEq] at a3'
  subst a3'
  rw [dgt2 hp] at a4
  have:frP WA M root 1 (g/8)=none:=by rw [← e1,frP1 hp,← a4,a5]
  unfold hugB
  rw [this];rfl
end
end Go.AM
namespace Go.AM
open Go Go.Proofs
section
variable {M M':Mm} {root:Int} {p p':Nat}
theorem cell_up {l:Nat} (h:p'/8^l=p/8^l):p'/8^(l+1)=p/8^(l+1)∧dgt p' l=dgt p l:=by
 refine ⟨?_,by unfold dgt;rw [h]⟩
 rw [Nat.pow_succ,← Nat.div_div_eq_div_mul,← Nat.div_div_eq_div_mul,h]
theorem wlk_cell (hV:VM WA M root) (hp:p<512) {f:Int} {l w:Nat} (hw:wlk M root p=(f,l,w)) (hp':p'<512) (he:p'/8^l=p/8^l):wlk M root p'=(f,l,w):=by
 obtain ⟨a1,a2,a3,a4,a5,a6⟩:=wlk_at hV hp hw
 obtain ⟨c1,c2⟩:=cell_up he
 have:=wlk_of (M:=M) (root:=root) hp' a1 (f:=f) (by rw [c1];exact a3) (.inl (by rw [c2,← a4];exact a5))
 rw [this,c2,← a4]
end
theorem hugM_congr {M M':Mm} {root:Int} (h:∀ k,k<64→hugB M' root k=hugB M root k):hugM M' root=hugM M root:=by
 unfold hugM
 congr 1
 exact List.filter_congr fun k hk=>h k (List.mem_range.1 hk)
end Go.AM
namespace Go.AM
open Go Go.Proofs
theorem or_16 {w:Nat}:w ||| 16=w+16*(1 - w/16%2):=by
 have key:∀ s:Fin 32,∀ j:Fin 5,(s.1+16*(1 - s.1/16%2)).testBit j.1=(s.1.testBit j.1||(16:Nat).testBit j.1):=by decide
 obtain ⟨q,s,hs,rfl⟩:∃ q s,s<32∧w=2^5*q+s:=⟨w/32,w%32,Nat.mod_lt _ (by omega),by omega⟩
 have e1:(2^5*q+s)/16%2=s/16%2:=by omega
 have e2:2^5*q+s+16*(1 - s/16%2)=2^5*q+(s+16*(1 - s/16%2)):=by omega
 rw [e1,e2]
 refine Nat.eq_of_testBit_eq fun j=>?_
 rw [Nat.testBit_or,show (16:Nat)=2^5*0+16 by omega,Nat.testBit_two_pow_mul_add _ (by omega:16<2^5),Nat.testBit_two_pow_mul_add _ (by omega:s<2^5),← show (16:Nat)=2^5*0+16 by omega,Nat.testBit_two_pow_mul_add _ (by omega:s+16*(1 - s/16%2)<2^5)]
 by_cases hj:j<5
 ·simp only [hj,if_true]
  rw [key ⟨s,hs⟩ ⟨j,hj⟩]
 ·simp [hj]
theorem or_32 {w:Nat}:w ||| 32=w+32*(1 - w/32%2):=by
 have key:∀ s:Fin 64,∀ j:Fin 6,(s.1+32*(1 - s.1/32%2)).testBit j.1=(s.1.testBit j.1||(32:Nat).testBit j.1):=by decide
 obtain ⟨q,s,hs,rfl⟩:∃ q s,s<64∧w=2^6*q+s:=⟨w/64,w%64,Nat.mod_lt _ (by omega),by omega⟩
 have e1:(2^6*q+s)/32%2=s/32%2:=by omega
 have e2:2^6*q+s+32*(1 - s/32%2)=2^6*q+(s+32*(1 - s/32%2)):=by omega
 rw [e1,e2]
 refine Nat.eq_of_testBit_eq fun j=>?_
 rw [Nat.testBit_or,show (32:Nat)=2^6*0+32 by omega,Nat.testBit_two_pow_mul_add _ (by omega:32<2^6),Nat.testBit_two_pow_mul_add _ (by omega:s<2^6),← show (32:Nat)=2^6*0+32 by omega,Nat.testBit_two_pow_mul_add _ (by omega:s+32*(1 - s/32%2)<2^6)]
 by_cases hj:j<6
 ·simp only [hj,if_true]
  rw [key ⟨s,hs⟩ ⟨j,hj⟩]
 ·simp [hj]
theorem mark_ok {w:Nat} {wr:Bool} {f:Int} {d a x h:Bool} (hd:decR w=((1,f,d,a,x,h),0)) (hp:wr=true→d=true) :
  (mkW w wr).2=0∧(mkW w wr).1<2^64∧decR (mkW w wr).1=((1,f,d,true,x||wr,h),0):=by
 obtain ⟨h1,h2,h3,h4⟩:=decR_ok (w:=w) (by rw [hd])
 have hr:=decR_rng w
 rw [hd] at h1 h2 h3 h4 hr
 simp only at h1 h2 h3 h4 hr
 have hb:¬ badF (1,f,d,true,x||wr,h):=h2
 have hm:frmE (1,f,d,true,x||wr,h)=true:=rfl
 obtain ⟨n,n1,n2,n3⟩:=decR_enc h1 hr hb hm
 rw [encR_z h1 h2 h3] at h4
 rw [encR_z h1 hb hm] at n1
 have e4:=(Prod.mk.inj h4).1
 have e1:=(Prod.mk.inj n1).1
 have key:mkW w wr=(n,0):=by
  unfold mkW
  rw [hd]
  simp only [ne_eq,not_true_eq_false,if_false]
  unfold encW fb at e4 e1
  simp only at e4 e1
  cases wr with
  | false =>
   simp only [if_true,Bool.or_false] at e1 ⊢
   rw [or_16]
   congr 1
   cases d<;>cases a<;>cases x<;>cases h<;>simp at e4 e1<;>omega
  | true =>
   obtain rfl:=hp rfl
   simp only [Bool.or_true,if_true] at e1 ⊢
   rw [if_neg (by decide),if_neg (by decide),or_16,or_32]
   congr 1
   cases a<;>cases x<;>cases h<;>simp at e4 e1<;>omega
 rw [key]
 exact ⟨rfl,n2,n3⟩
def keyW (w:Nat):Int×Int×Int×Bool×Bool:=((decR w).2,(decR w).1.1,(decR w).1.2.1,(decR w).1.2.2.1,(decR w).1.2.2.2.2.2)
theorem key_all {a b:Nat} (h:keyW a=keyW b):(decR a).2=(decR b).2∧(decR a).1.1=(decR b).1.1∧(decR a).1.2.1=(decR b).1.2.1∧(decR a).1.2.2.1=(decR b).1.2.2.1∧(decR a).1.2.2.2.2.2=(decR b).1.2.2.2.2.2:=by
 unfold keyW at h
 simp only [Prod.mk.injEq] at h
 exact h
theorem fr_key {a b:Nat} (h:keyW a=keyW b) (p:Int):frmG (decR a).1 p=frmG (decR b).1 p:=by
 obtain ⟨h1,h2,h3,h4,h5⟩:=key_all h
 unfold frmG;rw [h3,h5]
theorem ok_key {a b l:Nat} (h:keyW a=keyW b):okWb l a=okWb l b:=by
 obtain ⟨h1,h2,h3,h4,h5⟩:=key_all h
 unfold okWb suitB;rw [h1,h2,h5]
theorem tab_key {a b:Nat} (h:keyW a=keyW b):tabW a=tabW b:=by
 obtain ⟨h1,h2,h3,h4,h5⟩:=key_all h
 unfold tabW;rw [h2,h3]
theorem hug_key {a b:Nat} (h:keyW a=keyW b):hugW a=hugW b:=by
 obtain ⟨h1,h2,h3,h4,h5⟩:=key_all h
 unfold hugW;rw [h2,h5]
theorem mark_key {w:Nat} {wr:Bool} (h0:(decR w).2=0) (h1:(decR w).1.1=1) (hp:wr=true→(decR w).1.2.2.1=true):keyW (mkW w wr).1=keyW w∧(mkW w wr).1<2^64∧(decR (mkW w wr).1).1.2.2.2.1=true∧(wr=true→(decR (mkW w wr).1).1.2.2.2.2.1=true):=by
 obtain ⟨⟨⟨k,f,d,a,x,h⟩,e⟩,hx⟩:∃ y,y=decR w:=⟨_,rfl⟩
 rw [← hx] at h0 h1 hp
 simp only at h0 h1 hp
 subst h0 h1
 obtain ⟨q1,q2,q3⟩:=mark_ok (wr:=wr) hx.symm hp
 refine ⟨?_,q2,by rw [q3],fun hw=>by rw [q3,hw];simp⟩
 unfold keyW
 rw [q3,← hx]
theorem vt_rep {r:Int} {ns:NdL} {ds:List Dp} (hv:Vt (r,ns,ds)) (ht:tbOK (r,ns,ds)) {p:Nat} (hp:p<512) {f:Int} {l w0 w:Nat} (hw:wlk (Mof ns) r p=(f,l,w0)) (hhq:hugW w=hugW w0) (hw64:w<2^64) (htb:tabW w=none) (hok:okWb l w=true) :
  Vt (r,(putT (r,ns,ds) p w).2.1,ds)∧tbOK (r,(putT (r,ns,ds) p w).2.1,ds)∧wlk (Mof (putT (r,ns,ds) p w).2.1) r p=(f,l,w) ∧
  ∀ p',p'<512→p'/8^l≠p/8^l→wlk (Mof (putT (r,ns,ds) p w).2.1) r p'=wlk (Mof ns) r p':=by
 obtain ⟨c1,c2,c3,c4,c5⟩:=hv.pv.put ht hp hw hw64 htb hok
 have c6:=wlk_put_self hv.vm hp hw htb c3 c4
 have hnl:=(lsT_lt hv.pv hp).1
 have hfr:∀ n∈(putT (r,ns,ds) p w).2.1,∃ m∈ns,m.1=n.1:=fun n hn=>by
  rcases List.mem_or_eq_of_mem_set hn with h1|h1
  ·exact ⟨n,h1,rfl⟩
  ·exact ⟨_,gn_mem hnl,by rw [h1];rfl⟩
 obtain ⟨N,hN⟩:∃ N,N=(putT (r,ns,ds) p w).2.1:=⟨_,rfl⟩
 rw [← hN] at c1 c2 c3 c4 c5 c6 hfr ⊢
 have hne:=fun p' (hp':p'<512) (h:p'/8^l≠p/8^l)=>wlk_put_ne hv.vm hp hw c3 hp' h
 refine ⟨⟨⟨fun n hn'=>?_,hv.num.df,c1.asc,hv.num.dasc,fun d hd' n hn'=>?_,hv.num.once,?_⟩,c1.vm,?_⟩,c2,c6,hne⟩
 ·obtain ⟨m,hm,e⟩:=hfr n hn'
  rw [← e];exact hv.num.fr m hm
 ·obtain ⟨m,hm,e⟩:=hfr n hn'
  rw [← e];exact hv.num.apart d hd' m hm
 ·obtain ⟨ws,m1,_⟩:=c1.vm.nd 0 0 Pos0 r rfl
  exact ⟨(r,ws),(mem_Mof c1.asc).2 m1,rfl⟩
 ·have hdp:=hv.dep
  simp only at hdp ⊢
  rw [hdp]
  refine (hugM_congr fun k hk=>?_).symm
  have hk8:k*8<512:=by omega
  by_cases h:k*8/8^l=p/8^l
  ·rw [hugB_wlk c1.vm hk (wlk_cell c1.vm hp c6 hk8 h),hugB_wlk hv.vm hk (wlk_cell hv.vm hp hw hk8 h),hhq]
  ·obtain ⟨f',l',w',hwk⟩:∃ f l w,wlk (Mof ns) r (k*8)=(f,l,w):=⟨_,_,_,rfl⟩
   rw [hugB_wlk c1.vm hk ((hne _ hk8 h).trans hwk),hugB_wlk hv.vm hk hwk]
theorem ls_ok {t:Tb} (ht:tbOK t) (h0:chk t=0) {p:Nat} (hp:p<512):(lsT t p).2.1≤2∧tabW (lsT t p).2.2=none∧okWb (lsT t p).2.1 (lsT t p).2.2=true:=by
 have hv:=(chk_iff ht).1 h0
 obtain ⟨r,ns,ds⟩:=t
 have h2:=(hv.pv.walk hp).2.2
 simp only at h2
 obtain ⟨f,l,w,hw⟩:∃ f l w,wlk (Mof ns) r p=(f,l,w):=⟨_,_,_,rfl⟩
 obtain ⟨a1,a2,a3,a4,a5,a6⟩:=wlk_at hv.vm hp hw
 rw [hw] at h2
 rw [h2]
 exact ⟨a1,a5,a6⟩
theorem kind_ne0 {w:Nat} (h:(decR w).1.1=1):w≠0:=by
 rintro rfl
 rw [decR_0] at h
 exact absurd h (by decide)
theorem rep_ok {t:Tb} (ht:tbOK t) (h0:chk t=0) {p:Nat} (hp:p<512) {w:Nat} (hw:w<2^64) (hk:keyW w=keyW (lsT t p).2.2) (h1:(decR (lsT t p).2.2).1.1=1) :
  (repP t p w).1=putT t p w∧chk (putT t p w)=0∧tbOK (putT t p w)∧∀ q,q<512→(q/8^(lsT t p).2.1=p/8^(lsT t p).2.1→(lsT (putT t p w) q).2=((lsT t p).2.1,w))∧(q/8^(lsT t p).2.1≠p/8^(lsT t p).2.1→(lsT (putT t p w) q).2=(lsT t q).2):=by
 obtain ⟨o1,o2,o3⟩:=ls_ok ht h0 hp
 have hv:=(chk_iff ht).1 h0
 have ek:=key_all hk
 have er:(repP t p w).1=putT t p w:=by
  unfold repP
  rw [if_neg (by rw [ckd_z h0 (by omega) (by omega)];decide),Int.toNat_natCast,if_neg (kind_ne0 h1),if_neg]
  have h5:=(ok_key (l:=(lsT t p).2.1) hk).trans o3
  unfold okWb at h5
  simp only [Bool.and_eq_true,decide_eq_true_eq] at h5
  rintro (h|h|h|h)
  ·exact h h5.1
  ·rw [ek.2.1,h1] at h;exact absurd h (by decide)
  ·rw [ek.2.1,h1] at h;exact absurd h (by decide)
  ·rw [h5.2] at h;cases h
 obtain ⟨r,ns,ds⟩:=t
 have h2:=(hv.pv.walk hp).2.2
 simp only at h2
 obtain ⟨f,l,w0,hwk⟩:∃ f l w,wlk (Mof ns) r p=(f,l,w):=⟨_,_,_,rfl⟩
 rw [hwk] at h2
 rw [h2] at hk o2 o3
 obtain ⟨v1,v2,v3,v4⟩:=vt_rep hv ht hp hwk (hug_key hk) hw ((tab_key hk).trans o2) ((ok_key hk).trans o3)
 refine ⟨er,(chk_iff v2).2 v1,v2,fun q hq=>?_⟩
 rw [h2]
 have hq2:=(v1.pv.walk hq).2.2
 have hq3:=(hv.pv.walk hq).2.2
 simp only at hq2 hq3
 refine ⟨fun he=>?_,fun hne=>?_⟩
 ·rw [wlk_cell v1.vm hp v3 hq he] at hq2
  exact hq2
 ·rw [v4 q hq hne,← hq3] at hq2
  exact hq2
theorem chB_pw {b:Tl}:chB b=0↔1≤b.1∧b.1≤16∧(b.2.length:Int)≤b.1∧(∀ x∈b.2,efE x=0)∧b.2.Pairwise fun x y=>ovB x y=false:=by
 rw [chB_z]
 constructor
 ·rintro ⟨h1,h2,h3,h4⟩
  refine ⟨h1,h2,h3,fun x hx=>?_,List.pairwise_iff_getElem.2 fun i j hi hj hij=>?_⟩
  ·obtain ⟨i,hi,rfl⟩:=List.mem_iff_getElem.1 hx
   rw [← gt_eq hi]
   exact (erE_z (h4 i hi)).1
  ·have:=(erE_z (h4 j hj)).2 (gt b.2 i) (by rw [gt_eq hi];exact List.mem_take_iff_getElem.2 ⟨i,by omega,rfl⟩)
   rw [gt_eq hi,gt_eq hj,ovB_comm] at this
   exact this
 ·rintro ⟨h1,h2,h3,h4,h5⟩
  refine ⟨h1,h2,h3,fun i hi=>?_⟩
  refine erE_0 (h4 _ (gt_mem hi)) ?_
  rw [List.any_eq_false]
  intro y hy
  obtain ⟨j,hj,rfl⟩:=List.mem_take_iff_getElem.1 hy
  have:=List.pairwise_iff_getElem.1 h5 j i (by omega) hi (by omega)
  rw [gt_eq hi,ovB_comm,this];simp
theorem chB_sub {z:Int} {l l':List Te} (h:chB (z,l)=0) (hs:l'.Sublist l):chB (z,l')=0:=by
 rw [chB_pw] at h ⊢
 obtain ⟨h1,h2,h3,h4,h5⟩:=h
 have:=hs.length_le
 exact ⟨h1,h2,by simp only at h3 ⊢;omega,fun x hx=>h4 x (hs.subset hx),h5.sublist hs⟩
theorem chB_fill {b:Tl} {x:Te} (h:chB b=0) (hx:efE x=0):chB (b.1,fiL b x)=0:=by
 have h':=chB_pw.1 h
 obtain ⟨h1,h2,h3,h4,h5⟩:=h'
 have hls:∀ l':List Te,l'.Sublist b.2→(l'.length:Int)<b.1→(∀ y∈l',ovB x y=false)→chB (b.1,l'++[x])=0:=fun l' hs hl hno=>by
  have hc:=chB_pw.1 (chB_sub (z:=b.1) h hs)
  rw [chB_pw]
  refine ⟨h1,h2,by simp only [List.length_append,List.length_cons,List.length_nil];omega,fun y hy=>?_,?_⟩
  ·rcases List.mem_append.1 hy with hy|hy
   ·exact hc.2.2.2.1 y hy
   ·simp at hy;rw [hy];exact hx
  ·refine List.pairwise_append.2 ⟨hc.2.2.2.2,List.pairwise_singleton _ _,fun y hy y' hy'=>?_⟩
   simp at hy'
   subst hy'
   rw [ovB_comm]
   exact hno y hy
 have hfl:((b.2.filter fun y=>!ovB x y).length:Int)≤b.1:=by
  have:=(List.filter_sublist (p:=fun y=>!ovB x y) (l:=b.2)).length_le
  omega
 unfold fiL
 split
 ·rename_i he
  refine hls _ ((List.drop_sublist _ _).trans List.filter_sublist) (by simp only [List.length_drop];omega) fun y hy=>?_
  have:=(List.mem_filter.1 (List.mem_of_mem_drop hy)).2
  simpa using this
 ·rename_i he
  refine hls _ List.filter_sublist (by omega) fun y hy=>?_
  have:=(List.mem_filter.1 hy).2
  simpa using this
theorem fiX_ok {s:Int} {p w:Nat} (hs:0≤s∧s<8) (hp:p<512) (h0:trB w=true):efE (fiX s p w)=0∧cvB (fiX s p w) s p=true:=by
 unfold efE fiX cvB plcB spn
 simp only
 cases hg:hgB w with
 | true =>
  simp only [if_true]
  refine ⟨?_,decide_eq_true ⟨trivial,by omega,by omega⟩⟩
  rw [if_neg (by simp;omega),if_neg]
  rintro (h|⟨_,h⟩)
  ·rw [h0] at h;cases h
  ·omega
 | false =>
  simp only [Bool.false_eq_true,if_false]
  refine ⟨?_,decide_eq_true ⟨trivial,by omega,by omega⟩⟩
  rw [if_neg (by simp;omega),if_neg]
  rintro (h|⟨h,_⟩)
  ·rw [h0] at h;cases h
  ·cases h
end Go.AM
namespace Go.AM
open Go Go.Proofs
theorem walk_nat {t:Tb} (h:chk t=0) {p:Nat} (hp:p<512):walkT t p=((lsT t p).2.2,(lsT t p).2.1,0):=by
 rw [walkT_z (ckd_z h (by omega) (by omega)),Int.toNat_natCast]
theorem tlOK_of {b:Tl} (h:chB b=0) (hw:∀ x∈b.2,x.2.2<2^64):tlOK b:=by
 have:=chB_z.1 h
 exact ⟨by omega,hw⟩
theorem ac_miss {u:Tb} {b:Tl} {s:Int} {p:Nat} {wr:Bool} (hu:tbOK u) (hc:chk u=0) (hb:tlOK b) (hbc:chB b=0) (hs:0≤s∧s<8) (hp:p<512)
  (hm:¬ ((lkT b s p).2=true∧(wr=false∨((decR (lkT b s p).1).1.2.2.1=true∧(decR (lkT b s p).1).1.2.2.2.2.1=true)))) (hr:rfE (decR (lsT u p).2.2).1 wr=0) :
  ∃ w,w<2^64∧keyW w=keyW (lsT u p).2.2∧(decR (lsT u p).2.2).1.1=1∧(decR w).1.2.2.2.1=true∧(wr=true→(decR w).1.2.2.1=true∧(decR w).1.2.2.2.2.1=true)∧trB w=true ∧
   acT u b s p wr=(putT u p w,(b.1,fiL b (fiX s p w)),frmG (decR (lsT u p).2.2).1 p,0):=by
 obtain ⟨o1,o2,o3⟩:=ls_ok hu hc hp
 have hpl:plcB s p=true:=by unfold plcB;exact decide_eq_true ⟨hs.1,hs.2,by omega,by omega⟩
 have hk1:(decR (lsT u p).2.2).1.1=1:=by
  unfold rfE at hr
  split at hr
  ·exact absurd hr (by decide)
  ·rename_i h;exact Decidable.not_not.1 h
 have hW:wr=true→(decR (lsT u p).2.2).1.2.2.1=true:=fun h=>by
  unfold rfE at hr
  rw [if_neg (by simp [hk1])] at hr
  split at hr
  ·exact absurd hr (by decide)
  ·rename_i h2
   cases hx:(decR (lsT u p).2.2).1.2.2.1 with
   | true=>rfl
   | false=>exact absurd ⟨h,hx⟩ h2
 have h0:(decR (lsT u p).2.2).2=0:=by
  unfold okWb at o3
  simp only [Bool.and_eq_true,decide_eq_true_eq] at o3
  exact o3.1
 obtain ⟨m1,m2,m3,m4⟩:=mark_key (wr:=wr) h0 hk1 hW
 have mk:=key_all m1
 have htr:trB (mkW (lsT u p).2.2 wr).1=true:=by
  unfold trB
  exact decide_eq_true ⟨mk.1.trans h0,mk.2.1.trans hk1⟩
 obtain ⟨r1,r2,r3,r4⟩:=rep_ok hu hc hp m2 m1 hk1
 refine ⟨_,m2,m1,hk1,m3,fun h=>⟨mk.2.2.2.1.trans (hW h),m4 h⟩,htr,?_⟩
 unfold acT
 rw [if_neg (by simp [hc]),if_neg (by simp [hbc]),if_neg (by simp [hpl]),if_neg hm]
 unfold acM
 rw [walk_nat hc hp]
 simp only
 rw [if_neg (by simp [hr]),r1]
 unfold fiT
 rw [if_neg (by simp [hbc]),if_neg (by simp [hpl]),if_neg (by simp [htr])]
theorem frJ_mono {n:Int} {L:List Int} {y:Int} (h:y∈L):∀ {j:Nat},y∈frJ n L j
 | 0=>h
 | j+1=>dd1_mem.2 (.inl (frJ_mono h))
theorem frJ_mem {n:Int} {L:List Int} {i:Nat}:∀ {j:Nat},i<j→n+i∈frJ n L j
 | 0,h=>absurd h (by omega)
 | j+1,h=>by
  simp only [frJ,dd1_mem]
  rcases Nat.lt_succ_iff_lt_or_eq.1 h with h|rfl
  ·exact .inl (frJ_mem h)
  ·exact .inr rfl
theorem rcL_mono {wr:Bool} {l:List Te} {y:Int} {i:Nat} (h:y∈rcL wr l i):∀ {j:Nat},i≤j→y∈rcL wr l j
 | 0,hj=>by
  obtain rfl:i=0:=by omega
  exact h
 | j+1,hj=>by
  rcases Nat.lt_or_ge j i with h2|h2
  ·obtain rfl:i=j+1:=by omega
   exact h
  ·have ih:=rcL_mono h h2
   simp only [rcL]
   split
   ·exact ih
   ·exact frJ_mono ih
theorem hit_reach {b:Tl} {wr:Bool} {x:Te} (hc:chB b=0) (hx:x∈b.2) (hs:rcS wr x=false) {p:Int} (hp:0≤p):frmG (decR x.2.2).1 p∈rcT b wr:=by
 unfold rcT
 rw [if_neg (by simp [hc]),(sortL_perm _).mem_iff]
 obtain ⟨i,hi,rfl⟩:=List.mem_iff_getElem.1 hx
 refine rcL_mono (i:=i+1) ?_ (by omega)
 rw [← gt_eq hi] at hs ⊢
 simp only [rcL]
 rw [if_neg (by simp [hs])]
 unfold frmG rcJ rcE
 split
 ·have:=@frJ_mem (decR (gt b.2 i).2.2).1.2.1 (rcL wr b.2 i) (p%8).toNat 8 (by omega)
  rw [show (((p%8).toNat:Nat):Int)=p%8 by omega] at this
  exact this
 ·have:=@frJ_mem (decR (gt b.2 i).2.2).1.2.1 (rcL wr b.2 i) 0 1 (by omega)
  simpa using this
theorem lsA_mem {t:Tb} {x:Pe} {q:Nat} (h:x∈lsF t q):∀ {n:Nat},q<n→x∈lsA t n
 | 0,hn=>absurd hn (by omega)
 | n+1,hn=>by
  simp only [lsA,List.mem_append]
  rcases Nat.lt_succ_iff_lt_or_eq.1 hn with h2|rfl
  ·exact .inl (lsA_mem h h2)
  ·exact .inr h
theorem ha_pages {t:Tb} {l:List Pe} {x:Pe} (h1:(decR x.2).1.1=1) (h2:(decR x.2).1.2.2.2.1=true):∀ {i:Nat},i≤l.length→x∈l.take i→x.1∈(haL t l i).2
 | 0,_,h=>by simp at h
 | i+1,hi,h=>by
  rw [haL_s (by omega)]
  rw [List.take_add_one,List.getElem?_eq_getElem (by omega)] at h
  unfold haS
  rcases List.mem_append.1 h with h|h
  ·have ih:=ha_pages (t:=t) h1 h2 (i:=i) (by omega) h
   split
   ·exact ih
   ·exact List.mem_append.2 (.inl ih)
  ·simp at h
   rw [gpe_eq (by omega),← h,if_neg (by simp [h1,h2])]
   exact List.mem_append.2 (.inr (by simp))
def b1:Tl:=(1,[])
theorem b1_ok:tlOK b1∧chB b1=0:=⟨⟨by simp [b1],by simp [b1]⟩,by rfl⟩
theorem marks_plain {t:Tb} (ht:tbOK t) {s p:Int} {wr:Bool} {u:Tb} {b:Tl} {f:Int} (h:acT t b1 s p wr=(u,b,f,0)) :
  tbOK u∧tlOK b∧acT u b s p wr=(u,b,f,0)∧(haT u).2.2=0∧(p∈(haT u).2.1∨p - p.tmod 8∈(haT u).2.1)∧f∈rcT b wr∧0≤p∧p<512:=by
 have hc:chk t=0:=by
  unfold acT at h
  split at h
  ·rename_i hk
   simp only [Prod.mk.injEq] at h
   exact absurd h.2.2.2 hk
  ·rename_i hk;exact Decidable.not_not.1 hk
 have hpl:plcB s p=true:=by
  cases hq:plcB s p with
  | true=>rfl
  | false =>
   unfold acT at h
   rw [if_neg (by simp [hc]),if_neg (by simp [b1_ok.2]),if_pos hq] at h
   simp only [Prod.mk.injEq] at h
   exact absurd h.2.2.2 (by decide)
 have hpl2:0≤s∧s<8∧0≤p∧p<512:=by unfold plcB at hpl;simpa using hpl
 obtain ⟨p,rfl⟩:=Int.eq_ofNat_of_zero_le hpl2.2.2.1
 have hp:p<512:=by omega
 have hs:0≤s∧s<8:=⟨hpl2.1,hpl2.2.1⟩
 have hlk:lkT b1 s p=(0,false):=by unfold lkT;rw [if_neg (by simp [b1_ok.2])];rfl
 have hm:¬ ((lkT b1 s p).2=true∧(wr=false∨((decR (lkT b1 s p).1).1.2.2.1=true∧(decR (lkT b1 s p).1).1.2.2.2.2.1=true))):=by
  rw [hlk];rintro ⟨h,_⟩;cases h
 by_cases hr:rfE (decR (lsT t p).2.2).1 wr=0
 ·obtain ⟨w,w1,w2,w3,w4,w5,w6,ea⟩:=ac_miss ht hc b1_ok.1 b1_ok.2 hs hp hm hr
  rw [ea] at h
  simp only [Prod.mk.injEq] at h
  obtain ⟨rfl,rfl,rfl,_⟩:=h
  obtain ⟨r1,r2,r3,r4⟩:=rep_ok ht hc hp w1 w2 w3
  obtain ⟨x1,x2⟩:=fiX_ok (s:=s) (w:=w) hs hp w6
  have hcf:=chB_fill (b:=b1) b1_ok.2 x1
  have efi:fiL b1 (fiX s p w)=[fiX s p w]:=rfl
  rw [efi] at hcf ⊢
  have hbk:tlOK (b1.1,[fiX s p w]):=tlOK_of hcf fun x hx=>by
   simp at hx
   subst hx
   exact w1
  obtain ⟨o1,o2,o3⟩:=ls_ok ht hc hp
  have hrs:rcS wr (fiX s p w)=false:=by
   unfold rcS rcE fiX
   cases wr with
   | false=>rfl
   | true=>rw [(w5 rfl).1,(w5 rfl).2];rfl
  refine ⟨r3,hbk,?_,?_,?_,?_,by omega,by omega⟩
  ·have hlk2:lkT (b1.1,[fiX s p w]) s p=(w,true):=by
    unfold lkT
    rw [if_neg (by simp [hcf])]
    simp only [List.find?_cons,x2]
    rfl
   unfold acT
   rw [if_neg (by simp [r2]),if_neg (by simp [hcf]),if_neg (by simp [hpl]),hlk2]
   simp only
   rw [if_pos ⟨trivial,by cases wr with
    | false=>exact .inl rfl
    | true=>exact .inr (w5 rfl)⟩,fr_key w2]
  ·unfold haT
   rw [if_neg (by simp [r2])]
  ·have hw0:w≠0:=kind_ne0 ((key_all w2).2.1.trans w3)
   have hk1:(decR w).1.1=1:=(key_all w2).2.1.trans w3
   have hpg:∀ q:Nat,q<512→q/8^(lsT t p).2.1=p/8^(lsT t p).2.1→((lsT t p).2.1=0∨q%8=0)→(q:Int)∈(haT (putT t p w)).2.1:=fun q hq he hl=>by
    have hq2:=(r4 q hq).1 he
    have hmem:((q:Int),w)∈lstT (putT t p w):=by
     unfold lstT
     rw [if_pos r2]
     refine lsA_mem (q:=q) ?_ hq
     unfold lsF
     rw [hq2]
     simp only
     rw [if_pos ⟨hw0,hl⟩]
     exact List.mem_singleton.2 rfl
    unfold haT
    rw [if_neg (by simp [r2])]
    simp only
    exact ha_pages (x:=((q:Int),w)) hk1 w4 (Nat.le_refl _) (by rw [List.take_length];exact hmem)
   rcases (by omega:(lsT t p).2.1=0∨(lsT t p).2.1=1∨(lsT t p).2.1=2) with hl|hl|hl
   ·exact .inl (hpg p hp rfl (.inl hl))
   ·right
    have e:(p:Int) - (p:Int).tmod 8=((p - p%8:Nat):Int):=by
     rw [Int.tmod_eq_emod_of_nonneg (by omega)];omega
    rw [e]
    exact hpg (p - p%8) (by omega) (by rw [hl];simp;omega) (.inr (by omega))
   ·exfalso
    rw [hl] at o3
    unfold okWb suitB at o3
    simp only [Bool.and_eq_true,decide_eq_true_eq] at o3
    rw [w3] at o3
    simp at o3
  ·have:=hit_reach (b:=(b1.1,[fiX s p w])) (x:=fiX s p w) hcf (by simp) hrs (p:=p) (by omega)
   rw [← fr_key w2]
   exact this
 ·exfalso
  unfold acT at h
  rw [if_neg (by simp [hc]),if_neg (by simp [b1_ok.2]),if_neg (by simp [hpl]),if_neg hm] at h
  unfold acM at h
  rw [walk_nat hc hp] at h
  simp only at h
  rw [if_pos hr] at h
  simp only [Prod.mk.injEq] at h
  exact hr h.2.2.2
end Go.AM
namespace Go.AM
open Go Go.Proofs
set_option maxRecDepth 4000
@[simp] theorem tyTry:Types Try.prog 44=some ⟨.struct [(0,3,1),(1,3,1),(2,4,1)],3,24,[.int .i64 0,.int .i64 0,.bool false]⟩:=by kernel_rfl
noncomputable def acR (t:Tb) (b:Tl) (s p:Int) (wr:Bool) (n:Nat):Option (AV×List (Nat×AO)):=some (.tup [TbC (acT t b s p wr).1 n,TlC (acT t b s p wr).2.1 (n+2),I (acT t b s p wr).2.2.1,I (acT t b s p wr).2.2.2],outT (acT t b s p wr).1 n++outC (acT t b s p wr).2.1 (n+2))
theorem kAc1 {t:Tb} {s p:Int} {wr:Bool} (ht:tbOK t) (M:Nat→AO) (n:Nat):callP (fun avs=>AcF (nilP [2,3] avs)) [TbV t,.agg [I 1,.v (.slice none 0 0)],I s,I p,B wr] M n=acR t b1 s p wr n :=
 oAc ht b1_ok.1 (by simp [TbV,nilP,nilV,nilA,TlV,b1,trows]) n
theorem kAc2 {t:Tb} {b:Tl} {s p:Int} {wr:Bool} (ht:tbOK t) (hb:tlOK b) {a va d vd:Nat} {f1 f2:Bool} {c vc:Nat} {fc:Bool} {M:Nat→AO} (h1:M a=.vec va 9 f1 (nrows t.2.1)) (h2:M d=.vec vd 2 f2 (prows t.2.2)) (h3:M c=.vec vc 3 fc (trows b.2)) (n:Nat) :
  callP (fun avs=>AcF (nilP [2,3] avs)) [TbS t a va d vd,.agg [I b.1,.sl c vc 3 0 b.2.length],I s,I p,B wr] M n=acR t b s p wr n :=
 oAc ht hb (by
  rw [peek_tab (t:=t) ⟨⟨f1,h1⟩,f2,h2⟩ (peek_tl (b:=b) h3 (rs':=[I s,I p,B wr]) (by simp))]
  simp [TbV,TlV,nilP,nilV,nilA]) n
theorem StlF_at {a b:Tl} (h1:a.2.length≤1000000) (h2:b.2.length≤1000000):StlF [TlV a,TlV b]=some (B (decide (a=b))):=by
 refine specF_eq (ι:={x:Tl×Tl // x.1.2.length≤1000000∧x.2.2.length≤1000000}) (A:=fun x=>[TlV x.1.1,TlV x.1.2]) (R:=fun x=>retOf [B (decide (x.1.1=x.1.2))]) ⟨(a,b),h1,h2⟩ fun j e=>?_
 obtain ⟨⟨a',b'⟩,h'⟩:=j
 simp only [List.cons.injEq,TlV_inj,and_true] at e
 obtain ⟨rfl,rfl⟩:=e;rfl
theorem kSt {b:Tl} (hb:b.2.length≤1000000) {avs:List AV} {M:Nat→AO} (hp:peekVals M avs=some [TlV b,TlV b]) (n:Nat):callP StlF avs M n=some (B true,[]):=by
 unfold callP
 simp only [hp,StlF_at hb hb]
 simp
def TryV (y:Int×Int×Bool):AV:=.agg [I y.1,I y.2.1,B y.2.2]
theorem arg_try {a:AV} (h:FitArg Try.prog 44 a):∃ y,a=TryV y:=by
 obtain ⟨cs,rfl,hf⟩:=arg_str (show shapeOf Try.prog 10 44=some [shI,shI,shB] by kernel_rfl) Try.underlying44 h
 obtain ⟨x,ar,rfl,ha,hr⟩:=fitL_cons hf
 obtain ⟨y,br,rfl,hb,hr2⟩:=fitL_cons hr
 obtain ⟨z,rfl,hc⟩:=fitL_one hr2
 obtain ⟨s,rfl,_⟩:=fit_int ha
 obtain ⟨p,rfl,_⟩:=fit_int hb
 obtain ⟨wr,rfl⟩:=fit_bool hc
 exact ⟨(s,p,wr),rfl⟩
theorem tab_try_F (avs:List AV) (h:FitArgs Try.prog [27,44] avs):specF (ι:={x:Tb×Int×Int×Bool // tbF x.1}) (fun x=>[TbV x.1.1,TryV x.1.2]) (fun _=>retOf [B true]) avs=some (B true):=by
 match avs,h with
 | [a,b],h =>
  simp only [FitArgs] at h
  obtain ⟨t,rfl,ht⟩:=arg_tab h.1
  obtain ⟨x,rfl⟩:=arg_try h.2.1
  exact specF_eq (A:=fun x:{x:Tb×Int×Int×Bool // tbF x.1}=>[TbV x.1.1,TryV x.1.2]) (R:=fun _=>retOf [B true]) ⟨(t,x),ht⟩ fun _ _=>rfl
 | [],h=>simp [FitArgs] at h
 | [_],h=>simp [FitArgs] at h
 | _::_::_::_,h=>simp [FitArgs] at h
structure LawK (X:AX):Prop where
 ok:XOK Try.prog X
 w:X.W wT
 few:∀ (t:Tb) M n,X.call 19 [TbV t] M n=some (B (decide (t.2.1.length≤80∧t.2.2.length≤70)),[])
 aw:∀ M n,X.call 15 [] M n=some (B true,[])
 ac:X.call 23=callP fun avs=>AcF (nilP [2,3] avs)
 ha:X.call 20=callP HaF
 rc:X.call 17=callP RcF
 sam:∀ t:Tb,tbOK t→SamO X t
 st:X.call 24=callP StlF
 ct:OwnI X
 ck:∀ (b:Tl),tlOK b→∀ M n,X.call 26 [TlV b] M n=some (I (chB b),[])
 lk:∀ (b:Tl) (s p:Int),tlOK b→p<1000000→∀ M n,X.call 27 [TlV b,I s,I p] M n=some (.tup [U (lkT b s p).1,B (lkT b s p).2],[])
theorem cLr (b:Tl) (s p:Int) (h:tlOK b) (hp:p<1000000) (M:Nat→AO) (n:Nat):callP LrF [TlV b,I s,I p] M n=some (.tup [U (lkT b s p).1,B (lkT b s p).2],[]):=by
 unfold LrF
 rw [callP_spec (ι:={x:Tl×Int×Int // tlOK x.1∧x.2.2<1000000}) (A:=fun x=>[TlV x.1.1,I x.1.2.1,I x.1.2.2]) (R:=fun x=>retOf [U (lkT x.1.1 x.1.2.1 x.1.2.2).1,B (lkT x.1.1 x.1.2.1 x.1.2.2).2]) ⟨(b,s,p),h,hp⟩ (by simp [TlV]) ?_ (by simp [retOf,openRet,openVals,openVal,openLeaves,openLeaf,U])]
 ·simp [retOf,openRet,openVals,openVal,openLeaves,openLeaf,U]
 ·rintro ⟨⟨b',s',p'⟩,h'⟩ e
  simp only [List.cons.injEq,TlV_inj,Iinj,and_true] at e
  obtain ⟨rfl,rfl,rfl⟩:=e;rfl
theorem lawK:LawK TmB:=⟨tmB,w0T,fun t M n=>cFew t M n,fun M n=>cAwM M n,rfl,rfl,rfl,fun t h=>samO rfl h,rfl,octR rfl,fun b h M n=>cCt b h M n,fun b s p h hp M n=>cLr b s p h hp M n⟩
set_option maxHeartbeats 16000000 in
theorem s6 (X:AX) (L:LawK X):PSound Try.prog 6 (specF (ι:={x:Tb×Int×Int×Bool // tbF x.1}) (fun x=>[TbV x.1.1,TryV x.1.2]) fun _=>retOf [B true]):=by
 have hX:=L.ok
 have hw:=L.w
 refine psound_spec hX mixed Try.func6 rfl fun ⟨⟨⟨r,ns,ds⟩,s,p,wr⟩,htf⟩ w0 G=>⟨by show 2≤114;decide,rfl,?_⟩
 show AW ⟨Try.prog,X,114,w0,.pure G⟩ _ _ _
 have hc:Cx.OK ⟨Try.prog,X,114,w0,.pure G⟩:=⟨hX,mixed⟩
 have few:=L.few (r,ns,ds)
 have aw:=L.aw
 simp only at few htf ⊢
 rcases Decidable.em (ns.length≤80∧ds.length≤70) with hf|hf
 ·rw [decide_eq_true hf] at few
  have ht:=tbF_ok htf hf
  rcases Decidable.em (s<0) with hs1|hs1
  ·simp only [TbV,TryV] at few ⊢
   have zS:=jj few<|jj aw<|hs1
   refine dF64 ?_
   repeat (intro K hK)
   clear zS
   all_goals refine ⟨by simp,?_⟩
   all_goals simp [leaves_iff,Try.f6]
   all_goals try exact dt
  ·rcases Decidable.em (8≤s) with hs2|hs2
   ·simp only [TbV,TryV] at few ⊢
    have zS:=jj few<|jj aw<|jj hs1<|hs2
    refine dF64 ?_
    repeat (intro K hK)
    clear zS
    all_goals refine ⟨by simp,?_⟩
    all_goals simp [leaves_iff,Try.f6]
    all_goals try exact dt
   ·have ac1:∀ M n,X.call 23 [TbV (r,ns,ds),.agg [I 1,.v (.slice none 0 0)],I s,I p,B wr] M n=acR (r,ns,ds) b1 s p wr n:=fun M n=>by rw [L.ac];exact kAc1 ht M n
    unfold acR at ac1
    have mp:=@marks_plain (r,ns,ds) ht s p wr
    obtain ⟨⟨u,b,f,e⟩,hA⟩:∃ x,x=acT (r,ns,ds) b1 s p wr:=⟨_,rfl⟩
    rw [← hA] at ac1 mp
    simp only at ac1
    rcases Decidable.em (e=0) with he|he
    ·subst he
     obtain ⟨hu,hb,m1,m2,m3,m4,m5,m6⟩:=mp rfl
     have ac2:∀ (a va d vd:Nat) (f1 f2:Bool) (c vc:Nat) (fc:Bool) (M:Nat→AO) (n:Nat),M a=.vec va 9 f1 (nrows u.2.1)→M d=.vec vd 2 f2 (prows u.2.2)→M c=.vec vc 3 fc (trows b.2)→X.call 23 [TbS u a va d vd,.agg [I b.1,.sl c vc 3 0 b.2.length],I s,I p,B wr] M n=acR u b s p wr n:=fun a va d vd f1 f2 c vc fc M n h1 h2 h3=>by rw [L.ac];exact kAc2 hu hb h1 h2 h3 n
     unfold acR at ac2
     rw [m1] at ac2
     have har:∀ (a va d vd:Nat) (f1 f2:Bool) (M:Nat→AO) (n:Nat),M a=.vec va 9 f1 (nrows u.2.1)→M d=.vec vd 2 f2 (prows u.2.2)→X.call 20 [TbS u a va d vd] M n=some (.tup [TbC (haT u).1 n,.sl (n+2) 1 1 0 (haT u).2.1.length,I (haT u).2.2],outT (haT u).1 n++[(n+2,AO.vec 1 1 false (irows (haT u).2.1))]):=fun a va d vd f1 f2 M n h1 h2=>by rw [L.ha];exact oHa hu ⟨⟨f1,h1⟩,f2,h2⟩ n
     have sam:=L.sam u hu
     unfold SamO at sam
     have stl:∀ (c vc d vd:Nat) (fc fd:Bool) (M:Nat→AO) (n:Nat),M c=.vec vc 3 fc (trows b.2)→M d=.vec vd 3 fd (trows b.2)→X.call 24 [.agg [I b.1,.sl c vc 3 0 b.2.length],.agg [I b.1,.sl d vd 3 0 b.2.length]] M n=some (B true,[]):=fun c vc d vd fc fd M n h1 h2=>by rw [L.st];exact kSt hb.1 (peek_tl h1 (peek_tl h2 rfl)) n
     have rea:∀ (c vc:Nat) (fc:Bool) (M:Nat→AO) (n:Nat),M c=.vec vc 3 fc (trows b.2)→X.call 17 [.agg [I b.1,.sl c vc 3 0 b.2.length],B wr] M n=some (.sl n 1 1 0 (rcT b wr).length,[(n,AO.vec 1 1 false (irows (rcT b wr)))]):=fun c vc fc M n h1=>by rw [L.rc];exact oRc hb h1 n
     have hl1:=(haT_ok hu).2
     have hl2:=@rcT_len b wr
     have ct1:=L.ct.1 (haT u).2.1 p (by omega)
     have ct2:=L.ct.1 (haT u).2.1 (p - p.tmod 8) (by omega)
     have ct3:=L.ct.1 (rcT b wr) f (by omega)
     rw [decide_eq_true m4] at ct3
     have htm:p.tmod 8=p%8:=Int.tmod_eq_emod_of_nonneg m5
     obtain ⟨⟨hu1,pg,he2⟩,hH⟩:∃ x,x=haT u:=⟨_,rfl⟩
     rw [← hH] at har m2 m3 ct1 ct2 hl1
     obtain ⟨rl,hR⟩:∃ x,x=rcT b wr:=⟨_,rfl⟩
     rw [← hR] at rea ct3
     simp only at m2 m3 har ct1 ct2 ct3 rea
     subst m2
     obtain ⟨u1,uns,uds⟩:=u
     obtain ⟨z,bl⟩:=b
     obtain ⟨h1r,hns,hds⟩:=hu1
     rcases Decidable.em (p∈pg) with hpg|hpg
     ·rw [decide_eq_true hpg] at ct1
      simp only [TbV,TbC,TbS,TlC,outT,outC,TryV,List.cons_append,List.nil_append] at few ac1 ac2 har sam stl rea ct1 ct3 ⊢
      have zS:=jj few<|jj aw<|jj hs1<|jj hs2<|jj ac1<|jj ac2<|jj har<|jj sam<|jj stl<|jj rea<|jj ct1<|ct3
      refine dF64 ?_
      repeat (intro K hK)
      clear zS
      all_goals refine ⟨by simp,?_⟩
      all_goals simp [leaves_iff,Try.f6]
      all_goals try exact dt
     ·rw [decide_eq_false hpg] at ct1
      have hp2:=m3.resolve_left hpg
      rw [decide_eq_true hp2] at ct2
      simp only [TbV,TbC,TbS,TlC,outT,outC,TryV,List.cons_append,List.nil_append] at few ac1 ac2 har sam stl rea ct1 ct2 ct3 ⊢
      rw [htm] at ct2
      have zS:=jj few<|jj aw<|jj hs1<|jj hs2<|jj ac1<|jj ac2<|jj har<|jj sam<|jj stl<|jj rea<|jj ct1<|jj ct2<|jj ct3<|htm
      refine dF64 ?_
      repeat (intro K hK)
      clear zS
      all_goals refine ⟨by simp,?_⟩
      all_goals simp [leaves_iff,Try.f6]
      all_goals try exact dt
    ·obtain ⟨u1,uns,uds⟩:=u
     obtain ⟨z,bl⟩:=b
     simp only [TbV,TbC,TlC,outT,outC,TryV,List.cons_append,List.nil_append] at few ac1 ⊢
     have zS:=jj few<|jj aw<|jj hs1<|jj hs2<|jj ac1<|he
     refine dF64 ?_
     repeat (intro K hK)
     clear zS
     all_goals refine ⟨by simp,?_⟩
     all_goals simp [leaves_iff,Try.f6]
     all_goals try exact dt
 ·rw [decide_eq_false hf] at few
  simp only [TbV,TryV] at few ⊢
  have zS:=jj few<|aw
  refine dF64 ?_
  repeat (intro K hK)
  clear zS
  all_goals refine ⟨by simp,?_⟩
  all_goals simp [leaves_iff,Try.f6]
  all_goals try exact dt
theorem marks':PSound Try.prog 6 (specF (ι:={x:Tb×Int×Int×Bool // tbF x.1}) (fun x=>[TbV x.1.1,TryV x.1.2]) fun _=>retOf [B true]):=s6 TmB lawK
end Go.AM
