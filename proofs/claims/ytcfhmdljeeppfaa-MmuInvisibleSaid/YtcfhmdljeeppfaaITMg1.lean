/- A part of the proof: what functions of the program compute, by abstract execution of their code. Its theorems hold without further condition. -/
import Derived.Test.YtcfhmdljeeppfaaUTPt81
import Derived.Test.YtcfhmdljeeppfaaUTMb0
import Derived.Test.YtcfhmdljeeppfaaUAmMp
set_option linter.all false
namespace Go.AM
open Go Go.Proofs
theorem cLo (t:Tb) (p:Int) (wr:Bool) (h:tbOK t) (M:Nat→AO) (n:Nat):callP LoF [TbV t,I p,B wr] M n=some (.tup [I (loT t p wr).1,I (loT t p wr).2],[]):=by
 unfold LoF
 rw [callP_spec (ι:={x:Tb×Int×Bool // tbOK x.1}) (A:=fun x=>[TbV x.1.1,I x.1.2.1,B x.1.2.2]) (R:=fun x=>retOf [I (loT x.1.1 x.1.2.1 x.1.2.2).1,I (loT x.1.1 x.1.2.1 x.1.2.2).2]) ⟨(t,p,wr),h⟩ (by simp [TbV]) ?_ (by simp [retOf,openRet,openVals,openVal,openLeaves,openLeaf])]
 ·simp [retOf,openRet,openVals,openVal,openLeaves,openLeaf]
 ·rintro ⟨⟨t',p',w'⟩,h'⟩ e
  simp only [List.cons.injEq,TbV_inj,Iinj,Binj,and_true] at e
  obtain ⟨rfl,rfl,rfl⟩:=e;rfl
end Go.AM
namespace Go.AM
open Go Go.Proofs
section
variable {M M':Mm} {root:Int} {p p':Nat}
theorem frP1 (hp:p<512):frP WA M root 1 (p/64)=tabW (wM M root (p/64)):=by
 simp only [frP,Option.bind_some]
 rw [show p/64%8=p/64 by omega];rfl
theorem frP2:frP WA M root 2 (p/8)=(frP WA M root 1 (p/64)).bind fun f=>tabW (wM M f (p/8%8)):=by
 show (frP WA M root 1 (p/8/8)).bind _=_
 rw [show p/8/8=p/64 by omega]
 rfl
theorem posL (hp:p<512) {l:Nat} (hl:l≤2):(2 - l,p/8^(l+1))∈Pos:=by
 rcases (by omega:l=0∨l=1∨l=2) with rfl|rfl|rfl<;>rw [mem_Pos]<;>simp<;>omega
theorem wlk_same (hp:p<512) (h:∀ l,l≤2→∀ f,frP WA M root (2 - l) (p/8^(l+1))=some f→wM M' f (dgt p l)=wM M f (dgt p l)):wlk M' root p=wlk M root p:=by
 have h2:wM M' root (p/64)=wM M root (p/64):=by
  have:=h 2 (by omega) root rfl
  rwa [dgt2 hp] at this
 have h1:∀ f,frP WA M root 1 (p/64)=some f→wM M' f (p/8%8)=wM M f (p/8%8):=fun f hf=>by
  have:=h 1 (by omega) f (by rw [show p/8^(1+1)=p/64 by simp];exact hf)
  rwa [dgt1] at this
 have h0:∀ f,frP WA M root 2 (p/8)=some f→wM M' f (p%8)=wM M f (p%8):=fun f hf=>by
  have:=h 0 (by omega) f (by rw [show p/8^(0+1)=p/8 by simp];exact hf)
  rwa [dgt0] at this
 have e1:frP WA M' root 1 (p/64)=frP WA M root 1 (p/64):=by rw [frP1 hp,frP1 hp,h2]
 have e2:frP WA M' root 2 (p/8)=frP WA M root 2 (p/8):=by
  rw [frP2,frP2,e1]
  cases hx:frP WA M root 1 (p/64) with
  | none=>rfl
  | some f=>simp only [Option.bind_some];rw [h1 f hx]
 unfold wlk
 rw [e2,e1]
 cases hx:frP WA M root 2 (p/8) with
 | some f=>simp only;rw [h0 f hx]
 | none =>
  simp only
  cases hy:frP WA M root 1 (p/64) with
  | some f=>simp only;rw [h1 f hy]
  | none=>simp only;rw [h2]
theorem cell_ne {l:Nat} (h1:p'/8^(l+1)=p/8^(l+1)) (hd:dgt p' l=dgt p l):p'/8^l=p/8^l:=by
 unfold dgt at hd
 rw [Nat.pow_succ,← Nat.div_div_eq_div_mul,← Nat.div_div_eq_div_mul] at h1
 omega
theorem wlk_put_ne (hV:VM WA M root) (hp:p<512) {f:Int} {l w0 w:Nat} (hw:wlk M root p=(f,l,w0)) (hM:M'=updW M f (dgt p l) w) (hp':p'<512) (hne:p'/8^l≠p/8^l):wlk M' root p'=wlk M root p':=by
 obtain ⟨a1,a2,a3,a4,a5,a6⟩:=wlk_at hV hp hw
 obtain ⟨ws,c1,c2,_⟩:=hV.nd _ _ a2 f a3
 refine wlk_same hp' fun l' hl' f' hf'=>?_
 rw [hM,wM_updW c1 (by have:=dgt_lt p l;omega),if_neg]
 rintro ⟨rfl,hd⟩
 obtain ⟨i1,i2⟩:=hV.inj _ _ _ _ (posL hp' hl') a2 _ hf' a3
 obtain rfl:l'=l:=by omega
 exact hne (cell_ne i2 hd)
theorem hugW_tab {x:Nat} {f:Int} (h:tabW x=some f):hugW x=false:=by
 obtain ⟨h1,h2,h3⟩:=tabW_inv h
 unfold hugW
 rw [h3,decR_tw (by omega)]
 rfl
theorem hugB_wlk (hV:VM WA M root) {g:Nat} (hg:g<64) {f:Int} {l w:Nat} (hw:wlk M root (g*8)=(f,l,w)):hugB M root g=(decide (l=1)&&hugW w):=by
 have hp:g*8<512:=by omega
 obtain ⟨a1,a2,a3,a4,a5,a6⟩:=wlk_at hV hp hw
 have e1:g*8/64=g/8:=by omega
 have e2:g*8/8=g:=by omega
 rcases (by omega:l=0∨l=1∨l=2) with rfl|rfl|rfl
 ·rw [show g*8/8^(0+1)=g*8/8 by simp] at a3
  have a3':frP WA M root 2 (g*8/8)=some f:=a3
  rw [frP2,e1,e2] at a3'
  unfold hugB
  cases hx:frP WA M root 1 (g/8) with
  | none=>rfl
  | some f1 =>
   rw [hx] at a3'
   simp only [Option.bind_some] at a3'
   simp only
   rw [hugW_tab a3'];rfl
 ·rw [show g*8/8^(1+1)=g*8/64 by simp,e1] at a3
  have a3':frP WA M root 1 (g/8)=some f:=a3
  rw [dgt1,e2] at a4
  unfold hugB
  rw [a3']
  simp only
  rw [← a4];simp
 ·have a3':frP WA M root 0 (g*8/8^(2+1))=some f:=a3
  simp only [frP,Option.some.injEq] at a3'
  subst a3'
  rw [dgt2 hp] at a4
  have:frP WA M root 1 (g/8)=none:=by rw [← e1,frP1 hp,← a4,a5]
  unfold hugB
  rw [this];rfl
end
end Go.AM
namespace Go.AM
open Go Go.Proofs
section
variable {M M':Mm} {root:Int} {p p':Nat}
theorem cell_up {l:Nat} (h:p'/8^l=p/8^l):p'/8^(l+1)=p/8^(l+1)∧dgt p' l=dgt p l:=by
 refine ⟨?_,by unfold dgt;rw [h]⟩
 rw [Nat.pow_succ,← Nat.div_div_eq_div_mul,← Nat.div_div_eq_div_mul,h]
theorem wlk_cell (hV:VM WA M root) (hp:p<512) {f:Int} {l w:Nat} (hw:wlk M root p=(f,l,w)) (hp':p'<512) (he:p'/8^l=p/8^l):wlk M root p'=(f,l,w):=by
 obtain ⟨a1,a2,a3,a4,a5,a6⟩:=wlk_at hV hp hw
 obtain ⟨c1,c2⟩:=cell_up he
 have:=wlk_of (M:=M) (root:=root) hp' a1 (f:=f) (by rw [c1];exact a3) (.inl (by rw [c2,← a4];exact a5))
 rw [this,c2,← a4]
end
theorem hugM_congr {M M':Mm} {root:Int} (h:∀ k,k<64→hugB M' root k=hugB M root k):hugM M' root=hugM M root:=by
 unfold hugM
 congr 1
 exact List.filter_congr fun k hk=>h k (List.mem_range.1 hk)
end Go.AM
namespace Go.AM
open Go Go.Proofs
theorem or_16 {w:Nat}:w ||| 16=w+16*(1 - w/16%2):=by
 have key:∀ s:Fin 32,∀ j:Fin 5,(s.1+16*(1 - s.1/16%2)).testBit j.1=(s.1.testBit j.1||(16:Nat).testBit j.1):=by decide
 obtain ⟨q,s,hs,rfl⟩:∃ q s,s<32∧w=2^5*q+s:=⟨w/32,w%32,Nat.mod_lt _ (by omega),by omega⟩
 have e1:(2^5*q+s)/16%2=s/16%2:=by omega
 have e2:2^5*q+s+16*(1 - s/16%2)=2^5*q+(s+16*(1 - s/16%2)):=by omega
 rw [e1,e2]
 refine Nat.eq_of_testBit_eq fun j=>?_
 rw [Nat.testBit_or,show (16:Nat)=2^5*0+16 by omega,Nat.testBit_two_pow_mul_add _ (by omega:16<2^5),Nat.testBit_two_pow_mul_add _ (by omega:s<2^5),← show (16:Nat)=2^5*0+16 by omega,Nat.testBit_two_pow_mul_add _ (by omega:s+16*(1 - s/16%2)<2^5)]
 by_cases hj:j<5
 ·simp only [hj,if_true]
  rw [key ⟨s,hs⟩ ⟨j,hj⟩]
 ·simp [hj]
theorem or_32 {w:Nat}:w ||| 32=w+32*(1 - w/32%2):=by
 have key:∀ s:Fin 64,∀ j:Fin 6,(s.1+32*(1 - s.1/32%2)).testBit j.1=(s.1.testBit j.1||(32:Nat).testBit j.1):=by decide
 obtain ⟨q,s,hs,rfl⟩:∃ q s,s<64∧w=2^6*q+s:=⟨w/64,w%64,Nat.mod_lt _ (by omega),by omega⟩
 have e1:(2^6*q+s)/32%2=s/32%2:=by omega
 have e2:2^6*q+s+32*(1 - s/32%2)=2^6*q+(s+32*(1 - s/32%2)):=by omega
 rw [e1,e2]
 refine Nat.eq_of_testBit_eq fun j=>?_
 rw [Nat.testBit_or,show (32:Nat)=2^6*0+32 by omega,Nat.testBit_two_pow_mul_add _ (by omega:32<2^6),Nat.testBit_two_pow_mul_add _ (by omega:s<2^6),← show (32:Nat)=2^6*0+32 by omega,Nat.testBit_two_pow_mul_add _ (by omega:s+32*(1 - s/32%2)<2^6)]
 by_cases hj:j<6
 ·simp only [hj,if_true]
  rw [key ⟨s,hs⟩ ⟨j,hj⟩]
 ·simp [hj]
theorem mark_ok {w:Nat} {wr:Bool} {f:Int} {d a x h:Bool} (hd:decR w=((1,f,d,a,x,h),0)) (hp:wr=true→d=true) :
  (mkW w wr).2=0∧(mkW w wr).1<2^64∧decR (mkW w wr).1=((1,f,d,true,x||wr,h),0):=by
 obtain ⟨h1,h2,h3,h4⟩:=decR_ok (w:=w) (by rw [hd])
 have hr:=decR_rng w
 rw [hd] at h1 h2 h3 h4 hr
 simp only at h1 h2 h3 h4 hr
 have hb:¬ badF (1,f,d,true,x||wr,h):=h2
 have hm:frmE (1,f,d,true,x||wr,h)=true:=rfl
 obtain ⟨n,n1,n2,n3⟩:=decR_enc h1 hr hb hm
 rw [encR_z h1 h2 h3] at h4
 rw [encR_z h1 hb hm] at n1
 have e4:=(Prod.mk.inj h4).1
 have e1:=(Prod.mk.inj n1).1
 have key:mkW w wr=(n,0):=by
  unfold mkW
  rw [hd]
  simp only [ne_eq,not_true_eq_false,if_false]
  unfold encW fb at e4 e1
  simp only at e4 e1
  cases wr with
  | false =>
   simp only [if_true,Bool.or_false] at e1 ⊢
   rw [or_16]
   congr 1
   cases d<;>cases a<;>cases x<;>cases h<;>simp at e4 e1<;>omega
  | true =>
   obtain rfl:=hp rfl
   simp only [Bool.or_true,if_true] at e1 ⊢
   rw [if_neg (by decide),if_neg (by decide),or_16,or_32]
   congr 1
   cases a<;>cases x<;>cases h<;>simp at e4 e1<;>omega
 rw [key]
 exact ⟨rfl,n2,n3⟩
def keyW (w:Nat):Int×Int×Int×Bool×Bool:=((decR w).2,(decR w).1.1,(decR w).1.2.1,(decR w).1.2.2.1,(decR w).1.2.2.2.2.2)
theorem key_all {a b:Nat} (h:keyW a=keyW b):(decR a).2=(decR b).2∧(decR a).1.1=(decR b).1.1∧(decR a).1.2.1=(decR b).1.2.1∧(decR a).1.2.2.1=(decR b).1.2.2.1∧(decR a).1.2.2.2.2.2=(decR b).1.2.2.2.2.2:=by
 unfold keyW at h
 simp only [Prod.mk.injEq] at h
 exact h
theorem rf_key {a b:Nat} (h:keyW a=keyW b) (wr:Bool):rfE (decR a).1 wr=rfE (decR b).1 wr:=by
 obtain ⟨h1,h2,h3,h4,h5⟩:=key_all h
 unfold rfE;rw [h2,h4]
theorem fr_key {a b:Nat} (h:keyW a=keyW b) (p:Int):frmG (decR a).1 p=frmG (decR b).1 p:=by
 obtain ⟨h1,h2,h3,h4,h5⟩:=key_all h
 unfold frmG;rw [h3,h5]
theorem ok_key {a b l:Nat} (h:keyW a=keyW b):okWb l a=okWb l b:=by
 obtain ⟨h1,h2,h3,h4,h5⟩:=key_all h
 unfold okWb suitB;rw [h1,h2,h5]
theorem tab_key {a b:Nat} (h:keyW a=keyW b):tabW a=tabW b:=by
 obtain ⟨h1,h2,h3,h4,h5⟩:=key_all h
 unfold tabW;rw [h2,h3]
theorem hug_key {a b:Nat} (h:keyW a=keyW b):hugW a=hugW b:=by
 obtain ⟨h1,h2,h3,h4,h5⟩:=key_all h
 unfold hugW;rw [h2,h5]
theorem mark_key {w:Nat} {wr:Bool} (h0:(decR w).2=0) (h1:(decR w).1.1=1) (hp:wr=true→(decR w).1.2.2.1=true):keyW (mkW w wr).1=keyW w∧(mkW w wr).1<2^64∧(decR (mkW w wr).1).1.2.2.2.1=true∧(wr=true→(decR (mkW w wr).1).1.2.2.2.2.1=true):=by
 obtain ⟨⟨⟨k,f,d,a,x,h⟩,e⟩,hx⟩:∃ y,y=decR w:=⟨_,rfl⟩
 rw [← hx] at h0 h1 hp
 simp only at h0 h1 hp
 subst h0 h1
 obtain ⟨q1,q2,q3⟩:=mark_ok (wr:=wr) hx.symm hp
 refine ⟨?_,q2,by rw [q3],fun hw=>by rw [q3,hw];simp⟩
 unfold keyW
 rw [q3,← hx]
theorem vt_rep {r:Int} {ns:NdL} {ds:List Dp} (hv:Vt (r,ns,ds)) (ht:tbOK (r,ns,ds)) {p:Nat} (hp:p<512) {f:Int} {l w0 w:Nat} (hw:wlk (Mof ns) r p=(f,l,w0)) (hhq:hugW w=hugW w0) (hw64:w<2^64) (htb:tabW w=none) (hok:okWb l w=true) :
  Vt (r,(putT (r,ns,ds) p w).2.1,ds)∧tbOK (r,(putT (r,ns,ds) p w).2.1,ds)∧wlk (Mof (putT (r,ns,ds) p w).2.1) r p=(f,l,w) ∧
  ∀ p',p'<512→p'/8^l≠p/8^l→wlk (Mof (putT (r,ns,ds) p w).2.1) r p'=wlk (Mof ns) r p':=by
 obtain ⟨c1,c2,c3,c4,c5⟩:=hv.pv.put ht hp hw hw64 htb hok
 have c6:=wlk_put_self hv.vm hp hw htb c3 c4
 have hnl:=(lsT_lt hv.pv hp).1
 have hfr:∀ n∈(putT (r,ns,ds) p w).2.1,∃ m∈ns,m.1=n.1:=fun n hn=>by
  rcases List.mem_or_eq_of_mem_set hn with h1|h1
  ·exact ⟨n,h1,rfl⟩
  ·exact ⟨_,gn_mem hnl,by rw [h1];rfl⟩
 obtain ⟨N,hN⟩:∃ N,N=(putT (r,ns,ds) p w).2.1:=⟨_,rfl⟩
 rw [← hN] at c1 c2 c3 c4 c5 c6 hfr ⊢
 have hne:=fun p' (hp':p'<512) (h:p'/8^l≠p/8^l)=>wlk_put_ne hv.vm hp hw c3 hp' h
 refine ⟨⟨⟨fun n hn'=>?_,hv.num.df,c1.asc,hv.num.dasc,fun d hd' n hn'=>?_,hv.num.once,?_⟩,c1.vm,?_⟩,c2,c6,hne⟩
 ·obtain ⟨m,hm,e⟩:=hfr n hn'
  rw [← e];exact hv.num.fr m hm
 ·obtain ⟨m,hm,e⟩:=hfr n hn'
  rw [← e];exact hv.num.apart d hd' m hm
 ·obtain ⟨ws,m1,_⟩:=c1.vm.nd 0 0 Pos0 r rfl
  exact ⟨(r,ws),(mem_Mof c1.asc).2 m1,rfl⟩
 ·have hdp:=hv.dep
  simp only at hdp ⊢
  rw [hdp]
  refine (hugM_congr fun k hk=>?_).symm
  have hk8:k*8<512:=by omega
  by_cases h:k*8/8^l=p/8^l
  ·rw [hugB_wlk c1.vm hk (wlk_cell c1.vm hp c6 hk8 h),hugB_wlk hv.vm hk (wlk_cell hv.vm hp hw hk8 h),hhq]
  ·obtain ⟨f',l',w',hwk⟩:∃ f l w,wlk (Mof ns) r (k*8)=(f,l,w):=⟨_,_,_,rfl⟩
   rw [hugB_wlk c1.vm hk ((hne _ hk8 h).trans hwk),hugB_wlk hv.vm hk hwk]
theorem ls_ok {t:Tb} (ht:tbOK t) (h0:chk t=0) {p:Nat} (hp:p<512):(lsT t p).2.1≤2∧tabW (lsT t p).2.2=none∧okWb (lsT t p).2.1 (lsT t p).2.2=true:=by
 have hv:=(chk_iff ht).1 h0
 obtain ⟨r,ns,ds⟩:=t
 have h2:=(hv.pv.walk hp).2.2
 simp only at h2
 obtain ⟨f,l,w,hw⟩:∃ f l w,wlk (Mof ns) r p=(f,l,w):=⟨_,_,_,rfl⟩
 obtain ⟨a1,a2,a3,a4,a5,a6⟩:=wlk_at hv.vm hp hw
 rw [hw] at h2
 rw [h2]
 exact ⟨a1,a5,a6⟩
theorem ls_cell {t:Tb} (ht:tbOK t) (h0:chk t=0) {p q:Nat} (hp:p<512) (hq:q<512) (he:q/8^(lsT t p).2.1=p/8^(lsT t p).2.1):(lsT t q).2=(lsT t p).2:=by
 have hv:=(chk_iff ht).1 h0
 obtain ⟨r,ns,ds⟩:=t
 have h2:=(hv.pv.walk hp).2.2
 have h3:=(hv.pv.walk hq).2.2
 simp only at h2 h3
 obtain ⟨f,l,w,hw⟩:∃ f l w,wlk (Mof ns) r p=(f,l,w):=⟨_,_,_,rfl⟩
 rw [hw] at h2
 rw [h2] at he
 rw [wlk_cell hv.vm hp hw hq he] at h3
 rw [h2,h3]
theorem kind_ne0 {w:Nat} (h:(decR w).1.1=1):w≠0:=by
 rintro rfl
 rw [decR_0] at h
 exact absurd h (by decide)
theorem rep_ok {t:Tb} (ht:tbOK t) (h0:chk t=0) {p:Nat} (hp:p<512) {w:Nat} (hw:w<2^64) (hk:keyW w=keyW (lsT t p).2.2) (h1:(decR (lsT t p).2.2).1.1=1) :
  (repP t p w).1=putT t p w∧chk (putT t p w)=0∧tbOK (putT t p w)∧∀ q,q<512→(q/8^(lsT t p).2.1=p/8^(lsT t p).2.1→(lsT (putT t p w) q).2=((lsT t p).2.1,w))∧(q/8^(lsT t p).2.1≠p/8^(lsT t p).2.1→(lsT (putT t p w) q).2=(lsT t q).2):=by
 obtain ⟨o1,o2,o3⟩:=ls_ok ht h0 hp
 have hv:=(chk_iff ht).1 h0
 have ek:=key_all hk
 have er:(repP t p w).1=putT t p w:=by
  unfold repP
  rw [if_neg (by rw [ckd_z h0 (by omega) (by omega)];decide),Int.toNat_natCast,if_neg (kind_ne0 h1),if_neg]
  have h5:=(ok_key (l:=(lsT t p).2.1) hk).trans o3
  unfold okWb at h5
  simp only [Bool.and_eq_true,decide_eq_true_eq] at h5
  rintro (h|h|h|h)
  ·exact h h5.1
  ·rw [ek.2.1,h1] at h;exact absurd h (by decide)
  ·rw [ek.2.1,h1] at h;exact absurd h (by decide)
  ·rw [h5.2] at h;cases h
 obtain ⟨r,ns,ds⟩:=t
 have h2:=(hv.pv.walk hp).2.2
 simp only at h2
 obtain ⟨f,l,w0,hwk⟩:∃ f l w,wlk (Mof ns) r p=(f,l,w):=⟨_,_,_,rfl⟩
 rw [hwk] at h2
 rw [h2] at hk o2 o3
 obtain ⟨v1,v2,v3,v4⟩:=vt_rep hv ht hp hwk (hug_key hk) hw ((tab_key hk).trans o2) ((ok_key hk).trans o3)
 refine ⟨er,(chk_iff v2).2 v1,v2,fun q hq=>?_⟩
 rw [h2]
 have hq2:=(v1.pv.walk hq).2.2
 have hq3:=(hv.pv.walk hq).2.2
 simp only at hq2 hq3
 refine ⟨fun he=>?_,fun hne=>?_⟩
 ·rw [wlk_cell v1.vm hp v3 hq he] at hq2
  exact hq2
 ·rw [v4 q hq hne,← hq3] at hq2
  exact hq2
theorem chB_pw {b:Tl}:chB b=0↔1≤b.1∧b.1≤16∧(b.2.length:Int)≤b.1∧(∀ x∈b.2,efE x=0)∧b.2.Pairwise fun x y=>ovB x y=false:=by
 rw [chB_z]
 constructor
 ·rintro ⟨h1,h2,h3,h4⟩
  refine ⟨h1,h2,h3,fun x hx=>?_,List.pairwise_iff_getElem.2 fun i j hi hj hij=>?_⟩
  ·obtain ⟨i,hi,rfl⟩:=List.mem_iff_getElem.1 hx
   rw [← gt_eq hi]
   exact (erE_z (h4 i hi)).1
  ·have:=(erE_z (h4 j hj)).2 (gt b.2 i) (by rw [gt_eq hi];exact List.mem_take_iff_getElem.2 ⟨i,by omega,rfl⟩)
   rw [gt_eq hi,gt_eq hj,ovB_comm] at this
   exact this
 ·rintro ⟨h1,h2,h3,h4,h5⟩
  refine ⟨h1,h2,h3,fun i hi=>?_⟩
  refine erE_0 (h4 _ (gt_mem hi)) ?_
  rw [List.any_eq_false]
  intro y hy
  obtain ⟨j,hj,rfl⟩:=List.mem_take_iff_getElem.1 hy
  have:=List.pairwise_iff_getElem.1 h5 j i (by omega) hi (by omega)
  rw [gt_eq hi,ovB_comm,this];simp
theorem chB_sub {z:Int} {l l':List Te} (h:chB (z,l)=0) (hs:l'.Sublist l):chB (z,l')=0:=by
 rw [chB_pw] at h ⊢
 obtain ⟨h1,h2,h3,h4,h5⟩:=h
 have:=hs.length_le
 exact ⟨h1,h2,by simp only at h3 ⊢;omega,fun x hx=>h4 x (hs.subset hx),h5.sublist hs⟩
theorem chB_fill {b:Tl} {x:Te} (h:chB b=0) (hx:efE x=0):chB (b.1,fiL b x)=0:=by
 have h':=chB_pw.1 h
 obtain ⟨h1,h2,h3,h4,h5⟩:=h'
 have hls:∀ l':List Te,l'.Sublist b.2→(l'.length:Int)<b.1→(∀ y∈l',ovB x y=false)→chB (b.1,l'++[x])=0:=fun l' hs hl hno=>by
  have hc:=chB_pw.1 (chB_sub (z:=b.1) h hs)
  rw [chB_pw]
  refine ⟨h1,h2,by simp only [List.length_append,List.length_cons,List.length_nil];omega,fun y hy=>?_,?_⟩
  ·rcases List.mem_append.1 hy with hy|hy
   ·exact hc.2.2.2.1 y hy
   ·simp at hy;rw [hy];exact hx
  ·refine List.pairwise_append.2 ⟨hc.2.2.2.2,List.pairwise_singleton _ _,fun y hy y' hy'=>?_⟩
   simp at hy'
   subst hy'
   rw [ovB_comm]
   exact hno y hy
 have hfl:((b.2.filter fun y=>!ovB x y).length:Int)≤b.1:=by
  have:=(List.filter_sublist (p:=fun y=>!ovB x y) (l:=b.2)).length_le
  omega
 unfold fiL
 split
 ·rename_i he
  refine hls _ ((List.drop_sublist _ _).trans List.filter_sublist) (by simp only [List.length_drop];omega) fun y hy=>?_
  have:=(List.mem_filter.1 (List.mem_of_mem_drop hy)).2
  simpa using this
 ·rename_i he
  refine hls _ List.filter_sublist (by omega) fun y hy=>?_
  have:=(List.mem_filter.1 hy).2
  simpa using this
theorem fi_mem {b:Tl} {x y:Te} (h:y∈fiL b x):y∈b.2∨y=x:=by
 unfold fiL at h
 rcases List.mem_append.1 h with h|h
 ·left
  split at h
  ·exact (List.mem_filter.1 (List.mem_of_mem_drop h)).1
  ·exact (List.mem_filter.1 h).1
 ·right;simpa using h
theorem lk_cases {b:Tl} (h:chB b=0) (s p:Int):(∃ x∈b.2,cvB x s p=true∧lkT b s p=(x.2.2,true))∨(lkT b s p=(0,false)∧∀ x∈b.2,cvB x s p=false):=by
 unfold lkT
 rw [if_neg (by simp [h])]
 cases hf:b.2.find? fun x=>cvB x s p with
 | none =>
  right
  refine ⟨rfl,fun x hx=>?_⟩
  have:=List.find?_eq_none.1 hf x hx
  simpa using this
 | some x =>
  left
  exact ⟨x,List.mem_of_find?_eq_some hf,by have:=List.find?_some hf;simpa using this,rfl⟩
theorem fiX_ok {s:Int} {p w:Nat} (hs:0≤s∧s<8) (hp:p<512) (h0:trB w=true):efE (fiX s p w)=0∧cvB (fiX s p w) s p=true:=by
 unfold efE fiX cvB plcB spn
 simp only
 cases hg:hgB w with
 | true =>
  simp only [if_true]
  refine ⟨?_,decide_eq_true ⟨trivial,by omega,by omega⟩⟩
  rw [if_neg (by simp;omega),if_neg]
  rintro (h|⟨_,h⟩)
  ·rw [h0] at h;cases h
  ·omega
 | false =>
  simp only [Bool.false_eq_true,if_false]
  refine ⟨?_,decide_eq_true ⟨trivial,by omega,by omega⟩⟩
  rw [if_neg (by simp;omega),if_neg]
  rintro (h|⟨h,_⟩)
  ·rw [h0] at h;cases h
  ·cases h
end Go.AM
namespace Go.AM
open Go Go.Proofs
structure Iv (t0:Tb) (s:Int) (u:Tb) (b:Tl):Prop where
 ok:tbOK u
 c:chk u=0
 bk:tlOK b
 bc:chB b=0
 key:∀ p:Nat,p<512→keyW (lsT u p).2.2=keyW (lsT t0 p).2.2
 ent:∀ x∈b.2,∀ p:Nat,p<512→cvB x s p=true→keyW x.2.2=keyW (lsT t0 p).2.2
theorem walk_nat {t:Tb} (h:chk t=0) {p:Nat} (hp:p<512):walkT t p=((lsT t p).2.2,(lsT t p).2.1,0):=by
 rw [walkT_z (ckd_z h (by omega) (by omega)),Int.toNat_natCast]
theorem lo_nat {t:Tb} (h:chk t=0) {p:Nat} (hp:p<512) (wr:Bool):loT t p wr=if rfE (decR (lsT t p).2.2).1 wr≠0 then (0,rfE (decR (lsT t p).2.2).1 wr) else (frmG (decR (lsT t p).2.2).1 p,0):=by
 unfold loT
 rw [walk_nat h hp,if_neg (by simp)]
theorem rf_hit {w:Nat} {wr:Bool} (h:trB w=true) (h2:wr=false∨(decR w).1.2.2.1=true):rfE (decR w).1 wr=0:=by
 unfold trB at h
 have h:=of_decide_eq_true h
 unfold rfE
 rw [if_neg (by simp [h.2]),if_neg]
 rintro ⟨rfl,h3⟩
 rcases h2 with h2|h2
 ·cases h2
 ·rw [h3] at h2;cases h2
theorem tlOK_of {b:Tl} (h:chB b=0) (hw:∀ x∈b.2,x.2.2<2^64):tlOK b:=by
 have:=chB_z.1 h
 exact ⟨by omega,hw⟩
theorem ac_miss {u:Tb} {b:Tl} {s:Int} {p:Nat} {wr:Bool} (hu:tbOK u) (hc:chk u=0) (hb:tlOK b) (hbc:chB b=0) (hs:0≤s∧s<8) (hp:p<512)
  (hm:¬ ((lkT b s p).2=true∧(wr=false∨((decR (lkT b s p).1).1.2.2.1=true∧(decR (lkT b s p).1).1.2.2.2.2.1=true)))) (hr:rfE (decR (lsT u p).2.2).1 wr=0) :
  ∃ w,w<2^64∧keyW w=keyW (lsT u p).2.2∧(decR (lsT u p).2.2).1.1=1∧(decR w).1.2.2.2.1=true∧(wr=true→(decR w).1.2.2.1=true∧(decR w).1.2.2.2.2.1=true)∧trB w=true ∧
   acT u b s p wr=(putT u p w,(b.1,fiL b (fiX s p w)),frmG (decR (lsT u p).2.2).1 p,0):=by
 obtain ⟨o1,o2,o3⟩:=ls_ok hu hc hp
 have hpl:plcB s p=true:=by unfold plcB;exact decide_eq_true ⟨hs.1,hs.2,by omega,by omega⟩
 have hk1:(decR (lsT u p).2.2).1.1=1:=by
  unfold rfE at hr
  split at hr
  ·exact absurd hr (by decide)
  ·rename_i h;exact Decidable.not_not.1 h
 have hW:wr=true→(decR (lsT u p).2.2).1.2.2.1=true:=fun h=>by
  unfold rfE at hr
  rw [if_neg (by simp [hk1])] at hr
  split at hr
  ·exact absurd hr (by decide)
  ·rename_i h2
   cases hx:(decR (lsT u p).2.2).1.2.2.1 with
   | true=>rfl
   | false=>exact absurd ⟨h,hx⟩ h2
 have h0:(decR (lsT u p).2.2).2=0:=by
  unfold okWb at o3
  simp only [Bool.and_eq_true,decide_eq_true_eq] at o3
  exact o3.1
 obtain ⟨m1,m2,m3,m4⟩:=mark_key (wr:=wr) h0 hk1 hW
 have mk:=key_all m1
 have htr:trB (mkW (lsT u p).2.2 wr).1=true:=by
  unfold trB
  exact decide_eq_true ⟨mk.1.trans h0,mk.2.1.trans hk1⟩
 obtain ⟨r1,r2,r3,r4⟩:=rep_ok hu hc hp m2 m1 hk1
 refine ⟨_,m2,m1,hk1,m3,fun h=>⟨mk.2.2.2.1.trans (hW h),m4 h⟩,htr,?_⟩
 unfold acT
 rw [if_neg (by simp [hc]),if_neg (by simp [hbc]),if_neg (by simp [hpl]),if_neg hm]
 unfold acM
 rw [walk_nat hc hp]
 simp only
 rw [if_neg (by simp [hr]),r1]
 unfold fiT
 rw [if_neg (by simp [hbc]),if_neg (by simp [hpl]),if_neg (by simp [htr])]
theorem iv_step {t0:Tb} {s:Int} {u:Tb} {b:Tl} (I:Iv t0 s u b) (h0:chk t0=0) (hs:0≤s∧s<8) {p:Nat} (hp:p<512) (wr:Bool) :
  ((acT u b s p wr).2.2.1,(acT u b s p wr).2.2.2)=loT t0 p wr∧Iv t0 s (acT u b s p wr).1 (acT u b s p wr).2.1:=by
 have hpl:plcB s p=true:=by unfold plcB;exact decide_eq_true ⟨hs.1,hs.2,by omega,by omega⟩
 rw [lo_nat h0 hp]
 have hkp:=I.key p hp
 rw [← rf_key hkp,← fr_key hkp]
 by_cases hm:(lkT b s p).2=true∧(wr=false∨((decR (lkT b s p).1).1.2.2.1=true∧(decR (lkT b s p).1).1.2.2.2.2.1=true))
 ·have ea:acT u b s p wr=(u,b,frmG (decR (lkT b s p).1).1 p,0):=by
   unfold acT
   rw [if_neg (by simp [I.c]),if_neg (by simp [I.bc]),if_neg (by simp [hpl]),if_pos hm]
  rw [ea]
  rcases lk_cases I.bc s p with ⟨x,hx,hcv,e⟩|⟨e,_⟩
  ·rw [e] at hm ⊢
   simp only at hm ⊢
   have hkx:=(I.ent x hx p hp hcv).trans hkp.symm
   have hex:=(chB_pw.1 I.bc).2.2.2.1 x hx
   have htr:=(efE_z hex).2.1
   rw [← rf_key hkx,← fr_key hkx,rf_hit htr (hm.2.imp id fun h=>h.1),if_neg (by simp)]
   exact ⟨rfl,I⟩
  ·rw [e] at hm
   exact absurd hm.1 (by decide)
 ·by_cases hr:rfE (decR (lsT u p).2.2).1 wr=0
  ·rw [if_neg (by simp [hr])]
   obtain ⟨w,w1,w2,w3,w4,w5,w6,ea⟩:=ac_miss I.ok I.c I.bk I.bc hs hp hm hr
   rw [ea]
   refine ⟨rfl,?_⟩
   obtain ⟨r1,r2,r3,r4⟩:=rep_ok I.ok I.c hp w1 w2 w3
   obtain ⟨x1,x2⟩:=fiX_ok (s:=s) (w:=w) hs hp w6
   have hcf:=chB_fill I.bc x1
   obtain ⟨o1,o2,o3⟩:=ls_ok I.ok I.c hp
   have hlev:hgB w=true→(lsT u p).2.1=1:=fun hg=>by
    have o3':=(ok_key (l:=(lsT u p).2.1) w2).trans o3
    have wk:=(key_all w2).2.1.trans w3
    unfold okWb suitB at o3'
    unfold hgB at hg
    simp only [Bool.and_eq_true,decide_eq_true_eq] at o3' hg
    rw [wk,hg.2] at o3'
    rcases (by omega:(lsT u p).2.1=0∨(lsT u p).2.1=1∨(lsT u p).2.1=2) with h|h|h
    ·rw [h] at o3';simp at o3'
    ·exact h
    ·rw [h] at o3';simp at o3'
   refine ⟨r3,r2,tlOK_of hcf fun x hx=>?_,hcf,fun q hq=>?_,fun x hx q hq hcv=>?_⟩
   ·rcases fi_mem hx with hx|rfl
    ·exact I.bk.2 x hx
    ·exact w1
   ·obtain ⟨k1,k2⟩:=r4 q hq
    by_cases he:q/8^(lsT u p).2.1=p/8^(lsT u p).2.1
    ·rw [k1 he,← I.key q hq,ls_cell I.ok I.c hp hq he]
     exact w2
    ·rw [k2 he]
     exact I.key q hq
   ·rcases fi_mem hx with hx|rfl
    ·exact I.ent x hx q hq hcv
    ·show keyW w=_
     rw [w2,← I.key q hq]
     unfold cvB fiX spn at hcv
     cases hg:hgB w with
     | true =>
      have hl:=hlev hg
      simp only [hg,if_true,decide_eq_true_eq] at hcv
      rw [ls_cell I.ok I.c hp hq (by rw [hl];simp;omega)]
     | false =>
      simp only [hg,Bool.false_eq_true,if_false,decide_eq_true_eq] at hcv
      obtain rfl:q=p:=by omega
      rfl
  ·rw [if_pos hr]
   have ea:acT u b s p wr=(u,(b.1,b.2.filter fun y=>!cvB y s p),0,rfE (decR (lsT u p).2.2).1 wr):=by
    unfold acT
    rw [if_neg (by simp [I.c]),if_neg (by simp [I.bc]),if_neg (by simp [hpl]),if_neg hm]
    unfold acM
    rw [walk_nat I.c hp]
    simp only
    rw [if_pos hr]
    unfold inT
    rw [if_neg (by simp [I.bc]),if_neg (by simp [hpl])]
   rw [ea]
   have hcs:chB (b.1,b.2.filter fun y=>!cvB y s p)=0:=chB_sub I.bc List.filter_sublist
   refine ⟨rfl,I.ok,I.c,tlOK_of hcs fun x hx=>I.bk.2 x (List.mem_filter.1 hx).1,hcs,I.key,fun x hx q hq hcv=>I.ent x (List.mem_filter.1 hx).1 q hq hcv⟩
def b1:Tl:=(1,[])
end Go.AM
namespace Go.AM
open Go Go.Proofs
set_option maxRecDepth 4000
@[simp] theorem tyTry:Types Try.prog 44=some ⟨.struct [(0,3,1),(1,3,1),(2,4,1)],3,24,[.int .i64 0,.int .i64 0,.bool false]⟩:=by kernel_rfl
end Go.AM
namespace Go.AM
open Go Go.Proofs
set_option maxRecDepth 4000
theorem le_nilcellrd {n:Nat} {s:List (Nat×AV)} {m:List (Nat×AO)} {nx b i sz:Nat} {cs:List AV} (hb:getM m b=.box cs) (hi:cs[i]?=some (.v (.slice none 0 0))) :
  Le n ⟨s,m,nx⟩ ⟨s,(b,.box (cs.set i (.rd sz [])))::m,nx⟩:=fun N w0 bl a w _ ⟨E,hs,h1,h2⟩=>by
 refine ⟨E,⟨hs.defers,hs.size,hs.inv,fun k hk=>?_,hs.slots⟩,h1,fun k hk=>?_⟩
 ·have:=hs.mem k hk
  simp only [getM]
  by_cases e:b=k
  ·subst e
   rw [if_pos rfl]
   rw [hb] at this
   simp only [ObjRep] at this ⊢
   obtain ⟨g1,blk,t,vs,g2,g3,g4,g5⟩:=this
   obtain ⟨x,q1,q2⟩:=g5.get hi
   simp only [Rep,CRep] at q2
   refine ⟨g1,blk,t,vs,g2,g3,g4,g5.set' q1 ?_⟩
   rw [q2]
   simp only [Rep]
   exact ⟨none,0,rfl,Nat.le_refl _,fun _=>rfl,.inl rfl⟩
  ·rw [if_neg e]
   exact this
 ·simp only [getM] at hk
  split at hk
  ·rename_i e
   subst e
   exact h2 b (by rw [hb];simp)
  ·exact h2 k hk
noncomputable def AcD:List AV→Option AV:=specF (ι:={x:Tb×Tl×Int×Int×Bool // tbOK x.1∧tlOK x.2.1}) (fun x=>[TbV x.1.1,TlV x.1.2.1,I x.1.2.2.1,I x.1.2.2.2.1,B x.1.2.2.2.2]) fun x=>retOf [TbV (acT x.1.1 x.1.2.1 x.1.2.2.1 x.1.2.2.2.1 x.1.2.2.2.2).1,TlV (acT x.1.1 x.1.2.1 x.1.2.2.1 x.1.2.2.2.1 x.1.2.2.2.2).2.1,I (acT x.1.1 x.1.2.1 x.1.2.2.1 x.1.2.2.2.1 x.1.2.2.2.2).2.2.1,I (acT x.1.1 x.1.2.1 x.1.2.2.1 x.1.2.2.2.1 x.1.2.2.2.2).2.2.2]
theorem AcD_at {t:Tb} {b:Tl} {s p:Int} {wr:Bool} (h1:tbOK t) (h2:tlOK b):AcD [TbV t,TlV b,I s,I p,B wr]=some (retOf [TbV (acT t b s p wr).1,TlV (acT t b s p wr).2.1,I (acT t b s p wr).2.2.1,I (acT t b s p wr).2.2.2]):=by
 refine specF_eq (ι:={x:Tb×Tl×Int×Int×Bool // tbOK x.1∧tlOK x.2.1}) (A:=fun x=>[TbV x.1.1,TlV x.1.2.1,I x.1.2.2.1,I x.1.2.2.2.1,B x.1.2.2.2.2]) (R:=fun x=>retOf [TbV (acT x.1.1 x.1.2.1 x.1.2.2.1 x.1.2.2.2.1 x.1.2.2.2.2).1,TlV (acT x.1.1 x.1.2.1 x.1.2.2.1 x.1.2.2.2.1 x.1.2.2.2.2).2.1,I (acT x.1.1 x.1.2.1 x.1.2.2.1 x.1.2.2.2.1 x.1.2.2.2.2).2.2.1,I (acT x.1.1 x.1.2.1 x.1.2.2.1 x.1.2.2.2.1 x.1.2.2.2.2).2.2.2]) ⟨(t,b,s,p,wr),h1,h2⟩ fun j e=>?_
 obtain ⟨⟨t',b',s',p',wr'⟩,h'⟩:=j
 simp only [List.cons.injEq,TbV_inj,TlV_inj,Iinj,Binj,and_true] at e
 obtain ⟨rfl,rfl,rfl,rfl,rfl⟩:=e;rfl
theorem acS:PSound Try.prog 23 AcD :=
 PSound.softF (s23 TmB tmB w0T ⟨fun t h M n=>cCh t h M n,fun b h M k=>cCt b h M k,fun b s p h M n=>cLk b s p h M n,fun n h M k=>cDe n h M k,fun t h M n=>cCoT t h M n,fun b h M n=>cCoB b h M n,fun e p h1 h2 h3 M n=>cFg e p h1 h2 h3 M n,fun t x h M n=>cWa t x h M n,fun e wr M n=>cRf e wr M n,fun b s p h M n=>cIn b s p h M n,fun w wr h M n=>cMk w wr h M n,fun t p w h hw M n=>cRe t p w h hw M n,fun b s p w h hw M n=>cFl b s p w h hw M n⟩) fun i=>by
  simp [RLe,retOf,SLeVs,SLeV,SLeL,SLe,TbO,TbV,TlO,TlV]
noncomputable def TmI:AX:=TmB.add 23 (callD AcD)
theorem tmI:XOK Try.prog TmI:=xok_add tmB (.inl ⟨PSound.callD acS,body_ok _ Try.func23 (by kernel_rfl)⟩) fun _ _ _ _ h b hb=>callD_keys h b hb
theorem kAcD {t:Tb} {b:Tl} {s p:Int} {wr:Bool} (h1:tbOK t) (h2:tlOK b) (M:Nat→AO) (n:Nat):callD AcD [TbV t,TlV b,I s,I p,B wr] M n=some (.tup [TbV (acT t b s p wr).1,TlV (acT t b s p wr).2.1,I (acT t b s p wr).2.2.1,I (acT t b s p wr).2.2.2],[]) :=
 callD_ok (AcD_at h1 h2) (by simp [AV.closedV,TbV,TlV]) (by simp [retOf,openRet,openVals,openVal,openLeaves,openLeaf,TbV,TlV])
abbrev Ty:=Int×Int×Bool
def yrow (y:Ty):List AV:=[I y.1,I y.2.1,B y.2.2]
def yrows (l:List Ty):List (List AV):=l.map yrow
@[simp] theorem yrows_length (l:List Ty):(yrows l).length=l.length:=by simp [yrows]
@[simp] theorem tyTrys:Types Try.prog 76=some ⟨.slice 44,1,24,[.slice none 0 0]⟩:=by kernel_rfl
def gy (l:List Ty) (i:Nat):Ty:=l.getD i (0,0,false)
theorem yrows_gi {l:List Ty} {i:Nat} (h:i<l.length):(yrows l)[i]?=some (yrow (gy l i)):=by
 unfold gy
 rw [List.getD_eq_getElem?_getD,List.getElem?_eq_getElem h]
 simp [yrows,List.getElem?_eq_getElem h]
theorem yrows_gE {l:List Ty} {i:Nat} (h:i<l.length):∀ h',(yrows l)[i]'(h')=yrow (gy l i):=fun h'=>by
 have:=yrows_gi h
 rw [List.getElem?_eq_getElem h'] at this
 exact Option.some.inj this
theorem rows_try:∀ {xs:List (List AV)},(∀ e∈xs,FitL [shI,shI,shB] e)→∃ l,xs=yrows l
 | [],_=>⟨[],rfl⟩
 | e::r,h=>by
  obtain ⟨l,rfl⟩:=rows_try (xs:=r) fun e' he=>h e' (by simp [he])
  obtain ⟨a,ar,rfl,ha,hr⟩:=fitL_cons (h e (by simp))
  obtain ⟨b,br,rfl,hb,hr2⟩:=fitL_cons hr
  obtain ⟨c,rfl,hc⟩:=fitL_one hr2
  obtain ⟨x,rfl,_⟩:=fit_int ha
  obtain ⟨y,rfl,_⟩:=fit_int hb
  obtain ⟨w,rfl⟩:=fit_bool hc
  exact ⟨(x,y,w)::l,rfl⟩
theorem arg_trys {a:AV} (h:FitArg Try.prog 76 a):∃ l,a=.rd 3 (yrows l):=by
 have:=arg_one (show shapeOf Try.prog 10 76=some [.sl [shI,shI,shB]] by kernel_rfl) (fun fs=>by simp [Try.underlying76]) (fun n e=>by simp [Try.underlying76]) h
 simp only [Fit] at this
 obtain ⟨xs,rfl,_,hx⟩:=this
 obtain ⟨l,rfl⟩:=rows_try hx
 exact ⟨l,rfl⟩
theorem tab_int_trys_F (avs:List AV) (h:FitArgs Try.prog [27,3,76] avs):specF (ι:={x:Tb×Int×List Ty // tbF x.1}) (fun x=>[TbV x.1.1,I x.1.2.1,.rd 3 (yrows x.1.2.2)]) (fun _=>retOf [B true]) avs=some (B true):=by
 match avs,h with
 | [a,b,c],h =>
  simp only [FitArgs] at h
  obtain ⟨t,rfl,ht⟩:=arg_tab h.1
  obtain ⟨x,rfl⟩:=arg_int h.2.1
  obtain ⟨y,rfl⟩:=arg_trys h.2.2.1
  exact specF_eq (A:=fun x:{x:Tb×Int×List Ty // tbF x.1}=>[TbV x.1.1,I x.1.2.1,.rd 3 (yrows x.1.2.2)]) (R:=fun _=>retOf [B true]) ⟨(t,x,y),ht⟩ fun _ _=>rfl
 | [],h=>simp [FitArgs] at h
 | [_],h=>simp [FitArgs] at h
 | [_,_],h=>simp [FitArgs] at h
 | _::_::_::_::_,h=>simp [FitArgs] at h
structure LawI (X:AX):Prop where
 ok:XOK Try.prog X
 w:X.W wT
 few:∀ (t:Tb) M n,X.call 19 [TbV t] M n=some (B (decide (t.2.1.length≤80∧t.2.2.length≤70)),[])
 aw:∀ M n,X.call 15 [] M n=some (B true,[])
 ch:∀ t:Tb,tbOK t→∀ M n,X.call 35 [TbV t] M n=some (I (chk t),[])
 lo:∀ (t:Tb) (p:Int) (wr:Bool),tbOK t→∀ M n,X.call 33 [TbV t,I p,B wr] M n=some (.tup [I (loT t p wr).1,I (loT t p wr).2],[])
 ac:∀ (t:Tb) (b:Tl) (s p:Int) (wr:Bool),tbOK t→tlOK b→∀ M n,X.call 23 [TbV t,TlV b,I s,I p,B wr] M n=some (.tup [TbV (acT t b s p wr).1,TlV (acT t b s p wr).2.1,I (acT t b s p wr).2.2.1,I (acT t b s p wr).2.2.2],[])
theorem lawI:LawI TmI:=⟨tmI,w0T,fun t M n=>cFew t M n,fun M n=>cAwM M n,fun t h M n=>cCh t h M n,fun t p wr h M n=>cLo t p wr h M n,fun t b s p wr h1 h2 M n=>kAcD h1 h2 M n⟩
set_option maxHeartbeats 16000000 in
theorem s10 (X:AX) (L:LawI X):PSound Try.prog 10 (specF (ι:={x:Tb×Int×List Ty // tbF x.1}) (fun x=>[TbV x.1.1,I x.1.2.1,.rd 3 (yrows x.1.2.2)]) fun _=>retOf [B true]):=by
 have hX:=L.ok
 have hw:=L.w
 refine psound_spec hX mixed Try.func10 rfl fun ⟨⟨⟨r,ns,ds⟩,size,l⟩,htf⟩ w0 G=>⟨by show 3≤89;decide,rfl,?_⟩
 show AW ⟨Try.prog,X,89,w0,.pure G⟩ _ _ _
 have hc:Cx.OK ⟨Try.prog,X,89,w0,.pure G⟩:=⟨hX,mixed⟩
 have few:=L.few (r,ns,ds)
 have aw:=L.aw
 simp only at few htf ⊢
 rcases Decidable.em (ns.length≤80∧ds.length≤70) with hf|hf
 ·rw [decide_eq_true hf] at few
  have ht:=tbF_ok htf hf
  have ch:=L.ch _ ht
  rcases Decidable.em (chk (r,ns,ds)=0) with h0|h0
  ·rw [h0] at ch
   rcases Decidable.em (size<1) with h1|h1
   ·simp only [TbV] at few ch ⊢
    have zS:=jj few<|jj aw<|jj ch<|h1
    refine dF64 ?_
    repeat (intro K hK)
    clear zS
    all_goals refine ⟨by simp,?_⟩
    all_goals simp [leaves_iff,Try.f10]
    all_goals try exact dt
   ·rcases Decidable.em (16<size) with h2|h2
    ·simp only [TbV] at few ch ⊢
     have zS:=jj few<|jj aw<|jj ch<|jj h1<|h2
     refine dF64 ?_
     repeat (intro K hK)
     clear zS
     all_goals refine ⟨by simp,?_⟩
     all_goals simp [leaves_iff,Try.f10]
     all_goals try exact dt
    ·rcases Decidable.em (40<l.length) with h3|h3
     ·have h3I:(40:Int)<(l.length:Int):=by omega
      simp only [TbV] at few ch ⊢
      have zS:=jj few<|jj aw<|jj ch<|jj h1<|jj h2<|jj h3<|h3I
      refine dF64 ?_
      repeat (intro K hK)
      clear zS
      all_goals refine ⟨by simp,?_⟩
      all_goals simp [leaves_iff,Try.f10]
      all_goals try exact dt
     ·have h3I:¬ (40:Int)<(l.length:Int):=by omega
      obtain ⟨t0,ht0⟩:∃ t0:Tb,t0=(r,ns,ds):=⟨_,rfl⟩
      have lo0:=fun p wr=>L.lo (r,ns,ds) p wr ht
      simp only [TbV] at few ch lo0 ⊢
      have zS:=jj few<|jj aw<|jj ch<|jj h1<|jj h2<|jj h3<|h3I
      repeat' (first|(apply aw_seq_k;intro K hK)|(refine eF64 ?_)|(refine aw_cond (b:=_) (by exact rfl) (fun h=>?_) (fun h=>?_)<;>(try simp at h))|(refine eB ?_)|(refine hK _ ?_;clear hK)|(clear hK;refine hK _ ?_;clear hK)|(clear hK;clear hK;refine hK _ ?_;clear hK)|(clear hK;clear hK;clear hK;refine hK _ ?_;clear hK))
      all_goals clear zS
      refine aw_weaken (le_nilcellrd (b:=432) (i:=1) (sz:=3) (cs:=[I size,.v (.slice none 0 0)]) (by simp) (by simp)) ?_
      have hI0:Iv (r,ns,ds) 3 (r,ns,ds) (size,[]):=by
       have hb0:chB (size,[])=0:=chB_pw.2 ⟨by simp only;omega,by simp only;omega,by simp only [List.length_nil];omega,by simp,List.Pairwise.nil⟩
       exact ⟨ht,h0,tlOK_of hb0 (by simp),hb0,fun _ _=>rfl,by simp⟩
      refine aw_loopK (s0:=?lps1) (m0:=?lpm1) (ι:={s:Nat×Tb×Tl // s.1≤l.length∧Iv (r,ns,ds) 3 s.2.1 s.2.2}) [3,7,8,42,43] (fun s=>[(44,I s.1.1)]) (fun s=>[(416,.box [I s.1.2.1.1,.rd 9 (nrows s.1.2.1.2.1),.rd 2 (prows s.1.2.1.2.2)]),(432,.box [I s.1.2.2.1,.rd 3 (trows s.1.2.2.2)])]) (fun s=>l.length - s.1.1) ⟨(0,(r,ns,ds),size,[]),by simp,hI0⟩ ?lhs1 ?lhm1 ?_ ?_
      case lhs1=>first|(simp [keepS];done)|(simp [keepS];rfl)
      case lhm1=>first|rfl|(simp;done)|(simp;rfl)
      ·exact le_of2 (by simp) (by simp [AVle,AV.under,AV.underL,trows]<;>omega) (by simp [AOle,AO.under,AV.underL,AV.under,trows]<;>omega)
      ·rintro ⟨⟨i,u,b⟩,hi,hI⟩
       simp only at hi hI ⊢
       rcases Decidable.em (i<l.length) with hil|hil
       ·have hilI:(i:Int)<(l.length:Int):=by omega
        have hg:=yrows_gi hil
        have hgE:=yrows_gE hil
        obtain ⟨⟨s',p,wr⟩,hm⟩:∃ m,m=gy l i:=⟨_,rfl⟩
        rw [← hm] at hg hgE
        simp only [yrow] at hg hgE
        rcases Decidable.em (p<0) with hp0|hp0
        ·obtain ⟨u1,u2,u3⟩:=u
         obtain ⟨z,bl⟩:=b
         have zS:=jj hilI<|jj hil<|jj hg<|jj hgE<|hp0
         repeat' (first|(apply aw_seq_k;intro K hK)|(refine eF64 ?_)|(refine aw_cond (b:=_) (by exact rfl) (fun h=>?_) (fun h=>?_)<;>(try simp at h))|(refine eB ?_)|(refine hK _ ?_;clear hK)|(clear hK;refine hK _ ?_;clear hK)|(clear hK;clear hK;refine hK _ ?_;clear hK)|(clear hK;clear hK;clear hK;refine hK _ ?_;clear hK))
         all_goals clear zS
         refine ⟨i+1,u1,u2,u3,z,bl,?_,⟨by omega,hI⟩,by omega⟩
         exact dle
        ·rcases Decidable.em (512≤p) with hp1|hp1
         ·obtain ⟨u1,u2,u3⟩:=u
          obtain ⟨z,bl⟩:=b
          have zS:=jj hilI<|jj hil<|jj hg<|jj hgE<|jj hp0<|hp1
          repeat' (first|(apply aw_seq_k;intro K hK)|(refine eF64 ?_)|(refine aw_cond (b:=_) (by exact rfl) (fun h=>?_) (fun h=>?_)<;>(try simp at h))|(refine eB ?_)|(refine hK _ ?_;clear hK)|(clear hK;refine hK _ ?_;clear hK)|(clear hK;clear hK;refine hK _ ?_;clear hK)|(clear hK;clear hK;clear hK;refine hK _ ?_;clear hK))
          all_goals clear zS
          refine ⟨i+1,u1,u2,u3,z,bl,?_,⟨by omega,hI⟩,by omega⟩
          exact dle
         ·obtain ⟨q,rfl⟩:=Int.eq_ofNat_of_zero_le (by omega:0≤p)
          obtain ⟨st1,st2⟩:=iv_step hI h0 (by decide) (by omega:q<512) wr
          have lo:=lo0 q wr
          have ac:=L.ac u b 3 q wr hI.ok hI.bk
          obtain ⟨⟨f,e⟩,hL⟩:∃ x,x=loT (r,ns,ds) q wr:=⟨_,rfl⟩
          rw [← hL] at lo st1
          obtain ⟨⟨u',b',f',e'⟩,hA⟩:∃ x,x=acT u b 3 q wr:=⟨_,rfl⟩
          rw [← hA] at ac st1 st2
          simp only [Prod.mk.injEq] at st1
          obtain ⟨rfl,rfl⟩:=st1
          obtain ⟨u1,u2,u3⟩:=u
          obtain ⟨z,bl⟩:=b
          obtain ⟨v1,v2,v3⟩:=u'
          obtain ⟨z',bl'⟩:=b'
          simp only [TbV,TlV] at ac lo st2 ⊢
          have zS:=jj hilI<|jj hil<|jj hg<|jj hgE<|jj hp0<|jj hp1<|jj lo<|ac
          repeat' (first|(apply aw_seq_k;intro K hK)|(refine eF64 ?_)|(refine aw_cond (b:=_) (by exact rfl) (fun h=>?_) (fun h=>?_)<;>(try simp at h))|(refine eB ?_)|(refine hK _ ?_;clear hK)|(clear hK;refine hK _ ?_;clear hK)|(clear hK;clear hK;refine hK _ ?_;clear hK)|(clear hK;clear hK;clear hK;refine hK _ ?_;clear hK))
          all_goals clear zS
          refine ⟨i+1,v1,v2,v3,z',bl',?_,⟨by omega,st2⟩,by omega⟩
          exact dle
       ·obtain rfl:i=l.length:=by omega
        have zS:=aw
        repeat' (first|(apply aw_seq_k;intro K hK)|(refine eF64 ?_)|(refine aw_cond (b:=_) (by exact rfl) (fun h=>?_) (fun h=>?_)<;>(try simp at h))|(refine eB ?_)|(refine hK _ ?_;clear hK)|(clear hK;refine hK _ ?_;clear hK)|(clear hK;clear hK;refine hK _ ?_;clear hK)|(clear hK;clear hK;clear hK;refine hK _ ?_;clear hK))
        all_goals clear zS
        all_goals refine ⟨by simp,?_⟩
        all_goals simp [leaves_iff,Try.f10]
        all_goals try exact dt
  ·obtain ⟨c,hcz⟩:∃ c,c=chk (r,ns,ds):=⟨_,rfl⟩
   rw [← hcz] at ch h0
   simp only [TbV] at few ch ⊢
   have zS:=jj few<|jj aw<|jj ch<|h0
   refine dF64 ?_
   repeat (intro K hK)
   clear zS
   all_goals refine ⟨by simp,?_⟩
   all_goals simp [leaves_iff,Try.f10]
   all_goals try exact dt
 ·rw [decide_eq_false hf] at few
  simp only [TbV] at few ⊢
  have zS:=jj few<|aw
  refine dF64 ?_
  repeat (intro K hK)
  clear zS
  all_goals refine ⟨by simp,?_⟩
  all_goals simp [leaves_iff,Try.f10]
  all_goals try exact dt
theorem invis':PSound Try.prog 10 (specF (ι:={x:Tb×Int×List Ty // tbF x.1}) (fun x=>[TbV x.1.1,I x.1.2.1,.rd 3 (yrows x.1.2.2)]) fun _=>retOf [B true]):=s10 TmI lawI
end Go.AM
