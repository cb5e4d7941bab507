/- A part of the proof: what functions of the program compute, by abstract execution of their code. Its theorems hold without further condition. -/
import Derived.Test.YtcfhmdljeeppfaaGreatUPt35
import Derived.Test.YtcfhmdljeeppfaaGreatUPt33
set_option linter.all false
namespace Go.AM
open Go Go.Proofs
theorem decR_tw {g:Nat} (hg:g≤4294967295):decR (g*256+4)=((4,(g:Int),false,false,false,false),0):=by
 have hb:∀ j,3≤j→j<8→(g*256+4).testBit j=false:=fun j h1 h2=>by
  rw [Nat.testBit_eq_decide_div_mod_eq]
  rcases (by omega:j=3∨j=4∨j=5∨j=6∨j=7) with rfl|rfl|rfl|rfl|rfl
  all_goals exact decide_eq_false (by omega)
 have hp:prs (g*256+4)=(4,(g:Int),false,false,false,false):=by
  unfold prs
  rw [hb 3 (by omega) (by omega),hb 4 (by omega) (by omega),hb 5 (by omega) (by omega),hb 6 (by omega) (by omega)]
  rw [show (g*256+4)%8=4 by omega,show (g*256+4)/256%4294967296=g by omega]
  rfl
 have he:encR (4,(g:Int),false,false,false,false)=(((g*256+4:Nat):Int),0):=by
  rw [encR_z (by simp only;omega) (by unfold badF;simp only;omega) (by rfl)]
  unfold encW fb
  simp
  omega
 rw [decR_z (by rw [hp];exact he),hp]
theorem tabW_tw {g:Nat} (hg:g≤4294967295):tabW (g*256+4)=some (g:Int):=by unfold tabW;rw [decR_tw hg];rfl
theorem okWb_tw {g l:Nat} (hg:g≤4294967295) (hl:0<l):okWb l (g*256+4)=true:=by
 unfold okWb;rw [decR_tw hg]
 simp [suitB,hl]
theorem decR_0:decR 0=(zE,0):=by rfl
theorem wdZ (adm:Int→Bool):WdZ (WD adm) where
 ok:=fun l=>by show okWb l 0=true;unfold okWb;rw [decR_0];rfl
 tab:=by show tabW 0=none;unfold tabW;rw [decR_0];rfl
theorem kind0 {l w:Nat} (h:okWb l w=true):(decR w).1.1=0↔w=0:=by
 constructor
 ·intro h0
  unfold okWb at h
  simp only [Bool.and_eq_true,decide_eq_true_eq] at h
  by_cases he:encR (prs w)=((w:Int),0)
  ·rw [decR_z he] at h0
   simp only at h0
   by_cases hb:badF (prs w)
   ·rw [encR_f (by rw [h0];decide) hb] at he;simp at he
   ·cases hf:frmE (prs w) with
    | false=>rw [encR_m (by rw [h0];decide) hb hf] at he;simp at he
    | true =>
     rw [encR_z (by rw [h0];decide) hb hf] at he
     simp only [Prod.mk.injEq,and_true] at he
     unfold frmE noFl at hf
     rw [if_neg (by rw [h0];decide),if_neg (by rw [h0];decide),if_pos h0] at hf
     simp only [Bool.and_eq_true,decide_eq_true_eq,Bool.not_eq_true'] at hf
     unfold encW fb at he
     rw [h0,hf.1,hf.2.1,hf.2.2.1,hf.2.2.2.1,hf.2.2.2.2] at he
     simp at he
     omega
  ·rw [decR_n he] at h
   simp at h
 ·rintro rfl
  rw [decR_0];rfl
section
variable {M:Mm} {root:Int} {p:Nat}
theorem dgt2 (hp:p<512):dgt p 2=p/64:=by unfold dgt;simp;omega
theorem dgt1:dgt p 1=p/8%8:=by unfold dgt;simp
theorem dgt0:dgt p 0=p%8:=by unfold dgt;simp
theorem wlk_at (hV:VM WA M root) (hp:p<512) {f:Int} {l w:Nat} (h:wlk M root p=(f,l,w)) :
  l≤2∧(2 - l,p/8^(l+1))∈Pos∧frP WA M root (2 - l) (p/8^(l+1))=some f∧w=wM M f (dgt p l)∧tabW w=none∧okWb l w=true:=by
 have hok:∀ d q,(d,q)∈Pos→∀ f,frP WA M root d q=some f→∀ i,i<8→okWb (2 - d) (wM M f i)=true:=fun d q hx f hf i hi=>by
  obtain ⟨ws,h1,_,h3⟩:=hV.nd d q hx f hf
  unfold wM;rw [h1];exact h3 i hi
 have f1:frP WA M root 1 (p/64)=tabW (wM M root (p/64)):=by
  simp only [frP,Option.bind_some]
  rw [show p/64%8=p/64 by omega]
  rfl
 have f2:frP WA M root 2 (p/8)=(frP WA M root 1 (p/64)).bind fun f=>tabW (wM M f (p/8%8)):=by
  show (frP WA M root 1 (p/8/8)).bind _=_
  rw [show p/8/8=p/64 by omega]
  rfl
 unfold wlk at h
 cases h2:frP WA M root 2 (p/8) with
 | some g =>
  rw [h2] at h
  simp only [Prod.mk.injEq] at h
  obtain ⟨rfl,rfl,rfl⟩:=h
  have hx:=Pos2 (q:=p/8) (by omega)
  have ho:=hok 2 _ hx _ h2 (p%8) (by omega)
  refine ⟨by omega,by simpa using hx,by simpa using h2,by rw [dgt0],?_,ho⟩
  exact (WD_ok fun _=>true).flat _ ho
 | none =>
  rw [h2] at h f2
  simp only at h
  cases h1:frP WA M root 1 (p/64) with
  | some g =>
   rw [h1] at h f2
   simp only [Prod.mk.injEq] at h
   obtain ⟨rfl,rfl,rfl⟩:=h
   have hx:=Pos1 (q:=p/64) (by omega)
   have ho:=hok 1 _ hx _ h1 (p/8%8) (by omega)
   exact ⟨by omega,by simpa using hx,by simpa using h1,by rw [dgt1],f2.symm,ho⟩
  | none =>
   rw [h1] at h f1
   simp only [Prod.mk.injEq] at h
   obtain ⟨rfl,rfl,rfl⟩:=h
   have ho:=hok 0 0 Pos0 _ rfl (p/64) (by omega)
   refine ⟨by omega,by simp;rw [show p/512=0 by omega];exact Pos0,by simp [frP],by rw [dgt2 hp],f1.symm,ho⟩
theorem wlk_of (hp:p<512) {f:Int} {l:Nat} (hl:l≤2) (h:frP WA M root (2 - l) (p/8^(l+1))=some f) (h2:tabW (wM M f (dgt p l))=none∨l=0):wlk M root p=(f,l,wM M f (dgt p l)):=by
 have f2:frP WA M root 2 (p/8)=(frP WA M root 1 (p/64)).bind fun f=>tabW (wM M f (p/8%8)):=by
  show (frP WA M root 1 (p/8/8)).bind _=_
  rw [show p/8/8=p/64 by omega]
  rfl
 have f1:frP WA M root 1 (p/64)=tabW (wM M root (p/64)):=by
  simp only [frP,Option.bind_some]
  rw [show p/64%8=p/64 by omega]
  rfl
 unfold wlk
 rcases (by omega:l=0∨l=1∨l=2) with rfl|rfl|rfl
 ·simp at h
  rw [h];simp [dgt0]
 ·simp at h
  rw [dgt1] at h2
  have h2:=h2.resolve_right (by omega)
  rw [h,Option.bind_some,h2] at f2
  rw [f2,h];simp [dgt1]
 ·simp [frP] at h
  subst h
  rw [dgt2 hp] at h2
  have h2:=h2.resolve_right (by omega)
  rw [h2] at f1
  rw [f1] at f2
  rw [f2,f1];simp [dgt2 hp]
end
theorem Mof_ext {a b:Mm} (h:∀ g,a g=b g):a=b:=funext h
theorem Pv.grow {r:Int} {ns:NdL} {ds:List Dp} (h:Pv (r,ns,ds)) (ht:tbOK (r,ns,ds)) {p:Nat} (hp:p<512) {g:Nat} (hg:g≤4294967295) (hn:∀ n∈ns,n.1≠(g:Int)) {f:Int} {l w:Nat} (hw:wlk (Mof ns) r p=(f,l+1,w)) (hlen:ns.length<1000000) :
  Pv (r,stD r ds p ns g,ds)∧tbOK (r,stD r ds p ns g,ds)∧Mof (stD r ds p ns g)=updM1 (updW (Mof ns) f (dgt p (l+1)) (g*256+4)) g (some zs8)∧wlk (Mof (stD r ds p ns g)) r p=((g:Int),l,0)∧(stD r ds p ns g).length=ns.length+1∧∀ n∈stD r ds p ns g,n.1=g∨∃ m∈ns,n.1=m.1:=by
 obtain ⟨hl2,hx,hfp,hwm,htn,hok⟩:=wlk_at h.vm hp hw
 simp only at hfp hwm
 have hwk:=h.walk hp
 simp only at hwk
 have hfn:=hwk.2.1
 have hlv:=hwk.2.2
 rw [hw] at hfn hlv
 simp only at hfn hlv
 have hnl:(lsT (r,ns,ds) p).1<ns.length:=fnd_lt hfn
 have hst:stD r ds p ns g=insK (setN ns (lsT (r,ns,ds) p).1 (dgt p (l+1)) (g*256+4)) ((g:Int),zs8):=by
  unfold stD
  simp only [hlv,Int.toNat_natCast]
 have hsa:=setN_asc h.asc (i:=dgt p (l+1)) (w:=g*256+4) hnl
 have hsf:=setN_fr (i:=dgt p (l+1)) (w:=g*256+4) hnl hn
 have hM:Mof (stD r ds p ns g)=updM1 (updW (Mof ns) f (dgt p (l+1)) (g*256+4)) g (some zs8):=by
  rw [hst]
  refine Mof_ext fun x=>?_
  rw [Mof_ins hsa hsf,show Mof (setN ns (lsT (r,ns,ds) p).1 (dgt p (l+1)) (g*256+4))=updW (Mof ns) f (dgt p (l+1)) (g*256+4) from Mof_ext (Mof_set h.asc hfn)]
 have hMg:Mof ns (g:Int)=none:=(Mof_none h.asc).2 hn
 have hd8:=dgt_lt p (l+1)
 have hdl:2 - (l+1)<2:=by omega
 have hgr:=h.vm.grow (wdZ fun _=>true) hx hdl hfp (i:=dgt p (l+1)) (w:=g*256+4) hd8 (by rw [← hwm];exact htn) hMg (tabW_tw hg) (by show okWb (2 - (2 - (l+1))) _=true;exact okWb_tw hg (by omega))
 simp only at hgr
 rw [← hM] at hgr
 have hql:p/8^(l+1+1)*8+dgt p (l+1)=p/8^(l+1):=by
  unfold dgt
  rw [Nat.pow_succ,← Nat.div_div_eq_div_mul]
  omega
 have hfg:=hgr.2 (2 - l) (p/8^(l+1)) (by have:=Pos_dn hx hdl hd8;rw [hql] at this;rwa [show 2 - (l+1)+1=2 - l by omega] at this)
 rw [if_pos ⟨by omega,hql.symm⟩] at hfg
 have hMn:Mof (stD r ds p ns g) g=some zs8:=by rw [hM];simp [updM1]
 have hw0:∀ i,wM (Mof (stD r ds p ns g)) g i=0:=fun i=>by unfold wM;rw [hMn];exact zs8_getD i
 refine ⟨⟨by show ascN (stD r ds p ns g);rw [hst];exact insK_asc hsa hsf,hgr.1⟩,⟨?_,?_,ht.2.2⟩,hM,?_,?_,?_⟩
 ·intro x hx
  simp only at hx
  rw [hst] at hx
  rcases mem_insK.1 hx with e|hx
  ·rw [e];exact ⟨rfl,fun w hw=>by simp [zs8] at hw;omega⟩
  ·exact setN_ok ht.1 (by omega) hnl x hx
 ·show (stD r ds p ns g).length≤1000000
  rw [hst,insK_len,setN_len];omega
 ·have:=wlk_of (M:=Mof (stD r ds p ns g)) hp (l:=l) (by omega) hfg (.inl (by rw [hw0];exact (wdZ fun _=>true).tab))
  rw [this,hw0]
 ·rw [hst,insK_len,setN_len]
 ·intro n hn2
  rw [hst] at hn2
  rcases mem_insK.1 hn2 with e|hx
  ·exact .inl (by rw [e])
  ·refine .inr ?_
   rcases List.mem_or_eq_of_mem_set hx with h1|h1
   ·exact ⟨n,h1,rfl⟩
   ·exact ⟨_,gn_mem hnl,by rw [h1];rfl⟩
theorem deepL {r:Int} {ns:NdL} {ds:List Dp} (h:Pv (r,ns,ds)) (ht:tbOK (r,ns,ds)) {p:Nat} (hp:p<512) {fs:List Int} (hu:usB ns ds fs=true) (hlen:ns.length≤999000) {f:Int} {l w:Nat} (hw:wlk (Mof ns) r p=(f,l,w)):∀ i,i≤fs.length→i≤l →
  Pv (r,dpN r ds p ns (fs.take i),ds)∧tbOK (r,dpN r ds p ns (fs.take i),ds)∧(∃ f' w',wlk (Mof (dpN r ds p ns (fs.take i))) r p=(f',l - i,w')∧(0<i→w'=0))∧(dpN r ds p ns (fs.take i)).length=ns.length+i∧∀ n∈dpN r ds p ns (fs.take i),(∃ m∈ns,n.1=m.1)∨∃ j,j<i∧n.1=gi fs j
 | 0,_,_=>⟨by rw [dpN_0];exact h,by rw [dpN_0];exact ht,⟨f,w,by rw [dpN_0];exact hw,by omega⟩,by rw [dpN_0];rfl,fun n hn=>.inl ⟨n,by rw [dpN_0] at hn;exact hn,rfl⟩⟩
 | i+1,hi,hil=>by
  have hl2:=(wlk_at h.vm hp hw).1
  obtain ⟨h1,h2,⟨f',w',h3,_⟩,h4,h5⟩:=deepL h ht hp hu hlen hw i (by omega) (by omega)
  obtain ⟨⟨g0,g1⟩,u2,u3,u4⟩:=usB_iff.1 hu i (by omega)
  obtain ⟨g,hg⟩:=Int.eq_ofNat_of_zero_le g0
  rw [dpN_s (by omega)]
  rw [hg] at g1 u2 u3 u4 ⊢
  obtain ⟨L,hL⟩:∃ L,l - i=L+1:=⟨l - i - 1,by omega⟩
  rw [hL] at h3
  have hnew:∀ n∈dpN r ds p ns (fs.take i),n.1≠(g:Int):=fun n hn e=>by
   rcases h5 n hn with ⟨m,hm,k⟩|⟨j,hj,k⟩
   ·exact u2 m hm (by rw [← k];exact e)
   ·exact u4 j hj (by rw [← k];exact e)
  obtain ⟨k1,k2,_,k4,k5,k6⟩:=h1.grow h2 hp (g:=g) (by omega) hnew h3 (by omega)
  refine ⟨k1,k2,⟨_,_,by rw [show l - (i+1)=L by omega];exact k4,fun _=>rfl⟩,by rw [k5,h4];omega,fun n hn=>?_⟩
  rcases k6 n hn with e|⟨m,hm,e⟩
  ·exact .inr ⟨i,by omega,by rw [e,hg]⟩
  ·rcases h5 m hm with ⟨m2,hm2,k⟩|⟨j,hj,k⟩
   ·exact .inl ⟨m2,hm2,by rw [e,k]⟩
   ·exact .inr ⟨j,by omega,by rw [e,k]⟩
theorem deep_ok {r:Int} {ns:NdL} {ds:List Dp} (h:Pv (r,ns,ds)) (ht:tbOK (r,ns,ds)) {p:Nat} (hp:p<512) {fs:List Int} (hu:usB ns ds fs=true) (hlen:ns.length≤999000) {f:Int} {l w:Nat} (hw:wlk (Mof ns) r p=(f,l,w)) (hf8:fs.length≤1000) (hle:fs.length≤l):dpOK r ds p ns fs:=by
 refine ⟨⟨hp,hf8,by omega,ht.2.2⟩,fun i hi=>?_⟩
 obtain ⟨h1,h2,_,h4,h5⟩:=deepL h ht hp hu hlen hw i (by omega) (by omega)
 obtain ⟨⟨g0,g1⟩,u2,u3,u4⟩:=usB_iff.1 hu i hi
 refine ⟨h1.pto h2 hp,fun n hn e=>?_,g0,g1⟩
 rcases h5 n hn with ⟨m,hm,k⟩|⟨j,hj,k⟩
 ·exact u2 m hm (by rw [← k];exact e)
 ·exact u4 j hj (by rw [← k];exact e)
end Go.AM
namespace Go.AM
open Go Go.Proofs
abbrev D1D:=Tb×Nat×Nat
noncomputable def deS2:List AV→List AO→Option (AV×List AO):=specG (ι:={x:D1D // dpC x.1.1 x.1.2.2 x.2.1 x.1.2.1 x.2.2}) (fun x=>[.bp 0 0,I x.1.2.1,.sl 3 1 1 0 1]) (fun x=>pMs x.1.1 1 1++[.vec 1 1 false [[I x.1.2.2]]]) (fun x=>.tup []) fun x=>pMs (x.1.1.1,stD x.1.1.1 x.1.1.2.2 x.1.2.1 x.1.1.2.1 x.1.2.2,x.1.1.2.2) 2 1++[.vec 1 1 false [[I x.1.2.2]]]
theorem deS2_at {t:Tb} {p f:Nat} (h:dpC t.1 t.2.2 p t.2.1 f):deS2 [.bp 0 0,I p,.sl 3 1 1 0 1] (pMs t 1 1++[.vec 1 1 false [[I f]]])=some (.tup [],pMs (t.1,stD t.1 t.2.2 p t.2.1 f,t.2.2) 2 1++[.vec 1 1 false [[I f]]]):=by
 refine specG_eq (ι:={x:D1D // dpC x.1.1 x.1.2.2 x.2.1 x.1.2.1 x.2.2}) (A:=fun x=>[.bp 0 0,I x.1.2.1,.sl 3 1 1 0 1]) (M:=fun x=>pMs x.1.1 1 1++[.vec 1 1 false [[I x.1.2.2]]]) (R:=fun x=>.tup []) (O:=fun x=>pMs (x.1.1.1,stD x.1.1.1 x.1.1.2.2 x.1.2.1 x.1.1.2.1 x.1.2.2,x.1.1.2.2) 2 1++[.vec 1 1 false [[I x.1.2.2]]]) ⟨(t,p,f),h⟩ fun j hA hM=>?_
 obtain ⟨⟨t',p',f'⟩,h'⟩:=j
 obtain ⟨e,e2⟩:=List.append_inj' hM rfl
 have e:=pMs_inj e
 simp only at e
 subst e
 simp only [List.cons.injEq,I,AV.v.injEq,Value.int.injEq,true_and,and_true,AO.vec.injEq] at hA e2
 have e1:p'=p:=by omega
 have e3:f'=f:=by omega
 subst e1 e3
 exact ⟨rfl,rfl⟩
set_option maxHeartbeats 4000000 in
theorem s129_1 (X:AX) (hX:XOK Tryz.prog X) (hw:X.W wT) (hla:OwnR X 110 (fun t x=>0≤x∧ptO t x.toNat) fun t x=>stV (lsT t x.toNat)) (hdg:∀ (p l:Nat),p<512→l≤2→∀ M n,X.call 139 [I p,I l] M n=some (I (dgt p l),[]))
  (hen:∀ f:Nat,f≤4294967295→∀ M n,X.call 143 [.agg [I 4,I f,B false,B false,B false,B false]] M n=some (.tup [U ((f*256+4:Nat)),I 0],[])) (had:X.call 186=callG adS):GSound Tryz.prog 129 deS2:=by
 unfold deS2
 refine gsound_spec Tryz.func129 rfl X fun ⟨⟨⟨r,ns,ds⟩,p,f⟩,hpt,hnf,hf0,hf1⟩ w0 L E=>⟨by show 3≤46;decide,?_⟩
 simp only at hpt hnf hf0 hf1
 have hp:p<512:=hpt.2.2.1
 have hl1:ns.length≤1000000:=hpt.1.2.1
 have hl2:ds.length≤1000000:=hpt.1.2.2
 simp only [pMs]
 have hen':=hen f (by omega)
 have hla':=hla r ns ds p ⟨by omega,hpt⟩
 obtain ⟨hlt1,hlt2⟩:(lsT (r,ns,ds) p).1<ns.length∧(lsT (r,ns,ds) p).2.1≤2:=by
  obtain ⟨_,_,_,⟨rt,hrt⟩,_⟩:=hpt
  exact lst_lt (by unfold rtN;rw [hrt];exact fnd_lt hrt)
 have ht:=hpt.1
 have ha:=hpt.2.1
 have hds:stD r ds p ns f=insK (setN ns (lsT (r,ns,ds) p).1 (dgt p (lsT (r,ns,ds) p).2.1) (f*256+4)) ((f:Int),zs8):=by unfold stD;rw [Int.toNat_natCast]
 obtain ⟨⟨a,b,c⟩,hS⟩:∃ S,S=lsT (r,ns,ds) p:=⟨_,rfl⟩
 simp only [Int.toNat_natCast] at hla'
 rw [← hS] at hla' hlt1 hlt2 hds
 simp only at hla' hlt1 hlt2 hds
 have hdg':=hdg p b hp hlt2
 have hdl:=dgt_lt p b
 have haN:(a:Int)<(ns.length:Int):=by omega
 have hgn:=nrows_gi hlt1
 have hgnE:=nrows_gE hlt1
 have h8:(gn ns a).2.length=8:=(ht.1 _ (gn_mem hlt1)).1
 obtain ⟨w,hwd⟩:∃ w,w=f*256+4:=⟨_,rfl⟩
 rw [← hwd] at hen' hds
 have hset:=@nrows_setN ns a (dgt p b) w hlt1
 have hwl:(wcs (gn ns a).2).length=8:=by simp [h8]
 have hw64:w<2^64:=by omega
 obtain ⟨NT,hNT⟩:∃ NT,NT=setN ns a (dgt p b) w:=⟨_,rfl⟩
 have hNl2:NT.length=ns.length:=by rw [hNT];simp
 have ht2:tbOK (r,NT,ds):=⟨by rw [hNT];exact setN_ok ht.1 hw64 hlt1,by show NT.length≤1000000;omega,hl2⟩
 have ha2:ascN NT:=by rw [hNT];exact setN_asc ha hlt1
 have hn2:∀ n∈NT,n.1≠(f:Int):=by rw [hNT];exact setN_fr hlt1 hnf
 have hca:=fun M n=>@callAd 0 1 2 (by decide) (by decide) (by decide) r NT ds f ht2 ha2 hn2 (by omega) 0 0 M n
 rw [← had] at hca
 simp only [hNl2,Nat.zero_add] at hca
 rw [← hNT] at hset hds
 obtain ⟨⟨fr,ws⟩,hm⟩:∃ m,m=gn ns a:=⟨_,rfl⟩
 rw [← hm] at hgn hgnE hwl hset
 simp only at hgn hgnE hwl hset
 obtain ⟨cs,hcs⟩:∃ cs,cs=wcs ws:=⟨_,rfl⟩
 rw [← hcs] at hgn hgnE hwl hset
 obtain ⟨dg,hdg0⟩:∃ dg,dg=dgt p b:=⟨_,rfl⟩
 rw [← hdg0] at hdl hdg' hset
 have hdI:(dg:Int)<8:=by omega
 clear hcs hm h8 hS
 have hs1:∀ w:Int,(I fr::cs).set (1+dg) (AV.v (.int .u64 w))=I fr::cs.set dg (AV.v (.int .u64 w)):=fun w=>by rw [Nat.add_comm];rfl
 have hil2:=@insK_len _ ((f:Int),zs8) NT
 clear hwd
 simp only [stV,srow,U] at hla' hset hen'
 simp only [hds,hil2,hNl2]
 show AW ⟨Tryz.prog,X,46,w0,⟨L,E,4⟩⟩ _ _ _
 have hc:Cx.OK ⟨Tryz.prog,X,46,w0,⟨L,E,4⟩⟩:=⟨hX,mixed⟩
 repeat' (first|(apply aw_seq_k;intro K hK)|(refine eM64o ?_)|(refine aw_cond (b:=_) (by exact rfl) (fun h=>?_) (fun h=>?_)<;>(try simp at h))|(refine eB ?_)|(refine hK _ ?_;clear hK)|(clear hK;refine hK _ ?_;clear hK)|(clear hK;clear hK;refine hK _ ?_;clear hK)|(clear hK;clear hK;clear hK;refine hK _ ?_;clear hK))
 refine aw_rounds 2 (aw_round ?_)
 have zS:=jj hla'<|jj hen'<|jj hdg'<|jj hlt1<|jj haN<|jj hgn<|jj hgnE<|jj hwl<|jj hdl<|jj hdI<|jj hset<|jj hs1<|hca
 repeat' (first|(apply aw_seq_k;intro K hK)|(refine eF64 ?_)|(refine aw_cond (b:=_) (by exact rfl) (fun h=>?_) (fun h=>?_)<;>(try simp at h))|(refine eB ?_)|(refine hK _ ?_;clear hK)|(clear hK;refine hK _ ?_;clear hK)|(clear hK;clear hK;refine hK _ ?_;clear hK)|(clear hK;clear hK;clear hK;refine hK _ ?_;clear hK))
 all_goals clear zS
 refine ⟨[],rfl,?_⟩
 simp only [idx]
 exact dle
noncomputable def deB:List AV→List AO→Option (AV×List AO):=orG deS deS2
end Go.AM
set_option maxHeartbeats 8000000
namespace Go.AM
open Go Go.Proofs
set_option maxRecDepth 4000 in
theorem callDe {a b c:Nat} (hab:a≠b) (hac:a≠c) (hbc:b≠c) {r:Int} {ns:NdL} {ds:List Dp} {p:Nat} {fs:List Int} (h:dpOK r ds p ns fs) {v v2:Nat} (M:Nat→AO) (nid:Nat)
  (h0:M a=.box [I r,.sl b (v+1) 9 0 ns.length,.sl c (v2+1) 2 0 ds.length]) (h1:M b=.vec (v+1) 9 false (nrows ns)) (h2:M c=.vec (v2+1) 2 false (prows ds)) :
  callG deB [.bp a 0,I p,.rd 1 (irows fs)] M nid=some (.tup [],[(a,.box [I r,.sl b (fs.length+v+1) 9 0 (dpN r ds p ns fs).length,.sl c (v2+1) 2 0 ds.length]),(b,.vec (fs.length+v+1) 9 false (nrows (dpN r ds p ns fs))),(c,.vec (v2+1) 2 false (prows ds))]):=by
 have hF:deB _ _=_:=orG_1 (deS_at (t:=(r,ns,ds)) h)
 simp only [pMs,dM] at hF
 unfold callG
 have hba:b≠a:=fun e=>hab e.symm
 have hca:c≠a:=fun e=>hac e.symm
 have hcb:c≠b:=fun e=>hbc e.symm
 have hg:gat M 64 (nmsL [.bp a 0,I p,.rd 1 (irows fs)]) []=[a,b,c]:=by
  simp [gat,nmsL,AV.nms,AO.nms,h0,h1,h2,hab,hac,hbc,hba,hca,hcb]
 simp only [hg]
 rw [if_pos ?cg]
 case cg=>simp [CallG,nmsL,AV.nms,AO.nms,Led,curBL,AV.curB,AO.curB,verOf,notDead,h0,h1,h2,hab,hac,hbc,hba,hca,hcb]
 have e1:fs.length+1+v=fs.length+v+1:=by omega
 have e2:1+v2=v2+1:=by omega
 simp [renL,AV.ren,AO.ren,posN,canO,nmsL,h0,h1,h2,hF,RetG,getL,AV.nms,AO.nms,updN,nmN,shN,verOf,rng,Led,hab,hac,hbc,hba,hca,hcb,e1,e2]
def TbC (t:Tb) (n:Nat):AV:=.agg [I t.1,.sl n 1 9 0 t.2.1.length,.sl (n+1) 1 2 0 t.2.2.length]
def zT:Tb:=(0,[],[])
noncomputable def setP (t:Tb) (p:Int) (w:Nat) (fs:List Int):Tb×Int :=
 if ckd t p 512≠0 then (zT,ckd t p 512)
 else if (decR w).2≠0∨(decR w).1.1=0∨(decR w).1.1=4∨(decR w).1.2.2.2.2.2=true then (zT,3)
 else if (lsT t p.toNat).2.2≠0 then (zT,7)
 else if fs.length=(lsT t p.toNat).2.1∧usB t.2.1 t.2.2 fs=true then (putT (t.1,dpN t.1 t.2.2 p.toNat t.2.1 fs,t.2.2) p.toNat w,0)
 else (zT,1)
theorem ckd_pt {t:Tb} (ht:tbOK t) {n lim:Int} (h:¬ ckd t n lim≠0):Pv t∧0≤n∧n<lim:=by
 rcases ckd_cases t n lim with h1|h1
 ·exact absurd h1 h
 ·exact ⟨chk_pv ht h1.2.1,h1.2.2⟩
abbrev StD:=Tb×Int×Nat×List Int
def stOK (x:StD):Prop:=tbOK x.1∧x.1.2.1.length≤999000∧x.2.2.1<2^64∧x.2.2.2.length≤1000
theorem s51 (X:AX) (hX:XOK Tryz.prog X) (hw:X.W wT) (hck:∀ t:Tb,tbOK t→∀ (n lim:Int) M k,X.call 109 [TbV t,I n,I lim] M k=some (I (ckd t n lim),[]))
  (hla:∀ (t:Tb) (p:Nat),ptO t p→∀ M n,X.call 110 [TbV t,I p] M n=some (stV (lsT t p),[]))
  (hdc:∀ n:Nat,n<2^64→∀ M k,X.call 56 [U n] M k=some (.tup [EnV (decR n).1,I (decR n).2],[]))
  (hen:∀ w:Nat,w<2^64→∀ M n,X.call 113 [U w] M n=some (EnV (decR w).1,[]))
  (hfh:∀ (t:Tb) (fs:List Int) (m:Nat),tbOK t→ascN t.2.1→fs.length≤1000→∀ M n,X.call 127 [TbV t,.rd 1 (irows fs),I m] M n=some (B (decide (fs.length=m)&&usB t.2.1 t.2.2 fs),[]))
  (hcl:∀ t:Tb,tbOK t→∀ M n,X.call 128 [TbV t] M n=some (TbC t n,[(n,.vec 1 9 false (nrows t.2.1)),(n+1,.vec 1 2 false (prows t.2.2))]))
  (hde:X.call 129=callG deB) (hpu:X.call 130=callG puS) :
  PSound Tryz.prog 51 (specF (ι:={x:StD // stOK x}) (fun x=>[TbV x.1.1,I x.1.2.1,U x.1.2.2.1,.rd 1 (irows x.1.2.2.2)]) fun x=>retOf [TbO (setP x.1.1 x.1.2.1 x.1.2.2.1 x.1.2.2.2).1,I (setP x.1.1 x.1.2.1 x.1.2.2.1 x.1.2.2.2).2]):=by
 refine psound_spec hX mixed Tryz.func51 rfl fun ⟨⟨⟨r,ns,ds⟩,pI,w,fs⟩,ht,hl9,hw64,hf8⟩ w0 G=>⟨by show 4≤69;decide,rfl,?_⟩
 show AW ⟨Tryz.prog,X,69,w0,.pure G⟩ _ _ _
 have hc:Cx.OK ⟨Tryz.prog,X,69,w0,.pure G⟩:=⟨hX,mixed⟩
 simp only at hl9 hw64 hf8 ht ⊢
 have hck':=hck _ ht pI 512
 have hl1:ns.length≤1000000:=ht.2.1
 have hl2:ds.length≤1000000:=ht.2.2
 rcases Decidable.em (ckd (r,ns,ds) pI 512≠0) with hk|hk
 ·have e:setP (r,ns,ds) pI w fs=(zT,ckd (r,ns,ds) pI 512):=by unfold setP;rw [if_pos hk]
  rw [e]
  obtain ⟨c,hc0⟩:∃ c,c=ckd (r,ns,ds) pI 512:=⟨_,rfl⟩
  rw [← hc0] at hck' hk ⊢
  simp only [TbV,TbO,zT] at hck' ⊢
  have zS:=jj hck'<|hk
  refine dM64 ?_
  repeat (intro K hK)
  clear zS
  refine ⟨by simp,?_⟩
  simp [leaves_iff,Tryz.f51,nrows,prows]
  try exact dt
 ·obtain ⟨hpv,hp0,hp1⟩:=ckd_pt ht hk
  obtain ⟨p,rfl⟩:=Int.eq_ofNat_of_zero_le hp0
  have hp:p<512:=by omega
  have hz:ckd (r,ns,ds) p 512=0:=by omega
  rw [hz] at hck'
  have hdc':=hdc w hw64
  have hla':=hla _ _ (hpv.pto ht hp)
  have hlw:=lsT_u64 ht hpv hp
  have hen':=hen _ hlw
  have hlv:=(hpv.walk hp).2.2
  obtain ⟨f0,l0,w0',hwk⟩:∃ f l w,wlk (Mof ns) r p=(f,l,w):=⟨_,_,_,rfl⟩
  obtain ⟨hl02,_,_,_,hwt,hwok⟩:=wlk_at hpv.vm hp hwk
  have hk0:=kind0 hwok
  simp only at hlv
  rw [hwk] at hlv
  simp only at hlv
  have hls:lsT (r,ns,ds) p=((lsT (r,ns,ds) p).1,l0,w0'):=by rw [← hlv]
  have hfh':=hfh (r,ns,ds) fs l0 ht hpv.asc hf8
  have hcl':=hcl _ ht
  have eS:setP (r,ns,ds) p w fs=if (decR w).2≠0∨(decR w).1.1=0∨(decR w).1.1=4∨(decR w).1.2.2.2.2.2=true then (zT,3)
    else if w0'≠0 then (zT,7)
    else if fs.length=l0∧usB ns ds fs=true then (putT (r,dpN r ds p ns fs,ds) p w,0)
    else (zT,1):=by
   unfold setP
   rw [if_neg hk,Int.toNat_natCast,hlv]
  rw [eS]
  rw [hls] at hla' hen' hlw
  simp only at hen' hlw
  obtain ⟨a0,ha0⟩:∃ a,a=(lsT (r,ns,ds) p).1:=⟨_,rfl⟩
  rw [← ha0] at hla'
  obtain ⟨⟨⟨k,f,d,a,x,h⟩,e⟩,hE⟩:∃ r,r=decR w:=⟨_,rfl⟩
  obtain ⟨⟨⟨k2,f2,d2,a2,x2,h2⟩,e2⟩,hE2⟩:∃ r,r=decR w0':=⟨_,rfl⟩
  rw [← hE] at hdc' ⊢
  rw [← hE2] at hen' hk0
  clear hls eS hE hE2 hck hla hdc hen
  simp only [TbV,TbO,TbC,zT,EnV,stV,srow,U] at hck' hla' hdc' hen' hfh' hcl' hk0 ⊢
  rcases Decidable.em (e≠0∨k=0∨k=4∨h=true) with hb|hb
  ·rw [if_pos hb]
   rcases Decidable.em (e=0) with he|he
   ·rcases Decidable.em (k=0) with hk1|hk1
    ·have zS:=jj hck'<|jj hdc'<|jj he<|hk1
     refine dM64 ?_
     repeat (intro K hK)
     clear zS
     all_goals refine ⟨by simp,?_⟩
     all_goals simp [leaves_iff,Tryz.f51,nrows,prows]
     all_goals try exact dt
    ·rcases Decidable.em (k=4) with hk2|hk2
     ·have zS:=jj hck'<|jj hdc'<|jj he<|jj hk1<|hk2
      refine dM64 ?_
      repeat (intro K hK)
      clear zS
      all_goals refine ⟨by simp,?_⟩
      all_goals simp [leaves_iff,Tryz.f51,nrows,prows]
      all_goals try exact dt
     ·obtain rfl:h=true:=by
       rcases hb with hb|hb|hb|hb
       ·exact absurd he hb
       ·exact absurd hb hk1
       ·exact absurd hb hk2
       ·exact hb
      have zS:=jj hck'<|jj hdc'<|jj he<|jj hk1<|hk2
      refine dM64 ?_
      repeat (intro K hK)
      clear zS
      all_goals refine ⟨by simp,?_⟩
      all_goals simp [leaves_iff,Tryz.f51,nrows,prows]
      all_goals try exact dt
   ·have zS:=jj hck'<|jj hdc'<|he
    refine dM64 ?_
    repeat (intro K hK)
    clear zS
    all_goals refine ⟨by simp,?_⟩
    all_goals simp [leaves_iff,Tryz.f51,nrows,prows]
    all_goals try exact dt
  ·rw [if_neg hb]
   obtain ⟨rfl,hk1,hk2,rfl⟩:e=0∧k≠0∧k≠4∧h=false:=by
    refine ⟨by omega,by omega,by omega,?_⟩
    cases h
    ·rfl
    ·exact absurd (Or.inr (Or.inr (Or.inr rfl))) hb
   rcases Decidable.em (w0'=0) with hw0|hw0
   ·have hk3:=hk0.2 hw0
    rw [if_neg (by simp [hw0])]
    rcases Decidable.em (fs.length=l0∧usB ns ds fs=true) with hf|hf
    ·rw [if_pos hf]
     rw [decide_eq_true hf.1,hf.2] at hfh'
     have hdk:=deep_ok hpv ht hp hf.2 hl9 hwk hf8 (by omega)
     obtain ⟨j1,j2,⟨f',w',j3,j4⟩,j5,j6⟩:=deepL hpv ht hp hf.2 hl9 hwk fs.length (Nat.le_refl _) (by omega)
     rw [List.take_length] at j1 j2 j3 j5
     have hde':=fun M n=>@callDe 816 800 801 (by decide) (by decide) (by decide) r ns ds p fs hdk 0 0 M n
     rw [← hde] at hde'
     have hpu':=fun M n=>@callPu 816 800 801 (by decide) (by decide) (by decide) r (dpN r ds p ns fs) ds p w (j1.pto j2 hp) hw64 fs.length 0 M n
     rw [← hpu] at hpu'
     simp only [Nat.zero_add,Nat.add_zero,U] at hde' hpu'
     have hPl:(putT (r,dpN r ds p ns fs,ds) p w).2.1.length=(dpN r ds p ns fs).length:=setN_len
     have hP0:putT (r,dpN r ds p ns fs,ds) p w=(r,(putT (r,dpN r ds p ns fs,ds) p w).2.1,ds):=rfl
     rw [hP0]
     simp only
     obtain ⟨R,hR⟩:∃ R,R=(putT (r,dpN r ds p ns fs,ds) p w).2.1:=⟨_,rfl⟩
     rw [← hR] at hPl hpu' ⊢
     obtain ⟨D,hD⟩:∃ D,D=dpN r ds p ns fs:=⟨_,rfl⟩
     rw [← hD] at hde' hpu' hPl
     clear hR hD hP0
     have zS:=jj hck'<|jj hdc'<|jj hk1<|jj hk2<|jj hla'<|jj hen'<|jj hk3<|jj hfh'<|jj hcl'<|jj hde'<|hpu'
     refine dF64 ?_
     repeat (intro K hK)
     clear zS
     have tkR:List.take D.length (nrows R)=nrows R:=List.take_of_length_le (by simp;omega)
     have tkd:List.take ds.length (prows ds)=prows ds:=List.take_of_length_le (by simp)
     refine ⟨by simp,?_⟩
     simp [leaves_iff,Tryz.f51,hPl,tkR,tkd]
     try exact dt
    ·rw [if_neg hf]
     have hff:(decide (fs.length=l0)&&usB ns ds fs)=false:=by
      cases hu:usB ns ds fs
      ·simp
      ·rw [hu] at hf;simp at hf;simp [hf]
     rw [hff] at hfh'
     have zS:=jj hck'<|jj hdc'<|jj hk1<|jj hk2<|jj hla'<|jj hen'<|jj hk3<|hfh'
     refine dM64 ?_
     repeat (intro K hK)
     clear zS
     all_goals refine ⟨by simp,?_⟩
     all_goals simp [leaves_iff,Tryz.f51,nrows,prows]
     all_goals try exact dt
   ·have hk3:¬ k2=0:=fun h=>hw0 (hk0.1 h)
    rw [if_pos hw0]
    have zS:=jj hck'<|jj hdc'<|jj hk1<|jj hk2<|jj hla'<|jj hen'<|hk3
    refine dM64 ?_
    repeat (intro K hK)
    clear zS
    all_goals refine ⟨by simp,?_⟩
    all_goals simp [leaves_iff,Tryz.f51,nrows,prows]
    all_goals try exact dt
end Go.AM
set_option maxHeartbeats 8000000
namespace Go.AM
open Go Go.Proofs
set_option maxRecDepth 4000 in
theorem callDp {a b c:Nat} (hab:a≠b) (hac:a≠c) (hbc:b≠c) {r:Int} {ns:NdL} {ds:List Dp} {g f:Int} (ht:tbOK (r,ns,ds)) (ha:ascK ds) {v v2:Nat} (M:Nat→AO) (nid:Nat)
  (h0:M a=.box [I r,.sl b (v+1) 9 0 ns.length,.sl c (v2+1) 2 0 ds.length]) (h1:M b=.vec (v+1) 9 false (nrows ns)) (h2:M c=.vec (v2+1) 2 false (prows ds)) :
  callG dpS [.bp a 0,I g,I f] M nid=some (.tup [],[(a,.box [I r,.sl b (v+1) 9 0 ns.length,.sl nid 1 2 0 (ds.length+1)]),(b,.vec (v+1) 9 false (nrows ns)),(c,.dead),(nid,.vec 1 2 false (prows (insL ds g f)))]):=by
 have hF:=dpS_at (t:=(r,ns,ds)) (g:=g) (f:=f) ht ha
 simp only [pMs,oM,insL_len] at hF
 unfold callG
 have hba:b≠a:=fun e=>hab e.symm
 have hca:c≠a:=fun e=>hac e.symm
 have hcb:c≠b:=fun e=>hbc e.symm
 have hg:gat M 64 (nmsL [.bp a 0,I g,I f]) []=[a,b,c]:=by
  simp [gat,nmsL,AV.nms,AO.nms,h0,h1,h2,hab,hac,hbc,hba,hca,hcb]
 simp only [hg]
 rw [if_pos ?cg]
 case cg=>simp [CallG,nmsL,AV.nms,AO.nms,Led,curBL,AV.curB,AO.curB,verOf,notDead,h0,h1,h2,hab,hac,hbc,hba,hca,hcb]
 have e1:1+v=v+1:=by omega
 simp [renL,AV.ren,AO.ren,posN,canO,nmsL,h0,h1,h2,hF,RetG,getL,AV.nms,AO.nms,updN,nmN,shN,verOf,rng,Led,hab,hac,hbc,hba,hca,hcb,e1]
theorem irows_tk {l:List Int} {n:Nat}:irows (l.take n)=(irows l).take n:=by simp [irows,List.map_take]
theorem gi_take {l:List Int} {n j:Nat} (h:j<n) (hn:n≤l.length):gi (l.take n) j=gi l j:=by
 rw [gi_eq (by simp;omega),gi_eq (by omega)];simp
theorem usB_take {ns:NdL} {ds:List Dp} {fs:List Int} {n:Nat} (h:usB ns ds fs=true) (hn:n≤fs.length):usB ns ds (fs.take n)=true:=by
 rw [usB_iff] at h ⊢
 intro i hi
 have hi2:i<n:=by simp at hi;omega
 obtain ⟨h1,h2,h3,h4⟩:=h i (by omega)
 unfold usC
 rw [gi_take hi2 hn]
 exact ⟨h1,h2,h3,fun j hj=>by rw [gi_take (by omega) hn];exact h4 j hj⟩
noncomputable def setH (t:Tb) (g:Int) (w:Nat) (fs:List Int):Tb×Int :=
 if ckd t g 64≠0 then (zT,ckd t g 64)
 else if (decR w).2≠0∨(decR w).1.2.2.2.2.2=false then (zT,3)
 else if (lsT t (g.toNat*8)).2.1=0∨(lsT t (g.toNat*8)).2.2≠0 then (zT,7)
 else if fs.length=(lsT t (g.toNat*8)).2.1∧usB t.2.1 t.2.2 fs=true then
  ((t.1,(putT (t.1,dpN t.1 t.2.2 (g.toNat*8) t.2.1 (fs.take (fs.length - 1)),t.2.2) (g.toNat*8) w).2.1,insL t.2.2 g (gi fs (fs.length - 1))),0)
 else (zT,1)
theorem ckd_vt {t:Tb} (ht:tbOK t) {n lim:Int} (h:¬ ckd t n lim≠0):Vt t:=by
 rcases ckd_cases t n lim with h1|h1
 ·exact absurd h1 h
 ·exact (chk_iff ht).1 h1.2.1
theorem s53 (X:AX) (hX:XOK Tryz.prog X) (hw:X.W wT) (hck:∀ t:Tb,tbOK t→∀ (n lim:Int) M k,X.call 109 [TbV t,I n,I lim] M k=some (I (ckd t n lim),[]))
  (hla:∀ (t:Tb) (p:Nat),ptO t p→∀ M n,X.call 110 [TbV t,I p] M n=some (stV (lsT t p),[]))
  (hdc:∀ n:Nat,n<2^64→∀ M k,X.call 56 [U n] M k=some (.tup [EnV (decR n).1,I (decR n).2],[]))
  (hfh:∀ (t:Tb) (fs:List Int) (m:Nat),tbOK t→ascN t.2.1→fs.length≤1000→∀ M n,X.call 127 [TbV t,.rd 1 (irows fs),I m] M n=some (B (decide (fs.length=m)&&usB t.2.1 t.2.2 fs),[]))
  (hcl:∀ t:Tb,tbOK t→∀ M n,X.call 128 [TbV t] M n=some (TbC t n,[(n,.vec 1 9 false (nrows t.2.1)),(n+1,.vec 1 2 false (prows t.2.2))]))
  (hde:X.call 129=callG deB) (hpu:X.call 130=callG puS) (hdp:X.call 135=callG dpS) :
  PSound Tryz.prog 53 (specF (ι:={x:StD // stOK x}) (fun x=>[TbV x.1.1,I x.1.2.1,U x.1.2.2.1,.rd 1 (irows x.1.2.2.2)]) fun x=>retOf [TbO (setH x.1.1 x.1.2.1 x.1.2.2.1 x.1.2.2.2).1,I (setH x.1.1 x.1.2.1 x.1.2.2.1 x.1.2.2.2).2]):=by
 refine psound_spec hX mixed Tryz.func53 rfl fun ⟨⟨⟨r,ns,ds⟩,pI,w,fs⟩,ht,hl9,hw64,hf8⟩ w0 G=>⟨by show 4≤78;decide,rfl,?_⟩
 show AW ⟨Tryz.prog,X,78,w0,.pure G⟩ _ _ _
 have hc:Cx.OK ⟨Tryz.prog,X,78,w0,.pure G⟩:=⟨hX,mixed⟩
 simp only at hl9 hw64 hf8 ht ⊢
 have hck':=hck _ ht pI 64
 have hl1:ns.length≤1000000:=ht.2.1
 have hl2:ds.length≤1000000:=ht.2.2
 rcases Decidable.em (ckd (r,ns,ds) pI 64≠0) with hk|hk
 ·have e:setH (r,ns,ds) pI w fs=(zT,ckd (r,ns,ds) pI 64):=by unfold setH;rw [if_pos hk]
  rw [e]
  obtain ⟨c,hc0⟩:∃ c,c=ckd (r,ns,ds) pI 64:=⟨_,rfl⟩
  rw [← hc0] at hck' hk ⊢
  simp only [TbV,TbO,zT] at hck' ⊢
  have zS:=jj hck'<|hk
  refine dM64 ?_
  repeat (intro K hK)
  clear zS
  refine ⟨by simp,?_⟩
  simp [leaves_iff,Tryz.f53,nrows,prows]
  try exact dt
 ·obtain ⟨hpv,hp0,hp1⟩:=ckd_pt ht hk
  have hvt:=ckd_vt ht hk
  obtain ⟨g,rfl⟩:=Int.eq_ofNat_of_zero_le hp0
  have hg:g<64:=by omega
  obtain ⟨p,hpg⟩:∃ p,p=g*8:=⟨_,rfl⟩
  have hp:p<512:=by omega
  have hz:ckd (r,ns,ds) g 64=0:=by omega
  rw [hz] at hck'
  have hdc':=hdc w hw64
  have hla':=hla _ _ (hpv.pto ht hp)
  have hlw:=lsT_u64 ht hpv hp
  have hlv:=(hpv.walk hp).2.2
  obtain ⟨f0,l0,w0',hwk⟩:∃ f l w,wlk (Mof ns) r p=(f,l,w):=⟨_,_,_,rfl⟩
  obtain ⟨hl02,_,_,_,hwt,hwok⟩:=wlk_at hpv.vm hp hwk
  simp only at hlv
  rw [hwk] at hlv
  simp only at hlv
  have hls:lsT (r,ns,ds) p=((lsT (r,ns,ds) p).1,l0,w0'):=by rw [← hlv]
  have hfh':=hfh (r,ns,ds) fs l0 ht hpv.asc hf8
  have hcl':=hcl _ ht
  have eS:setH (r,ns,ds) g w fs=if (decR w).2≠0∨(decR w).1.2.2.2.2.2=false then (zT,3)
    else if l0=0∨w0'≠0 then (zT,7)
    else if fs.length=l0∧usB ns ds fs=true then ((r,(putT (r,dpN r ds p ns (fs.take (fs.length - 1)),ds) p w).2.1,insL ds g (gi fs (fs.length - 1))),0)
    else (zT,1):=by
   unfold setH
   rw [if_neg hk,Int.toNat_natCast,← hpg,hlv]
  rw [eS]
  rw [hls] at hla' hlw
  simp only at hlw
  obtain ⟨a0,ha0⟩:∃ a,a=(lsT (r,ns,ds) p).1:=⟨_,rfl⟩
  rw [← ha0] at hla'
  obtain ⟨⟨⟨k,f,d,a,x,h⟩,e⟩,hE⟩:∃ r,r=decR w:=⟨_,rfl⟩
  rw [← hE] at hdc' ⊢
  have hgm:(g:Int)*8=(p:Int):=by omega
  clear hls eS hE hck hla hdc
  simp only [TbV,TbO,TbC,zT,EnV,stV,srow,U] at hck' hla' hdc' hfh' hcl' ⊢
  rcases Decidable.em (e≠0∨h=false) with hb|hb
  ·rw [if_pos hb]
   rcases Decidable.em (e=0) with he|he
   ·obtain rfl:h=false:=hb.resolve_left (by simp [he])
    have zS:=jj hck'<|jj hdc'<|he
    refine dM64 ?_
    repeat (intro K hK)
    clear zS
    all_goals refine ⟨by simp,?_⟩
    all_goals simp [leaves_iff,Tryz.f53,nrows,prows]
    all_goals try exact dt
   ·have zS:=jj hck'<|jj hdc'<|he
    refine dM64 ?_
    repeat (intro K hK)
    clear zS
    all_goals refine ⟨by simp,?_⟩
    all_goals simp [leaves_iff,Tryz.f53,nrows,prows]
    all_goals try exact dt
  ·rw [if_neg hb]
   obtain ⟨rfl,rfl⟩:e=0∧h=true:=by
    refine ⟨by omega,?_⟩
    cases h
    ·exact absurd (Or.inr rfl) hb
    ·rfl
   rcases Decidable.em (l0=0∨w0'≠0) with hlw0|hlw0
   ·rw [if_pos hlw0]
    rcases Decidable.em (l0=0) with h0|h0
    ·subst h0
     have zS:=jj hck'<|jj hdc'<|jj hla'<|hgm
     refine dM64 ?_
     repeat (intro K hK)
     clear zS
     all_goals refine ⟨by simp,?_⟩
     all_goals simp [leaves_iff,Tryz.f53,nrows,prows]
     all_goals try exact dt
    ·have hw0:=hlw0.resolve_left h0
     have zS:=jj hck'<|jj hdc'<|jj hla'<|jj hgm<|jj h0<|hw0
     refine dM64 ?_
     repeat (intro K hK)
     clear zS
     all_goals refine ⟨by simp,?_⟩
     all_goals simp [leaves_iff,Tryz.f53,nrows,prows]
     all_goals try exact dt
   ·rw [if_neg hlw0]
    obtain ⟨L,rfl⟩:∃ L,l0=L+1:=⟨l0 - 1,by omega⟩
    obtain rfl:w0'=0:=by omega
    have hL0:¬ (L:Int)+1=0:=by omega
    have hLp:((L+1:Nat):Int)=(L:Int)+1:=by omega
    simp only [hLp] at hfh' hla'
    rcases Decidable.em (fs.length=L+1∧usB ns ds fs=true) with hf|hf
    ·rw [if_pos hf]
     rw [decide_eq_true hf.1,hf.2] at hfh'
     rw [hf.1,Nat.add_sub_cancel]
     have hLf:L<fs.length:=by omega
     have hu2:=usB_take (n:=L) hf.2 (by omega)
     have htl:(fs.take L).length=L:=by simp;omega
     have hdk:=deep_ok hpv ht hp hu2 hl9 hwk (by omega) (by omega)
     obtain ⟨j1,j2,⟨f',w',j3,j4⟩,j5,j6⟩:=deepL hpv ht hp hu2 hl9 hwk (fs.take L).length (Nat.le_refl _) (by omega)
     rw [List.take_length] at j1 j2 j3 j5
     rw [htl] at j3 j5
     have hde':=fun M n=>@callDe 768 752 753 (by decide) (by decide) (by decide) r ns ds p (fs.take L) hdk 0 0 M n
     rw [← hde] at hde'
     have hpu':=fun M n=>@callPu 768 752 753 (by decide) (by decide) (by decide) r (dpN r ds p ns (fs.take L)) ds p w (j1.pto j2 hp) hw64 L 0 M n
     rw [← hpu] at hpu'
     have hPl:(putT (r,dpN r ds p ns (fs.take L),ds) p w).2.1.length=(dpN r ds p ns (fs.take L)).length:=setN_len
     have hP0:putT (r,dpN r ds p ns (fs.take L),ds) p w=(r,(putT (r,dpN r ds p ns (fs.take L),ds) p w).2.1,ds):=rfl
     have htR:tbOK (r,(putT (r,dpN r ds p ns (fs.take L),ds) p w).2.1,ds):=⟨setN_ok j2.1 hw64 (lsT_lt j1 hp).1,by rw [hPl];exact j2.2.1,j2.2.2⟩
     obtain ⟨R,hR⟩:∃ R,R=(putT (r,dpN r ds p ns (fs.take L),ds) p w).2.1:=⟨_,rfl⟩
     rw [← hR] at hPl hpu' htR ⊢
     have hdp':=fun M n=>@callDp 768 752 753 (by decide) (by decide) (by decide) r R ds g (gi fs L) htR hvt.num.dasc L 0 M n
     rw [← hdp] at hdp'
     simp only [Nat.zero_add,Nat.add_zero,U,htl,hPl,irows_tk] at hde' hpu' hdp'
     have hil:=@insL_len ds g (gi fs L)
     obtain ⟨D,hD⟩:∃ D,D=dpN r ds p ns (fs.take L):=⟨_,rfl⟩
     rw [← hD] at hde' hpu' hPl hdp'
     have hgg:=irows_gi hLf
     have hgE:=irows_gE hLf
     obtain ⟨fl,hfl⟩:∃ fl,fl=gi fs L:=⟨_,rfl⟩
     rw [← hfl] at hgg hgE hdp' hil ⊢
     have hL1:((L+1:Nat):Int) - 1=(L:Int):=by omega
     have hL2:(L:Int)+1 - 1=(L:Int):=by omega
     have hLI:(L:Int)<(fs.length:Int):=by omega
     clear hR hD hP0
     have zS:=jj hck'<|jj hdc'<|jj hla'<|jj hgm<|jj hfh'<|jj hcl'<|jj hde'<|jj hpu'<|jj hdp'<|jj hL0<|jj hL1<|jj hL2<|jj hgg<|jj hgE<|jj hLf<|hLI
     refine dF64 ?_
     repeat (intro K hK)
     clear zS
     have tkR:List.take D.length (nrows R)=nrows R:=List.take_of_length_le (by simp;omega)
     have tkd:List.take (ds.length+1) (prows (insL ds g fl))=prows (insL ds g fl):=List.take_of_length_le (by simp;omega)
     refine ⟨by simp,?_⟩
     simp [leaves_iff,Tryz.f53,hPl,hil,tkR,tkd]
     try exact dt
    ·rw [if_neg hf]
     have hff:(decide (fs.length=L+1)&&usB ns ds fs)=false:=by
      cases hu:usB ns ds fs
      ·simp
      ·rw [hu] at hf;simp at hf;simp [hf]
     rw [hff] at hfh'
     have zS:=jj hck'<|jj hdc'<|jj hla'<|jj hgm<|jj hL0<|hfh'
     refine dM64 ?_
     repeat (intro K hK)
     clear zS
     all_goals refine ⟨by simp,?_⟩
     all_goals simp [leaves_iff,Tryz.f53,nrows,prows]
     all_goals try exact dt
end Go.AM
namespace Go.AM
open Go Go.Proofs
def partR (w:Nat) (i:Int):Int×Int :=
 if (decR w).2≠0 then (0,(decR w).2)
 else if (decR w).1.1≠1∨(decR w).1.2.2.2.2.2=false then (0,11)
 else if i<0∨8≤i then (0,2)
 else encR (1,(decR w).1.2.1+i,(decR w).1.2.2.1,(decR w).1.2.2.2.1,(decR w).1.2.2.2.2.1,false)
theorem decR_rng (w:Nat):0≤(decR w).1.2.1∧(decR w).1.2.1≤4294967295:=by
 unfold decR
 split
 ·exact (prs_rng w).2
 ·decide
set_option maxHeartbeats 4000000 in
theorem s68 (X:AX) (hX:XOK Tryz.prog X) (hw:X.W wT) (hdc:∀ n:Nat,n<2^64→∀ M k,X.call 56 [U n] M k=some (.tup [EnV (decR n).1,I (decR n).2],[]))
  (hen:∀ k f d a x h M n,X.call 143 [.agg [I k,I f,B d,B a,B x,B h]] M n=some (.tup [U (encR (k,f,d,a,x,h)).1,I (encR (k,f,d,a,x,h)).2],[])) :
  PSound Tryz.prog 68 (specF (ι:={x:Nat×Int // x.1<2^64}) (fun x=>[U x.1.1,I x.1.2]) fun x=>retOf [U (partR x.1.1 x.1.2).1,I (partR x.1.1 x.1.2).2]):=by
 refine psound_spec hX mixed Tryz.func68 rfl fun ⟨⟨w,i⟩,hw64⟩ w0 G=>⟨by show 2≤40;decide,rfl,?_⟩
 show AW ⟨Tryz.prog,X,40,w0,.pure G⟩ _ _ _
 have hc:Cx.OK ⟨Tryz.prog,X,40,w0,.pure G⟩:=⟨hX,mixed⟩
 simp only at hw64 ⊢
 have hdc':=hdc w hw64
 have hr:=decR_rng w
 unfold partR
 obtain ⟨⟨⟨k,f,d,a,x,h⟩,e⟩,hE⟩:∃ r,r=decR w:=⟨_,rfl⟩
 rw [← hE] at hdc' hr ⊢
 clear hE
 simp only at hr ⊢
 simp only [EnV,U] at hdc' ⊢
 have hen':=hen 1 (f+i) d a x false
 obtain ⟨⟨e1,e2⟩,hR⟩:∃ R,R=encR (1,f+i,d,a,x,false):=⟨_,rfl⟩
 rw [← hR] at hen' ⊢
 simp only [U] at hen'
 rcases Decidable.em (e=0) with he|he
 ·subst he
  rw [if_neg (by simp)]
  rcases Decidable.em (k=1) with hk|hk
  ·subst hk
   cases h with
   | false =>
    rw [if_pos (.inr rfl)]
    have zS:=hdc'
    refine dM64 ?_
    repeat (intro K hK)
    clear zS
    all_goals refine ⟨by simp,?_⟩
    all_goals simp [leaves_iff,Tryz.f68]
    all_goals try exact dt
   | true =>
    rw [if_neg (by simp)]
    rcases Decidable.em (i<0) with hi|hi
    ·rw [if_pos (.inl hi)]
     have zS:=jj hdc'<|hi
     refine dM64 ?_
     repeat (intro K hK)
     clear zS
     all_goals refine ⟨by simp,?_⟩
     all_goals simp [leaves_iff,Tryz.f68]
     all_goals try exact dt
    ·rcases Decidable.em (8≤i) with hi2|hi2
     ·rw [if_pos (.inr hi2)]
      have zS:=jj hdc'<|jj hi<|hi2
      refine dM64 ?_
      repeat (intro K hK)
      clear zS
      all_goals refine ⟨by simp,?_⟩
      all_goals simp [leaves_iff,Tryz.f68]
      all_goals try exact dt
     ·rw [if_neg (by omega)]
      have zS:=jj hdc'<|jj hi<|jj hi2<|hen'
      refine dM64 ?_
      repeat (intro K hK)
      clear zS
      all_goals refine ⟨by simp,?_⟩
      all_goals simp [leaves_iff,Tryz.f68]
      all_goals try exact dt
  ·rw [if_pos (.inl hk)]
   have zS:=jj hdc'<|hk
   refine dM64 ?_
   repeat (intro K hK)
   clear zS
   all_goals refine ⟨by simp,?_⟩
   all_goals simp [leaves_iff,Tryz.f68]
   all_goals try exact dt
 ·rw [if_pos he]
  have zS:=jj hdc'<|he
  refine dM64 ?_
  repeat (intro K hK)
  clear zS
  all_goals refine ⟨by simp,?_⟩
  all_goals simp [leaves_iff,Tryz.f68]
  all_goals try exact dt
end Go.AM
namespace Go.AM
open Go Go.Proofs
theorem decR_enc {k f:Int} {d a x h:Bool} (hk:0≤k∧k≤4) (hf:0≤f∧f≤4294967295) (hb:¬ badF (k,f,d,a,x,h)) (hm:frmE (k,f,d,a,x,h)=true):∃ n:Nat,encR (k,f,d,a,x,h)=((n:Int),0)∧n<2^64∧decR n=((k,f,d,a,x,h),0):=by
 have he:encR (k,f,d,a,x,h)=(encW (k,f,d,a,x,h),0):=encR_z hk hb hm
 obtain ⟨kn,rfl⟩:=Int.eq_ofNat_of_zero_le hk.1
 obtain ⟨fn,rfl⟩:=Int.eq_ofNat_of_zero_le hf.1
 obtain ⟨n,hn⟩:∃ n:Nat,n=kn+(if d then 8 else 0)+(if a then 16 else 0)+(if x then 32 else 0)+(if h then 64 else 0)+fn*256:=⟨_,rfl⟩
 have hw:encW ((kn:Int),(fn:Int),d,a,x,h)=(n:Int):=by
  unfold encW fb
  rw [hn]
  cases d<;>cases a<;>cases x<;>cases h<;>simp<;>omega
 have hp:prs n=((kn:Int),(fn:Int),d,a,x,h):=by
  unfold prs
  have e1:n%8=kn:=by rw [hn];cases d<;>cases a<;>cases x<;>cases h<;>simp<;>omega
  have e2:n/256%4294967296=fn:=by rw [hn];cases d<;>cases a<;>cases x<;>cases h<;>simp<;>omega
  have t:∀ j,n.testBit j=decide (n/2^j%2=1):=fun j=>Nat.testBit_eq_decide_div_mod_eq
  have b3:n.testBit 3=d:=by rw [t,hn];cases d<;>cases a<;>cases x<;>cases h<;>simp<;>omega
  have b4:n.testBit 4=a:=by rw [t,hn];cases d<;>cases a<;>cases x<;>cases h<;>simp<;>omega
  have b5:n.testBit 5=x:=by rw [t,hn];cases d<;>cases a<;>cases x<;>cases h<;>simp<;>omega
  have b6:n.testBit 6=h:=by rw [t,hn];cases d<;>cases a<;>cases x<;>cases h<;>simp<;>omega
  rw [e1,e2,b3,b4,b5,b6]
 refine ⟨n,by rw [he,hw],?_,by rw [decR_z (by rw [hp,he,hw]),hp]⟩
 rw [hn]
 cases d<;>cases a<;>cases x<;>cases h<;>simp<;>omega
theorem decR_ok {w:Nat} (h:(decR w).2=0):(0≤(decR w).1.1∧(decR w).1.1≤4)∧¬ badF (decR w).1∧frmE (decR w).1=true∧encR (decR w).1=((w:Int),0):=by
 by_cases he:encR (prs w)=((w:Int),0)
 ·rw [decR_z he]
  simp only
  have hrg:=prs_rng w
  by_cases hk:0≤(prs w).1∧(prs w).1≤4
  ·by_cases hb:badF (prs w)
   ·rw [encR_f hk hb] at he;simp at he
   ·cases hm:frmE (prs w) with
    | false=>rw [encR_m hk hb hm] at he;simp at he
    | true=>exact ⟨hk,hb,rfl,he⟩
  ·rw [encR_k hk] at he;simp at he
 ·rw [decR_n he] at h;simp at h
theorem kind_huge {w:Nat} (h:(decR w).2=0) (hh:(decR w).1.2.2.2.2.2=true):(decR w).1.1=1:=by
 obtain ⟨hk,hb,hm,_⟩:=decR_ok h
 obtain ⟨⟨k,f,d,a,x,h0⟩,hE⟩:∃ e,e=(decR w).1:=⟨_,rfl⟩
 rw [← hE] at hk hb hm hh ⊢
 simp only at hk hh ⊢
 subst hh
 unfold frmE noFl at hm
 simp only at hm
 by_cases h1:k=1
 ·exact h1
 ·rw [if_neg h1] at hm
  simp at hm
theorem part_ok {w:Nat} (h:(decR w).2=0) (hh:(decR w).1.2.2.2.2.2=true) {i:Nat} (hi:i<8):∃ n:Nat,partR w i=((n:Int),0)∧n<2^64∧(decR n)=((1,(decR w).1.2.1+i,(decR w).1.2.2.1,(decR w).1.2.2.2.1,(decR w).1.2.2.2.2.1,false),0):=by
 obtain ⟨hk,hb,hm,_⟩:=decR_ok h
 have h1:=kind_huge h hh
 have hr:=decR_rng w
 unfold partR
 rw [if_neg (by simp [h]),if_neg (by simp [h1,hh]),if_neg (by omega)]
 have hb2:(decR w).1.2.1≤4294967288:=by
  unfold badF at hb
  simp only [h1,hh,true_and] at hb
  omega
 exact decR_enc (by decide) (by omega) (by unfold badF;simp only;simp;omega) (by rfl)
def spW (w i:Nat):Nat:=(partR w i).1.toNat
theorem spW_ok {w:Nat} (h:(decR w).2=0) (hh:(decR w).1.2.2.2.2.2=true) {i:Nat} (hi:i<8):partR w i=(((spW w i:Nat):Int),0)∧spW w i<2^64∧tabW (spW w i)=none∧okWb 0 (spW w i)=true:=by
 obtain ⟨n,h1,h2,h3⟩:=part_ok h hh hi
 have e:spW w i=n:=by unfold spW;rw [h1];simp
 rw [e]
 refine ⟨h1,h2,?_,?_⟩
 ·unfold tabW;rw [h3];rfl
 ·unfold okWb;rw [h3];rfl
theorem Pv.put {r:Int} {ns:NdL} {ds:List Dp} (h:Pv (r,ns,ds)) (ht:tbOK (r,ns,ds)) {p:Nat} (hp:p<512) {f:Int} {l w0 w:Nat} (hw:wlk (Mof ns) r p=(f,l,w0)) (hw64:w<2^64) (htb:tabW w=none) (hok:okWb l w=true) :
  Pv (r,(putT (r,ns,ds) p w).2.1,ds)∧tbOK (r,(putT (r,ns,ds) p w).2.1,ds)∧Mof (putT (r,ns,ds) p w).2.1=updW (Mof ns) f (dgt p l) w∧(∀ d q,(d,q)∈Pos→frP WA (Mof (putT (r,ns,ds) p w).2.1) r d q=frP WA (Mof ns) r d q)∧(putT (r,ns,ds) p w).2.1.length=ns.length:=by
 obtain ⟨hl2,hx,hfp,hwm,htn,_⟩:=wlk_at h.vm hp hw
 simp only at hfp hwm hx
 have hwk:=h.walk hp
 simp only at hwk
 have hfn:=hwk.2.1
 have hlv:=hwk.2.2
 rw [hw] at hfn hlv
 simp only at hfn hlv
 have hnl:(lsT (r,ns,ds) p).1<ns.length:=fnd_lt hfn
 have hst:(putT (r,ns,ds) p w).2.1=setN ns (lsT (r,ns,ds) p).1 (dgt p l) w:=by unfold putT;simp only [hlv]
 have hM:Mof (putT (r,ns,ds) p w).2.1=updW (Mof ns) f (dgt p l) w:=by rw [hst];exact Mof_ext (Mof_set h.asc hfn)
 have hpt:=h.vm.put hx hfp (i:=dgt p l) (w:=w) (dgt_lt p l) (by show tabW w=tabW _;rw [← hwm,htb,htn]) (by show okWb (2 - (2 - l)) w=true;rw [show 2 - (2 - l)=l by omega];exact hok)
 simp only at hpt
 rw [← hM] at hpt
 refine ⟨⟨by show ascN (putT (r,ns,ds) p w).2.1;rw [hst];exact setN_asc h.asc hnl,hpt.1⟩,⟨?_,?_,ht.2.2⟩,hM,hpt.2,by rw [hst,setN_len]⟩
 ·show ∀ x∈(putT (r,ns,ds) p w).2.1,ndOK x
  rw [hst];exact setN_ok ht.1 hw64 hnl
 ·show (putT (r,ns,ds) p w).2.1.length≤_
  rw [hst,setN_len];exact ht.2.1
theorem wlk_put {M M':Mm} {root:Int} (hV:VM WA M root) {p:Nat} (hp:p<512) {f:Int} {l w0 w:Nat} (hw:wlk M root p=(f,l,w0)) (htb:tabW w=none) (hM:M'=updW M f (dgt p l) w) (hfr:∀ d q,(d,q)∈Pos→frP WA M' root d q=frP WA M root d q)
  {p':Nat} (hp':p'<512) {f':Int} {l' w':Nat} (hw':wlk M root p'=(f',l',w')):wlk M' root p'=(f',l',if f'=f∧dgt p' l'=dgt p l then w else w'):=by
 obtain ⟨a1,a2,a3,a4,a5,a6⟩:=wlk_at hV hp hw
 obtain ⟨b1,b2,b3,b4,b5,b6⟩:=wlk_at hV hp' hw'
 obtain ⟨ws,c1,c2,_⟩:=hV.nd _ _ a2 f a3
 have e:wM M' f' (dgt p' l')=if f'=f∧dgt p' l'=dgt p l then w else w':=by
  rw [hM,wM_updW c1 (by have:=dgt_lt p l;omega),← b4]
 have:=wlk_of (M:=M') hp' (l:=l') b1 (by rw [hfr _ _ b2];exact b3) (.inl (by
  rw [e]
  split
  ·exact htb
  ·exact b5))
 rw [this,e]
theorem wlk_put_self {M M':Mm} {root:Int} (hV:VM WA M root) {p:Nat} (hp:p<512) {f:Int} {l w0 w:Nat} (hw:wlk M root p=(f,l,w0)) (htb:tabW w=none) (hM:M'=updW M f (dgt p l) w) (hfr:∀ d q,(d,q)∈Pos→frP WA M' root d q=frP WA M root d q):wlk M' root p=(f,l,w):=by
 rw [wlk_put hV hp hw htb hM hfr hp hw,if_pos ⟨rfl,rfl⟩]
theorem lowD_key {ds:List Dp} (ha:ascK ds) {g:Int} (h:g∈ds.map (·.1)):lowD ds g<ds.length∧(gp ds (lowD ds g)).1=g:=by
 obtain ⟨d,hd,e⟩:=List.mem_map.1 h
 obtain ⟨i,hi,rfl⟩:=List.getElem_of_mem hd
 have e2:lowD ds g=i:=by
  refine lowD_at (by omega) (fun k hk=>?_) fun _=>?_
  ·have:=gp_asc ha hk hi
   rw [gp_eq hi] at this
   omega
  ·rw [gp_eq hi];omega
 rw [e2]
 exact ⟨hi,by rw [gp_eq hi];exact e⟩
end Go.AM
set_option maxHeartbeats 2000000
namespace Go.AM
open Go Go.Proofs
set_option maxRecDepth 4000 in
theorem callWd {a b c:Nat} (hab:a≠b) (hac:a≠c) (hbc:b≠c) {r:Int} {ns:NdL} {ds:List Dp} {g:Int} (ht:tbOK (r,ns,ds)) (ha:ascK ds) (hl:lowD ds g<ds.length) {v v2:Nat} (M:Nat→AO) (nid:Nat)
  (h0:M a=.box [I r,.sl b (v+1) 9 0 ns.length,.sl c (v2+1) 2 0 ds.length]) (h1:M b=.vec (v+1) 9 false (nrows ns)) (h2:M c=.vec (v2+1) 2 false (prows ds)) :
  callG wdS [.bp a 0,I g] M nid=some (I (gp ds (lowD ds g)).2,[(a,.box [I r,.sl b (v+1) 9 0 ns.length,.sl nid 1 2 0 (ds.length - 1)]),(b,.vec (v+1) 9 false (nrows ns)),(c,.dead),(nid,.vec 1 2 false (prows (delL ds g)))]):=by
 have hF:=wdS_at (t:=(r,ns,ds)) (g:=g) ht ha hl
 simp only [pMs,oM,delL_len hl] at hF
 unfold callG
 have hba:b≠a:=fun e=>hab e.symm
 have hca:c≠a:=fun e=>hac e.symm
 have hcb:c≠b:=fun e=>hbc e.symm
 have hg:gat M 64 (nmsL [.bp a 0,I g]) []=[a,b,c]:=by
  simp [gat,nmsL,AV.nms,AO.nms,h0,h1,h2,hab,hac,hbc,hba,hca,hcb]
 simp only [hg]
 rw [if_pos ?cg]
 case cg=>simp [CallG,nmsL,AV.nms,AO.nms,Led,curBL,AV.curB,AO.curB,verOf,notDead,h0,h1,h2,hab,hac,hbc,hba,hca,hcb]
 have e1:1+v=v+1:=by omega
 simp [renL,AV.ren,AO.ren,posN,canO,nmsL,h0,h1,h2,hF,RetG,getL,AV.nms,AO.nms,updN,nmN,shN,verOf,rng,Led,hab,hac,hbc,hba,hca,hcb,e1]
theorem deB_2 {t:Tb} {p f:Nat} (h:dpC t.1 t.2.2 p t.2.1 f):deB [.bp 0 0,I p,.sl 3 1 1 0 1] (pMs t 1 1++[.vec 1 1 false [[I f]]])=some (.tup [],pMs (t.1,stD t.1 t.2.2 p t.2.1 f,t.2.2) 2 1++[.vec 1 1 false [[I f]]]):=orG_2 (specG_none fun i h1 _=>by
 simp only [List.cons.injEq,reduceCtorEq,false_and,and_false] at h1) (deS2_at h)
set_option maxRecDepth 4000 in
theorem callD2 {a b c e:Nat} (hab:a≠b) (hac:a≠c) (hbc:b≠c) (hae:a≠e) (hbe:b≠e) (hce:c≠e) {r:Int} {ns:NdL} {ds:List Dp} {p f:Nat} (h:dpC r ds p ns f) {L1 L2:Nat} (hL1:L1=ns.length) (hL2:L2=ds.length) {v v2:Nat} (M:Nat→AO) (nid:Nat)
  (h0:M a=.box [I r,.sl b (v+1) 9 0 L1,.sl c (v2+1) 2 0 L2]) (h1:M b=.vec (v+1) 9 false (nrows ns)) (h2:M c=.vec (v2+1) 2 false (prows ds)) (h3:M e=.vec 1 1 false [[I f]]) :
  callG deB [.bp a 0,I p,.sl e 1 1 0 1] M nid=some (.tup [],[(a,.box [I r,.sl b (v+2) 9 0 (stD r ds p ns f).length,.sl c (v2+1) 2 0 L2]),(b,.vec (v+2) 9 false (nrows (stD r ds p ns f))),(c,.vec (v2+1) 2 false (prows ds)),(e,.vec 1 1 false [[I f]])]):=by
 subst hL1 hL2
 have hF:=deB_2 (t:=(r,ns,ds)) h
 simp only [pMs,List.cons_append,List.nil_append] at hF
 unfold callG
 have hba:b≠a:=fun e=>hab e.symm
 have hca:c≠a:=fun e=>hac e.symm
 have hcb:c≠b:=fun e=>hbc e.symm
 have hea:e≠a:=fun k=>hae k.symm
 have heb:e≠b:=fun k=>hbe k.symm
 have hec:e≠c:=fun k=>hce k.symm
 have hg:gat M 64 (nmsL [.bp a 0,I p,.sl e 1 1 0 1]) []=[a,b,c,e]:=by
  simp [gat,nmsL,AV.nms,AO.nms,h0,h1,h2,h3,hab,hac,hbc,hba,hca,hcb,hae,hbe,hce,hea,heb,hec]
 simp only [hg]
 rw [if_pos ?cg]
 case cg=>simp [CallG,nmsL,AV.nms,AO.nms,Led,curBL,AV.curB,AO.curB,verOf,notDead,h0,h1,h2,h3,hab,hac,hbc,hba,hca,hcb,hae,hbe,hce,hea,heb,hec]
 have e1:2+v=v+2:=by omega
 have e2:1+v2=v2+1:=by omega
 simp [renL,AV.ren,AO.ren,posN,canO,nmsL,h0,h1,h2,h3,hF,RetG,getL,AV.nms,AO.nms,updN,nmN,shN,verOf,rng,Led,hab,hac,hbc,hba,hca,hcb,hae,hbe,hce,hea,heb,hec,e1,e2]
theorem tab0:tabW 0=none:=(wdZ fun _=>true).tab
theorem ok0 (l:Nat):okWb l 0=true:=(wdZ fun _=>true).ok l
def spN (r:Int) (ds:List Dp) (p w:Nat) (ns:NdL):Nat→NdL
 | 0=>ns
 | k+1=>(putT (r,spN r ds p w ns k,ds) (p+k) (spW w k)).2.1
def spB (t:Tb) (p:Nat) (f:Int):NdL:=stD t.1 t.2.2 p (putT t p 0).2.1 f
def splN (t:Tb) (g:Nat) (w:Nat):Tb:=(t.1,spN t.1 t.2.2 (g*8) w (spB t (g*8) (gp t.2.2 (lowD t.2.2 g)).2) 8,delL t.2.2 g)
noncomputable def splP (t:Tb) (g:Int):Tb×Int :=
 if ckd t g 64≠0 then (zT,ckd t g 64)
 else if (lsT t (g.toNat*8)).2.1=1∧(decR (lsT t (g.toNat*8)).2.2).1.2.2.2.2.2=true then (splN t g.toNat (lsT t (g.toNat*8)).2.2,0)
 else (zT,6)
theorem split_steps {r:Int} {ns:NdL} {ds:List Dp} (hv:Vt (r,ns,ds)) (ht:tbOK (r,ns,ds)) (hl9:ns.length≤999000) {g p:Nat} (hg:g<64) (hpg:p=g*8) {f0:Int} {w:Nat} (hw:wlk (Mof ns) r p=(f0,1,w)) (hh:(decR w).1.2.2.2.2.2=true) :
  (decR w).2=0∧lowD ds g<ds.length∧(∃ f:Nat,(gp ds (lowD ds g)).2=f∧f≤4294967295∧dpC r ds p (putT (r,ns,ds) p 0).2.1 f) ∧
  (let N:=spB (r,ns,ds) p (gp ds (lowD ds g)).2;N.length=ns.length+1∧∀ k,k≤8→Pv (r,spN r ds p w N k,ds)∧tbOK (r,spN r ds p w N k,ds)∧(spN r ds p w N k).length=N.length ∧
   (∀ i,i<8→wlk (Mof (spN r ds p w N k)) r (p+i)=((gp ds (lowD ds g)).2,0,if i<k then spW w i else 0))∧Mof (spN r ds p w N k)=fun x=>if x=(gp ds (lowD ds g)).2 then some ((List.range 8).map fun i=>if i<k then spW w i else 0) else Mof N x):=by
 have hpv:=hv.pv
 have hp:p<512:=by omega
 obtain ⟨a1,a2,a3,a4,a5,a6⟩:=wlk_at hpv.vm hp hw
 have hd0:(decR w).2=0:=by
  unfold okWb at a6
  simp only [Bool.and_eq_true,decide_eq_true_eq] at a6
  exact a6.1
 have hk1:=kind_huge hd0 hh
 simp only at a3 a4
 have hgm:(g:Int)∈ds.map (·.1):=by
  have hd:=hv.dep
  simp only at hd
  rw [hd]
  refine mem_hugM.2 ⟨g,hg,rfl,hugB_iff.2 ⟨f0,?_,?_⟩⟩
  ·have:p/8^(1+1)=g/8:=by simp;omega
   rw [this] at a3
   exact a3
  ·have:dgt p 1=g%8:=by rw [dgt1];omega
   rw [← this,← a4]
   unfold hugW
   rw [hk1,hh];rfl
 obtain ⟨b1,b2⟩:=lowD_key (ds:=ds) hv.num.dasc hgm
 have hdm:=gp_mem b1
 have hdf:=(hv.num.df _ hdm).1
 obtain ⟨f,hf⟩:=Int.eq_ofNat_of_zero_le hdf.1
 have hf2:f≤4294967295:=by have:=hdf.2;rw [hf] at this;omega
 have hfn:∀ n∈ns,n.1≠(f:Int):=fun n hn=>by rw [← hf];exact hv.num.apart _ hdm n hn
 obtain ⟨c1,c2,c3,c4,c5⟩:=hpv.put ht hp hw (w:=0) (by omega) tab0 (ok0 1)
 have c6:=wlk_put_self hpv.vm hp hw (w:=0) tab0 c3 c4
 obtain ⟨N1,hN1⟩:∃ N1,N1=(putT (r,ns,ds) p 0).2.1:=⟨_,rfl⟩
 have hfr1:∀ n∈N1,n.1≠(f:Int):=by
  rw [hN1]
  exact setN_fr (lsT_lt hpv hp).1 hfn
 have hspB:spB (r,ns,ds) p (gp ds (lowD ds g)).2=stD r ds p N1 f:=by unfold spB;rw [hf,hN1]
 rw [← hN1] at c1 c2 c3 c4 c5 c6 ⊢
 obtain ⟨d1,d2,d3,d4,d5,d6⟩:=c1.grow c2 hp hf2 hfr1 (l:=0) c6 (by omega)
 refine ⟨hd0,b1,⟨f,hf,hf2,c1.pto c2 hp,hfr1,by omega,by omega⟩,?_⟩
 simp only
 rw [hspB,hf]
 obtain ⟨N,hN⟩:∃ N,N=stD r ds p N1 f:=⟨_,rfl⟩
 rw [← hN] at d1 d2 d3 d4 d5 ⊢
 have hMf:Mof N f=some zs8:=by rw [d3];simp [updM1]
 have hpl:frP WA (Mof N) r 2 g=some (f:Int):=by
  have:=(wlk_at d1.vm hp d4).2.2.1
  simp only at this
  have e:p/8^(0+1)=g:=by simp;omega
  rw [e] at this;exact this
 have hw0:∀ i,i<8→wlk (Mof N) r (p+i)=((f:Int),0,0):=fun i hi=>by
  have:=wlk_of (M:=Mof N) (root:=r) (p:=p+i) (by omega) (l:=0) (f:=f) (by omega) (by
   have e:(p+i)/8^(0+1)=g:=by simp;omega
   rw [e];exact hpl) (.inr rfl)
  rw [this]
  unfold wM;rw [hMf];simp only [zs8_getD]
 refine ⟨by rw [d5,c5],?_⟩
 intro k
 induction k with
 | zero =>
  intro _
  refine ⟨d1,d2,rfl,fun i hi=>by rw [if_neg (by omega)];exact hw0 i hi,?_⟩
  show Mof N=_
  funext x
  by_cases hx:x=(f:Int)
  ·rw [if_pos hx,hx,hMf];rfl
  ·rw [if_neg hx]
 | succ k ih =>
  intro hk
  obtain ⟨e1,e2,e3,e4,e5⟩:=ih (by omega)
  obtain ⟨s1,s2,s3,s4⟩:=spW_ok hd0 hh (i:=k) (by omega)
  have hpk:p+k<512:=by omega
  have hwk:=e4 k (by omega)
  rw [if_neg (by omega)] at hwk
  obtain ⟨q1,q2,q3,q4,q5⟩:=e1.put e2 hpk hwk s2 s3 s4
  have dg:∀ i,i<8→dgt (p+i) 0=i:=fun i hi=>by rw [dgt0];omega
  refine ⟨q1,q2,by show (putT _ _ _).2.1.length=_;rw [q5,e3],fun i hi=>?_,?_⟩
  ·have:=wlk_put e1.vm hpk hwk s3 q3 q4 (p':=p+i) (by omega) (e4 i hi)
   show wlk (Mof (putT _ _ _).2.1) r (p+i)=_
   rw [this,dg i hi,dg k (by omega)]
   simp only [true_and]
   by_cases hik:i=k
   ·subst hik;simp
   ·rw [if_neg hik]
    by_cases h1:i<k
    ·rw [if_pos h1,if_pos (by omega)]
    ·rw [if_neg h1,if_neg (by omega)]
  ·show Mof (putT _ _ _).2.1=_
   rw [q3,e5,dg k (by omega)]
   funext x
   unfold updW
   by_cases hx:x=(f:Int)
   ·subst hx
    simp only [if_true,Option.map_some]
    congr 1
    refine List.ext_getElem (by simp) fun i h1 h2=>?_
    simp only [List.getElem_set,List.getElem_map,List.getElem_range]
    by_cases hik:k=i
    ·subst hik;simp
    ·rw [if_neg hik]
     by_cases h3:i<k
     ·rw [if_pos h3,if_pos (by omega)]
     ·rw [if_neg h3,if_neg (by omega)]
   ·simp only [if_neg hx]
end Go.AM
