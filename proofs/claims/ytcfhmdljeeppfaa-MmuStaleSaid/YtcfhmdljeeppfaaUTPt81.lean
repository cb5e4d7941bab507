/- A part of the proof: what functions of the program compute, by abstract execution of their code. Its theorems hold without further condition. -/
import Derived.Test.YtcfhmdljeeppfaaUTMb0
import Derived.Test.YtcfhmdljeeppfaaUAmMp
import Derived.Test.YtcfhmdljeeppfaaUTPt72
import Derived.Test.YtcfhmdljeeppfaaUAmW
import Derived.Test.YtcfhmdljeeppfaaUAmQ
set_option linter.all false
namespace Go.AM
open Go Go.Proofs
set_option maxHeartbeats 8000000 in
theorem s54 (X:AX) (hX:XOK Try.prog X) (hw:X.W wT)
  (hwa:∀ (t:Tb) (x:Int),tbOK t→∀ M n,X.call 78 [TbV t,I x] M n=some (.tup [U (walkT t x).1,I (walkT t x).2.1,I (walkT t x).2.2],[]))
  (hdc:∀ n:Nat,n<2^64→∀ M k,X.call 96 [U n] M k=some (.tup [EnV (decR n).1,I (decR n).2],[]))
  (hsu:∀ (e:En) (l:Nat) M n,X.call 110 [EnV e,I l] M n=some (B (suitB e l),[]))
  (hcl:∀ t:Tb,tbOK t→∀ M n,X.call 51 [TbV t] M n=some (TbC t n,[(n,.vec 1 9 false (nrows t.2.1)),(n+1,.vec 1 2 false (prows t.2.2))]))
  (hst:OwnR X 107 (fun t x=>0≤x∧ptO t x.toNat) fun t x=>.tup [I (lsT t x.toNat).1,I (lsT t x.toNat).2.1])
  (hdg:∀ (p l:Nat),p<512→l≤2→∀ M n,X.call 108 [I p,I l] M n=some (I (dig p l),[])) :
  PSound Try.prog 54 (specF (ι:={x:Tb×Int×Nat // tbOK x.1∧x.2.2<2^64}) (fun x=>[TbV x.1.1,I x.1.2.1,U x.1.2.2]) fun x=>retOf [TbO (repP x.1.1 x.1.2.1 x.1.2.2).1,U (repP x.1.1 x.1.2.1 x.1.2.2).2.1,I (repP x.1.1 x.1.2.1 x.1.2.2).2.2]):=by
 refine psound_spec hX mixed Try.func54 rfl fun ⟨⟨⟨r,ns,ds⟩,pI,w⟩,ht,hw64⟩ w0 G=>⟨by show 3≤73;decide,rfl,?_⟩
 show AW ⟨Try.prog,X,73,w0,.pure G⟩ _ _ _
 have hc:Cx.OK ⟨Try.prog,X,73,w0,.pure G⟩:=⟨hX,mixed⟩
 simp only at hw64 ht ⊢
 have hwa':=hwa _ pI ht
 have hl1:ns.length≤1000000:=ht.2.1
 have hl2:ds.length≤1000000:=ht.2.2
 rcases Decidable.em (ckd (r,ns,ds) pI 512≠0) with hk|hk
 ·have e:repP (r,ns,ds) pI w=(zT,0,ckd (r,ns,ds) pI 512):=by unfold repP;rw [if_pos hk]
  rw [e]
  rw [walkT_n (by exact hk)] at hwa'
  obtain ⟨c,hc0⟩:∃ c,c=ckd (r,ns,ds) pI 512:=⟨_,rfl⟩
  rw [← hc0] at hwa' hk ⊢
  simp only [TbV,TbO,zT,U] at hwa' ⊢
  have zS:=jj hwa'<|hk
  refine dM64 ?_
  repeat (intro K hK)
  clear zS
  refine ⟨by simp,?_⟩
  simp [leaves_iff,Try.f54,nrows,prows]
  try exact dt
 ·obtain ⟨hpv,hp0,hp1⟩:=ckd_pt ht hk
  obtain ⟨p,rfl⟩:=Int.eq_ofNat_of_zero_le hp0
  have hp:p<512:=by omega
  have hz:ckd (r,ns,ds) p 512=0:=by omega
  rw [walkT_z hz,Int.toNat_natCast] at hwa'
  have hdc':=hdc w hw64
  have hlw:=lsT_u64 ht hpv hp
  have hst':=hst r ns ds p ⟨by omega,hpv.pto ht hp⟩
  have hcl':=hcl _ ht
  obtain ⟨hlt1,hlt2⟩:=lsT_lt hpv hp
  have eS:repP (r,ns,ds) p w=if (lsT (r,ns,ds) p).2.2=0 then (zT,0,6)
    else if (decR w).2≠0∨(decR w).1.1=0∨(decR w).1.1=4∨suitB (decR w).1 (lsT (r,ns,ds) p).2.1=false then (zT,0,3)
    else ((r,setN ns (lsT (r,ns,ds) p).1 (dgt p (lsT (r,ns,ds) p).2.1) w,ds),(lsT (r,ns,ds) p).2.2,0):=by
   unfold repP
   rw [if_neg hk,Int.toNat_natCast]
   rfl
  rw [eS]
  have hsu':=hsu (decR w).1 (lsT (r,ns,ds) p).2.1
  simp only [Int.toNat_natCast] at hst'
  obtain ⟨⟨a,b,c⟩,hS⟩:∃ S,S=lsT (r,ns,ds) p:=⟨_,rfl⟩
  rw [← hS] at hwa' hst' hlt1 hlt2 hsu' hlw ⊢
  simp only at hwa' hst' hlt1 hlt2 hsu' hlw ⊢
  obtain ⟨s,hs⟩:∃ s,s=suitB (decR w).1 b:=⟨_,rfl⟩
  rw [← hs] at hsu' ⊢
  obtain ⟨⟨⟨k,f,d,x,y,h⟩,e⟩,hE⟩:∃ r,r=decR w:=⟨_,rfl⟩
  rw [← hE] at hdc' hsu' ⊢
  clear eS hE hwa hdc hsu hs
  simp only [TbV,TbO,TbC,zT,EnV,U] at hwa' hdc' hsu' hcl' ⊢
  rcases Decidable.em (c=0) with hc0|hc0
  ·subst hc0
   have zS:=hwa'
   refine dM64 ?_
   repeat (intro K hK)
   clear zS
   all_goals refine ⟨by simp,?_⟩
   all_goals simp [leaves_iff,Try.f54,nrows,prows]
   all_goals try exact dt
  ·rw [if_neg hc0]
   have hc0I:¬ (c:Int)=0:=by omega
   rcases Decidable.em (e≠0∨k=0∨k=4∨s=false) with hb|hb
   ·rw [if_pos hb]
    rcases Decidable.em (e=0) with he|he
    ·rcases Decidable.em (k=0) with hk1|hk1
     ·have zS:=jj hwa'<|jj hdc'<|jj hc0<|jj hc0I<|jj he<|hk1
      refine dM64 ?_
      repeat (intro K hK)
      clear zS
      all_goals refine ⟨by simp,?_⟩
      all_goals simp [leaves_iff,Try.f54,nrows,prows]
      all_goals try exact dt
     ·rcases Decidable.em (k=4) with hk4|hk4
      ·have zS:=jj hwa'<|jj hdc'<|jj hc0<|jj hc0I<|jj he<|jj hk1<|hk4
       refine dM64 ?_
       repeat (intro K hK)
       clear zS
       all_goals refine ⟨by simp,?_⟩
       all_goals simp [leaves_iff,Try.f54,nrows,prows]
       all_goals try exact dt
      ·obtain rfl:s=false:=by
        rcases hb with hb|hb|hb|hb
        ·exact absurd he hb
        ·exact absurd hb hk1
        ·exact absurd hb hk4
        ·exact hb
       have zS:=jj hwa'<|jj hdc'<|jj hc0<|jj hc0I<|jj he<|jj hk1<|jj hk4<|hsu'
       refine dM64 ?_
       repeat (intro K hK)
       clear zS
       all_goals refine ⟨by simp,?_⟩
       all_goals simp [leaves_iff,Try.f54,nrows,prows]
       all_goals try exact dt
    ·have zS:=jj hwa'<|jj hdc'<|jj hc0<|jj hc0I<|he
     refine dM64 ?_
     repeat (intro K hK)
     clear zS
     all_goals refine ⟨by simp,?_⟩
     all_goals simp [leaves_iff,Try.f54,nrows,prows]
     all_goals try exact dt
   ·rw [if_neg hb]
    obtain ⟨rfl,hk1,hk4,rfl⟩:e=0∧k≠0∧k≠4∧s=true:=by
     refine ⟨by omega,by omega,by omega,?_⟩
     cases s
     ·exact absurd (Or.inr (Or.inr (Or.inr rfl))) hb
     ·rfl
    have haI:(a:Int)<(ns.length:Int):=by omega
    have hdg':=hdg p b hp hlt2
    rw [dig_dgt hp hlt2] at hdg'
    have hdl:=dgt_lt p b
    have hgn:=nrows_gi hlt1
    have hgnE:=nrows_gE hlt1
    have h8:(gn ns a).2.length=8:=(ht.1 _ (gn_mem hlt1)).1
    have hset:=@nrows_setN ns a (dgt p b) w hlt1
    have hwl:(wcs (gn ns a).2).length=8:=by simp [h8]
    have hsl:(setN ns a (dgt p b) w).length=ns.length:=setN_len
    have tkR:List.take ns.length (nrows (setN ns a (dgt p b) w))=nrows (setN ns a (dgt p b) w):=List.take_of_length_le (by simp)
    have tkd:List.take ds.length (prows ds)=prows ds:=List.take_of_length_le (by simp)
    obtain ⟨R,hR⟩:∃ R,R=setN ns a (dgt p b) w:=⟨_,rfl⟩
    rw [← hR] at hset hsl tkR ⊢
    obtain ⟨⟨fr,ws⟩,hm⟩:∃ m,m=gn ns a:=⟨_,rfl⟩
    rw [← hm] at hgn hgnE hwl hset
    simp only at hgn hgnE hwl hset
    obtain ⟨cs,hcs⟩:∃ cs,cs=wcs ws:=⟨_,rfl⟩
    rw [← hcs] at hgn hgnE hwl hset
    obtain ⟨dg,hdg0⟩:∃ dg,dg=dgt p b:=⟨_,rfl⟩
    rw [← hdg0] at hdl hdg' hset
    have hdI:(dg:Int)<8:=by omega
    have hs1:∀ w:Int,(I fr::cs).set (1+dg) (AV.v (.int .u64 w))=I fr::cs.set dg (AV.v (.int .u64 w)):=fun w=>by rw [Nat.add_comm];rfl
    clear hcs hm hR hS h8 hdg0
    simp only [U] at hset
    have zS:=jj hwa'<|jj hdc'<|jj hc0<|jj hc0I<|jj hk1<|jj hk4<|jj hsu'<|jj hcl'<|jj hst'<|jj hdg'<|jj hlt1<|jj haI<|jj hgn<|jj hgnE<|jj hwl<|jj hdl<|jj hdI<|jj hset<|hs1
    refine dF64 ?_
    repeat (intro K hK)
    clear zS
    refine ⟨by simp,?_⟩
    simp [leaves_iff,Try.f54,hsl,tkR,tkd]
    try exact dt
end Go.AM
set_option maxHeartbeats 16000000
namespace Go.AM
open Go Go.Proofs
theorem and_old {w:Nat} (hw:w<2^64):w &&& (18446744073709551615 - 16)=w - 16*(w/16%2):=by
 have key:∀ s:Fin 32,∀ j:Fin 5,(s.1 - 16*(s.1/16%2)).testBit j.1=(s.1.testBit j.1&&decide (j.1≠4)):=by decide
 obtain ⟨q,s,hs,rfl⟩:∃ q s,s<32∧w=2^5*q+s:=⟨w/32,w%32,Nat.mod_lt _ (by omega),by omega⟩
 have e1:(2^5*q+s)/16%2=s/16%2:=by omega
 have e2:2^5*q+s - 16*(s/16%2)=2^5*q+(s - 16*(s/16%2)):=by omega
 rw [e1,e2]
 have hq:q<2^59:=by omega
 refine Nat.eq_of_testBit_eq fun j=>?_
 rw [Nat.testBit_and,show (18446744073709551615 - 16:Nat)=2^5*576460752303423487+15 by omega,Nat.testBit_two_pow_mul_add _ (by omega:15<2^5),Nat.testBit_two_pow_mul_add _ (by omega:s<2^5),Nat.testBit_two_pow_mul_add _ (by omega:s - 16*(s/16%2)<2^5)]
 by_cases hj:j<5
 ·simp only [hj,if_true]
  rw [key ⟨s,hs⟩ ⟨j,hj⟩]
  have:∀ j:Fin 5,(15:Nat).testBit j.1=decide (j.1≠4):=by decide
  rw [this ⟨j,hj⟩]
 ·simp only [hj,if_false]
  rw [show (576460752303423487:Nat)=2^59 - 1 by omega,Nat.testBit_two_pow_sub_one]
  by_cases h5:j - 5<59
  ·simp [h5]
  ·have:q.testBit (j - 5)=false:=Nat.testBit_lt_two_pow (Nat.lt_of_lt_of_le hq (Nat.pow_le_pow_right (by omega) (by omega)))
   rw [this];simp
theorem old_enc {w:Nat} {k f:Int} {d a x h:Bool} (hw:w<2^64) (hd:decR w=((k,f,d,a,x,h),0)) (hk:k=1):encR (k,f,d,false,x,h)=((((odW w).1:Nat):Int),(odW w).2):=by
 obtain ⟨h1,h2,h3,h4⟩:=decR_ok (w:=w) (by rw [hd])
 have e:odW w=(w &&& (18446744073709551615 - 16),0):=by
  unfold odW
  rw [if_neg (by rw [hd];simp),if_neg (by rw [hd];simp [hk])]
 rw [e,and_old hw]
 rw [hd] at h1 h2 h3 h4
 simp only at h1 h2 h3 h4
 rw [encR_z h1 h2 h3] at h4
 have hb2:¬ badF (k,f,d,false,x,h):=h2
 have h3':frmE (k,f,d,false,x,h)=true:=by unfold frmE;rw [if_pos hk]
 rw [encR_z h1 hb2 h3']
 unfold encW fb at h4 ⊢
 unfold badF at h2
 simp only at h4 h2 ⊢
 rw [Prod.mk.injEq] at h4 ⊢
 refine ⟨?_,rfl⟩
 have h5:=h4.1
 cases d<;>cases a<;>cases x<;>cases h<;>simp at h5 ⊢<;>omega
theorem s53 (X:AX) (hX:XOK Try.prog X) (hw:X.W wT) (hde:∀ n:Nat,n<2^64→∀ M k,X.call 96 [U n] M k=some (.tup [EnV (decR n).1,I (decR n).2],[]))
  (hen:∀ (k f:Int) (d a x h:Bool) M n,X.call 109 [.agg [I k,I f,B d,B a,B x,B h]] M n=some (.tup [U (encR (k,f,d,a,x,h)).1,I (encR (k,f,d,a,x,h)).2],[])):PSound Try.prog 53 OdF:=by
 unfold OdF
 refine psound_spec hX mixed Try.func53 rfl fun ⟨w,hw64⟩ w0 G=>⟨by show 1≤22;decide,rfl,?_⟩
 show AW ⟨Try.prog,X,22,w0,.pure G⟩ _ _ _
 have hc:Cx.OK ⟨Try.prog,X,22,w0,.pure G⟩:=⟨hX,mixed⟩
 simp only at hw64 ⊢
 have hd:=hde w hw64
 have oe:=@old_enc w
 have e0:odW w=if (decR w).2≠0 then (0,(decR w).2) else if (decR w).1.1≠1 then (0,11) else (w &&& (18446744073709551615 - 16),0):=rfl
 obtain ⟨⟨w2,er2⟩,hO⟩:∃ y,y=odW w:=⟨_,rfl⟩
 rw [← hO] at e0 oe ⊢
 obtain ⟨⟨⟨k,num,b1,b2,b3,hg⟩,er⟩,hx⟩:∃ x,x=decR w:=⟨_,rfl⟩
 rw [← hx] at hd e0
 simp only [EnV,U] at hd e0 oe ⊢
 rcases Decidable.em (er=0) with h1|h1
 ·rw [if_neg (by simp [h1])] at e0
  rcases Decidable.em (k=1) with h2|h2
  ·subst h1
   have en:=hen k num b1 false b3 hg
   rw [oe hw64 hx.symm h2] at en
   simp only [U] at en
   subst h2
   have zS:=jj hd<|en
   refine dF64 ?_
   repeat (intro K hK)
   clear zS
   refine ⟨by simp,?_⟩
   simp [leaves_iff,Try.f53]
   try exact dt
  ·rw [if_pos h2] at e0
   obtain ⟨rfl,rfl⟩:=Prod.mk.inj e0
   subst h1
   have zS:=jj hd<|h2
   refine dF64 ?_
   repeat (intro K hK)
   clear zS
   refine ⟨by simp,?_⟩
   simp [leaves_iff,Try.f53]
   try exact dt
 ·rw [if_pos h1] at e0
  obtain ⟨rfl,rfl⟩:=Prod.mk.inj e0
  have zS:=jj hd<|h1
  refine dF64 ?_
  repeat (intro K hK)
  clear zS
  refine ⟨by simp,?_⟩
  simp [leaves_iff,Try.f53]
  try exact dt
def ReO6 (X:AX):Prop:=∀ (t:Tb) (p:Int) (w:Nat),tbOK t→w<2^64→∀ (a va b vb:Nat) (fa fb:Bool) (M:Nat→AO) (n:Nat),M a=.vec va 9 fa (nrows t.2.1)→M b=.vec vb 2 fb (prows t.2.2) →
 X.call 54 [TbS t a va b vb,I p,U w] M n=some (.tup [TbC (repP t p w).1 n,U (repP t p w).2.1,I (repP t p w).2.2],outT (repP t p w).1 n)
theorem reO6 {X:AX} (h:X.call 54=callP ReF):ReO6 X:=fun t p w ht hw a va b vb fa fb M n h1 h2=>by
 rw [h]
 unfold ReF
 rw [callP_spec (ι:={x:Tb×Int×Nat // tbOK x.1∧x.2.2<2^64}) (A:=fun x=>[TbV x.1.1,I x.1.2.1,U x.1.2.2]) (R:=fun x=>retOf [TbO (repP x.1.1 x.1.2.1 x.1.2.2).1,U (repP x.1.1 x.1.2.1 x.1.2.2).2.1,I (repP x.1.1 x.1.2.1 x.1.2.2).2.2]) ⟨(t,p,w),ht,hw⟩ (peek_tab ⟨⟨fa,h1⟩,fb,h2⟩ (by simp [U])) ?_ (by rw [open_rep];simp only;omega),open_rep]
 rintro ⟨⟨t',p',w'⟩,h'⟩ e
 simp only [List.cons.injEq,TbV_inj,U,I,AV.v.injEq,Value.int.injEq,true_and,and_true,Int.ofNat_inj] at e
 obtain ⟨rfl,rfl,rfl⟩:=e;rfl
theorem s21 (X:AX) (hX:XOK Try.prog X) (hw:X.W wT) (hch:∀ t:Tb,tbOK t→∀ M n,X.call 35 [TbV t] M n=some (I (chk t),[]))
  (hcT:∀ t:Tb,tbOK t→∀ M n,X.call 51 [TbV t] M n=some (TbC t n,outT t n))
  (hli:∀ t:Tb,tbOK t→∀ M n,X.call 52 [TbV t] M n=some (.sl n 1 2 0 (lstT t).length,[(n,.vec 1 2 false (erows (lstT t)))]))
  (het:∀ w:Nat,w<2^64→∀ M k,X.call 46 [U w] M k=some (EnV (decR w).1,[]))
  (hod:∀ w:Nat,w<2^64→∀ M k,X.call 53 [U w] M k=some (.tup [U (odW w).1,I (odW w).2],[])) (hre:ReO6 X):PSound Try.prog 21 HaF:=by
 unfold HaF
 refine psound_spec hX mixed Try.func21 rfl fun ⟨⟨r,ns,ds⟩,ht⟩ w0 G=>⟨by show 1≤65;decide,rfl,?_⟩
 show AW ⟨Try.prog,X,65,w0,.pure G⟩ _ _ _
 have hc:Cx.OK ⟨Try.prog,X,65,w0,.pure G⟩:=⟨hX,mixed⟩
 have ch:=hch _ ht
 have cT:=hcT _ ht
 have li:=hli _ ht
 have hlu:=lst_u64 ht
 rcases Decidable.em (chk (r,ns,ds)=0) with h0|h0
 ·have e:haT (r,ns,ds)=((haL (r,ns,ds) (lstT (r,ns,ds)) (lstT (r,ns,ds)).length).1,(haL (r,ns,ds) (lstT (r,ns,ds)) (lstT (r,ns,ds)).length).2,0):=by unfold haT;rw [if_neg (by simp [h0])]
  rw [e]
  rw [h0] at ch
  have hll:=@lstT_l5 (r,ns,ds)
  obtain ⟨l,hl⟩:∃ l,l=lstT (r,ns,ds):=⟨_,rfl⟩
  rw [← hl] at li hlu hll ⊢
  clear hl
  simp only [TbV,TbC,outT,TbO] at ch cT li ⊢
  have zS:=jj ch<|jj cT<|li
  repeat' (first|(apply aw_seq_k;intro K hK)|(refine eM64 ?_)|(refine aw_cond (b:=_) (by exact rfl) (fun h=>?_) (fun h=>?_)<;>(try simp at h))|(refine eB ?_)|(refine hK _ ?_;clear hK)|(clear hK;refine hK _ ?_;clear hK)|(clear hK;clear hK;refine hK _ ?_;clear hK)|(clear hK;clear hK;clear hK;refine hK _ ?_;clear hK))
  all_goals clear zS
  refine aw_weaken (le_nilslot (t:=7) (sz:=1) (by simp)) ?_
  obtain ⟨t0,ht0⟩:∃ t0:Tb,t0=(r,ns,ds):=⟨_,rfl⟩
  rw [← ht0] at ht ⊢
  refine aw_loopK (s0:=?lps1) (m0:=?lpm1) (ι:={i:Nat // i≤l.length}) [2,6,25,26] (fun i=>[(27,I i.1),(7,.sl 288 1 1 0 (haL t0 l i.1).2.length)]) (fun i=>[(288,.vec 1 1 false (irows (haL t0 l i.1).2)),(176,.box [I (haL t0 l i.1).1.1,.sl 160 1 9 0 (haL t0 l i.1).1.2.1.length,.sl 161 1 2 0 (haL t0 l i.1).1.2.2.length]),(160,.vec 1 9 false (nrows (haL t0 l i.1).1.2.1)),(161,.vec 1 2 false (prows (haL t0 l i.1).1.2.2))]) (fun i=>l.length - i.1) ⟨0,by omega⟩ ?lhs1 ?lhm1 ?_ ?_
  case lhs1=>first|(simp [keepS];done)|(simp [keepS];rfl)
  case lhm1=>first|rfl|(simp;done)|(simp;rfl)
  ·simp only [show haL t0 l 0=((r,ns,ds),[]) by rw [ht0];rfl]
   exact le_of2 (by simp) (by simp [AVle,AV.under,AV.underL,irows]<;>omega) (by simp [AOle,AO.under,AV.underL,AV.under,irows]<;>omega)
  ·rintro ⟨i,hi⟩
   simp only
   rcases Decidable.em (i<l.length) with hil|hil
   ·have hilI:(i:Int)<(l.length:Int):=by omega
    have hg:=erows_giM hil
    have hgE:=erows_gEM hil
    have hu:=hlu _ (gpe_mem hil)
    have hst:=@haL_s t0 l i hil
    obtain ⟨ok1,ok2⟩:=haL_ok ht hlu (i:=i) (by omega)
    have de:=het _ hu
    have od:=hod _ hu
    have odl:=odW_lt hu
    obtain ⟨⟨p,x⟩,hm⟩:∃ m,m=gpe l i:=⟨_,rfl⟩
    rw [← hm] at hg hgE hst hu de od odl
    obtain ⟨⟨⟨r1,ns1,ds1⟩,L⟩,hL⟩:∃ L,L=haL t0 l i:=⟨_,rfl⟩
    rw [← hL] at hst ok1 ok2
    simp only [← hL]
    unfold haS at hst
    simp only [U] at hg hgE hst de od odl ok1 ok2
    obtain ⟨⟨k,num,b1,b2,b3,hgf⟩,hx⟩:∃ y,y=(decR x).1:=⟨_,rfl⟩
    rw [← hx] at hst de
    obtain ⟨⟨w2,er2⟩,hx2⟩:∃ y,y=odW x:=⟨_,rfl⟩
    rw [← hx2] at hst od odl
    simp only [EnV] at hst de od odl
    have hL5:L.length≤512:=by omega
    rcases Decidable.em (k=1) with hk1|hk1
    ·cases b2 with
     | true =>
      rw [if_neg (by simp [hk1])] at hst
      have re:=hre _ p w2 ok1 odl 160 1 161 1 false false
      simp only [TbS,TbC,outT,U] at re
      obtain ⟨⟨⟨r2,ns2,ds2⟩,w3,er3⟩,hx3⟩:∃ y,y=repP (r1,ns1,ds1) p w2:=⟨_,rfl⟩
      rw [← hx3] at re hst
      simp only at re hst
      have htk:=irows_tkl L
      have hap:=irows_ap L p
      subst hk1
      have zS:=jj hilI<|jj hil<|jj hg<|jj hgE<|jj de<|jj od<|jj re<|jj hL5<|jj htk<|hap
      repeat' (first|(apply aw_seq_k;intro K hK)|(refine eM64 ?_)|(refine aw_cond (b:=_) (by exact rfl) (fun h=>?_) (fun h=>?_)<;>(try simp at h))|(refine eB ?_)|(refine hK _ ?_;clear hK)|(clear hK;refine hK _ ?_;clear hK)|(clear hK;clear hK;refine hK _ ?_;clear hK)|(clear hK;clear hK;clear hK;refine hK _ ?_;clear hK))
      all_goals clear zS
      refine ⟨i+1,?_,by omega,by omega⟩
      simp only [hst]
      refine le_turn (s1:=?tus2) (m1:=?tum2) [(753,160),(754,161)] [2,6,7,25,26,27] [0,16,176,240,288,753,754] ?tua2 ?tub2 ?tuc2 ?tud2 ?tue2 ?tuf2 ?tug2
      case tua2=>first|(simp [keepS];done)|(simp [keepS];rfl)
      case tub2=>first|(simp;done)|(simp;rfl)
      case tuc2=>simp
      case tud2=>simp
      case tue2=>simp
      case tuf2=>simp
      case tug2 =>
       simp [swp,vr]
       exact dle
     | false =>
      rw [if_pos (by simp)] at hst
      subst hk1
      have zS:=jj hilI<|jj hil<|jj hg<|jj hgE<|de
      repeat' (first|(apply aw_seq_k;intro K hK)|(refine eM64 ?_)|(refine aw_cond (b:=_) (by exact rfl) (fun h=>?_) (fun h=>?_)<;>(try simp at h))|(refine eB ?_)|(refine hK _ ?_;clear hK)|(clear hK;refine hK _ ?_;clear hK)|(clear hK;clear hK;refine hK _ ?_;clear hK)|(clear hK;clear hK;clear hK;refine hK _ ?_;clear hK))
      all_goals clear zS
      refine ⟨i+1,?_,by omega,by omega⟩
      simp only [hst]
      exact dle
    ·rw [if_pos (by simp [hk1])] at hst
     have zS:=jj hilI<|jj hil<|jj hg<|jj hgE<|jj de<|hk1
     repeat' (first|(apply aw_seq_k;intro K hK)|(refine eM64 ?_)|(refine aw_cond (b:=_) (by exact rfl) (fun h=>?_) (fun h=>?_)<;>(try simp at h))|(refine eB ?_)|(refine hK _ ?_;clear hK)|(clear hK;refine hK _ ?_;clear hK)|(clear hK;clear hK;refine hK _ ?_;clear hK)|(clear hK;clear hK;clear hK;refine hK _ ?_;clear hK))
     all_goals clear zS
     refine ⟨i+1,?_,by omega,by omega⟩
     simp only [hst]
     exact dle
   ·obtain rfl:i=l.length:=by omega
    obtain ⟨⟨⟨r1,ns1,ds1⟩,L⟩,hL⟩:∃ L,L=haL t0 l l.length:=⟨_,rfl⟩
    simp only [← hL]
    have hL2:haL (r,ns,ds) l l.length=((r1,ns1,ds1),L):=by rw [← ht0];exact hL.symm
    have htk:=irows_tkl L
    have t1:=tkN ns1
    have t2:=tkP ds1
    repeat' (first|(apply aw_seq_k;intro K hK)|(refine eM64o ?_)|(refine aw_cond (b:=_) (by exact rfl) (fun h=>?_) (fun h=>?_)<;>(try simp at h))|(refine eB ?_)|(refine hK _ ?_;clear hK)|(clear hK;refine hK _ ?_;clear hK)|(clear hK;clear hK;refine hK _ ?_;clear hK)|(clear hK;clear hK;clear hK;refine hK _ ?_;clear hK))
    refine ⟨by simp,?_⟩
    simp [leaves_iff,Try.f21,hL2,htk,t1,t2]
    try exact dt
 ·have e:haT (r,ns,ds)=(zT,[],chk (r,ns,ds)):=by unfold haT;rw [if_pos h0]
  rw [e]
  obtain ⟨c,hcz⟩:∃ c,c=chk (r,ns,ds):=⟨_,rfl⟩
  rw [← hcz] at ch h0 ⊢
  simp only [TbV,TbO,zT] at ch ⊢
  have zS:=jj ch<|h0
  refine dM64 ?_
  repeat (intro K hK)
  clear zS
  refine ⟨by simp,?_⟩
  simp [leaves_iff,Try.f21,nrows,prows,irows]
  try exact dt
end Go.AM
namespace Go.AM
open Go Go.Proofs
set_option maxRecDepth 4000
def nilP:List Nat→List AV→List AV
 | s::ss,a::us=>nilV s a::nilP ss us
 | _,us=>us
theorem nilP_ok {w:World} {G:Nat→Prop}:∀ {ss:List Nat} {us:List AV} {xs:List Value},CRepL w G us xs→CRepL w G (nilP ss us) xs
 | [],us,xs,h=>by cases us<;>exact h
 | s::ss,[],[],h=>h
 | s::ss,a::us,x::xs,h=>by simp only [CRepL,nilP] at h ⊢;exact ⟨nilV_ok h.1,nilP_ok h.2⟩
 | s::ss,[],_::_,h=>by simp [CRepL] at h
 | s::ss,_::_,[],h=>by simp [CRepL] at h
theorem PSound.nilP {P:Program} {f:FuncId} {F:List AV→Option AV} (h:PSound P f F) (ss:List Nat):PSound P f fun avs=>F (nilP ss avs) :=
 fun w G args avs r hr hG ha=>h w G args _ r hr hG (nilP_ok ha)
theorem xok_specp {P : Program} {X : AX} (h : XOK P X) {f : FuncId} {fn : Func} {ι : Type} {A : ι → List AV} {R : ι → AV} (ss : List Nat) (hs : PSound P f (specF A R)) (hfl : ∀ i, (R i).flat) (hf : P.funcs[f]? = some fn) (hn : (fn.body.isSome && !(fn.name == "runtime.NumGoroutine")) = true) :
  XOK P (X.add f (callP fun avs=>specF A R (nilP ss avs))) :=
 xok_add h (.inl ⟨(hs.nilP ss).callP fun _ _ h=>specF_flat hfl h,body_ok fn hf hn⟩) fun _ _ _ _ h=>callP_keys h
theorem trow_pl {l:List Te}:∀ e∈trows l,∀ a∈e,a.plain:=by
 intro e he a ha
 obtain ⟨x,_,rfl⟩:=List.mem_map.1 he
 simp [trow] at ha
 rcases ha with rfl|rfl|rfl<;>trivial
theorem DfT_flat {a0:AV} {avs:List AV} {r o:AV} (h:DfT a0 avs=some (r,o)):r.flat∧o.flatO:=by
 obtain ⟨i,_,_,h3,h4⟩:=specM_some h
 subst h3 h4
 exact ⟨trow_pl,trivial⟩
theorem TlO_fv {b:Tl}:(TlO b).flatV:=by
 intro a ha
 simp at ha
 rcases ha with rfl|rfl
 ·trivial
 ·exact trow_pl
theorem tlO_fl {b:Tl} {n:Int}:(retOf [TlO b,I n]).flat:=by
 intro a ha
 simp at ha
 rcases ha with rfl|rfl
 ·exact TlO_fv
 ·trivial
theorem ac_fl {t:Tb} {b:Tl} {f e:Int}:(retOf [TbO t,TlO b,I f,I e]).flat:=by
 intro a ha
 simp at ha
 rcases ha with rfl|rfl|rfl|rfl
 ·exact TbO_fl
 ·exact TlO_fv
 ·trivial
 ·trivial
theorem ha_fl {t:Tb} {l:List Int} {e:Int}:(retOf [TbO t,.ow 1 (irows l),I e]).flat:=by
 intro a ha
 simp at ha
 rcases ha with rfl|rfl|rfl
 ·exact TbO_fl
 ·exact irow_pl
 ·trivial
noncomputable def Tm0:AX:=TeA.eqAt 91
theorem tm0:XOK Try.prog Tm0:=xok_eq teA eqTe
noncomputable def Tm1:AX:=Tm0.add 98 (callP TrF)
theorem tm1:XOK Try.prog Tm1:=xok_spec tm0 (s98 Tm0 tm0 w0T (fun n h M k=>cDe n h M k)) (fun _=>by simp [retOf,AV.flat,AV.flatV,AV.flat1,U]) Try.func98 (by kernel_rfl)
noncomputable def Tm2:AX:=Tm1.add 134 (callP SpnF)
theorem tm2:XOK Try.prog Tm2:=xok_spec tm1 (s134 Tm1 tm1 w0T (fun w h M k=>cTr w h M k)) (fun _=>trivial) Try.func134 (by kernel_rfl)
noncomputable def Tm3:AX:=Tm2.add 97 (callP PlcF)
theorem tm3:XOK Try.prog Tm3:=xok_spec tm2 (s97 Tm2 tm2 w0T) (fun _=>trivial) Try.func97 (by kernel_rfl)
noncomputable def Tm4:AX:=Tm3.add 111 (callP CvF)
theorem tm4:XOK Try.prog Tm4:=xok_spec tm3 (s111 Tm3 tm3 w0T (fun w h M k=>cSpn w h M k)) (fun _=>trivial) Try.func111 (by kernel_rfl)
noncomputable def Tm5:AX:=Tm4.add 101 (callP OvF)
theorem tm5:XOK Try.prog Tm5:=xok_spec tm4 (s101 Tm4 tm4 w0T (fun w h M k=>cSpn w h M k)) (fun _=>trivial) Try.func101 (by kernel_rfl)
noncomputable def Tm6:AX:=Tm5.add 100 (callP CkJ)
theorem tm6:XOK Try.prog Tm6:=xok_spec tm5 (s100 Tm5 tm5 w0T (fun x y h1 h2 M k=>cOv x y h1 h2 M k)) (fun _=>trivial) Try.func100 (by kernel_rfl)
noncomputable def Tm7:AX:=Tm6.add 114 (callP CkJ)
theorem tm7:XOK Try.prog Tm7:=xok_spec tm6 (s114 Tm6 tm6 w0T (fun x y h1 h2 M k=>cOv x y h1 h2 M k)) (fun _=>trivial) Try.func114 (by kernel_rfl)
noncomputable def Tm8:AX:=Tm7.add 113 (callP IvF)
theorem tm8:XOK Try.prog Tm8:=xok_spec tm7 (s113 Tm7 tm7 w0T (fun x s p h M k=>cCv x s p h M k)) (fun _=>trivial) Try.func113 (by kernel_rfl)
theorem fkM {X:AX} (h1:X.call 100=callP CkJ) (h2:X.call 114=callP CkJ) (h3:X.call 113=callP IvF):FkX X :=
 ⟨fun x y hx hy M k=>by rw [h1];exact cCj x y hx hy M k,fun x y hx hy M k=>by rw [h2];exact cCj x y hx hy M k,fun x s p hx M k=>by rw [h3];exact cIj x s p hx M k⟩
noncomputable def Tm9:AX:=Tm8.add 133 (callP IxJ)
theorem tm9:XOK Try.prog Tm9:=xok_spec tm8 (s133 Tm8 tm8 w0T (fkM rfl rfl rfl)) (fun _=>trivial) Try.func133 (by kernel_rfl)
noncomputable def Tm10:AX:=Tm9.add 99 (callP CfF)
theorem tm10:XOK Try.prog Tm10:=xok_spec tm9 (s99 Tm9 tm9 w0T rfl) (fun _=>trivial) Try.func99 (by kernel_rfl)
noncomputable def Tm11:AX:=Tm10.add 142 (callP ClTF)
theorem tm11:XOK Try.prog Tm11:=xok_spec tm10 (s142 Tm10 tm10 w0T) (fun x=>trow_pl) Try.func142 (by kernel_rfl)
noncomputable def Tm12:AX:=Tm11.add 141 (callM false three3 DfT)
theorem tm12:XOK Try.prog Tm12:=xok_putM tm11 (by kernel_rfl) (.inl ⟨((s141 Tm11 tm11 w0T rfl (fkM rfl rfl rfl)).callM fun _ _ _ _ h=>DfT_flat h),body_ok _ Try.func141 (by kernel_rfl)⟩) fun _ _ _ _ h=>callM_keys h
noncomputable def Tm13:AX:=Tm12.add 44 (callP CtF)
theorem tm13:XOK Try.prog Tm13:=xok_spec tm12 (s44 Tm12 tm12 w0T (fun s p M k=>cPlc s p M k) (fun w h M k=>cTr w h M k) rfl) (fun _=>trivial) Try.func44 (by kernel_rfl)
noncomputable def Tm14:AX:=Tm13.add 55 (callP LkF)
theorem tm14:XOK Try.prog Tm14:=xok_spec tm13 (s55 Tm13 tm13 w0T (fun b h M k=>cCt b h M k) (fun x s p h M k=>cCv x s p h M k)) (fun _=>by simp [retOf,AV.flat,AV.flatV,AV.flat1,U]) Try.func55 (by kernel_rfl)
noncomputable def Tm15:AX:=Tm14.add 112 (callP WoF)
theorem tm15:XOK Try.prog Tm15:=xok_spec tm14 (s112 Tm14 tm14 w0T rfl rfl) (fun x=>TlO_fl) Try.func112 (by kernel_rfl)
noncomputable def Tm16:AX:=Tm15.add 60 (callP InF)
theorem tm16:XOK Try.prog Tm16:=xok_spec tm15 (s60 Tm15 tm15 w0T (fun b h M k=>cCt b h M k) (fun s p M k=>cPlc s p M k) rfl) (fun x=>tlO_fl) Try.func60 (by kernel_rfl)
noncomputable def Tm17:AX:=Tm16.add 62 (callP FiF7)
theorem tm17:XOK Try.prog Tm17:=xok_spec tm16 (s62 Tm16 tm16 w0T (fun b h M k=>cCt b h M k) (fun s p M k=>cPlc s p M k) (fun w h M k=>cTr w h M k) rfl) (fun x=>tlO_fl) Try.func62 (by kernel_rfl)
noncomputable def Tm18:AX:=Tm17.add 103 (callP PgF)
theorem tm18:XOK Try.prog Tm18:=xok_spec tm17 (s103 Tm17 tm17 w0T (fun n h M k=>cDe n h M k)) (fun _=>by simp [retOf,AV.flat,AV.flatV,AV.flat1,U,EnV]) Try.func103 (by kernel_rfl)
noncomputable def Tm19:AX:=Tm18.add 61 (callP MkF)
theorem tm19:XOK Try.prog Tm19:=xok_spec tm18 (s61 Tm18 tm18 w0T (fun w h M k=>cPw w h M k)) (fun _=>by simp [retOf,AV.flat,AV.flatV,AV.flat1,U]) Try.func61 (by kernel_rfl)
noncomputable def Tm20:AX:=Tm19.add 49 (callP OdF)
theorem tm20:XOK Try.prog Tm20:=xok_spec tm19 (s49 Tm19 tm19 w0T (fun w h M k=>cPw w h M k)) (fun _=>by simp [retOf,AV.flat,AV.flatV,AV.flat1,U]) Try.func49 (by kernel_rfl)
noncomputable def Tm21:AX:=Tm20.add 57 (callP FrgF)
theorem tm21:XOK Try.prog Tm21:=xok_spec tm20 (s57 Tm20 tm20 w0T) (fun _=>trivial) Try.func57 (by kernel_rfl)
noncomputable def Tm22:AX:=Tm21.add 59 (callP RfF)
theorem tm22:XOK Try.prog Tm22:=xok_spec tm21 (s59 Tm21 tm21 w0T) (fun _=>trivial) Try.func59 (by kernel_rfl)
theorem tbO_fl1 {t:Tb}:(retOf [TbO t]).flat:=TbO_fl
theorem tlO_fl1 {b:Tl}:(retOf [TlO b]).flat:=TlO_fv
noncomputable def Tm23:AX:=Tm22.add 48 (callP CoTF)
theorem tm23:XOK Try.prog Tm23:=xok_spec tm22 (s48 Tm22 tm22 w0T) (fun x=>tbO_fl1) Try.func48 (by kernel_rfl)
noncomputable def Tm24:AX:=Tm23.add 56 (callP CoBF)
theorem tm24:XOK Try.prog Tm24:=xok_spec tm23 (s56 Tm23 tm23 w0T) (fun x=>tlO_fl1) Try.func56 (by kernel_rfl)
noncomputable def Tm25:AX:=Tm24.add 23 (callP fun avs=>AcF (nilP [2,3] avs))
theorem tm25:XOK Try.prog Tm25:=xok_specp tm24 [2,3] (s23 Tm24 tm24 w0T ⟨(fun t h M n=>cCh t h M n),(fun b h M k=>cCt b h M k),(fun b s p h M n=>cLk b s p h M n),(fun n h M k=>cDe n h M k),(fun t h M n=>cCoT t h M n),(fun b h M n=>cCoB b h M n),(fun e p h1 h2 h3 M n=>cFg e p h1 h2 h3 M n),(fun t x h M n=>cWa t x h M n),(fun e wr M n=>cRf e wr M n),(fun b s p h M n=>cIn b s p h M n),(fun w wr h M n=>cMk w wr h M n),(fun t p w h hw M n=>cRe t p w h hw M n),(fun b s p w h hw M n=>cFl b s p w h hw M n)⟩) (fun x=>ac_fl) Try.func23 (by kernel_rfl)
noncomputable def Tm26:AX:=Tm25.add 17 (callP RcF)
theorem tm26:XOK Try.prog Tm26:=xok_spec tm25 (s17 Tm25 tm25 w0T (fun b h M k=>cCt b h M k) (fun n h M k=>cDe n h M k) rfl) (fun x=>irow_pl) Try.func17 (by kernel_rfl)
noncomputable def Tm27:AX:=Tm26.add 20 (callP HaF)
theorem tm27:XOK Try.prog Tm27:=xok_spec tm26 (s20 Tm26 tm26 w0T (fun t h M n=>cCh t h M n) (fun t h M n=>cCoT t h M n) (fun t h M n=>cLs t h M n) (fun n h M k=>cDe n h M k) (fun w h M k=>cOd w h M k) (reO rfl)) (fun x=>ha_fl) Try.func20 (by kernel_rfl)
noncomputable def Tm28:AX:=Tm27.add 33 (callP LoF)
theorem tm28:XOK Try.prog Tm28:=xok_spec tm27 (s33 Tm27 tm27 w0T (fun t x h M n=>cWa t x h M n) (fun n h M k=>cDe n h M k) (fun e p h1 h2 h3 M n=>cFg e p h1 h2 h3 M n) (fun e wr M n=>cRf e wr M n)) (fun _=>by simp [retOf,AV.flat,AV.flatV,AV.flat1,U]) Try.func33 (by kernel_rfl)
noncomputable def Tm29:AX:=Tm28.add 117 (callP TrF)
theorem tm29:XOK Try.prog Tm29:=xok_spec tm28 (s117 Tm28 tm28 w0T (fun n h M k=>cDe n h M k)) (fun _=>by simp [retOf,AV.flat,AV.flatV,AV.flat1,U]) Try.func117 (by kernel_rfl)
noncomputable def Tm30:AX:=Tm29.add 118 (callP GrF)
theorem tm30:XOK Try.prog Tm30:=xok_spec tm29 (s118 Tm29 tm29 ) (fun _=>trivial) Try.func118 (by kernel_rfl)
noncomputable def Tm31:AX:=Tm30.add 66 (callP HtF)
theorem tm31:XOK Try.prog Tm31:=xok_spec tm30 (s66 Tm30 tm30 w0T (fun w h M k=>cTr w h M k) (fun p h1 h2 M k=>cGr p h1 h2 M k)) (fun _=>trivial) Try.func66 (by kernel_rfl)
noncomputable def Tm32:AX:=Tm31.add 65 (callP OrfF)
theorem tm32:XOK Try.prog Tm32:=xok_spec tm31 (s65 Tm31 tm31 w0T (fun x s p h1 h2 M k=>cHt x s p h1 h2 M k) (fun p h1 h2 M k=>cGr p h1 h2 M k)) (fun _=>trivial) Try.func65 (by kernel_rfl)
noncomputable def Tm33:AX:=Tm32.add 115 (callP SpF7)
theorem tm33:XOK Try.prog Tm33:=xok_spec tm32 (s115 Tm32 tm32 ) (fun _=>trivial) Try.func115 (by kernel_rfl)
noncomputable def Tm34:AX:=Tm33.add 116 (callP PgF7)
theorem tm34:XOK Try.prog Tm34:=xok_spec tm33 (s116 Tm33 tm33 ) (fun _=>trivial) Try.func116 (by kernel_rfl)
noncomputable def Tm35:AX:=Tm34.add 64 (callP OneF)
theorem tm35:XOK Try.prog Tm35:=xok_spec tm34 (s64 Tm34 tm34 w0T (fun s M k=>cSp7 s M k) (fun s M k=>cPg7 s M k) (fun w h M k=>cTr w h M k)) (fun _=>trivial) Try.func64 (by kernel_rfl)
noncomputable def Tm36:AX:=Tm35.add 26 (callP CtF)
theorem tm36:XOK Try.prog Tm36:=xok_spec tm35 (s26 Tm35 tm35 w0T (fun x h M k=>cOne x h M k) (fun a b h1 h2 h3 h4 M k=>cOf a b h1 h2 h3 h4 M k)) (fun _=>trivial) Try.func26 (by kernel_rfl)
noncomputable def Tm37:AX:=Tm36.add 27 (callP LrF)
theorem tm37:XOK Try.prog Tm37:=xok_spec tm36 (s27 Tm36 tm36 w0T (fun b h M k=>cCt b h M k) (fun x s p h1 h2 M k=>cHt x s p h1 h2 M k)) (fun _=>by simp [retOf,AV.flat,AV.flatV,AV.flat1,U]) Try.func27 (by kernel_rfl)
noncomputable def Tm38:AX:=Tm37.add 79 (callP FrgF)
theorem tm38:XOK Try.prog Tm38:=xok_spec tm37 (s79 Tm37 tm37 w0T) (fun _=>trivial) Try.func79 (by kernel_rfl)
noncomputable def Tm39:AX:=Tm38.add 53 (callP OdF)
theorem tm39:XOK Try.prog Tm39:=xok_spec tm38 (s53 Tm38 tm38 w0T (fun n h M k=>cDe n h M k) (fun k f d a x h M n=>cEn k f d a x h M n)) (fun _=>by simp [retOf,AV.flat,AV.flatV,AV.flat1,U]) Try.func53 (by kernel_rfl)
noncomputable def Tm40:AX:=Tm39.add 51 (callP ClF)
theorem tm40:XOK Try.prog Tm40:=xok_spec tm39 (s51 Tm39 tm39 w0T) (fun x=>TbO_fl) Try.func51 (by kernel_rfl)
theorem ostM {X:AX} (h:X.call 107=callP StF):OwnR X 107 (fun t x=>0≤x∧ptO t x.toNat) fun t x=>.tup [I (lsT t x.toNat).1,I (lsT t x.toNat).2.1]:=fun r ns ds x hd a va b vb f1 f2 M n h1 h2=>by
 rw [h]
 obtain ⟨k,rfl⟩:∃ k:Nat,x=k:=⟨x.toNat,by omega⟩
 exact oT3 (D:=ptO) (R:=fun t p=>retOf [I (lsT t p).1,I (lsT t p).2.1]) (t:=(r,ns,ds)) hd.2 ⟨⟨f1,h1⟩,f2,h2⟩ n rfl (by simp [retOf,openRet,openVals,openVal,openLeaves,openLeaf,stV,srow,U,TbO])
noncomputable def Tm41:AX:=Tm40.add 54 (callP ReF)
theorem tm41:XOK Try.prog Tm41:=xok_spec tm40 (s54 Tm40 tm40 w0T (fun t x h M n=>cWa t x h M n) (fun n h M k=>cDe n h M k) (fun e l M n=>cSu e l M n) (fun t h M n=>cCl t h M n) (ostM rfl) (fun p l h1 h2 M n=>cDig p l h1 h2 M n)) (fun x=>repO_fl) Try.func54 (by kernel_rfl)
noncomputable def Tm42:AX:=Tm41.add 34 (callP LoF)
theorem tm42:XOK Try.prog Tm42:=xok_spec tm41 (s34 Tm41 tm41 w0T (fun t x h M n=>cWa t x h M n) (fun w h M n=>cEt w h M n) (fun e p h1 h2 h3 M n=>cFg e p h1 h2 h3 M n)) (fun _=>by simp [retOf,AV.flat,AV.flatV,AV.flat1,U]) Try.func34 (by kernel_rfl)
theorem callD_ok {F:List AV→Option AV} {avs:List AV} {r:AV} {M:Nat→AO} {n:Nat} (hF:F avs=some r) (hc:avs.all AV.closedV=true) (ho:openRet n r=(r,[],n)):callD F avs M n=some (r,[]):=by
 simp only [callD]
 rw [if_pos hc,hF]
 simp only [ho]
 rw [if_pos (by omega)]
theorem cAd (L:List Int) (x:Int) (h:L.length≤1000000) (M:Nat→AO) (n:Nat):callD AdF [.rd 1 (irows L),I x] M n=some (.rd 1 (irows (adL L x)),[]):=by
 refine callD_ok (specF_eq (ι:={x:List Int×Int // x.1.length≤1000000}) (A:=fun x=>[.rd 1 (irows x.1.1),I x.1.2]) (R:=fun x=>retOf [.rd 1 (irows (adL x.1.1 x.1.2))]) ⟨(L,x),h⟩ ?_) (by simp [AV.closedV]) (by simp [openRet,openVal,openLeaf])
 rintro ⟨⟨L',x'⟩,h'⟩ e
 simp only [List.cons.injEq,AV.rd.injEq,irows_inj,Iinj,true_and,and_true] at e
 obtain ⟨rfl,rfl⟩:=e;rfl
noncomputable def Tm43:AX:=Tm42.add 47 (callD AdF)
theorem tm43:XOK Try.prog Tm43:=xok_add tm42 (.inl ⟨PSound.callD (s47 Tm42 tm42 w0T),body_ok _ Try.func47 (by kernel_rfl)⟩) fun _ _ _ _ h b hb=>callD_keys h b hb
noncomputable def Tm44:AX:=Tm43.add 18 (callD RcD)
theorem tm44:XOK Try.prog Tm44:=xok_add tm43 (.inl ⟨PSound.callD (s18 Tm43 tm43 w0T (fun b h M k=>cCt b h M k) (fun w h M n=>cEt w h M n) (fun L x h M k=>cAd L x h M k)),body_ok _ Try.func18 (by kernel_rfl)⟩) fun _ _ _ _ h b hb=>callD_keys h b hb
noncomputable def Tm45:AX:=Tm44.add 21 (callP HaF)
theorem tm45:XOK Try.prog Tm45:=xok_spec tm44 (s21 Tm44 tm44 w0T (fun t h M n=>cCh t h M n) (fun t h M n=>cCl t h M n) (fun t h M n=>cLs t h M n) (fun w h M n=>cEt w h M n) (fun w h M k=>cOd w h M k) (reO6 rfl)) (fun x=>ha_fl) Try.func21 (by kernel_rfl)
noncomputable def Tm46:AX:=Tm45.add 43 (callP EtlF)
theorem tm46:XOK Try.prog Tm46:=xok_spec tm45 (s43 Tm45 tm45 w0T rfl) (fun _=>trivial) Try.func43 (by kernel_rfl)
noncomputable def Tm47:AX:=Tm46.add 24 (callP StlF)
theorem tm47:XOK Try.prog Tm47:=xok_spec tm46 (s24 Tm46 tm46 w0T rfl) (fun _=>trivial) Try.func24 (by kernel_rfl)
noncomputable abbrev TmA:AX:=Tm47
theorem tmA:XOK Try.prog TmA:=tm47
end Go.AM
namespace Go.AM
open Go Go.Proofs
set_option maxRecDepth 4000
theorem AcF_at {t:Tb} {b:Tl} {s p:Int} {wr:Bool} (h1:tbOK t) (h2:tlOK b):AcF [TbV t,TlV b,I s,I p,B wr]=some (retOf [TbO (acT t b s p wr).1,TlO (acT t b s p wr).2.1,I (acT t b s p wr).2.2.1,I (acT t b s p wr).2.2.2]):=by
 refine specF_eq (ι:={x:Tb×Tl×Int×Int×Bool // tbOK x.1∧tlOK x.2.1}) (A:=fun x=>[TbV x.1.1,TlV x.1.2.1,I x.1.2.2.1,I x.1.2.2.2.1,B x.1.2.2.2.2]) (R:=fun x=>retOf [TbO (acT x.1.1 x.1.2.1 x.1.2.2.1 x.1.2.2.2.1 x.1.2.2.2.2).1,TlO (acT x.1.1 x.1.2.1 x.1.2.2.1 x.1.2.2.2.1 x.1.2.2.2.2).2.1,I (acT x.1.1 x.1.2.1 x.1.2.2.1 x.1.2.2.2.1 x.1.2.2.2.2).2.2.1,I (acT x.1.1 x.1.2.1 x.1.2.2.1 x.1.2.2.2.1 x.1.2.2.2.2).2.2.2]) ⟨(t,b,s,p,wr),h1,h2⟩ fun j e=>?_
 obtain ⟨⟨t',b',s',p',wr'⟩,h'⟩:=j
 simp only [List.cons.injEq,TbV_inj,TlV_inj,Iinj,Binj,and_true] at e
 obtain ⟨rfl,rfl,rfl,rfl,rfl⟩:=e;rfl
theorem oAc {t:Tb} {b:Tl} {s p:Int} {wr:Bool} (h1:tbOK t) (h2:tlOK b) {avs:List AV} {M:Nat→AO} (hp:(peekVals M avs).map (nilP [2,3])=some [TbV t,TlV b,I s,I p,B wr]) (n:Nat) :
  callP (fun avs=>AcF (nilP [2,3] avs)) avs M n=some (.tup [TbC (acT t b s p wr).1 n,TlC (acT t b s p wr).2.1 (n+2),I (acT t b s p wr).2.2.1,I (acT t b s p wr).2.2.2],outT (acT t b s p wr).1 n++outC (acT t b s p wr).2.1 (n+2)):=by
 unfold callP
 cases h:peekVals M avs with
 | none=>rw [h] at hp;simp at hp
 | some l =>
  rw [h] at hp
  simp only [Option.map_some,Option.some.injEq] at hp
  simp only [hp,AcF_at h1 h2,open_ac]
  rw [if_pos (by omega)]
theorem peek_tl {b:Tl} {c v:Nat} {f:Bool} {M:Nat→AO} {rs rs':List AV} (h:M c=.vec v 3 f (trows b.2)) (hr:peekVals M rs=some rs'):peekVals M (.agg [I b.1,.sl c v 3 0 b.2.length]::rs)=some (TlV b::rs'):=by
 have tk:List.take b.2.length (trows b.2)=trows b.2:=List.take_of_length_le (by simp [trows])
 have ll:(trows b.2).length=b.2.length:=by simp [trows]
 simp [hr,h,tk,ll,TlV]
theorem okE:tlOK b8∧tlOK c8∧tlOK d8:=by unfold tlOK;decide +kernel
theorem oHa {t:Tb} (ht:tbOK t) {p vp q vq:Nat} {M:Nat→AO} (hM:OwT M t p vp q vq) (n:Nat):callP HaF [TbS t p vp q vq] M n=some (.tup [TbC (haT t).1 n,.sl (n+2) 1 1 0 (haT t).2.1.length,I (haT t).2.2],outT (haT t).1 n++[(n+2,.vec 1 1 false (irows (haT t).2.1))]) :=
 oT1 (D:=tbOK) (R:=fun t=>retOf [TbO (haT t).1,.ow 1 (irows (haT t).2.1),I (haT t).2.2]) ht hM n open_ha (by omega)
theorem oRc {b:Tl} {wr:Bool} (hb:tlOK b) {c v:Nat} {f:Bool} {M:Nat→AO} (h:M c=.vec v 3 f (trows b.2)) (n:Nat):callP RcF [.agg [I b.1,.sl c v 3 0 b.2.length],B wr] M n=some (.sl n 1 1 0 (rcT b wr).length,[(n,.vec 1 1 false (irows (rcT b wr)))]):=by
 unfold RcF
 rw [callP_spec (ι:={x:Tl×Bool // tlOK x.1}) (A:=fun x=>[TlV x.1.1,B x.1.2]) (R:=fun x=>retOf [.ow 1 (irows (rcT x.1.1 x.1.2))]) ⟨(b,wr),hb⟩ (peek_tl h (by simp)) ?_ (by rw [open_irow];simp only;omega),open_irow]
 rintro ⟨⟨b',wr'⟩,h'⟩ e
 simp only [List.cons.injEq,TlV_inj,Binj,and_true] at e
 obtain ⟨rfl,rfl⟩:=e;rfl
theorem oEt {l m:List Te} (hl:l.length≤1000000∧m.length≤1000000) {c vc d vd:Nat} {fc fd:Bool} {M:Nat→AO} (hc:M c=.vec vc 3 fc (trows l)) (hd:M d=.vec vd 3 fd (trows m)) (n:Nat):callP EtlF [.sl c vc 3 0 l.length,.sl d vd 3 0 m.length] M n=some (B (decide (l=m)),[]):=by
 have tk:List.take l.length (trows l)=trows l:=List.take_of_length_le (by simp [trows])
 have tm:List.take m.length (trows m)=trows m:=List.take_of_length_le (by simp [trows])
 have ll:(trows l).length=l.length:=by simp [trows]
 have lm:(trows m).length=m.length:=by simp [trows]
 exact callP_spec (ι:={x:List Te×List Te // x.1.length≤1000000∧x.2.length≤1000000}) (A:=fun x=>[.rd 3 (trows x.1.1),.rd 3 (trows x.1.2)]) (R:=fun x=>retOf [B (decide (x.1.1=x.1.2))]) ⟨(l,m),hl⟩ (by simp [hc,hd,tk,tm,ll,lm]) (by
  rintro ⟨⟨l',m'⟩,h'⟩ e
  simp only [List.cons.injEq,AV.rd.injEq,trows_inj,true_and,and_true] at e
  obtain ⟨rfl,rfl⟩:=e;rfl) (by simp)
theorem exmA {X:AX} (hX:XOK Try.prog X) (hw:X.W wT) (ha:X.call 23=callP fun avs=>AcF (nilP [2,3] avs)) (hh:X.call 20=callP HaF) (hr:X.call 17=callP RcF) (hi:X.call 16=callP EiF) (he:X.call 43=callP EtlF):Exm X where
 ok:=hX
 w:=hw
 ac1:=fun c vc fc M n h1=>by
  rw [ha]
  have h:=oAc (t:=t8) (b:=b8) (s:=0) (p:=70) (wr:=false) ok8.1 okE.1 (avs:=[.agg [I 10,.sl c vc 9 0 3,.v (.slice none 0 0)],.agg [I 2,.v (.slice none 0 0)],I 0,I 70,B false]) (M:=M) (by
   simp [h1,nilP,nilV,nilA]
   exact ⟨rfl,rfl⟩) n
  rw [ac1] at h
  exact h
 ac2:=fun a va b vb f1 f2 c vc fc M n h1 h2 h3=>by
  rw [ha]
  have h:=oAc (t:=bT) (b:=c8) (s:=0) (p:=70) (wr:=true) okB okE.2.1 (avs:=[TbS bT a va b vb,.agg [I c8.1,.sl c vc 3 0 c8.2.length],I 0,I 70,B true]) (M:=M) (by
   rw [peek_tab (t:=bT) ⟨⟨f1,h1⟩,f2,h2⟩ (peek_tl (b:=c8) h3 (rs':=[I 0,I 70,B true]) (by simp))]
   rfl) n
  rw [ac2] at h
  exact h
 ac3:=fun c vc fc d vd fd M n h1 h2=>by
  rw [ha]
  have h2':M d=.vec vd 3 fd [[I 0,I 70,.v (.int .u64 1337)]]:=h2
  have h:=oAc (t:=aT) (b:=d8) (s:=0) (p:=70) (wr:=true) okA okE.2.2 (avs:=[.agg [I 10,.sl c vc 9 0 1,.v (.slice none 0 0)],.agg [I 2,.sl d vd 3 0 1],I 0,I 70,B true]) (M:=M) (by
   simp [h1,h2',nilP,nilV,nilA]
   exact ⟨rfl,rfl⟩) n
  rw [ac3] at h
  exact h
 ac4:=fun c vc fc M n h1=>by
  rw [ha]
  have h:=oAc (t:=aT) (b:=b8) (s:=0) (p:=70) (wr:=false) okA okE.1 (avs:=[.agg [I 10,.sl c vc 9 0 1,.v (.slice none 0 0)],.agg [I 2,.v (.slice none 0 0)],I 0,I 70,B false]) (M:=M) (by
   simp [h1,nilP,nilV,nilA]
   exact ⟨rfl,rfl⟩) n
  rw [ac4] at h
  exact h
 har:=fun a va b vb f1 f2 M n h1 h2=>by
  rw [hh]
  have h:=oHa (t:=v8) ok8.2.1 (M:=M) ⟨⟨f1,h1⟩,f2,h2⟩ n
  rw [ha8] at h
  exact h
 et1:=fun c vc d vd fc fd M n h1 h2=>by
  rw [he]
  have h:=oEt (l:=[(0,70,1305)]) (m:=[(0,70,1305)]) (by decide) h1 h2 n
  rw [decide_eq_true rfl] at h
  exact h
 et2:=fun c vc d vd fc fd M n h1 h2=>by
  rw [he]
  have h:=oEt (l:=[(0,70,1337)]) (m:=[(0,70,1337)]) (by decide) h1 h2 n
  rw [decide_eq_true rfl] at h
  exact h
 ei1:=fun c vc d vd fc fd M n h1 h2=>by
  rw [hi]
  have h:=oEi (l:=[70]) (m:=[70]) (by decide) h1 h2 n
  rw [decide_eq_true rfl] at h
  exact h
 ei2:=fun c vc d vd fc fd M n h1 h2=>by
  rw [hi]
  have h:=oEi (l:=[5]) (m:=[5]) (by decide) h1 h2 n
  rw [decide_eq_true rfl] at h
  exact h
 rc1:=fun c vc fc M n h1=>by
  rw [hr]
  have h:=oRc (b:=d8) (wr:=true) okE.2.2 h1 n
  rw [rc1] at h
  exact h
 rc2:=fun c vc fc M n h1=>by
  rw [hr]
  have h:=oRc (b:=c8) (wr:=true) okE.2.1 h1 n
  rw [rc2] at h
  exact h
theorem exmT:Exm TmA:=exmA tmA w0T rfl rfl rfl rfl rfl
noncomputable def AwM:List AV→Option AV:=specF (ι:=Unit) (fun _=>[]) fun _=>retOf [B true]
theorem awT:PSound Try.prog 15 AwM:=s15 TmA exmT
noncomputable def TmB:AX:=TmA.add 15 (callP AwM)
theorem tmB:XOK Try.prog TmB:=xok_spec tmA awT (fun _=>trivial) Try.func15 (by kernel_rfl)
theorem cAwM (M:Nat→AO) (n:Nat):callP AwM [] M n=some (B true,[]) :=
 callP_spec (ι:=Unit) (A:=fun _=>[]) (R:=fun _=>retOf [B true]) () (by simp) (fun _ _=>rfl) (by simp)
end Go.AM
namespace Go.AM
open Go Go.Proofs
def SamO (X:AX) (t:Tb):Prop:=∀ (a0 va0 b0 vb0:Nat) (fa0 fb0:Bool) (a1 va1 b1 vb1:Nat) (fa1 fb1:Bool) (M:Nat→AO) (n:Nat),M a0=.vec va0 9 fa0 (nrows t.2.1)→M b0=.vec vb0 2 fb0 (prows t.2.2)→M a1=.vec va1 9 fa1 (nrows t.2.1)→M b1=.vec vb1 2 fb1 (prows t.2.2) →
 X.call 22 [.agg [I t.1,.sl a0 va0 9 0 t.2.1.length,.sl b0 vb0 2 0 t.2.2.length],.agg [I t.1,.sl a1 va1 9 0 t.2.1.length,.sl b1 vb1 2 0 t.2.2.length]] M n=some (B true,[])
def EqiO (X:AX) (l:List Int):Prop:=∀ (c vc d vd:Nat) (fc fd:Bool) (M:Nat→AO) (n:Nat),M c=.vec vc 1 fc (irows l)→M d=.vec vd 1 fd (irows l)→X.call 16 [.sl c vc 1 0 l.length,.sl d vd 1 0 l.length] M n=some (B true,[])
theorem samO {X:AX} (h:X.call 22=callP fun avs=>SaF (avs.map (nilV 2))) {t:Tb} (ht:tbOK t):SamO X t:=fun a va b vb fa fb a1 va1 b1 vb1 fa1 fb1 M n h1 h2 h3 h4=>by
 have k:=oSa ht ht (M:=M) (tab2 ⟨⟨fa,h1⟩,fb,h2⟩ ⟨⟨fa1,h3⟩,fb1,h4⟩) n
 rw [decide_eq_true rfl] at k
 rw [h]
 exact k
theorem eqiO {X:AX} (h:X.call 16=callP EiF) {l:List Int} (hl:l.length≤1000000):EqiO X l:=fun c vc d vd fc fd M n h1 h2=>by
 have k:=oEi (l:=l) (m:=l) ⟨hl,hl⟩ h1 h2 n
 rw [decide_eq_true rfl] at k
 rw [h]
 exact k
def tbF (t:Tb):Prop:=∀ n∈t.2.1,ndOK n
theorem tbF_ok {t:Tb} (h:tbF t) (hf:t.2.1.length≤80∧t.2.2.length≤70):tbOK t:=⟨h,by omega,by omega⟩
end Go.AM
namespace Go.AM
open Go
def shI:Sh:=.int .i64
def shB:Sh:=.bool
theorem fitL_one {s:Sh} {xs:List AV} (h:FitL [s] xs):∃ a,xs=[a]∧Fit s a:=by
 match xs,h with
 | [a],h=>simp only [FitL] at h;exact ⟨a,rfl,h.1⟩
 | [],h=>simp [FitL] at h
 | _::_::_,h=>simp [FitL] at h
theorem fit_int {a:AV} (h:Fit shI a):∃ n,a=I n∧-9223372036854775808≤n∧n≤9223372036854775807:=by
 simp only [shI,Fit] at h
 obtain ⟨n,rfl,hw⟩:=h
 refine ⟨n,rfl,?_⟩
 simpa [Lit.wf,IntKind.min,IntKind.max,IntKind.signed,IntKind.bits] using hw
theorem fit_bool {a:AV} (h:Fit shB a):∃ b,a=B b:=by
 simp only [shB,Fit] at h
 exact h
theorem fitL_cons {s:Sh} {r:List Sh} {xs:List AV} (h:FitL (s::r) xs):∃ a ar,xs=a::ar∧Fit s a∧FitL r ar:=by
 cases xs with
 | nil=>simp [FitL] at h
 | cons a ar=>simp only [FitL] at h;exact ⟨a,ar,rfl,h.1,h.2⟩
theorem fitL_nil {xs:List AV} (h:FitL [] xs):xs=[]:=by cases xs with|nil=>rfl|cons a ar=>simp [FitL] at h
theorem arg_one {P:Program} {t:TypeId} {s:Sh} {a:AV} (hs:shapeOf P 10 t=some [s]) (h1:∀ fs,P.underlying t≠some (.struct fs)) (h2:∀ n e,P.underlying t≠some (.array n e)) (h:FitArg P t a):Fit s a:=by
 obtain ⟨sh,h3,h4⟩:=h
 rw [hs] at h3
 simp only [Option.some.injEq] at h3
 subst h3
 rcases h4 with ⟨⟨fs,hf⟩|⟨n,e,hf⟩,_⟩|⟨_,h5⟩
 ·exact absurd hf (h1 fs)
 ·exact absurd hf (h2 _ _)
 ·obtain ⟨b,hb,hf⟩:=fitL_one h5
  obtain rfl:a=b:=by simpa using hb
  exact hf
theorem arg_str {P:Program} {t:TypeId} {sh:List Sh} {a:AV} {fs:Array Field} (hs:shapeOf P 10 t=some sh) (h1:P.underlying t=some (.struct fs)) (h:FitArg P t a):∃ cs,a=.agg cs∧FitL sh cs:=by
 obtain ⟨sh',h3,h4⟩:=h
 rw [hs] at h3
 simp only [Option.some.injEq] at h3
 subst h3
 rcases h4 with ⟨_,cs,rfl,h5⟩|⟨h5,_⟩
 ·exact ⟨cs,rfl,h5⟩
 ·exact absurd h1 (h5.1 fs)
end Go.AM
namespace Go.AM
open Go Go.Proofs
theorem laid:laidOutB Try.prog=true:=by kernel_rfl
theorem owns:ownKnob Try.prog.godebug=none:=by kernel_rfl
def shQ:Sh:=.int .u64
theorem fit_u64 {a:AV} (h:Fit shQ a):∃ n:Nat,a=U n∧n<2^64:=by
 simp only [shQ,Fit] at h
 obtain ⟨n,rfl,hw⟩:=h
 have h2:0≤n∧n≤18446744073709551615:=by simpa [Lit.wf,IntKind.min,IntKind.max,IntKind.signed,IntKind.bits] using hw
 refine ⟨n.toNat,?_,by omega⟩
 unfold U
 rw [show ((n.toNat:Nat):Int)=n by omega]
theorem fit_words:∀ {k:Nat} {cs:List AV},FitL (List.replicate k shQ) cs→∃ ws:List Nat,cs=wcs ws∧ws.length=k∧∀ w∈ws,w<2^64
 | 0,cs,h=>by
  have:=fitL_nil h
  subst this
  exact ⟨[],rfl,rfl,by simp⟩
 | k+1,cs,h=>by
  rw [List.replicate_succ] at h
  obtain ⟨a,ar,rfl,ha,hr⟩:=fitL_cons h
  obtain ⟨w,rfl,hw⟩:=fit_u64 ha
  obtain ⟨ws,rfl,hl,hx⟩:=fit_words hr
  refine ⟨w::ws,rfl,by simp [hl],fun x hx'=>?_⟩
  rcases List.mem_cons.1 hx' with rfl|hx'
  ·exact hw
  ·exact hx x hx'
theorem rows_nd:∀ {xs:List (List AV)},(∀ e∈xs,FitL (shI::List.replicate 8 shQ) e)→∃ l,xs=nrows l∧∀ n∈l,ndOK n
 | [],_=>⟨[],rfl,by simp⟩
 | e::r,h=>by
  obtain ⟨l,rfl,hl⟩:=rows_nd (xs:=r) fun e' he=>h e' (by simp [he])
  obtain ⟨a,ar,rfl,ha,hr⟩:=fitL_cons (h e (by simp))
  obtain ⟨x,rfl,_⟩:=fit_int ha
  obtain ⟨ws,rfl,h8,hw⟩:=fit_words hr
  refine ⟨(x,ws)::l,rfl,fun n hn=>?_⟩
  rcases List.mem_cons.1 hn with rfl|hn
  ·exact ⟨h8,hw⟩
  ·exact hl n hn
theorem rows_dp:∀ {xs:List (List AV)},(∀ e∈xs,FitL [shI,shI] e)→∃ l,xs=prows l
 | [],_=>⟨[],rfl⟩
 | e::r,h=>by
  obtain ⟨l,rfl⟩:=rows_dp (xs:=r) fun e' he=>h e' (by simp [he])
  obtain ⟨a,ar,rfl,ha,hr⟩:=fitL_cons (h e (by simp))
  obtain ⟨b,rfl,hb⟩:=fitL_one hr
  obtain ⟨x,rfl,_⟩:=fit_int ha
  obtain ⟨y,rfl,_⟩:=fit_int hb
  exact ⟨(x,y)::l,rfl⟩
theorem shTab:shapeOf Try.prog 10 27=some [shI,.sl (shI::List.replicate 8 shQ),.sl [shI,shI]]:=by kernel_rfl
theorem shInt:shapeOf Try.prog 10 3=some [shI]:=by kernel_rfl
theorem arg_tab {a:AV} (h:FitArg Try.prog 27 a):∃ t:Tb,a=TbV t∧tbF t:=by
 obtain ⟨cs,rfl,hf⟩:=arg_str shTab Try.underlying27 h
 obtain ⟨x,ar,rfl,ha,hr⟩:=fitL_cons hf
 obtain ⟨y,br,rfl,hb,hr2⟩:=fitL_cons hr
 obtain ⟨z,rfl,hc⟩:=fitL_one hr2
 obtain ⟨r,rfl,_⟩:=fit_int ha
 simp only [Fit] at hb hc
 obtain ⟨xs,rfl,_,hx⟩:=hb
 obtain ⟨ys,rfl,_,hy⟩:=hc
 obtain ⟨ns,rfl,hn⟩:=rows_nd hx
 obtain ⟨ds,rfl⟩:=rows_dp hy
 exact ⟨(r,ns,ds),rfl,hn⟩
theorem arg_int {a:AV} (h:FitArg Try.prog 3 a):∃ n,a=I n:=by
 obtain ⟨n,rfl,_⟩:=fit_int (arg_one shInt (fun fs=>by simp [Try.underlying3]) (fun n e=>by simp [Try.underlying3]) h)
 exact ⟨n,rfl⟩
end Go.AM
