/- A part of the proof: what functions of the program compute, by abstract execution of their code. Its theorems hold without further condition. -/
import Derived.Test.YtcfhmdljeeppfaaGreatAMm7
set_option linter.all false
namespace Go.AM
open Go Go.Proofs
theorem zT_okm:tbOK zT:=⟨fun n hn=>by simp [zT] at hn,by simp [zT],by simp [zT]⟩
theorem repP_okm {t:Tb} {p:Int} {w:Nat} (ht:tbOK t) (hw:w<2^64):tbOK (repP t p w).1:=by
 obtain ⟨r,ns,ds⟩:=t
 unfold repP
 split
 ·exact zT_okm
 ·rename_i hk
  obtain ⟨hpv,hp0,hp1⟩:=ckd_pt ht hk
  obtain ⟨p,rfl⟩:=Int.eq_ofNat_of_zero_le hp0
  have hp:p<512:=by omega
  rw [Int.toNat_natCast]
  split
  ·exact zT_okm
  ·split
   ·exact zT_okm
   ·have hlt:=(lsT_lt hpv hp).1
    exact ⟨setN_ok ht.1 hw hlt,by show (setN _ _ _ _).length≤_;rw [setN_len];exact ht.2.1,ht.2.2⟩
theorem odW_lt {w:Nat} (h:w<2^64):(odW w).1<2^64:=by
 unfold odW
 split
 ·show 0<2^64;decide
 ·split
  ·show 0<2^64;decide
  ·exact Nat.lt_of_le_of_lt Nat.and_le_left h
noncomputable def haS (s:Tb×List Int) (x:Pe):Tb×List Int:=if (decR x.2).1.1≠1∨(decR x.2).1.2.2.2.1=false then s else ((repP s.1 x.1 (odW x.2).1).1,s.2++[x.1])
noncomputable def haL (t:Tb) (l:List Pe) (i:Nat):Tb×List Int:=(l.take i).foldl haS (t,[])
noncomputable def haT (t:Tb):Tb×List Int×Int:=if chk t≠0 then (zT,[],chk t) else ((haL t (lstT t) (lstT t).length).1,(haL t (lstT t) (lstT t).length).2,0)
def gpe (l:List Pe) (i:Nat):Pe:=l.getD i (0,0)
theorem gpe_eq {l:List Pe} {i:Nat} (h:i<l.length):gpe l i=l[i]:=by
 unfold gpe
 rw [List.getD_eq_getElem?_getD,List.getElem?_eq_getElem h];rfl
theorem gpe_mem {l:List Pe} {i:Nat} (h:i<l.length):gpe l i∈l:=by rw [gpe_eq h];exact List.getElem_mem h
theorem haL_s {t:Tb} {l:List Pe} {i:Nat} (h:i<l.length):haL t l (i+1)=haS (haL t l i) (gpe l i):=by
 unfold haL
 rw [List.take_add_one,List.getElem?_eq_getElem h,List.foldl_append,gpe_eq h]
 rfl
theorem haL_ok {t:Tb} (ht:tbOK t) {l:List Pe} (hl:∀ x∈l,x.2<2^64):∀ {i:Nat},i≤l.length→tbOK (haL t l i).1∧(haL t l i).2.length≤i
 | 0,_=>⟨ht,Nat.le_refl _⟩
 | i+1,hi=>by
  have ih:=haL_ok ht hl (i:=i) (by omega)
  rw [haL_s (by omega)]
  unfold haS
  split
  ·exact ⟨ih.1,by omega⟩
  ·exact ⟨repP_okm ih.1 (odW_lt (hl _ (gpe_mem (by omega)))),by simp;omega⟩
theorem lst_u64 {t:Tb} (ht:tbOK t):∀ x∈lstT t,x.2<2^64:=by
 unfold lstT
 split
 ·rename_i h0
  have hpv:=chk_pv ht h0
  have key:∀ n,n≤512→∀ x∈lsA t n,x.2<2^64:=by
   intro n
   induction n with
   | zero=>intro _ x hx;simp [lsA] at hx
   | succ n ih =>
    intro hn x hx
    simp only [lsA] at hx
    rcases List.mem_append.1 hx with h|h
    ·exact ih (by omega) x h
    ·unfold lsF at h
     split at h
     ·simp at h
      rw [h]
      exact lsT_u64 ht hpv (by omega)
     ·simp at h
  exact key 512 (Nat.le_refl _)
 ·intro x hx;simp at hx
theorem lstT_l5 {t:Tb}:(lstT t).length≤512:=by
 unfold lstT
 split
 ·have key:∀ n,(lsA t n).length≤n:=by
   intro n
   induction n with
   | zero=>simp [lsA]
   | succ n ih =>
    simp only [lsA,List.length_append]
    have:(lsF t n).length≤1:=by unfold lsF;split<;>simp
    omega
  exact key 512
 ·simp
theorem erows_giM {l:List Pe} {i:Nat} (h:i<l.length):(erows l)[i]?=some [I (gpe l i).1,U (gpe l i).2]:=by
 rw [gpe_eq h]
 simp [erows,erow,List.getElem?_eq_getElem h]
theorem erows_gEM {l:List Pe} {i:Nat} (h:i<l.length):∀ h',(erows l)[i]'(h')=[I (gpe l i).1,U (gpe l i).2]:=fun h'=>by
 have:=erows_giM h
 rw [List.getElem?_eq_getElem h'] at this
 exact Option.some.inj this
noncomputable def HaF:List AV→Option AV:=specF (ι:={x:Tb // tbOK x}) (fun x=>[TbV x.1]) fun x=>retOf [TbO (haT x.1).1,.ow 1 (irows (haT x.1).2.1),I (haT x.1).2.2]
def ReO (X:AX):Prop:=∀ (t:Tb) (p:Int) (w:Nat),tbOK t→w<2^64→∀ (a va b vb:Nat) (fa fb:Bool) (M:Nat→AO) (n:Nat),M a=.vec va 9 fa (nrows t.2.1)→M b=.vec vb 2 fb (prows t.2.2) →
 X.call 61 [TbS t a va b vb,I p,U w] M n=some (.tup [TbC (repP t p w).1 n,U (repP t p w).2.1,I (repP t p w).2.2],outT (repP t p w).1 n)
theorem reO {X:AX} (h:X.call 61=callP ReF):ReO X:=fun t p w ht hw a va b vb fa fb M n h1 h2=>by
 rw [h]
 unfold ReF
 rw [callP_spec (ι:={x:Tb×Int×Nat // tbOK x.1∧x.2.2<2^64}) (A:=fun x=>[TbV x.1.1,I x.1.2.1,U x.1.2.2]) (R:=fun x=>retOf [TbO (repP x.1.1 x.1.2.1 x.1.2.2).1,U (repP x.1.1 x.1.2.1 x.1.2.2).2.1,I (repP x.1.1 x.1.2.1 x.1.2.2).2.2]) ⟨(t,p,w),ht,hw⟩ (peek_tab ⟨⟨fa,h1⟩,fb,h2⟩ (by simp [U])) ?_ (by rw [open_rep];simp only;omega),open_rep]
 rintro ⟨⟨t',p',w'⟩,h'⟩ e
 simp only [List.cons.injEq,TbV_inj,U,I,AV.v.injEq,Value.int.injEq,true_and,and_true,Int.ofNat_inj] at e
 obtain ⟨rfl,rfl,rfl⟩:=e;rfl
set_option maxHeartbeats 16000000 in
theorem s90 (X:AX) (hX:XOK Tryz.prog X) (hw:X.W wT) (hch:∀ t:Tb,tbOK t→∀ M n,X.call 39 [TbV t] M n=some (I (chk t),[]))
  (hcT:∀ t:Tb,tbOK t→∀ M n,X.call 94 [TbV t] M n=some (TbC t n,outT t n))
  (hli:∀ t:Tb,tbOK t→∀ M n,X.call 44 [TbV t] M n=some (.sl n 1 2 0 (lstT t).length,[(n,.vec 1 2 false (erows (lstT t)))]))
  (hde:∀ w:Nat,w<2^64→∀ M k,X.call 56 [U w] M k=some (.tup [EnV (decR w).1,I (decR w).2],[]))
  (hod:∀ w:Nat,w<2^64→∀ M k,X.call 163 [U w] M k=some (.tup [U (odW w).1,I (odW w).2],[])) (hre:ReO X):PSound Tryz.prog 90 HaF:=by
 unfold HaF
 refine psound_spec hX mixed Tryz.func90 rfl fun ⟨⟨r,ns,ds⟩,ht⟩ w0 G=>⟨by show 1≤66;decide,rfl,?_⟩
 show AW ⟨Tryz.prog,X,66,w0,.pure G⟩ _ _ _
 have hc:Cx.OK ⟨Tryz.prog,X,66,w0,.pure G⟩:=⟨hX,mixed⟩
 have ch:=hch _ ht
 have cT:=hcT _ ht
 have li:=hli _ ht
 have hlu:=lst_u64 ht
 rcases Decidable.em (chk (r,ns,ds)=0) with h0|h0
 ·have e:haT (r,ns,ds)=((haL (r,ns,ds) (lstT (r,ns,ds)) (lstT (r,ns,ds)).length).1,(haL (r,ns,ds) (lstT (r,ns,ds)) (lstT (r,ns,ds)).length).2,0):=by unfold haT;rw [if_neg (by simp [h0])]
  rw [e]
  rw [h0] at ch
  have hll:=@lstT_l5 (r,ns,ds)
  obtain ⟨l,hl⟩:∃ l,l=lstT (r,ns,ds):=⟨_,rfl⟩
  rw [← hl] at li hlu hll ⊢
  clear hl
  simp only [TbV,TbC,outT,TbO] at ch cT li ⊢
  have zS:=jj ch<|jj cT<|li
  repeat' (first|(apply aw_seq_k;intro K hK)|(refine eM64 ?_)|(refine aw_cond (b:=_) (by exact rfl) (fun h=>?_) (fun h=>?_)<;>(try simp at h))|(refine eB ?_)|(refine hK _ ?_;clear hK)|(clear hK;refine hK _ ?_;clear hK)|(clear hK;clear hK;refine hK _ ?_;clear hK)|(clear hK;clear hK;clear hK;refine hK _ ?_;clear hK))
  all_goals clear zS
  refine aw_weaken (le_nilslot (t:=7) (sz:=1) (by simp)) ?_
  obtain ⟨t0,ht0⟩:∃ t0:Tb,t0=(r,ns,ds):=⟨_,rfl⟩
  rw [← ht0] at ht ⊢
  refine aw_loopK (s0:=?lps1) (m0:=?lpm1) (ι:={i:Nat // i≤l.length}) [2,6,23,24] (fun i=>[(25,I i.1),(7,.sl 288 1 1 0 (haL t0 l i.1).2.length)]) (fun i=>[(288,.vec 1 1 false (irows (haL t0 l i.1).2)),(176,.box [I (haL t0 l i.1).1.1,.sl 160 1 9 0 (haL t0 l i.1).1.2.1.length,.sl 161 1 2 0 (haL t0 l i.1).1.2.2.length]),(160,.vec 1 9 false (nrows (haL t0 l i.1).1.2.1)),(161,.vec 1 2 false (prows (haL t0 l i.1).1.2.2))]) (fun i=>l.length - i.1) ⟨0,by omega⟩ ?lhs1 ?lhm1 ?_ ?_
  case lhs1=>first|(simp [keepS];done)|(simp [keepS];rfl)
  case lhm1=>first|rfl|(simp;done)|(simp;rfl)
  ·simp only [show haL t0 l 0=((r,ns,ds),[]) by rw [ht0];rfl]
   exact le_of2 (by simp) (by simp [AVle,AV.under,AV.underL,irows]<;>omega) (by simp [AOle,AO.under,AV.underL,AV.under,irows]<;>omega)
  ·rintro ⟨i,hi⟩
   simp only
   rcases Decidable.em (i<l.length) with hil|hil
   ·have hilI:(i:Int)<(l.length:Int):=by omega
    have hg:=erows_giM hil
    have hgE:=erows_gEM hil
    have hu:=hlu _ (gpe_mem hil)
    have hst:=@haL_s t0 l i hil
    obtain ⟨ok1,ok2⟩:=haL_ok ht hlu (i:=i) (by omega)
    have de:=hde _ hu
    have od:=hod _ hu
    have odl:=odW_lt hu
    obtain ⟨⟨p,x⟩,hm⟩:∃ m,m=gpe l i:=⟨_,rfl⟩
    rw [← hm] at hg hgE hst hu de od odl
    obtain ⟨⟨⟨r1,ns1,ds1⟩,L⟩,hL⟩:∃ L,L=haL t0 l i:=⟨_,rfl⟩
    rw [← hL] at hst ok1 ok2
    simp only [← hL]
    unfold haS at hst
    simp only [U] at hg hgE hst de od odl ok1 ok2
    obtain ⟨⟨⟨k,num,b1,b2,b3,hgf⟩,er⟩,hx⟩:∃ y,y=decR x:=⟨_,rfl⟩
    rw [← hx] at hst de
    obtain ⟨⟨w2,er2⟩,hx2⟩:∃ y,y=odW x:=⟨_,rfl⟩
    rw [← hx2] at hst od odl
    simp only [EnV] at hst de od odl
    have hL5:L.length≤512:=by omega
    rcases Decidable.em (k=1) with hk1|hk1
    ·cases b2 with
     | true =>
      rw [if_neg (by simp [hk1])] at hst
      have re:=hre _ p w2 ok1 odl 160 1 161 1 false false
      simp only [TbS,TbC,outT,U] at re
      obtain ⟨⟨⟨r2,ns2,ds2⟩,w3,er3⟩,hx3⟩:∃ y,y=repP (r1,ns1,ds1) p w2:=⟨_,rfl⟩
      rw [← hx3] at re hst
      simp only at re hst
      have htk:=irows_tkl L
      have hap:=irows_ap L p
      subst hk1
      have zS:=jj hilI<|jj hil<|jj hg<|jj hgE<|jj de<|jj od<|jj re<|jj hL5<|jj htk<|hap
      repeat' (first|(apply aw_seq_k;intro K hK)|(refine eM64 ?_)|(refine aw_cond (b:=_) (by exact rfl) (fun h=>?_) (fun h=>?_)<;>(try simp at h))|(refine eB ?_)|(refine hK _ ?_;clear hK)|(clear hK;refine hK _ ?_;clear hK)|(clear hK;clear hK;refine hK _ ?_;clear hK)|(clear hK;clear hK;clear hK;refine hK _ ?_;clear hK))
      all_goals clear zS
      refine ⟨i+1,?_,by omega,by omega⟩
      simp only [hst]
      refine le_turn (s1:=?tus2) (m1:=?tum2) [(833,160),(834,161)] [2,6,7,23,24,25] [0,16,176,240,288,833,834] ?tua2 ?tub2 ?tuc2 ?tud2 ?tue2 ?tuf2 ?tug2
      case tua2=>first|(simp [keepS];done)|(simp [keepS];rfl)
      case tub2=>first|(simp;done)|(simp;rfl)
      case tuc2=>simp
      case tud2=>simp
      case tue2=>simp
      case tuf2=>simp
      case tug2 =>
       simp [swp,vr]
       exact dle
     | false =>
      rw [if_pos (by simp)] at hst
      subst hk1
      have zS:=jj hilI<|jj hil<|jj hg<|jj hgE<|de
      repeat' (first|(apply aw_seq_k;intro K hK)|(refine eM64 ?_)|(refine aw_cond (b:=_) (by exact rfl) (fun h=>?_) (fun h=>?_)<;>(try simp at h))|(refine eB ?_)|(refine hK _ ?_;clear hK)|(clear hK;refine hK _ ?_;clear hK)|(clear hK;clear hK;refine hK _ ?_;clear hK)|(clear hK;clear hK;clear hK;refine hK _ ?_;clear hK))
      all_goals clear zS
      refine ⟨i+1,?_,by omega,by omega⟩
      simp only [hst]
      exact dle
    ·rw [if_pos (by simp [hk1])] at hst
     have zS:=jj hilI<|jj hil<|jj hg<|jj hgE<|jj de<|hk1
     repeat' (first|(apply aw_seq_k;intro K hK)|(refine eM64 ?_)|(refine aw_cond (b:=_) (by exact rfl) (fun h=>?_) (fun h=>?_)<;>(try simp at h))|(refine eB ?_)|(refine hK _ ?_;clear hK)|(clear hK;refine hK _ ?_;clear hK)|(clear hK;clear hK;refine hK _ ?_;clear hK)|(clear hK;clear hK;clear hK;refine hK _ ?_;clear hK))
     all_goals clear zS
     refine ⟨i+1,?_,by omega,by omega⟩
     simp only [hst]
     exact dle
   ·obtain rfl:i=l.length:=by omega
    obtain ⟨⟨⟨r1,ns1,ds1⟩,L⟩,hL⟩:∃ L,L=haL t0 l l.length:=⟨_,rfl⟩
    simp only [← hL]
    have hL2:haL (r,ns,ds) l l.length=((r1,ns1,ds1),L):=by rw [← ht0];exact hL.symm
    have htk:=irows_tkl L
    have t1:=tkN ns1
    have t2:=tkP ds1
    repeat' (first|(apply aw_seq_k;intro K hK)|(refine eM64o ?_)|(refine aw_cond (b:=_) (by exact rfl) (fun h=>?_) (fun h=>?_)<;>(try simp at h))|(refine eB ?_)|(refine hK _ ?_;clear hK)|(clear hK;refine hK _ ?_;clear hK)|(clear hK;clear hK;refine hK _ ?_;clear hK)|(clear hK;clear hK;clear hK;refine hK _ ?_;clear hK))
    refine ⟨by simp,?_⟩
    simp [leaves_iff,Tryz.f90,hL2,htk,t1,t2]
    try exact dt
 ·have e:haT (r,ns,ds)=(zT,[],chk (r,ns,ds)):=by unfold haT;rw [if_pos h0]
  rw [e]
  obtain ⟨c,hcz⟩:∃ c,c=chk (r,ns,ds):=⟨_,rfl⟩
  rw [← hcz] at ch h0 ⊢
  simp only [TbV,TbO,zT] at ch ⊢
  have zS:=jj ch<|h0
  refine dM64 ?_
  repeat (intro K hK)
  clear zS
  refine ⟨by simp,?_⟩
  simp [leaves_iff,Tryz.f90,nrows,prows,irows]
  try exact dt
end Go.AM
namespace Go.AM
open Go Go.Proofs
def repC (t:Tb) (p w:Nat):Tb×Nat×Int :=
 if (lsT t p).2.2=0 then (zT,0,6)
 else if (decR w).2≠0∨(decR w).1.1=0∨(decR w).1.1=4∨suitB (decR w).1 (lsT t p).2.1=false then (zT,0,3)
 else (putT t p w,(lsT t p).2.2,0)
theorem repC_ok {t:Tb} {p w:Nat} (h:chkC t=true) (hp:p<512):repP t p w=repC t p w:=by
 unfold repP
 rw [if_neg (by rw [ckd_z (chkC_ok h) (by omega) (by omega)];decide),Int.toNat_natCast]
 rfl
def acC (t:Tb) (b:Tl) (s:Int) (p:Nat) (wr:Bool):Tb×Tl×Int×Int :=
 if chB b≠0 then (zT,zB,0,chB b)
 else if plcB s p=false then (zT,zB,0,2)
 else if (lkT b s p).2=true∧(wr=false∨((decR (lkT b s p).1).1.2.2.1=true∧(decR (lkT b s p).1).1.2.2.2.2.1=true)) then (t,b,frmG (decR (lkT b s p).1).1 p,0)
 else if rfE (decR (lsT t p).2.2).1 wr≠0 then (t,(inT b s p).1,0,rfE (decR (lsT t p).2.2).1 wr)
 else ((repC t p (mkW (lsT t p).2.2 wr).1).1,(fiT b s p (mkW (lsT t p).2.2 wr).1).1,frmG (decR (lsT t p).2.2).1 p,0)
theorem acC_ok {t:Tb} {b:Tl} {s:Int} {p:Nat} {wr:Bool} (h:chkC t=true) (hp:p<512):acT t b s p wr=acC t b s p wr:=by
 unfold acT acM
 rw [if_neg (by simp [chkC_ok h]),walkC_ok h hp]
 simp only [repC_ok h hp]
 rfl
def t8:Tb:=(10,[(10,[0,2820,0,0,0,0,0,0]),(11,[3076,0,0,0,0,0,0,0]),(12,[0,0,0,0,0,0,1289,0])],[])
def v8:Tb:=(10,[(10,[0,2820,0,0,0,0,0,0]),(11,[3076,0,0,0,0,0,0,0]),(12,[0,0,0,0,0,0,1337,0])],[])
def h8:Tb:=(10,[(10,[0,2820,0,0,0,0,0,0]),(11,[3076,0,0,0,0,0,0,0]),(12,[0,0,0,0,0,0,1321,0])],[])
def b8:Tl:=(2,[])
def c8:Tl:=(2,[(0,70,1305)])
def d8:Tl:=(2,[(0,70,1337)])
theorem t8C:chkC t8=true:=by kernel_rfl
theorem v8C:chkC v8=true:=by kernel_rfl
theorem ac1:acT t8 b8 0 70 false=(bT,c8,5,0):=(acC_ok (p:=70) t8C (by decide)).trans (by kernel_rfl)
theorem ac2:acT bT c8 0 70 true=(v8,d8,5,0):=(acC_ok (p:=70) bC (by decide)).trans (by kernel_rfl)
theorem ac3:acT aT d8 0 70 true=(aT,d8,5,0):=(acC_ok (p:=70) aC (by decide)).trans (by kernel_rfl)
theorem ac4:acT aT b8 0 70 false=(aT,b8,0,13):=(acC_ok (p:=70) aC (by decide)).trans (by kernel_rfl)
theorem lst8:lstT v8=[(70,1337)]:=(lstC_ok v8C).trans (by kernel_rfl)
theorem ha8:haT v8=(h8,[70],0):=by
 have e1:(odW 1337).1=1321:=by kernel_rfl
 have e2:repP v8 70 1321=(h8,1337,0):=(repC_ok (p:=70) v8C (by decide)).trans (by kernel_rfl)
 have e3:(decR 1337).1.1=1:=by kernel_rfl
 have e4:(decR 1337).1.2.2.2.1=true:=by kernel_rfl
 unfold haT
 rw [if_neg (by simp [chkC_ok v8C]),lst8]
 simp [haL,haS,e1,e2,e3,e4]
theorem rc1:rcT d8 true=[5]:=by
 have e0:chB d8=0:=by kernel_rfl
 have e1:rcL true d8.2 d8.2.length=[5]:=by kernel_rfl
 unfold rcT
 rw [if_neg (by simp [e0]),e1]
 exact List.perm_singleton.1 (sortL_perm [5])
theorem rc2:rcT c8 true=[]:=by
 have e0:chB c8=0:=by kernel_rfl
 have e1:rcL true c8.2 c8.2.length=[]:=by kernel_rfl
 unfold rcT
 rw [if_neg (by simp [e0]),e1]
 exact List.Perm.eq_nil (sortL_perm [])
theorem ok8:tbOK t8∧tbOK v8∧tbOK h8:=by unfold tbOK ndOK;decide +kernel
end Go.AM
set_option maxHeartbeats 4000000
namespace Go.AM
open Go Go.Proofs
theorem dec_hg {w:Nat} (h:(decR w).2=0) (h1:(decR w).1.1≠1):(decR w).1.2.2.2.2.2=false:=by
 obtain ⟨_,_,h3,_⟩:=decR_ok h
 obtain ⟨⟨k,f,b1,b2,b3,b4⟩,hx⟩:∃ x,x=(decR w).1:=⟨_,rfl⟩
 rw [← hx] at h1 h3 ⊢
 simp only at h1 ⊢
 unfold frmE noFl at h3
 simp only at h3
 rw [if_neg h1] at h3
 split at h3
 ·simp at h3;exact h3.2.2
 ·split at h3
  ·simp at h3;simp [h3]
  ·split at h3
   ·simp at h3;simp [h3]
   ·cases h3
theorem s180 (X:AX) (hX:XOK Tryz.prog X) (hw:X.W wT) (hde:∀ n:Nat,n<2^64→∀ M k,X.call 131 [U n] M k=some (.tup [EnV (decR n).1,I (decR n).2],[])):PSound Tryz.prog 180 TrF:=by
 unfold TrF
 refine psound_spec hX mixed Tryz.func180 rfl fun ⟨w,hw64⟩ w0 G=>⟨by show 1≤20;decide,rfl,?_⟩
 show AW ⟨Tryz.prog,X,20,w0,.pure G⟩ _ _ _
 have hc:Cx.OK ⟨Tryz.prog,X,20,w0,.pure G⟩:=⟨hX,mixed⟩
 simp only at hw64 ⊢
 have hd:=hde w hw64
 have hgd:=@dec_hg w
 unfold trB hgB
 obtain ⟨⟨⟨k,num,b1,b2,b3,hg⟩,er⟩,hx⟩:∃ x,x=decR w:=⟨_,rfl⟩
 rw [← hx] at hd hgd ⊢
 simp only [EnV,U] at hd hgd ⊢
 rcases Decidable.em (er=0) with h1|h1
 ·rcases Decidable.em (k=1) with h2|h2
  ·cases hg
   ·have zS:=jj hd<|jj h1<|h2
    refine dF64 ?_
    repeat (intro K hK)
    clear zS
    refine ⟨by simp,?_⟩
    simp [leaves_iff,Tryz.f180,h1,h2]
    try exact dt
   ·have zS:=jj hd<|jj h1<|h2
    refine dF64 ?_
    repeat (intro K hK)
    clear zS
    refine ⟨by simp,?_⟩
    simp [leaves_iff,Tryz.f180,h1,h2]
    try exact dt
  ·obtain rfl:=hgd h1 h2
   have zS:=jj hd<|jj h1<|h2
   refine dF64 ?_
   repeat (intro K hK)
   clear zS
   refine ⟨by simp,?_⟩
   simp [leaves_iff,Tryz.f180,h1,h2]
   try exact dt
 ·have zS:=jj hd<|h1
  refine dF64 ?_
  repeat (intro K hK)
  clear zS
  refine ⟨by simp,?_⟩
  simp [leaves_iff,Tryz.f180,h1]
  try exact dt
noncomputable def GrF:List AV→Option AV:=specF (ι:={p:Int // 0≤p∧p<1000000}) (fun x=>[I x.1]) fun x=>retOf [I (grp x.1)]
theorem s181 (X:AX) (hX:XOK Tryz.prog X):PSound Tryz.prog 181 GrF:=by
 unfold GrF
 refine psound_spec hX mixed Tryz.func181 rfl fun ⟨p,h1,h2⟩ w0 G=>⟨by show 1≤7;decide,rfl,?_⟩
 show AW ⟨Tryz.prog,X,7,w0,.pure G⟩ _ _ _
 have hc:Cx.OK ⟨Tryz.prog,X,7,w0,.pure G⟩:=⟨hX,mixed⟩
 simp only at h1 h2 ⊢
 have htm:p.tmod 8=p%8:=Int.tmod_eq_emod_of_nonneg h1
 unfold grp
 rw [htm]
 have zS:=htm
 refine dM64 ?_
 repeat (intro K hK)
 clear zS
 refine ⟨by simp,?_⟩
 simp [leaves_iff,Tryz.f181]
 try exact dt
noncomputable def HtF:List AV→Option AV:=specF (ι:={x:Te×Int×Int // x.1.2.2<2^64∧x.2.2<1000000}) (fun x=>[TeV x.1.1,I x.1.2.1,I x.1.2.2]) fun x=>retOf [B (htB x.1.1 x.1.2.1 x.1.2.2)]
theorem s176 (X:AX) (hX:XOK Tryz.prog X) (hw:X.W wT) (htr:∀ w:Nat,w<2^64→∀ M k,X.call 180 [U w] M k=some (.tup [B (trB w),B (hgB w)],[]))
  (hgr:∀ p:Int,0≤p→p<1000000→∀ M k,X.call 181 [I p] M k=some (I (grp p),[])):PSound Tryz.prog 176 HtF:=by
 unfold HtF
 refine psound_spec hX mixed Tryz.func176 rfl fun ⟨⟨⟨a,b,w⟩,s,p⟩,hw64,hp⟩ w0 G=>⟨by show 3≤33;decide,rfl,?_⟩
 show AW ⟨Tryz.prog,X,33,w0,.pure G⟩ _ _ _
 have hc:Cx.OK ⟨Tryz.prog,X,33,w0,.pure G⟩:=⟨hX,mixed⟩
 simp only at hw64 hp ⊢
 have ht:=htr w hw64
 unfold htB
 simp only
 rw [show p - p.tmod 8=grp p from rfl]
 simp only [TeV,U] at ht ⊢
 rcases Decidable.em (a=s) with h1|h1
 ·rw [if_neg (by simp [h1])]
  generalize trB w=tr at ht
  generalize hgB w=hg at ht
  cases hg with
  | true =>
   rcases Decidable.em (0≤p) with h2|h2
   ·have hg2:=hgr p h2 hp
    rcases Decidable.em (b=grp p) with h3|h3
    ·have zS:=jj ht<|jj h1<|jj h2<|jj hg2<|h3
     refine dM64 ?_
     repeat (intro K hK)
     clear zS
     refine ⟨by simp,?_⟩
     simp [leaves_iff,Tryz.f176,h2,h3]
     try exact dt
    ·have zS:=jj ht<|jj h1<|jj h2<|jj hg2<|h3
     refine dM64 ?_
     repeat (intro K hK)
     clear zS
     refine ⟨by simp,?_⟩
     simp [leaves_iff,Tryz.f176,h2,h3]
     try exact dt
   ·have zS:=jj ht<|jj h1<|h2
    refine dM64 ?_
    repeat (intro K hK)
    clear zS
    refine ⟨by simp,?_⟩
    simp [leaves_iff,Tryz.f176,h2]
    try exact dt
  | false =>
   have zS:=jj ht<|h1
   refine dM64 ?_
   repeat (intro K hK)
   clear zS
   refine ⟨by simp,?_⟩
   simp [leaves_iff,Tryz.f176]
   try exact dt
 ·rw [if_pos h1]
  have zS:=jj ht<|h1
  refine dM64 ?_
  repeat (intro K hK)
  clear zS
  refine ⟨by simp,?_⟩
  simp [leaves_iff,Tryz.f176]
  try exact dt
def ovRk (a b:Te) (i:Nat):Bool:=htB a b.1 (grp b.2.1+i)&&htB b b.1 (grp b.2.1+i)
def ovR (a b:Te):Bool:=(List.range 8).any (ovRk a b)
theorem ovR_eq {a b:Te} (ha:efE a=0) (hb:efE b=0):ovR a b=ovB a b:=by
 rw [Bool.eq_iff_iff,← ov_ref ha hb]
 unfold ovR ovRk
 simp [List.any_eq_true]
theorem ovR_t {a b:Te} {i:Nat} (hi:i<8) (h:ovRk a b i=true):ovR a b=true:=List.any_eq_true.2 ⟨i,by simpa using hi,h⟩
theorem ovR_f {a b:Te} (h:∀ i,i<8→ovRk a b i=false):ovR a b=false:=by
 unfold ovR
 rw [List.any_eq_false]
 intro i hi
 rw [h i (by simpa using hi)];simp
noncomputable def OrfF:List AV→Option AV:=specF (ι:={x:Te×Te // x.1.2.2<2^64∧x.2.2.2<2^64∧0≤x.2.2.1∧x.2.2.1<512}) (fun x=>[TeV x.1.1,TeV x.1.2]) fun x=>retOf [B (ovR x.1.1 x.1.2)]
theorem grp_rng {p:Int} (h:0≤p):0≤grp p∧grp p≤p:=by
 unfold grp
 rw [Int.tmod_eq_emod_of_nonneg h]
 omega
theorem s175 (X:AX) (hX:XOK Tryz.prog X) (hw:X.W wT) (hht:∀ (x:Te) (s p:Int),x.2.2<2^64→p<1000000→∀ M k,X.call 176 [TeV x,I s,I p] M k=some (B (htB x s p),[]))
  (hgr:∀ p:Int,0≤p→p<1000000→∀ M k,X.call 181 [I p] M k=some (I (grp p),[])):PSound Tryz.prog 175 OrfF:=by
 unfold OrfF
 refine psound_spec hX mixed Tryz.func175 rfl fun ⟨⟨⟨a1,a2,a3⟩,b1,b2,b3⟩,ha,hb,hb1,hb2⟩ w0 G=>⟨by show 2≤30;decide,rfl,?_⟩
 show AW ⟨Tryz.prog,X,30,w0,.pure G⟩ _ _ _
 have hc:Cx.OK ⟨Tryz.prog,X,30,w0,.pure G⟩:=⟨hX,mixed⟩
 simp only at ha hb hb1 hb2 ⊢
 have hgr':=hgr b2 hb1 (by omega)
 obtain ⟨g1,g2⟩:=grp_rng hb1
 have hh1:=hht (a1,a2,a3) b1
 have hh2:=hht (b1,b2,b3) b1
 obtain ⟨g,hg⟩:∃ g,g=grp b2:=⟨_,rfl⟩
 rw [← hg] at hgr' g1 g2
 simp only [TeV] at hh1 hh2 ⊢
 repeat' (first|(apply aw_seq_k;intro K hK)|(refine eM64o ?_)|(refine aw_cond (b:=_) (by exact rfl) (fun h=>?_) (fun h=>?_)<;>(try simp at h))|(refine eB ?_)|(refine hK _ ?_;clear hK)|(clear hK;refine hK _ ?_;clear hK)|(clear hK;clear hK;refine hK _ ?_;clear hK)|(clear hK;clear hK;clear hK;refine hK _ ?_;clear hK))
 refine aw_loopK (s0:=?lps1) (m0:=?lpm1) (ι:={i:Nat // i≤8∧∀ j,j<i→ovRk (a1,a2,a3) (b1,b2,b3) j=false}) [2,3] (fun i=>[(5,I i.1)]) (fun i=>[]) (fun i=>8 - i.1) ⟨0,by omega,fun j hj=>absurd hj (by omega)⟩ ?lhs1 ?lhm1 ?_ ?_
 case lhs1=>first|(simp [keepS];done)|(simp [keepS];rfl)
 case lhm1=>first|rfl|(simp;done)|(simp;rfl)
 ·exact le_of2 (by simp) (by simp [AVle,AV.under,AV.underL,U]<;>omega) (by simp [AOle,AO.under,AV.underL,AV.under,U]<;>omega)
 ·rintro ⟨i,hi,hno⟩
  simp only
  rcases Decidable.em (i<8) with hil|hil
  ·have hilI:(i:Int)<8:=by omega
   have h1:=hh1 (g+i) ha (by omega)
   have h2:=hh2 (g+i) hb (by omega)
   have hk:ovRk (a1,a2,a3) (b1,b2,b3) i=(htB (a1,a2,a3) b1 (g+i)&&htB (b1,b2,b3) b1 (g+i)):=by unfold ovRk;rw [hg]
   generalize htB (a1,a2,a3) b1 (g+i)=c1 at h1 hk
   generalize htB (b1,b2,b3) b1 (g+i)=c2 at h2 hk
   cases c1 with
   | true =>
    cases c2 with
    | true =>
     have e:ovR (a1,a2,a3) (b1,b2,b3)=true:=ovR_t hil hk
     rw [e]
     have zS:=jj hilI<|jj hil<|jj hgr'<|jj h1<|h2
     repeat' (first|(apply aw_seq_k;intro K hK)|(refine eM64 ?_)|(refine aw_cond (b:=_) (by exact rfl) (fun h=>?_) (fun h=>?_)<;>(try simp at h))|(refine eB ?_)|(refine hK _ ?_;clear hK)|(clear hK;refine hK _ ?_;clear hK)|(clear hK;clear hK;refine hK _ ?_;clear hK)|(clear hK;clear hK;clear hK;refine hK _ ?_;clear hK))
     all_goals clear zS
     refine ⟨by simp,?_⟩
     simp [leaves_iff,Tryz.f175]
     try exact dt
    | false =>
     have zS:=jj hilI<|jj hil<|jj hgr'<|jj h1<|h2
     repeat' (first|(apply aw_seq_k;intro K hK)|(refine eM64 ?_)|(refine aw_cond (b:=_) (by exact rfl) (fun h=>?_) (fun h=>?_)<;>(try simp at h))|(refine eB ?_)|(refine hK _ ?_;clear hK)|(clear hK;refine hK _ ?_;clear hK)|(clear hK;clear hK;refine hK _ ?_;clear hK)|(clear hK;clear hK;clear hK;refine hK _ ?_;clear hK))
     all_goals clear zS
     refine ⟨i+1,?_,⟨by omega,fun j hj=>?_⟩,by omega⟩
     ·exact le_of2 (by simp) (by simp [AVle,AV.under,AV.underL,U]<;>omega) (by simp [AOle,AO.under,AV.underL,AV.under,U]<;>omega)
     ·rcases Nat.lt_succ_iff_lt_or_eq.1 hj with h|rfl
      ·exact hno j h
      ·exact hk
   | false =>
    have zS:=jj hilI<|jj hil<|jj hgr'<|h1
    repeat' (first|(apply aw_seq_k;intro K hK)|(refine eM64 ?_)|(refine aw_cond (b:=_) (by exact rfl) (fun h=>?_) (fun h=>?_)<;>(try simp at h))|(refine eB ?_)|(refine hK _ ?_;clear hK)|(clear hK;refine hK _ ?_;clear hK)|(clear hK;clear hK;refine hK _ ?_;clear hK)|(clear hK;clear hK;clear hK;refine hK _ ?_;clear hK))
    all_goals clear zS
    refine ⟨i+1,?_,⟨by omega,fun j hj=>?_⟩,by omega⟩
    ·exact le_of2 (by simp) (by simp [AVle,AV.under,AV.underL,U]<;>omega) (by simp [AOle,AO.under,AV.underL,AV.under,U]<;>omega)
    ·rcases Nat.lt_succ_iff_lt_or_eq.1 hj with h|rfl
     ·exact hno j h
     ·exact hk
  ·obtain rfl:i=8:=by omega
   have e:ovR (a1,a2,a3) (b1,b2,b3)=false:=ovR_f hno
   repeat' (first|(apply aw_seq_k;intro K hK)|(refine eM64o ?_)|(refine aw_cond (b:=_) (by exact rfl) (fun h=>?_) (fun h=>?_)<;>(try simp at h))|(refine eB ?_)|(refine hK _ ?_;clear hK)|(clear hK;refine hK _ ?_;clear hK)|(clear hK;clear hK;refine hK _ ?_;clear hK)|(clear hK;clear hK;clear hK;refine hK _ ?_;clear hK))
   refine ⟨by simp,?_⟩
   simp [leaves_iff,Tryz.f175,e]
   try exact dt
end Go.AM
set_option maxHeartbeats 4000000
namespace Go.AM
open Go Go.Proofs
noncomputable def SpF7:List AV→Option AV:=specF (ι:=Int) (fun x=>[I x]) fun x=>retOf [B (decide (0≤x∧x<8))]
noncomputable def PgF7:List AV→Option AV:=specF (ι:=Int) (fun x=>[I x]) fun x=>retOf [B (decide (0≤x∧x<512))]
theorem s178 (X:AX) (hX:XOK Tryz.prog X):PSound Tryz.prog 178 SpF7:=by
 unfold SpF7
 refine psound_spec hX mixed Tryz.func178 rfl fun s w0 G=>⟨by show 1≤9;decide,rfl,?_⟩
 show AW ⟨Tryz.prog,X,9,w0,.pure G⟩ _ _ _
 have hc:Cx.OK ⟨Tryz.prog,X,9,w0,.pure G⟩:=⟨hX,mixed⟩
 rcases Decidable.em (0≤s) with h1|h1
 ·rcases Decidable.em (s<8) with h2|h2
  ·have zS:=jj h1<|h2
   refine dM64 ?_
   repeat (intro K hK)
   clear zS
   refine ⟨by simp,?_⟩
   simp [leaves_iff,Tryz.f178,h1,h2]
   try exact dt
  ·have zS:=jj h1<|h2
   refine dM64 ?_
   repeat (intro K hK)
   clear zS
   refine ⟨by simp,?_⟩
   simp [leaves_iff,Tryz.f178,h1,h2]
   try exact dt
 ·have zS:=h1
  refine dM64 ?_
  repeat (intro K hK)
  clear zS
  refine ⟨by simp,?_⟩
  simp [leaves_iff,Tryz.f178,h1]
  try exact dt
theorem s179 (X:AX) (hX:XOK Tryz.prog X):PSound Tryz.prog 179 PgF7:=by
 unfold PgF7
 refine psound_spec hX mixed Tryz.func179 rfl fun s w0 G=>⟨by show 1≤9;decide,rfl,?_⟩
 show AW ⟨Tryz.prog,X,9,w0,.pure G⟩ _ _ _
 have hc:Cx.OK ⟨Tryz.prog,X,9,w0,.pure G⟩:=⟨hX,mixed⟩
 rcases Decidable.em (0≤s) with h1|h1
 ·rcases Decidable.em (s<512) with h2|h2
  ·have zS:=jj h1<|h2
   refine dM64 ?_
   repeat (intro K hK)
   clear zS
   refine ⟨by simp,?_⟩
   simp [leaves_iff,Tryz.f179,h1,h2]
   try exact dt
  ·have zS:=jj h1<|h2
   refine dM64 ?_
   repeat (intro K hK)
   clear zS
   refine ⟨by simp,?_⟩
   simp [leaves_iff,Tryz.f179,h1,h2]
   try exact dt
 ·have zS:=h1
  refine dM64 ?_
  repeat (intro K hK)
  clear zS
  refine ⟨by simp,?_⟩
  simp [leaves_iff,Tryz.f179,h1]
  try exact dt
noncomputable def OneF:List AV→Option AV:=specF (ι:={x:Te // x.2.2<2^64}) (fun x=>[TeV x.1]) fun x=>retOf [I (efE x.1)]
theorem plcB_sp {s p:Int}:plcB s p=(decide (0≤s∧s<8)&&decide (0≤p∧p<512)):=by
 unfold plcB
 rw [← Bool.decide_and,decide_eq_decide]
 omega
theorem s174 (X:AX) (hX:XOK Tryz.prog X) (hw:X.W wT) (hsp:∀ s M k,X.call 178 [I s] M k=some (B (decide (0≤s∧s<8)),[])) (hpg:∀ s M k,X.call 179 [I s] M k=some (B (decide (0≤s∧s<512)),[]))
  (htr:∀ w:Nat,w<2^64→∀ M k,X.call 180 [U w] M k=some (.tup [B (trB w),B (hgB w)],[])):PSound Tryz.prog 174 OneF:=by
 unfold OneF
 refine psound_spec hX mixed Tryz.func174 rfl fun ⟨⟨s,p,w⟩,hw64⟩ w0 G=>⟨by show 1≤32;decide,rfl,?_⟩
 show AW ⟨Tryz.prog,X,32,w0,.pure G⟩ _ _ _
 have hc:Cx.OK ⟨Tryz.prog,X,32,w0,.pure G⟩:=⟨hX,mixed⟩
 simp only at hw64 ⊢
 have ht:=htr w hw64
 have h1:=hsp s
 have h2:=hpg p
 have e0:efE (s,p,w)=if plcB s p=false then 2 else if trB w=false∨(hgB w=true∧p%8≠0) then 3 else 0:=rfl
 rw [plcB_sp] at e0
 have hp0:decide (0≤p∧p<512)=true→0≤p:=fun h=>(of_decide_eq_true h).1
 generalize efE (s,p,w)=r at e0
 generalize decide (0≤s∧s<8)=a at h1 e0
 generalize decide (0≤p∧p<512)=b at h2 e0 hp0
 generalize trB w=tr at ht e0
 generalize hgB w=hg at ht e0
 simp only [TeV,U] at ht ⊢
 cases a with
 | false =>
  rw [if_pos (by simp)] at e0
  subst e0
  have zS:=h1
  refine dM64 ?_
  repeat (intro K hK)
  clear zS
  refine ⟨by simp,?_⟩
  simp [leaves_iff,Tryz.f174]
  try exact dt
 | true =>
  cases b with
  | false =>
   rw [if_pos (by simp)] at e0
   subst e0
   have zS:=jj h1<|h2
   refine dM64 ?_
   repeat (intro K hK)
   clear zS
   refine ⟨by simp,?_⟩
   simp [leaves_iff,Tryz.f174]
   try exact dt
  | true =>
   rw [if_neg (by simp)] at e0
   have htm:p.tmod 8=p%8:=Int.tmod_eq_emod_of_nonneg (hp0 rfl)
   cases tr with
   | false =>
    rw [if_pos (.inl rfl)] at e0
    subst e0
    cases hg
    ·have zS:=jj h1<|jj h2<|ht
     refine dM64 ?_
     repeat (intro K hK)
     clear zS
     refine ⟨by simp,?_⟩
     simp [leaves_iff,Tryz.f174]
     try exact dt
    ·have zS:=jj h1<|jj h2<|jj ht<|htm
     refine dM64 ?_
     repeat (intro K hK)
     clear zS
     refine ⟨by simp,?_⟩
     simp [leaves_iff,Tryz.f174]
     try exact dt
   | true =>
    cases hg with
    | false =>
     rw [if_neg (by simp)] at e0
     subst e0
     have zS:=jj h1<|jj h2<|ht
     refine dM64 ?_
     repeat (intro K hK)
     clear zS
     refine ⟨by simp,?_⟩
     simp [leaves_iff,Tryz.f174]
     try exact dt
    | true =>
     rcases Decidable.em (p%8=0) with h5|h5
     ·rw [if_neg (by simp [h5])] at e0
      subst e0
      have zS:=jj h1<|jj h2<|jj ht<|jj htm<|h5
      refine dM64 ?_
      repeat (intro K hK)
      clear zS
      refine ⟨by simp,?_⟩
      simp [leaves_iff,Tryz.f174]
      try exact dt
     ·rw [if_pos (by simp [h5])] at e0
      subst e0
      have zS:=jj h1<|jj h2<|jj ht<|jj htm<|h5
      refine dM64 ?_
      repeat (intro K hK)
      clear zS
      refine ⟨by simp,?_⟩
      simp [leaves_iff,Tryz.f174]
      try exact dt
theorem erE_1 {l:List Te} {i:Nat} (h:efE (gt l i)≠0):erE l i=efE (gt l i):=by unfold erE;rw [if_pos h]
theorem any_take {p:Te→Bool} {l:List Te} {i j:Nat} (hj:j<i) (hi:i<l.length) (h:p (gt l j)=true):(l.take i).any p=true:=by
 refine List.any_eq_true.2 ⟨gt l j,?_,h⟩
 rw [gt_eq (by omega)]
 exact List.mem_take_iff_getElem.2 ⟨j,by omega,rfl⟩
theorem any_takeF {p:Te→Bool} {l:List Te} {i:Nat} (hi:i<l.length) (h:∀ j,j<i→p (gt l j)=false):(l.take i).any p=false:=by
 rw [List.any_eq_false]
 intro x hx
 obtain ⟨j,hj,rfl⟩:=List.mem_take_iff_getElem.1 hx
 have:=h j (by omega)
 rw [gt_eq (by omega)] at this
 rw [this];simp
theorem s101 (X:AX) (hX:XOK Tryz.prog X) (hw:X.W wT) (hon:∀ x:Te,x.2.2<2^64→∀ M k,X.call 174 [TeV x] M k=some (I (efE x),[]))
  (hov:∀ a b:Te,a.2.2<2^64→b.2.2<2^64→0≤b.2.1→b.2.1<512→∀ M k,X.call 175 [TeV a,TeV b] M k=some (B (ovR a b),[])):PSound Tryz.prog 101 CtF:=by
 unfold CtF
 refine psound_spec hX mixed Tryz.func101 rfl fun ⟨⟨s,l⟩,hl,hu⟩ w0 G=>⟨by show 1≤52;decide,rfl,?_⟩
 show AW ⟨Tryz.prog,X,52,w0,.pure G⟩ _ _ _
 have hc:Cx.OK ⟨Tryz.prog,X,52,w0,.pure G⟩:=⟨hX,mixed⟩
 simp only at hl hu ⊢
 simp only [TlV]
 rcases Decidable.em (s<1) with h1|h1
 ·have e:chB (s,l)=1:=by unfold chB;rw [if_pos (.inl h1)]
  rw [e]
  have zS:=h1
  refine dM64 ?_
  repeat (intro K hK)
  clear zS
  refine ⟨by simp,?_⟩
  simp [leaves_iff,Tryz.f101]
  try exact dt
 ·rcases Decidable.em (16<s) with h2|h2
  ·have e:chB (s,l)=1:=by unfold chB;rw [if_pos (.inr h2)]
   rw [e]
   have zS:=jj h1<|h2
   refine dM64 ?_
   repeat (intro K hK)
   clear zS
   refine ⟨by simp,?_⟩
   simp [leaves_iff,Tryz.f101]
   try exact dt
  ·rcases Decidable.em (s<(l.length:Int)) with h3|h3
   ·have e:chB (s,l)=8:=by unfold chB;rw [if_neg (by simp only;omega),if_pos h3]
    rw [e]
    have zS:=jj h1<|jj h2<|h3
    refine dM64 ?_
    repeat (intro K hK)
    clear zS
    refine ⟨by simp,?_⟩
    simp [leaves_iff,Tryz.f101]
    try exact dt
   ·have e:chB (s,l)=frst (erE l) l.length:=by unfold chB;rw [if_neg (by simp only;omega),if_neg h3]
    rw [e]
    have zS:=jj h1<|jj h2<|h3
    repeat' (first|(apply aw_seq_k;intro K hK)|(refine eM64 ?_)|(refine aw_cond (b:=_) (by exact rfl) (fun h=>?_) (fun h=>?_)<;>(try simp at h))|(refine eB ?_)|(refine hK _ ?_;clear hK)|(clear hK;refine hK _ ?_;clear hK)|(clear hK;clear hK;refine hK _ ?_;clear hK)|(clear hK;clear hK;clear hK;refine hK _ ?_;clear hK))
    all_goals clear zS
    refine aw_loopK (s0:=?lps1) (m0:=?lpm1) (ι:={i:Nat // i≤l.length∧∀ j,j<i→erE l j=0}) [1] (fun i=>[(3,I i.1)]) (fun i=>[]) (fun i=>l.length - i.1) ⟨0,by omega,fun j hj=>absurd hj (by omega)⟩ ?lhs1 ?lhm1 ?_ ?_
    case lhs1=>first|(simp [keepS];done)|(simp [keepS];rfl)
    case lhm1=>first|rfl|(simp;done)|(simp;rfl)
    ·exact dle
    ·rintro ⟨i,hi,hinv⟩
     simp only
     rcases Decidable.em (i<l.length) with hil|hil
     ·have hilI:(i:Int)<(l.length:Int):=by omega
      have hg:=trows_gi hil
      have hgE:=trows_gE hil
      have hx3:=hu _ (gt_mem hil)
      have hat:erE l i≠0→frst (erE l) l.length=erE l i:=fun h=>frst_at hinv h hil
      have hnx:erE l i=0→∀ j,j<i+1→erE l j=0:=fun h j hj=>by
       rcases Nat.lt_succ_iff_lt_or_eq.1 hj with h5|rfl
       ·exact hinv j h5
       ·exact h
      have on:=hon _ hx3
      have e1:=@erE_1 l i
      have e7:=@erE_7 l i
      have e00:=@erE_0 l i
      have hpl:efE (gt l i)=0→0≤(gt l i).2.1∧(gt l i).2.1<512:=fun h=>⟨(efE_z h).1.2.2.1,(efE_z h).1.2.2.2⟩
      have hovj:efE (gt l i)=0→∀ j,j<i→(∀ M k,X.call 175 [TeV (gt l j),TeV (gt l i)] M k=some (B (ovB (gt l i) (gt l j)),[])):=fun h j hj M k=>by
       have:=hov (gt l j) (gt l i) (hu _ (gt_mem (by omega))) hx3 (hpl h).1 (hpl h).2 M k
       rw [ovR_eq (erE_z (hinv j hj)).1 h,ovB_comm] at this
       exact this
      have anyT:∀ j,j<i→ovB (gt l i) (gt l j)=true→(l.take i).any (ovB (gt l i))=true:=fun j hj h=>any_take hj hil h
      have anyF:(∀ j,j<i→ovB (gt l i) (gt l j)=false)→(l.take i).any (ovB (gt l i))=false:=fun h=>any_takeF hil h
      obtain ⟨ef,hef⟩:∃ v,v=efE (gt l i):=⟨_,rfl⟩
      rw [← hef] at on e1 e7 e00 hovj
      rcases Decidable.em (ef=0) with h5|h5
      ·have hov2:=hovj h5
       have hrow:trow (gt l i)=[I (gt l i).1,I (gt l i).2.1,U (gt l i).2.2]:=rfl
       have htv:TeV (gt l i)=.agg [I (gt l i).1,I (gt l i).2.1,U (gt l i).2.2]:=rfl
       rw [htv] at hov2 on
       obtain ⟨Pj,hPj⟩:∃ Pj:Nat→Bool,Pj=fun j=>ovB (gt l i) (gt l j):=⟨_,rfl⟩
       have hPj':∀ j,ovB (gt l i) (gt l j)=Pj j:=fun j=>by rw [hPj]
       simp only [hPj'] at hov2 anyT anyF
       obtain ⟨⟨x1,x2,x3⟩,hm⟩:∃ m,m=gt l i:=⟨_,rfl⟩
       rw [hrow] at hg hgE
       rw [← hm] at hg hgE hov2 on
       simp only at hg hgE hov2 on
       rw [h5] at on
       have zS:=jj hilI<|jj hil<|jj hg<|jj hgE<|on
       repeat' (first|(apply aw_seq_k;intro K hK)|(refine eM64 ?_)|(refine aw_cond (b:=_) (by exact rfl) (fun h=>?_) (fun h=>?_)<;>(try simp at h))|(refine eB ?_)|(refine hK _ ?_;clear hK)|(clear hK;refine hK _ ?_;clear hK)|(clear hK;clear hK;refine hK _ ?_;clear hK)|(clear hK;clear hK;clear hK;refine hK _ ?_;clear hK))
       all_goals clear zS
       refine aw_loopK (s0:=?lps2) (m0:=?lpm2) (ι:={j:Nat // j≤i∧∀ k,k<j→Pj k=false}) [1,3] (fun j=>[(5,I j.1)]) (fun j=>[]) (fun j=>i - j.1) ⟨0,by omega,fun j hj=>absurd hj (by omega)⟩ ?lhs2 ?lhm2 ?_ ?_
       case lhs2=>first|(simp [keepS];done)|(simp [keepS];rfl)
       case lhm2=>first|rfl|(simp;done)|(simp;rfl)
       ·exact le_of2 (by simp) (by simp [AVle,AV.under,AV.underL,U]<;>omega) (by simp [AOle,AO.under,AV.underL,AV.under,U]<;>omega)
       ·rintro ⟨j,hj,hinj⟩
        simp only
        rcases Decidable.em (j<i) with hjl|hjl
        ·have hjlI:(j:Int)<(i:Int):=by omega
         have hjll:j<l.length:=by omega
         have hjllI:(j:Int)<(l.length:Int):=by omega
         have hgj:=trows_gi hjll
         have hgjE:=trows_gE hjll
         have ov:=hov2 j hjl
         have aT:=anyT j hjl
         obtain ⟨⟨y1,y2,y3⟩,hmj⟩:∃ m,m=gt l j:=⟨_,rfl⟩
         rw [← hmj] at hgj hgjE ov
         simp only [trow,TeV] at hgj hgjE ov
         obtain ⟨v,hv⟩:∃ v,v=Pj j:=⟨_,rfl⟩
         rw [← hv] at ov aT
         cases v with
         | true =>
          have er:=e7 h5 (aT rfl)
          rw [er] at hat
          have hfe:=hat (by decide)
          have zS:=jj hilI<|jj hil<|jj hg<|jj hgE<|jj hjl<|jj hjlI<|jj hjll<|jj hjllI<|jj hgj<|jj hgjE<|ov
          repeat' (first|(apply aw_seq_k;intro K hK)|(refine eM64 ?_)|(refine aw_cond (b:=_) (by exact rfl) (fun h=>?_) (fun h=>?_)<;>(try simp at h))|(refine eB ?_)|(refine hK _ ?_;clear hK)|(clear hK;refine hK _ ?_;clear hK)|(clear hK;clear hK;refine hK _ ?_;clear hK)|(clear hK;clear hK;clear hK;refine hK _ ?_;clear hK))
          all_goals clear zS
          refine ⟨by simp,?_⟩
          simp [leaves_iff,Tryz.f101,hfe]
          try exact dt
         | false =>
          have zS:=jj hilI<|jj hil<|jj hg<|jj hgE<|jj hjl<|jj hjlI<|jj hjll<|jj hjllI<|jj hgj<|jj hgjE<|ov
          repeat' (first|(apply aw_seq_k;intro K hK)|(refine eM64 ?_)|(refine aw_cond (b:=_) (by exact rfl) (fun h=>?_) (fun h=>?_)<;>(try simp at h))|(refine eB ?_)|(refine hK _ ?_;clear hK)|(clear hK;refine hK _ ?_;clear hK)|(clear hK;clear hK;refine hK _ ?_;clear hK)|(clear hK;clear hK;clear hK;refine hK _ ?_;clear hK))
          all_goals clear zS
          refine ⟨j+1,?_,⟨by omega,fun k hk=>?_⟩,by omega⟩
          ·exact le_of2 (by simp) (by simp [AVle,AV.under,AV.underL,U]<;>omega) (by simp [AOle,AO.under,AV.underL,AV.under,U]<;>omega)
          ·rcases Nat.lt_succ_iff_lt_or_eq.1 hk with h|rfl
           ·exact hinj k h
           ·exact hv.symm
        ·obtain rfl:j=i:=by omega
         have er:=e00 h5 (anyF hinj)
         repeat' (first|(apply aw_seq_k;intro K hK)|(refine eM64o ?_)|(refine aw_cond (b:=_) (by exact rfl) (fun h=>?_) (fun h=>?_)<;>(try simp at h))|(refine eB ?_)|(refine hK _ ?_;clear hK)|(clear hK;refine hK _ ?_;clear hK)|(clear hK;clear hK;refine hK _ ?_;clear hK)|(clear hK;clear hK;clear hK;refine hK _ ?_;clear hK))
         refine ⟨j+1,?_,⟨by omega,hnx er⟩,by omega⟩
         exact le_of2 (by simp) (by simp [AVle,AV.under,AV.underL,U]<;>omega) (by simp [AOle,AO.under,AV.underL,AV.under,U]<;>omega)
      ·have er:=e1 h5
       rw [er] at hat
       have hfe:=hat h5
       have htv:TeV (gt l i)=.agg [I (gt l i).1,I (gt l i).2.1,U (gt l i).2.2]:=rfl
       have hrow:trow (gt l i)=[I (gt l i).1,I (gt l i).2.1,U (gt l i).2.2]:=rfl
       rw [htv] at on
       rw [hrow] at hg hgE
       obtain ⟨⟨x1,x2,x3⟩,hm⟩:∃ m,m=gt l i:=⟨_,rfl⟩
       rw [← hm] at hg hgE on
       simp only at hg hgE on
       have zS:=jj hilI<|jj hil<|jj hg<|jj hgE<|jj on<|h5
       repeat' (first|(apply aw_seq_k;intro K hK)|(refine eM64 ?_)|(refine aw_cond (b:=_) (by exact rfl) (fun h=>?_) (fun h=>?_)<;>(try simp at h))|(refine eB ?_)|(refine hK _ ?_;clear hK)|(clear hK;refine hK _ ?_;clear hK)|(clear hK;clear hK;refine hK _ ?_;clear hK)|(clear hK;clear hK;clear hK;refine hK _ ?_;clear hK))
       all_goals clear zS
       refine ⟨by simp,?_⟩
       simp [leaves_iff,Tryz.f101,hfe]
       try exact dt
     ·obtain rfl:i=l.length:=by omega
      have hz:frst (erE l) l.length=0:=frst_z.2 hinv
      repeat' (first|(apply aw_seq_k;intro K hK)|(refine eM64o ?_)|(refine aw_cond (b:=_) (by exact rfl) (fun h=>?_) (fun h=>?_)<;>(try simp at h))|(refine eB ?_)|(refine hK _ ?_;clear hK)|(clear hK;refine hK _ ?_;clear hK)|(clear hK;clear hK;refine hK _ ?_;clear hK)|(clear hK;clear hK;clear hK;refine hK _ ?_;clear hK))
      refine ⟨by simp,?_⟩
      simp [leaves_iff,Tryz.f101,hz]
      try exact dt
end Go.AM
set_option maxHeartbeats 4000000
namespace Go.AM
open Go Go.Proofs
set_option maxRecDepth 8000 in
theorem eqTe:EqOK Tryz.prog 153:=eqok_plain (by kernel_rfl) (fun d hd=>by
 rw [tyTe,Option.some.injEq] at hd
 subst hd
 exact plB_ok (by kernel_rfl)) (by kernel_rfl) (by kernel_rfl)
theorem list_ext_gt {a b:List Te} (hl:a.length=b.length) (h:∀ j,j<a.length→gt a j=gt b j):a=b:=by
 refine List.ext_getElem hl fun i h1 h2=>?_
 have:=h i h1
 rw [gt_eq h1,gt_eq h2] at this
 exact this
noncomputable def EtlF:List AV→Option AV:=specF (ι:={x:List Te×List Te // x.1.length≤1000000∧x.2.length≤1000000}) (fun x=>[.rd 3 (trows x.1.1),.rd 3 (trows x.1.2)]) fun x=>retOf [B (decide (x.1.1=x.1.2))]
theorem s89 (X:AX) (hX:XOK Tryz.prog X) (hw:X.W wT) (he:X.eqs 153=true):PSound Tryz.prog 89 EtlF:=by
 unfold EtlF
 refine psound_spec hX mixed Tryz.func89 rfl fun ⟨⟨l,m⟩,hl,hm⟩ w0 G=>⟨by show 2≤26;decide,rfl,?_⟩
 show AW ⟨Tryz.prog,X,26,w0,.pure G⟩ _ _ _
 have hc:Cx.OK ⟨Tryz.prog,X,26,w0,.pure G⟩:=⟨hX,mixed⟩
 simp only at hl hm ⊢
 rcases Decidable.em (l.length=m.length) with h1|h1
 ·have h1I:(l.length:Int)=(m.length:Int):=by omega
  have zS:=h1
  repeat' (first|(apply aw_seq_k;intro K hK)|(refine eM64 ?_)|(refine aw_cond (b:=_) (by exact rfl) (fun h=>?_) (fun h=>?_)<;>(try simp at h))|(refine eB ?_)|(refine hK _ ?_;clear hK)|(clear hK;refine hK _ ?_;clear hK)|(clear hK;clear hK;refine hK _ ?_;clear hK)|(clear hK;clear hK;clear hK;refine hK _ ?_;clear hK))
  all_goals clear zS
  refine aw_loopK (s0:=?lps1) (m0:=?lpm1) (ι:={i:Nat // i≤m.length∧∀ j,j<i→gt l j=gt m j}) [0,1,12] (fun s=>[(13,I s.1)]) (fun _=>[]) (fun s=>m.length - s.1) ⟨0,by omega,by omega⟩ ?lhs1 ?lhm1 ?_ ?_
  case lhs1=>first|(simp [keepS];done)|(simp [keepS];rfl)
  case lhm1=>first|rfl|(simp;done)|(simp;rfl)
  ·exact dle
  ·rintro ⟨i,hi,hinv⟩
   simp only
   rcases Decidable.em (i<m.length) with hil|hil
   ·have hilI:(i:Int)<(m.length:Int):=by omega
    have hil2:i<l.length:=by omega
    have hil2I:(i:Int)<(l.length:Int):=by omega
    have hg:=trows_gi hil2
    have hgE:=trows_gE hil2
    have hg':=trows_gi hil
    have hgE':=trows_gE hil
    have hdf:gt l i≠gt m i→¬ l=m:=fun h e=>h (by rw [e])
    have hinv2:gt l i=gt m i→∀ j,j<i+1→gt l j=gt m j:=fun h j hj=>by
     rcases Nat.lt_succ_iff_lt_or_eq.1 hj with h5|rfl
     ·exact hinv j h5
     ·exact h
    obtain ⟨⟨a,a2,a3⟩,ha⟩:∃ a,a=gt l i:=⟨_,rfl⟩
    obtain ⟨⟨b,b2,b3⟩,hb⟩:∃ b,b=gt m i:=⟨_,rfl⟩
    rw [← ha,← hb] at hdf hinv2
    rw [← ha] at hg hgE
    rw [← hb] at hg' hgE'
    simp only [trow,U] at hg hgE hg' hgE'
    rcases Decidable.em (a=b∧a2=b2∧a3=b3) with e1|e1
    ·obtain ⟨rfl,rfl,rfl⟩:=e1
     have:=hinv2 rfl
     have zS:=jj hilI<|jj hil<|jj hil2<|jj hil2I<|jj hg<|jj hgE<|jj hg'<|jj hgE'<|jj h1<|jj he<|jj eqLs<|sameKs
     repeat' (first|(apply aw_seq_k;intro K hK)|(refine eM64 ?_)|(refine aw_cond (b:=_) (by exact rfl) (fun h=>?_) (fun h=>?_)<;>(try simp at h))|(refine eB ?_)|(refine hK _ ?_;clear hK)|(clear hK;refine hK _ ?_;clear hK)|(clear hK;clear hK;refine hK _ ?_;clear hK)|(clear hK;clear hK;clear hK;refine hK _ ?_;clear hK))
     all_goals clear zS
     refine ⟨i+1,?_,⟨by omega,this⟩,by omega⟩
     exact dle
    ·have e:=hdf (by simp;omega)
     have e2:a=b→a2=b2→¬ (a3:Int)=(b3:Int):=by omega
     have e3:a=b→a2=b2→¬ a3=b3:=by omega
     have e4:¬ (a=b∧a2=b2∧(a3:Int)=(b3:Int)):=by omega
     have zS:=jj hilI<|jj hil<|jj hil2<|jj hil2I<|jj hg<|jj hgE<|jj hg'<|jj hgE'<|jj h1<|jj he<|jj eqLs<|jj sameKs<|jj e1<|jj e2<|jj e3<|e4
     repeat' (first|(apply aw_seq_k;intro K hK)|(refine eM64 ?_)|(refine aw_cond (b:=_) (by exact rfl) (fun h=>?_) (fun h=>?_)<;>(try simp at h))|(refine eB ?_)|(refine hK _ ?_;clear hK)|(clear hK;refine hK _ ?_;clear hK)|(clear hK;clear hK;refine hK _ ?_;clear hK)|(clear hK;clear hK;clear hK;refine hK _ ?_;clear hK))
     all_goals clear zS
     refine ⟨by simp,?_⟩
     simp [leaves_iff,Tryz.f89,e]
     try exact dt
   ·obtain rfl:i=m.length:=by omega
    have e:l=m:=list_ext_gt h1 fun j hj=>hinv j (by omega)
    have zS:=h1
    repeat' (first|(apply aw_seq_k;intro K hK)|(refine eM64 ?_)|(refine aw_cond (b:=_) (by exact rfl) (fun h=>?_) (fun h=>?_)<;>(try simp at h))|(refine eB ?_)|(refine hK _ ?_;clear hK)|(clear hK;refine hK _ ?_;clear hK)|(clear hK;clear hK;refine hK _ ?_;clear hK)|(clear hK;clear hK;clear hK;refine hK _ ?_;clear hK))
    all_goals clear zS
    refine ⟨by simp,?_⟩
    simp [leaves_iff,Tryz.f89,e]
    try exact dt
 ·have h1I:¬ (l.length:Int)=(m.length:Int):=by omega
  have e:¬ l=m:=fun e=>h1 (by rw [e])
  have zS:=jj h1<|h1I
  refine dM64 ?_
  repeat (intro K hK)
  clear zS
  all_goals refine ⟨by simp,?_⟩
  all_goals simp [leaves_iff,Tryz.f89,e]
  all_goals try exact dt
noncomputable def StlF:List AV→Option AV:=specF (ι:={x:Tl×Tl // x.1.2.length≤1000000∧x.2.2.length≤1000000}) (fun x=>[TlV x.1.1,TlV x.1.2]) fun x=>retOf [B (decide (x.1.1=x.1.2))]
theorem s32 (X:AX) (hX:XOK Tryz.prog X) (hw:X.W wT) (he:X.eqs 153=true):PSound Tryz.prog 32 StlF:=by
 unfold StlF
 refine psound_spec hX mixed Tryz.func32 rfl fun ⟨⟨⟨s,l⟩,t,m⟩,hl,hm⟩ w0 G=>⟨by show 2≤38;decide,rfl,?_⟩
 show AW ⟨Tryz.prog,X,38,w0,.pure G⟩ _ _ _
 have hc:Cx.OK ⟨Tryz.prog,X,38,w0,.pure G⟩:=⟨hX,mixed⟩
 simp only at hl hm ⊢
 have ei:(((s,l):Tl)=(t,m))=(s=t∧l=m):=by simp
 simp only [ei,TlV]
 rcases Decidable.em (s=t) with hst|hst
 ·subst hst
  rcases Decidable.em (l.length=m.length) with h1|h1
  ·have h1I:(l.length:Int)=(m.length:Int):=by omega
   have zS:=h1
   repeat' (first|(apply aw_seq_k;intro K hK)|(refine eM64 ?_)|(refine aw_cond (b:=_) (by exact rfl) (fun h=>?_) (fun h=>?_)<;>(try simp at h))|(refine eB ?_)|(refine hK _ ?_;clear hK)|(clear hK;refine hK _ ?_;clear hK)|(clear hK;clear hK;refine hK _ ?_;clear hK)|(clear hK;clear hK;clear hK;refine hK _ ?_;clear hK))
   all_goals clear zS
   refine aw_loopK (s0:=?lps2) (m0:=?lpm2) (ι:={i:Nat // i≤m.length∧∀ j,j<i→gt l j=gt m j}) [2,3,22] (fun s=>[(23,I s.1)]) (fun _=>[]) (fun s=>m.length - s.1) ⟨0,by omega,by omega⟩ ?lhs2 ?lhm2 ?_ ?_
   case lhs2=>first|(simp [keepS];done)|(simp [keepS];rfl)
   case lhm2=>first|rfl|(simp;done)|(simp;rfl)
   ·exact dle
   ·rintro ⟨i,hi,hinv⟩
    simp only
    rcases Decidable.em (i<m.length) with hil|hil
    ·have hilI:(i:Int)<(m.length:Int):=by omega
     have hil2:i<l.length:=by omega
     have hil2I:(i:Int)<(l.length:Int):=by omega
     have hg:=trows_gi hil2
     have hgE:=trows_gE hil2
     have hg':=trows_gi hil
     have hgE':=trows_gE hil
     have hdf:gt l i≠gt m i→¬ l=m:=fun h e=>h (by rw [e])
     have hinv2:gt l i=gt m i→∀ j,j<i+1→gt l j=gt m j:=fun h j hj=>by
      rcases Nat.lt_succ_iff_lt_or_eq.1 hj with h5|rfl
      ·exact hinv j h5
      ·exact h
     obtain ⟨⟨a,a2,a3⟩,ha⟩:∃ a,a=gt l i:=⟨_,rfl⟩
     obtain ⟨⟨b,b2,b3⟩,hb⟩:∃ b,b=gt m i:=⟨_,rfl⟩
     rw [← ha,← hb] at hdf hinv2
     rw [← ha] at hg hgE
     rw [← hb] at hg' hgE'
     simp only [trow,U] at hg hgE hg' hgE'
     rcases Decidable.em (a=b∧a2=b2∧a3=b3) with e1|e1
     ·obtain ⟨rfl,rfl,rfl⟩:=e1
      have:=hinv2 rfl
      have zS:=jj hilI<|jj hil<|jj hil2<|jj hil2I<|jj hg<|jj hgE<|jj hg'<|jj hgE'<|jj h1<|jj he<|jj eqLs<|sameKs
      repeat' (first|(apply aw_seq_k;intro K hK)|(refine eM64 ?_)|(refine aw_cond (b:=_) (by exact rfl) (fun h=>?_) (fun h=>?_)<;>(try simp at h))|(refine eB ?_)|(refine hK _ ?_;clear hK)|(clear hK;refine hK _ ?_;clear hK)|(clear hK;clear hK;refine hK _ ?_;clear hK)|(clear hK;clear hK;clear hK;refine hK _ ?_;clear hK))
      all_goals clear zS
      refine ⟨i+1,?_,⟨by omega,this⟩,by omega⟩
      exact dle
     ·have e:=hdf (by simp;omega)
      have e2:a=b→a2=b2→¬ (a3:Int)=(b3:Int):=by omega
      have e3:a=b→a2=b2→¬ a3=b3:=by omega
      have e4:¬ (a=b∧a2=b2∧(a3:Int)=(b3:Int)):=by omega
      have zS:=jj hilI<|jj hil<|jj hil2<|jj hil2I<|jj hg<|jj hgE<|jj hg'<|jj hgE'<|jj h1<|jj he<|jj eqLs<|jj sameKs<|jj e1<|jj e2<|jj e3<|e4
      repeat' (first|(apply aw_seq_k;intro K hK)|(refine eM64 ?_)|(refine aw_cond (b:=_) (by exact rfl) (fun h=>?_) (fun h=>?_)<;>(try simp at h))|(refine eB ?_)|(refine hK _ ?_;clear hK)|(clear hK;refine hK _ ?_;clear hK)|(clear hK;clear hK;refine hK _ ?_;clear hK)|(clear hK;clear hK;clear hK;refine hK _ ?_;clear hK))
      all_goals clear zS
      refine ⟨by simp,?_⟩
      simp [leaves_iff,Tryz.f32,e]
      try exact dt
    ·obtain rfl:i=m.length:=by omega
     have e:l=m:=list_ext_gt h1 fun j hj=>hinv j (by omega)
     have zS:=h1
     repeat' (first|(apply aw_seq_k;intro K hK)|(refine eM64 ?_)|(refine aw_cond (b:=_) (by exact rfl) (fun h=>?_) (fun h=>?_)<;>(try simp at h))|(refine eB ?_)|(refine hK _ ?_;clear hK)|(clear hK;refine hK _ ?_;clear hK)|(clear hK;clear hK;refine hK _ ?_;clear hK)|(clear hK;clear hK;clear hK;refine hK _ ?_;clear hK))
     all_goals clear zS
     refine ⟨by simp,?_⟩
     simp [leaves_iff,Tryz.f32,e]
     try exact dt
  ·have h1I:¬ (l.length:Int)=(m.length:Int):=by omega
   have e:¬ l=m:=fun e=>h1 (by rw [e])
   have zS:=jj h1<|h1I
   refine dM64 ?_
   repeat (intro K hK)
   clear zS
   all_goals refine ⟨by simp,?_⟩
   all_goals simp [leaves_iff,Tryz.f32,e]
   all_goals try exact dt
 ·have zS:=hst
  refine dM64 ?_
  repeat (intro K hK)
  clear zS
  refine ⟨by simp,?_⟩
  simp [leaves_iff,Tryz.f32,hst]
  try exact dt
noncomputable def LrF:List AV→Option AV:=specF (ι:={x:Tl×Int×Int // tlOK x.1∧x.2.2<1000000}) (fun x=>[TlV x.1.1,I x.1.2.1,I x.1.2.2]) fun x=>retOf [U (lkT x.1.1 x.1.2.1 x.1.2.2).1,B (lkT x.1.1 x.1.2.1 x.1.2.2).2]
theorem s102 (X:AX) (hX:XOK Tryz.prog X) (hw:X.W wT) (hct:∀ b:Tl,tlOK b→∀ M k,X.call 101 [TlV b] M k=some (I (chB b),[]))
  (hht:∀ (x:Te) (s p:Int),x.2.2<2^64→p<1000000→∀ M k,X.call 176 [TeV x,I s,I p] M k=some (B (htB x s p),[])):PSound Tryz.prog 102 LrF:=by
 unfold LrF
 refine psound_spec hX mixed Tryz.func102 rfl fun ⟨⟨⟨z,l⟩,s,p⟩,hok,hp⟩ w0 G=>⟨by show 3≤33;decide,rfl,?_⟩
 show AW ⟨Tryz.prog,X,33,w0,.pure G⟩ _ _ _
 have hc:Cx.OK ⟨Tryz.prog,X,33,w0,.pure G⟩:=⟨hX,mixed⟩
 simp only at hok hp ⊢
 have ht:=hct _ hok
 obtain ⟨hl,hu⟩:=hok
 simp only at hl hu
 rcases Decidable.em (chB (z,l)=0) with h0|h0
 ·rw [h0] at ht
  have htl:=tl_ok ⟨hl,hu⟩ h0
  have hat:=@lk_at (z,l) s p
  have hno:=@lk_no (z,l) s p h0
  have hef:∀ i,i<l.length→efE (gt l i)=0:=fun i hi=>(erE_z ((chB_z.1 h0).2.2.2 i hi)).1
  obtain ⟨⟨rw,rb⟩,hR⟩:∃ R,R=lkT (z,l) s p:=⟨_,rfl⟩
  rw [← hR] at hno ⊢
  simp only [← hR] at hat
  simp only [TlV] at ht ⊢
  simp only at hno hat htl
  have zS:=ht
  repeat' (first|(apply aw_seq_k;intro K hK)|(refine eM64 ?_)|(refine aw_cond (b:=_) (by exact rfl) (fun h=>?_) (fun h=>?_)<;>(try simp at h))|(refine eB ?_)|(refine hK _ ?_;clear hK)|(clear hK;refine hK _ ?_;clear hK)|(clear hK;clear hK;refine hK _ ?_;clear hK)|(clear hK;clear hK;clear hK;refine hK _ ?_;clear hK))
  all_goals clear zS
  refine aw_loopK (s0:=?lps3) (m0:=?lpm3) (ι:={i:Nat // i≤l.length∧∀ j,j<i→cvB (gt l j) s p=false}) [1,2,3] (fun i=>[(8,I i.1)]) (fun _=>[]) (fun i=>l.length - i.1) ⟨0,by omega,by omega⟩ ?lhs3 ?lhm3 ?_ ?_
  case lhs3=>first|(simp [keepS];done)|(simp [keepS];rfl)
  case lhm3=>first|rfl|(simp;done)|(simp;rfl)
  ·exact dle
  ·rintro ⟨i,hi,hinv⟩
   simp only
   rcases Decidable.em (i<l.length) with hil|hil
   ·have hilI:(i:Int)<(l.length:Int):=by omega
    have hg:=trows_gi hil
    have hgE:=trows_gE hil
    have hq:=hht _ s p (hu _ (gt_mem hil)) hp
    rw [ht_cv (hef i hil)] at hq
    have hat':=hat (i:=i) h0 hil
    obtain ⟨c,hcv⟩:∃ c,c=cvB (gt l i) s p:=⟨_,rfl⟩
    rw [← hcv] at hq hat'
    obtain ⟨⟨x1,x2,x3⟩,hm⟩:∃ m,m=gt l i:=⟨_,rfl⟩
    rw [← hm] at hg hgE hq hat'
    simp only [trow,TeV,U] at hg hgE hq hat'
    cases c with
    | true =>
     have e:=hat' rfl hinv
     simp only [Prod.mk.injEq] at e
     obtain ⟨rfl,rfl⟩:=e
     have zS:=jj hilI<|jj hil<|jj hg<|jj hgE<|hq
     repeat' (first|(apply aw_seq_k;intro K hK)|(refine eM64 ?_)|(refine aw_cond (b:=_) (by exact rfl) (fun h=>?_) (fun h=>?_)<;>(try simp at h))|(refine eB ?_)|(refine hK _ ?_;clear hK)|(clear hK;refine hK _ ?_;clear hK)|(clear hK;clear hK;refine hK _ ?_;clear hK)|(clear hK;clear hK;clear hK;refine hK _ ?_;clear hK))
     all_goals clear zS
     refine ⟨by simp,?_⟩
     simp [leaves_iff,Tryz.f102,U]
     try exact dt
    | false =>
     have zS:=jj hilI<|jj hil<|jj hg<|jj hgE<|hq
     repeat' (first|(apply aw_seq_k;intro K hK)|(refine eM64 ?_)|(refine aw_cond (b:=_) (by exact rfl) (fun h=>?_) (fun h=>?_)<;>(try simp at h))|(refine eB ?_)|(refine hK _ ?_;clear hK)|(clear hK;refine hK _ ?_;clear hK)|(clear hK;clear hK;refine hK _ ?_;clear hK)|(clear hK;clear hK;clear hK;refine hK _ ?_;clear hK))
     all_goals clear zS
     refine ⟨i+1,?_,⟨by omega,fun j hj=>?_⟩,by omega⟩
     ·exact dle
     ·rcases Nat.lt_succ_iff_lt_or_eq.1 hj with h|rfl
      ·exact hinv j h
      ·exact hcv.symm
   ·obtain rfl:i=l.length:=by omega
    have e:=hno hinv
    simp only [Prod.mk.injEq] at e
    obtain ⟨rfl,rfl⟩:=e
    repeat' (first|(apply aw_seq_k;intro K hK)|(refine eM64o ?_)|(refine aw_cond (b:=_) (by exact rfl) (fun h=>?_) (fun h=>?_)<;>(try simp at h))|(refine eB ?_)|(refine hK _ ?_;clear hK)|(clear hK;refine hK _ ?_;clear hK)|(clear hK;clear hK;refine hK _ ?_;clear hK)|(clear hK;clear hK;clear hK;refine hK _ ?_;clear hK))
    refine ⟨by simp,?_⟩
    simp [leaves_iff,Tryz.f102,U]
    try exact dt
 ·rw [lk_c h0]
  obtain ⟨c,hcz⟩:∃ c,c=chB (z,l):=⟨_,rfl⟩
  rw [← hcz] at ht h0
  simp only [TlV] at ht ⊢
  have zS:=jj ht<|h0
  refine dM64 ?_
  repeat (intro K hK)
  clear zS
  refine ⟨by simp,?_⟩
  simp [leaves_iff,Tryz.f102,U]
  try exact dt
theorem s105 (X:AX) (hX:XOK Tryz.prog X) (hw:X.W wT):PSound Tryz.prog 105 FrgF:=by
 unfold FrgF
 refine psound_spec hX mixed Tryz.func105 rfl fun ⟨⟨⟨k,num,b1,b2,b3,hg⟩,p⟩,h1,h2,h3⟩ w0 G=>⟨by show 2≤14;decide,rfl,?_⟩
 show AW ⟨Tryz.prog,X,14,w0,.pure G⟩ _ _ _
 have hc:Cx.OK ⟨Tryz.prog,X,14,w0,.pure G⟩:=⟨hX,mixed⟩
 simp only at h1 h2 h3 ⊢
 have htm:p.tmod 8=p%8:=Int.tmod_eq_emod_of_nonneg h3
 unfold frmG
 simp only [EnV]
 cases hg
 ·refine dM64o ?_
  repeat (intro K hK)
  refine ⟨by simp,?_⟩
  simp [leaves_iff,Tryz.f105]
  try exact dt
 ·have zS:=htm
  refine dM64 ?_
  repeat (intro K hK)
  clear zS
  refine ⟨by simp,?_⟩
  simp [leaves_iff,Tryz.f105]
  try exact dt
end Go.AM
namespace Go.AM
open Go Go.Proofs
def outC (b:Tl) (n:Nat):List (Nat×AO):=[(n,.vec 1 3 false (trows b.2))]
structure Exm (X:AX):Prop where
 ok:XOK Tryz.prog X
 w:X.W wT
 ac1:∀ (c vc:Nat) (fc:Bool) (M:Nat→AO) (n:Nat),M c=.vec vc 9 fc [[I 10,.v (.int .u64 0),.v (.int .u64 2820),.v (.int .u64 0),.v (.int .u64 0),.v (.int .u64 0),.v (.int .u64 0),.v (.int .u64 0),.v (.int .u64 0)],[I 11,.v (.int .u64 3076),.v (.int .u64 0),.v (.int .u64 0),.v (.int .u64 0),.v (.int .u64 0),.v (.int .u64 0),.v (.int .u64 0),.v (.int .u64 0)],[I 12,.v (.int .u64 0),.v (.int .u64 0),.v (.int .u64 0),.v (.int .u64 0),.v (.int .u64 0),.v (.int .u64 0),.v (.int .u64 1289),.v (.int .u64 0)]]→X.call 29 [.agg [I 10,.sl c vc 9 0 3,.v (.slice none 0 0)],.agg [I 2,.v (.slice none 0 0)],I 0,I 70,B false] M n=some (.tup [TbC bT n,TlC c8 (n+2),I 5,I 0],outT bT n++outC c8 (n+2))
 ac2:∀ (a0 va0 b0 vb0:Nat) (fa0 fb0:Bool) (c vc:Nat) (fc:Bool) (M:Nat→AO) (n:Nat),M a0=.vec va0 9 fa0 (nrows bT.2.1)→M b0=.vec vb0 2 fb0 (prows bT.2.2)→M c=.vec vc 3 fc (trows c8.2)→X.call 29 [TbS bT a0 va0 b0 vb0,.agg [I 2,.sl c vc 3 0 1],I 0,I 70,B true] M n=some (.tup [TbC v8 n,TlC d8 (n+2),I 5,I 0],outT v8 n++outC d8 (n+2))
 ac3:∀ (c vc:Nat) (fc:Bool) (d vd:Nat) (fd:Bool) (M:Nat→AO) (n:Nat),M c=.vec vc 9 fc [[I 10,.v (.int .u64 0),.v (.int .u64 0),.v (.int .u64 0),.v (.int .u64 0),.v (.int .u64 0),.v (.int .u64 0),.v (.int .u64 0),.v (.int .u64 0)]]→M d=.vec vd 3 fd (trows d8.2)→X.call 29 [.agg [I 10,.sl c vc 9 0 1,.v (.slice none 0 0)],.agg [I 2,.sl d vd 3 0 1],I 0,I 70,B true] M n=some (.tup [TbC aT n,TlC d8 (n+2),I 5,I 0],outT aT n++outC d8 (n+2))
 ac4:∀ (c vc:Nat) (fc:Bool) (M:Nat→AO) (n:Nat),M c=.vec vc 9 fc [[I 10,.v (.int .u64 0),.v (.int .u64 0),.v (.int .u64 0),.v (.int .u64 0),.v (.int .u64 0),.v (.int .u64 0),.v (.int .u64 0),.v (.int .u64 0)]]→X.call 29 [.agg [I 10,.sl c vc 9 0 1,.v (.slice none 0 0)],.agg [I 2,.v (.slice none 0 0)],I 0,I 70,B false] M n=some (.tup [TbC aT n,TlC b8 (n+2),I 0,I 13],outT aT n++outC b8 (n+2))
 har:∀ (a0 va0 b0 vb0:Nat) (fa0 fb0:Bool) (M:Nat→AO) (n:Nat),M a0=.vec va0 9 fa0 (nrows v8.2.1)→M b0=.vec vb0 2 fb0 (prows v8.2.2)→X.call 90 [TbS v8 a0 va0 b0 vb0] M n=some (.tup [TbC h8 n,.sl (n+2) 1 1 0 1,I 0],outT h8 n++[(n+2,.vec 1 1 false [[I 70]])])
 et1:∀ (c vc d vd:Nat) (fc fd:Bool) (M:Nat→AO) (n:Nat),M c=.vec vc 3 fc (trows c8.2)→M d=.vec vd 3 fd [[I 0,I 70,.v (.int .u64 1305)]]→X.call 89 [.sl c vc 3 0 1,.sl d vd 3 0 1] M n=some (B true,[])
 et2:∀ (c vc d vd:Nat) (fc fd:Bool) (M:Nat→AO) (n:Nat),M c=.vec vc 3 fc (trows d8.2)→M d=.vec vd 3 fd [[I 0,I 70,.v (.int .u64 1337)]]→X.call 89 [.sl c vc 3 0 1,.sl d vd 3 0 1] M n=some (B true,[])
 ei1:∀ (c vc d vd:Nat) (fc fd:Bool) (M:Nat→AO) (n:Nat),M c=.vec vc 1 fc [[I 70]]→M d=.vec vd 1 fd [[I 70]]→X.call 46 [.sl c vc 1 0 1,.sl d vd 1 0 1] M n=some (B true,[])
 ei2:∀ (c vc d vd:Nat) (fc fd:Bool) (M:Nat→AO) (n:Nat),M c=.vec vc 1 fc [[I 5]]→M d=.vec vd 1 fd [[I 5]]→X.call 46 [.sl c vc 1 0 1,.sl d vd 1 0 1] M n=some (B true,[])
 rc1:∀ (c vc:Nat) (fc:Bool) (M:Nat→AO) (n:Nat),M c=.vec vc 3 fc (trows d8.2)→X.call 91 [.agg [I 2,.sl c vc 3 0 1],B true] M n=some (.sl n 1 1 0 1,[(n,.vec 1 1 false [[I 5]])])
 rc2:∀ (c vc:Nat) (fc:Bool) (M:Nat→AO) (n:Nat),M c=.vec vc 3 fc (trows c8.2)→X.call 91 [.agg [I 2,.sl c vc 3 0 1],B true] M n=some (.sl n 1 1 0 0,[(n,.vec 1 1 false [])])
set_option maxRecDepth 20000 in
set_option maxHeartbeats 16000000 in
theorem s28 (X:AX) (E:Exm X):PSound Tryz.prog 28 (specF (ι:=Unit) (fun _=>[]) fun _=>retOf [B true]):=by
 have hX:=E.ok
 have hw:=E.w
 refine psound_spec hX mixed Tryz.func28 rfl fun ⟨⟩ w0 G=>⟨by show 0≤183;decide,rfl,?_⟩
 show AW ⟨Tryz.prog,X,183,w0,.pure G⟩ _ _ _
 have hc:Cx.OK ⟨Tryz.prog,X,183,w0,.pure G⟩:=⟨hX,mixed⟩
 have gac1:=E.ac1
 have gac2:=E.ac2
 have gac3:=E.ac3
 have gac4:=E.ac4
 have ghar:=E.har
 have get1:=E.et1
 have get2:=E.et2
 have gei1:=E.ei1
 have gei2:=E.ei2
 have grc1:=E.rc1
 have grc2:=E.rc2
 obtain ⟨Rb,hRb⟩:∃ R,R=nrows bT.2.1:=⟨_,rfl⟩
 obtain ⟨Ra,hRa⟩:∃ R,R=nrows aT.2.1:=⟨_,rfl⟩
 obtain ⟨Rv,hRv⟩:∃ R,R=nrows v8.2.1:=⟨_,rfl⟩
 obtain ⟨Rh,hRh⟩:∃ R,R=nrows h8.2.1:=⟨_,rfl⟩
 obtain ⟨Tc,hTc⟩:∃ R,R=trows c8.2:=⟨_,rfl⟩
 obtain ⟨Td,hTd⟩:∃ R,R=trows d8.2:=⟨_,rfl⟩
 have lb:Rb[2]?=some [I 12,.v (.int .u64 0),.v (.int .u64 0),.v (.int .u64 0),.v (.int .u64 0),.v (.int .u64 0),.v (.int .u64 0),.v (.int .u64 1305),.v (.int .u64 0)]:=by rw [hRb];rfl
 have lv:Rv[2]?=some [I 12,.v (.int .u64 0),.v (.int .u64 0),.v (.int .u64 0),.v (.int .u64 0),.v (.int .u64 0),.v (.int .u64 0),.v (.int .u64 1337),.v (.int .u64 0)]:=by rw [hRv];rfl
 have lh:Rh[2]?=some [I 12,.v (.int .u64 0),.v (.int .u64 0),.v (.int .u64 0),.v (.int .u64 0),.v (.int .u64 0),.v (.int .u64 0),.v (.int .u64 1321),.v (.int .u64 0)]:=by rw [hRh];rfl
 simp only [outT,outC,TbC,TbS,TlC,U,← hRa,← hRb,← hRv,← hRh,← hTc,← hTd,show trows b8.2=[] from rfl,show prows aT.2.2=[] from rfl,show prows bT.2.2=[] from rfl,show prows v8.2.2=[] from rfl,show prows h8.2.2=[] from rfl,show aT.2.2.length=0 from rfl,show bT.2.2.length=0 from rfl,show v8.2.2.length=0 from rfl,show h8.2.2.length=0 from rfl,show aT.1=10 from rfl,show bT.1=10 from rfl,show v8.1=10 from rfl,show h8.1=10 from rfl,show aT.2.1.length=1 from rfl,show bT.2.1.length=3 from rfl,show v8.2.1.length=3 from rfl,show h8.2.1.length=3 from rfl,show b8.1=2 from rfl,show c8.1=2 from rfl,show d8.1=2 from rfl,show b8.2.length=0 from rfl,show c8.2.length=1 from rfl,show d8.2.length=1 from rfl,List.cons_append,List.nil_append] at gac1 gac2 gac3 gac4 ghar get1 get2 gei1 gei2 grc1 grc2
 have zS:=jj lb<|jj lv<|jj lh<|jj gac1<|jj gac2<|jj gac3<|jj gac4<|jj ghar<|jj get1<|jj get2<|jj gei1<|jj gei2<|jj grc1<|grc2
 refine dF64 ?_
 repeat (intro K hK)
 clear zS
 all_goals refine ⟨by simp,?_⟩
 all_goals simp [leaves_iff,Tryz.f28]
 all_goals try exact dt
end Go.AM
