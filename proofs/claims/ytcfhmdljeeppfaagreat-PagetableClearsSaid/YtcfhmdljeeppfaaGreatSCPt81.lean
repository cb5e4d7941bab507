/- A part of the proof: what functions of the program compute, by abstract execution of their code. Its theorems hold without further condition. -/
import Derived.Test.YtcfhmdljeeppfaaGreatSCPtT
import Derived.Test.YtcfhmdljeeppfaaGreatSCPt82
import Derived.Test.YtcfhmdljeeppfaaGreatSPt73
set_option linter.all false
namespace Go.AM
open Go Go.Proofs
set_option maxHeartbeats 8000000 in
theorem s62 (X:AX) (hX:XOK Tryz.prog X) (hw:X.W wT)
  (hwa:∀ (t:Tb) (x:Int),tbOK t→∀ M n,X.call 36 [TbV t,I x] M n=some (.tup [U (walkT t x).1,I (walkT t x).2.1,I (walkT t x).2.2],[]))
  (hdc:∀ n:Nat,n<2^64→∀ M k,X.call 131 [U n] M k=some (.tup [EnV (decR n).1,I (decR n).2],[]))
  (hsu:∀ (e:En) (l:Nat) M n,X.call 132 [EnV e,I l] M n=some (B (suitB e l),[]))
  (hcl:∀ t:Tb,tbOK t→∀ M n,X.call 104 [TbV t] M n=some (TbC t n,[(n,.vec 1 9 false (nrows t.2.1)),(n+1,.vec 1 2 false (prows t.2.2))]))
  (hst:OwnR X 111 (fun t x=>0≤x∧ptO t x.toNat) fun t x=>.tup [I (lsT t x.toNat).1,I (lsT t x.toNat).2.1])
  (hdg:∀ (p l:Nat),p<512→l≤2→∀ M n,X.call 112 [I p,I l] M n=some (I (dig p l),[])) :
  PSound Tryz.prog 62 (specF (ι:={x:Tb×Int×Nat // tbOK x.1∧x.2.2<2^64}) (fun x=>[TbV x.1.1,I x.1.2.1,U x.1.2.2]) fun x=>retOf [TbO (repP x.1.1 x.1.2.1 x.1.2.2).1,U (repP x.1.1 x.1.2.1 x.1.2.2).2.1,I (repP x.1.1 x.1.2.1 x.1.2.2).2.2]):=by
 refine psound_spec hX mixed Tryz.func62 rfl fun ⟨⟨⟨r,ns,ds⟩,pI,w⟩,ht,hw64⟩ w0 G=>⟨by show 3≤73;decide,rfl,?_⟩
 show AW ⟨Tryz.prog,X,73,w0,.pure G⟩ _ _ _
 have hc:Cx.OK ⟨Tryz.prog,X,73,w0,.pure G⟩:=⟨hX,mixed⟩
 simp only at hw64 ht ⊢
 have hwa':=hwa _ pI ht
 have hl1:ns.length≤1000000:=ht.2.1
 have hl2:ds.length≤1000000:=ht.2.2
 rcases Decidable.em (ckd (r,ns,ds) pI 512≠0) with hk|hk
 ·have e:repP (r,ns,ds) pI w=(zT,0,ckd (r,ns,ds) pI 512):=by unfold repP;rw [if_pos hk]
  rw [e]
  rw [walkT_n (by exact hk)] at hwa'
  obtain ⟨c,hc0⟩:∃ c,c=ckd (r,ns,ds) pI 512:=⟨_,rfl⟩
  rw [← hc0] at hwa' hk ⊢
  simp only [TbV,TbO,zT,U] at hwa' ⊢
  have zS:=jj hwa'<|hk
  refine dM64 ?_
  repeat (intro K hK)
  clear zS
  refine ⟨by simp,?_⟩
  simp [leaves_iff,Tryz.f62,nrows,prows]
  try exact dt
 ·obtain ⟨hpv,hp0,hp1⟩:=ckd_pt ht hk
  obtain ⟨p,rfl⟩:=Int.eq_ofNat_of_zero_le hp0
  have hp:p<512:=by omega
  have hz:ckd (r,ns,ds) p 512=0:=by omega
  rw [walkT_z hz,Int.toNat_natCast] at hwa'
  have hdc':=hdc w hw64
  have hlw:=lsT_u64 ht hpv hp
  have hst':=hst r ns ds p ⟨by omega,hpv.pto ht hp⟩
  have hcl':=hcl _ ht
  obtain ⟨hlt1,hlt2⟩:=lsT_lt hpv hp
  have eS:repP (r,ns,ds) p w=if (lsT (r,ns,ds) p).2.2=0 then (zT,0,6)
    else if (decR w).2≠0∨(decR w).1.1=0∨(decR w).1.1=4∨suitB (decR w).1 (lsT (r,ns,ds) p).2.1=false then (zT,0,3)
    else ((r,setN ns (lsT (r,ns,ds) p).1 (dgt p (lsT (r,ns,ds) p).2.1) w,ds),(lsT (r,ns,ds) p).2.2,0):=by
   unfold repP
   rw [if_neg hk,Int.toNat_natCast]
   rfl
  rw [eS]
  have hsu':=hsu (decR w).1 (lsT (r,ns,ds) p).2.1
  simp only [Int.toNat_natCast] at hst'
  obtain ⟨⟨a,b,c⟩,hS⟩:∃ S,S=lsT (r,ns,ds) p:=⟨_,rfl⟩
  rw [← hS] at hwa' hst' hlt1 hlt2 hsu' hlw ⊢
  simp only at hwa' hst' hlt1 hlt2 hsu' hlw ⊢
  obtain ⟨s,hs⟩:∃ s,s=suitB (decR w).1 b:=⟨_,rfl⟩
  rw [← hs] at hsu' ⊢
  obtain ⟨⟨⟨k,f,d,x,y,h⟩,e⟩,hE⟩:∃ r,r=decR w:=⟨_,rfl⟩
  rw [← hE] at hdc' hsu' ⊢
  clear eS hE hwa hdc hsu hs
  simp only [TbV,TbO,TbC,zT,EnV,U] at hwa' hdc' hsu' hcl' ⊢
  rcases Decidable.em (c=0) with hc0|hc0
  ·subst hc0
   have zS:=hwa'
   refine dM64 ?_
   repeat (intro K hK)
   clear zS
   all_goals refine ⟨by simp,?_⟩
   all_goals simp [leaves_iff,Tryz.f62,nrows,prows]
   all_goals try exact dt
  ·rw [if_neg hc0]
   have hc0I:¬ (c:Int)=0:=by omega
   rcases Decidable.em (e≠0∨k=0∨k=4∨s=false) with hb|hb
   ·rw [if_pos hb]
    rcases Decidable.em (e=0) with he|he
    ·rcases Decidable.em (k=0) with hk1|hk1
     ·have zS:=jj hwa'<|jj hdc'<|jj hc0<|jj hc0I<|jj he<|hk1
      refine dM64 ?_
      repeat (intro K hK)
      clear zS
      all_goals refine ⟨by simp,?_⟩
      all_goals simp [leaves_iff,Tryz.f62,nrows,prows]
      all_goals try exact dt
     ·rcases Decidable.em (k=4) with hk4|hk4
      ·have zS:=jj hwa'<|jj hdc'<|jj hc0<|jj hc0I<|jj he<|jj hk1<|hk4
       refine dM64 ?_
       repeat (intro K hK)
       clear zS
       all_goals refine ⟨by simp,?_⟩
       all_goals simp [leaves_iff,Tryz.f62,nrows,prows]
       all_goals try exact dt
      ·obtain rfl:s=false:=by
        rcases hb with hb|hb|hb|hb
        ·exact absurd he hb
        ·exact absurd hb hk1
        ·exact absurd hb hk4
        ·exact hb
       have zS:=jj hwa'<|jj hdc'<|jj hc0<|jj hc0I<|jj he<|jj hk1<|jj hk4<|hsu'
       refine dM64 ?_
       repeat (intro K hK)
       clear zS
       all_goals refine ⟨by simp,?_⟩
       all_goals simp [leaves_iff,Tryz.f62,nrows,prows]
       all_goals try exact dt
    ·have zS:=jj hwa'<|jj hdc'<|jj hc0<|jj hc0I<|he
     refine dM64 ?_
     repeat (intro K hK)
     clear zS
     all_goals refine ⟨by simp,?_⟩
     all_goals simp [leaves_iff,Tryz.f62,nrows,prows]
     all_goals try exact dt
   ·rw [if_neg hb]
    obtain ⟨rfl,hk1,hk4,rfl⟩:e=0∧k≠0∧k≠4∧s=true:=by
     refine ⟨by omega,by omega,by omega,?_⟩
     cases s
     ·exact absurd (Or.inr (Or.inr (Or.inr rfl))) hb
     ·rfl
    have haI:(a:Int)<(ns.length:Int):=by omega
    have hdg':=hdg p b hp hlt2
    rw [dig_dgt hp hlt2] at hdg'
    have hdl:=dgt_lt p b
    have hgn:=nrows_gi hlt1
    have hgnE:=nrows_gE hlt1
    have h8:(gn ns a).2.length=8:=(ht.1 _ (gn_mem hlt1)).1
    have hset:=@nrows_setN ns a (dgt p b) w hlt1
    have hwl:(wcs (gn ns a).2).length=8:=by simp [h8]
    have hsl:(setN ns a (dgt p b) w).length=ns.length:=setN_len
    have tkR:List.take ns.length (nrows (setN ns a (dgt p b) w))=nrows (setN ns a (dgt p b) w):=List.take_of_length_le (by simp)
    have tkd:List.take ds.length (prows ds)=prows ds:=List.take_of_length_le (by simp)
    obtain ⟨R,hR⟩:∃ R,R=setN ns a (dgt p b) w:=⟨_,rfl⟩
    rw [← hR] at hset hsl tkR ⊢
    obtain ⟨⟨fr,ws⟩,hm⟩:∃ m,m=gn ns a:=⟨_,rfl⟩
    rw [← hm] at hgn hgnE hwl hset
    simp only at hgn hgnE hwl hset
    obtain ⟨cs,hcs⟩:∃ cs,cs=wcs ws:=⟨_,rfl⟩
    rw [← hcs] at hgn hgnE hwl hset
    obtain ⟨dg,hdg0⟩:∃ dg,dg=dgt p b:=⟨_,rfl⟩
    rw [← hdg0] at hdl hdg' hset
    have hdI:(dg:Int)<8:=by omega
    have hs1:∀ w:Int,(I fr::cs).set (1+dg) (AV.v (.int .u64 w))=I fr::cs.set dg (AV.v (.int .u64 w)):=fun w=>by rw [Nat.add_comm];rfl
    clear hcs hm hR hS h8 hdg0
    simp only [U] at hset
    have zS:=jj hwa'<|jj hdc'<|jj hc0<|jj hc0I<|jj hk1<|jj hk4<|jj hsu'<|jj hcl'<|jj hst'<|jj hdg'<|jj hlt1<|jj haI<|jj hgn<|jj hgnE<|jj hwl<|jj hdl<|jj hdI<|jj hset<|hs1
    refine dF64 ?_
    repeat (intro K hK)
    clear zS
    refine ⟨by simp,?_⟩
    simp [leaves_iff,Tryz.f62,hsl,tkR,tkd]
    try exact dt
end Go.AM
namespace Go.AM
open Go Go.Proofs
set_option maxRecDepth 4000
noncomputable abbrev Tfc0:AX:=TeB
theorem tfc0:XOK Tryz.prog Tfc0:=teB
noncomputable def Tfc1:AX:=Tfc0.add 144 (callG relS)
theorem tfc1:XOK Tryz.prog Tfc1:=xok_putM tfc0 (by kernel_rfl) (.inl ⟨(s144 Tfc0 tfc0 w0T).callG,body_ok _ Tryz.func144 (by kernel_rfl)⟩) fun _ _ _ _ h=>callG_keys h
noncomputable def Tfc2:AX:=Tfc1.add 146 (callG remS)
theorem tfc2:XOK Tryz.prog Tfc2:=xok_putM tfc1 (by kernel_rfl) (.inl ⟨(s146 Tfc1 tfc1 w0T).callG,body_ok _ Tryz.func146 (by kernel_rfl)⟩) fun _ _ _ _ h=>callG_keys h
noncomputable def Tfc3:AX:=Tfc2.add 104 (callP ClF)
theorem tfc3:XOK Tryz.prog Tfc3:=xok_spec tfc2 (s104 Tfc2 tfc2 w0T) (fun x=>TbO_fl) Tryz.func104 (by kernel_rfl)
noncomputable def Tfc4:AX:=Tfc3.add 145 (callP EmF)
theorem tfc4:XOK Tryz.prog Tfc4:=xok_spec tfc3 (s145 Tfc3 tfc3 w0T) (fun _=>trivial) Tryz.func145 (by kernel_rfl)
theorem ostR {X:AX} (h:X.call 111=callP StF):OwnR X 111 (fun t x=>0≤x∧ptO t x.toNat) fun t x=>.tup [I (lsT t x.toNat).1,I (lsT t x.toNat).2.1]:=fun r ns ds x hd a va b vb f1 f2 M n h1 h2=>by
 rw [h]
 obtain ⟨k,rfl⟩:∃ k:Nat,x=k:=⟨x.toNat,by omega⟩
 exact oT3 (D:=ptO) (R:=fun t p=>retOf [I (lsT t p).1,I (lsT t p).2.1]) (t:=(r,ns,ds)) hd.2 ⟨⟨f1,h1⟩,f2,h2⟩ n rfl (by simp [retOf,openRet,openVals,openVal,openLeaves,openLeaf])
noncomputable def WdF:List AV→Option AV:=specF (ι:=En) (fun x=>[EnV x]) fun x=>retOf [U (encR x).1]
theorem cWd (f:Nat) (hf:f≤4294967295) (M:Nat→AO) (n:Nat):callP WdF [.agg [I 4,I f,B false,B false,B false,B false]] M n=some (U ((f*256+4:Nat)),[]):=by
 have h:=callP_spec (ι:=En) (A:=fun x=>[EnV x]) (R:=fun x=>retOf [U (encR x).1]) (avs:=[.agg [I 4,I f,B false,B false,B false,B false]]) (M:=M) (n:=n) (4,(f:Int),false,false,false,false) (by simp [EnV]) (by
  rintro e' e
  simp only [List.cons.injEq,EnV_inj,and_true] at e;subst e;rfl) (by simp [U])
 rw [encR_tab hf] at h
 exact h
noncomputable def Tfc5:AX:=Tfc4.add 150 (callP WdF)
theorem tfc5:XOK Tryz.prog Tfc5:=xok_spec tfc4 (s150 Tfc4 tfc4 w0T (fun k f d a x h M n=>cEn k f d a x h M n)) (fun _=>trivial) Tryz.func150 (by kernel_rfl)
theorem peek_w {M:Nat→AO}:∀ {ws:List Nat},peekLeaves M (wcs ws)=some (wcs ws)
 | []=>rfl
 | w::ws=>by
  have ih:=peek_w (M:=M) (ws:=ws)
  show (match peekLeaf M (U w),peekLeaves M (wcs ws) with
   | some x,some xs=>some (x::xs)
   | _,_=>none)=_
  rw [ih];rfl
theorem peek_nd {M:Nat→AO} {x:Nd}:peekVals M [.agg (nrow x)]=some [.agg (nrow x)]:=by
 simp [peekVals,peekVal,nrow,peekLeaves,peekLeaf,peek_w,I]
theorem cEm (x:Nd) (h:x.2.length=8) (M:Nat→AO) (n:Nat):callP EmF [.agg (nrow x)] M n=some (B (decide (x.2=zs8)),[]):=by
 refine callP_spec (ι:={x:Nd // x.2.length=8}) (A:=fun x=>[.agg (nrow x.1)]) (R:=fun x=>retOf [B (decide (x.1.2=zs8))]) ⟨x,h⟩ ?_ ?_ (by simp)
 ·exact peek_nd
 ·rintro ⟨x',h'⟩ e
  simp only [List.cons.injEq,AV.agg.injEq,nrow_inj,and_true] at e
  subst e;rfl
noncomputable def Tfc6:AX:=Tfc5.add 62 (callP ReF)
theorem tfc6:XOK Tryz.prog Tfc6:=xok_spec tfc5 (s62 Tfc5 tfc5 w0T (fun t x h M n=>cWa t x h M n) (fun n h M k=>cDe n h M k) (fun e l M n=>cSu e l M n) (fun t h M n=>cCl t h M n) (ostR rfl) (fun p l h1 h2 M n=>cDig p l h1 h2 M n)) (fun x=>repO_fl) Tryz.func62 (by kernel_rfl)
noncomputable def Tfc7:AX:=Tfc6.add 147 (callG unS)
theorem tfc7:XOK Tryz.prog Tfc7:=xok_putM tfc6 (by kernel_rfl) (.inl ⟨(s147 Tfc6 tfc6 w0T (fun f hf M n=>cWd f hf M n)).callG,body_ok _ Tryz.func147 (by kernel_rfl)⟩) fun _ _ _ _ h=>callG_keys h
noncomputable def Tfc8:AX:=Tfc7.add 63 (callP ClrF)
theorem tfc8:XOK Tryz.prog Tfc8:=xok_spec tfc7 (s63 Tfc7 tfc7 w0T (fun t x h M n=>cWa t x h M n) (fun t h M n=>cCl t h M n) (ostR rfl) (fun p l h1 h2 M n=>cDig p l h1 h2 M n) (fun x h M n=>cEm x h M n) rfl rfl rfl) (fun x=>clrO_fl) Tryz.func63 (by kernel_rfl)
noncomputable abbrev TeCc:AX:=Tfc8
theorem teCc:XOK Tryz.prog TeCc:=tfc8
theorem cSt2 {R:StD→Tb×Int} {x:StD} (h:stOK x) (M:Nat→AO) (n:Nat):callP (specF (ι:={x:StD // stOK x}) (fun x=>[TbV x.1.1,I x.1.2.1,U x.1.2.2.1,.rd 1 (irows x.1.2.2.2)]) fun x=>retOf [TbO (R x.1).1,I (R x.1).2]) [TbV x.1,I x.2.1,U x.2.2.1,.rd 1 (irows x.2.2.2)] M n=some (.tup [TbC (R x).1 n,I (R x).2],outT (R x).1 n):=by
 rw [callP_spec (ι:={x:StD // stOK x}) (A:=fun x=>[TbV x.1.1,I x.1.2.1,U x.1.2.2.1,.rd 1 (irows x.1.2.2.2)]) (R:=fun x=>retOf [TbO (R x.1).1,I (R x.1).2]) ⟨x,h⟩ (by simp [TbV,U]) ?_ (by rw [open_tab];simp only;omega),open_tab]
 rintro ⟨⟨t',p',w',fs'⟩,h'⟩ e
 obtain ⟨t,p,w,fs⟩:=x
 simp only [List.cons.injEq,TbV_inj,U,I,AV.v.injEq,Value.int.injEq,true_and,and_true,AV.rd.injEq,irows_inj,Int.ofNat_inj] at e
 obtain ⟨rfl,rfl,rfl,rfl⟩:=e;rfl
theorem cRe (t:Tb) (p:Int) (w:Nat) (ht:tbOK t) (hw:w<2^64) (M:Nat→AO) (n:Nat):callP ReF [TbV t,I p,U w] M n=some (.tup [TbC (repP t p w).1 n,U (repP t p w).2.1,I (repP t p w).2.2],outT (repP t p w).1 n):=by
 have h:=callP_spec (ι:={x:Tb×Int×Nat // tbOK x.1∧x.2.2<2^64}) (A:=fun x=>[TbV x.1.1,I x.1.2.1,U x.1.2.2]) (R:=fun x=>retOf [TbO (repP x.1.1 x.1.2.1 x.1.2.2).1,U (repP x.1.1 x.1.2.1 x.1.2.2).2.1,I (repP x.1.1 x.1.2.1 x.1.2.2).2.2]) (avs:=[TbV t,I p,U w]) (M:=M) (n:=n) ⟨(t,p,w),ht,hw⟩ (by simp [TbV,U]) (by
  rintro ⟨⟨t',p',w'⟩,h'⟩ e
  simp only [List.cons.injEq,TbV_inj,U,I,AV.v.injEq,Value.int.injEq,true_and,and_true,Int.ofNat_inj] at e
  obtain ⟨rfl,rfl,rfl⟩:=e;rfl) (by rw [open_rep];simp only;omega)
 rw [open_rep] at h
 exact h
theorem cClr (t:Tb) (p:Int) (ht:tbOK t) (hl:t.2.1.length≤999000) (M:Nat→AO) (n:Nat):callP ClrF [TbV t,I p] M n=some (.tup [TbC (clrP t p).1 n,U (clrP t p).2.1,.sl (n+2) 1 1 0 (clrP t p).2.2.1.length,I (clrP t p).2.2.2],outT (clrP t p).1 n++[(n+2,.vec 1 1 false (irows (clrP t p).2.2.1))]) :=
 cT2 (D:=fun t _=>tbOK t∧t.2.1.length≤999000) (R:=fun t x=>retOf [TbO (clrP t x).1,U (clrP t x).2.1,.ow 1 (irows (clrP t x).2.2.1),I (clrP t x).2.2.2]) ⟨ht,hl⟩ M n open_clr (by omega)
theorem lawP2c:LawP TeCc:=⟨teCc,w0T,fun t M n=>cFew t M n,fun M n=>cAw M n,fun t h=>samO rfl h,fun l h=>eqiO rfl h,fun l h=>eqpO rfl h⟩
end Go.AM
namespace Go.AM
open Go Go.Proofs
theorem zT_ok:tbOK zT:=⟨fun n hn=>by simp [zT] at hn,by simp [zT],by simp [zT]⟩
theorem repP_ok {t:Tb} {p:Int} {w:Nat} (ht:tbOK t) (hw:w<2^64):tbOK (repP t p w).1:=by
 obtain ⟨r,ns,ds⟩:=t
 unfold repP
 split
 ·exact zT_ok
 ·rename_i hk
  obtain ⟨hpv,hp0,hp1⟩:=ckd_pt ht hk
  obtain ⟨p,rfl⟩:=Int.eq_ofNat_of_zero_le hp0
  have hp:p<512:=by omega
  rw [Int.toNat_natCast]
  split
  ·exact zT_ok
  ·split
   ·exact zT_ok
   ·have hlt:=(lsT_lt hpv hp).1
    exact ⟨setN_ok ht.1 hw hlt,by show (setN _ _ _ _).length≤_;rw [setN_len];exact ht.2.1,ht.2.2⟩
theorem clrL_ok {p:Nat}:∀ {l:List Stp} {N:NdL},(∀ s∈l,s.1<N.length)→(∀ n∈N,ndOK n)→(∀ n∈(clrL p N l).1,ndOK n)∧(clrL p N l).1.length=N.length
 | [],N,_,h=>⟨h,rfl⟩
 | [s],N,hl,h=>⟨setN_ok h (by omega) (hl s (by simp)),by simp [clrL]⟩
 | s::t::q,N,hl,h=>by
  simp only [clrL]
  have h1:=setN_ok (i:=dgt p s.2.1) (w:=0) h (by omega) (hl s (by simp))
  split
  ·have:=clrL_ok (p:=p) (l:=t::q) (N:=setN N s.1 (dgt p s.2.1) 0) (fun x hx=>by rw [setN_len];exact hl x (by simp [hx])) h1
   rw [setN_len] at this
   exact this
  ·exact ⟨h1,setN_len⟩
theorem path_lt {r:Int} {ns:NdL} {ds:List Dp} (h:Pv (r,ns,ds)) {p:Nat} (hp:p<512):∀ s∈ptL (r,ns,ds) p,s.1<ns.length:=by
 have hlw:=lsT_lt h hp
 rcases (by omega:(lsT (r,ns,ds) p).2.1=0∨(lsT (r,ns,ds) p).2.1=1∨(lsT (r,ns,ds) p).2.1=2) with hl|hl|hl
 ·obtain ⟨n2,w2,n1,w1,h2,h1,e⟩:=path_0 h hp hl
  rw [e]
  intro s hs
  simp at hs
  rcases hs with rfl|rfl|rfl
  ·exact h2
  ·exact h1
  ·exact hlw.1
 ·obtain ⟨n2,w2,h2,e⟩:=path_1 h hp hl
  rw [e]
  intro s hs
  simp at hs
  rcases hs with rfl|rfl
  ·exact h2
  ·exact hlw.1
 ·rw [path_2 h hp hl]
  intro s hs
  simp at hs
  subst hs
  exact hlw.1
theorem clrP_ok {t:Tb} {p:Int} (ht:tbOK t):tbOK (clrP t p).1∧(clrP t p).2.2.1.length≤1000:=by
 obtain ⟨r,ns,ds⟩:=t
 unfold clrP
 split
 ·exact ⟨zT_ok,by simp⟩
 ·rename_i hk
  obtain ⟨hpv,hp0,hp1⟩:=ckd_pt ht hk
  obtain ⟨p,rfl⟩:=Int.eq_ofNat_of_zero_le hp0
  have hp:p<512:=by omega
  rw [Int.toNat_natCast]
  split
  ·exact ⟨zT_ok,by simp⟩
  ·have hlt:=path_lt hpv hp
   obtain ⟨h1,h2⟩:=clrL_ok (p:=p) (l:=(ptL (r,ns,ds) p).reverse) (fun s hs=>hlt s (by simpa using hs)) ht.1
   refine ⟨⟨fun n hn=>h1 n (List.mem_filter.1 hn).1,?_,?_⟩,?_⟩
   ·have h3:=@kpF_len (clrA (r,ns,ds) p) (clrL p ns (ptL (r,ns,ds) p).reverse).1
    have h4:=ht.2.1
    simp only at h4
    exact Nat.le_trans h3 (by omega)
   ·show (clrD _ _).length≤_
    unfold clrD
    split
    ·have h3:=@lowD_le ds ((p/8:Nat):Int)
     have h4:=ht.2.2
     simp only [delL,List.length_append,List.length_take,List.length_drop]
     simp only at h4
     omega
    ·exact ht.2.2
   ·show (clrA _ _).length≤_
    have hlw:=lsT_lt hpv hp
    have key:∀ (l:List Stp) (N:NdL),(clrL p N l).2.length≤l.length:=by
     intro l
     induction l with
     | nil=>intro N;simp [clrL]
     | cons s q ih =>
      intro N
      cases q with
      | nil=>simp [clrL]
      | cons t q =>
       simp only [clrL]
       split
       ·have:=ih (setN N s.1 (dgt p s.2.1) 0)
        simp only [List.length_cons] at this ⊢
        omega
       ·simp
    have h5:=key (ptL (r,ns,ds) p).reverse ns
    have h6:(ptL (r,ns,ds) p).length≤3:=by
     rcases (by omega:(lsT (r,ns,ds) p).2.1=0∨(lsT (r,ns,ds) p).2.1=1∨(lsT (r,ns,ds) p).2.1=2) with hl|hl|hl
     ·obtain ⟨_,_,_,_,_,_,e⟩:=path_0 hpv hp hl
      rw [e];simp
     ·obtain ⟨_,_,_,e⟩:=path_1 hpv hp hl
      rw [e];simp
     ·rw [path_2 hpv hp hl];simp
    have h7:(clrF (r,ns,ds) p).length≤1:=by unfold clrF;split<;>simp
    unfold clrA
    simp only [List.length_append,List.length_reverse] at h5 ⊢
    omega
structure LawK (X:AX):Prop extends LawP X where
 re:∀ (t:Tb) (p:Int) (w:Nat),tbOK t→w<2^64→∀ M n,X.call 61 [TbV t,I p,U w] M n=some (.tup [TbC (repP t p w).1 n,U (repP t p w).2.1,I (repP t p w).2.2],outT (repP t p w).1 n)
 re':∀ (t:Tb) (p:Int) (w:Nat),tbOK t→w<2^64→∀ M n,X.call 62 [TbV t,I p,U w] M n=some (.tup [TbC (repP t p w).1 n,U (repP t p w).2.1,I (repP t p w).2.2],outT (repP t p w).1 n)
 cl:∀ (t:Tb) (p:Int),tbOK t→t.2.1.length≤999000→∀ M n,X.call 55 [TbV t,I p] M n=some (.tup [TbC (clrP t p).1 n,U (clrP t p).2.1,.sl (n+2) 1 1 0 (clrP t p).2.2.1.length,I (clrP t p).2.2.2],outT (clrP t p).1 n++[(n+2,.vec 1 1 false (irows (clrP t p).2.2.1))])
 cl':∀ (t:Tb) (p:Int),tbOK t→t.2.1.length≤999000→∀ M n,X.call 63 [TbV t,I p] M n=some (.tup [TbC (clrP t p).1 n,U (clrP t p).2.1,.sl (n+2) 1 1 0 (clrP t p).2.2.1.length,I (clrP t p).2.2.2],outT (clrP t p).1 n++[(n+2,.vec 1 1 false (irows (clrP t p).2.2.1))])
theorem lawK:LawK TeCc:=⟨lawP2c,fun t p w h1 h2 M n=>cRe t p w h1 h2 M n,fun t p w h1 h2 M n=>cRe t p w h1 h2 M n,fun t p h1 h2 M n=>cClr t p h1 h2 M n,fun t p h1 h2 M n=>cClr t p h1 h2 M n⟩
set_option maxHeartbeats 8000000 in
theorem s11 (X:AX) (L:LawK X):PSound Tryz.prog 11 (specF (ι:={x:Tb×Int×Nat // tbF x.1∧x.2.2<2^64}) (fun x=>[TbV x.1.1,I x.1.2.1,U x.1.2.2]) fun _=>retOf [B true]):=by
 have hX:=L.ok
 have hw:=L.w
 refine psound_spec hX mixed Tryz.func11 rfl fun ⟨⟨⟨r,ns,ds⟩,p,w⟩,htf,hw64⟩ w0 G=>⟨by show 3≤93;decide,rfl,?_⟩
 show AW ⟨Tryz.prog,X,93,w0,.pure G⟩ _ _ _
 have hc:Cx.OK ⟨Tryz.prog,X,93,w0,.pure G⟩:=⟨hX,mixed⟩
 have few:=L.few (r,ns,ds)
 have aw:=L.aw
 simp only at few htf hw64 ⊢
 rcases Decidable.em (ns.length≤80∧ds.length≤70) with hf|hf
 ·rw [decide_eq_true hf] at few
  have ht:=tbF_ok htf hf
  have re:=L.re _ p w ht hw64
  have re':=L.re' _ p w ht hw64
  have cl:=L.cl _ p ht (by show ns.length≤_;omega)
  have cl':=L.cl' _ p ht (by show ns.length≤_;omega)
  have sam:=L.same _ (repP_ok (p:=p) ht hw64)
  have sam2:=L.same _ (clrP_ok (p:=p) ht).1
  have eqi:=L.eqi _ (show (clrP (r,ns,ds) p).2.2.1.length≤1000000 by have:=(clrP_ok (p:=p) ht).2;omega)
  obtain ⟨⟨⟨r1,n1,d1⟩,v1,e1⟩,hT⟩:∃ x,x=repP (r,ns,ds) p w:=⟨_,rfl⟩
  rw [← hT] at re re' sam
  obtain ⟨⟨⟨r2,n2,d2⟩,v2,l2,e2⟩,hT2⟩:∃ x,x=clrP (r,ns,ds) p:=⟨_,rfl⟩
  rw [← hT2] at cl cl' sam2 eqi
  unfold SamO at sam sam2
  unfold EqiO at eqi
  simp only [TbV,TbC,outT,U,List.cons_append,List.nil_append] at few re re' cl cl' sam sam2 eqi ⊢
  have zS:=jj few<|jj aw<|jj re<|jj re'<|jj cl<|jj cl'<|jj sam<|jj sam2<|eqi
  refine dF64 ?_
  repeat (intro K hK)
  clear zS
  all_goals refine ⟨by simp,?_⟩
  all_goals simp [leaves_iff,Tryz.f11]
  all_goals try exact dt
 ·rw [decide_eq_false hf] at few
  simp only [TbV,U] at few ⊢
  have zS:=jj few<|aw
  refine dF64 ?_
  repeat (intro K hK)
  clear zS
  all_goals refine ⟨by simp,?_⟩
  all_goals simp [leaves_iff,Tryz.f11]
  all_goals try exact dt
theorem clears':PSound Tryz.prog 11 (specF (ι:={x:Tb×Int×Nat // tbF x.1∧x.2.2<2^64}) (fun x=>[TbV x.1.1,I x.1.2.1,U x.1.2.2]) fun _=>retOf [B true]):=s11 TeCc lawK
end Go.AM
