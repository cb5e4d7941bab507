/- A part of the proof: what functions of the program compute, by abstract execution of their code. Its theorems hold without further condition. -/
import Derived.Test.YtcfhmdljeeppfaaGreatSPt64
set_option linter.all false
namespace Go.AM
open Go Go.Proofs
noncomputable def repP (t:Tb) (p:Int) (w:Nat):Tb×Nat×Int :=
 if ckd t p 512≠0 then (zT,0,ckd t p 512)
 else if (lsT t p.toNat).2.2=0 then (zT,0,6)
 else if (decR w).2≠0∨(decR w).1.1=0∨(decR w).1.1=4∨suitB (decR w).1 (lsT t p.toNat).2.1=false then (zT,0,3)
 else (putT t p.toNat w,(lsT t p.toNat).2.2,0)
set_option maxHeartbeats 8000000 in
theorem s61 (X:AX) (hX:XOK Tryz.prog X) (hw:X.W wT) (hck:∀ t:Tb,tbOK t→∀ (n lim:Int) M k,X.call 109 [TbV t,I n,I lim] M k=some (I (ckd t n lim),[]))
  (hla:∀ (t:Tb) (p:Nat),ptO t p→∀ M n,X.call 110 [TbV t,I p] M n=some (stV (lsT t p),[]))
  (hdc:∀ n:Nat,n<2^64→∀ M k,X.call 56 [U n] M k=some (.tup [EnV (decR n).1,I (decR n).2],[]))
  (hsu:∀ (e:En) (l:Nat) M n,X.call 117 [EnV e,I l] M n=some (B (suitB e l),[]))
  (hcl:∀ t:Tb,tbOK t→∀ M n,X.call 128 [TbV t] M n=some (TbC t n,[(n,.vec 1 9 false (nrows t.2.1)),(n+1,.vec 1 2 false (prows t.2.2))]))
  (hpu:X.call 130=callG puS) :
  PSound Tryz.prog 61 (specF (ι:={x:Tb×Int×Nat // tbOK x.1∧x.2.2<2^64}) (fun x=>[TbV x.1.1,I x.1.2.1,U x.1.2.2]) fun x=>retOf [TbO (repP x.1.1 x.1.2.1 x.1.2.2).1,U (repP x.1.1 x.1.2.1 x.1.2.2).2.1,I (repP x.1.1 x.1.2.1 x.1.2.2).2.2]):=by
 refine psound_spec hX mixed Tryz.func61 rfl fun ⟨⟨⟨r,ns,ds⟩,pI,w⟩,ht,hw64⟩ w0 G=>⟨by show 3≤61;decide,rfl,?_⟩
 show AW ⟨Tryz.prog,X,61,w0,.pure G⟩ _ _ _
 have hc:Cx.OK ⟨Tryz.prog,X,61,w0,.pure G⟩:=⟨hX,mixed⟩
 simp only at hw64 ht ⊢
 have hck':=hck _ ht pI 512
 have hl1:ns.length≤1000000:=ht.2.1
 have hl2:ds.length≤1000000:=ht.2.2
 rcases Decidable.em (ckd (r,ns,ds) pI 512≠0) with hk|hk
 ·have e:repP (r,ns,ds) pI w=(zT,0,ckd (r,ns,ds) pI 512):=by unfold repP;rw [if_pos hk]
  rw [e]
  obtain ⟨c,hc0⟩:∃ c,c=ckd (r,ns,ds) pI 512:=⟨_,rfl⟩
  rw [← hc0] at hck' hk ⊢
  simp only [TbV,TbO,zT,U] at hck' ⊢
  have zS:=jj hck'<|hk
  refine dM64 ?_
  repeat (intro K hK)
  clear zS
  refine ⟨by simp,?_⟩
  simp [leaves_iff,Tryz.f61,nrows,prows]
  try exact dt
 ·obtain ⟨hpv,hp0,hp1⟩:=ckd_pt ht hk
  obtain ⟨p,rfl⟩:=Int.eq_ofNat_of_zero_le hp0
  have hp:p<512:=by omega
  have hz:ckd (r,ns,ds) p 512=0:=by omega
  rw [hz] at hck'
  have hdc':=hdc w hw64
  have hla':=hla _ _ (hpv.pto ht hp)
  have hcl':=hcl _ ht
  have hpu':=fun a b c hab hac hbc M n=>@callPu a b c hab hac hbc r ns ds p w (hpv.pto ht hp) hw64 0 0 M n
  rw [← hpu] at hpu'
  have hPl:(putT (r,ns,ds) p w).2.1.length=ns.length:=setN_len
  have hP0:putT (r,ns,ds) p w=(r,(putT (r,ns,ds) p w).2.1,ds):=rfl
  have eS:repP (r,ns,ds) p w=if (lsT (r,ns,ds) p).2.2=0 then (zT,0,6) else if (decR w).2≠0∨(decR w).1.1=0∨(decR w).1.1=4∨suitB (decR w).1 (lsT (r,ns,ds) p).2.1=false then (zT,0,3) else (putT (r,ns,ds) p w,(lsT (r,ns,ds) p).2.2,0):=by
   unfold repP
   rw [if_neg hk,Int.toNat_natCast]
  rw [eS,hP0]
  obtain ⟨R,hR⟩:∃ R,R=(putT (r,ns,ds) p w).2.1:=⟨_,rfl⟩
  rw [← hR] at hPl hpu' ⊢
  clear hR hP0 eS
  obtain ⟨⟨a0,l0,w0'⟩,hS⟩:∃ S,S=lsT (r,ns,ds) p:=⟨_,rfl⟩
  rw [← hS] at hla' ⊢
  have hsu':=hsu (decR w).1 l0
  obtain ⟨⟨⟨k,f,d,a,x,h⟩,e⟩,hE⟩:∃ r,r=decR w:=⟨_,rfl⟩
  rw [← hE] at hdc' hsu' ⊢
  simp only at hsu' ⊢
  obtain ⟨su,hsu0⟩:∃ b,b=suitB (k,f,d,a,x,h) l0:=⟨_,rfl⟩
  rw [← hsu0] at hsu' ⊢
  clear hS hE hsu0 hck hla hdc hsu
  simp only [TbV,TbO,TbC,EnV,stV,srow,U,Nat.zero_add] at hck' hla' hdc' hcl' hsu' hpu' ⊢
  rcases Decidable.em (w0'=0) with hw0|hw0
  ·subst hw0
   rw [if_pos rfl]
   simp only [zT]
   have zS:=jj hck'<|hla'
   refine dM64 ?_
   repeat (intro K hK)
   clear zS
   all_goals refine ⟨by simp,?_⟩
   all_goals simp [leaves_iff,Tryz.f61,nrows,prows]
   all_goals try exact dt
  ·rw [if_neg hw0]
   have hw0I:¬ (w0':Int)=0:=by omega
   rcases Decidable.em (e=0) with he|he
   ·subst he
    rcases Decidable.em (k=0) with hk1|hk1
    ·subst hk1
     rw [if_pos (by simp)]
     simp only [zT]
     have zS:=jj hck'<|jj hla'<|jj hdc'<|jj hw0<|hw0I
     refine dM64 ?_
     repeat (intro K hK)
     clear zS
     all_goals refine ⟨by simp,?_⟩
     all_goals simp [leaves_iff,Tryz.f61,nrows,prows]
     all_goals try exact dt
    ·rcases Decidable.em (k=4) with hk2|hk2
     ·subst hk2
      rw [if_pos (by simp)]
      simp only [zT]
      have zS:=jj hck'<|jj hla'<|jj hdc'<|jj hw0<|hw0I
      refine dM64 ?_
      repeat (intro K hK)
      clear zS
      all_goals refine ⟨by simp,?_⟩
      all_goals simp [leaves_iff,Tryz.f61,nrows,prows]
      all_goals try exact dt
     ·cases su with
      | false =>
       rw [if_pos (by simp)]
       simp only [zT]
       have zS:=jj hck'<|jj hla'<|jj hdc'<|jj hw0<|jj hw0I<|jj hk1<|jj hk2<|hsu'
       refine dM64 ?_
       repeat (intro K hK)
       clear zS
       all_goals refine ⟨by simp,?_⟩
       all_goals simp [leaves_iff,Tryz.f61,nrows,prows]
       all_goals try exact dt
      | true =>
       rw [if_neg (by simp [hk1,hk2])]
       have hpq:=hpu' 752 736 737 (by decide) (by decide) (by decide)
       have zS:=jj hck'<|jj hla'<|jj hdc'<|jj hw0<|jj hw0I<|jj hk1<|jj hk2<|jj hsu'<|jj hcl'<|hpq
       refine dF64 ?_
       repeat (intro K hK)
       clear zS
       have tkR:List.take ns.length (nrows R)=nrows R:=List.take_of_length_le (by simp;omega)
       have tkd:List.take ds.length (prows ds)=prows ds:=List.take_of_length_le (by simp)
       refine ⟨by simp,?_⟩
       simp [leaves_iff,Tryz.f61,hPl,tkR,tkd]
       try exact dt
   ·rw [if_pos (by simp [he])]
    simp only [zT]
    have zS:=jj hck'<|jj hla'<|jj hdc'<|jj hw0<|jj hw0I<|he
    refine dM64 ?_
    repeat (intro K hK)
    clear zS
    all_goals refine ⟨by simp,?_⟩
    all_goals simp [leaves_iff,Tryz.f61,nrows,prows]
    all_goals try exact dt
end Go.AM
namespace Go.AM
open Go Go.Proofs
set_option maxHeartbeats 8000000 in
theorem s133 (X:AX) (hX:XOK Tryz.prog X) (hw:X.W wT) (hfi:∀ (t:Tb) f,tbOK t→∀ M n,X.call 122 [TbV t,I f] M n=some (I (fstG (fun n=>decide (n.1=f)) t.2.1),[])) :
  PSound Tryz.prog 133 (specF (ι:={x:UsD // tbOK x.1∧x.2.length≤1000}) (fun x=>[TbV x.1.1,.rd 1 (irows x.1.2)]) fun x=>retOf [B (usB x.1.1.2.1 x.1.1.2.2 x.1.2)]):=by
 refine psound_spec hX mixed Tryz.func133 rfl fun ⟨⟨⟨r,ns,ds⟩,fs⟩,ht,hf8⟩ w0 G=>⟨by show 2≤55;decide,rfl,?_⟩
 show AW ⟨Tryz.prog,X,55,w0,.pure G⟩ _ _ _
 have hc:Cx.OK ⟨Tryz.prog,X,55,w0,.pure G⟩:=⟨hX,mixed⟩
 simp only at hf8 ht ⊢
 have hl1:ns.length≤1000000:=ht.2.1
 have hl2:ds.length≤1000000:=ht.2.2
 have hfi':=fun f=>hfi (r,ns,ds) f ht
 simp only [TbV] at hfi' ⊢
 repeat' (first|(apply aw_seq_k;intro K hK)|(refine eM64o ?_)|(refine aw_cond (b:=_) (by exact rfl) (fun h=>?_) (fun h=>?_)<;>(try simp at h))|(refine eB ?_)|(refine hK _ ?_;clear hK)|(clear hK;refine hK _ ?_;clear hK)|(clear hK;clear hK;refine hK _ ?_;clear hK)|(clear hK;clear hK;clear hK;refine hK _ ?_;clear hK))
 refine aw_loopK (s0:=?lps1) (m0:=?lpm1) (ι:={i:Nat // i≤fs.length∧∀ j,j<i→usC ns ds fs j}) [1,2,11,12] (fun s=>[(13,I s.1)]) (fun _=>[]) (fun s=>fs.length - s.1) ⟨0,by omega,by omega⟩ ?lhs1 ?lhm1 ?_ ?_
 case lhs1=>first|(simp [keepS];done)|(simp [keepS];rfl)
 case lhm1=>first|rfl|(simp;done)|(simp;rfl)
 ·exact dle
 ·rintro ⟨i,hi,hinv⟩
  simp only
  rcases Decidable.em (i<fs.length) with hil|hil
  ·have hilI:(i:Int)<(fs.length:Int):=by omega
   have hg:=irows_gi hil
   have hgE:=irows_gE hil
   have hno:=@usB_no ns ds fs i hil
   have hus:usC ns ds fs i↔(0≤gi fs i∧gi fs i≤4294967295)∧(∀ n∈ns,n.1≠gi fs i)∧(∀ k,k<ds.length→(gp ds k).2≠gi fs i)∧∀ j,j<i→gi fs j≠gi fs i:=Iff.rfl
   obtain ⟨b,hb⟩:∃ b,b=gi fs i:=⟨_,rfl⟩
   rw [← hb] at hg hgE hus
   have hfb:=hfi' b
   have hfp:=@fstG_pos _ (fun n:Nd=>decide (n.1=b)) ns
   obtain ⟨q,hq⟩:∃ q,q=fstG (fun n:Nd=>decide (n.1=b)) ns:=⟨_,rfl⟩
   rw [← hq] at hfb hfp
   rcases Decidable.em (b<0) with h1|h1
   ·have e:=hno (fun h=>by have:=(hus.1 h).1.1;omega)
    have zS:=jj hilI<|jj hg<|jj hgE<|h1
    repeat' (first|(apply aw_seq_k;intro K hK)|(refine eM64 ?_)|(refine aw_cond (b:=_) (by exact rfl) (fun h=>?_) (fun h=>?_)<;>(try simp at h))|(refine eB ?_)|(refine hK _ ?_;clear hK)|(clear hK;refine hK _ ?_;clear hK)|(clear hK;clear hK;refine hK _ ?_;clear hK)|(clear hK;clear hK;clear hK;refine hK _ ?_;clear hK))
    all_goals clear zS
    refine ⟨by simp,?_⟩
    simp [leaves_iff,Tryz.f133,e]
    try exact dt
   ·rcases Decidable.em (4294967295<b) with h2|h2
    ·have e:=hno (fun h=>by have:=(hus.1 h).1.2;omega)
     have zS:=jj hilI<|jj hg<|jj hgE<|jj h1<|h2
     repeat' (first|(apply aw_seq_k;intro K hK)|(refine eM64 ?_)|(refine aw_cond (b:=_) (by exact rfl) (fun h=>?_) (fun h=>?_)<;>(try simp at h))|(refine eB ?_)|(refine hK _ ?_;clear hK)|(clear hK;refine hK _ ?_;clear hK)|(clear hK;clear hK;refine hK _ ?_;clear hK)|(clear hK;clear hK;clear hK;refine hK _ ?_;clear hK))
     all_goals clear zS
     refine ⟨by simp,?_⟩
     simp [leaves_iff,Tryz.f133,e]
     try exact dt
    ·rcases Decidable.em (0≤q) with h3|h3
     ·have e:=hno (fun h=>by
       obtain ⟨j,hj,hd⟩:=hfp.1 h3
       exact (hus.1 h).2.1 _ (List.getElem_mem hj) (by simpa using hd))
      have zS:=jj hilI<|jj hg<|jj hgE<|jj h1<|jj h2<|jj hfb<|h3
      repeat' (first|(apply aw_seq_k;intro K hK)|(refine eM64 ?_)|(refine aw_cond (b:=_) (by exact rfl) (fun h=>?_) (fun h=>?_)<;>(try simp at h))|(refine eB ?_)|(refine hK _ ?_;clear hK)|(clear hK;refine hK _ ?_;clear hK)|(clear hK;clear hK;refine hK _ ?_;clear hK)|(clear hK;clear hK;clear hK;refine hK _ ?_;clear hK))
      all_goals clear zS
      refine ⟨by simp,?_⟩
      simp [leaves_iff,Tryz.f133,e]
      try exact dt
     ·have hnn:∀ n∈ns,n.1≠b:=fun n hn hnb=>h3 (hfp.2 (by
       obtain ⟨j,hj,rfl⟩:=List.getElem_of_mem hn
       exact ⟨j,hj,by simpa using hnb⟩))
      have zS:=jj hilI<|jj hg<|jj hgE<|jj h1<|jj h2<|jj hfb<|h3
      repeat' (first|(apply aw_seq_k;intro K hK)|(refine eM64 ?_)|(refine aw_cond (b:=_) (by exact rfl) (fun h=>?_) (fun h=>?_)<;>(try simp at h))|(refine eB ?_)|(refine hK _ ?_;clear hK)|(clear hK;refine hK _ ?_;clear hK)|(clear hK;clear hK;refine hK _ ?_;clear hK)|(clear hK;clear hK;clear hK;refine hK _ ?_;clear hK))
      all_goals clear zS
      refine aw_loopK (s0:=?lps2) (m0:=?lpm2) (ι:={k:Nat // k≤ds.length∧∀ j,j<k→(gp ds j).2≠b}) [1,2,5,6,11,12,13,31,32] (fun s=>[(33,I s.1)]) (fun _=>[]) (fun s=>ds.length - s.1) ⟨0,by omega,by omega⟩ ?lhs2 ?lhm2 ?_ ?_
      case lhs2=>first|(simp [keepS];done)|(simp [keepS];rfl)
      case lhm2=>first|rfl|(simp;done)|(simp;rfl)
      ·exact dle
      ·rintro ⟨k,hk,hin2⟩
       simp only
       rcases Decidable.em (k<ds.length) with hkl|hkl
       ·have hklI:(k:Int)<(ds.length:Int):=by omega
        have hgd:=prows_gi hkl
        have hgdE:=prows_gE hkl
        have hin3:(gp ds k).2≠b→∀ j,j<k+1→(gp ds j).2≠b:=fun h j hj=>by
         rcases Nat.lt_succ_iff_lt_or_eq.1 hj with h5|rfl
         ·exact hin2 j h5
         ·exact h
        have hbad:(gp ds k).2=b→usB ns ds fs=false:=fun h=>hno fun h4=>(hus.1 h4).2.2.1 k hkl h
        obtain ⟨⟨c,d⟩,hm⟩:∃ m,m=gp ds k:=⟨_,rfl⟩
        rw [← hm] at hgd hgdE hin3 hbad
        simp only at hgd hgdE hin3 hbad
        rcases Decidable.em (d=b) with hdb|hdb
        ·have e:=hbad hdb
         subst hdb
         have zS:=jj hklI<|jj hgd<|hgdE
         repeat' (first|(apply aw_seq_k;intro K hK)|(refine eM64 ?_)|(refine aw_cond (b:=_) (by exact rfl) (fun h=>?_) (fun h=>?_)<;>(try simp at h))|(refine eB ?_)|(refine hK _ ?_;clear hK)|(clear hK;refine hK _ ?_;clear hK)|(clear hK;clear hK;refine hK _ ?_;clear hK)|(clear hK;clear hK;clear hK;refine hK _ ?_;clear hK))
         all_goals clear zS
         refine ⟨by simp,?_⟩
         simp [leaves_iff,Tryz.f133,e]
         try exact dt
        ·have e:=hin3 hdb
         have zS:=jj hklI<|jj hgd<|jj hgdE<|hdb
         repeat' (first|(apply aw_seq_k;intro K hK)|(refine eM64 ?_)|(refine aw_cond (b:=_) (by exact rfl) (fun h=>?_) (fun h=>?_)<;>(try simp at h))|(refine eB ?_)|(refine hK _ ?_;clear hK)|(clear hK;refine hK _ ?_;clear hK)|(clear hK;clear hK;refine hK _ ?_;clear hK)|(clear hK;clear hK;clear hK;refine hK _ ?_;clear hK))
         all_goals clear zS
         refine ⟨k+1,?_,⟨by omega,e⟩,by omega⟩
         exact dle
       ·obtain rfl:k=ds.length:=by omega
        have hiN:¬ (fs.length:Int)<(i:Int):=by omega
        have hmin:min i fs.length=i:=by omega
        have zS:=jj hiN<|jj hil<|jj hilI<|hmin
        repeat' (first|(apply aw_seq_k;intro K hK)|(refine eM64 ?_)|(refine aw_cond (b:=_) (by exact rfl) (fun h=>?_) (fun h=>?_)<;>(try simp at h))|(refine eB ?_)|(refine hK _ ?_;clear hK)|(clear hK;refine hK _ ?_;clear hK)|(clear hK;clear hK;refine hK _ ?_;clear hK)|(clear hK;clear hK;clear hK;refine hK _ ?_;clear hK))
        all_goals clear zS
        refine aw_loopK (s0:=?lps3) (m0:=?lpm3) (ι:={k:Nat // k≤i∧∀ j,j<k→gi fs j≠b}) [1,2,6,11,12,13,44,45] (fun s=>[(46,I s.1)]) (fun _=>[]) (fun s=>i - s.1) ⟨0,by omega,by omega⟩ ?lhs3 ?lhm3 ?_ ?_
        case lhs3=>first|(simp [keepS];done)|(simp [keepS];rfl)
        case lhm3=>first|rfl|(simp;done)|(simp;rfl)
        ·exact dle
        ·rintro ⟨k,hk,hin4⟩
         simp only
         rcases Decidable.em (k<i) with hki|hki
         ·have hkiI:(k:Int)<(i:Int):=by omega
          have hkf:k<fs.length:=by omega
          have hgf:=irows_gi hkf
          have hgfE:=irows_gE hkf
          obtain ⟨c,hcc⟩:∃ c,c=gi fs k:=⟨_,rfl⟩
          have hin5:c≠b→∀ j,j<k+1→gi fs j≠b:=fun h j hj=>by
           rcases Nat.lt_succ_iff_lt_or_eq.1 hj with h5|rfl
           ·exact hin4 j h5
           ·rw [← hcc];exact h
          have hbad:c=b→usB ns ds fs=false:=fun h=>hno fun h4=>(hus.1 h4).2.2.2 k hki (by rw [← hcc];exact h)
          rw [← hcc] at hgf hgfE
          have hgt:(List.take i (irows fs))[k]?=some [I c]:=by rw [List.getElem?_take_of_lt hki];exact hgf
          have hgtE:∀ h',(List.take i (irows fs))[k]'(h')=[I c]:=fun h'=>by rw [List.getElem_take];exact hgfE _
          rcases Decidable.em (c=b) with hdb|hdb
          ·have e:=hbad hdb
           subst hdb
           have zS:=jj hkiI<|jj hki<|jj hkf<|jj hgf<|jj hgfE<|jj hgt<|jj hgtE<|hmin
           repeat' (first|(apply aw_seq_k;intro K hK)|(refine eM64 ?_)|(refine aw_cond (b:=_) (by exact rfl) (fun h=>?_) (fun h=>?_)<;>(try simp at h))|(refine eB ?_)|(refine hK _ ?_;clear hK)|(clear hK;refine hK _ ?_;clear hK)|(clear hK;clear hK;refine hK _ ?_;clear hK)|(clear hK;clear hK;clear hK;refine hK _ ?_;clear hK))
           all_goals clear zS
           refine ⟨by simp,?_⟩
           simp [leaves_iff,Tryz.f133,e]
           try exact dt
          ·have e:=hin5 hdb
           have zS:=jj hkiI<|jj hki<|jj hkf<|jj hgf<|jj hgfE<|jj hgt<|jj hgtE<|jj hmin<|hdb
           repeat' (first|(apply aw_seq_k;intro K hK)|(refine eM64 ?_)|(refine aw_cond (b:=_) (by exact rfl) (fun h=>?_) (fun h=>?_)<;>(try simp at h))|(refine eB ?_)|(refine hK _ ?_;clear hK)|(clear hK;refine hK _ ?_;clear hK)|(clear hK;clear hK;refine hK _ ?_;clear hK)|(clear hK;clear hK;clear hK;refine hK _ ?_;clear hK))
           all_goals clear zS
           refine ⟨k+1,?_,⟨by omega,e⟩,by omega⟩
           exact dle
         ·obtain rfl:k=i:=by omega
          have hu:=hus.2 ⟨⟨by omega,by omega⟩,hnn,hin2,hin4⟩
          repeat' (first|(apply aw_seq_k;intro K hK)|(refine eM64o ?_)|(refine aw_cond (b:=_) (by exact rfl) (fun h=>?_) (fun h=>?_)<;>(try simp at h))|(refine eB ?_)|(refine hK _ ?_;clear hK)|(clear hK;refine hK _ ?_;clear hK)|(clear hK;clear hK;refine hK _ ?_;clear hK)|(clear hK;clear hK;clear hK;refine hK _ ?_;clear hK))
          refine ⟨k+1,?_,⟨by omega,fun j hj=>?_⟩,by omega⟩
          ·exact dle
          ·rcases Nat.lt_succ_iff_lt_or_eq.1 hj with h5|rfl
           ·exact hinv j h5
           ·exact hu
  ·obtain rfl:i=fs.length:=by omega
   have e:=usB_iff.2 hinv
   repeat' (first|(apply aw_seq_k;intro K hK)|(refine eM64o ?_)|(refine aw_cond (b:=_) (by exact rfl) (fun h=>?_) (fun h=>?_)<;>(try simp at h))|(refine eB ?_)|(refine hK _ ?_;clear hK)|(clear hK;refine hK _ ?_;clear hK)|(clear hK;clear hK;refine hK _ ?_;clear hK)|(clear hK;clear hK;clear hK;refine hK _ ?_;clear hK))
   refine ⟨by simp,?_⟩
   simp [leaves_iff,Tryz.f133,e]
   try exact dt
end Go.AM
namespace Go.AM
open Go Go.Proofs
abbrev RpD:=Tb×Nat×Nat×Nat
def rpOK (x:RpD):Prop:=tbOK x.1∧ascN x.1.2.1∧x.2.1<x.1.2.1.length∧x.2.2.1<8∧x.2.2.2<2^64
noncomputable def rpS:List AV→List AO→Option (AV×List AO):=specG (ι:={x:RpD // rpOK x}) (fun x=>[tAV x.1.1,I (gn x.1.1.2.1 x.1.2.1).1,I x.1.2.2.1,U x.1.2.2.2]) (fun x=>tMs x.1.1) (fun x=>.tup []) fun x=>tMs (x.1.1.1,setN x.1.1.2.1 x.1.2.1 x.1.2.2.1 x.1.2.2.2,x.1.1.2.2)
set_option maxHeartbeats 4000000 in
theorem s149 (X:AX) (hX:XOK Tryz.prog X) (hw:X.W wT) (hfi:OwnR X 122 (fun t _=>tbOK t) fun t f=>I (fstG (fun n=>decide (n.1=f)) t.2.1)):GSound Tryz.prog 149 rpS:=by
 unfold rpS
 refine gsound_spec Tryz.func149 rfl X fun ⟨⟨⟨r,ns,ds⟩,n,i,w⟩,ht,ha,hn,hi8,hw64⟩ w0 L E=>⟨by show 4≤20;decide,?_⟩
 simp only at ht ha hn hi8 hw64
 have hl1:ns.length≤1000000:=ht.2.1
 have hl2:ds.length≤1000000:=ht.2.2
 have hfi':=hfi r ns ds (gn ns n).1 ht
 simp only at hfi'
 rw [fstG_fnd,show fnd ns (gn ns n).1=some n from fnd_at ha hn] at hfi'
 simp only at hfi'
 have hnI:(n:Int)<(ns.length:Int):=by omega
 have hiI:(i:Int)<8:=by omega
 have hgn:=nrows_gi hn
 have hgnE:=nrows_gE hn
 have h8:(gn ns n).2.length=8:=(ht.1 _ (gn_mem hn)).1
 have hset:=@nrows_setN ns n i w hn
 have hwl:(wcs (gn ns n).2).length=8:=by simp [h8]
 have hsl:(setN ns n i w).length=ns.length:=setN_len
 simp only [tAV,tMs,hsl]
 obtain ⟨NS,hNS⟩:∃ NS,NS=setN ns n i w:=⟨_,rfl⟩
 rw [← hNS] at hset ⊢
 obtain ⟨⟨fr,ws⟩,hm⟩:∃ m,m=gn ns n:=⟨_,rfl⟩
 rw [← hm] at hgn hgnE hwl hset hfi' ⊢
 simp only at hgn hgnE hwl hset hfi' ⊢
 obtain ⟨cs,hcs⟩:∃ cs,cs=wcs ws:=⟨_,rfl⟩
 rw [← hcs] at hgn hgnE hwl hset
 clear hcs hm h8 hNS
 have hs1:(I fr::cs).set (1+i) (AV.v (.int .u64 w))=I fr::cs.set i (AV.v (.int .u64 w)):=by rw [Nat.add_comm];rfl
 simp only [U] at hset ⊢
 show AW ⟨Tryz.prog,X,20,w0,⟨L,E,2⟩⟩ _ _ _
 have hc:Cx.OK ⟨Tryz.prog,X,20,w0,⟨L,E,2⟩⟩:=⟨hX,mixed⟩
 have zS:=jj hfi'<|jj hn<|jj hnI<|jj hi8<|jj hiI<|jj hgn<|jj hgnE<|jj hwl<|jj hset<|hs1
 refine dF64 ?_
 repeat (intro K hK)
 clear zS
 refine ⟨[],rfl,?_⟩
 simp only [idx]
 exact dle
end Go.AM
namespace Go.AM
open Go Go.Proofs
def OwT (M:Nat→AO) (t:Tb) (a va b vb:Nat):Prop:=(∃ f,M a=.vec va 9 f (nrows t.2.1))∧∃ f,M b=.vec vb 2 f (prows t.2.2)
def TbS (t:Tb) (a va b vb:Nat):AV:=.agg [I t.1,.sl a va 9 0 t.2.1.length,.sl b vb 2 0 t.2.2.length]
theorem peek_tab {M:Nat→AO} {t:Tb} {a va b vb:Nat} {rest rs:List AV} (h:OwT M t a va b vb) (hr:peekVals M rest=some rs):peekVals M (TbS t a va b vb::rest)=some (TbV t::rs):=by
 obtain ⟨⟨f1,h1⟩,f2,h2⟩:=h
 have e1:List.take t.2.1.length (nrows t.2.1)=nrows t.2.1:=List.take_of_length_le (by simp)
 have e2:List.take t.2.2.length (prows t.2.2)=prows t.2.2:=List.take_of_length_le (by simp)
 simp [TbS,TbV,hr,h1,h2,e1,e2]
theorem ownR_of {X:AX} {f:FuncId} {D:Tb→Int→Prop} {R:Tb→Int→AV} (hX:X.call f=callP (specF (ι:={x:Tb×Int // D x.1 x.2}) (fun x=>[TbV x.1.1,I x.1.2]) fun x=>retOf [R x.1.1 x.1.2])) (hc:∀ t x n,D t x→openRet n (retOf [R t x])=(R t x,[],n)):OwnR X f D R:=fun r ns ds x hd a va b vb f1 f2 M n h1 h2=>by
 rw [hX]
 show callP _ (TbS (r,ns,ds) a va b vb::[I x]) M n=_
 rw [callP_spec (ι:={x:Tb×Int // D x.1 x.2}) (A:=fun x=>[TbV x.1.1,I x.1.2]) (R:=fun x=>retOf [R x.1.1 x.1.2]) ⟨((r,ns,ds),x),hd⟩ (peek_tab (t:=(r,ns,ds)) ⟨⟨f1,h1⟩,f2,h2⟩ (by simp)) ?_ ?_]
 ·simp only [hc _ _ _ hd]
 ·rintro ⟨⟨t',x'⟩,h'⟩ e
  simp only [List.cons.injEq,TbV_inj,I,AV.v.injEq,Value.int.injEq,true_and,and_true] at e
  obtain ⟨e1,e2⟩:=e
  subst e1 e2
  rfl
 ·simp only [hc _ _ _ hd];omega
end Go.AM
namespace Go.AM
open Go Go.Proofs
theorem dec_huge0:(decR 0).1.2.2.2.2.2=false:=rfl
theorem last_kind {r:Int} {ns:NdL} {ds:List Dp} (hv:Vt (r,ns,ds)) {p:Nat} (hp:p<512):∃ f l w,wlk (Mof ns) r p=(f,l,w)∧(lsT (r,ns,ds) p).2=(l,w)∧l≤2∧(decR w).2=0∧(l=2→w=0)∧(l=1→(w≠0↔(decR w).1.2.2.2.2.2=true))∧(l=0→(decR w).1.2.2.2.2.2=false):=by
 have hpv:=hv.pv
 obtain ⟨f,l,w,hw⟩:∃ f l w,wlk (Mof ns) r p=(f,l,w):=⟨_,_,_,rfl⟩
 have h1:=(hpv.walk hp).2.2
 simp only at h1
 rw [hw] at h1
 obtain ⟨a1,a2,a3,a4,a5,a6⟩:=wlk_at hpv.vm hp hw
 have hk0:=kind0 a6
 have h4:(decR w).1.1≠4:=decR_tab.1 a5
 have a7:=a6
 unfold okWb at a7
 simp only [Bool.and_eq_true,decide_eq_true_eq] at a7
 obtain ⟨hd0,a7⟩:=a7
 unfold suitB at a7
 refine ⟨f,l,w,hw,h1,a1,hd0,fun e=>?_,fun e=>⟨fun h0=>?_,fun hh h0=>?_⟩,fun e=>?_⟩
 ·subst e
  by_cases h0:(decR w).1.1=0
  ·exact hk0.1 h0
  ·rw [if_neg h0,if_neg h4] at a7
   simp at a7
 ·subst e
  rw [if_neg (fun h=>h0 (hk0.1 h)),if_neg h4] at a7
  by_cases hk1:(decR w).1.1=1
  ·rw [if_pos hk1] at a7;simpa using a7
  ·rw [if_neg hk1] at a7;simp at a7
 ·subst h0;rw [dec_huge0] at hh;simp at hh
 ·subst e
  cases hh:(decR w).1.2.2.2.2.2 with
  | false=>rfl
  | true =>
   have hk1:=kind_huge hd0 hh
   rw [if_neg (by rw [hk1];decide),if_neg h4,if_pos hk1,hh] at a7
   simp at a7
theorem miss_eq {t:Tb} (ht:tbOK t) (n:Int):missT t n=missR t n:=by
 obtain ⟨r,ns,ds⟩:=t
 by_cases hk:ckd (r,ns,ds) n 512=0
 ·have hv:=ckd_vt ht (fun h=>h hk)
  obtain ⟨_,h0,h1⟩:=ckd_pt ht (fun h=>h hk)
  obtain ⟨p,rfl⟩:=Int.eq_ofNat_of_zero_le h0
  obtain ⟨f,l,w,_,hl,hl2,_,k2,k1,k0⟩:=last_kind hv (p:=p) (by omega)
  rw [missT_z hk]
  unfold missR
  rw [walkT_z hk,Int.toNat_natCast]
  simp only [hl,if_true]
  rcases (by omega:l=0∨l=1∨l=2) with rfl|rfl|rfl
  ·simp
  ·by_cases hw0:w=0
   ·subst hw0
    rw [if_neg (by rw [dec_huge0];simp),if_neg (by simp)]
   ·rw [if_pos ⟨rfl,(k1 rfl).1 hw0⟩,if_pos ⟨by decide,hw0⟩]
  ·have:=k2 rfl
   subst this
   simp
 ·rw [missT_n hk]
  unfold missR
  rw [walkT_n hk]
  simp only
  rw [if_neg hk]
theorem hugW_huge {w:Nat} (h:(decR w).2=0):hugW w=(decR w).1.2.2.2.2.2:=by
 unfold hugW
 cases hh:(decR w).1.2.2.2.2.2 with
 | false=>simp
 | true=>rw [kind_huge h hh];rfl
theorem hugB_last {r:Int} {ns:NdL} {ds:List Dp} (hv:Vt (r,ns,ds)) {g:Nat} (hg:g<64):hugB (Mof ns) r g=(decR (lsT (r,ns,ds) (g*8)).2.2).1.2.2.2.2.2:=by
 have hp:g*8<512:=by omega
 obtain ⟨f,l,w,hw,hl,hl2,hd0,k2,k1,k0⟩:=last_kind hv hp
 obtain ⟨a1,a2,a3,a4,a5,a6⟩:=wlk_at hv.pv.vm hp hw
 rw [hl]
 simp only at a3 a4 ⊢
 have e8:g*8/64=g/8:=by omega
 rcases (by omega:l=0∨l=1∨l=2) with rfl|rfl|rfl
 ·rw [k0 rfl]
  have e1:g*8/8^(0+1)=g:=by simp
  rw [e1] at a3
  cases hb:hugB (Mof ns) r g with
  | false=>rfl
  | true =>
   obtain ⟨f1,hf1,hh⟩:=hugB_iff.1 hb
   simp only [Nat.sub_zero,frP] at a3 hf1
   rw [hf1] at a3
   simp only [Option.bind_some] at a3
   have hnt:=(WD_ok fun _=>true).notab _ hh
   rw [hnt] at a3
   simp at a3
 ·have e1:g*8/8^(1+1)=g/8:=by simp;omega
  have e2:dgt (g*8) 1=g%8:=by rw [dgt1];omega
  rw [e1] at a3
  rw [e2] at a4
  unfold hugB
  rw [show frP WA (Mof ns) r 1 (g/8)=some f from a3]
  simp only
  rw [← a4,hugW_huge hd0]
 ·have:=k2 rfl
  subst this
  rw [dec_huge0]
  have e2:dgt (g*8) 2=g/8:=by rw [dgt2 hp];exact e8
  cases hb:hugB (Mof ns) r g with
  | false=>rfl
  | true =>
   obtain ⟨f1,hf1,hh⟩:=hugB_iff.1 hb
   simp only [frP,Option.bind_some] at hf1 a3
   rw [show g/8%8=g/8 by omega] at hf1
   simp only [Nat.sub_self,frP,Option.some.injEq] at a3
   subst a3
   rw [e2] at a4
   rw [← a4] at hf1
   rw [show WA.tab 0=none from tab0] at hf1
   simp at hf1
theorem huge_eq {t:Tb} (ht:tbOK t) (g:Int):hugeT t g=hugeR t g:=by
 obtain ⟨r,ns,ds⟩:=t
 unfold hugeT hugeR
 by_cases hk:ckd (r,ns,ds) g 64=0
 ·have hv:=ckd_vt ht (fun h=>h hk)
  obtain ⟨_,h0,h1⟩:=ckd_pt ht (fun h=>h hk)
  obtain ⟨k,rfl⟩:=Int.eq_ofNat_of_zero_le h0
  have hk64:k<64:=by omega
  rw [if_pos hk,Int.toNat_natCast,← hugB_last hv hk64]
  have hc:=(chk_iff ht).2 hv
  rw [Bool.eq_iff_iff,decide_eq_true_iff]
  have hd:=hv.dep
  simp only at hd
  have hm:0≤fstG (fun n:Dp=>decide (n.1=(k:Int))) ds↔(k:Int)∈ds.map (·.1):=by
   rw [fstG_pos]
   constructor
   ·rintro ⟨j,hj,e⟩
    exact List.mem_map.2 ⟨_,List.getElem_mem hj,by simpa using e⟩
   ·intro h
    obtain ⟨d,hd,e⟩:=List.mem_map.1 h
    obtain ⟨j,hj,rfl⟩:=List.getElem_of_mem hd
    exact ⟨j,hj,by simpa using e⟩
  constructor
  ·intro h
   exact ⟨hc,h0,h1,hm.2 (by rw [hd];exact mem_hugM.2 ⟨k,hk64,rfl,h⟩)⟩
  ·rintro ⟨_,_,_,h⟩
   have:=hm.1 h
   rw [hd] at this
   obtain ⟨k',_,e,hb⟩:=mem_hugM.1 this
   obtain rfl:k=k':=by omega
   exact hb
 ·rw [if_neg hk]
  symm
  refine decide_eq_false ?_
  rintro ⟨h1,h2,h3,_⟩
  exact hk (ckd_z h1 h2 h3)
end Go.AM
namespace Go.AM
open Go Go.Proofs
def outT (t:Tb) (n:Nat):List (Nat×AO):=[(n,.vec 1 9 false (nrows t.2.1)),(n+1,.vec 1 2 false (prows t.2.2))]
structure Exa (X:AX):Prop where
 ok:XOK Tryz.prog X
 w:X.W wT
 new:∀ M n,X.call 49 [I 10] M n=some (.tup [TbC aT n,I 0],outT aT n)
 mis:∀ (a va b vb:Nat) (f1 f2:Bool) (M:Nat→AO) (n:Nat),M a=.vec va 9 f1 (nrows aT.2.1)→M b=.vec vb 2 f2 (prows aT.2.2)→X.call 37 [TbS aT a va b vb,I 70] M n=some (.tup [I 2,I 0],[])
 set:∀ (a va b vb c vc:Nat) (f1 f2 f3:Bool) (M:Nat→AO) (n:Nat),M a=.vec va 9 f1 (nrows aT.2.1)→M b=.vec vb 2 f2 (prows aT.2.2)→M c=.vec vc 1 f3 [[I 11],[I 12]]→X.call 51 [TbS aT a va b vb,I 70,U 1305,.sl c vc 1 0 2] M n=some (.tup [TbC bT n,I 0],outT bT n)
 sam1:∀ (a0 va0 b0 vb0:Nat) (fa0 fb0:Bool) (c vc:Nat) (fc:Bool) (M:Nat→AO) (n:Nat),M a0=.vec va0 9 fa0 (nrows bT.2.1)→M b0=.vec vb0 2 fb0 (prows bT.2.2)→M c=.vec vc 9 fc [[I 10,.v (.int .u64 0),.v (.int .u64 2820),.v (.int .u64 0),.v (.int .u64 0),.v (.int .u64 0),.v (.int .u64 0),.v (.int .u64 0),.v (.int .u64 0)],[I 11,.v (.int .u64 3076),.v (.int .u64 0),.v (.int .u64 0),.v (.int .u64 0),.v (.int .u64 0),.v (.int .u64 0),.v (.int .u64 0),.v (.int .u64 0)],[I 12,.v (.int .u64 0),.v (.int .u64 0),.v (.int .u64 0),.v (.int .u64 0),.v (.int .u64 0),.v (.int .u64 0),.v (.int .u64 1305),.v (.int .u64 0)]]→X.call 31 [TbS bT a0 va0 b0 vb0,.agg [I 10,.sl c vc 9 0 3,.v (.slice none 0 0)]] M n=some (B true,[])
 chk:∀ (a0 va0 b0 vb0:Nat) (fa0 fb0:Bool) (M:Nat→AO) (n:Nat),M a0=.vec va0 9 fa0 (nrows bT.2.1)→M b0=.vec vb0 2 fb0 (prows bT.2.2)→X.call 39 [TbS bT a0 va0 b0 vb0] M n=some (I 0,[])
 wl1:∀ (a0 va0 b0 vb0:Nat) (fa0 fb0:Bool) (M:Nat→AO) (n:Nat),M a0=.vec va0 9 fa0 (nrows bT.2.1)→M b0=.vec vb0 2 fb0 (prows bT.2.2)→X.call 35 [TbS bT a0 va0 b0 vb0,I 70] M n=some (.tup [U 1305,I 0,I 0],[])
 wl2:∀ (a0 va0 b0 vb0:Nat) (fa0 fb0:Bool) (M:Nat→AO) (n:Nat),M a0=.vec va0 9 fa0 (nrows bT.2.1)→M b0=.vec vb0 2 fb0 (prows bT.2.2)→X.call 35 [TbS bT a0 va0 b0 vb0,I 80] M n=some (.tup [U 0,I 1,I 0],[])
 clr:∀ (a0 va0 b0 vb0:Nat) (fa0 fb0:Bool) (M:Nat→AO) (n:Nat),M a0=.vec va0 9 fa0 (nrows bT.2.1)→M b0=.vec vb0 2 fb0 (prows bT.2.2)→X.call 55 [TbS bT a0 va0 b0 vb0,I 70] M n=some (.tup [TbC aT n,U 1305,.sl (n+2) 1 1 0 2,I 0],outT aT n++[(n+2,.vec 1 1 false [[I 12],[I 11]])])
 sam2:∀ (a0 va0 b0 vb0:Nat) (fa0 fb0:Bool) (a1 va1 b1 vb1:Nat) (fa1 fb1:Bool) (M:Nat→AO) (n:Nat),M a0=.vec va0 9 fa0 (nrows aT.2.1)→M b0=.vec vb0 2 fb0 (prows aT.2.2)→M a1=.vec va1 9 fa1 (nrows aT.2.1)→M b1=.vec vb1 2 fb1 (prows aT.2.2)→X.call 31 [TbS aT a0 va0 b0 vb0,TbS aT a1 va1 b1 vb1] M n=some (B true,[])
 eq2:∀ (c vc d vd:Nat) (fc fd:Bool) (M:Nat→AO) (n:Nat),M c=.vec vc 1 fc [[I 12],[I 11]]→M d=.vec vd 1 fd [[I 12],[I 11]]→X.call 46 [.sl c vc 1 0 2,.sl d vd 1 0 2] M n=some (B true,[])
 seth:∀ (a0 va0 b0 vb0:Nat) (fa0 fb0:Bool) (c vc:Nat) (fc:Bool) (M:Nat→AO) (n:Nat),M a0=.vec va0 9 fa0 (nrows aT.2.1)→M b0=.vec vb0 2 fb0 (prows aT.2.2)→M c=.vec vc 1 fc [[I 11],[I 12]]→X.call 53 [TbS aT a0 va0 b0 vb0,I 9,U 4201,.sl c vc 1 0 2] M n=some (.tup [TbC hT n,I 0],outT hT n)
 spl:∀ (a0 va0 b0 vb0:Nat) (fa0 fb0:Bool) (M:Nat→AO) (n:Nat),M a0=.vec va0 9 fa0 (nrows hT.2.1)→M b0=.vec vb0 2 fb0 (prows hT.2.2)→X.call 64 [TbS hT a0 va0 b0 vb0,I 9] M n=some (.tup [TbC sT n,I 0],outT sT n)
 wl3:∀ (a0 va0 b0 vb0:Nat) (fa0 fb0:Bool) (M:Nat→AO) (n:Nat),M a0=.vec va0 9 fa0 (nrows sT.2.1)→M b0=.vec vb0 2 fb0 (prows sT.2.2)→X.call 35 [TbS sT a0 va0 b0 vb0,I 75] M n=some (.tup [U 4905,I 0,I 0],[])
 hg1:∀ (a0 va0 b0 vb0:Nat) (fa0 fb0:Bool) (M:Nat→AO) (n:Nat),M a0=.vec va0 9 fa0 (nrows hT.2.1)→M b0=.vec vb0 2 fb0 (prows hT.2.2)→X.call 41 [TbS hT a0 va0 b0 vb0,I 9] M n=some (B true,[])
 hg2:∀ (a0 va0 b0 vb0:Nat) (fa0 fb0:Bool) (M:Nat→AO) (n:Nat),M a0=.vec va0 9 fa0 (nrows sT.2.1)→M b0=.vec vb0 2 fb0 (prows sT.2.2)→X.call 41 [TbS sT a0 va0 b0 vb0,I 9] M n=some (B false,[])
 frm:∀ (a0 va0 b0 vb0:Nat) (fa0 fb0:Bool) (M:Nat→AO) (n:Nat),M a0=.vec va0 9 fa0 (nrows hT.2.1)→M b0=.vec vb0 2 fb0 (prows hT.2.2)→X.call 47 [TbS hT a0 va0 b0 vb0] M n=some (.sl n 1 1 0 3,[(n,.vec 1 1 false [[I 10],[I 11],[I 12]])])
 eq3:∀ (c vc d vd:Nat) (fc fd:Bool) (M:Nat→AO) (n:Nat),M c=.vec vc 1 fc [[I 10],[I 11],[I 12]]→M d=.vec vd 1 fd [[I 10],[I 11],[I 12]]→X.call 46 [.sl c vc 1 0 3,.sl d vd 1 0 3] M n=some (B true,[])
 lst:∀ (a0 va0 b0 vb0:Nat) (fa0 fb0:Bool) (M:Nat→AO) (n:Nat),M a0=.vec va0 9 fa0 (nrows hT.2.1)→M b0=.vec vb0 2 fb0 (prows hT.2.2)→X.call 44 [TbS hT a0 va0 b0 vb0] M n=some (.sl n 1 2 0 1,[(n,.vec 1 2 false [[I 72,U 4201]])])
 eqe:∀ (c vc d vd:Nat) (fc fd:Bool) (M:Nat→AO) (n:Nat),M c=.vec vc 2 fc [[I 72,U 4201]]→M d=.vec vd 2 fd [[I 72,U 4201]]→X.call 43 [.sl c vc 2 0 1,.sl d vd 2 0 1] M n=some (B true,[])
set_option maxRecDepth 20000 in
set_option maxHeartbeats 16000000 in
theorem s34 (X:AX) (E:Exa X):PSound Tryz.prog 34 (specF (ι:=Unit) (fun _=>[]) fun _=>retOf [B true]):=by
 have hX:=E.ok
 have hw:=E.w
 refine psound_spec hX mixed Tryz.func34 rfl fun ⟨⟩ w0 G=>⟨by show 0≤195;decide,rfl,?_⟩
 show AW ⟨Tryz.prog,X,195,w0,.pure G⟩ _ _ _
 have hc:Cx.OK ⟨Tryz.prog,X,195,w0,.pure G⟩:=⟨hX,mixed⟩
 have e1:=E.new
 have e2:=E.mis
 have e3:=E.set
 have gsam1:=E.sam1
 have gchk:=E.chk
 have gwl1:=E.wl1
 have gwl2:=E.wl2
 have gclr:=E.clr
 have gsam2:=E.sam2
 have geq2:=E.eq2
 have gseth:=E.seth
 have gspl:=E.spl
 have gwl3:=E.wl3
 have ghg1:=E.hg1
 have ghg2:=E.hg2
 have gfrm:=E.frm
 have geq3:=E.eq3
 have glst:=E.lst
 have geqe:=E.eqe
 obtain ⟨Ra,hRa⟩:∃ R,R=nrows aT.2.1:=⟨_,rfl⟩
 obtain ⟨Rb,hRb⟩:∃ R,R=nrows bT.2.1:=⟨_,rfl⟩
 obtain ⟨Rh,hRh⟩:∃ R,R=nrows hT.2.1:=⟨_,rfl⟩
 obtain ⟨Rs,hRs⟩:∃ R,R=nrows sT.2.1:=⟨_,rfl⟩
 obtain ⟨Dh,hDh⟩:∃ R,R=prows hT.2.2:=⟨_,rfl⟩
 simp only [outT,TbC,TbS,U,← hRa,← hRb,← hRh,← hRs,← hDh,show prows aT.2.2=[] from rfl,show prows bT.2.2=[] from rfl,show prows sT.2.2=[] from rfl,show aT.2.2.length=0 from rfl,show bT.2.2.length=0 from rfl,show hT.2.2.length=1 from rfl,show sT.2.2.length=0 from rfl,show aT.1=10 from rfl,show bT.1=10 from rfl,show hT.1=10 from rfl,show sT.1=10 from rfl,show aT.2.1.length=1 from rfl,show bT.2.1.length=3 from rfl,show hT.2.1.length=2 from rfl,show sT.2.1.length=3 from rfl,List.cons_append,List.nil_append] at e1 e2 e3 gsam1 gchk gwl1 gwl2 gclr gsam2 geq2 gseth gspl gwl3 ghg1 ghg2 gfrm geq3 glst geqe
 have zS:=jj e1<|jj e2<|jj e3<|jj gsam1<|jj gchk<|jj gwl1<|jj gwl2<|jj gclr<|jj gsam2<|jj geq2<|jj gseth<|jj gspl<|jj gwl3<|jj ghg1<|jj ghg2<|jj gfrm<|jj geq3<|jj glst<|geqe
 refine dF64 ?_
 repeat (intro K hK)
 clear zS
 all_goals refine ⟨by simp,?_⟩
 all_goals simp [leaves_iff,Tryz.f34]
 all_goals try exact dt
end Go.AM
