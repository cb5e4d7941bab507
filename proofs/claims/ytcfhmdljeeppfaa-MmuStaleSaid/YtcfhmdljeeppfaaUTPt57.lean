/- A part of the proof: what functions of the program compute, by abstract execution of their code. Its theorems hold without further condition. -/
import Derived.Test.YtcfhmdljeeppfaaUTPtP
set_option linter.all false
namespace Go.AM
open Go Go.Proofs
theorem lsA_0 (t:Tb):lsA t 0=[]:=rfl
attribute [local irreducible] lsA
set_option maxHeartbeats 8000000 in
theorem s29 (X:AX) (hX:XOK Try.prog X) (hw:X.W wT) (hch:∀ t:Tb,tbOK t→∀ M n,X.call 28 [TbV t] M n=some (I (chk t),[]))
  (hla:∀ (t:Tb) (p:Nat),ptO t p→∀ M n,X.call 72 [TbV t,I p] M n=some (stV (lsT t p),[])) :
  PSound Try.prog 29 (specF (ι:={x:Tb // tbOK x}) (fun x=>[TbV x.1]) fun x=>retOf [.ow 2 (erows (lstT x.1))]):=by
 refine psound_spec hX mixed Try.func29 rfl fun ⟨⟨r,ns,ds⟩,ht⟩ w0 G=>⟨by show 1≤36;decide,rfl,?_⟩
 show AW ⟨Try.prog,X,36,w0,.pure G⟩ _ _ _
 have hc:Cx.OK ⟨Try.prog,X,36,w0,.pure G⟩:=⟨hX,mixed⟩
 simp only at ht ⊢
 have hl1:ns.length≤1000000:=ht.2.1
 have hl2:ds.length≤1000000:=ht.2.2
 have hch':=hch _ ht
 rcases Decidable.em (chk (r,ns,ds)=0) with hc0|hc0
 ·have e:lstT (r,ns,ds)=lsA (r,ns,ds) 512:=by unfold lstT;rw [if_pos hc0]
  have hpv:=chk_pv ht hc0
  have hla':=fun p hp=>hla _ p (hpv.pto ht (p:=p) hp)
  rw [e]
  rw [hc0] at hch'
  simp only [TbV] at hch' hla' ⊢
  have h00:0%8^(lsT (r,ns,ds) 0).2.1=0:=Nat.zero_mod _
  have zS:=hch'
  repeat' (first|(apply aw_seq_k;intro K hK)|(refine eM64 ?_)|(refine aw_cond (b:=_) (by exact rfl) (fun h=>?_) (fun h=>?_)<;>(try simp at h))|(refine eB ?_)|(refine hK _ ?_;clear hK)|(clear hK;refine hK _ ?_;clear hK)|(clear hK;clear hK;refine hK _ ?_;clear hK)|(clear hK;clear hK;clear hK;refine hK _ ?_;clear hK))
  all_goals clear zS
  refine aw_weaken (le_nilslot (t:=3) (sz:=2) (by simp)) ?_
  refine aw_loopK (s0:=?lps1) (m0:=?lpm1) (ι:={p:Nat // p≤512∧(p<512→p%8^(lsT (r,ns,ds) p).2.1=0)}) [1] (fun s=>[(4,I s.1),(3,.sl 112 1 2 0 (lsA (r,ns,ds) s.1).length)]) (fun s=>[(112,.vec 1 2 false (erows (lsA (r,ns,ds) s.1)))]) (fun s=>512 - s.1) ⟨0,by omega,fun _=>h00⟩ ?lhs1 ?lhm1 ?_ ?_
  case lhs1=>first|(simp [keepS];done)|(simp [keepS];rfl)
  case lhm1=>first|rfl|(simp;done)|(simp;rfl)
  ·simp only [lsA_0]
   exact le_of2 (by simp) (by simp [AVle,AV.under,AV.underL,erows]<;>omega) (by simp [AOle,AO.under,AV.underL,AV.under,erows]<;>omega)
  ·rintro ⟨p,hp,hal⟩
   simp only
   rcases Decidable.em (p<512) with hil|hil
   ·have hilI:(p:Int)<512:=by omega
    have hal:=hal hil
    have hla2:=hla' p hil
    have hlt2:=(lsT_lt hpv hil).2
    obtain ⟨⟨a,l,w⟩,hS⟩:∃ S,S=lsT (r,ns,ds) p:=⟨_,rfl⟩
    have hl2:(lsT (r,ns,ds) p).2=(l,w):=by rw [← hS]
    rw [← hS] at hal hla2 hlt2
    simp only at hal hlt2
    have hst:=lsA_step hpv hil hl2 hal
    have hnx:p+8^l<512→(p+8^l)%8^(lsT (r,ns,ds) (p+8^l)).2.1=0:=fun h=>lev_next hpv hil hl2 hal h
    have hAl:=@lsA_le (r,ns,ds) p
    have hp8:p+8^l≤512:=by
     rcases (by omega:l=0∨l=1∨l=2) with rfl|rfl|rfl<;>simp at hal ⊢<;>omega
    obtain ⟨A,hA⟩:∃ A,A=lsA (r,ns,ds) p:=⟨_,rfl⟩
    rw [← hA] at hst hAl ⊢
    clear hS
    have htk:=erows_tkl A
    have hap:=erows_ap A p w
    simp only [stV,srow,U] at hla2
    rcases Decidable.em (w=0) with hw0|hw0
    ·subst hw0
     rw [if_neg (by simp),List.append_nil] at hst
     rcases (by omega:l=0∨l=1∨l=2) with rfl|rfl|rfl
     ·simp only [show 8^0=1 from rfl] at hst hnx hp8
      have zS:=jj hilI<|hla2
      repeat' (first|(apply aw_seq_k;intro K hK)|(refine eM64 ?_)|(refine aw_cond (b:=_) (by exact rfl) (fun h=>?_) (fun h=>?_)<;>(try simp at h))|(refine eB ?_)|(refine hK _ ?_;clear hK)|(clear hK;refine hK _ ?_;clear hK)|(clear hK;clear hK;refine hK _ ?_;clear hK)|(clear hK;clear hK;clear hK;refine hK _ ?_;clear hK))
      all_goals clear zS
      refine aw_rounds 1 (aw_round ?_)
      repeat' (first|(apply aw_seq_k;intro K hK)|(refine eM64o ?_)|(refine aw_cond (b:=_) (by exact rfl) (fun h=>?_) (fun h=>?_)<;>(try simp at h))|(refine eB ?_)|(refine hK _ ?_;clear hK)|(clear hK;refine hK _ ?_;clear hK)|(clear hK;clear hK;refine hK _ ?_;clear hK)|(clear hK;clear hK;clear hK;refine hK _ ?_;clear hK))
      refine ⟨p+1,?_,⟨hp8,hnx⟩,by omega⟩
      simp only [hst]
      exact dle
     ·simp only [show 8^1=8 from rfl] at hst hnx hp8
      have zS:=jj hilI<|hla2
      repeat' (first|(apply aw_seq_k;intro K hK)|(refine eM64 ?_)|(refine aw_cond (b:=_) (by exact rfl) (fun h=>?_) (fun h=>?_)<;>(try simp at h))|(refine eB ?_)|(refine hK _ ?_;clear hK)|(clear hK;refine hK _ ?_;clear hK)|(clear hK;clear hK;refine hK _ ?_;clear hK)|(clear hK;clear hK;clear hK;refine hK _ ?_;clear hK))
      all_goals clear zS
      refine aw_rounds 2 (aw_round ?_)
      repeat' (first|(apply aw_seq_k;intro K hK)|(refine eM64o ?_)|(refine aw_cond (b:=_) (by exact rfl) (fun h=>?_) (fun h=>?_)<;>(try simp at h))|(refine eB ?_)|(refine hK _ ?_;clear hK)|(clear hK;refine hK _ ?_;clear hK)|(clear hK;clear hK;refine hK _ ?_;clear hK)|(clear hK;clear hK;clear hK;refine hK _ ?_;clear hK))
      refine ⟨p+8,?_,⟨hp8,hnx⟩,by omega⟩
      simp only [hst]
      exact dle
     ·simp only [show 8^2=64 from rfl] at hst hnx hp8
      have zS:=jj hilI<|hla2
      repeat' (first|(apply aw_seq_k;intro K hK)|(refine eM64 ?_)|(refine aw_cond (b:=_) (by exact rfl) (fun h=>?_) (fun h=>?_)<;>(try simp at h))|(refine eB ?_)|(refine hK _ ?_;clear hK)|(clear hK;refine hK _ ?_;clear hK)|(clear hK;clear hK;refine hK _ ?_;clear hK)|(clear hK;clear hK;clear hK;refine hK _ ?_;clear hK))
      all_goals clear zS
      refine aw_rounds 3 (aw_round ?_)
      repeat' (first|(apply aw_seq_k;intro K hK)|(refine eM64o ?_)|(refine aw_cond (b:=_) (by exact rfl) (fun h=>?_) (fun h=>?_)<;>(try simp at h))|(refine eB ?_)|(refine hK _ ?_;clear hK)|(clear hK;refine hK _ ?_;clear hK)|(clear hK;clear hK;refine hK _ ?_;clear hK)|(clear hK;clear hK;clear hK;refine hK _ ?_;clear hK))
      refine ⟨p+64,?_,⟨hp8,hnx⟩,by omega⟩
      simp only [hst]
      exact dle
    ·rw [if_pos hw0] at hst
     rw [← hst] at hap
     have hlen:A.length+1=(lsA (r,ns,ds) (p+8^l)).length:=by rw [hst];simp
     rcases (by omega:l=0∨l=1∨l=2) with rfl|rfl|rfl
     ·simp only [show 8^0=1 from rfl] at hst hnx hp8 hap hlen
      have zS:=jj hilI<|jj hla2<|jj hw0<|jj htk<|jj hap<|hAl
      repeat' (first|(apply aw_seq_k;intro K hK)|(refine eM64 ?_)|(refine aw_cond (b:=_) (by exact rfl) (fun h=>?_) (fun h=>?_)<;>(try simp at h))|(refine eB ?_)|(refine hK _ ?_;clear hK)|(clear hK;refine hK _ ?_;clear hK)|(clear hK;clear hK;refine hK _ ?_;clear hK)|(clear hK;clear hK;clear hK;refine hK _ ?_;clear hK))
      all_goals clear zS
      refine aw_rounds 1 (aw_round ?_)
      repeat' (first|(apply aw_seq_k;intro K hK)|(refine eM64o ?_)|(refine aw_cond (b:=_) (by exact rfl) (fun h=>?_) (fun h=>?_)<;>(try simp at h))|(refine eB ?_)|(refine hK _ ?_;clear hK)|(clear hK;refine hK _ ?_;clear hK)|(clear hK;clear hK;refine hK _ ?_;clear hK)|(clear hK;clear hK;clear hK;refine hK _ ?_;clear hK))
      refine ⟨p+1,?_,⟨hp8,hnx⟩,by omega⟩
      simp only [hlen]
      refine le_turn (s1:=?tus2) (m1:=?tum2) [] [4,3,1] [0,112] ?tua2 ?tub2 ?tuc2 ?tud2 ?tue2 ?tuf2 ?tug2
      case tua2=>first|(simp [keepS];done)|(simp [keepS];rfl)
      case tub2=>first|(simp;done)|(simp;rfl)
      case tuc2=>simp
      case tud2=>simp
      case tue2=>simp
      case tuf2=>simp
      case tug2 =>
       simp [swp,vr]
       exact dle
     ·simp only [show 8^1=8 from rfl] at hst hnx hp8 hap hlen
      have zS:=jj hilI<|jj hla2<|jj hw0<|jj htk<|jj hap<|hAl
      repeat' (first|(apply aw_seq_k;intro K hK)|(refine eM64 ?_)|(refine aw_cond (b:=_) (by exact rfl) (fun h=>?_) (fun h=>?_)<;>(try simp at h))|(refine eB ?_)|(refine hK _ ?_;clear hK)|(clear hK;refine hK _ ?_;clear hK)|(clear hK;clear hK;refine hK _ ?_;clear hK)|(clear hK;clear hK;clear hK;refine hK _ ?_;clear hK))
      all_goals clear zS
      refine aw_rounds 2 (aw_round ?_)
      repeat' (first|(apply aw_seq_k;intro K hK)|(refine eM64o ?_)|(refine aw_cond (b:=_) (by exact rfl) (fun h=>?_) (fun h=>?_)<;>(try simp at h))|(refine eB ?_)|(refine hK _ ?_;clear hK)|(clear hK;refine hK _ ?_;clear hK)|(clear hK;clear hK;refine hK _ ?_;clear hK)|(clear hK;clear hK;clear hK;refine hK _ ?_;clear hK))
      refine ⟨p+8,?_,⟨hp8,hnx⟩,by omega⟩
      simp only [hlen]
      refine le_turn (s1:=?tus3) (m1:=?tum3) [] [4,3,1] [0,112] ?tua3 ?tub3 ?tuc3 ?tud3 ?tue3 ?tuf3 ?tug3
      case tua3=>first|(simp [keepS];done)|(simp [keepS];rfl)
      case tub3=>first|(simp;done)|(simp;rfl)
      case tuc3=>simp
      case tud3=>simp
      case tue3=>simp
      case tuf3=>simp
      case tug3 =>
       simp [swp,vr]
       exact dle
     ·simp only [show 8^2=64 from rfl] at hst hnx hp8 hap hlen
      have zS:=jj hilI<|jj hla2<|jj hw0<|jj htk<|jj hap<|hAl
      repeat' (first|(apply aw_seq_k;intro K hK)|(refine eM64 ?_)|(refine aw_cond (b:=_) (by exact rfl) (fun h=>?_) (fun h=>?_)<;>(try simp at h))|(refine eB ?_)|(refine hK _ ?_;clear hK)|(clear hK;refine hK _ ?_;clear hK)|(clear hK;clear hK;refine hK _ ?_;clear hK)|(clear hK;clear hK;clear hK;refine hK _ ?_;clear hK))
      all_goals clear zS
      refine aw_rounds 3 (aw_round ?_)
      repeat' (first|(apply aw_seq_k;intro K hK)|(refine eM64o ?_)|(refine aw_cond (b:=_) (by exact rfl) (fun h=>?_) (fun h=>?_)<;>(try simp at h))|(refine eB ?_)|(refine hK _ ?_;clear hK)|(clear hK;refine hK _ ?_;clear hK)|(clear hK;clear hK;refine hK _ ?_;clear hK)|(clear hK;clear hK;clear hK;refine hK _ ?_;clear hK))
      refine ⟨p+64,?_,⟨hp8,hnx⟩,by omega⟩
      simp only [hlen]
      refine le_turn (s1:=?tus4) (m1:=?tum4) [] [4,3,1] [0,112] ?tua4 ?tub4 ?tuc4 ?tud4 ?tue4 ?tuf4 ?tug4
      case tua4=>first|(simp [keepS];done)|(simp [keepS];rfl)
      case tub4=>first|(simp;done)|(simp;rfl)
      case tuc4=>simp
      case tud4=>simp
      case tue4=>simp
      case tuf4=>simp
      case tug4 =>
       simp [swp,vr]
       exact dle
   ·obtain rfl:p=512:=by omega
    have htk:=erows_tkl (lsA (r,ns,ds) 512)
    obtain ⟨A,hA⟩:∃ A,A=lsA (r,ns,ds) 512:=⟨_,rfl⟩
    rw [← hA] at htk ⊢
    repeat' (first|(apply aw_seq_k;intro K hK)|(refine eM64o ?_)|(refine aw_cond (b:=_) (by exact rfl) (fun h=>?_) (fun h=>?_)<;>(try simp at h))|(refine eB ?_)|(refine hK _ ?_;clear hK)|(clear hK;refine hK _ ?_;clear hK)|(clear hK;clear hK;refine hK _ ?_;clear hK)|(clear hK;clear hK;clear hK;refine hK _ ?_;clear hK))
    refine ⟨by simp,?_⟩
    simp [leaves_iff,Try.f29,htk]
    try exact dt
    rw [hA]
 ·have e:lstT (r,ns,ds)=[]:=by unfold lstT;rw [if_neg hc0]
  rw [e]
  obtain ⟨c,hcc⟩:∃ c,c=chk (r,ns,ds):=⟨_,rfl⟩
  rw [← hcc] at hch' hc0
  simp only [TbV] at hch' ⊢
  have zS:=jj hch'<|hc0
  refine dM64 ?_
  repeat (intro K hK)
  clear zS
  refine ⟨by simp,?_⟩
  simp [leaves_iff,Try.f29,erows]
  try exact dt
end Go.AM
namespace Go.AM
open Go Go.Proofs
theorem lsA_s (t:Tb) (n:Nat):lsA t (n+1)=lsA t n++lsF t n:=rfl
attribute [local irreducible] lsA
set_option maxHeartbeats 8000000 in
theorem s52 (X:AX) (hX:XOK Try.prog X) (hw:X.W wT) (hch:∀ t:Tb,tbOK t→∀ M n,X.call 35 [TbV t] M n=some (I (chk t),[]))
  (hst:∀ (t:Tb) (p:Nat),ptO t p→∀ M n,X.call 107 [TbV t,I p] M n=some (.tup [I (lsT t p).1,I (lsT t p).2.1],[]))
  (hdg:∀ (p l:Nat),p<512→l≤2→∀ M n,X.call 108 [I p,I l] M n=some (I (dig p l),[])) :
  PSound Try.prog 52 (specF (ι:={x:Tb // tbOK x}) (fun x=>[TbV x.1]) fun x=>retOf [.ow 2 (erows (lstT x.1))]):=by
 refine psound_spec hX mixed Try.func52 rfl fun ⟨⟨r,ns,ds⟩,ht⟩ w0 G=>⟨by show 1≤49;decide,rfl,?_⟩
 show AW ⟨Try.prog,X,49,w0,.pure G⟩ _ _ _
 have hc:Cx.OK ⟨Try.prog,X,49,w0,.pure G⟩:=⟨hX,mixed⟩
 simp only at ht ⊢
 have hl1:ns.length≤1000000:=ht.2.1
 have hl2:ds.length≤1000000:=ht.2.2
 have hch':=hch _ ht
 rcases Decidable.em (chk (r,ns,ds)=0) with hc0|hc0
 ·have e:lstT (r,ns,ds)=lsA (r,ns,ds) 512:=by unfold lstT;rw [if_pos hc0]
  have hpv:=chk_pv ht hc0
  have hst':=fun p hp=>hst _ p (hpv.pto ht (p:=p) hp)
  rw [e]
  rw [hc0] at hch'
  simp only [TbV] at hch' hst' ⊢
  have zS:=hch'
  repeat' (first|(apply aw_seq_k;intro K hK)|(refine eM64 ?_)|(refine aw_cond (b:=_) (by exact rfl) (fun h=>?_) (fun h=>?_)<;>(try simp at h))|(refine eB ?_)|(refine hK _ ?_;clear hK)|(clear hK;refine hK _ ?_;clear hK)|(clear hK;clear hK;refine hK _ ?_;clear hK)|(clear hK;clear hK;clear hK;refine hK _ ?_;clear hK))
  all_goals clear zS
  refine aw_weaken (le_nilslot (t:=3) (sz:=2) (by simp)) ?_
  refine aw_loopK (s0:=?lps1) (m0:=?lpm1) (ι:={p:Nat // p≤512}) [1] (fun s=>[(4,I s.1),(3,.sl 112 1 2 0 (lsA (r,ns,ds) s.1).length)]) (fun s=>[(112,.vec 1 2 false (erows (lsA (r,ns,ds) s.1)))]) (fun s=>512 - s.1) ⟨0,by omega⟩ ?lhs1 ?lhm1 ?_ ?_
  case lhs1=>first|(simp [keepS];done)|(simp [keepS];rfl)
  case lhm1=>first|rfl|(simp;done)|(simp;rfl)
  ·simp only [lsA_0]
   exact le_of2 (by simp) (by simp [AVle,AV.under,AV.underL,erows]<;>omega) (by simp [AOle,AO.under,AV.underL,AV.under,erows]<;>omega)
  ·rintro ⟨p,hp⟩
   simp only
   rcases Decidable.em (p<512) with hil|hil
   ·have hilI:(p:Int)<512:=by omega
    have hst2:=hst' p hil
    have hsA:lsA (r,ns,ds) (p+1)=lsA (r,ns,ds) p++lsF (r,ns,ds) p:=lsA_s _ _
    have hwo:=lst_word (ns:=ns) (p:=p) (l:=2) (n:=rtN (r,ns,ds))
    rw [show lst ns p 2 (rtN (r,ns,ds))=lsT (r,ns,ds) p from rfl] at hwo
    obtain ⟨hlt1,hlt2⟩:=lsT_lt hpv hil
    unfold lsF at hsA
    obtain ⟨⟨a,b,c⟩,hS⟩:∃ S,S=lsT (r,ns,ds) p:=⟨_,rfl⟩
    rw [← hS] at hst2 hwo hlt1 hlt2 hsA
    simp only at hwo hlt1 hlt2 hst2 hsA
    have haN:(a:Int)<(ns.length:Int):=by omega
    have hdg':=hdg p b hil hlt2
    rw [dig_dgt hil hlt2] at hdg'
    have hdl:=dgt_lt p b
    have hgn:=nrows_gi hlt1
    have hgnE:=nrows_gE hlt1
    have h8:(gn ns a).2.length=8:=(ht.1 _ (gn_mem hlt1)).1
    have hw8:=wcs_gi (l:=(gn ns a).2) (i:=dgt p b) (by omega)
    have hwE:=wcs_gE (l:=(gn ns a).2) (i:=dgt p b) (by omega)
    have hwg:(gn ns a).2.getD (dgt p b) 0=c:=hwo.symm
    rw [hwg] at hw8 hwE
    have hwl:(wcs (gn ns a).2).length=8:=by simp [h8]
    obtain ⟨⟨fr,ws⟩,hm⟩:∃ m,m=gn ns a:=⟨_,rfl⟩
    rw [← hm] at hgn hgnE hw8 hwE hwl
    simp only at hgn hgnE hw8 hwE hwl
    obtain ⟨cs,hcs⟩:∃ cs,cs=wcs ws:=⟨_,rfl⟩
    rw [← hcs] at hgn hgnE hw8 hwE hwl
    obtain ⟨dg,hdg0⟩:∃ dg,dg=dgt p b:=⟨_,rfl⟩
    rw [← hdg0] at hdl hw8 hwE hdg'
    have hdI:(dg:Int)<8:=by omega
    have hAl:=@lsA_le (r,ns,ds) p
    obtain ⟨A,hA⟩:∃ A,A=lsA (r,ns,ds) p:=⟨_,rfl⟩
    rw [← hA] at hsA hAl ⊢
    clear hcs hm h8 hwg hwo hS
    have htk:=erows_tkl A
    have hap:=erows_ap A p c
    simp only [U] at hw8 hwE
    have hmod:(p:Int).tmod 8=((p%8:Nat):Int):=by rw [Int.tmod_eq_emod_of_nonneg (by omega)];omega
    rcases Decidable.em (c=0) with hc1|hc1
    ·subst hc1
     rw [if_neg (by simp),List.append_nil] at hsA
     rw [show ((0:Nat):Int)=0 from rfl] at hw8 hwE
     have zS:=jj hilI<|jj hst2<|jj hdg'<|jj hlt1<|jj haN<|jj hgn<|jj hgnE<|jj hw8<|jj hwE<|jj hwl<|jj hdl<|hdI
     repeat' (first|(apply aw_seq_k;intro K hK)|(refine eM64 ?_)|(refine aw_cond (b:=_) (by exact rfl) (fun h=>?_) (fun h=>?_)<;>(try simp at h))|(refine eB ?_)|(refine hK _ ?_;clear hK)|(clear hK;refine hK _ ?_;clear hK)|(clear hK;clear hK;refine hK _ ?_;clear hK)|(clear hK;clear hK;clear hK;refine hK _ ?_;clear hK))
     all_goals clear zS
     refine ⟨p+1,?_,by omega,by omega⟩
     simp only [hsA]
     exact dle
    ·have hc2:¬ (c:Int)=0:=by omega
     rcases Decidable.em (b=0) with hb|hb
     ·subst hb
      rw [if_pos ⟨hc1,.inl rfl⟩] at hsA
      rw [← hsA] at hap
      have hlen:A.length+1=(lsA (r,ns,ds) (p+1)).length:=by rw [hsA];simp
      rw [show ((0:Nat):Int)=0 from rfl] at hst2 hdg'
      have zS:=jj hilI<|jj hst2<|jj hdg'<|jj hlt1<|jj haN<|jj hgn<|jj hgnE<|jj hw8<|jj hwE<|jj hwl<|jj hdl<|jj hdI<|jj hc1<|jj hc2<|jj htk<|jj hap<|hAl
      repeat' (first|(apply aw_seq_k;intro K hK)|(refine eM64 ?_)|(refine aw_cond (b:=_) (by exact rfl) (fun h=>?_) (fun h=>?_)<;>(try simp at h))|(refine eB ?_)|(refine hK _ ?_;clear hK)|(clear hK;refine hK _ ?_;clear hK)|(clear hK;clear hK;refine hK _ ?_;clear hK)|(clear hK;clear hK;clear hK;refine hK _ ?_;clear hK))
      all_goals clear zS
      refine ⟨p+1,?_,by omega,by omega⟩
      simp only [hlen]
      refine le_turn (s1:=?tus2) (m1:=?tum2) [] [4,3,1] [0,112] ?tua2 ?tub2 ?tuc2 ?tud2 ?tue2 ?tuf2 ?tug2
      case tua2=>first|(simp [keepS];done)|(simp [keepS];rfl)
      case tub2=>first|(simp;done)|(simp;rfl)
      case tuc2=>simp
      case tud2=>simp
      case tue2=>simp
      case tuf2=>simp
      case tug2 =>
       simp [swp,vr]
       exact dle
     ·have hbI:¬ (b:Int)=0:=by omega
      rcases Decidable.em (p%8=0) with hm8|hm8
      ·rw [if_pos ⟨hc1,.inr hm8⟩] at hsA
       rw [← hsA] at hap
       rw [hm8,show ((0:Nat):Int)=0 from rfl] at hmod
       have hlen:A.length+1=(lsA (r,ns,ds) (p+1)).length:=by rw [hsA];simp
       have zS:=jj hilI<|jj hst2<|jj hdg'<|jj hlt1<|jj haN<|jj hgn<|jj hgnE<|jj hw8<|jj hwE<|jj hwl<|jj hdl<|jj hdI<|jj hc1<|jj hc2<|jj htk<|jj hap<|jj hAl<|jj hb<|jj hbI<|hmod
       repeat' (first|(apply aw_seq_k;intro K hK)|(refine eM64 ?_)|(refine aw_cond (b:=_) (by exact rfl) (fun h=>?_) (fun h=>?_)<;>(try simp at h))|(refine eB ?_)|(refine hK _ ?_;clear hK)|(clear hK;refine hK _ ?_;clear hK)|(clear hK;clear hK;refine hK _ ?_;clear hK)|(clear hK;clear hK;clear hK;refine hK _ ?_;clear hK))
       all_goals clear zS
       refine ⟨p+1,?_,by omega,by omega⟩
       simp only [hlen]
       refine le_turn (s1:=?tus3) (m1:=?tum3) [] [4,3,1] [0,112] ?tua3 ?tub3 ?tuc3 ?tud3 ?tue3 ?tuf3 ?tug3
       case tua3=>first|(simp [keepS];done)|(simp [keepS];rfl)
       case tub3=>first|(simp;done)|(simp;rfl)
       case tuc3=>simp
       case tud3=>simp
       case tue3=>simp
       case tuf3=>simp
       case tug3 =>
        simp [swp,vr]
        exact dle
      ·rw [if_neg (fun h=>h.2.elim hb hm8),List.append_nil] at hsA
       have hm9:¬ ((p%8:Nat):Int)=0:=by omega
       obtain ⟨q8,hq8⟩:∃ q:Int,q=((p%8:Nat):Int):=⟨_,rfl⟩
       rw [← hq8] at hmod hm9
       have zS:=jj hilI<|jj hst2<|jj hdg'<|jj hlt1<|jj haN<|jj hgn<|jj hgnE<|jj hw8<|jj hwE<|jj hwl<|jj hdl<|jj hdI<|jj hc1<|jj hc2<|jj hb<|jj hbI<|jj hmod<|hm9
       repeat' (first|(apply aw_seq_k;intro K hK)|(refine eM64 ?_)|(refine aw_cond (b:=_) (by exact rfl) (fun h=>?_) (fun h=>?_)<;>(try simp at h))|(refine eB ?_)|(refine hK _ ?_;clear hK)|(clear hK;refine hK _ ?_;clear hK)|(clear hK;clear hK;refine hK _ ?_;clear hK)|(clear hK;clear hK;clear hK;refine hK _ ?_;clear hK))
       all_goals clear zS
       refine ⟨p+1,?_,by omega,by omega⟩
       simp only [hsA]
       exact dle
   ·obtain rfl:p=512:=by omega
    have htk:=erows_tkl (lsA (r,ns,ds) 512)
    obtain ⟨A,hA⟩:∃ A,A=lsA (r,ns,ds) 512:=⟨_,rfl⟩
    rw [← hA] at htk ⊢
    repeat' (first|(apply aw_seq_k;intro K hK)|(refine eM64o ?_)|(refine aw_cond (b:=_) (by exact rfl) (fun h=>?_) (fun h=>?_)<;>(try simp at h))|(refine eB ?_)|(refine hK _ ?_;clear hK)|(clear hK;refine hK _ ?_;clear hK)|(clear hK;clear hK;refine hK _ ?_;clear hK)|(clear hK;clear hK;clear hK;refine hK _ ?_;clear hK))
    refine ⟨by simp,?_⟩
    simp [leaves_iff,Try.f52,htk]
    try exact dt
    rw [hA]
 ·have e:lstT (r,ns,ds)=[]:=by unfold lstT;rw [if_neg hc0]
  rw [e]
  obtain ⟨c,hcc⟩:∃ c,c=chk (r,ns,ds):=⟨_,rfl⟩
  rw [← hcc] at hch' hc0
  simp only [TbV] at hch' ⊢
  have zS:=jj hch'<|hc0
  refine dM64 ?_
  repeat (intro K hK)
  clear zS
  refine ⟨by simp,?_⟩
  simp [leaves_iff,Try.f52,erows]
  try exact dt
end Go.AM
namespace Go.AM
open Go Go.Proofs
def OwnI (X:AX):Prop:=(∀ (fr:List Int) (x:Int),fr.length≤1000→∀ (b v:Nat) (f:Bool) (M:Nat→AO) (n:Nat),M b=.vec v 1 f (irows fr)→X.call 25 [.sl b v 1 0 fr.length,I x] M n=some (B (decide (x∈fr)),[]))∧∀ (x:Int) (M:Nat→AO) (n:Nat),X.call 25 [.v (.slice none 0 0),I x] M n=some (B false,[])
end Go.AM
namespace Go.AM
open Go Go.Proofs
def inF (fr:List Int) (n:Nd):Bool:=decide (n.1∈fr)
end Go.AM
namespace Go.AM
open Go Go.Proofs
def kpF (fr:List Int) (ns:NdL):NdL:=ns.filter fun n=>!inF fr n
end Go.AM
set_option maxHeartbeats 2000000
namespace Go.AM
open Go Go.Proofs
@[simp] theorem tyTe:Types Try.prog 91=some ⟨.struct [(0,3,1),(1,3,1),(2,51,1)],3,24,[.int .i64 0,.int .i64 0,.int .u64 0]⟩:=by kernel_rfl
@[simp] theorem tyTl:Types Try.prog 34=some ⟨.struct [(0,3,1),(1,32,1)],2,32,[.int .i64 0,.slice none 0 0]⟩:=by kernel_rfl
@[simp] theorem tyTes:Types Try.prog 32=some ⟨.slice 91,1,24,[.slice none 0 0]⟩:=by kernel_rfl
def trow (x:Te):List AV:=[I x.1,I x.2.1,U x.2.2]
def trows (l:List Te):List (List AV):=l.map trow
def TeV (x:Te):AV:=.agg [I x.1,I x.2.1,U x.2.2]
def TlV (b:Tl):AV:=.agg [I b.1,.rd 3 (trows b.2)]
@[simp] theorem trows_length (l:List Te):(trows l).length=l.length:=by simp [trows]
theorem trow_inj {a b:Te}:trow a=trow b↔a=b:=by
 obtain ⟨a1,a2,a3⟩:=a
 obtain ⟨b1,b2,b3⟩:=b
 simp only [trow,I,U,List.cons.injEq,AV.v.injEq,Value.int.injEq,true_and,and_true,Int.ofNat_inj,Prod.mk.injEq]
theorem trows_inj:∀ {a b:List Te},trows a=trows b↔a=b
 | [],[]=>by simp [trows]
 | [],_::_=>by simp [trows]
 | _::_,[]=>by simp [trows]
 | a::l,b::m=>by
  have ih:=trows_inj (a:=l) (b:=m)
  simp only [trows,List.map_cons,List.cons.injEq,trow_inj] at ih ⊢
  rw [ih]
theorem TeV_inj {a b:Te}:TeV a=TeV b↔a=b:=by
 have:=@trow_inj a b
 simp only [trow] at this
 simp only [TeV,AV.agg.injEq]
 exact this
theorem TlV_inj {a b:Tl}:TlV a=TlV b↔a=b:=by
 obtain ⟨a1,a2⟩:=a
 obtain ⟨b1,b2⟩:=b
 simp only [TlV,I,AV.agg.injEq,List.cons.injEq,AV.v.injEq,Value.int.injEq,true_and,and_true,AV.rd.injEq,trows_inj,Prod.mk.injEq]
theorem trows_gi {l:List Te} {i:Nat} (h:i<l.length):(trows l)[i]?=some (trow (gt l i)):=by
 rw [gt_eq h]
 simp [trows,List.getElem?_eq_getElem h]
theorem trows_gE {l:List Te} {i:Nat} (h:i<l.length):∀ h',(trows l)[i]'(h')=trow (gt l i):=fun h'=>by
 have:=trows_gi h
 rw [List.getElem?_eq_getElem h'] at this
 exact Option.some.inj this
noncomputable def TrF:List AV→Option AV:=specF (ι:={w:Nat // w<2^64}) (fun x=>[U x.1]) fun x=>retOf [B (trB x.1),B (hgB x.1)]
theorem s98 (X:AX) (hX:XOK Try.prog X) (hw:X.W wT) (hde:∀ n:Nat,n<2^64→∀ M k,X.call 30 [U n] M k=some (.tup [EnV (decR n).1,I (decR n).2],[])):PSound Try.prog 98 TrF:=by
 unfold TrF
 refine psound_spec hX mixed Try.func98 rfl fun ⟨w,hw64⟩ w0 G=>⟨by show 1≤24;decide,rfl,?_⟩
 show AW ⟨Try.prog,X,24,w0,.pure G⟩ _ _ _
 have hc:Cx.OK ⟨Try.prog,X,24,w0,.pure G⟩:=⟨hX,mixed⟩
 simp only at hw64 ⊢
 have hd:=hde w hw64
 unfold trB hgB
 obtain ⟨⟨⟨k,num,b1,b2,b3,hg⟩,er⟩,hx⟩:∃ x,x=decR w:=⟨_,rfl⟩
 rw [← hx] at hd ⊢
 simp only [EnV,U] at hd ⊢
 rcases Decidable.em (er=0) with h1|h1
 ·rcases Decidable.em (k=1) with h2|h2
  ·cases hg
   ·have zS:=jj hd<|jj h1<|h2
    refine dF64 ?_
    repeat (intro K hK)
    clear zS
    refine ⟨by simp,?_⟩
    simp [leaves_iff,Try.f98,h1,h2]
    try exact dt
   ·have zS:=jj hd<|jj h1<|h2
    refine dF64 ?_
    repeat (intro K hK)
    clear zS
    refine ⟨by simp,?_⟩
    simp [leaves_iff,Try.f98,h1,h2]
    try exact dt
  ·cases hg
   ·have zS:=jj hd<|jj h1<|h2
    refine dF64 ?_
    repeat (intro K hK)
    clear zS
    refine ⟨by simp,?_⟩
    simp [leaves_iff,Try.f98,h1,h2]
    try exact dt
   ·have zS:=jj hd<|jj h1<|h2
    refine dF64 ?_
    repeat (intro K hK)
    clear zS
    refine ⟨by simp,?_⟩
    simp [leaves_iff,Try.f98,h1,h2]
    try exact dt
 ·have zS:=jj hd<|h1
  refine dF64 ?_
  repeat (intro K hK)
  clear zS
  refine ⟨by simp,?_⟩
  simp [leaves_iff,Try.f98,h1]
  try exact dt
noncomputable def SpnF:List AV→Option AV:=specF (ι:={w:Nat // w<2^64}) (fun x=>[U x.1]) fun x=>retOf [I (spn x.1)]
theorem s134 (X:AX) (hX:XOK Try.prog X) (hw:X.W wT) (htr:∀ w:Nat,w<2^64→∀ M k,X.call 98 [U w] M k=some (.tup [B (trB w),B (hgB w)],[])):PSound Try.prog 134 SpnF:=by
 unfold SpnF
 refine psound_spec hX mixed Try.func134 rfl fun ⟨w,hw64⟩ w0 G=>⟨by show 1≤11;decide,rfl,?_⟩
 show AW ⟨Try.prog,X,11,w0,.pure G⟩ _ _ _
 have hc:Cx.OK ⟨Try.prog,X,11,w0,.pure G⟩:=⟨hX,mixed⟩
 simp only at hw64 ⊢
 have ht:=htr w hw64
 unfold spn
 obtain ⟨a,ha⟩:∃ x,x=trB w:=⟨_,rfl⟩
 obtain ⟨b,hb⟩:∃ x,x=hgB w:=⟨_,rfl⟩
 rw [← ha,← hb] at ht
 rw [← hb]
 simp only [U] at ht ⊢
 cases b
 ·have zS:=ht
  refine dM64 ?_
  repeat (intro K hK)
  clear zS
  refine ⟨by simp,?_⟩
  simp [leaves_iff,Try.f134]
  try exact dt
 ·have zS:=ht
  refine dM64 ?_
  repeat (intro K hK)
  clear zS
  refine ⟨by simp,?_⟩
  simp [leaves_iff,Try.f134]
  try exact dt
noncomputable def PlcF:List AV→Option AV:=specF (ι:=Int×Int) (fun x=>[I x.1,I x.2]) fun x=>retOf [I (if plcB x.1 x.2=true then 0 else 2)]
theorem s97 (X:AX) (hX:XOK Try.prog X) (hw:X.W wT):PSound Try.prog 97 PlcF:=by
 unfold PlcF
 refine psound_spec hX mixed Try.func97 rfl fun ⟨s,p⟩ w0 G=>⟨by show 2≤19;decide,rfl,?_⟩
 show AW ⟨Try.prog,X,19,w0,.pure G⟩ _ _ _
 have hc:Cx.OK ⟨Try.prog,X,19,w0,.pure G⟩:=⟨hX,mixed⟩
 simp only
 rcases Decidable.em (s<0) with h1|h1
 ·rw [show plcB s p=false by unfold plcB;exact decide_eq_false (by omega),if_neg (by decide)]
  have zS:=h1
  refine dM64 ?_
  repeat (intro K hK)
  clear zS
  refine ⟨by simp,?_⟩
  simp [leaves_iff,Try.f97]
  try exact dt
 ·rcases Decidable.em (8≤s) with h2|h2
  ·rw [show plcB s p=false by unfold plcB;exact decide_eq_false (by omega),if_neg (by decide)]
   have zS:=jj h1<|h2
   refine dM64 ?_
   repeat (intro K hK)
   clear zS
   refine ⟨by simp,?_⟩
   simp [leaves_iff,Try.f97]
   try exact dt
  ·rcases Decidable.em (p<0) with h3|h3
   ·rw [show plcB s p=false by unfold plcB;exact decide_eq_false (by omega),if_neg (by decide)]
    have zS:=jj h1<|jj h2<|h3
    refine dM64 ?_
    repeat (intro K hK)
    clear zS
    refine ⟨by simp,?_⟩
    simp [leaves_iff,Try.f97]
    try exact dt
   ·rcases Decidable.em (512≤p) with h4|h4
    ·rw [show plcB s p=false by unfold plcB;exact decide_eq_false (by omega),if_neg (by decide)]
     have zS:=jj h1<|jj h2<|jj h3<|h4
     refine dM64 ?_
     repeat (intro K hK)
     clear zS
     refine ⟨by simp,?_⟩
     simp [leaves_iff,Try.f97]
     try exact dt
    ·rw [show plcB s p=true by unfold plcB;exact decide_eq_true (by omega),if_pos rfl]
     have zS:=jj h1<|jj h2<|jj h3<|h4
     refine dM64 ?_
     repeat (intro K hK)
     clear zS
     refine ⟨by simp,?_⟩
     simp [leaves_iff,Try.f97]
     try exact dt
theorem spn_le {w:Nat}:1≤spn w∧spn w≤8:=by unfold spn;split<;>omega
def teOK (x:Te):Prop:=0≤x.2.1∧x.2.1<512∧x.2.2<2^64
noncomputable def CvF:List AV→Option AV:=specF (ι:={x:Te×Int×Int // teOK x.1}) (fun x=>[TeV x.1.1,I x.1.2.1,I x.1.2.2]) fun x=>retOf [B (cvB x.1.1 x.1.2.1 x.1.2.2)]
theorem s111 (X:AX) (hX:XOK Try.prog X) (hw:X.W wT) (hsp:∀ w:Nat,w<2^64→∀ M k,X.call 134 [U w] M k=some (I (spn w),[])):PSound Try.prog 111 CvF:=by
 unfold CvF
 refine psound_spec hX mixed Try.func111 rfl fun ⟨⟨⟨xs,xp,xw⟩,s,p⟩,hok⟩ w0 G=>⟨by show 3≤27;decide,rfl,?_⟩
 show AW ⟨Try.prog,X,27,w0,.pure G⟩ _ _ _
 have hc:Cx.OK ⟨Try.prog,X,27,w0,.pure G⟩:=⟨hX,mixed⟩
 obtain ⟨h1,h2,h3⟩:=hok
 simp only at h1 h2 h3 ⊢
 have hs:=hsp xw h3
 have hle:=@spn_le xw
 unfold cvB
 simp only [TeV]
 obtain ⟨v,hv⟩:∃ x,x=spn xw:=⟨_,rfl⟩
 rw [← hv] at hs hle ⊢
 simp only [U] at hs ⊢
 rcases Decidable.em (xs=s) with k1|k1
 ·rcases Decidable.em (xp≤p) with k2|k2
  ·rcases Decidable.em (p<xp+v) with k3|k3
   ·rw [decide_eq_true ⟨k1,k2,k3⟩]
    have zS:=jj hs<|jj k1<|jj k2<|k3
    refine dF64 ?_
    repeat (intro K hK)
    clear zS
    refine ⟨by simp,?_⟩
    simp [leaves_iff,Try.f111]
    try exact dt
   ·rw [decide_eq_false (fun k=>k3 k.2.2)]
    have zS:=jj hs<|jj k1<|jj k2<|k3
    refine dF64 ?_
    repeat (intro K hK)
    clear zS
    refine ⟨by simp,?_⟩
    simp [leaves_iff,Try.f111]
    try exact dt
  ·rw [decide_eq_false (fun k=>k2 k.2.1)]
   have zS:=jj hs<|jj k1<|k2
   refine dF64 ?_
   repeat (intro K hK)
   clear zS
   refine ⟨by simp,?_⟩
   simp [leaves_iff,Try.f111]
   try exact dt
 ·rw [decide_eq_false (fun k=>k1 k.1)]
  have zS:=jj hs<|k1
  refine dF64 ?_
  repeat (intro K hK)
  clear zS
  refine ⟨by simp,?_⟩
  simp [leaves_iff,Try.f111]
  try exact dt
noncomputable def OvF:List AV→Option AV:=specF (ι:={x:Te×Te // teOK x.1∧teOK x.2}) (fun x=>[TeV x.1.1,TeV x.1.2]) fun x=>retOf [B (ovB x.1.1 x.1.2)]
theorem s101 (X:AX) (hX:XOK Try.prog X) (hw:X.W wT) (hsp:∀ w:Nat,w<2^64→∀ M k,X.call 134 [U w] M k=some (I (spn w),[])):PSound Try.prog 101 OvF:=by
 unfold OvF
 refine psound_spec hX mixed Try.func101 rfl fun ⟨⟨⟨xs,xp,xw⟩,ys,yp,yw⟩,hok,hok2⟩ w0 G=>⟨by show 2≤32;decide,rfl,?_⟩
 show AW ⟨Try.prog,X,32,w0,.pure G⟩ _ _ _
 have hc:Cx.OK ⟨Try.prog,X,32,w0,.pure G⟩:=⟨hX,mixed⟩
 obtain ⟨h1,h2,h3⟩:=hok
 obtain ⟨g1,g2,g3⟩:=hok2
 simp only at h1 h2 h3 g1 g2 g3 ⊢
 have hs:=hsp xw h3
 have hle:=@spn_le xw
 have gs:=hsp yw g3
 have gle:=@spn_le yw
 unfold ovB
 simp only [TeV]
 obtain ⟨v,hv⟩:∃ x,x=spn xw:=⟨_,rfl⟩
 rw [← hv] at hs hle ⊢
 obtain ⟨u,hu⟩:∃ x,x=spn yw:=⟨_,rfl⟩
 rw [← hu] at gs gle ⊢
 simp only [U] at hs gs ⊢
 rcases Decidable.em (xs=ys) with k1|k1
 ·rcases Decidable.em (xp<yp+u) with k2|k2
  ·rcases Decidable.em (yp<xp+v) with k3|k3
   ·rw [decide_eq_true ⟨k1,k2,k3⟩]
    have zS:=jj hs<|jj gs<|jj k1<|jj k2<|k3
    refine dF64 ?_
    repeat (intro K hK)
    clear zS
    refine ⟨by simp,?_⟩
    simp [leaves_iff,Try.f101]
    try exact dt
   ·rw [decide_eq_false (fun k=>k3 k.2.2)]
    have zS:=jj hs<|jj gs<|jj k1<|jj k2<|k3
    refine dF64 ?_
    repeat (intro K hK)
    clear zS
    refine ⟨by simp,?_⟩
    simp [leaves_iff,Try.f101]
    try exact dt
  ·rw [decide_eq_false (fun k=>k2 k.2.1)]
   have zS:=jj hs<|jj gs<|jj k1<|k2
   refine dF64 ?_
   repeat (intro K hK)
   clear zS
   refine ⟨by simp,?_⟩
   simp [leaves_iff,Try.f101]
   try exact dt
 ·rw [decide_eq_false (fun k=>k1 k.1)]
  have zS:=jj hs<|jj gs<|k1
  refine dF64 ?_
  repeat (intro K hK)
  clear zS
  refine ⟨by simp,?_⟩
  simp [leaves_iff,Try.f101]
  try exact dt
def pgW (w:Nat):En×Int:=if (decR w).2≠0 then (zE,(decR w).2) else if (decR w).1.1≠1 then (zE,11) else ((decR w).1,0)
noncomputable def PgF:List AV→Option AV:=specF (ι:={w:Nat // w<2^64}) (fun x=>[U x.1]) fun x=>retOf [EnV (pgW x.1).1,I (pgW x.1).2]
theorem s103 (X:AX) (hX:XOK Try.prog X) (hw:X.W wT) (hde:∀ n:Nat,n<2^64→∀ M k,X.call 30 [U n] M k=some (.tup [EnV (decR n).1,I (decR n).2],[])):PSound Try.prog 103 PgF:=by
 unfold PgF
 refine psound_spec hX mixed Try.func103 rfl fun ⟨w,hw64⟩ w0 G=>⟨by show 1≤20;decide,rfl,?_⟩
 show AW ⟨Try.prog,X,20,w0,.pure G⟩ _ _ _
 have hc:Cx.OK ⟨Try.prog,X,20,w0,.pure G⟩:=⟨hX,mixed⟩
 simp only at hw64 ⊢
 have hd:=hde w hw64
 unfold pgW
 obtain ⟨⟨⟨k,num,b1,b2,b3,hg⟩,er⟩,hx⟩:∃ x,x=decR w:=⟨_,rfl⟩
 rw [← hx] at hd ⊢
 simp only [EnV,U] at hd ⊢
 rcases Decidable.em (er=0) with h1|h1
 ·rcases Decidable.em (k=1) with h2|h2
  ·rw [if_neg (by simp [h1]),if_neg (by simp [h2])]
   have zS:=jj hd<|jj h1<|h2
   refine dM64 ?_
   repeat (intro K hK)
   clear zS
   refine ⟨by simp,?_⟩
   simp [leaves_iff,Try.f103,h1,h2]
   try exact dt
  ·rw [if_neg (by simp [h1]),if_pos h2]
   simp only [zE]
   have zS:=jj hd<|jj h1<|h2
   refine dM64 ?_
   repeat (intro K hK)
   clear zS
   refine ⟨by simp,?_⟩
   simp [leaves_iff,Try.f103,h1,h2]
   try exact dt
 ·rw [if_pos h1]
  simp only [zE]
  have zS:=jj hd<|h1
  refine dM64 ?_
  repeat (intro K hK)
  clear zS
  refine ⟨by simp,?_⟩
  simp [leaves_iff,Try.f103,h1]
  try exact dt
theorem mkW_pg {w:Nat} {wr:Bool}:mkW w wr=if (pgW w).2≠0 then (0,(pgW w).2) else if wr=false then (w ||| 16,0) else if (pgW w).1.2.2.1=false then (0,12) else (w ||| 16 ||| 32,0):=by
 unfold mkW pgW
 by_cases h1:(decR w).2≠0
 ·simp [h1]
 ·rw [if_neg h1,if_neg h1]
  by_cases h2:(decR w).1.1≠1
  ·simp [h2]
  ·simp [h2]
theorem odW_pg {w:Nat}:odW w=if (pgW w).2≠0 then (0,(pgW w).2) else (w &&& (18446744073709551615 - 16),0):=by
 unfold odW pgW
 by_cases h1:(decR w).2≠0
 ·simp [h1]
 ·rw [if_neg h1,if_neg h1]
  by_cases h2:(decR w).1.1≠1
  ·simp [h2]
  ·simp [h2]
end Go.AM
