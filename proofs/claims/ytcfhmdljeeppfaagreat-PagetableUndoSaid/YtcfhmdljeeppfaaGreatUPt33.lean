/- A part of the proof: what functions of the program compute, by abstract execution of their code. Its theorems hold without further condition. -/
import Derived.Test.YtcfhmdljeeppfaaGreatUPt30
import Derived.Test.YtcfhmdljeeppfaaGreatUPtM
import Derived.Shelf.SlSortFuncK.WholeK
import Derived.Test.YtcfhmdljeeppfaaGreatUAmDr
set_option linter.all false
set_option maxHeartbeats 2000000
namespace Go.AM
open Go Go.Proofs
theorem ckd_cases (t:Tb) (n lim:Int):(ckd t n lim≠0)∨(ckd t n lim=0∧chk t=0∧0≤n∧n<lim):=by
 unfold ckd
 by_cases h:chk t=0
 ·rw [if_neg (by simp [h])]
  split
  ·left;decide
  ·right;exact ⟨rfl,h,by omega,by omega⟩
 ·rw [if_pos h];exact .inl h
theorem ckd_z {t:Tb} {n lim:Int} (h:chk t=0) (h1:0≤n) (h2:n<lim):ckd t n lim=0:=by
 unfold ckd
 rw [if_neg (by simp [h]),if_neg (by omega)]
theorem ckd_c {t:Tb} {n lim:Int} (h:chk t≠0):ckd t n lim=chk t:=by unfold ckd;rw [if_pos h]
theorem ckd_r {t:Tb} {n lim:Int} (h:chk t=0) (h1:n<0∨lim≤n):ckd t n lim=2:=by unfold ckd;rw [if_neg (by simp [h]),if_pos h1]
noncomputable def walkT (t:Tb) (n:Int):Nat×Nat×Int:=if ckd t n 512=0 then ((lsT t n.toNat).2.2,(lsT t n.toNat).2.1,0) else (0,0,ckd t n 512)
noncomputable def missT (t:Tb) (n:Int):Nat×Int:=if ckd t n 512=0 then (if (lsT t n.toNat).2.1=1∧(decR (lsT t n.toNat).2.2).1.2.2.2.2.2=true then (0,7) else ((lsT t n.toNat).2.1,0)) else (0,ckd t n 512)
noncomputable def missR (t:Tb) (n:Int):Nat×Int:=if (walkT t n).2.2=0 then (if 0<(walkT t n).2.1∧(walkT t n).1≠0 then (0,7) else ((walkT t n).2.1,0)) else (0,(walkT t n).2.2)
noncomputable def hugeT (t:Tb) (g:Int):Bool:=if ckd t g 64=0 then (decR (lsT t (g.toNat*8)).2.2).1.2.2.2.2.2 else false
noncomputable def hugeR (t:Tb) (g:Int):Bool:=decide (chk t=0∧0≤g∧g<64∧0≤fstG (fun n=>decide (n.1=g)) t.2.2)
theorem walkT_z {t:Tb} {n:Int} (h:ckd t n 512=0):walkT t n=((lsT t n.toNat).2.2,(lsT t n.toNat).2.1,0):=by unfold walkT;rw [if_pos h]
theorem walkT_n {t:Tb} {n:Int} (h:¬ ckd t n 512=0):walkT t n=(0,0,ckd t n 512):=by unfold walkT;rw [if_neg h]
theorem missT_z {t:Tb} {n:Int} (h:ckd t n 512=0):missT t n=if (lsT t n.toNat).2.1=1∧(decR (lsT t n.toNat).2.2).1.2.2.2.2.2=true then (0,7) else ((lsT t n.toNat).2.1,0):=by unfold missT;rw [if_pos h]
theorem missT_n {t:Tb} {n:Int} (h:¬ ckd t n 512=0):missT t n=(0,ckd t n 512):=by unfold missT;rw [if_neg h]
theorem lsT_u64 {t:Tb} (ht:tbOK t) (h:Pv t) {p:Nat} (hp:p<512):(lsT t p).2.2<2^64:=by
 have:=lst_word (ns:=t.2.1) (p:=p) (l:=2) (n:=rtN t)
 show (lst t.2.1 p 2 (rtN t)).2.2<_
 rw [this]
 exact wd_lt ht (lst_lt (fnd_lt h.root)).1
section
variable (X:AX) (hX:XOK Tryz.prog X) (hw:X.W wT) (hck:∀ t:Tb,tbOK t→∀ (n lim:Int) M k,X.call 109 [TbV t,I n,I lim] M k=some (I (ckd t n lim),[]))
 (hla:∀ (t:Tb) (p:Nat),ptO t p→∀ M n,X.call 110 [TbV t,I p] M n=some (stV (lsT t p),[]))
 (hen:∀ w:Nat,w<2^64→∀ M n,X.call 113 [U w] M n=some (EnV (decR w).1,[]))
include hX hw hck hla
theorem s35:PSound Tryz.prog 35 (specF (ι:={x:Tb×Int // tbOK x.1}) (fun x=>[TbV x.1.1,I x.1.2]) fun x=>retOf [U (walkT x.1.1 x.1.2).1,I (walkT x.1.1 x.1.2).2.1,I (walkT x.1.1 x.1.2).2.2]):=by
 refine psound_spec hX mixed Tryz.func35 rfl fun ⟨⟨⟨r,ns,ds⟩,n⟩,ht⟩ w0 G=>⟨by show 2≤22;decide,rfl,?_⟩
 show AW ⟨Tryz.prog,X,22,w0,.pure G⟩ _ _ _
 have hc:Cx.OK ⟨Tryz.prog,X,22,w0,.pure G⟩:=⟨hX,mixed⟩
 have hck':=hck _ ht n 512
 rcases ckd_cases (r,ns,ds) n 512 with h0|⟨h0,h1,h2,h3⟩
 ·have e:=walkT_n h0
  obtain ⟨c,hc0⟩:∃ c,c=ckd (r,ns,ds) n 512:=⟨_,rfl⟩
  rw [← hc0] at hck' e h0
  simp only [TbV,e,U] at hck' ⊢
  have zS:=jj hck'<|h0
  refine dM64 ?_
  repeat (intro K hK)
  clear zS
  refine ⟨by simp,?_⟩
  simp [leaves_iff,Tryz.f35]
  try exact dt
 ·have e:=walkT_z h0
  obtain ⟨p,rfl⟩:∃ p:Nat,n=p:=⟨n.toNat,by omega⟩
  have hp:p<512:=by omega
  have hpto:=(chk_pv ht h1).pto ht hp
  have hla':=hla _ p hpto
  rw [h0] at hck'
  rw [Int.toNat_natCast] at e
  obtain ⟨⟨a,b,c⟩,hS⟩:∃ S,S=lsT (r,ns,ds) p:=⟨_,rfl⟩
  rw [← hS] at hla' e
  simp only [TbV,e,stV,srow,U] at hck' hla' ⊢
  have zS:=jj hck'<|hla'
  refine dM64 ?_
  repeat (intro K hK)
  clear zS
  refine ⟨by simp,?_⟩
  simp [leaves_iff,Tryz.f35]
  try exact dt
include hen
theorem s37:PSound Tryz.prog 37 (specF (ι:={x:Tb×Int // tbOK x.1}) (fun x=>[TbV x.1.1,I x.1.2]) fun x=>retOf [I (missT x.1.1 x.1.2).1,I (missT x.1.1 x.1.2).2]):=by
 refine psound_spec hX mixed Tryz.func37 rfl fun ⟨⟨⟨r,ns,ds⟩,n⟩,ht⟩ w0 G=>⟨by show 2≤28;decide,rfl,?_⟩
 show AW ⟨Tryz.prog,X,28,w0,.pure G⟩ _ _ _
 have hc:Cx.OK ⟨Tryz.prog,X,28,w0,.pure G⟩:=⟨hX,mixed⟩
 have hck':=hck _ ht n 512
 rcases ckd_cases (r,ns,ds) n 512 with h0|⟨h0,h1,h2,h3⟩
 ·have e:=missT_n h0
  obtain ⟨c,hc0⟩:∃ c,c=ckd (r,ns,ds) n 512:=⟨_,rfl⟩
  rw [← hc0] at hck' e h0
  simp only [TbV,e] at hck' ⊢
  have zS:=jj hck'<|h0
  refine dM64 ?_
  repeat (intro K hK)
  clear zS
  refine ⟨by simp,?_⟩
  simp [leaves_iff,Tryz.f37]
  try exact dt
 ·have e:=missT_z h0
  obtain ⟨p,rfl⟩:∃ p:Nat,n=p:=⟨n.toNat,by omega⟩
  have hp:p<512:=by omega
  have hpv:=chk_pv ht h1
  have hpto:=hpv.pto ht hp
  have hla':=hla _ p hpto
  have hen':=hen _ (lsT_u64 ht hpv hp)
  rw [h0] at hck'
  rw [Int.toNat_natCast] at e
  obtain ⟨⟨a,b,c⟩,hS⟩:∃ S,S=lsT (r,ns,ds) p:=⟨_,rfl⟩
  rw [← hS] at hla' e hen'
  obtain ⟨⟨⟨k,f,d,a2,x,h⟩,e2⟩,hE⟩:∃ r,r=decR c:=⟨_,rfl⟩
  simp only [← hE] at hen' e
  simp only [TbV,stV,srow,U,EnV] at hck' hla' hen' ⊢
  rcases Decidable.em (b=1) with hb|hb
  ·subst hb
   cases h with
   | true =>
    simp only [and_self,if_true] at e
    have zS:=jj hck'<|jj hla'<|hen'
    refine dM64 ?_
    repeat (intro K hK)
    clear zS
    refine ⟨by simp,?_⟩
    simp [leaves_iff,Tryz.f37,e]
    try exact dt
   | false =>
    simp only [Bool.false_eq_true,and_false,if_false] at e
    have zS:=jj hck'<|jj hla'<|hen'
    refine dM64 ?_
    repeat (intro K hK)
    clear zS
    refine ⟨by simp,?_⟩
    simp [leaves_iff,Tryz.f37,e]
    try exact dt
  ·rw [if_neg (fun h=>hb h.1)] at e
   have hbI:¬ (b:Int)=1:=by omega
   have zS:=jj hck'<|jj hla'<|jj hen'<|jj hb<|hbI
   refine dM64 ?_
   repeat (intro K hK)
   clear zS
   refine ⟨by simp,?_⟩
   simp [leaves_iff,Tryz.f37,e]
   try exact dt
theorem s41:PSound Tryz.prog 41 (specF (ι:={x:Tb×Int // tbOK x.1}) (fun x=>[TbV x.1.1,I x.1.2]) fun x=>retOf [B (hugeT x.1.1 x.1.2)]):=by
 refine psound_spec hX mixed Tryz.func41 rfl fun ⟨⟨⟨r,ns,ds⟩,n⟩,ht⟩ w0 G=>⟨by show 2≤16;decide,rfl,?_⟩
 show AW ⟨Tryz.prog,X,16,w0,.pure G⟩ _ _ _
 have hc:Cx.OK ⟨Tryz.prog,X,16,w0,.pure G⟩:=⟨hX,mixed⟩
 have hck':=hck _ ht n 64
 rcases ckd_cases (r,ns,ds) n 64 with h0|⟨h0,h1,h2,h3⟩
 ·have e:hugeT (r,ns,ds) n=false:=by unfold hugeT;rw [if_neg h0]
  obtain ⟨c,hc0⟩:∃ c,c=ckd (r,ns,ds) n 64:=⟨_,rfl⟩
  rw [← hc0] at hck' h0
  simp only [TbV,e] at hck' ⊢
  have zS:=jj hck'<|h0
  refine dM64 ?_
  repeat (intro K hK)
  clear zS
  refine ⟨by simp,?_⟩
  simp [leaves_iff,Tryz.f41]
  try exact dt
 ·have e:hugeT (r,ns,ds) n=(decR (lsT (r,ns,ds) (n.toNat*8)).2.2).1.2.2.2.2.2:=by unfold hugeT;rw [if_pos h0]
  obtain ⟨p,rfl⟩:∃ p:Nat,n=p:=⟨n.toNat,by omega⟩
  have hp:p*8<512:=by omega
  have hpv:=chk_pv ht h1
  have hpto:=hpv.pto ht hp
  have hla':=hla _ (p*8) hpto
  have hen':=hen _ (lsT_u64 ht hpv hp)
  rw [h0] at hck'
  rw [Int.toNat_natCast] at e
  rw [show ((p*8:Nat):Int)=(p:Int)*8 by omega] at hla'
  obtain ⟨⟨a,b,c⟩,hS⟩:∃ S,S=lsT (r,ns,ds) (p*8):=⟨_,rfl⟩
  rw [← hS] at hla' e hen'
  obtain ⟨⟨⟨k,f,d,a2,x,h⟩,e2⟩,hE⟩:∃ r,r=decR c:=⟨_,rfl⟩
  simp only [← hE] at hen' e
  simp only [TbV,stV,srow,U,EnV] at hck' hla' hen' ⊢
  have zS:=jj hck'<|jj hla'<|hen'
  refine dM64 ?_
  repeat (intro K hK)
  clear zS
  refine ⟨by simp,?_⟩
  simp [leaves_iff,Tryz.f41,e]
  try exact dt
end
theorem s36 (X:AX) (hX:XOK Tryz.prog X) (hw:X.W wT) (hch:∀ t:Tb,tbOK t→∀ M n,X.call 40 [TbV t] M n=some (I (chk t),[]))
  (hst:∀ (t:Tb) (p:Nat),ptO t p→∀ M n,X.call 111 [TbV t,I p] M n=some (.tup [I (lsT t p).1,I (lsT t p).2.1],[]))
  (hdg:∀ (p l:Nat),p<512→l≤2→∀ M n,X.call 112 [I p,I l] M n=some (I (dig p l),[])) :
  PSound Tryz.prog 36 (specF (ι:={x:Tb×Int // tbOK x.1}) (fun x=>[TbV x.1.1,I x.1.2]) fun x=>retOf [U (walkT x.1.1 x.1.2).1,I (walkT x.1.1 x.1.2).2.1,I (walkT x.1.1 x.1.2).2.2]):=by
 refine psound_spec hX mixed Tryz.func36 rfl fun ⟨⟨⟨r,ns,ds⟩,n⟩,ht⟩ w0 G=>⟨by show 2≤38;decide,rfl,?_⟩
 show AW ⟨Tryz.prog,X,38,w0,.pure G⟩ _ _ _
 have hc:Cx.OK ⟨Tryz.prog,X,38,w0,.pure G⟩:=⟨hX,mixed⟩
 have hch':=hch _ ht
 have hl1:ns.length≤1000000:=ht.2.1
 rcases Decidable.em (chk (r,ns,ds)=0) with hc0|hc0
 ·rcases Decidable.em (n<0) with h1|h1
  ·have e:=walkT_n (t:=(r,ns,ds)) (n:=n) (by rw [ckd_r hc0 (.inl h1)];decide)
   rw [ckd_r hc0 (.inl h1)] at e
   rw [hc0] at hch'
   simp only [TbV,e,U] at hch' ⊢
   have zS:=jj hch'<|h1
   refine dM64 ?_
   repeat (intro K hK)
   clear zS
   refine ⟨by simp,?_⟩
   simp [leaves_iff,Tryz.f36]
   try exact dt
  ·rcases Decidable.em (512≤n) with h2|h2
   ·have e:=walkT_n (t:=(r,ns,ds)) (n:=n) (by rw [ckd_r hc0 (.inr h2)];decide)
    rw [ckd_r hc0 (.inr h2)] at e
    rw [hc0] at hch'
    simp only [TbV,e,U] at hch' ⊢
    have zS:=jj hch'<|jj h1<|h2
    refine dM64 ?_
    repeat (intro K hK)
    clear zS
    refine ⟨by simp,?_⟩
    simp [leaves_iff,Tryz.f36]
    try exact dt
   ·have e:=walkT_z (t:=(r,ns,ds)) (n:=n) (ckd_z hc0 (by omega) (by omega))
    obtain ⟨p,rfl⟩:∃ p:Nat,n=p:=⟨n.toNat,by omega⟩
    have hp:p<512:=by omega
    have hpv:=chk_pv ht hc0
    have hpto:=hpv.pto ht hp
    have hst':=hst _ p hpto
    rw [hc0] at hch'
    rw [Int.toNat_natCast] at e
    have hwo:=lst_word (ns:=ns) (p:=p) (l:=2) (n:=rtN (r,ns,ds))
    rw [show lst ns p 2 (rtN (r,ns,ds))=lsT (r,ns,ds) p from rfl] at hwo
    obtain ⟨hlt1,hlt2⟩:=lsT_lt hpv hp
    obtain ⟨⟨a,b,c⟩,hS⟩:∃ S,S=lsT (r,ns,ds) p:=⟨_,rfl⟩
    rw [← hS] at hst' e hwo hlt1 hlt2
    simp only at hwo hlt1 hlt2 hst' e
    have haN:(a:Int)<(ns.length:Int):=by omega
    have hdg':=hdg p b hp hlt2
    rw [dig_dgt hp hlt2] at hdg'
    have hdl:=dgt_lt p b
    have hgn:=nrows_gi hlt1
    have hgnE:=nrows_gE hlt1
    have h8:(gn ns a).2.length=8:=(ht.1 _ (gn_mem hlt1)).1
    have hw8:=wcs_gi (l:=(gn ns a).2) (i:=dgt p b) (by omega)
    have hwE:=wcs_gE (l:=(gn ns a).2) (i:=dgt p b) (by omega)
    have hwg:(gn ns a).2.getD (dgt p b) 0=c:=hwo.symm
    rw [hwg] at hw8 hwE
    have hwl:(wcs (gn ns a).2).length=8:=by simp [h8]
    obtain ⟨⟨fr,ws⟩,hm⟩:∃ m,m=gn ns a:=⟨_,rfl⟩
    rw [← hm] at hgn hgnE hw8 hwE hwl
    simp only at hgn hgnE hw8 hwE hwl
    obtain ⟨cs,hcs⟩:∃ cs,cs=wcs ws:=⟨_,rfl⟩
    rw [← hcs] at hgn hgnE hw8 hwE hwl
    obtain ⟨dg,hdg0⟩:∃ dg,dg=dgt p b:=⟨_,rfl⟩
    rw [← hdg0] at hdl hw8 hwE hdg'
    have hdI:(dg:Int)<8:=by omega
    clear hcs hm h8 hwg hwo hS
    simp only [TbV,U] at hch' hst' hw8 hwE ⊢
    have zS:=jj hch'<|jj hst'<|jj h1<|jj h2<|jj hdg'<|jj hlt1<|jj haN<|jj hgn<|jj hgnE<|jj hw8<|jj hwE<|jj hwl<|jj hdl<|hdI
    refine dM64 ?_
    repeat (intro K hK)
    clear zS
    refine ⟨by simp,?_⟩
    simp [leaves_iff,Tryz.f36,e]
    try exact dt
 ·have e:=walkT_n (t:=(r,ns,ds)) (n:=n) (by rw [ckd_c hc0];exact hc0)
  rw [ckd_c hc0] at e
  obtain ⟨c,hcc⟩:∃ c,c=chk (r,ns,ds):=⟨_,rfl⟩
  rw [← hcc] at hch' e hc0
  simp only [TbV,e,U] at hch' ⊢
  have zS:=jj hch'<|hc0
  refine dM64 ?_
  repeat (intro K hK)
  clear zS
  refine ⟨by simp,?_⟩
  simp [leaves_iff,Tryz.f36]
  try exact dt
theorem s38 (X:AX) (hX:XOK Tryz.prog X) (hw:X.W wT) (hwk:∀ t:Tb,tbOK t→∀ (n:Int) M k,X.call 36 [TbV t,I n] M k=some (.tup [U (walkT t n).1,I (walkT t n).2.1,I (walkT t n).2.2],[])) :
  PSound Tryz.prog 38 (specF (ι:={x:Tb×Int // tbOK x.1}) (fun x=>[TbV x.1.1,I x.1.2]) fun x=>retOf [I (missR x.1.1 x.1.2).1,I (missR x.1.1 x.1.2).2]):=by
 refine psound_spec hX mixed Tryz.func38 rfl fun ⟨⟨⟨r,ns,ds⟩,n⟩,ht⟩ w0 G=>⟨by show 2≤26;decide,rfl,?_⟩
 show AW ⟨Tryz.prog,X,26,w0,.pure G⟩ _ _ _
 have hc:Cx.OK ⟨Tryz.prog,X,26,w0,.pure G⟩:=⟨hX,mixed⟩
 have hwk':=hwk _ ht n
 have e:missR (r,ns,ds) n=if (walkT (r,ns,ds) n).2.2=0 then (if 0<(walkT (r,ns,ds) n).2.1∧(walkT (r,ns,ds) n).1≠0 then (0,7) else ((walkT (r,ns,ds) n).2.1,0)) else (0,(walkT (r,ns,ds) n).2.2):=rfl
 obtain ⟨⟨w,l,c⟩,hS⟩:∃ S,S=walkT (r,ns,ds) n:=⟨_,rfl⟩
 rw [← hS] at hwk' e
 simp only [TbV,U] at hwk' e ⊢
 rcases Decidable.em (c=0) with h0|h0
 ·subst h0
  rcases Decidable.em (0<l) with h1|h1
  ·have h1I:0<(l:Int):=by omega
   rcases Decidable.em (w=0) with h2|h2
   ·subst h2
    simp at e
    have zS:=jj hwk'<|jj h1<|h1I
    refine dM64 ?_
    repeat (intro K hK)
    clear zS
    refine ⟨by simp,?_⟩
    simp [leaves_iff,Tryz.f38,e]
    try exact dt
   ·have h2I:¬ (w:Int)=0:=by omega
    rw [if_pos rfl,if_pos ⟨h1,h2⟩] at e
    have zS:=jj hwk'<|jj h1<|jj h1I<|jj h2<|h2I
    refine dM64 ?_
    repeat (intro K hK)
    clear zS
    refine ⟨by simp,?_⟩
    simp [leaves_iff,Tryz.f38,e]
    try exact dt
  ·have hl0:l=0:=by omega
   subst hl0
   simp at e
   have zS:=hwk'
   refine dM64 ?_
   repeat (intro K hK)
   clear zS
   refine ⟨by simp,?_⟩
   simp [leaves_iff,Tryz.f38,e]
   try exact dt
 ·rw [if_neg h0] at e
  have zS:=jj hwk'<|h0
  refine dM64 ?_
  repeat (intro K hK)
  clear zS
  refine ⟨by simp,?_⟩
  simp [leaves_iff,Tryz.f38,e]
  try exact dt
theorem s42 (X:AX) (hX:XOK Tryz.prog X) (hw:X.W wT) (hch:∀ t:Tb,tbOK t→∀ M n,X.call 40 [TbV t] M n=some (I (chk t),[])) (hde:∀ (t:Tb) f,tbOK t→∀ M n,X.call 124 [TbV t,I f] M n=some (I (fstG (fun n=>decide (n.1=f)) t.2.2),[])) :
  PSound Tryz.prog 42 (specF (ι:={x:Tb×Int // tbOK x.1}) (fun x=>[TbV x.1.1,I x.1.2]) fun x=>retOf [B (hugeR x.1.1 x.1.2)]):=by
 refine psound_spec hX mixed Tryz.func42 rfl fun ⟨⟨⟨r,ns,ds⟩,g⟩,ht⟩ w0 G=>⟨by show 2≤22;decide,rfl,?_⟩
 show AW ⟨Tryz.prog,X,22,w0,.pure G⟩ _ _ _
 have hc:Cx.OK ⟨Tryz.prog,X,22,w0,.pure G⟩:=⟨hX,mixed⟩
 have hch':=hch _ ht
 have hde':=hde _ g ht
 have e:hugeR (r,ns,ds) g=decide (chk (r,ns,ds)=0∧0≤g∧g<64∧0≤fstG (fun n=>decide (n.1=g)) ds):=rfl
 obtain ⟨c,hcc⟩:∃ c,c=chk (r,ns,ds):=⟨_,rfl⟩
 simp only [TbV] at hde' ⊢
 obtain ⟨q,hq⟩:∃ q,q=fstG (fun n:Dp=>decide (n.1=g)) ds:=⟨_,rfl⟩
 rw [← hq] at hde' e
 rw [← hcc] at hch' e
 simp only [TbV] at hch'
 rcases Decidable.em (c=0) with h0|h0
 ·subst h0
  rcases Decidable.em (0≤g) with h1|h1
  ·rcases Decidable.em (g<64) with h2|h2
   ·rcases Decidable.em (0≤q) with h3|h3
    ·rw [decide_eq_true ⟨rfl,h1,h2,h3⟩] at e
     have zS:=jj hch'<|jj h1<|jj h2<|jj hde'<|h3
     refine dM64 ?_
     repeat (intro K hK)
     clear zS
     refine ⟨by simp,?_⟩
     simp [leaves_iff,Tryz.f42,e]
     try exact dt
    ·rw [decide_eq_false (fun h=>h3 h.2.2.2)] at e
     have zS:=jj hch'<|jj h1<|jj h2<|jj hde'<|h3
     refine dM64 ?_
     repeat (intro K hK)
     clear zS
     refine ⟨by simp,?_⟩
     simp [leaves_iff,Tryz.f42,e]
     try exact dt
   ·rw [decide_eq_false (fun h=>h2 h.2.2.1)] at e
    have zS:=jj hch'<|jj h1<|h2
    refine dM64 ?_
    repeat (intro K hK)
    clear zS
    refine ⟨by simp,?_⟩
    simp [leaves_iff,Tryz.f42,e]
    try exact dt
  ·rw [decide_eq_false (fun h=>h1 h.2.1)] at e
   have zS:=jj hch'<|h1
   refine dM64 ?_
   repeat (intro K hK)
   clear zS
   refine ⟨by simp,?_⟩
   simp [leaves_iff,Tryz.f42,e]
   try exact dt
 ·rw [decide_eq_false (fun h=>h0 h.1)] at e
  have zS:=jj hch'<|h0
  refine dM64 ?_
  repeat (intro K hK)
  clear zS
  refine ⟨by simp,?_⟩
  simp [leaves_iff,Tryz.f42,e]
  try exact dt
end Go.AM
namespace Go.AM
theorem sorted_ext {α:Type} {R:α→α→Prop} (hi:∀ a,¬ R a a) (ht:∀ {a b c},R a b→R b c→R a c):∀ {l m:List α},l.Pairwise R→m.Pairwise R→(∀ x,x∈l↔x∈m)→l=m
 | [],[],_,_,_=>rfl
 | [],y::m,_,_,h=>by have:=(h y).2 (by simp);simp at this
 | x::l,[],_,_,h=>by have:=(h x).1 (by simp);simp at this
 | x::l,y::m,hl,hm,h=>by
  rw [List.pairwise_cons] at hl hm
  have e:x=y:=by
   rcases List.mem_cons.1 ((h x).1 (by simp)) with e|h1
   ·exact e
   ·rcases List.mem_cons.1 ((h y).2 (by simp)) with e|h2
    ·exact e.symm
    ·exact absurd (ht (hl.1 y h2) (hm.1 x h1)) (hi x)
  subst e
  congr 1
  refine sorted_ext hi ht hl.2 hm.2 fun z=>?_
  constructor
  ·intro hz
   rcases List.mem_cons.1 ((h z).1 (by simp [hz])) with e|h1
   ·subst e;exact absurd (hl.1 z hz) (hi z)
   ·exact h1
  ·intro hz
   rcases List.mem_cons.1 ((h z).2 (by simp [hz])) with e|h1
   ·subst e;exact absurd (hm.1 z hz) (hi z)
   ·exact h1
section
variable {β:Type}
def ascK (l:List (Int×β)):Prop:=l.Pairwise fun a b=>a.1<b.1
theorem ascK_ext {l m:List (Int×β)} (hl:ascK l) (hm:ascK m) (h:∀ x,x∈l↔x∈m):l=m :=
 sorted_ext (R:=fun a b:Int×β=>a.1<b.1) (fun a=>Int.lt_irrefl _) (fun h1 h2=>Int.lt_trans h1 h2) hl hm h
def insK:List (Int×β)→Int×β→List (Int×β)
 | [],n=>[n]
 | a::r,n=>if n.1<a.1 then n::a::r else a::insK r n
theorem mem_insK {n x:Int×β}:∀ {l:List (Int×β)},x∈insK l n↔x=n∨x∈l
 | []=>by simp [insK]
 | a::r=>by
  simp only [insK]
  split
  ·simp
  ·simp only [List.mem_cons,mem_insK (l:=r)]
   constructor
   ·rintro (h|h|h)
    ·exact .inr (.inl h)
    ·exact .inl h
    ·exact .inr (.inr h)
   ·rintro (h|h|h)
    ·exact .inr (.inl h)
    ·exact .inl h
    ·exact .inr (.inr h)
theorem insK_len {n:Int×β}:∀ {l:List (Int×β)},(insK l n).length=l.length+1
 | []=>rfl
 | a::r=>by
  simp only [insK]
  split
  ·rfl
  ·simp [insK_len (l:=r)]
theorem insK_asc {n:Int×β}:∀ {l:List (Int×β)},ascK l→(∀ a∈l,a.1≠n.1)→ascK (insK l n)
 | [],_,_=>by simp [insK,ascK]
 | a::r,h,hn=>by
  unfold ascK at h ⊢
  rw [List.pairwise_cons] at h
  simp only [insK]
  split
  ·rename_i hlt
   refine List.pairwise_cons.2 ⟨fun b hb=>?_,List.pairwise_cons.2 h⟩
   rcases List.mem_cons.1 hb with e|hb
   ·rw [e];exact hlt
   ·exact Int.lt_trans hlt (h.1 b hb)
  ·rename_i hlt
   refine List.pairwise_cons.2 ⟨fun b hb=>?_,insK_asc h.2 fun b hb=>hn b (by simp [hb])⟩
   rcases mem_insK.1 hb with e|hb
   ·have:=hn a (by simp);rw [e];omega
   ·exact h.1 b hb
def delK (l:List (Int×β)) (k:Int):List (Int×β):=l.filter fun a=>decide (a.1≠k)
theorem mem_delK {l:List (Int×β)} {k:Int} {x:Int×β}:x∈delK l k↔x∈l∧x.1≠k:=by simp [delK]
theorem delK_asc {l:List (Int×β)} {k:Int} (h:ascK l):ascK (delK l k):=List.Pairwise.filter _ h
theorem insK_of_perm {l m:List (Int×β)} {n:Int×β} (h:ascK l) (hn:∀ a∈l,a.1≠n.1) (hm:m.Pairwise fun a b=>¬ b.1<a.1) (hp:m.Perm (l++[n])):m=insK l n:=by
 have hk:(m.map (·.1)).Nodup:=by
  have h1:((l++[n]).map (·.1)).Nodup:=by
   rw [List.map_append,List.map_singleton]
   refine List.nodup_append.2 ⟨?_,by simp,fun a ha b hb e=>?_⟩
   ·unfold List.Nodup
    rw [List.pairwise_map]
    exact h.imp fun hab e=>by omega
   ·obtain ⟨x,hx,e1⟩:=List.mem_map.1 ha
    simp at hb
    exact hn x hx (by rw [e1,e,hb])
  exact (hp.map _).nodup_iff.2 h1
 have hma:ascK m:=by
  unfold List.Nodup at hk
  rw [List.pairwise_map] at hk
  exact List.Pairwise.imp (fun {a b} (hab:(¬ b.1<a.1)∧a.1≠b.1)=>by omega) (hm.and hk)
 refine ascK_ext hma (insK_asc h hn) fun x=>?_
 rw [hp.mem_iff,mem_insK]
 simp [or_comm]
end
section
variable {ns:NdL}
theorem mem_Mof (ha:ascN ns) {f:Int} {ws:List Nat}:(f,ws)∈ns↔Mof ns f=some ws:=by
 constructor
 ·intro h
  obtain ⟨i,hi,e⟩:=List.getElem_of_mem h
  have h1:=fnd_at ha hi
  rw [List.getD_eq_getElem?_getD,List.getElem?_eq_getElem hi,Option.getD_some,e] at h1
  refine Mof_some.2 ⟨i,h1,?_⟩
  rw [List.getD_eq_getElem?_getD,List.getElem?_eq_getElem hi,Option.getD_some,e]
 ·intro h
  obtain ⟨i,h1,rfl⟩:=Mof_some.1 h
  have hi:=fnd_lt h1
  have h2:=fnd_frame h1
  rw [← h2]
  rw [List.getD_eq_getElem?_getD,List.getElem?_eq_getElem hi,Option.getD_some]
  exact List.getElem_mem hi
theorem Mof_none (ha:ascN ns) {f:Int}:Mof ns f=none↔∀ n∈ns,n.1≠f:=by
 constructor
 ·rintro h ⟨g,ws⟩ hn e
  simp only at e
  subst e
  rw [(mem_Mof ha).1 hn] at h;simp at h
 ·intro h
  cases hm:Mof ns f with
  | none=>rfl
  | some ws=>exact absurd rfl (h _ ((mem_Mof ha).2 hm))
theorem ext_asc {ms:NdL} (ha:ascN ns) (hb:ascN ms) (h:∀ f,Mof ns f=Mof ms f):ns=ms:=by
 refine ascK_ext ha hb fun x=>?_
 obtain ⟨f,ws⟩:=x
 rw [mem_Mof ha,mem_Mof hb,h]
theorem Mof_ins (ha:ascN ns) {f:Int} {ws:List Nat} (hf:∀ n∈ns,n.1≠f):∀ g,Mof (insK ns (f,ws)) g=updM1 (Mof ns) f (some ws) g:=by
 intro g
 have hi:ascN (insK ns (f,ws)):=insK_asc ha hf
 unfold updM1
 split
 ·rename_i e
  subst e
  exact (mem_Mof hi).1 (mem_insK.2 (.inl rfl))
 ·rename_i e
  cases h:Mof ns g with
  | none =>
   refine (Mof_none hi).2 fun n hn=>?_
   rcases mem_insK.1 hn with h1|h1
   ·rw [h1];exact fun h=>e h.symm
   ·exact (Mof_none ha).1 h n h1
  | some us=>exact (mem_Mof hi).1 (mem_insK.2 (.inr ((mem_Mof ha).2 h)))
theorem Mof_del (ha:ascN ns) {f:Int}:∀ g,Mof (delK ns f) g=updM1 (Mof ns) f none g:=by
 intro g
 have hi:ascN (delK ns f):=delK_asc ha
 unfold updM1
 split
 ·rename_i e
  subst e
  exact (Mof_none hi).2 fun n hn=>(mem_delK.1 hn).2
 ·rename_i e
  cases h:Mof ns g with
  | none=>exact (Mof_none hi).2 fun n hn=>(Mof_none ha).1 h n (mem_delK.1 hn).1
  | some us=>exact (mem_Mof hi).1 (mem_delK.2 ⟨(mem_Mof ha).2 h,e⟩)
def setN (ns:NdL) (n i w:Nat):NdL:=ns.set n ((ns.getD n (0,[])).1,(ns.getD n (0,[])).2.set i w)
@[simp] theorem setN_len {n i w:Nat}:(setN ns n i w).length=ns.length:=by simp [setN]
theorem setN_asc (ha:ascN ns) {n i w:Nat} (hn:n<ns.length):ascN (setN ns n i w):=by
 have hk:∀ j (hj:j<(setN ns n i w).length) (hj2:j<ns.length),((setN ns n i w)[j]).1=(ns[j]).1:=fun j hj hj2=>by
  unfold setN at hj ⊢
  rw [List.getElem_set]
  split
  ·rename_i e
   subst e
   simp only
   rw [List.getD_eq_getElem?_getD,List.getElem?_eq_getElem hn];rfl
  ·rfl
 refine List.pairwise_iff_getElem.2 fun a b h1 h2 h3=>?_
 rw [hk a h1 (by simpa using h1),hk b h2 (by simpa using h2)]
 exact List.pairwise_iff_getElem.1 ha a b _ _ h3
theorem Mof_set (ha:ascN ns) {f:Int} {n i w:Nat} (hf:fnd ns f=some n):∀ g,Mof (setN ns n i w) g=updW (Mof ns) f i w g:=by
 intro g
 have hn:=fnd_lt hf
 have hi:ascN (setN ns n i w):=setN_asc ha hn
 have hfr:=fnd_frame hf
 have hmem:∀ x,x∈setN ns n i w↔x=(f,(ns.getD n (0,[])).2.set i w)∨(x∈ns∧x.1≠f):=fun x=>by
  constructor
  ·intro hx
   obtain ⟨j,hj,rfl⟩:=List.getElem_of_mem hx
   unfold setN at hj ⊢
   rw [List.getElem_set]
   split
   ·rw [hfr];exact .inl rfl
   ·rename_i e
    right
    have hj2:j<ns.length:=by simpa using hj
    refine ⟨List.getElem_mem hj2,fun e2=>e ?_⟩
    have h1:=fnd_at ha hj2
    rw [List.getD_eq_getElem?_getD,List.getElem?_eq_getElem hj2,Option.getD_some,e2,hf] at h1
    simpa using h1
  ·rintro (rfl|⟨h1,h2⟩)
   ·have:(setN ns n i w)[n]'(by simpa using hn)=(f,(ns.getD n (0,[])).2.set i w):=by
     unfold setN;rw [List.getElem_set,if_pos rfl,hfr]
    rw [← this];exact List.getElem_mem _
   ·obtain ⟨j,hj,rfl⟩:=List.getElem_of_mem h1
    have hjn:n≠j:=fun e=>h2 (by
     subst e
     rw [List.getD_eq_getElem?_getD,List.getElem?_eq_getElem hj,Option.getD_some] at hfr
     exact hfr)
    have:(setN ns n i w)[j]'(by simpa using hj)=ns[j]:=by
     unfold setN;rw [List.getElem_set,if_neg hjn]
    rw [← this];exact List.getElem_mem _
 unfold updW
 split
 ·rename_i e
  subst e
  have h1:Mof ns g=some (ns.getD n (0,[])).2:=Mof_some.2 ⟨n,hf,rfl⟩
  rw [h1]
  exact (mem_Mof hi).1 ((hmem _).2 (.inl rfl))
 ·rename_i e
  cases h:Mof ns g with
  | none =>
   refine (Mof_none hi).2 fun x hx=>?_
   rcases (hmem x).1 hx with rfl|⟨h1,h2⟩
   ·exact fun h=>e h.symm
   ·exact (Mof_none ha).1 h x h1
  | some us=>exact (mem_Mof hi).1 ((hmem _).2 (.inr ⟨(mem_Mof ha).2 h,e⟩))
theorem fnd_set {n i w:Nat} (hn:n<ns.length) (g:Int):fnd (setN ns n i w) g=fnd ns g:=by
 have:∀ j,((setN ns n i w)[j]?.map fun x:Int×List Nat=>x.1)=ns[j]?.map fun x:Int×List Nat=>x.1:=fun j=>by
  unfold setN
  by_cases e:n=j
  ·subst e
   rw [List.getElem?_set_self hn,List.getElem?_eq_getElem hn]
   simp [List.getD_eq_getElem?_getD,List.getElem?_eq_getElem hn]
  ·rw [List.getElem?_set_ne e]
 have hmap:((setN ns n i w).map fun x:Int×List Nat=>x.1)=ns.map fun x:Int×List Nat=>x.1:=List.ext_getElem? fun j=>by simpa using this j
 have hidx:∀ l:NdL,l.findIdx (fun n=>decide (n.1=g))=(l.map fun x:Int×List Nat=>x.1).findIdx (fun f=>decide (f=g)):=fun l=>by
  rw [List.findIdx_map];rfl
 unfold fnd
 rw [hidx,hidx,hmap,setN_len]
end
end Go.AM
namespace Go.AM
open Go Go.Proofs
theorem nrows_take (l:List Nd) (n:Nat):(nrows l).take n=nrows (l.take n):=by simp [nrows,List.map_take]
theorem nrows_snoc (l:List Nd) (x:Nd):nrows (l++[x])=nrows l++[nrow x]:=by simp [nrows]
theorem take_succ_gn {l:List Nd} {n:Nat} (h:n<l.length):l.take (n+1)=l.take n++[gn l n]:=by
 rw [gn_eq h,List.take_add_one,List.getElem?_eq_getElem h];rfl
end Go.AM
namespace Go.AM
open Go Go.Proofs
noncomputable def FClN:List AV→Option AV:=specF (ι:={l:List Nd // nds8 l∧l.length≤1000000}) (fun x=>[.rd 9 (nrows x.1)]) fun x=>retOf [.ow 9 (nrows x.1)]
noncomputable def FClD:List AV→Option AV:=specF (ι:={l:List Dp // l.length≤1000000}) (fun x=>[.rd 2 (prows x.1)]) fun x=>retOf [.ow 2 (prows x.1)]
theorem FClN_at {l:List Nd} (h:nds8 l) (h2:l.length≤1000000):FClN [.rd 9 (nrows l)]=some (.ow 9 (nrows l)):=by
 refine specF_eq (ι:={l:List Nd // nds8 l∧l.length≤1000000}) (A:=fun x=>[.rd 9 (nrows x.1)]) (R:=fun x=>retOf [.ow 9 (nrows x.1)]) ⟨l,h,h2⟩ fun j e=>?_
 simp only [List.cons.injEq,AV.rd.injEq,true_and,nrows_inj,and_true] at e
 rw [e]
theorem FClD_at {l:List Dp} (h2:l.length≤1000000):FClD [.rd 2 (prows l)]=some (.ow 2 (prows l)):=by
 refine specF_eq (ι:={l:List Dp // l.length≤1000000}) (A:=fun x=>[.rd 2 (prows x.1)]) (R:=fun x=>retOf [.ow 2 (prows x.1)]) ⟨l,h2⟩ fun j e=>?_
 simp only [List.cons.injEq,AV.rd.injEq,true_and,prows_inj,and_true] at e
 rw [e]
theorem s104 (X:AX) (hX:XOK Tryz.prog X) (hw:X.W wT):PSound Tryz.prog 104 (specF (ι:={x:Tb // tbOK x}) (fun x=>[TbV x.1]) fun x=>retOf [.agg [I x.1.1,.ow 9 (nrows x.1.2.1),.ow 2 (prows x.1.2.2)]]):=by
 refine psound_spec hX mixed Tryz.func104 rfl fun ⟨⟨r,ns,ds⟩,ht⟩ w0 G=>⟨by show 1≤20;decide,rfl,?_⟩
 show AW ⟨Tryz.prog,X,20,w0,.pure G⟩ _ _ _
 have hc:Cx.OK ⟨Tryz.prog,X,20,w0,.pure G⟩:=⟨hX,mixed⟩
 have hl1:ns.length≤1000000:=ht.2.1
 have hl2:ds.length≤1000000:=ht.2.2
 simp only [TbV]
 have tkn:List.take ns.length (nrows ns)=nrows ns:=List.take_of_length_le (by simp)
 have tkd:List.take ds.length (prows ds)=prows ds:=List.take_of_length_le (by simp)
 refine dM64o ?_
 repeat (intro K hK)
 refine ⟨by simp,?_⟩
 simp [leaves_iff,Tryz.f104,tkn,tkd]
 try exact dt
theorem s128 (X:AX) (hX:XOK Tryz.prog X) (hw:X.W wT) (h1:X.call 184=callC FClN) (h2:X.call 185=callC FClD):PSound Tryz.prog 128 (specF (ι:={x:Tb // tbOK x}) (fun x=>[TbV x.1]) fun x=>retOf [.agg [I x.1.1,.ow 9 (nrows x.1.2.1),.ow 2 (prows x.1.2.2)]]):=by
 refine psound_spec hX mixed Tryz.func128 rfl fun ⟨⟨r,ns,ds⟩,ht⟩ w0 G=>⟨by show 1≤12;decide,rfl,?_⟩
 show AW ⟨Tryz.prog,X,12,w0,.pure G⟩ _ _ _
 have hc:Cx.OK ⟨Tryz.prog,X,12,w0,.pure G⟩:=⟨hX,mixed⟩
 have hl1:ns.length≤1000000:=ht.2.1
 have hl2:ds.length≤1000000:=ht.2.2
 simp only [TbV]
 have e1:=FClN_at (nds8_of ht) hl1
 have e2:=FClD_at hl2
 simp only at e1 e2
 have tkn:List.take ns.length (nrows ns)=nrows ns:=List.take_of_length_le (by simp)
 have tkd:List.take ds.length (prows ds)=prows ds:=List.take_of_length_le (by simp)
 have zS:=jj h1<|jj h2<|jj e1<|e2
 refine dM64 ?_
 repeat (intro K hK)
 clear zS
 refine ⟨by simp,?_⟩
 simp [leaves_iff,Tryz.f128,tkn,tkd]
 try exact dt
theorem s184 (X:AX) (hX:XOK Tryz.prog X) (hw:X.W wT):PSound Tryz.prog 184 FClN:=by
 unfold FClN
 refine psound_spec hX mixed Tryz.func184 rfl fun ⟨ns,h8,hl⟩ w0 G=>⟨by show 1≤8;decide,rfl,?_⟩
 show AW ⟨Tryz.prog,X,8,w0,.pure G⟩ _ _ _
 have hc:Cx.OK ⟨Tryz.prog,X,8,w0,.pure G⟩:=⟨hX,mixed⟩
 simp only at h8 hl ⊢
 have tkn:List.take ns.length (nrows ns)=nrows ns:=List.take_of_length_le (by simp)
 cases ns with
 | nil =>
  refine aw_cases_nil 0 9 (by simp [nrows,enterS]) ?_ fun p n=>?_
  ·refine dM64o ?_
   repeat (intro K hK)
   refine ⟨by simp,?_⟩
   simp [leaves_iff,Tryz.f184,nrows]
   try exact dt
  ·refine dM64o ?_
   repeat (intro K hK)
   refine ⟨by simp,?_⟩
   simp [leaves_iff,Tryz.f184,nrows]
   try exact dt
 | cons x ns =>
  have hl':ns.length+1≤1000000:=by simpa using hl
  obtain ⟨e,he⟩:∃ e,e=nrow x:=⟨_,rfl⟩
  obtain ⟨T,hT⟩:∃ T,T=nrows ns:=⟨_,rfl⟩
  have hc2:nrows (x::ns)=e::T:=by rw [he,hT];rfl
  have hTl:T.length=ns.length:=by rw [hT];simp
  have tk:List.take T.length T=T:=List.take_of_length_le (Nat.le_refl _)
  rw [hc2]
  clear he hT tkn
  have zS:=tk
  refine dM64 ?_
  repeat (intro K hK)
  clear zS
  refine ⟨by simp,?_⟩
  simp [leaves_iff,Tryz.f184,tk]
  try exact dt
theorem s185 (X:AX) (hX:XOK Tryz.prog X) (hw:X.W wT):PSound Tryz.prog 185 FClD:=by
 unfold FClD
 refine psound_spec hX mixed Tryz.func185 rfl fun ⟨ds,hl⟩ w0 G=>⟨by show 1≤8;decide,rfl,?_⟩
 show AW ⟨Tryz.prog,X,8,w0,.pure G⟩ _ _ _
 have hc:Cx.OK ⟨Tryz.prog,X,8,w0,.pure G⟩:=⟨hX,mixed⟩
 simp only at hl ⊢
 cases ds with
 | nil =>
  refine aw_cases_nil 0 2 (by simp [prows,enterS]) ?_ fun p n=>?_
  ·refine dM64o ?_
   repeat (intro K hK)
   refine ⟨by simp,?_⟩
   simp [leaves_iff,Tryz.f185,prows]
   try exact dt
  ·refine dM64o ?_
   repeat (intro K hK)
   refine ⟨by simp,?_⟩
   simp [leaves_iff,Tryz.f185,prows]
   try exact dt
 | cons x ds =>
  have hl':ds.length+1≤1000000:=by simpa using hl
  obtain ⟨e,he⟩:∃ e,e=[I x.1,I x.2]:=⟨_,rfl⟩
  obtain ⟨T,hT⟩:∃ T,T=prows ds:=⟨_,rfl⟩
  have hc2:prows (x::ds)=e::T:=by rw [he,hT];rfl
  have hTl:T.length=ds.length:=by rw [hT];simp
  have tk:List.take T.length T=T:=List.take_of_length_le (Nat.le_refl _)
  rw [hc2]
  clear he hT
  have zS:=tk
  refine dM64 ?_
  repeat (intro K hK)
  clear zS
  refine ⟨by simp,?_⟩
  simp [leaves_iff,Tryz.f185,tk]
  try exact dt
noncomputable def newT (r:Int):Tb×Int:=if 0≤r∧r≤4294967295 then ((r,[(r,zs8)],[]),0) else ((0,[],[]),2)
def TbO (t:Tb):AV:=.agg [I t.1,.ow 9 (nrows t.2.1),.ow 2 (prows t.2.2)]
theorem s49 (X:AX) (hX:XOK Tryz.prog X) (hw:X.W wT) (hfr:∀ x M n,X.call 126 [I x] M n=some (B (decide (0≤x∧x≤4294967295)),[])):PSound Tryz.prog 49 (specF (ι:=Int) (fun x=>[I x]) fun x=>retOf [TbO (newT x).1,I (newT x).2]):=by
 refine psound_spec hX mixed Tryz.func49 rfl fun r w0 G=>⟨by show 1≤13;decide,rfl,?_⟩
 show AW ⟨Tryz.prog,X,13,w0,.pure G⟩ _ _ _
 have hc:Cx.OK ⟨Tryz.prog,X,13,w0,.pure G⟩:=⟨hX,mixed⟩
 have hfr':=hfr r
 unfold newT TbO
 rcases Decidable.em (0≤r∧r≤4294967295) with h1|h1
 ·rw [decide_eq_true h1] at hfr'
  rw [if_pos h1]
  have zS:=hfr'
  refine dM64 ?_
  repeat (intro K hK)
  clear zS
  refine ⟨by simp,?_⟩
  simp [leaves_iff,Tryz.f49,nrows,nrow,wcs,prows,zs8,U]
  try exact dt
 ·rw [decide_eq_false h1] at hfr'
  rw [if_neg h1]
  have zS:=hfr'
  refine dM64 ?_
  repeat (intro K hK)
  clear zS
  refine ⟨by simp,?_⟩
  simp [leaves_iff,Tryz.f49,nrows,nrow,wcs,prows,zs8,U]
  try exact dt
theorem s50 (X:AX) (hX:XOK Tryz.prog X) (hw:X.W wT):PSound Tryz.prog 50 (specF (ι:=Int) (fun x=>[I x]) fun x=>retOf [TbO (newT x).1,I (newT x).2]):=by
 refine psound_spec hX mixed Tryz.func50 rfl fun r w0 G=>⟨by show 1≤16;decide,rfl,?_⟩
 show AW ⟨Tryz.prog,X,16,w0,.pure G⟩ _ _ _
 have hc:Cx.OK ⟨Tryz.prog,X,16,w0,.pure G⟩:=⟨hX,mixed⟩
 unfold newT TbO
 rcases Decidable.em (r<0) with h1|h1
 ·rw [if_neg (by omega)]
  have zS:=h1
  refine dM64 ?_
  repeat (intro K hK)
  clear zS
  refine ⟨by simp,?_⟩
  simp [leaves_iff,Tryz.f50,nrows,nrow,wcs,prows,zs8,U]
  try exact dt
 ·rcases Decidable.em (4294967295<r) with h2|h2
  ·rw [if_neg (by omega)]
   have zS:=jj h1<|h2
   refine dM64 ?_
   repeat (intro K hK)
   clear zS
   refine ⟨by simp,?_⟩
   simp [leaves_iff,Tryz.f50,nrows,nrow,wcs,prows,zs8,U]
   try exact dt
  ·rw [if_pos (by omega)]
   have zS:=jj h1<|h2
   refine dM64 ?_
   repeat (intro K hK)
   clear zS
   refine ⟨by simp,?_⟩
   simp [leaves_iff,Tryz.f50,nrows,nrow,wcs,prows,zs8,U]
   try exact dt
end Go.AM
namespace Go.AM
open Go Go.Proofs
theorem prows_append (a b:List Dp):prows a++prows b=prows (a++b):=by simp [prows]
theorem prows_drop (l:List Dp) (n:Nat):(prows l).drop n=prows (l.drop n):=by simp [prows,List.map_drop]
theorem prow_flat {l:List Dp}:(AV.ow 2 (prows l)).flat:=by
 simp only [AV.flat,AV.flatV,AV.flat1]
 intro e he a ha
 obtain ⟨x,_,rfl⟩:=List.mem_map.1 he
 simp at ha
 rcases ha with rfl|rfl<;>trivial
theorem xOvl:ExtOK Tryz.prog 218 ovlF :=
 ovl_ok (tR:=4) Tryz.func218 (by kernel_rfl) (by kernel_rfl) (by kernel_rfl) (by kernel_rfl) tyDs rfl tyD
def two2 (_:Nat):Nat:=2
theorem prows_replicate (n:Nat):List.replicate n [AV.v (.int .i64 0),AV.v (.int .i64 0)]=prows (List.replicate n (0,0)):=by simp [prows,I]
theorem nrows_replicate (n:Nat):List.replicate n [AV.v (.int .i64 0),AV.v (.int .u64 0),AV.v (.int .u64 0),AV.v (.int .u64 0),AV.v (.int .u64 0),AV.v (.int .u64 0),AV.v (.int .u64 0),AV.v (.int .u64 0),AV.v (.int .u64 0)]=nrows (List.replicate n (0,zs8)):=by
 simp only [nrows,List.map_replicate];rfl
theorem nrows_append (a b:List Nd):nrows a++nrows b=nrows (a++b):=by simp [nrows]
theorem ins_shift {α:Type} {L P S A:List α} {x:α} {i n:Nat} (hL:L=P++S) (hi:P.length=i) (hn:L.length=n) (h1:1≤A.length) (hS:i<n) :
  P++x::S=List.take (n+1) (List.take i (List.take (i+1) (L++A)++(List.take (n - i) (List.take (n+1 - i) (List.drop i (L++A)))++List.drop (i+1+(n - i)) (L++A))) ++
   (List.take 1 [x]++List.drop (i+1) (List.take (i+1) (L++A)++(List.take (n - i) (List.take (n+1 - i) (List.drop i (L++A)))++List.drop (i+1+(n - i)) (L++A))))):=by
 subst hL hi
 obtain ⟨s,S,rfl⟩:∃ s S',S=s::S':=by cases S with|nil=>simp at hn;omega|cons a b=>exact ⟨a,b,rfl⟩
 obtain ⟨a,A,rfl⟩:∃ s S',A=s::S':=by cases A with|nil=>simp at h1|cons a b=>exact ⟨a,b,rfl⟩
 subst hn
 rw [List.length_append]
 have e1:List.take (P.length+1) (P++s::S++a::A)=P++[s]:=by simp [List.take_append,List.take_of_length_le]
 have e2:List.drop P.length (P++s::S++a::A)=s::S++a::A:=by simp
 have e3:P.length+(s::S).length - P.length=(s::S).length:=by omega
 have e4:P.length+(s::S).length+1 - P.length=(s::S).length+1:=by omega
 have e5:List.take (s::S).length (List.take ((s::S).length+1) (s::S++a::A))=s::S:=by rw [List.take_take,Nat.min_eq_left (by omega)];simp
 have e6:List.drop (P.length+1+(s::S).length) (P++s::S++a::A)=A:=by
  rw [show P.length+1+(s::S).length=(P++s::S).length+1 by simp;omega,← List.drop_drop,List.drop_left];simp
 rw [e1,e2,e3,e4,e5,e6]
 have e7:List.take P.length (P++[s]++(s::S++A))=P:=by simp
 have e8:List.drop (P.length+1) (P++[s]++(s::S++A))=s::S++A:=by
  rw [show P.length+1=(P++[s]).length by simp,List.drop_left]
 rw [e7,e8]
 have e9:P++([x].take 1++(s::S++A))=(P++x::s::S)++A:=by simp
 rw [e9,show P.length+(s::S).length+1=(P++x::s::S).length by simp;omega,List.take_left]
theorem ins_grow {α:Type} {L P S Z D:List α} {x:α} {i n:Nat} (hL:L=P++S) (hi:P.length=i) (hn:L.length=n) :
  P++x::S=List.take (n+1) (List.take (i+1) (List.take i (List.take i (L++[])++Z)++(List.take 1 [x]++List.drop (i+1) (List.take i (L++[])++Z)))++(List.take (n - i) (List.take (n - i) (List.drop i (L++[])))++D)):=by
 subst hL hi hn
 rw [List.length_append]
 have e0:List.take P.length (P++S++[])=P:=by simp
 have e1:List.take P.length (P++Z)=P:=by simp
 have e2:List.take (P.length+1) (P++(List.take 1 [x]++List.drop (P.length+1) (P++Z)))=P++[x]:=by simp [List.take_append,List.take_of_length_le]
 have e4:List.take (P.length+S.length - P.length) (List.take (P.length+S.length - P.length) (List.drop P.length (P++S++[])))=S:=by
  rw [show P.length+S.length - P.length=S.length by omega];simp
 rw [e0,e1,e2,e4]
 have e3:P++[x]++(S++D)=(P++x::S)++D:=by simp
 rw [e3,show P.length+S.length+1=(P++x::S).length by simp;omega,List.take_left]
theorem s190 (X:AX) (hX:XOK Tryz.prog X) (h42:X.call 218=ovlF):MSound Tryz.prog 190 (specM (ι:={x:List Dp×Nat×Dp // x.2.1≤x.1.length∧x.1.length≤1000000}) (fun x=>.ow 2 (prows x.1.1)) (fun x=>[I x.1.2.1,.rd 2 (prows [x.1.2.2])]) (fun x=>retOf [.ow 2 (prows (x.1.1.take x.1.2.1++x.1.2.2::x.1.1.drop x.1.2.1))]) fun _=>.any):=by
 refine msound_cap_spec Tryz.func190 rfl X fun ⟨⟨l,i,x⟩,hi,hl⟩ w0 bl E m=>⟨by show 3≤95;decide,rfl,?_⟩
 simp only at hi hl
 show AW ⟨Tryz.prog,X,95,w0,⟨bl,E,1⟩⟩ _ _ _
 have hc:Cx.OK ⟨Tryz.prog,X,95,w0,⟨bl,E,1⟩⟩:=⟨hX,mixed⟩
 have hm:m=0∨1≤m:=by omega
 have hP:prows l=prows (l.take i)++prows (l.drop i):=by rw [prows_append,List.take_append_drop]
 have hR:prows (l.take i++x::l.drop i)=prows (l.take i)++[I x.1,I x.2]::prows (l.drop i):=by simp [prows]
 have hPl:(prows (l.take i)).length=i:=by simp;omega
 rcases hm with rfl|hm
 ·repeat' (first|(apply aw_seq_k;intro K hK)|(refine aw_run hc (by first|exact aw_nod|(intro _;rw [ordB_w hw];kernel_rfl)|(intro _;rw [ordB_w0 hw0];kernel_rfl)|(intro _;kernel_rfl)) ?_;simp (disch:=first|omega|assumption|(simp;done)|fail) [if_pos,if_neg,List.zipIdx,Int.ofNat_inj,h42,ovlF,wrap64];try (repeat' (refine guardQ_split (fun h=>?_) (fun h=>?_)<;>simp at h<;>simp (disch:=first|omega|assumption|(simp;done)|fail) [if_pos,if_neg,List.zipIdx,Int.ofNat_inj,h42,ovlF,wrap64])))|(refine aw_cond (b:=_) (by exact rfl) (fun h=>?_) (fun h=>?_)<;>(try simp at h))|(refine aw_block ?_)|(refine aw_skip ?_;simp only [thenQ,blockQ,if_true])|(refine aw_exit ?_;simp [thenQ,blockQ])|(refine aw_ret ?_;simp only [thenQ,blockQ])|(refine hK _ ?_;clear hK)|(clear hK;refine hK _ ?_;clear hK)|(clear hK;clear hK;refine hK _ ?_;clear hK)|(clear hK;clear hK;clear hK;refine hK _ ?_;clear hK))
  all_goals first|(exfalso;omega)|skip
  all_goals (refine ⟨by simp,leavesM_any ?_⟩;simp (disch:=first|omega|assumption|(simp;done)|fail) [if_pos,if_neg,leaves_iff,Tryz.f190])
  ·subst h
   rw [prows_append]
   simp [List.take_of_length_le]
  ·rw [hR]
   exact ins_grow hP hPl (prows_length l)
 ·repeat' (first|(apply aw_seq_k;intro K hK)|(refine aw_run hc (by first|exact aw_nod|(intro _;rw [ordB_w hw];kernel_rfl)|(intro _;rw [ordB_w0 hw0];kernel_rfl)|(intro _;kernel_rfl)) ?_;simp (disch:=first|omega|assumption|(simp;done)|fail) [if_pos,if_neg,List.zipIdx,Int.ofNat_inj,h42,ovlF,wrap64];try (repeat' (refine guardQ_split (fun h=>?_) (fun h=>?_)<;>simp at h<;>simp (disch:=first|omega|assumption|(simp;done)|fail) [if_pos,if_neg,List.zipIdx,Int.ofNat_inj,h42,ovlF,wrap64])))|(refine aw_cond (b:=_) (by exact rfl) (fun h=>?_) (fun h=>?_)<;>(try simp at h))|(refine aw_block ?_)|(refine aw_skip ?_;simp only [thenQ,blockQ,if_true])|(refine aw_exit ?_;simp [thenQ,blockQ])|(refine aw_ret ?_;simp only [thenQ,blockQ])|(refine hK _ ?_;clear hK)|(clear hK;refine hK _ ?_;clear hK)|(clear hK;clear hK;refine hK _ ?_;clear hK)|(clear hK;clear hK;clear hK;refine hK _ ?_;clear hK))
  all_goals first|(exfalso;omega)|skip
  all_goals (refine ⟨by simp,leavesM_any ?_⟩;simp (disch:=first|omega|assumption|(simp;done)|fail) [if_pos,if_neg,leaves_iff,Tryz.f190])
  ·subst h
   rw [← List.append_assoc,prows_append,List.take_append_of_le_length (by simp),List.take_of_length_le (by simp)]
   simp [List.take_of_length_le]
  ·rw [hR]
   exact ins_shift hP hPl (prows_length l) (by simpa using hm) (by omega)
theorem s192 (X:AX) (hX:XOK Tryz.prog X) (hw:X.W wT):MSound Tryz.prog 192 (specM (ι:={x:List Dp×Nat×Nat // x.2.1≤x.2.2∧x.2.2≤x.1.length∧x.1.length≤1000000}) (fun x=>.ow 2 (prows x.1.1)) (fun x=>[I x.1.2.1,I x.1.2.2]) (fun x=>retOf [.ow 2 (prows (x.1.1.take x.1.2.1++x.1.1.drop x.1.2.2))]) fun _=>.any):=by
 refine msound_spec Tryz.func192 rfl X fun ⟨⟨l,i,j⟩,hij,hj,hl⟩ w0 bl E=>⟨by show 3≤33;decide,rfl,?_⟩
 simp only at hij hj hl
 show AW ⟨Tryz.prog,X,33,w0,⟨bl,E,1⟩⟩ _ _ _
 have hc:Cx.OK ⟨Tryz.prog,X,33,w0,⟨bl,E,1⟩⟩:=⟨hX,mixed⟩
 repeat' (first|(apply aw_seq_k;intro K hK)|(refine aw_run hc (by first|exact aw_nod|(intro _;rw [ordB_w hw];kernel_rfl)|(intro _;rw [ordB_w0 hw0];kernel_rfl)|(intro _;kernel_rfl)) ?_;simp (disch:=first|omega|assumption|(simp;done)|fail) [if_pos,if_neg,List.zipIdx,Int.ofNat_inj];try (repeat' (refine guardQ_split (fun h=>?_) (fun h=>?_)<;>simp at h<;>simp (disch:=first|omega|assumption|(simp;done)|fail) [if_pos,if_neg,List.zipIdx,Int.ofNat_inj])))|(refine aw_cond (b:=_) (by exact rfl) (fun h=>?_) (fun h=>?_)<;>(try simp at h))|(refine aw_block ?_)|(refine aw_skip ?_;simp only [thenQ,blockQ,if_true])|(refine aw_exit ?_;simp [thenQ,blockQ])|(refine aw_ret ?_;simp only [thenQ,blockQ])|(refine hK _ ?_;clear hK)|(clear hK;refine hK _ ?_;clear hK)|(clear hK;clear hK;refine hK _ ?_;clear hK)|(clear hK;clear hK;clear hK;refine hK _ ?_;clear hK))
 ·refine ⟨by simp,leavesM_any ?_⟩
  simp (disch:=first|omega|assumption|(simp;done)|fail) [if_pos,if_neg,leaves_iff,Tryz.f192]
  subst h
  simp [List.take_of_length_le]
 ·refine ⟨by simp,leavesM_any ?_⟩
  simp (disch:=first|omega|assumption|(simp;done)|fail) [if_pos,if_neg,leaves_iff,Tryz.f192,prows_take,prows_drop,prows_append,prows_replicate]
  have e1:l.take i++((l.drop j).take (l.length - j)++l.drop (i+(l.length - j)))=(l.take i++l.drop j)++l.drop (i+(l.length - j)):=by
   rw [List.take_of_length_le (l:=l.drop j) (by simp),List.append_assoc]
  have e2:(l.take i++l.drop j).length=i+(l.length - j):=by simp;omega
  have key:∀ (A B C:List Dp) n,A.length=n→A=((A++B).take n++C).take n:=by
   intro A B C n h
   subst h
   simp
  rw [e1]
  exact congrArg prows (key _ _ _ _ e2)
noncomputable def FInsD:AV→List AV→Option (AV×AV):=specM (ι:={x:List Dp×Nat×Dp // x.2.1≤x.1.length∧x.1.length≤1000000}) (fun x=>.ow 2 (prows x.1.1)) (fun x=>[I x.1.2.1,.rd 2 (prows [x.1.2.2])]) (fun x=>retOf [.ow 2 (prows (x.1.1.take x.1.2.1++x.1.2.2::x.1.1.drop x.1.2.1))]) fun _=>.any
theorem FInsD_at (l:List Dp) (i:Nat) (a b:Int) (h:i≤l.length∧l.length≤1000000):FInsD (.ow 2 (prows l)) [I i,.rd 2 [[I a,I b]]]=some (.ow 2 (prows (l.take i++(a,b)::l.drop i)),.any) :=
 specM_eq (A0:=fun x:{x:List Dp×Nat×Dp // x.2.1≤x.1.length∧x.1.length≤1000000}=>AV.ow 2 (prows x.1.1)) (A:=fun x=>[I x.1.2.1,.rd 2 (prows [x.1.2.2])]) (R:=fun x=>retOf [.ow 2 (prows (x.1.1.take x.1.2.1++x.1.2.2::x.1.1.drop x.1.2.1))]) (O:=fun _=>.any) ⟨(l,i,(a,b)),h⟩ (by
  rintro ⟨⟨l',i',x'⟩,h1,h2⟩ e1 e2
  simp only [AV.ow.injEq,prows_inj,true_and] at e1
  simp only [List.cons.injEq,AV.v.injEq,Value.int.injEq,true_and,AV.rd.injEq,prows_inj,and_true,Int.ofNat_inj] at e2
  obtain ⟨rfl,rfl⟩:=e2
  subst e1
  exact ⟨rfl,rfl⟩)
noncomputable def FDelD:AV→List AV→Option (AV×AV):=specM (ι:={x:List Dp×Nat×Nat // x.2.1≤x.2.2∧x.2.2≤x.1.length∧x.1.length≤1000000}) (fun x=>.ow 2 (prows x.1.1)) (fun x=>[I x.1.2.1,I x.1.2.2]) (fun x=>retOf [.ow 2 (prows (x.1.1.take x.1.2.1++x.1.1.drop x.1.2.2))]) fun _=>.any
theorem FDelD_at (l:List Dp) (i j:Nat) (h:i≤j∧j≤l.length∧l.length≤1000000):FDelD (.ow 2 (prows l)) [I i,I j]=some (.ow 2 (prows (l.take i++l.drop j)),.any) :=
 specM_eq (A0:=fun x:{x:List Dp×Nat×Nat // x.2.1≤x.2.2∧x.2.2≤x.1.length∧x.1.length≤1000000}=>AV.ow 2 (prows x.1.1)) (A:=fun x=>[I x.1.2.1,I x.1.2.2]) (R:=fun x=>retOf [.ow 2 (prows (x.1.1.take x.1.2.1++x.1.1.drop x.1.2.2))]) (O:=fun _=>.any) ⟨(l,i,j),h⟩ (by
  rintro ⟨⟨l',i',j'⟩,h1,h2⟩ e1 e2
  simp only [AV.ow.injEq,prows_inj,true_and] at e1
  simp only [List.cons.injEq,AV.v.injEq,Value.int.injEq,true_and,and_true,Int.ofNat_inj] at e2
  obtain ⟨rfl,rfl⟩:=e2
  subst e1
  exact ⟨rfl,rfl⟩)
theorem FInsD_flat {a0:AV} {avs:List AV} {r o:AV} (h:FInsD a0 avs=some (r,o)):r.flat∧o.flatO:=by
 obtain ⟨i,_,_,h3,h4⟩:=specM_some h
 subst h3 h4
 exact ⟨prow_flat,trivial⟩
theorem FDelD_flat {a0:AV} {avs:List AV} {r o:AV} (h:FDelD a0 avs=some (r,o)):r.flat∧o.flatO:=by
 obtain ⟨i,_,_,h3,h4⟩:=specM_some h
 subst h3 h4
 exact ⟨prow_flat,trivial⟩
end Go.AM
set_option maxHeartbeats 4000000
namespace Go.AM
open Go Go.Proofs
@[simp] theorem tyPtab:Types Tryz.prog 186=some ⟨.pointer 63,1,8,[.pointer none]⟩:=by kernel_rfl
def scM (t:Tb) (g:Int):List AO:=[.box [.bp 1 0],.box [I t.1,.sl 2 1 9 0 t.2.1.length,.sl 3 1 2 0 t.2.2.length],.vec 1 9 false (nrows t.2.1),.vec 1 2 false (prows t.2.2),.box [I g]]
theorem scM_inj {t t':Tb} {g g':Int} (h:scM t g=scM t' g'):t=t'∧g=g':=by
 obtain ⟨r,ns,ds⟩:=t
 obtain ⟨r',ns',ds'⟩:=t'
 simp only [scM,List.cons.injEq,AO.box.injEq,I,AV.v.injEq,Value.int.injEq,true_and,AO.vec.injEq,nrows_inj,prows_inj,and_true] at h
 obtain ⟨⟨h1,_⟩,h2,h3,h4⟩:=h
 exact ⟨by rw [h1,h2,h3],h4⟩
abbrev ScD:=Tb×Int×Nat
noncomputable def clS:List AV→List AO→Option (AV×List AO):=specG (ι:={x:ScD // tbOK x.1∧x.2.2<x.1.2.2.length}) (fun x=>[I x.1.2.2,.bp 0 0,.bp 4 0]) (fun x=>scM x.1.1 x.1.2.1) (fun x=>retOf [B (decide (x.1.2.1≤(gp x.1.1.2.2 x.1.2.2).1))]) fun x=>scM x.1.1 x.1.2.1
theorem clS_at {t:Tb} {g:Int} {i:Nat} (ht:tbOK t) (hi:i<t.2.2.length):clS [I i,.bp 0 0,.bp 4 0] (scM t g)=some (B (decide (g≤(gp t.2.2 i).1)),scM t g):=by
 refine specG_eq (ι:={x:ScD // tbOK x.1∧x.2.2<x.1.2.2.length}) (A:=fun x=>[I x.1.2.2,.bp 0 0,.bp 4 0]) (M:=fun x=>scM x.1.1 x.1.2.1) (R:=fun x=>retOf [B (decide (x.1.2.1≤(gp x.1.1.2.2 x.1.2.2).1))]) (O:=fun x=>scM x.1.1 x.1.2.1) ⟨(t,g,i),ht,hi⟩ fun j hA hM=>?_
 obtain ⟨⟨t',g',i'⟩,h'⟩:=j
 obtain ⟨rfl,rfl⟩:=scM_inj hM
 simp only [List.cons.injEq,I,AV.v.injEq,Value.int.injEq,true_and,and_true] at hA
 have:i'=i:=by omega
 subst this
 exact ⟨rfl,rfl⟩
theorem s189 (X:AX) (hX:XOK Tryz.prog X) (hw:X.W wT):GSound Tryz.prog 189 clS:=by
 unfold clS
 refine gsound_spec Tryz.func189 rfl X fun ⟨⟨⟨r,ns,ds⟩,g,i⟩,ht,hi⟩ w0 L E=>⟨by show 3≤15;decide,?_⟩
 have hi:i<ds.length:=hi
 have hl2:ds.length≤1000000:=ht.2.2
 simp only [scM]
 show AW ⟨Tryz.prog,X,15,w0,⟨L,E,5⟩⟩ _ _ _
 have hc:Cx.OK ⟨Tryz.prog,X,15,w0,⟨L,E,5⟩⟩:=⟨hX,mixed⟩
 have hiI:(i:Int)<(ds.length:Int):=by omega
 have hg:=prows_gi hi
 have hgE:=prows_gE hi
 obtain ⟨⟨a,b⟩,hm⟩:∃ m,m=gp ds i:=⟨_,rfl⟩
 rw [← hm] at hg hgE
 try simp only at hg hgE
 have hm1:(gp ds i).1=a:=by rw [← hm]
 have zS:=jj hi<|jj hiI<|jj hg<|hgE
 refine dM64 ?_
 repeat (intro K hK)
 clear zS
 refine ⟨by simp,_,by simp [aResults,aResult,Tryz.f189];rfl,?_⟩
 simp only [idx,hm1]
 exact dle
theorem s191 (X:AX) (hX:XOK Tryz.prog X) (hw:X.W wT):GSound Tryz.prog 191 clS:=by
 unfold clS
 refine gsound_spec Tryz.func191 rfl X fun ⟨⟨⟨r,ns,ds⟩,g,i⟩,ht,hi⟩ w0 L E=>⟨by show 3≤15;decide,?_⟩
 have hi:i<ds.length:=hi
 have hl2:ds.length≤1000000:=ht.2.2
 simp only [scM]
 show AW ⟨Tryz.prog,X,15,w0,⟨L,E,5⟩⟩ _ _ _
 have hc:Cx.OK ⟨Tryz.prog,X,15,w0,⟨L,E,5⟩⟩:=⟨hX,mixed⟩
 have hiI:(i:Int)<(ds.length:Int):=by omega
 have hg:=prows_gi hi
 have hgE:=prows_gE hi
 obtain ⟨⟨a,b⟩,hm⟩:∃ m,m=gp ds i:=⟨_,rfl⟩
 rw [← hm] at hg hgE
 try simp only at hg hgE
 have hm1:(gp ds i).1=a:=by rw [← hm]
 have zS:=jj hi<|jj hiI<|jj hg<|hgE
 refine dM64 ?_
 repeat (intro K hK)
 clear zS
 refine ⟨by simp,_,by simp [aResults,aResult,Tryz.f191];rfl,?_⟩
 simp only [idx,hm1]
 exact dle
set_option maxRecDepth 4000 in
theorem callCl {t:Tb} {g:Int} {i:Nat} (ht:tbOK t) (hi:i<t.2.2.length) (M:Nat→AO) (nid:Nat)
  (h0:M 0=.box [.bp 1 0]) (h1:M 1=.box [I t.1,.sl 2 1 9 0 t.2.1.length,.sl 3 1 2 0 t.2.2.length]) (h2:M 2=.vec 1 9 false (nrows t.2.1)) (h3:M 3=.vec 1 2 false (prows t.2.2)) (h4:M 4=.box [I g]) :
  callG clS [I i,.bp 0 0,.bp 4 0] M nid=some (B (decide (g≤(gp t.2.2 i).1)),[(0,.box [.bp 1 0]),(1,.box [I t.1,.sl 2 1 9 0 t.2.1.length,.sl 3 1 2 0 t.2.2.length]),(2,.vec 1 9 false (nrows t.2.1)),(3,.vec 1 2 false (prows t.2.2)),(4,.box [I g])]):=by
 have hF:=clS_at (g:=g) ht hi
 simp only [scM] at hF
 unfold callG
 have hg:gat M 64 (nmsL [I i,.bp 0 0,.bp 4 0]) []=[0,1,2,3,4]:=by
  simp [gat,nmsL,AV.nms,AO.nms,h0,h1,h2,h3,h4]
 simp only [hg]
 rw [if_pos ?cg]
 case cg=>simp [CallG,nmsL,AV.nms,AO.nms,Led,curBL,AV.curB,AO.curB,verOf,notDead,h0,h1,h2,h3,h4]
 simp [renL,AV.ren,AO.ren,posN,canO,nmsL,h0,h1,h2,h3,h4,hF,RetG,getL,AV.nms,AO.nms,updN,nmN,shN,verOf,rng,Led]
@[simp] theorem tyUint:Types Tryz.prog 199=some ⟨.int .u64,1,8,[.int .u64 0]⟩:=by kernel_rfl
def lowD (ds:List Dp) (g:Int):Nat:=ds.findIdx fun d=>decide (g≤d.1)
theorem lowD_le {ds:List Dp} {g:Int}:lowD ds g≤ds.length:=List.findIdx_le_length
noncomputable def seS (c:FuncId):List AV→List AO→Option (AV×List AO):=specG (ι:={x:Tb×Int // tbOK x.1∧ascK x.1.2.2}) (fun x=>[I x.1.1.2.2.length,.fn c [.bp 0 0,.bp 4 0]]) (fun x=>scM x.1.1 x.1.2) (fun x=>retOf [I (lowD x.1.1.2.2 x.1.2)]) fun x=>scM x.1.1 x.1.2
theorem seS_at {c:FuncId} {t:Tb} {g:Int} (ht:tbOK t) (ha:ascK t.2.2):seS c [I t.2.2.length,.fn c [.bp 0 0,.bp 4 0]] (scM t g)=some (I (lowD t.2.2 g),scM t g):=by
 refine specG_eq (ι:={x:Tb×Int // tbOK x.1∧ascK x.1.2.2}) (A:=fun x=>[I x.1.1.2.2.length,.fn c [.bp 0 0,.bp 4 0]]) (M:=fun x=>scM x.1.1 x.1.2) (R:=fun x=>retOf [I (lowD x.1.1.2.2 x.1.2)]) (O:=fun x=>scM x.1.1 x.1.2) ⟨(t,g),ht,ha⟩ fun j hA hM=>?_
 obtain ⟨⟨t',g'⟩,h'⟩:=j
 obtain ⟨rfl,rfl⟩:=scM_inj hM
 exact ⟨rfl,rfl⟩
theorem gp_asc {ds:List Dp} (h:ascK ds) {i j:Nat} (hij:i<j) (hj:j<ds.length):(gp ds i).1<(gp ds j).1:=by
 have:=List.pairwise_iff_getElem.1 h i j (by omega) hj hij
 rw [gp_eq (by omega),gp_eq hj];exact this
theorem lowD_at {ds:List Dp} {g:Int} {i:Nat} (hi:i≤ds.length) (h1:∀ k,k<i→¬ g≤(gp ds k).1) (h2:i<ds.length→g≤(gp ds i).1):lowD ds g=i:=by
 unfold lowD
 rcases Nat.lt_or_ge i ds.length with h|h
 ·rw [List.findIdx_eq h]
  refine ⟨by have:=h2 h;rw [gp_eq h] at this;simpa using this,fun j hj=>?_⟩
  have:=h1 j hj
  rw [gp_eq (by omega)] at this
  simpa using this
 ·have:i=ds.length:=by omega
  subst this
  rw [List.findIdx_eq_length]
  intro x hx
  obtain ⟨j,hj,rfl⟩:=List.getElem_of_mem hx
  have:=h1 j hj
  rw [gp_eq hj] at this
  simpa using this
theorem s188 (X:AX) (hX:XOK Tryz.prog X) (hw:X.W wT) (c:FuncId) (hcl:X.call c=callG clS):GSound Tryz.prog 188 (seS c):=by
 unfold seS
 refine gsound_spec Tryz.func188 rfl X fun ⟨⟨⟨r,ns,ds⟩,g⟩,ht,ha⟩ w0 L E=>⟨by show 2≤26;decide,?_⟩
 simp only at ha
 have hl1:ns.length≤1000000:=ht.2.1
 have hl2:ds.length≤1000000:=ht.2.2
 simp only [scM]
 show AW ⟨Tryz.prog,X,26,w0,⟨L,E,5⟩⟩ _ _ _
 have hc:Cx.OK ⟨Tryz.prog,X,26,w0,⟨L,E,5⟩⟩:=⟨hX,mixed⟩
 repeat' (first|(apply aw_seq_k;intro K hK)|(refine eM64o ?_)|(refine aw_cond (b:=_) (by exact rfl) (fun h=>?_) (fun h=>?_)<;>(try simp at h))|(refine eB ?_)|(refine hK _ ?_;clear hK)|(clear hK;refine hK _ ?_;clear hK)|(clear hK;clear hK;refine hK _ ?_;clear hK)|(clear hK;clear hK;clear hK;refine hK _ ?_;clear hK))
 refine aw_loopK (s0:=?lps1) (m0:=?lpm1) (ι:={s:Nat×Nat // s.1≤s.2∧s.2≤ds.length∧(∀ k,k<s.1→¬ g≤(gp ds k).1)∧∀ k,s.2≤k→k<ds.length→g≤(gp ds k).1}) [1] (fun s=>[(5,I s.1.1),(6,I s.1.2)]) (fun _=>[]) (fun s=>s.1.2 - s.1.1) ⟨(0,ds.length),by simp,by simp,by simp,by simp only;omega⟩ ?lhs1 ?lhm1 ?_ ?_
 case lhs1=>first|(simp [keepS];done)|(simp [keepS];rfl)
 case lhm1=>first|rfl|(simp;done)|(simp;rfl)
 ·exact dle
 ·rintro ⟨⟨i,j⟩,hij,hj,h1,h2⟩
  simp only at hij hj h1 h2 ⊢
  rcases Decidable.em (i<j) with hl|hl
  ·have hlI:(i:Int)<(j:Int):=by omega
   obtain ⟨md,hh⟩:∃ md,md=(i+j)/2:=⟨_,rfl⟩
   have hhl:md<ds.length:=by omega
   have hcall:=@callCl (r,ns,ds) g md ht hhl
   simp only at hcall
   rw [← hcl] at hcall
   have hhI:((i:Int)+(j:Int))/2=(md:Int):=by rw [hh];omega
   have hs1:IntKind.u64.wrap ((i:Int)+(j:Int))=(i:Int)+j:=wrapU64 ⟨by omega,by omega⟩
   have hs2:((i:Int)+(j:Int))/2^min 1 IntKind.u64.bits=(md:Int):=by
    rw [show (2:Int)^min 1 IntKind.u64.bits=2 by simp [IntKind.bits]];exact hhI
   rcases Decidable.em (g≤(gp ds md).1) with hq|hq
   ·rw [decide_eq_true hq] at hcall
    have zS:=jj hlI<|jj hcall<|jj hhI<|jj hs1<|hs2
    repeat' (first|(apply aw_seq_k;intro K hK)|(refine eM64 ?_)|(refine aw_cond (b:=_) (by exact rfl) (fun h=>?_) (fun h=>?_)<;>(try simp at h))|(refine eB ?_)|(refine hK _ ?_;clear hK)|(clear hK;refine hK _ ?_;clear hK)|(clear hK;clear hK;refine hK _ ?_;clear hK)|(clear hK;clear hK;clear hK;refine hK _ ?_;clear hK))
    all_goals clear zS
    refine ⟨i,md,?_,⟨by omega,by omega,fun k hk=>by have:=h1 k hk;omega,fun k hk hk2=>?_⟩,by omega⟩
    ·exact dle
    ·rcases Nat.lt_or_ge md k with h3|h3
     ·have:=gp_asc ha h3 hk2;omega
     ·obtain rfl:k=md:=by omega
      exact hq
   ·rw [decide_eq_false hq] at hcall
    have zS:=jj hlI<|jj hcall<|jj hhI<|jj hs1<|hs2
    repeat' (first|(apply aw_seq_k;intro K hK)|(refine eM64 ?_)|(refine aw_cond (b:=_) (by exact rfl) (fun h=>?_) (fun h=>?_)<;>(try simp at h))|(refine eB ?_)|(refine hK _ ?_;clear hK)|(clear hK;refine hK _ ?_;clear hK)|(clear hK;clear hK;refine hK _ ?_;clear hK)|(clear hK;clear hK;clear hK;refine hK _ ?_;clear hK))
    all_goals clear zS
    refine ⟨md+1,j,?_,⟨by omega,by omega,fun k hk=>?_,h2⟩,by omega⟩
    ·exact dle
    ·rcases Nat.lt_or_ge k md with h3|h3
     ·have:=gp_asc ha h3 hhl;omega
     ·obtain rfl:k=md:=by omega
      omega
  ·obtain rfl:i=j:=by omega
   have e:lowD ds g=i:=lowD_at (by omega) h1 fun h=>h2 i (Nat.le_refl _) h
   repeat' (first|(apply aw_seq_k;intro K hK)|(refine eM64o ?_)|(refine aw_cond (b:=_) (by exact rfl) (fun h=>?_) (fun h=>?_)<;>(try simp at h))|(refine eB ?_)|(refine hK _ ?_;clear hK)|(clear hK;refine hK _ ?_;clear hK)|(clear hK;clear hK;refine hK _ ?_;clear hK)|(clear hK;clear hK;clear hK;refine hK _ ?_;clear hK))
   refine ⟨by simp,_,by simp [aResults,aResult,Tryz.f188];rfl,?_⟩
   simp only [idx,e]
   exact dle
end Go.AM
namespace Go.AM
open Go Go.Proofs
def sortRen:Go.Shelf.Ren :=
 {f:=fun x=>match x with
   | 6=>214
   | 10=>238
   | 11=>239
   | 12=>240
   | 13=>213
   | 14=>241
   | 24=>236
   | 25=>237
   | 26=>260
   | 27=>261
   | 28=>262
   | 29=>263
   | 30=>264
   | 31=>265
   | 32=>266
   | 33=>267
   | 34=>271
   | 35=>272
   | 36=>273
   | 37=>274
   | 38=>275
   | 39=>276
   | n=>n
  t:=fun x=>match x with
   | 20=>20
   | 26=>250
   | 35=>274
   | 0=>0
   | 37=>145
   | 3=>3
   | 41=>199
   | 44=>280
   | 49=>238
   | 51=>76
   | 4=>4
   | 54=>292
   | 53=>291
   | 58=>179
   | 5=>5
   | 9=>9
   | 60=>301
   | 64=>183
   | 66=>304
   | 67=>79
   | 17=>17
   | 32=>271
   | 33=>272
   | 82=>319
   | 12=>12
   | 75=>312
   | 76=>313
   | 77=>314
   | 78=>315
   | 79=>316
   | 80=>317
   | n=>n
  g:=fun n=>n }
theorem laySort:Go.Proofs.LaysGg.n6 Tryz.prog sortRen :=
 {mixed:=mixed
  f6:=Tryz.func214.trans (congrArg some (by kernel_rfl))
  f10:=Tryz.func238.trans (congrArg some (by kernel_rfl))
  f11:=Tryz.func239.trans (congrArg some (by kernel_rfl))
  f12:=Tryz.func240.trans (congrArg some (by kernel_rfl))
  f13:=Tryz.func213.trans (congrArg some (by kernel_rfl))
  f14:=Tryz.func241.trans (congrArg some (by kernel_rfl))
  f24:=Tryz.func236.trans (congrArg some (by kernel_rfl))
  f25:=Tryz.func237.trans (congrArg some (by kernel_rfl))
  f26:=Tryz.func260.trans (congrArg some (by kernel_rfl))
  f27:=Tryz.func261.trans (congrArg some (by kernel_rfl))
  f28:=Tryz.func262.trans (congrArg some (by kernel_rfl))
  f29:=Tryz.func263.trans (congrArg some (by kernel_rfl))
  f30:=Tryz.func264.trans (congrArg some (by kernel_rfl))
  f31:=Tryz.func265.trans (congrArg some (by kernel_rfl))
  f32:=Tryz.func266.trans (congrArg some (by kernel_rfl))
  f33:=Tryz.func267.trans (congrArg some (by kernel_rfl))
  f34:=Tryz.func271.trans (congrArg some (by kernel_rfl))
  f35:=Tryz.func272.trans (congrArg some (by kernel_rfl))
  f36:=Tryz.func273.trans (congrArg some (by kernel_rfl))
  f37:=Tryz.func274.trans (congrArg some (by kernel_rfl))
  f38:=Tryz.func275.trans (congrArg some (by kernel_rfl))
  f39:=Tryz.func276.trans (congrArg some (by kernel_rfl))
  t0:=Tryz.underlying0
  a0:=Tryz.isAgg0
  z0:=Tryz.sizeOf0
  v0:=Tryz.zeroValue0
  t3:=Tryz.underlying3
  a3:=Tryz.isAgg3
  z3:=Tryz.sizeOf3
  v3:=Tryz.zeroValue3
  t4:=Tryz.underlying4
  a4:=Tryz.isAgg4
  z4:=Tryz.sizeOf4
  v4:=Tryz.zeroValue4
  t5:=Tryz.underlying5
  a5:=Tryz.isAgg5
  z5:=Tryz.sizeOf5
  v5:=Tryz.zeroValue5
  t9:=Tryz.underlying9
  a9:=Tryz.isAgg9
  z9:=Tryz.sizeOf9
  v9:=Tryz.zeroValue9
  t12:=Tryz.underlying12
  a12:=Tryz.isAgg12
  z12:=Tryz.sizeOf12
  v12:=Tryz.zeroValue12
  t17:=Tryz.underlying17
  a17:=Tryz.isAgg17
  z17:=Tryz.sizeOf17
  v17:=Tryz.zeroValue17
  t20:=Tryz.underlying20
  a20:=Tryz.isAgg20
  z20:=Tryz.sizeOf20
  v20:=Tryz.zeroValue20
  t26:=Tryz.underlying250
  a26:=Tryz.isAgg250
  z26:=Tryz.sizeOf250
  v26:=Tryz.zeroValue250
  t32:=Tryz.underlying271
  a32:=Tryz.isAgg271
  z32:=Tryz.sizeOf271
  v32:=Tryz.zeroValue271
  t33:=Tryz.underlying272
  a33:=Tryz.isAgg272
  z33:=Tryz.sizeOf272
  v33:=Tryz.zeroValue272
  t35:=Tryz.underlying274
  a35:=Tryz.isAgg274
  z35:=Tryz.sizeOf274
  v35:=Tryz.zeroValue274
  t37:=Tryz.underlying145
  a37:=Tryz.isAgg145
  z37:=Tryz.sizeOf145
  v37:=Tryz.zeroValue145
  t41:=Tryz.underlying199
  a41:=Tryz.isAgg199
  z41:=Tryz.sizeOf199
  v41:=Tryz.zeroValue199
  t44:=Tryz.underlying280
  a44:=Tryz.isAgg280
  z44:=Tryz.sizeOf280
  v44:=Tryz.zeroValue280
  t49:=Tryz.underlying238
  a49:=Tryz.isAgg238
  z49:=Tryz.sizeOf238
  v49:=Tryz.zeroValue238
  t51:=Tryz.underlying76
  a51:=Tryz.isAgg76
  z51:=Tryz.sizeOf76
  v51:=Tryz.zeroValue76
  t53:=Tryz.underlying291
  a53:=Tryz.isAgg291
  z53:=Tryz.sizeOf291
  v53:=Tryz.zeroValue291
  t54:=Tryz.underlying292
  a54:=Tryz.isAgg292
  z54:=Tryz.sizeOf292
  v54:=Tryz.zeroValue292
  t58:=Tryz.underlying179
  a58:=Tryz.isAgg179
  z58:=Tryz.sizeOf179
  v58:=Tryz.zeroValue179
  t60:=Tryz.underlying301
  a60:=Tryz.isAgg301
  z60:=Tryz.sizeOf301
  v60:=Tryz.zeroValue301
  t64:=Tryz.underlying183
  a64:=Tryz.isAgg183
  z64:=Tryz.sizeOf183
  v64:=Tryz.zeroValue183
  t66:=Tryz.underlying304
  a66:=Tryz.isAgg304
  z66:=Tryz.sizeOf304
  v66:=Tryz.zeroValue304
  t67:=Tryz.underlying79
  a67:=Tryz.isAgg79
  z67:=Tryz.sizeOf79
  v67:=Tryz.zeroValue79
  t75:=Tryz.underlying312
  a75:=Tryz.isAgg312
  z75:=Tryz.sizeOf312
  v75:=Tryz.zeroValue312
  t76:=Tryz.underlying313
  a76:=Tryz.isAgg313
  z76:=Tryz.sizeOf313
  v76:=Tryz.zeroValue313
  t77:=Tryz.underlying314
  a77:=Tryz.isAgg314
  z77:=Tryz.sizeOf314
  v77:=Tryz.zeroValue314
  t78:=Tryz.underlying315
  a78:=Tryz.isAgg315
  z78:=Tryz.sizeOf315
  v78:=Tryz.zeroValue315
  t79:=Tryz.underlying316
  a79:=Tryz.isAgg316
  z79:=Tryz.sizeOf316
  v79:=Tryz.zeroValue316
  t80:=Tryz.underlying317
  a80:=Tryz.isAgg317
  z80:=Tryz.sizeOf317
  v80:=Tryz.zeroValue317
  t82:=Tryz.underlying319
  a82:=Tryz.isAgg319
  z82:=Tryz.sizeOf319
  v82:=Tryz.zeroValue319
  i0:=by kernel_rfl
  i3:=by kernel_rfl
  i4:=by kernel_rfl
  i5:=by kernel_rfl
  i9:=by kernel_rfl
  i12:=by kernel_rfl
  i17:=by kernel_rfl
  i20:=by kernel_rfl
  i26:=by kernel_rfl
  i32:=by kernel_rfl
  i33:=by kernel_rfl
  i35:=by kernel_rfl
  i37:=by kernel_rfl
  i41:=by kernel_rfl
  i44:=by kernel_rfl
  i49:=by kernel_rfl
  i51:=by kernel_rfl
  i53:=by kernel_rfl
  i54:=by kernel_rfl
  i58:=by kernel_rfl
  i60:=by kernel_rfl
  i64:=by kernel_rfl
  i66:=by kernel_rfl
  i67:=by kernel_rfl
  i75:=by kernel_rfl
  i76:=by kernel_rfl
  i77:=by kernel_rfl
  i78:=by kernel_rfl
  i79:=by kernel_rfl
  i80:=by kernel_rfl
  i82:=by kernel_rfl }
end Go.AM
