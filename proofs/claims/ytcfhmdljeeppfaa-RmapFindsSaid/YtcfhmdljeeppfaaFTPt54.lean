/- A part of the proof: what functions of the program compute, by abstract execution of their code. Its theorems hold without further condition. -/
import Derived.Test.YtcfhmdljeeppfaaFTPt39
import Derived.Test.YtcfhmdljeeppfaaFAmQ
set_option linter.all false
namespace Go.AM
open Go Go.Proofs
theorem list_ext_gi {a b:List Int} (hl:a.length=b.length) (h:∀ j,j<a.length→gi a j=gi b j):a=b:=by
 refine List.ext_getElem hl fun i h1 h2=>?_
 have:=h i h1
 rw [gi_eq h1,gi_eq h2] at this
 exact this
set_option maxHeartbeats 2000000 in
theorem s16 (X:AX) (hX:XOK Try.prog X) (hw:X.W wT):PSound Try.prog 16 (specF (ι:={x:List Int×List Int // x.1.length≤1000000∧x.2.length≤1000000}) (fun x=>[.rd 1 (irows x.1.1),.rd 1 (irows x.1.2)]) fun x=>retOf [B (decide (x.1.1=x.1.2))]):=by
 refine psound_spec hX mixed Try.func16 rfl fun ⟨⟨l,m⟩,hl,hm⟩ w0 G=>⟨by show 2≤26;decide,rfl,?_⟩
 show AW ⟨Try.prog,X,26,w0,.pure G⟩ _ _ _
 have hc:Cx.OK ⟨Try.prog,X,26,w0,.pure G⟩:=⟨hX,mixed⟩
 simp only at hl hm ⊢
 rcases Decidable.em (l.length=m.length) with h1|h1
 ·have h1I:(l.length:Int)=(m.length:Int):=by omega
  have zS:=h1
  repeat' (first|(apply aw_seq_k;intro K hK)|(refine eM64 ?_)|(refine aw_cond (b:=_) (by exact rfl) (fun h=>?_) (fun h=>?_)<;>(try simp at h))|(refine eB ?_)|(refine hK _ ?_;clear hK)|(clear hK;refine hK _ ?_;clear hK)|(clear hK;clear hK;refine hK _ ?_;clear hK)|(clear hK;clear hK;clear hK;refine hK _ ?_;clear hK))
  all_goals clear zS
  refine aw_loopK (s0:=?lps1) (m0:=?lpm1) (ι:={i:Nat // i≤m.length∧∀ j,j<i→gi l j=gi m j}) [0,1,12] (fun s=>[(13,I s.1)]) (fun _=>[]) (fun s=>m.length - s.1) ⟨0,by omega,by omega⟩ ?lhs1 ?lhm1 ?_ ?_
  case lhs1=>first|(simp [keepS];done)|(simp [keepS];rfl)
  case lhm1=>first|rfl|(simp;done)|(simp;rfl)
  ·exact dle
  ·rintro ⟨i,hi,hinv⟩
   simp only
   rcases Decidable.em (i<m.length) with hil|hil
   ·have hilI:(i:Int)<(m.length:Int):=by omega
    have hil2:i<l.length:=by omega
    have hil2I:(i:Int)<(l.length:Int):=by omega
    have hg:=irows_gi hil2
    have hgE:=irows_gE hil2
    have hg':=irows_gi hil
    have hgE':=irows_gE hil
    have hdf:gi l i≠gi m i→¬ l=m:=fun h e=>h (by rw [e])
    obtain ⟨a,ha⟩:∃ a,a=gi l i:=⟨_,rfl⟩
    obtain ⟨b,hb⟩:∃ b,b=gi m i:=⟨_,rfl⟩
    rw [← ha,← hb] at hdf
    rw [← ha] at hg hgE
    rw [← hb] at hg' hgE'
    rcases Decidable.em (a=b) with e1|e1
    ·subst e1
     have zS:=jj hilI<|jj hil<|jj hil2<|jj hil2I<|jj hg<|jj hgE<|jj hg'<|jj hgE'<|h1
     repeat' (first|(apply aw_seq_k;intro K hK)|(refine eM64 ?_)|(refine aw_cond (b:=_) (by exact rfl) (fun h=>?_) (fun h=>?_)<;>(try simp at h))|(refine eB ?_)|(refine hK _ ?_;clear hK)|(clear hK;refine hK _ ?_;clear hK)|(clear hK;clear hK;refine hK _ ?_;clear hK)|(clear hK;clear hK;clear hK;refine hK _ ?_;clear hK))
     all_goals clear zS
     refine ⟨i+1,?_,⟨by omega,fun j hj=>?_⟩,by omega⟩
     ·exact dle
     ·rcases Nat.lt_succ_iff_lt_or_eq.1 hj with h5|rfl
      ·exact hinv j h5
      ·rw [← ha,← hb]
    ·have e:=hdf e1
     have e1':¬ b=a:=fun h=>e1 h.symm
     have zS:=jj hilI<|jj hil<|jj hil2<|jj hil2I<|jj hg<|jj hgE<|jj hg'<|jj hgE'<|jj h1<|jj e1<|e1'
     repeat' (first|(apply aw_seq_k;intro K hK)|(refine eM64 ?_)|(refine aw_cond (b:=_) (by exact rfl) (fun h=>?_) (fun h=>?_)<;>(try simp at h))|(refine eB ?_)|(refine hK _ ?_;clear hK)|(clear hK;refine hK _ ?_;clear hK)|(clear hK;clear hK;refine hK _ ?_;clear hK)|(clear hK;clear hK;clear hK;refine hK _ ?_;clear hK))
     all_goals clear zS
     refine ⟨by simp,?_⟩
     simp [leaves_iff,Try.f16,e]
     try exact dt
   ·obtain rfl:i=m.length:=by omega
    have e:l=m:=list_ext_gi h1 fun j hj=>hinv j (by omega)
    have zS:=h1
    repeat' (first|(apply aw_seq_k;intro K hK)|(refine eM64 ?_)|(refine aw_cond (b:=_) (by exact rfl) (fun h=>?_) (fun h=>?_)<;>(try simp at h))|(refine eB ?_)|(refine hK _ ?_;clear hK)|(clear hK;refine hK _ ?_;clear hK)|(clear hK;clear hK;refine hK _ ?_;clear hK)|(clear hK;clear hK;clear hK;refine hK _ ?_;clear hK))
    all_goals clear zS
    refine ⟨by simp,?_⟩
    simp [leaves_iff,Try.f16,e]
    try exact dt
 ·have h1I:¬ (l.length:Int)=(m.length:Int):=by omega
  have e:¬ l=m:=fun e=>h1 (by rw [e])
  have zS:=jj h1<|h1I
  refine dM64 ?_
  repeat (intro K hK)
  clear zS
  all_goals refine ⟨by simp,?_⟩
  all_goals simp [leaves_iff,Try.f16,e]
  all_goals try exact dt
abbrev Pe:=Int×Nat
def erow (x:Pe):List AV:=[I x.1,U x.2]
def erows (l:List Pe):List (List AV):=l.map erow
@[simp] theorem erows_length (l:List Pe):(erows l).length=l.length:=by simp [erows]
@[simp] theorem tyPE:Types Try.prog 63=some ⟨.struct [(0,3,1),(1,51,1)],2,16,[.int .i64 0,.int .u64 0]⟩:=by kernel_rfl
@[simp] theorem tyPEs:Types Try.prog 60=some ⟨.slice 63,1,24,[.slice none 0 0]⟩:=by kernel_rfl
noncomputable def siS:List AV→List AO→Option (AV×List AO):=specG (ι:={l:List Int // l.length≤2000000}) (fun l=>[.sl 0 1 1 0 l.1.length]) (fun l=>[.vec 1 1 false (irows l.1)]) (fun _=>.tup []) fun l=>[.vec 1 1 false (irows (sortL l.1))]
theorem unI_ir:∀ l:List Int,unI (irows l)=some l
 | []=>rfl
 | x::l=>by
  show (match unI (irows l) with|some r=>some (x::r)|none=>none)=_
  rw [unI_ir l]
theorem s45 (X:AX) (hX:XOK Try.prog X) (hw:X.W wT) (hs:X.call 102=sortC):GSound Try.prog 45 siS:=by
 unfold siS
 refine gsound_spec Try.func45 rfl X fun ⟨l,hl⟩ w0 L E=>⟨by show 1≤4;decide,?_⟩
 show AW ⟨Try.prog,X,4,w0,⟨L,E,1⟩⟩ _ _ _
 have hc:Cx.OK ⟨Try.prog,X,4,w0,⟨L,E,1⟩⟩:=⟨hX,mixed⟩
 have hl':l.length<4611686018427387904:=by omega
 have hu:=unI_ir l
 repeat' (first|(apply aw_seq_k;intro K hK)|(refine aw_run hc (by first|exact aw_nod|(intro _;rw [ordB_w hw];kernel_rfl)|(intro _;rw [ordB_w0 hw0];kernel_rfl)|(intro _;kernel_rfl)) ?_;simp [List.zipIdx,enterS,idx,hs,sortC,hu,hl',-getM,getM_hit,getM_miss,getM_none];(repeat (simp (disch:=first|omega|assumption|fail) only [if_pos,if_neg,wrap64];try simp [List.zipIdx,enterS,idx,hs,sortC,hu,hl',-getM,getM_hit,getM_miss,getM_none]));try (repeat' (refine guardQ_split (fun h=>?_) (fun h=>?_)<;>simp at h<;>(simp [List.zipIdx,enterS,idx,hs,sortC,hu,hl',-getM,getM_hit,getM_miss,getM_none];(repeat (simp (disch:=first|omega|assumption|fail) only [if_pos,if_neg,wrap64];try simp [List.zipIdx,enterS,idx,hs,sortC,hu,hl',-getM,getM_hit,getM_miss,getM_none]))))))|(refine aw_cond (b:=_) (by exact rfl) (fun h=>?_) (fun h=>?_)<;>(try simp at h))|(refine aw_block ?_)|(refine aw_skip ?_;simp only [thenQ,blockQ,if_true])|(refine aw_exit ?_;simp [thenQ,blockQ])|(refine aw_ret ?_;simp only [thenQ,blockQ])|(refine aw_round ?_)|(refine hK _ ?_;clear hK)|(clear hK;refine hK _ ?_;clear hK)|(clear hK;clear hK;refine hK _ ?_;clear hK)|(clear hK;clear hK;clear hK;refine hK _ ?_;clear hK))
 refine ⟨[],rfl,?_⟩
 simp only [idx]
 exact dle
end Go.AM
namespace Go.AM
open Go Go.Proofs
def lsF (t:Tb) (p:Nat):List Pe:=if (lsT t p).2.2≠0∧((lsT t p).2.1=0∨p%8=0) then [((p:Int),(lsT t p).2.2)] else []
def lsA (t:Tb):Nat→List Pe
 | 0=>[]
 | n+1=>lsA t n++lsF t n
theorem lsA_le {t:Tb}:∀ {n:Nat},(lsA t n).length≤n
 | 0=>by simp [lsA]
 | n+1=>by
  have:=@lsA_le t n
  simp only [lsA,lsF,List.length_append]
  split<;>simp<;>omega
noncomputable def lstT (t:Tb):List Pe:=if chk t=0 then lsA t 512 else []
theorem erows_ap (a:List Pe) (x:Int) (w:Nat):erows a++[[I x,.v (.int .u64 w)]]=erows (a++[(x,w)]):=by simp [erows,erow,U]
theorem erows_tkl (a:List Pe):List.take a.length (erows a)=erows a:=List.take_of_length_le (by simp)
section
variable {r:Int} {ns:NdL} {ds:List Dp}
theorem lev_same (h:Pv (r,ns,ds)) {p l w:Nat} (hp:p<512) (hl:(lsT (r,ns,ds) p).2=(l,w)) (ha:p%8^l=0) {q:Nat} (hq:p≤q) (hq2:q<p+8^l):(lsT (r,ns,ds) q).2=(l,w):=by
 obtain ⟨f0,l0,w0,hw⟩:∃ f l w,wlk (Mof ns) r p=(f,l,w):=⟨_,_,_,rfl⟩
 have h1:=(h.walk hp).2.2
 simp only at h1
 rw [hw] at h1
 rw [h1] at hl
 simp only [Prod.mk.injEq] at hl
 obtain ⟨rfl,rfl⟩:=hl
 obtain ⟨a1,a2,a3,a4,a5,a6⟩:=wlk_at h.vm hp hw
 have hq5:q<512:=by
  rcases (by omega:l0=0∨l0=1∨l0=2) with rfl|rfl|rfl<;>simp at ha hq2<;>omega
 have e1:q/8^(l0+1)=p/8^(l0+1):=by
  rcases (by omega:l0=0∨l0=1∨l0=2) with rfl|rfl|rfl<;>simp at ha hq2 ⊢<;>omega
 have e2:dgt q l0=dgt p l0:=by
  unfold dgt
  rcases (by omega:l0=0∨l0=1∨l0=2) with rfl|rfl|rfl<;>simp at ha hq2 ⊢<;>omega
 have h2:=wlk_of (M:=Mof ns) (root:=r) (p:=q) hq5 a1 (by rw [e1];exact a3) (.inl (by rw [e2];simp only at a4;rw [← a4];exact a5))
 have h3:=(h.walk hq5).2.2
 simp only at h3
 rw [h3,h2,e2]
 simp only at a4
 rw [← a4]
theorem lev_next (h:Pv (r,ns,ds)) {p l w:Nat} (hp:p<512) (hl:(lsT (r,ns,ds) p).2=(l,w)) (ha:p%8^l=0) (hq:p+8^l<512):(p+8^l)%8^(lsT (r,ns,ds) (p+8^l)).2.1=0:=by
 obtain ⟨f0,l0,w0,hw⟩:∃ f l w,wlk (Mof ns) r p=(f,l,w):=⟨_,_,_,rfl⟩
 obtain ⟨f1,l1,w1,hw1⟩:∃ f k w,wlk (Mof ns) r (p+8^l)=(f,k,w):=⟨_,_,_,rfl⟩
 have h1:=(h.walk hp).2.2
 have h2:=(h.walk hq).2.2
 simp only at h1 h2
 rw [hw] at h1
 rw [hw1] at h2
 rw [h1] at hl
 simp only [Prod.mk.injEq] at hl
 obtain ⟨rfl,rfl⟩:=hl
 rw [h2]
 simp only
 obtain ⟨a1,a2,a3,a4,a5,a6⟩:=wlk_at h.vm hp hw
 obtain ⟨b1,b2,b3,b4,b5,b6⟩:=wlk_at h.vm hq hw1
 by_cases hc:(p+8^l0)%8^l1=0
 ·exact hc
 ·exfalso
  have hc2:p%8^l1≠0∨8^l0%8^l1≠0:=by
   by_cases h3:p%8^l1=0
   ·right;intro h4;exact hc (by rw [Nat.add_mod,h3,h4];simp)
   ·exact .inl h3
  have hlt:l0<l1:=by
   rcases (by omega:l0=0∨l0=1∨l0=2) with rfl|rfl|rfl<;>rcases (by omega:l1=0∨l1=1∨l1=2) with rfl|rfl|rfl<;>simp at hc ha ⊢<;>omega
  have hsame:dgt (p+8^l0) l1=dgt p l1∧(p+8^l0)/8^(l1+1)=p/8^(l1+1):=by
   unfold dgt
   rcases (by omega:l0=0∨l0=1∨l0=2) with rfl|rfl|rfl<;>rcases (by omega:l1=0∨l1=1∨l1=2) with rfl|rfl|rfl<;>simp at hc ha ⊢<;>omega
  have:=wlk_of (M:=Mof ns) (root:=r) hp b1 (by rw [← hsame.2];exact b3) (.inl (by rw [← hsame.1];simp only at b4;rw [← b4];exact b5))
  rw [hw] at this
  simp only [Prod.mk.injEq] at this
  omega
theorem lsA_step (h:Pv (r,ns,ds)) {p l w:Nat} (hp:p<512) (hl:(lsT (r,ns,ds) p).2=(l,w)) (ha:p%8^l=0):lsA (r,ns,ds) (p+8^l)=lsA (r,ns,ds) p++(if w≠0 then [((p:Int),w)] else []):=by
 obtain ⟨f0,l0,w0,hw⟩:∃ f l w,wlk (Mof ns) r p=(f,l,w):=⟨_,_,_,rfl⟩
 have h1:=(h.walk hp).2.2
 simp only at h1
 rw [hw] at h1
 have hlw:l0=l∧w0=w:=by rw [h1] at hl;simpa using hl
 obtain ⟨rfl,rfl⟩:=hlw
 obtain ⟨a1,a2,a3,a4,a5,a6⟩:=wlk_at h.vm hp hw
 have hz2:l0=2→w0=0:=fun e=>by
  subst e
  unfold okWb at a6
  simp only [Bool.and_eq_true,decide_eq_true_eq] at a6
  obtain ⟨_,a7⟩:=a6
  unfold suitB at a7
  refine (kind0 (l:=2) (w:=w0) ?_).1 ?_
  ·unfold okWb;simp only [Bool.and_eq_true,decide_eq_true_eq];exact ⟨by assumption,by unfold suitB;exact a7⟩
  ·by_cases h0:(decR w0).1.1=0
   ·exact h0
   ·rw [if_neg h0] at a7
    have h4:(decR w0).1.1≠4:=decR_tab.1 a5
    rw [if_neg h4] at a7
    simp at a7
 have hmid:∀ d,1≤d→d≤8^l0→lsA (r,ns,ds) (p+d)=lsA (r,ns,ds) p++(if w0≠0 then [((p:Int),w0)] else []):=by
  intro d hd
  induction d with
  | zero=>omega
  | succ d ih =>
   intro hd2
   rw [show p+(d+1)=p+d+1 by omega]
   simp only [lsA]
   by_cases h0:d=0
   ·subst h0
    simp only [Nat.add_zero,lsF,hl]
    by_cases hw0:w0=0
    ·simp [hw0]
    ·have:l0=0∨p%8=0:=by
      rcases (by omega:l0=0∨l0=1∨l0=2) with e|e|e
      ·exact .inl e
      ·right;rw [e] at ha;simpa using ha
      ·exact absurd (hz2 e) hw0
     rw [if_pos ⟨hw0,this⟩,if_pos hw0]
   ·rw [ih (by omega) (by omega)]
    have hs:=lev_same h hp hl ha (q:=p+d) (by omega) (by omega)
    have:lsF (r,ns,ds) (p+d)=[]:=by
     unfold lsF
     rw [hs]
     rw [if_neg]
     rintro ⟨g1,g2⟩
     rcases (by omega:l0=0∨l0=1∨l0=2) with e|e|e
     ·subst e;simp at hd2;omega
     ·subst e
      simp at ha hd2 g2
      omega
     ·exact g1 (hz2 e)
    rw [this,List.append_nil]
 have hpos:1≤8^l0:=Nat.pow_pos (by decide)
 exact hmid _ hpos (Nat.le_refl _)
end
end Go.AM
namespace Go.AM
open Go Go.Proofs
theorem lsA_0 (t:Tb):lsA t 0=[]:=rfl
attribute [local irreducible] lsA
set_option maxHeartbeats 8000000 in
theorem s29 (X:AX) (hX:XOK Try.prog X) (hw:X.W wT) (hch:∀ t:Tb,tbOK t→∀ M n,X.call 28 [TbV t] M n=some (I (chk t),[]))
  (hla:∀ (t:Tb) (p:Nat),ptO t p→∀ M n,X.call 72 [TbV t,I p] M n=some (stV (lsT t p),[])) :
  PSound Try.prog 29 (specF (ι:={x:Tb // tbOK x}) (fun x=>[TbV x.1]) fun x=>retOf [.ow 2 (erows (lstT x.1))]):=by
 refine psound_spec hX mixed Try.func29 rfl fun ⟨⟨r,ns,ds⟩,ht⟩ w0 G=>⟨by show 1≤36;decide,rfl,?_⟩
 show AW ⟨Try.prog,X,36,w0,.pure G⟩ _ _ _
 have hc:Cx.OK ⟨Try.prog,X,36,w0,.pure G⟩:=⟨hX,mixed⟩
 simp only at ht ⊢
 have hl1:ns.length≤1000000:=ht.2.1
 have hl2:ds.length≤1000000:=ht.2.2
 have hch':=hch _ ht
 rcases Decidable.em (chk (r,ns,ds)=0) with hc0|hc0
 ·have e:lstT (r,ns,ds)=lsA (r,ns,ds) 512:=by unfold lstT;rw [if_pos hc0]
  have hpv:=chk_pv ht hc0
  have hla':=fun p hp=>hla _ p (hpv.pto ht (p:=p) hp)
  rw [e]
  rw [hc0] at hch'
  simp only [TbV] at hch' hla' ⊢
  have h00:0%8^(lsT (r,ns,ds) 0).2.1=0:=Nat.zero_mod _
  have zS:=hch'
  repeat' (first|(apply aw_seq_k;intro K hK)|(refine eM64 ?_)|(refine aw_cond (b:=_) (by exact rfl) (fun h=>?_) (fun h=>?_)<;>(try simp at h))|(refine eB ?_)|(refine hK _ ?_;clear hK)|(clear hK;refine hK _ ?_;clear hK)|(clear hK;clear hK;refine hK _ ?_;clear hK)|(clear hK;clear hK;clear hK;refine hK _ ?_;clear hK))
  all_goals clear zS
  refine aw_weaken (le_nilslot (t:=3) (sz:=2) (by simp)) ?_
  refine aw_loopK (s0:=?lps1) (m0:=?lpm1) (ι:={p:Nat // p≤512∧(p<512→p%8^(lsT (r,ns,ds) p).2.1=0)}) [1] (fun s=>[(4,I s.1),(3,.sl 112 1 2 0 (lsA (r,ns,ds) s.1).length)]) (fun s=>[(112,.vec 1 2 false (erows (lsA (r,ns,ds) s.1)))]) (fun s=>512 - s.1) ⟨0,by omega,fun _=>h00⟩ ?lhs1 ?lhm1 ?_ ?_
  case lhs1=>first|(simp [keepS];done)|(simp [keepS];rfl)
  case lhm1=>first|rfl|(simp;done)|(simp;rfl)
  ·simp only [lsA_0]
   exact le_of2 (by simp) (by simp [AVle,AV.under,AV.underL,erows]<;>omega) (by simp [AOle,AO.under,AV.underL,AV.under,erows]<;>omega)
  ·rintro ⟨p,hp,hal⟩
   simp only
   rcases Decidable.em (p<512) with hil|hil
   ·have hilI:(p:Int)<512:=by omega
    have hal:=hal hil
    have hla2:=hla' p hil
    have hlt2:=(lsT_lt hpv hil).2
    obtain ⟨⟨a,l,w⟩,hS⟩:∃ S,S=lsT (r,ns,ds) p:=⟨_,rfl⟩
    have hl2:(lsT (r,ns,ds) p).2=(l,w):=by rw [← hS]
    rw [← hS] at hal hla2 hlt2
    simp only at hal hlt2
    have hst:=lsA_step hpv hil hl2 hal
    have hnx:p+8^l<512→(p+8^l)%8^(lsT (r,ns,ds) (p+8^l)).2.1=0:=fun h=>lev_next hpv hil hl2 hal h
    have hAl:=@lsA_le (r,ns,ds) p
    have hp8:p+8^l≤512:=by
     rcases (by omega:l=0∨l=1∨l=2) with rfl|rfl|rfl<;>simp at hal ⊢<;>omega
    obtain ⟨A,hA⟩:∃ A,A=lsA (r,ns,ds) p:=⟨_,rfl⟩
    rw [← hA] at hst hAl ⊢
    clear hS
    have htk:=erows_tkl A
    have hap:=erows_ap A p w
    simp only [stV,srow,U] at hla2
    rcases Decidable.em (w=0) with hw0|hw0
    ·subst hw0
     rw [if_neg (by simp),List.append_nil] at hst
     rcases (by omega:l=0∨l=1∨l=2) with rfl|rfl|rfl
     ·simp only [show 8^0=1 from rfl] at hst hnx hp8
      have zS:=jj hilI<|hla2
      repeat' (first|(apply aw_seq_k;intro K hK)|(refine eM64 ?_)|(refine aw_cond (b:=_) (by exact rfl) (fun h=>?_) (fun h=>?_)<;>(try simp at h))|(refine eB ?_)|(refine hK _ ?_;clear hK)|(clear hK;refine hK _ ?_;clear hK)|(clear hK;clear hK;refine hK _ ?_;clear hK)|(clear hK;clear hK;clear hK;refine hK _ ?_;clear hK))
      all_goals clear zS
      refine aw_rounds 1 (aw_round ?_)
      repeat' (first|(apply aw_seq_k;intro K hK)|(refine eM64o ?_)|(refine aw_cond (b:=_) (by exact rfl) (fun h=>?_) (fun h=>?_)<;>(try simp at h))|(refine eB ?_)|(refine hK _ ?_;clear hK)|(clear hK;refine hK _ ?_;clear hK)|(clear hK;clear hK;refine hK _ ?_;clear hK)|(clear hK;clear hK;clear hK;refine hK _ ?_;clear hK))
      refine ⟨p+1,?_,⟨hp8,hnx⟩,by omega⟩
      simp only [hst]
      exact dle
     ·simp only [show 8^1=8 from rfl] at hst hnx hp8
      have zS:=jj hilI<|hla2
      repeat' (first|(apply aw_seq_k;intro K hK)|(refine eM64 ?_)|(refine aw_cond (b:=_) (by exact rfl) (fun h=>?_) (fun h=>?_)<;>(try simp at h))|(refine eB ?_)|(refine hK _ ?_;clear hK)|(clear hK;refine hK _ ?_;clear hK)|(clear hK;clear hK;refine hK _ ?_;clear hK)|(clear hK;clear hK;clear hK;refine hK _ ?_;clear hK))
      all_goals clear zS
      refine aw_rounds 2 (aw_round ?_)
      repeat' (first|(apply aw_seq_k;intro K hK)|(refine eM64o ?_)|(refine aw_cond (b:=_) (by exact rfl) (fun h=>?_) (fun h=>?_)<;>(try simp at h))|(refine eB ?_)|(refine hK _ ?_;clear hK)|(clear hK;refine hK _ ?_;clear hK)|(clear hK;clear hK;refine hK _ ?_;clear hK)|(clear hK;clear hK;clear hK;refine hK _ ?_;clear hK))
      refine ⟨p+8,?_,⟨hp8,hnx⟩,by omega⟩
      simp only [hst]
      exact dle
     ·simp only [show 8^2=64 from rfl] at hst hnx hp8
      have zS:=jj hilI<|hla2
      repeat' (first|(apply aw_seq_k;intro K hK)|(refine eM64 ?_)|(refine aw_cond (b:=_) (by exact rfl) (fun h=>?_) (fun h=>?_)<;>(try simp at h))|(refine eB ?_)|(refine hK _ ?_;clear hK)|(clear hK;refine hK _ ?_;clear hK)|(clear hK;clear hK;refine hK _ ?_;clear hK)|(clear hK;clear hK;clear hK;refine hK _ ?_;clear hK))
      all_goals clear zS
      refine aw_rounds 3 (aw_round ?_)
      repeat' (first|(apply aw_seq_k;intro K hK)|(refine eM64o ?_)|(refine aw_cond (b:=_) (by exact rfl) (fun h=>?_) (fun h=>?_)<;>(try simp at h))|(refine eB ?_)|(refine hK _ ?_;clear hK)|(clear hK;refine hK _ ?_;clear hK)|(clear hK;clear hK;refine hK _ ?_;clear hK)|(clear hK;clear hK;clear hK;refine hK _ ?_;clear hK))
      refine ⟨p+64,?_,⟨hp8,hnx⟩,by omega⟩
      simp only [hst]
      exact dle
    ·rw [if_pos hw0] at hst
     rw [← hst] at hap
     have hlen:A.length+1=(lsA (r,ns,ds) (p+8^l)).length:=by rw [hst];simp
     rcases (by omega:l=0∨l=1∨l=2) with rfl|rfl|rfl
     ·simp only [show 8^0=1 from rfl] at hst hnx hp8 hap hlen
      have zS:=jj hilI<|jj hla2<|jj hw0<|jj htk<|jj hap<|hAl
      repeat' (first|(apply aw_seq_k;intro K hK)|(refine eM64 ?_)|(refine aw_cond (b:=_) (by exact rfl) (fun h=>?_) (fun h=>?_)<;>(try simp at h))|(refine eB ?_)|(refine hK _ ?_;clear hK)|(clear hK;refine hK _ ?_;clear hK)|(clear hK;clear hK;refine hK _ ?_;clear hK)|(clear hK;clear hK;clear hK;refine hK _ ?_;clear hK))
      all_goals clear zS
      refine aw_rounds 1 (aw_round ?_)
      repeat' (first|(apply aw_seq_k;intro K hK)|(refine eM64o ?_)|(refine aw_cond (b:=_) (by exact rfl) (fun h=>?_) (fun h=>?_)<;>(try simp at h))|(refine eB ?_)|(refine hK _ ?_;clear hK)|(clear hK;refine hK _ ?_;clear hK)|(clear hK;clear hK;refine hK _ ?_;clear hK)|(clear hK;clear hK;clear hK;refine hK _ ?_;clear hK))
      refine ⟨p+1,?_,⟨hp8,hnx⟩,by omega⟩
      simp only [hlen]
      refine le_turn (s1:=?tus2) (m1:=?tum2) [] [4,3,1] [0,112] ?tua2 ?tub2 ?tuc2 ?tud2 ?tue2 ?tuf2 ?tug2
      case tua2=>first|(simp [keepS];done)|(simp [keepS];rfl)
      case tub2=>first|(simp;done)|(simp;rfl)
      case tuc2=>simp
      case tud2=>simp
      case tue2=>simp
      case tuf2=>simp
      case tug2 =>
       simp [swp,vr]
       exact dle
     ·simp only [show 8^1=8 from rfl] at hst hnx hp8 hap hlen
      have zS:=jj hilI<|jj hla2<|jj hw0<|jj htk<|jj hap<|hAl
      repeat' (first|(apply aw_seq_k;intro K hK)|(refine eM64 ?_)|(refine aw_cond (b:=_) (by exact rfl) (fun h=>?_) (fun h=>?_)<;>(try simp at h))|(refine eB ?_)|(refine hK _ ?_;clear hK)|(clear hK;refine hK _ ?_;clear hK)|(clear hK;clear hK;refine hK _ ?_;clear hK)|(clear hK;clear hK;clear hK;refine hK _ ?_;clear hK))
      all_goals clear zS
      refine aw_rounds 2 (aw_round ?_)
      repeat' (first|(apply aw_seq_k;intro K hK)|(refine eM64o ?_)|(refine aw_cond (b:=_) (by exact rfl) (fun h=>?_) (fun h=>?_)<;>(try simp at h))|(refine eB ?_)|(refine hK _ ?_;clear hK)|(clear hK;refine hK _ ?_;clear hK)|(clear hK;clear hK;refine hK _ ?_;clear hK)|(clear hK;clear hK;clear hK;refine hK _ ?_;clear hK))
      refine ⟨p+8,?_,⟨hp8,hnx⟩,by omega⟩
      simp only [hlen]
      refine le_turn (s1:=?tus3) (m1:=?tum3) [] [4,3,1] [0,112] ?tua3 ?tub3 ?tuc3 ?tud3 ?tue3 ?tuf3 ?tug3
      case tua3=>first|(simp [keepS];done)|(simp [keepS];rfl)
      case tub3=>first|(simp;done)|(simp;rfl)
      case tuc3=>simp
      case tud3=>simp
      case tue3=>simp
      case tuf3=>simp
      case tug3 =>
       simp [swp,vr]
       exact dle
     ·simp only [show 8^2=64 from rfl] at hst hnx hp8 hap hlen
      have zS:=jj hilI<|jj hla2<|jj hw0<|jj htk<|jj hap<|hAl
      repeat' (first|(apply aw_seq_k;intro K hK)|(refine eM64 ?_)|(refine aw_cond (b:=_) (by exact rfl) (fun h=>?_) (fun h=>?_)<;>(try simp at h))|(refine eB ?_)|(refine hK _ ?_;clear hK)|(clear hK;refine hK _ ?_;clear hK)|(clear hK;clear hK;refine hK _ ?_;clear hK)|(clear hK;clear hK;clear hK;refine hK _ ?_;clear hK))
      all_goals clear zS
      refine aw_rounds 3 (aw_round ?_)
      repeat' (first|(apply aw_seq_k;intro K hK)|(refine eM64o ?_)|(refine aw_cond (b:=_) (by exact rfl) (fun h=>?_) (fun h=>?_)<;>(try simp at h))|(refine eB ?_)|(refine hK _ ?_;clear hK)|(clear hK;refine hK _ ?_;clear hK)|(clear hK;clear hK;refine hK _ ?_;clear hK)|(clear hK;clear hK;clear hK;refine hK _ ?_;clear hK))
      refine ⟨p+64,?_,⟨hp8,hnx⟩,by omega⟩
      simp only [hlen]
      refine le_turn (s1:=?tus4) (m1:=?tum4) [] [4,3,1] [0,112] ?tua4 ?tub4 ?tuc4 ?tud4 ?tue4 ?tuf4 ?tug4
      case tua4=>first|(simp [keepS];done)|(simp [keepS];rfl)
      case tub4=>first|(simp;done)|(simp;rfl)
      case tuc4=>simp
      case tud4=>simp
      case tue4=>simp
      case tuf4=>simp
      case tug4 =>
       simp [swp,vr]
       exact dle
   ·obtain rfl:p=512:=by omega
    have htk:=erows_tkl (lsA (r,ns,ds) 512)
    obtain ⟨A,hA⟩:∃ A,A=lsA (r,ns,ds) 512:=⟨_,rfl⟩
    rw [← hA] at htk ⊢
    repeat' (first|(apply aw_seq_k;intro K hK)|(refine eM64o ?_)|(refine aw_cond (b:=_) (by exact rfl) (fun h=>?_) (fun h=>?_)<;>(try simp at h))|(refine eB ?_)|(refine hK _ ?_;clear hK)|(clear hK;refine hK _ ?_;clear hK)|(clear hK;clear hK;refine hK _ ?_;clear hK)|(clear hK;clear hK;clear hK;refine hK _ ?_;clear hK))
    refine ⟨by simp,?_⟩
    simp [leaves_iff,Try.f29,htk]
    try exact dt
    rw [hA]
 ·have e:lstT (r,ns,ds)=[]:=by unfold lstT;rw [if_neg hc0]
  rw [e]
  obtain ⟨c,hcc⟩:∃ c,c=chk (r,ns,ds):=⟨_,rfl⟩
  rw [← hcc] at hch' hc0
  simp only [TbV] at hch' ⊢
  have zS:=jj hch'<|hc0
  refine dM64 ?_
  repeat (intro K hK)
  clear zS
  refine ⟨by simp,?_⟩
  simp [leaves_iff,Try.f29,erows]
  try exact dt
end Go.AM
namespace Go.AM
open Go Go.Proofs
theorem lsA_s (t:Tb) (n:Nat):lsA t (n+1)=lsA t n++lsF t n:=rfl
attribute [local irreducible] lsA
set_option maxHeartbeats 8000000 in
theorem s52 (X:AX) (hX:XOK Try.prog X) (hw:X.W wT) (hch:∀ t:Tb,tbOK t→∀ M n,X.call 35 [TbV t] M n=some (I (chk t),[]))
  (hst:∀ (t:Tb) (p:Nat),ptO t p→∀ M n,X.call 107 [TbV t,I p] M n=some (.tup [I (lsT t p).1,I (lsT t p).2.1],[]))
  (hdg:∀ (p l:Nat),p<512→l≤2→∀ M n,X.call 108 [I p,I l] M n=some (I (dig p l),[])) :
  PSound Try.prog 52 (specF (ι:={x:Tb // tbOK x}) (fun x=>[TbV x.1]) fun x=>retOf [.ow 2 (erows (lstT x.1))]):=by
 refine psound_spec hX mixed Try.func52 rfl fun ⟨⟨r,ns,ds⟩,ht⟩ w0 G=>⟨by show 1≤49;decide,rfl,?_⟩
 show AW ⟨Try.prog,X,49,w0,.pure G⟩ _ _ _
 have hc:Cx.OK ⟨Try.prog,X,49,w0,.pure G⟩:=⟨hX,mixed⟩
 simp only at ht ⊢
 have hl1:ns.length≤1000000:=ht.2.1
 have hl2:ds.length≤1000000:=ht.2.2
 have hch':=hch _ ht
 rcases Decidable.em (chk (r,ns,ds)=0) with hc0|hc0
 ·have e:lstT (r,ns,ds)=lsA (r,ns,ds) 512:=by unfold lstT;rw [if_pos hc0]
  have hpv:=chk_pv ht hc0
  have hst':=fun p hp=>hst _ p (hpv.pto ht (p:=p) hp)
  rw [e]
  rw [hc0] at hch'
  simp only [TbV] at hch' hst' ⊢
  have zS:=hch'
  repeat' (first|(apply aw_seq_k;intro K hK)|(refine eM64 ?_)|(refine aw_cond (b:=_) (by exact rfl) (fun h=>?_) (fun h=>?_)<;>(try simp at h))|(refine eB ?_)|(refine hK _ ?_;clear hK)|(clear hK;refine hK _ ?_;clear hK)|(clear hK;clear hK;refine hK _ ?_;clear hK)|(clear hK;clear hK;clear hK;refine hK _ ?_;clear hK))
  all_goals clear zS
  refine aw_weaken (le_nilslot (t:=3) (sz:=2) (by simp)) ?_
  refine aw_loopK (s0:=?lps1) (m0:=?lpm1) (ι:={p:Nat // p≤512}) [1] (fun s=>[(4,I s.1),(3,.sl 112 1 2 0 (lsA (r,ns,ds) s.1).length)]) (fun s=>[(112,.vec 1 2 false (erows (lsA (r,ns,ds) s.1)))]) (fun s=>512 - s.1) ⟨0,by omega⟩ ?lhs1 ?lhm1 ?_ ?_
  case lhs1=>first|(simp [keepS];done)|(simp [keepS];rfl)
  case lhm1=>first|rfl|(simp;done)|(simp;rfl)
  ·simp only [lsA_0]
   exact le_of2 (by simp) (by simp [AVle,AV.under,AV.underL,erows]<;>omega) (by simp [AOle,AO.under,AV.underL,AV.under,erows]<;>omega)
  ·rintro ⟨p,hp⟩
   simp only
   rcases Decidable.em (p<512) with hil|hil
   ·have hilI:(p:Int)<512:=by omega
    have hst2:=hst' p hil
    have hsA:lsA (r,ns,ds) (p+1)=lsA (r,ns,ds) p++lsF (r,ns,ds) p:=lsA_s _ _
    have hwo:=lst_word (ns:=ns) (p:=p) (l:=2) (n:=rtN (r,ns,ds))
    rw [show lst ns p 2 (rtN (r,ns,ds))=lsT (r,ns,ds) p from rfl] at hwo
    obtain ⟨hlt1,hlt2⟩:=lsT_lt hpv hil
    unfold lsF at hsA
    obtain ⟨⟨a,b,c⟩,hS⟩:∃ S,S=lsT (r,ns,ds) p:=⟨_,rfl⟩
    rw [← hS] at hst2 hwo hlt1 hlt2 hsA
    simp only at hwo hlt1 hlt2 hst2 hsA
    have haN:(a:Int)<(ns.length:Int):=by omega
    have hdg':=hdg p b hil hlt2
    rw [dig_dgt hil hlt2] at hdg'
    have hdl:=dgt_lt p b
    have hgn:=nrows_gi hlt1
    have hgnE:=nrows_gE hlt1
    have h8:(gn ns a).2.length=8:=(ht.1 _ (gn_mem hlt1)).1
    have hw8:=wcs_gi (l:=(gn ns a).2) (i:=dgt p b) (by omega)
    have hwE:=wcs_gE (l:=(gn ns a).2) (i:=dgt p b) (by omega)
    have hwg:(gn ns a).2.getD (dgt p b) 0=c:=hwo.symm
    rw [hwg] at hw8 hwE
    have hwl:(wcs (gn ns a).2).length=8:=by simp [h8]
    obtain ⟨⟨fr,ws⟩,hm⟩:∃ m,m=gn ns a:=⟨_,rfl⟩
    rw [← hm] at hgn hgnE hw8 hwE hwl
    simp only at hgn hgnE hw8 hwE hwl
    obtain ⟨cs,hcs⟩:∃ cs,cs=wcs ws:=⟨_,rfl⟩
    rw [← hcs] at hgn hgnE hw8 hwE hwl
    obtain ⟨dg,hdg0⟩:∃ dg,dg=dgt p b:=⟨_,rfl⟩
    rw [← hdg0] at hdl hw8 hwE hdg'
    have hdI:(dg:Int)<8:=by omega
    have hAl:=@lsA_le (r,ns,ds) p
    obtain ⟨A,hA⟩:∃ A,A=lsA (r,ns,ds) p:=⟨_,rfl⟩
    rw [← hA] at hsA hAl ⊢
    clear hcs hm h8 hwg hwo hS
    have htk:=erows_tkl A
    have hap:=erows_ap A p c
    simp only [U] at hw8 hwE
    have hmod:(p:Int).tmod 8=((p%8:Nat):Int):=by rw [Int.tmod_eq_emod_of_nonneg (by omega)];omega
    rcases Decidable.em (c=0) with hc1|hc1
    ·subst hc1
     rw [if_neg (by simp),List.append_nil] at hsA
     rw [show ((0:Nat):Int)=0 from rfl] at hw8 hwE
     have zS:=jj hilI<|jj hst2<|jj hdg'<|jj hlt1<|jj haN<|jj hgn<|jj hgnE<|jj hw8<|jj hwE<|jj hwl<|jj hdl<|hdI
     repeat' (first|(apply aw_seq_k;intro K hK)|(refine eM64 ?_)|(refine aw_cond (b:=_) (by exact rfl) (fun h=>?_) (fun h=>?_)<;>(try simp at h))|(refine eB ?_)|(refine hK _ ?_;clear hK)|(clear hK;refine hK _ ?_;clear hK)|(clear hK;clear hK;refine hK _ ?_;clear hK)|(clear hK;clear hK;clear hK;refine hK _ ?_;clear hK))
     all_goals clear zS
     refine ⟨p+1,?_,by omega,by omega⟩
     simp only [hsA]
     exact dle
    ·have hc2:¬ (c:Int)=0:=by omega
     rcases Decidable.em (b=0) with hb|hb
     ·subst hb
      rw [if_pos ⟨hc1,.inl rfl⟩] at hsA
      rw [← hsA] at hap
      have hlen:A.length+1=(lsA (r,ns,ds) (p+1)).length:=by rw [hsA];simp
      rw [show ((0:Nat):Int)=0 from rfl] at hst2 hdg'
      have zS:=jj hilI<|jj hst2<|jj hdg'<|jj hlt1<|jj haN<|jj hgn<|jj hgnE<|jj hw8<|jj hwE<|jj hwl<|jj hdl<|jj hdI<|jj hc1<|jj hc2<|jj htk<|jj hap<|hAl
      repeat' (first|(apply aw_seq_k;intro K hK)|(refine eM64 ?_)|(refine aw_cond (b:=_) (by exact rfl) (fun h=>?_) (fun h=>?_)<;>(try simp at h))|(refine eB ?_)|(refine hK _ ?_;clear hK)|(clear hK;refine hK _ ?_;clear hK)|(clear hK;clear hK;refine hK _ ?_;clear hK)|(clear hK;clear hK;clear hK;refine hK _ ?_;clear hK))
      all_goals clear zS
      refine ⟨p+1,?_,by omega,by omega⟩
      simp only [hlen]
      refine le_turn (s1:=?tus2) (m1:=?tum2) [] [4,3,1] [0,112] ?tua2 ?tub2 ?tuc2 ?tud2 ?tue2 ?tuf2 ?tug2
      case tua2=>first|(simp [keepS];done)|(simp [keepS];rfl)
      case tub2=>first|(simp;done)|(simp;rfl)
      case tuc2=>simp
      case tud2=>simp
      case tue2=>simp
      case tuf2=>simp
      case tug2 =>
       simp [swp,vr]
       exact dle
     ·have hbI:¬ (b:Int)=0:=by omega
      rcases Decidable.em (p%8=0) with hm8|hm8
      ·rw [if_pos ⟨hc1,.inr hm8⟩] at hsA
       rw [← hsA] at hap
       rw [hm8,show ((0:Nat):Int)=0 from rfl] at hmod
       have hlen:A.length+1=(lsA (r,ns,ds) (p+1)).length:=by rw [hsA];simp
       have zS:=jj hilI<|jj hst2<|jj hdg'<|jj hlt1<|jj haN<|jj hgn<|jj hgnE<|jj hw8<|jj hwE<|jj hwl<|jj hdl<|jj hdI<|jj hc1<|jj hc2<|jj htk<|jj hap<|jj hAl<|jj hb<|jj hbI<|hmod
       repeat' (first|(apply aw_seq_k;intro K hK)|(refine eM64 ?_)|(refine aw_cond (b:=_) (by exact rfl) (fun h=>?_) (fun h=>?_)<;>(try simp at h))|(refine eB ?_)|(refine hK _ ?_;clear hK)|(clear hK;refine hK _ ?_;clear hK)|(clear hK;clear hK;refine hK _ ?_;clear hK)|(clear hK;clear hK;clear hK;refine hK _ ?_;clear hK))
       all_goals clear zS
       refine ⟨p+1,?_,by omega,by omega⟩
       simp only [hlen]
       refine le_turn (s1:=?tus3) (m1:=?tum3) [] [4,3,1] [0,112] ?tua3 ?tub3 ?tuc3 ?tud3 ?tue3 ?tuf3 ?tug3
       case tua3=>first|(simp [keepS];done)|(simp [keepS];rfl)
       case tub3=>first|(simp;done)|(simp;rfl)
       case tuc3=>simp
       case tud3=>simp
       case tue3=>simp
       case tuf3=>simp
       case tug3 =>
        simp [swp,vr]
        exact dle
      ·rw [if_neg (fun h=>h.2.elim hb hm8),List.append_nil] at hsA
       have hm9:¬ ((p%8:Nat):Int)=0:=by omega
       obtain ⟨q8,hq8⟩:∃ q:Int,q=((p%8:Nat):Int):=⟨_,rfl⟩
       rw [← hq8] at hmod hm9
       have zS:=jj hilI<|jj hst2<|jj hdg'<|jj hlt1<|jj haN<|jj hgn<|jj hgnE<|jj hw8<|jj hwE<|jj hwl<|jj hdl<|jj hdI<|jj hc1<|jj hc2<|jj hb<|jj hbI<|jj hmod<|hm9
       repeat' (first|(apply aw_seq_k;intro K hK)|(refine eM64 ?_)|(refine aw_cond (b:=_) (by exact rfl) (fun h=>?_) (fun h=>?_)<;>(try simp at h))|(refine eB ?_)|(refine hK _ ?_;clear hK)|(clear hK;refine hK _ ?_;clear hK)|(clear hK;clear hK;refine hK _ ?_;clear hK)|(clear hK;clear hK;clear hK;refine hK _ ?_;clear hK))
       all_goals clear zS
       refine ⟨p+1,?_,by omega,by omega⟩
       simp only [hsA]
       exact dle
   ·obtain rfl:p=512:=by omega
    have htk:=erows_tkl (lsA (r,ns,ds) 512)
    obtain ⟨A,hA⟩:∃ A,A=lsA (r,ns,ds) 512:=⟨_,rfl⟩
    rw [← hA] at htk ⊢
    repeat' (first|(apply aw_seq_k;intro K hK)|(refine eM64o ?_)|(refine aw_cond (b:=_) (by exact rfl) (fun h=>?_) (fun h=>?_)<;>(try simp at h))|(refine eB ?_)|(refine hK _ ?_;clear hK)|(clear hK;refine hK _ ?_;clear hK)|(clear hK;clear hK;refine hK _ ?_;clear hK)|(clear hK;clear hK;clear hK;refine hK _ ?_;clear hK))
    refine ⟨by simp,?_⟩
    simp [leaves_iff,Try.f52,htk]
    try exact dt
    rw [hA]
 ·have e:lstT (r,ns,ds)=[]:=by unfold lstT;rw [if_neg hc0]
  rw [e]
  obtain ⟨c,hcc⟩:∃ c,c=chk (r,ns,ds):=⟨_,rfl⟩
  rw [← hcc] at hch' hc0
  simp only [TbV] at hch' ⊢
  have zS:=jj hch'<|hc0
  refine dM64 ?_
  repeat (intro K hK)
  clear zS
  refine ⟨by simp,?_⟩
  simp [leaves_iff,Try.f52,erows]
  try exact dt
end Go.AM
namespace Go.AM
open Go Go.Proofs
def numC (t:Tb):Bool :=
 decide (∀ n∈t.2.1,frmN n.1)&&(decide (∀ d∈t.2.2,frmN d.2∧0≤d.1∧d.1<64)&&(decide (t.2.1.Pairwise fun a b=>a.1<b.1)&&(decide (t.2.2.Pairwise fun a b=>a.1<b.1) &&
 (decide (∀ d∈t.2.2,∀ n∈t.2.1,n.1≠d.2)&&(decide (t.2.2.Pairwise fun a b=>a.2≠b.2)&&decide (∃ n∈t.2.1,n.1=t.1))))))
def chkC (t:Tb):Bool:=numC t&&decide ((wkA t).1=true∧false ∉ (wkA t).2.1∧(wkA t).2.2=t.2.2.map (·.1))
def hT:Tb:=(10,[(10,[0,2820,0,0,0,0,0,0]),(11,[0,4201,0,0,0,0,0,0])],[(9,12)])
theorem hC:chkC hT=true:=by kernel_rfl
end Go.AM
namespace Go.AM
open Go Go.Proofs
noncomputable def repP (t:Tb) (p:Int) (w:Nat):Tb×Nat×Int :=
 if ckd t p 512≠0 then (zT,0,ckd t p 512)
 else if (lsT t p.toNat).2.2=0 then (zT,0,6)
 else if (decR w).2≠0∨(decR w).1.1=0∨(decR w).1.1=4∨suitB (decR w).1 (lsT t p.toNat).2.1=false then (zT,0,3)
 else (putT t p.toNat w,(lsT t p.toNat).2.2,0)
set_option maxHeartbeats 8000000 in
theorem s50 (X:AX) (hX:XOK Try.prog X) (hw:X.W wT) (hck:∀ t:Tb,tbOK t→∀ (n lim:Int) M k,X.call 104 [TbV t,I n,I lim] M k=some (I (ckd t n lim),[]))
  (hla:∀ (t:Tb) (p:Nat),ptO t p→∀ M n,X.call 72 [TbV t,I p] M n=some (stV (lsT t p),[]))
  (hdc:∀ n:Nat,n<2^64→∀ M k,X.call 30 [U n] M k=some (.tup [EnV (decR n).1,I (decR n).2],[]))
  (hsu:∀ (e:En) (l:Nat) M n,X.call 70 [EnV e,I l] M n=some (B (suitB e l),[]))
  (hcl:∀ t:Tb,tbOK t→∀ M n,X.call 105 [TbV t] M n=some (TbC t n,[(n,.vec 1 9 false (nrows t.2.1)),(n+1,.vec 1 2 false (prows t.2.2))]))
  (hpu:X.call 106=callG puS) :
  PSound Try.prog 50 (specF (ι:={x:Tb×Int×Nat // tbOK x.1∧x.2.2<2^64}) (fun x=>[TbV x.1.1,I x.1.2.1,U x.1.2.2]) fun x=>retOf [TbO (repP x.1.1 x.1.2.1 x.1.2.2).1,U (repP x.1.1 x.1.2.1 x.1.2.2).2.1,I (repP x.1.1 x.1.2.1 x.1.2.2).2.2]):=by
 refine psound_spec hX mixed Try.func50 rfl fun ⟨⟨⟨r,ns,ds⟩,pI,w⟩,ht,hw64⟩ w0 G=>⟨by show 3≤61;decide,rfl,?_⟩
 show AW ⟨Try.prog,X,61,w0,.pure G⟩ _ _ _
 have hc:Cx.OK ⟨Try.prog,X,61,w0,.pure G⟩:=⟨hX,mixed⟩
 simp only at hw64 ht ⊢
 have hck':=hck _ ht pI 512
 have hl1:ns.length≤1000000:=ht.2.1
 have hl2:ds.length≤1000000:=ht.2.2
 rcases Decidable.em (ckd (r,ns,ds) pI 512≠0) with hk|hk
 ·have e:repP (r,ns,ds) pI w=(zT,0,ckd (r,ns,ds) pI 512):=by unfold repP;rw [if_pos hk]
  rw [e]
  obtain ⟨c,hc0⟩:∃ c,c=ckd (r,ns,ds) pI 512:=⟨_,rfl⟩
  rw [← hc0] at hck' hk ⊢
  simp only [TbV,TbO,zT,U] at hck' ⊢
  have zS:=jj hck'<|hk
  refine dM64 ?_
  repeat (intro K hK)
  clear zS
  refine ⟨by simp,?_⟩
  simp [leaves_iff,Try.f50,nrows,prows]
  try exact dt
 ·obtain ⟨hpv,hp0,hp1⟩:=ckd_pt ht hk
  obtain ⟨p,rfl⟩:=Int.eq_ofNat_of_zero_le hp0
  have hp:p<512:=by omega
  have hz:ckd (r,ns,ds) p 512=0:=by omega
  rw [hz] at hck'
  have hdc':=hdc w hw64
  have hla':=hla _ _ (hpv.pto ht hp)
  have hcl':=hcl _ ht
  have hpu':=fun a b c hab hac hbc M n=>@callPu a b c hab hac hbc r ns ds p w (hpv.pto ht hp) hw64 0 0 M n
  rw [← hpu] at hpu'
  have hPl:(putT (r,ns,ds) p w).2.1.length=ns.length:=setN_len
  have hP0:putT (r,ns,ds) p w=(r,(putT (r,ns,ds) p w).2.1,ds):=rfl
  have eS:repP (r,ns,ds) p w=if (lsT (r,ns,ds) p).2.2=0 then (zT,0,6) else if (decR w).2≠0∨(decR w).1.1=0∨(decR w).1.1=4∨suitB (decR w).1 (lsT (r,ns,ds) p).2.1=false then (zT,0,3) else (putT (r,ns,ds) p w,(lsT (r,ns,ds) p).2.2,0):=by
   unfold repP
   rw [if_neg hk,Int.toNat_natCast]
  rw [eS,hP0]
  obtain ⟨R,hR⟩:∃ R,R=(putT (r,ns,ds) p w).2.1:=⟨_,rfl⟩
  rw [← hR] at hPl hpu' ⊢
  clear hR hP0 eS
  obtain ⟨⟨a0,l0,w0'⟩,hS⟩:∃ S,S=lsT (r,ns,ds) p:=⟨_,rfl⟩
  rw [← hS] at hla' ⊢
  have hsu':=hsu (decR w).1 l0
  obtain ⟨⟨⟨k,f,d,a,x,h⟩,e⟩,hE⟩:∃ r,r=decR w:=⟨_,rfl⟩
  rw [← hE] at hdc' hsu' ⊢
  simp only at hsu' ⊢
  obtain ⟨su,hsu0⟩:∃ b,b=suitB (k,f,d,a,x,h) l0:=⟨_,rfl⟩
  rw [← hsu0] at hsu' ⊢
  clear hS hE hsu0 hck hla hdc hsu
  simp only [TbV,TbO,TbC,EnV,stV,srow,U,Nat.zero_add] at hck' hla' hdc' hcl' hsu' hpu' ⊢
  rcases Decidable.em (w0'=0) with hw0|hw0
  ·subst hw0
   rw [if_pos rfl]
   simp only [zT]
   have zS:=jj hck'<|hla'
   refine dM64 ?_
   repeat (intro K hK)
   clear zS
   all_goals refine ⟨by simp,?_⟩
   all_goals simp [leaves_iff,Try.f50,nrows,prows]
   all_goals try exact dt
  ·rw [if_neg hw0]
   have hw0I:¬ (w0':Int)=0:=by omega
   rcases Decidable.em (e=0) with he|he
   ·subst he
    rcases Decidable.em (k=0) with hk1|hk1
    ·subst hk1
     rw [if_pos (by simp)]
     simp only [zT]
     have zS:=jj hck'<|jj hla'<|jj hdc'<|jj hw0<|hw0I
     refine dM64 ?_
     repeat (intro K hK)
     clear zS
     all_goals refine ⟨by simp,?_⟩
     all_goals simp [leaves_iff,Try.f50,nrows,prows]
     all_goals try exact dt
    ·rcases Decidable.em (k=4) with hk2|hk2
     ·subst hk2
      rw [if_pos (by simp)]
      simp only [zT]
      have zS:=jj hck'<|jj hla'<|jj hdc'<|jj hw0<|hw0I
      refine dM64 ?_
      repeat (intro K hK)
      clear zS
      all_goals refine ⟨by simp,?_⟩
      all_goals simp [leaves_iff,Try.f50,nrows,prows]
      all_goals try exact dt
     ·cases su with
      | false =>
       rw [if_pos (by simp)]
       simp only [zT]
       have zS:=jj hck'<|jj hla'<|jj hdc'<|jj hw0<|jj hw0I<|jj hk1<|jj hk2<|hsu'
       refine dM64 ?_
       repeat (intro K hK)
       clear zS
       all_goals refine ⟨by simp,?_⟩
       all_goals simp [leaves_iff,Try.f50,nrows,prows]
       all_goals try exact dt
      | true =>
       rw [if_neg (by simp [hk1,hk2])]
       have hpq:=hpu' 752 736 737 (by decide) (by decide) (by decide)
       have zS:=jj hck'<|jj hla'<|jj hdc'<|jj hw0<|jj hw0I<|jj hk1<|jj hk2<|jj hsu'<|jj hcl'<|hpq
       refine dF64 ?_
       repeat (intro K hK)
       clear zS
       have tkR:List.take ns.length (nrows R)=nrows R:=List.take_of_length_le (by simp;omega)
       have tkd:List.take ds.length (prows ds)=prows ds:=List.take_of_length_le (by simp)
       refine ⟨by simp,?_⟩
       simp [leaves_iff,Try.f50,hPl,tkR,tkd]
       try exact dt
   ·rw [if_pos (by simp [he])]
    simp only [zT]
    have zS:=jj hck'<|jj hla'<|jj hdc'<|jj hw0<|jj hw0I<|he
    refine dM64 ?_
    repeat (intro K hK)
    clear zS
    all_goals refine ⟨by simp,?_⟩
    all_goals simp [leaves_iff,Try.f50,nrows,prows]
    all_goals try exact dt
end Go.AM
namespace Go.AM
open Go Go.Proofs
def OwT (M:Nat→AO) (t:Tb) (a va b vb:Nat):Prop:=(∃ f,M a=.vec va 9 f (nrows t.2.1))∧∃ f,M b=.vec vb 2 f (prows t.2.2)
def TbS (t:Tb) (a va b vb:Nat):AV:=.agg [I t.1,.sl a va 9 0 t.2.1.length,.sl b vb 2 0 t.2.2.length]
theorem peek_tab {M:Nat→AO} {t:Tb} {a va b vb:Nat} {rest rs:List AV} (h:OwT M t a va b vb) (hr:peekVals M rest=some rs):peekVals M (TbS t a va b vb::rest)=some (TbV t::rs):=by
 obtain ⟨⟨f1,h1⟩,f2,h2⟩:=h
 have e1:List.take t.2.1.length (nrows t.2.1)=nrows t.2.1:=List.take_of_length_le (by simp)
 have e2:List.take t.2.2.length (prows t.2.2)=prows t.2.2:=List.take_of_length_le (by simp)
 simp [TbS,TbV,hr,h1,h2,e1,e2]
end Go.AM
namespace Go.AM
open Go Go.Proofs
noncomputable def FbF:List AV→Option AV:=specF (ι:=Bool×Int) (fun x=>[B x.1,U x.2]) fun x=>retOf [U (fb x.1 x.2)]
theorem cFb (b:Bool) (c:Int) (M:Nat→AO) (n:Nat):callP FbF [B b,.v (.int .u64 c)] M n=some (.v (.int .u64 (fb b c)),[]) :=
 callP_spec (ι:=Bool×Int) (A:=fun x=>[B x.1,U x.2]) (R:=fun x=>retOf [U (fb x.1 x.2)]) (b,c) (by simp [U]) (by
  rintro ⟨b',c'⟩ e
  simp [B,U] at e;obtain ⟨rfl,rfl⟩:=e;rfl) (by simp [U])
noncomputable def FmF:List AV→Option AV:=specF (ι:={e:En // 0≤e.1∧e.1≤4}) (fun x=>[EnV x.1]) fun x=>retOf [B (frmE x.1)]
theorem cFm (k f:Int) (d a x h:Bool) (hk:0≤k∧k≤4) (M:Nat→AO) (n:Nat):callP FmF [.agg [I k,I f,B d,B a,B x,B h]] M n=some (B (frmE (k,f,d,a,x,h)),[]) :=
 callP_spec (ι:={e:En // 0≤e.1∧e.1≤4}) (A:=fun x=>[EnV x.1]) (R:=fun x=>retOf [B (frmE x.1)]) ⟨(k,f,d,a,x,h),hk⟩ (by simp [EnV]) (by
  rintro ⟨e',h'⟩ e
  simp only [List.cons.injEq,EnV_inj,and_true] at e;subst e;rfl) (by simp)
noncomputable def EncF:List AV→Option AV:=specF (ι:=En) (fun x=>[EnV x]) fun x=>retOf [U (encR x).1,I (encR x).2]
theorem cEn (k f:Int) (d a x h:Bool) (M:Nat→AO) (n:Nat):callP EncF [.agg [I k,I f,B d,B a,B x,B h]] M n=some (.tup [U (encR (k,f,d,a,x,h)).1,I (encR (k,f,d,a,x,h)).2],[]) :=
 callP_spec (ι:=En) (A:=fun x=>[EnV x]) (R:=fun x=>retOf [U (encR x).1,I (encR x).2]) (k,f,d,a,x,h) (by simp [EnV]) (by
  rintro e' e
  simp only [List.cons.injEq,EnV_inj,and_true] at e;subst e;rfl) (by simp [U])
noncomputable def DecF:List AV→Option AV:=specF (ι:={n:Nat // n<2^64}) (fun x=>[U x.1]) fun x=>retOf [EnV (decR x.1).1,I (decR x.1).2]
theorem u_inj {a b:Nat} (h:[U a]=[U b]):a=b:=by
 simp only [List.cons.injEq,U,AV.v.injEq,Value.int.injEq,true_and,and_true] at h;omega
theorem cDe (w:Nat) (hw:w<2^64) (M:Nat→AO) (n:Nat):callP DecF [U w] M n=some (.tup [EnV (decR w).1,I (decR w).2],[]) :=
 callP_spec (ι:={n:Nat // n<2^64}) (A:=fun x=>[U x.1]) (R:=fun x=>retOf [EnV (decR x.1).1,I (decR x.1).2]) ⟨w,hw⟩ (by simp [U]) (by
  rintro ⟨w',h'⟩ e
  have:=u_inj e
  simp only at this
  subst this;rfl) (by simp [EnV])
noncomputable def Te0:AX:=(((((AX.start wT).eqAt 65).eqAt 102).eqAt 63).eqAt 52).eqAt 54
theorem te0:XOK Try.prog Te0:=xok_eq (xok_eq (xok_eq (xok_eq (xok_eq (xok_start _ _) eqE) eqD) eqPE) eqW8) eqN
theorem w0T:Te0.W wT:=⟨rfl,rfl⟩
noncomputable def Te1:AX:=Te0.add 123 (callP FbF)
theorem te1:XOK Try.prog Te1:=xok_spec te0 (s123 Te0 te0) (fun _=>trivial) Try.func123 (by kernel_rfl)
noncomputable def Te2:AX:=Te1.add 140 (callP FbF)
theorem te2:XOK Try.prog Te2:=xok_spec te1 (s140 Te1 te1) (fun _=>trivial) Try.func140 (by kernel_rfl)
noncomputable def Te3:AX:=Te2.add 122 (callP FmF)
theorem te3:XOK Try.prog Te3:=xok_spec te2 (s122 Te2 te2 w0T rfl) (fun _=>trivial) Try.func122 (by kernel_rfl)
noncomputable def Te4:AX:=Te3.add 139 (callP FmF)
theorem te4:XOK Try.prog Te4:=xok_spec te3 (s139 Te3 te3 w0T rfl) (fun _=>trivial) Try.func139 (by kernel_rfl)
theorem enc_flat (x:En):(retOf [U (encR x).1,I (encR x).2]).flat:=by simp [retOf,AV.flat,AV.flatV,AV.flat1,U]
theorem dec_flat (n:Nat):(retOf [EnV (decR n).1,I (decR n).2]).flat:=by simp [retOf,AV.flat,AV.flatV,AV.flat1,EnV]
noncomputable def Te5:AX:=Te4.add 73 (callP EncF)
theorem te5:XOK Try.prog Te5:=xok_spec te4 (s73 Te4 te4 w0T cFm cFb) (fun x=>enc_flat x) Try.func73 (by kernel_rfl)
noncomputable def Te6:AX:=Te5.add 109 (callP EncF)
theorem te6:XOK Try.prog Te6:=xok_spec te5 (s109 Te5 te5 w0T cFm cFb) (fun x=>enc_flat x) Try.func109 (by kernel_rfl)
noncomputable def Te7:AX:=Te6.add 30 (callP DecF)
theorem te7:XOK Try.prog Te7:=xok_spec te6 (s30 Te6 te6 w0T cEn) (fun x=>dec_flat x.1) Try.func30 (by kernel_rfl)
noncomputable def Te8:AX:=Te7.add 96 (callP DecF)
theorem te8:XOK Try.prog Te8:=xok_spec te7 (s96 Te7 te7 w0T cEn) (fun x=>dec_flat x.1) Try.func96 (by kernel_rfl)
end Go.AM
namespace Go.AM
open Go Go.Proofs
theorem nrow_pl {l:List Nd}:∀ e∈nrows l,∀ a∈e,a.plain:=by
 intro e he a ha
 obtain ⟨x,_,rfl⟩:=List.mem_map.1 he
 simp only [nrow,wcs,List.mem_cons,List.mem_map] at ha
 rcases ha with rfl|⟨y,_,rfl⟩<;>trivial
theorem prow_pl {l:List Dp}:∀ e∈prows l,∀ a∈e,a.plain:=by
 intro e he a ha
 obtain ⟨x,_,rfl⟩:=List.mem_map.1 he
 simp at ha
 rcases ha with rfl|rfl<;>trivial
theorem srow_pl {l:List Stp}:∀ e∈srows l,∀ a∈e,a.plain:=by
 intro e he a ha
 obtain ⟨x,_,rfl⟩:=List.mem_map.1 he
 simp [srow] at ha
 rcases ha with rfl|rfl|rfl<;>trivial
theorem erow_pl {l:List Pe}:∀ e∈erows l,∀ a∈e,a.plain:=by
 intro e he a ha
 obtain ⟨x,_,rfl⟩:=List.mem_map.1 he
 simp [erow] at ha
 rcases ha with rfl|rfl<;>trivial
theorem mem_mset:∀ {l:List (List Int×AV)} {q:List Int} {b:AV} {p:List Int×AV},p∈mset l q b→p∈l∨p=(q,b)
 | [],q,b,p,h=>by simp [mset] at h;exact .inr h
 | (k,a)::r,q,b,p,h=>by
  simp only [mset] at h
  split at h
  ·rcases List.mem_cons.1 h with h|h
   ·exact .inr h
   ·exact .inl (by simp [h])
  ·rcases List.mem_cons.1 h with h|h
   ·exact .inl (by simp [h])
   ·rcases mem_mset h with h|h
    ·exact .inl (by simp [h])
    ·exact .inr h
theorem idxE_pl {ns:List Nd}:∀ {n:Nat},∀ p∈idxE ns n,p.2.plain
 | 0,p,h=>by simp [idxE] at h
 | n+1,p,h=>by
  simp only [idxE] at h
  rcases mem_mset h with h|h
  ·exact idxE_pl p h
  ·rw [h];trivial
theorem TbO_fl {t:Tb}:(TbO t).flatV:=by
 intro a ha
 simp at ha
 rcases ha with rfl|rfl|rfl
 ·trivial
 ·exact nrow_pl
 ·exact prow_pl
theorem cT1 {D:Tb→Prop} {R:Tb→AV} {t:Tb} (h:D t) (M:Nat→AO) (n:Nat) {a:AV} {u:List (Nat×AO)} {k:Nat} (ho:openRet n (R t)=(a,u,k)) (hk:k≤n+16):callP (specF (ι:={x:Tb // D x}) (fun x=>[TbV x.1]) fun x=>R x.1) [TbV t] M n=some (a,u):=by
 rw [callP_spec (ι:={x:Tb // D x}) (A:=fun x=>[TbV x.1]) (R:=fun x=>R x.1) ⟨t,h⟩ (by simp [TbV]) ?_ (by rw [ho];exact hk),ho]
 rintro ⟨j,hj⟩ e
 simp only [List.cons.injEq,TbV_inj,and_true] at e
 subst e;rfl
theorem cT2 {D:Tb→Int→Prop} {R:Tb→Int→AV} {t:Tb} {x:Int} (h:D t x) (M:Nat→AO) (n:Nat) {a:AV} {u:List (Nat×AO)} {k:Nat} (ho:openRet n (R t x)=(a,u,k)) (hk:k≤n+16):callP (specF (ι:={x:Tb×Int // D x.1 x.2}) (fun x=>[TbV x.1.1,I x.1.2]) fun x=>R x.1.1 x.1.2) [TbV t,I x] M n=some (a,u):=by
 rw [callP_spec (ι:={x:Tb×Int // D x.1 x.2}) (A:=fun x=>[TbV x.1.1,I x.1.2]) (R:=fun x=>R x.1.1 x.1.2) ⟨(t,x),h⟩ (by simp [TbV]) ?_ (by rw [ho];exact hk),ho]
 rintro ⟨⟨j,y⟩,hj⟩ e
 simp only [List.cons.injEq,TbV_inj,I,AV.v.injEq,Value.int.injEq,true_and,and_true] at e
 obtain ⟨rfl,rfl⟩:=e;rfl
theorem cT3 {D:Tb→Nat→Prop} {R:Tb→Nat→AV} {t:Tb} {x:Nat} (h:D t x) (M:Nat→AO) (n:Nat) {a:AV} {u:List (Nat×AO)} {k:Nat} (ho:openRet n (R t x)=(a,u,k)) (hk:k≤n+16):callP (specF (ι:={x:Tb×Nat // D x.1 x.2}) (fun x=>[TbV x.1.1,I x.1.2]) fun x=>R x.1.1 x.1.2) [TbV t,I x] M n=some (a,u):=by
 rw [callP_spec (ι:={x:Tb×Nat // D x.1 x.2}) (A:=fun x=>[TbV x.1.1,I x.1.2]) (R:=fun x=>R x.1.1 x.1.2) ⟨(t,x),h⟩ (by simp [TbV]) ?_ (by rw [ho];exact hk),ho]
 rintro ⟨⟨j,y⟩,hj⟩ e
 simp only [List.cons.injEq,TbV_inj,I,AV.v.injEq,Value.int.injEq,true_and,and_true,Int.ofNat_inj] at e
 obtain ⟨rfl,rfl⟩:=e;rfl
theorem oT3 {D:Tb→Nat→Prop} {R:Tb→Nat→AV} {t:Tb} {x:Nat} (h:D t x) {p vp q vq:Nat} {M:Nat→AO} (hM:OwT M t p vp q vq) (n:Nat) {a:AV} {u:List (Nat×AO)} {k:Nat} (ho:openRet n (R t x)=(a,u,k)) (hk:k≤n+16):callP (specF (ι:={x:Tb×Nat // D x.1 x.2}) (fun x=>[TbV x.1.1,I x.1.2]) fun x=>R x.1.1 x.1.2) [TbS t p vp q vq,I x] M n=some (a,u):=by
 rw [callP_spec (ι:={x:Tb×Nat // D x.1 x.2}) (A:=fun x=>[TbV x.1.1,I x.1.2]) (R:=fun x=>R x.1.1 x.1.2) ⟨(t,x),h⟩ (peek_tab hM (by simp)) ?_ (by rw [ho];exact hk),ho]
 rintro ⟨⟨j,y⟩,hj⟩ e
 simp only [List.cons.injEq,TbV_inj,I,AV.v.injEq,Value.int.injEq,true_and,and_true,Int.ofNat_inj] at e
 obtain ⟨rfl,rfl⟩:=e;rfl
end Go.AM
