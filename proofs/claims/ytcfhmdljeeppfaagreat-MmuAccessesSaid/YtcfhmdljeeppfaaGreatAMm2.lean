/- A part of the proof: what functions of the program compute, by abstract execution of their code. Its theorems hold without further condition. -/
import Derived.Test.YtcfhmdljeeppfaaGreatAPt53
import Derived.Test.YtcfhmdljeeppfaaGreatAAmQ
set_option linter.all false
set_option maxHeartbeats 4000000
namespace Go.AM
open Go Go.Proofs
inductive Fk where
 | ck (x:Te)
 | fl (x:Te)
 | iv (s p:Int)
def fkA:Fk→AV
 | .ck x=>.fn 167 [.rp [I x.1,I x.2.1,U x.2.2]]
 | .fl x=>.fn 173 [.rp [I x.1,I x.2.1,U x.2.2]]
 | .iv s p=>.fn 171 [.rp [I s],.rp [I p]]
def fkP:Fk→Te→Bool
 | .ck x,y=>ovB x y
 | .fl x,y=>ovB x y
 | .iv s p,y=>cvB y s p
def fkO:Fk→Prop
 | .ck x=>teOK x
 | .fl x=>teOK x
 | .iv _ _=>True
theorem rp_inj {a b:Te}:([I a.1,I a.2.1,U a.2.2]:List AV)=[I b.1,I b.2.1,U b.2.2]↔a=b:=@trow_inj a b
theorem fkA_inj {a b:Fk}:fkA a=fkA b↔a=b:=by
 cases a<;>cases b<;>simp [fkA,I,U,Prod.ext_iff]
 all_goals omega
def fsI (p:Te→Bool) (l:List Te):Int:=if l.findIdx p<l.length then (l.findIdx p:Int) else -1
theorem fsI_at {p:Te→Bool} {l:List Te} {i:Nat} (hi:i<l.length) (hp:p (gt l i)=true) (hn:∀ j,j<i→p (gt l j)=false):fsI p l=i:=by
 have:l.findIdx p=i:=by
  rw [List.findIdx_eq hi]
  refine ⟨by rw [← gt_eq hi];exact hp,fun j hj=>?_⟩
  have:=hn j hj
  rw [gt_eq (by omega)] at this
  exact this
 unfold fsI
 rw [this,if_pos hi]
theorem fsI_not {p:Te→Bool} {l:List Te} (hn:∀ j,j<l.length→p (gt l j)=false):fsI p l=-1:=by
 have:l.findIdx p=l.length:=by
  rw [List.findIdx_eq_length]
  intro x hx
  obtain ⟨j,hj,rfl⟩:=List.getElem_of_mem hx
  have:=hn j hj
  rw [gt_eq hj] at this
  exact this
 unfold fsI
 rw [this,if_neg (by omega)]
theorem fsI_cases (p:Te→Bool) (l:List Te):(fsI p l=-1∧∀ j,j<l.length→p (gt l j)=false)∨∃ i,i<l.length∧fsI p l=(i:Int)∧p (gt l i)=true∧∀ j,j<i→p (gt l j)=false:=by
 by_cases h:l.findIdx p<l.length
 ·right
  refine ⟨l.findIdx p,h,by unfold fsI;rw [if_pos h],?_,fun j hj=>?_⟩
  ·rw [gt_eq h];exact List.findIdx_getElem
  ·rw [gt_eq (by omega)]
   have:=List.not_of_lt_findIdx hj
   simpa using this
 ·left
  have h2:l.findIdx p=l.length:=Nat.le_antisymm (List.findIdx_le_length) (by omega)
  refine ⟨by unfold fsI;rw [if_neg h],fun j hj=>?_⟩
  rw [gt_eq hj]
  exact (List.findIdx_eq_length.1 h2) _ (List.getElem_mem hj)
theorem fsI_any {p:Te→Bool} {l:List Te}:decide (0≤fsI p l)=l.any p:=by
 rcases fsI_cases p l with ⟨h1,h2⟩|⟨i,hi,h1,h2,_⟩
 ·rw [h1]
  have:l.any p=false:=by
   rw [List.any_eq_false]
   intro x hx
   obtain ⟨j,hj,rfl⟩:=List.getElem_of_mem hx
   have:=h2 j hj
   rw [gt_eq hj] at this
   simp [this]
  rw [this];rfl
 ·rw [h1]
  have:l.any p=true:=List.any_eq_true.2 ⟨_,gt_mem hi,h2⟩
  rw [this];simp
def tesOK (l:List Te):Prop:=l.length≤1000000∧∀ x∈l,teOK x
noncomputable def CkJ:List AV→Option AV:=specF (ι:={x:Te×Te // teOK x.1∧teOK x.2}) (fun x=>[TeV x.1.2,.rp [I x.1.1.1,I x.1.1.2.1,U x.1.1.2.2]]) fun x=>retOf [B (ovB x.1.1 x.1.2)]
noncomputable def IvF:List AV→Option AV:=specF (ι:={x:Te×Int×Int // teOK x.1}) (fun x=>[TeV x.1.1,.rp [I x.1.2.1],.rp [I x.1.2.2]]) fun x=>retOf [B (cvB x.1.1 x.1.2.1 x.1.2.2)]
theorem s167 (X:AX) (hX:XOK Tryz.prog X) (hw:X.W wT) (hov:∀ x y,teOK x→teOK y→∀ M k,X.call 168 [TeV x,TeV y] M k=some (B (ovB x y),[])):PSound Tryz.prog 167 CkJ:=by
 unfold CkJ
 refine psound_spec hX mixed Tryz.func167 rfl fun ⟨⟨⟨x1,x2,x3⟩,y1,y2,y3⟩,h1,h2⟩ w0 G=>⟨by show 2≤7;decide,rfl,?_⟩
 show AW ⟨Tryz.prog,X,7,w0,.pure G⟩ _ _ _
 have hc:Cx.OK ⟨Tryz.prog,X,7,w0,.pure G⟩:=⟨hX,mixed⟩
 have h:=hov _ _ h1 h2
 simp only [TeV] at h ⊢
 have zS:=h
 refine dM64 ?_
 repeat (intro K hK)
 clear zS
 refine ⟨by simp,?_⟩
 simp [leaves_iff,Tryz.f167]
 try exact dt
theorem s173 (X:AX) (hX:XOK Tryz.prog X) (hw:X.W wT) (hov:∀ x y,teOK x→teOK y→∀ M k,X.call 168 [TeV x,TeV y] M k=some (B (ovB x y),[])):PSound Tryz.prog 173 CkJ:=by
 unfold CkJ
 refine psound_spec hX mixed Tryz.func173 rfl fun ⟨⟨⟨x1,x2,x3⟩,y1,y2,y3⟩,h1,h2⟩ w0 G=>⟨by show 2≤7;decide,rfl,?_⟩
 show AW ⟨Tryz.prog,X,7,w0,.pure G⟩ _ _ _
 have hc:Cx.OK ⟨Tryz.prog,X,7,w0,.pure G⟩:=⟨hX,mixed⟩
 have h:=hov _ _ h1 h2
 simp only [TeV] at h ⊢
 have zS:=h
 refine dM64 ?_
 repeat (intro K hK)
 clear zS
 refine ⟨by simp,?_⟩
 simp [leaves_iff,Tryz.f173]
 try exact dt
theorem s171 (X:AX) (hX:XOK Tryz.prog X) (hw:X.W wT) (hcv:∀ x s p,teOK x→∀ M k,X.call 169 [TeV x,I s,I p] M k=some (B (cvB x s p),[])):PSound Tryz.prog 171 IvF:=by
 unfold IvF
 refine psound_spec hX mixed Tryz.func171 rfl fun ⟨⟨⟨x1,x2,x3⟩,s,p⟩,h1⟩ w0 G=>⟨by show 3≤9;decide,rfl,?_⟩
 show AW ⟨Tryz.prog,X,9,w0,.pure G⟩ _ _ _
 have hc:Cx.OK ⟨Tryz.prog,X,9,w0,.pure G⟩:=⟨hX,mixed⟩
 have h:=hcv _ s p h1
 simp only [TeV] at h ⊢
 have zS:=h
 refine dM64 ?_
 repeat (intro K hK)
 clear zS
 refine ⟨by simp,?_⟩
 simp [leaves_iff,Tryz.f171]
 try exact dt
structure FkX (X:AX):Prop where
 ck:∀ x y,teOK x→teOK y→∀ M k,X.call 167 [TeV y,.rp [I x.1,I x.2.1,U x.2.2]] M k=some (B (ovB x y),[])
 fl:∀ x y,teOK x→teOK y→∀ M k,X.call 173 [TeV y,.rp [I x.1,I x.2.1,U x.2.2]] M k=some (B (ovB x y),[])
 iv:∀ x s p,teOK x→∀ M k,X.call 171 [TeV x,.rp [I s],.rp [I p]] M k=some (B (cvB x s p),[])
theorem s208 (X:AX) (hX:XOK Tryz.prog X) (hw:X.W wT) (fx:FkX X) :
  PSound Tryz.prog 208 (specF (ι:={x:List Te×Fk // tesOK x.1∧fkO x.2}) (fun x=>[.rd 3 (trows x.1.1),fkA x.1.2]) fun x=>retOf [I (fsI (fkP x.1.2) x.1.1)]):=by
 refine psound_spec hX mixed Tryz.func208 rfl fun ⟨⟨l,o⟩,⟨hl,hok⟩,hfo⟩ w0 G=>⟨by show 2≤19;decide,rfl,?_⟩
 show AW ⟨Tryz.prog,X,19,w0,.pure G⟩ _ _ _
 have hc:Cx.OK ⟨Tryz.prog,X,19,w0,.pure G⟩:=⟨hX,mixed⟩
 simp only at hl hok hfo ⊢
 cases o with
 | ck c =>
  obtain ⟨c1,c2,c3⟩:=c
  unfold fkA
  simp only
  repeat' (first|(apply aw_seq_k;intro K hK)|(refine eM64o ?_)|(refine aw_cond (b:=_) (by exact rfl) (fun h=>?_) (fun h=>?_)<;>(try simp at h))|(refine eB ?_)|(refine hK _ ?_;clear hK)|(clear hK;refine hK _ ?_;clear hK)|(clear hK;clear hK;refine hK _ ?_;clear hK)|(clear hK;clear hK;clear hK;refine hK _ ?_;clear hK))
  refine aw_loopK (s0:=?lps1) (m0:=?lpm1) (ι:={i:Nat // i≤l.length∧∀ j,j<i→fkP (.ck (c1,c2,c3)) (gt l j)=false}) [0,1,7] (fun i=>[(8,I i.1)]) (fun _=>[]) (fun i=>l.length - i.1) ⟨0,by omega,by omega⟩ ?lhs1 ?lhm1 ?_ ?_
  case lhs1=>first|(simp [keepS];done)|(simp [keepS];rfl)
  case lhm1=>first|rfl|(simp;done)|(simp;rfl)
  ·exact dle
  ·rintro ⟨i,hi,hinv⟩
   simp only
   rcases Decidable.em (i<l.length) with hil|hil
   ·have hilI:(i:Int)<(l.length:Int):=by omega
    have hg:=trows_gi hil
    have hgE:=trows_gE hil
    have hq:=fx.ck ⟨c1,c2,c3⟩ _ hfo (hok _ (gt_mem hil))
    have hat:=fsI_at (p:=fkP (.ck (c1,c2,c3))) hil
    have hnx:fkP (.ck (c1,c2,c3)) (gt l i)=false→∀ j,j<i+1→fkP (.ck (c1,c2,c3)) (gt l j)=false:=fun h j hj=>by
     rcases Nat.lt_succ_iff_lt_or_eq.1 hj with h5|rfl
     ·exact hinv j h5
     ·exact h
    obtain ⟨⟨x1,x2,x3⟩,hm⟩:∃ m,m=gt l i:=⟨_,rfl⟩
    rw [← hm] at hg hgE hq hat hnx
    simp only [trow,TeV,fkP] at hg hgE hq hat hnx
    obtain ⟨v,hv⟩:∃ v,v=ovB (c1,c2,c3) (x1,x2,x3):=⟨_,rfl⟩
    rw [← hv] at hq hat hnx
    cases v with
    | true =>
     have hr:=hat rfl hinv
     simp only [fkP] at hr ⊢
     rw [hr]
     have zS:=jj hilI<|jj hil<|jj hg<|jj hgE<|hq
     repeat' (first|(apply aw_seq_k;intro K hK)|(refine eM64 ?_)|(refine aw_cond (b:=_) (by exact rfl) (fun h=>?_) (fun h=>?_)<;>(try simp at h))|(refine eB ?_)|(refine hK _ ?_;clear hK)|(clear hK;refine hK _ ?_;clear hK)|(clear hK;clear hK;refine hK _ ?_;clear hK)|(clear hK;clear hK;clear hK;refine hK _ ?_;clear hK))
     all_goals clear zS
     refine ⟨by simp,?_⟩
     simp [leaves_iff,Tryz.f208]
     try exact dt
    | false =>
     have hr:=hnx rfl
     have zS:=jj hilI<|jj hil<|jj hg<|jj hgE<|hq
     repeat' (first|(apply aw_seq_k;intro K hK)|(refine eM64 ?_)|(refine aw_cond (b:=_) (by exact rfl) (fun h=>?_) (fun h=>?_)<;>(try simp at h))|(refine eB ?_)|(refine hK _ ?_;clear hK)|(clear hK;refine hK _ ?_;clear hK)|(clear hK;clear hK;refine hK _ ?_;clear hK)|(clear hK;clear hK;clear hK;refine hK _ ?_;clear hK))
     all_goals clear zS
     refine ⟨i+1,?_,⟨by omega,hr⟩,by omega⟩
     exact dle
   ·obtain rfl:i=l.length:=by omega
    repeat' (first|(apply aw_seq_k;intro K hK)|(refine eM64o ?_)|(refine aw_cond (b:=_) (by exact rfl) (fun h=>?_) (fun h=>?_)<;>(try simp at h))|(refine eB ?_)|(refine hK _ ?_;clear hK)|(clear hK;refine hK _ ?_;clear hK)|(clear hK;clear hK;refine hK _ ?_;clear hK)|(clear hK;clear hK;clear hK;refine hK _ ?_;clear hK))
    rw [fsI_not hinv]
    refine ⟨by simp,?_⟩
    simp [leaves_iff,Tryz.f208]
    try exact dt
 | fl c =>
  obtain ⟨c1,c2,c3⟩:=c
  unfold fkA
  simp only
  repeat' (first|(apply aw_seq_k;intro K hK)|(refine eM64o ?_)|(refine aw_cond (b:=_) (by exact rfl) (fun h=>?_) (fun h=>?_)<;>(try simp at h))|(refine eB ?_)|(refine hK _ ?_;clear hK)|(clear hK;refine hK _ ?_;clear hK)|(clear hK;clear hK;refine hK _ ?_;clear hK)|(clear hK;clear hK;clear hK;refine hK _ ?_;clear hK))
  refine aw_loopK (s0:=?lps2) (m0:=?lpm2) (ι:={i:Nat // i≤l.length∧∀ j,j<i→fkP (.fl (c1,c2,c3)) (gt l j)=false}) [0,1,7] (fun i=>[(8,I i.1)]) (fun _=>[]) (fun i=>l.length - i.1) ⟨0,by omega,by omega⟩ ?lhs2 ?lhm2 ?_ ?_
  case lhs2=>first|(simp [keepS];done)|(simp [keepS];rfl)
  case lhm2=>first|rfl|(simp;done)|(simp;rfl)
  ·exact dle
  ·rintro ⟨i,hi,hinv⟩
   simp only
   rcases Decidable.em (i<l.length) with hil|hil
   ·have hilI:(i:Int)<(l.length:Int):=by omega
    have hg:=trows_gi hil
    have hgE:=trows_gE hil
    have hq:=fx.fl ⟨c1,c2,c3⟩ _ hfo (hok _ (gt_mem hil))
    have hat:=fsI_at (p:=fkP (.fl (c1,c2,c3))) hil
    have hnx:fkP (.fl (c1,c2,c3)) (gt l i)=false→∀ j,j<i+1→fkP (.fl (c1,c2,c3)) (gt l j)=false:=fun h j hj=>by
     rcases Nat.lt_succ_iff_lt_or_eq.1 hj with h5|rfl
     ·exact hinv j h5
     ·exact h
    obtain ⟨⟨x1,x2,x3⟩,hm⟩:∃ m,m=gt l i:=⟨_,rfl⟩
    rw [← hm] at hg hgE hq hat hnx
    simp only [trow,TeV,fkP] at hg hgE hq hat hnx
    obtain ⟨v,hv⟩:∃ v,v=ovB (c1,c2,c3) (x1,x2,x3):=⟨_,rfl⟩
    rw [← hv] at hq hat hnx
    cases v with
    | true =>
     have hr:=hat rfl hinv
     simp only [fkP] at hr ⊢
     rw [hr]
     have zS:=jj hilI<|jj hil<|jj hg<|jj hgE<|hq
     repeat' (first|(apply aw_seq_k;intro K hK)|(refine eM64 ?_)|(refine aw_cond (b:=_) (by exact rfl) (fun h=>?_) (fun h=>?_)<;>(try simp at h))|(refine eB ?_)|(refine hK _ ?_;clear hK)|(clear hK;refine hK _ ?_;clear hK)|(clear hK;clear hK;refine hK _ ?_;clear hK)|(clear hK;clear hK;clear hK;refine hK _ ?_;clear hK))
     all_goals clear zS
     refine ⟨by simp,?_⟩
     simp [leaves_iff,Tryz.f208]
     try exact dt
    | false =>
     have hr:=hnx rfl
     have zS:=jj hilI<|jj hil<|jj hg<|jj hgE<|hq
     repeat' (first|(apply aw_seq_k;intro K hK)|(refine eM64 ?_)|(refine aw_cond (b:=_) (by exact rfl) (fun h=>?_) (fun h=>?_)<;>(try simp at h))|(refine eB ?_)|(refine hK _ ?_;clear hK)|(clear hK;refine hK _ ?_;clear hK)|(clear hK;clear hK;refine hK _ ?_;clear hK)|(clear hK;clear hK;clear hK;refine hK _ ?_;clear hK))
     all_goals clear zS
     refine ⟨i+1,?_,⟨by omega,hr⟩,by omega⟩
     exact dle
   ·obtain rfl:i=l.length:=by omega
    repeat' (first|(apply aw_seq_k;intro K hK)|(refine eM64o ?_)|(refine aw_cond (b:=_) (by exact rfl) (fun h=>?_) (fun h=>?_)<;>(try simp at h))|(refine eB ?_)|(refine hK _ ?_;clear hK)|(clear hK;refine hK _ ?_;clear hK)|(clear hK;clear hK;refine hK _ ?_;clear hK)|(clear hK;clear hK;clear hK;refine hK _ ?_;clear hK))
    rw [fsI_not hinv]
    refine ⟨by simp,?_⟩
    simp [leaves_iff,Tryz.f208]
    try exact dt
 | iv s p =>
  unfold fkA
  simp only
  repeat' (first|(apply aw_seq_k;intro K hK)|(refine eM64o ?_)|(refine aw_cond (b:=_) (by exact rfl) (fun h=>?_) (fun h=>?_)<;>(try simp at h))|(refine eB ?_)|(refine hK _ ?_;clear hK)|(clear hK;refine hK _ ?_;clear hK)|(clear hK;clear hK;refine hK _ ?_;clear hK)|(clear hK;clear hK;clear hK;refine hK _ ?_;clear hK))
  refine aw_loopK (s0:=?lps3) (m0:=?lpm3) (ι:={i:Nat // i≤l.length∧∀ j,j<i→fkP (.iv s p) (gt l j)=false}) [0,1,7] (fun i=>[(8,I i.1)]) (fun _=>[]) (fun i=>l.length - i.1) ⟨0,by omega,by omega⟩ ?lhs3 ?lhm3 ?_ ?_
  case lhs3=>first|(simp [keepS];done)|(simp [keepS];rfl)
  case lhm3=>first|rfl|(simp;done)|(simp;rfl)
  ·exact dle
  ·rintro ⟨i,hi,hinv⟩
   simp only
   rcases Decidable.em (i<l.length) with hil|hil
   ·have hilI:(i:Int)<(l.length:Int):=by omega
    have hg:=trows_gi hil
    have hgE:=trows_gE hil
    have hq:=fx.iv _ s p (hok _ (gt_mem hil))
    have hat:=fsI_at (p:=fkP (.iv s p)) hil
    have hnx:fkP (.iv s p) (gt l i)=false→∀ j,j<i+1→fkP (.iv s p) (gt l j)=false:=fun h j hj=>by
     rcases Nat.lt_succ_iff_lt_or_eq.1 hj with h5|rfl
     ·exact hinv j h5
     ·exact h
    obtain ⟨⟨x1,x2,x3⟩,hm⟩:∃ m,m=gt l i:=⟨_,rfl⟩
    rw [← hm] at hg hgE hq hat hnx
    simp only [trow,TeV,fkP] at hg hgE hq hat hnx
    obtain ⟨v,hv⟩:∃ v,v=cvB (x1,x2,x3) s p:=⟨_,rfl⟩
    rw [← hv] at hq hat hnx
    cases v with
    | true =>
     have hr:=hat rfl hinv
     simp only [fkP] at hr ⊢
     rw [hr]
     have zS:=jj hilI<|jj hil<|jj hg<|jj hgE<|hq
     repeat' (first|(apply aw_seq_k;intro K hK)|(refine eM64 ?_)|(refine aw_cond (b:=_) (by exact rfl) (fun h=>?_) (fun h=>?_)<;>(try simp at h))|(refine eB ?_)|(refine hK _ ?_;clear hK)|(clear hK;refine hK _ ?_;clear hK)|(clear hK;clear hK;refine hK _ ?_;clear hK)|(clear hK;clear hK;clear hK;refine hK _ ?_;clear hK))
     all_goals clear zS
     refine ⟨by simp,?_⟩
     simp [leaves_iff,Tryz.f208]
     try exact dt
    | false =>
     have hr:=hnx rfl
     have zS:=jj hilI<|jj hil<|jj hg<|jj hgE<|hq
     repeat' (first|(apply aw_seq_k;intro K hK)|(refine eM64 ?_)|(refine aw_cond (b:=_) (by exact rfl) (fun h=>?_) (fun h=>?_)<;>(try simp at h))|(refine eB ?_)|(refine hK _ ?_;clear hK)|(clear hK;refine hK _ ?_;clear hK)|(clear hK;clear hK;refine hK _ ?_;clear hK)|(clear hK;clear hK;clear hK;refine hK _ ?_;clear hK))
     all_goals clear zS
     refine ⟨i+1,?_,⟨by omega,hr⟩,by omega⟩
     exact dle
   ·obtain rfl:i=l.length:=by omega
    repeat' (first|(apply aw_seq_k;intro K hK)|(refine eM64o ?_)|(refine aw_cond (b:=_) (by exact rfl) (fun h=>?_) (fun h=>?_)<;>(try simp at h))|(refine eB ?_)|(refine hK _ ?_;clear hK)|(clear hK;refine hK _ ?_;clear hK)|(clear hK;clear hK;refine hK _ ?_;clear hK)|(clear hK;clear hK;clear hK;refine hK _ ?_;clear hK))
    rw [fsI_not hinv]
    refine ⟨by simp,?_⟩
    simp [leaves_iff,Tryz.f208]
    try exact dt
noncomputable def IxJ:List AV→Option AV:=specF (ι:={x:List Te×Fk // tesOK x.1∧fkO x.2}) (fun x=>[.rd 3 (trows x.1.1),fkA x.1.2]) fun x=>retOf [I (fsI (fkP x.1.2) x.1.1)]
theorem IxJ_at (l:List Te) (o:Fk) (h:tesOK l) (ho:fkO o):IxJ [.rd 3 (trows l),fkA o]=some (I (fsI (fkP o) l)) :=
 specF_eq (ι:={x:List Te×Fk // tesOK x.1∧fkO x.2}) (A:=fun x=>[.rd 3 (trows x.1.1),fkA x.1.2]) (R:=fun x=>retOf [I (fsI (fkP x.1.2) x.1.1)]) ⟨(l,o),h,ho⟩ (by
  rintro ⟨⟨k,c⟩,h⟩ e
  simp only [List.cons.injEq,AV.rd.injEq,trows_inj,fkA_inj,true_and,and_true] at e
  obtain ⟨rfl,rfl⟩:=e;rfl)
noncomputable def CfF:List AV→Option AV:=specF (ι:={x:List Te×Te // tesOK x.1∧teOK x.2}) (fun x=>[.rd 3 (trows x.1.1),fkA (.ck x.1.2)]) fun x=>retOf [B (x.1.1.any (ovB x.1.2))]
theorem s166 (X:AX) (hX:XOK Tryz.prog X) (hw:X.W wT) (hix:X.call 208=callP IxJ):PSound Tryz.prog 166 CfF:=by
 unfold CfF
 refine psound_spec hX mixed Tryz.func166 rfl fun ⟨⟨l,c1,c2,c3⟩,hl,hx⟩ w0 G=>⟨by show 2≤9;decide,rfl,?_⟩
 show AW ⟨Tryz.prog,X,9,w0,.pure G⟩ _ _ _
 have hc:Cx.OK ⟨Tryz.prog,X,9,w0,.pure G⟩:=⟨hX,mixed⟩
 simp only at hl hx ⊢
 have hF:=IxJ_at l (.ck (c1,c2,c3)) hl hx
 have ha:=@fsI_any (fkP (.ck (c1,c2,c3))) l
 rw [show (fkP (.ck (c1,c2,c3)))=ovB (c1,c2,c3) from rfl] at hF ha
 rw [← ha]
 simp only [fkA] at hF ⊢
 obtain ⟨v,hv⟩:∃ v,v=fsI (ovB (c1,c2,c3)) l:=⟨_,rfl⟩
 rw [← hv] at hF ⊢
 rcases Decidable.em (0≤v) with h0|h0
 ·rw [decide_eq_true h0]
  have zS:=jj hix<|jj hF<|h0
  refine dM64 ?_
  repeat (intro K hK)
  clear zS
  refine ⟨by simp,?_⟩
  simp [leaves_iff,Tryz.f166]
  try exact dt
 ·rw [decide_eq_false h0]
  have zS:=jj hix<|jj hF<|h0
  refine dM64 ?_
  repeat (intro K hK)
  clear zS
  refine ⟨by simp,?_⟩
  simp [leaves_iff,Tryz.f166]
  try exact dt
noncomputable def ClTF:List AV→Option AV:=specF (ι:={l:List Te // l.length≤1000000}) (fun x=>[.rd 3 (trows x.1)]) fun x=>retOf [.ow 3 (trows x.1)]
theorem s211 (X:AX) (hX:XOK Tryz.prog X) (hw:X.W wT):PSound Tryz.prog 211 ClTF:=by
 unfold ClTF
 refine psound_spec hX mixed Tryz.func211 rfl fun ⟨l,hl⟩ w0 G=>⟨by show 1≤8;decide,rfl,?_⟩
 show AW ⟨Tryz.prog,X,8,w0,.pure G⟩ _ _ _
 have hc:Cx.OK ⟨Tryz.prog,X,8,w0,.pure G⟩:=⟨hX,mixed⟩
 simp only at hl ⊢
 cases l with
 | nil =>
  refine aw_cases_nil 0 3 (by simp [trows,enterS]) ?_ fun p n=>?_
  ·refine dM64o ?_
   repeat (intro K hK)
   refine ⟨by simp,?_⟩
   simp [leaves_iff,Tryz.f211,trows]
   try exact dt
  ·refine dM64o ?_
   repeat (intro K hK)
   refine ⟨by simp,?_⟩
   simp [leaves_iff,Tryz.f211,trows]
   try exact dt
 | cons x l =>
  have hl':l.length+1≤1000000:=by simpa using hl
  obtain ⟨e,he⟩:∃ e,e=trow x:=⟨_,rfl⟩
  obtain ⟨T,hT⟩:∃ T,T=trows l:=⟨_,rfl⟩
  have hc2:trows (x::l)=e::T:=by rw [he,hT];rfl
  have hTl:T.length=l.length:=by rw [hT];simp
  have tk:List.take T.length T=T:=List.take_of_length_le (Nat.le_refl _)
  rw [hc2]
  clear he hT
  have zS:=tk
  refine dM64 ?_
  repeat (intro K hK)
  clear zS
  refine ⟨by simp,?_⟩
  simp [leaves_iff,Tryz.f211,tk]
  try exact dt
def drpT (p:Te→Bool) (l:List Te):List Te:=l.filter fun y=>!p y
theorem drpT_snoc {p:Te→Bool} {l:List Te} {x:Te}:drpT p (l++[x])=if p x=true then drpT p l else drpT p l++[x]:=by
 unfold drpT
 rw [List.filter_append]
 cases h:p x<;>simp [h]
theorem drpT_none {p:Te→Bool} {l:List Te} (h:∀ j,j<l.length→p (gt l j)=false):drpT p l=l:=by
 unfold drpT
 rw [List.filter_eq_self]
 intro m hm
 obtain ⟨j,hj,rfl⟩:=List.getElem_of_mem hm
 have:=h j hj
 rw [gt_eq hj] at this
 simp [this]
theorem trows_take (l:List Te) (n:Nat):trows (l.take n)=(trows l).take n:=by simp [trows,List.map_take]
theorem tkT (l:List Te):List.take l.length (trows l)=trows l:=List.take_of_length_le (by simp)
theorem take_succ_gt {l:List Te} {j:Nat} (h:j<l.length):l.take (j+1)=l.take j++[gt l j]:=by
 rw [List.take_add_one,List.getElem?_eq_getElem h,gt_eq h];rfl
theorem gt_app_at {a b:List Te} {m:Te} {k:Nat} (h:a.length=k):gt (a++m::b) k=m:=by
 unfold gt;subst h;simp [List.getD_eq_getElem?_getD]
theorem drop_gt {l:List Te} {j:Nat} (h:j<l.length):l.drop j=gt l j::l.drop (j+1):=by
 rw [List.drop_eq_getElem_cons h,gt_eq h]
theorem trows_set (l:List Te) (n:Nat) (a b:Int) (c:Nat):(trows l).set n [I a,I b,.v (.int .u64 c)]=trows (l.set n (a,b,c)):=by simp [trows,trow,U,List.map_set]
theorem set_midT (F:List Te) (g v:Te) (G:List Te):(F++g::G).set F.length v=F++v::G:=by
 rw [List.set_append_right _ _ (Nat.le_refl _)];simp
def three3 (_:Nat):Nat:=3
noncomputable def DfT:AV→List AV→Option (AV×AV):=specM (ι:={x:List Te×Fk // tesOK x.1∧fkO x.2}) (fun x=>.ow 3 (trows x.1.1)) (fun x=>[fkA x.1.2]) (fun x=>retOf [.ow 3 (trows (drpT (fkP x.1.2) x.1.1))]) fun _=>.any
theorem DfT_at (l:List Te) (o:Fk) (h:tesOK l) (ho:fkO o):DfT (.ow 3 (trows l)) [fkA o]=some (.ow 3 (trows (drpT (fkP o) l)),.any) :=
 specM_eq (A0:=fun x:{x:List Te×Fk // tesOK x.1∧fkO x.2}=>AV.ow 3 (trows x.1.1)) (A:=fun x=>[fkA x.1.2]) (R:=fun x=>retOf [.ow 3 (trows (drpT (fkP x.1.2) x.1.1))]) (O:=fun _=>.any) ⟨(l,o),h,ho⟩ (by
  rintro ⟨⟨l',o'⟩,h1⟩ e1 e2
  simp only [AV.ow.injEq,trows_inj,true_and] at e1
  simp only [List.cons.injEq,fkA_inj,and_true] at e2
  subst e1 e2
  exact ⟨rfl,rfl⟩)
theorem s210 (X:AX) (hX:XOK Tryz.prog X) (hw:X.W wT) (hix:X.call 208=callP IxJ) (fx:FkX X):MSound Tryz.prog 210 DfT:=by
 unfold DfT
 refine msound_spec Tryz.func210 rfl X fun ⟨⟨l,o⟩,⟨hl,hok⟩,hfo⟩ w0 bl E=>⟨by show 2≤42;decide,rfl,?_⟩
 simp only at hl hok hfo
 show AW ⟨Tryz.prog,X,42,w0,⟨bl,E,1⟩⟩ _ _ _
 have hc:Cx.OK ⟨Tryz.prog,X,42,w0,⟨bl,E,1⟩⟩:=⟨hX,mixed⟩
 have hF:=IxJ_at l o ⟨hl,hok⟩ hfo
 cases o with
 | ck c =>
  obtain ⟨c1,c2,c3⟩:=c
  obtain ⟨P,hP⟩:∃ P,P=fkP (.ck (c1,c2,c3)):=⟨_,rfl⟩
  rw [← hP] at hF
  simp only [← hP]
  simp only [fkA,U] at hF ⊢
  rcases fsI_cases P l with ⟨h1,h2⟩|⟨k,hk,h1,h2,h3⟩
  ·rw [h1] at hF
   have hD:=drpT_none h2
   have zS:=jj hix<|jj hF<|tkT
   refine dM64 ?_
   repeat (intro K hK)
   clear zS
   refine ⟨by simp,leavesM_any ?_⟩
   simp (disch:=first|omega|assumption|(simp;done)|fail) [if_pos,if_neg,leaves_iff,Tryz.f210]
   rw [hD]
   first|done|exact (tkT l).symm
  ·rw [h1] at hF
   have zS:=jj hix<|jj hF<|tkT
   repeat' (first|(apply aw_seq_k;intro K hK)|(refine eM64 ?_)|(refine aw_cond (b:=_) (by exact rfl) (fun h=>?_) (fun h=>?_)<;>(try simp at h))|(refine eB ?_)|(refine hK _ ?_;clear hK)|(clear hK;refine hK _ ?_;clear hK)|(clear hK;clear hK;refine hK _ ?_;clear hK)|(clear hK;clear hK;clear hK;refine hK _ ?_;clear hK))
   all_goals clear zS
   have htk:drpT P (l.take k)=l.take k:=drpT_none fun j hj=>by
    rw [List.length_take] at hj
    have:=h3 j (by omega)
    rw [gt_eq (by omega)] at this
    rw [gt_eq (by rw [List.length_take];omega),List.getElem_take]
    exact this
   have hD0:drpT P (l.take (k+1))=l.take k:=by rw [take_succ_gt hk,drpT_snoc,if_pos h2,htk]
   have hlk:(l.take k).length=k:=by rw [List.length_take];omega
   have hW0:l.take k++[gt l k]++l.drop (k+1)=l:=by rw [← take_succ_gt hk,List.take_append_drop]
   refine aw_loopK (s0:=?lps4) (m0:=?lpm4) (ι:={x:Nat×List Te // x.1≤l.length∧(drpT P (l.take x.1)).length+x.2.length=x.1∧1≤x.2.length}) [0,1] (fun x=>[(6,I x.1.1),(5,I (drpT P (l.take x.1.1)).length)]) (fun x=>[(0,.vec 1 3 false (trows (drpT P (l.take x.1.1)++x.1.2++l.drop x.1.1)))]) (fun x=>l.length - x.1.1) ⟨(k+1,[gt l k]),by simp only [hD0,hlk];simp;omega⟩ ?lhs4 ?lhm4 ?_ ?_
   case lhs4=>first|(simp [keepS];done)|(simp [keepS];rfl)
   case lhm4=>first|rfl|(simp;done)|(simp;rfl)
   ·simp only [hD0,hlk,hW0]
    exact dle
   ·rintro ⟨⟨j,G⟩,hj,hFG,hG1⟩
    simp only at hj hFG hG1 ⊢
    obtain ⟨F,hFe⟩:∃ F,F=drpT P (l.take j):=⟨_,rfl⟩
    rw [← hFe] at hFG ⊢
    rcases Decidable.em (j<l.length) with hjl|hjl
    ·have hjI:(j:Int)<(l.length:Int):=by omega
     have hdr:=drop_gt hjl
     have hins:=drpT_snoc (p:=P) (l:=l.take j) (x:=gt l j)
     rw [← take_succ_gt hjl,← hFe] at hins
     have hq:=fx.ck ⟨c1,c2,c3⟩ _ hfo (hok _ (gt_mem hjl))
     have hPq:P (gt l j)=fkP (.ck (c1,c2,c3)) (gt l j):=by rw [hP]
     obtain ⟨⟨x,y,z⟩,hm⟩:∃ m,m=gt l j:=⟨_,rfl⟩
     rw [← hm] at hdr hins hq hPq
     simp only [TeV,fkP] at hq hPq
     rw [← hPq] at hq
     obtain ⟨W,hW⟩:∃ W,W=F++G++l.drop j:=⟨_,rfl⟩
     have hWl:W.length=l.length:=by rw [hW];simp;omega
     have hWj:gt W j=(x,y,z):=by rw [hW,hdr];exact gt_app_at (by rw [List.length_append];exact hFG)
     have hFl:F.length<W.length:=by omega
     have hFI:(F.length:Int)<(W.length:Int):=by omega
     have hFI2:(F.length:Int)<(l.length:Int):=by omega
     have hFL2:F.length<l.length:=by omega
     have hg:=trows_gi (l:=W) (i:=j) (by omega)
     have hgE:=trows_gE (l:=W) (i:=j) (by omega)
     rw [hWj] at hg hgE
     simp only [trow,U] at hg hgE
     simp only [U] at hq
     have hgF:=trows_gi hFl
     have hgFE:=trows_gE hFl
     obtain ⟨⟨f1,f2,f3⟩,hf⟩:∃ m,m=gt W F.length:=⟨_,rfl⟩
     rw [← hf] at hgF hgFE
     simp only [trow,U] at hgF hgFE
     have hFb:F.length≤1000000:=by omega
     rw [← hW]
     cases hv:P (x,y,z) with
     | true =>
      rw [hv] at hq
      rw [if_pos hv] at hins
      have zS:=jj hjI<|jj hg<|jj hgE<|jj hWl<|hq
      repeat' (first|(apply aw_seq_k;intro K hK)|(refine eM64 ?_)|(refine aw_cond (b:=_) (by exact rfl) (fun h=>?_) (fun h=>?_)<;>(try simp at h))|(refine eB ?_)|(refine hK _ ?_;clear hK)|(clear hK;refine hK _ ?_;clear hK)|(clear hK;clear hK;refine hK _ ?_;clear hK)|(clear hK;clear hK;clear hK;refine hK _ ?_;clear hK))
      all_goals clear zS
      have hWe:F++(G++[(x,y,z)]++l.drop (j+1))=W:=by rw [hW,hdr];simp
      refine ⟨j+1,G++[(x,y,z)],?_,⟨by omega,by rw [hins];simp;omega,by simp⟩,by omega⟩
      simp only [hins,hWe]
      refine le_turn (s1:=?tus5) (m1:=?tum5) [] [0,1,5,6] [0] ?tua5 ?tub5 ?tuc5 ?tud5 ?tue5 ?tuf5 ?tug5
      case tua5=>first|(simp [keepS];done)|(simp [keepS];rfl)
      case tub5=>first|(simp;done)|(simp;rfl)
      case tuc5=>simp
      case tud5=>simp
      case tue5=>simp
      case tuf5=>simp
      case tug5 =>
       simp [swp,vr]
       exact dle
     | false =>
      rw [hv] at hq
      rw [if_neg (by simp [hv])] at hins
      have zS:=jj hjI<|jj hg<|jj hgE<|jj hWl<|jj hq<|jj hgF<|jj hgFE<|jj hFI<|jj hFI2<|jj hFL2<|trows_set
      repeat' (first|(apply aw_seq_k;intro K hK)|(refine eM64 ?_)|(refine aw_cond (b:=_) (by exact rfl) (fun h=>?_) (fun h=>?_)<;>(try simp at h))|(refine eB ?_)|(refine hK _ ?_;clear hK)|(clear hK;refine hK _ ?_;clear hK)|(clear hK;clear hK;refine hK _ ?_;clear hK)|(clear hK;clear hK;clear hK;refine hK _ ?_;clear hK))
      all_goals clear zS
      obtain ⟨g,G',rfl⟩:∃ g G',G=g::G':=by
       cases G with
       | nil=>simp at hG1
       | cons g G'=>exact ⟨g,G',rfl⟩
      have hWs:(F++[(x,y,z)])++(G'++[(x,y,z)]++l.drop (j+1))=W.set F.length (x,y,z):=by
       have e:=set_midT F g (x,y,z) (G'++l.drop j)
       have e2:F++g::(G'++l.drop j)=W:=by rw [hW];simp
       rw [e2] at e
       rw [e,hdr];simp
      simp only [List.length_cons] at hFG
      refine ⟨j+1,G'++[(x,y,z)],?_,⟨by omega,by rw [hins];simp;omega,by simp⟩,by omega⟩
      simp only [hins,hWs]
      refine le_turn (s1:=?tus6) (m1:=?tum6) [] [0,1,5,6] [0] ?tua6 ?tub6 ?tuc6 ?tud6 ?tue6 ?tuf6 ?tug6
      case tua6=>first|(simp [keepS];done)|(simp [keepS];rfl)
      case tub6=>first|(simp;done)|(simp;rfl)
      case tuc6=>simp
      case tud6=>simp
      case tue6=>simp
      case tuf6=>simp
      case tug6 =>
       simp [swp,vr]
       exact dle
    ·obtain rfl:j=l.length:=by omega
     rw [List.take_length] at hFe
     have hnil:l.drop l.length=[]:=List.drop_eq_nil_of_le (Nat.le_refl _)
     rw [hnil]
     have zS:=jj tkT<|hFG
     repeat' (first|(apply aw_seq_k;intro K hK)|(refine eM64 ?_)|(refine aw_cond (b:=_) (by exact rfl) (fun h=>?_) (fun h=>?_)<;>(try simp at h))|(refine eB ?_)|(refine hK _ ?_;clear hK)|(clear hK;refine hK _ ?_;clear hK)|(clear hK;clear hK;refine hK _ ?_;clear hK)|(clear hK;clear hK;clear hK;refine hK _ ?_;clear hK))
     all_goals clear zS
     refine ⟨by simp,leavesM_any ?_⟩
     simp (disch:=first|omega|assumption|(simp;done)|fail) [if_pos,if_neg,leaves_iff,Tryz.f210]
     rw [← hFe,← trows_take]
     simp
 | fl c =>
  obtain ⟨c1,c2,c3⟩:=c
  obtain ⟨P,hP⟩:∃ P,P=fkP (.fl (c1,c2,c3)):=⟨_,rfl⟩
  rw [← hP] at hF
  simp only [← hP]
  simp only [fkA,U] at hF ⊢
  rcases fsI_cases P l with ⟨h1,h2⟩|⟨k,hk,h1,h2,h3⟩
  ·rw [h1] at hF
   have hD:=drpT_none h2
   have zS:=jj hix<|jj hF<|tkT
   refine dM64 ?_
   repeat (intro K hK)
   clear zS
   refine ⟨by simp,leavesM_any ?_⟩
   simp (disch:=first|omega|assumption|(simp;done)|fail) [if_pos,if_neg,leaves_iff,Tryz.f210]
   rw [hD]
   first|done|exact (tkT l).symm
  ·rw [h1] at hF
   have zS:=jj hix<|jj hF<|tkT
   repeat' (first|(apply aw_seq_k;intro K hK)|(refine eM64 ?_)|(refine aw_cond (b:=_) (by exact rfl) (fun h=>?_) (fun h=>?_)<;>(try simp at h))|(refine eB ?_)|(refine hK _ ?_;clear hK)|(clear hK;refine hK _ ?_;clear hK)|(clear hK;clear hK;refine hK _ ?_;clear hK)|(clear hK;clear hK;clear hK;refine hK _ ?_;clear hK))
   all_goals clear zS
   have htk:drpT P (l.take k)=l.take k:=drpT_none fun j hj=>by
    rw [List.length_take] at hj
    have:=h3 j (by omega)
    rw [gt_eq (by omega)] at this
    rw [gt_eq (by rw [List.length_take];omega),List.getElem_take]
    exact this
   have hD0:drpT P (l.take (k+1))=l.take k:=by rw [take_succ_gt hk,drpT_snoc,if_pos h2,htk]
   have hlk:(l.take k).length=k:=by rw [List.length_take];omega
   have hW0:l.take k++[gt l k]++l.drop (k+1)=l:=by rw [← take_succ_gt hk,List.take_append_drop]
   refine aw_loopK (s0:=?lps7) (m0:=?lpm7) (ι:={x:Nat×List Te // x.1≤l.length∧(drpT P (l.take x.1)).length+x.2.length=x.1∧1≤x.2.length}) [0,1] (fun x=>[(6,I x.1.1),(5,I (drpT P (l.take x.1.1)).length)]) (fun x=>[(0,.vec 1 3 false (trows (drpT P (l.take x.1.1)++x.1.2++l.drop x.1.1)))]) (fun x=>l.length - x.1.1) ⟨(k+1,[gt l k]),by simp only [hD0,hlk];simp;omega⟩ ?lhs7 ?lhm7 ?_ ?_
   case lhs7=>first|(simp [keepS];done)|(simp [keepS];rfl)
   case lhm7=>first|rfl|(simp;done)|(simp;rfl)
   ·simp only [hD0,hlk,hW0]
    exact dle
   ·rintro ⟨⟨j,G⟩,hj,hFG,hG1⟩
    simp only at hj hFG hG1 ⊢
    obtain ⟨F,hFe⟩:∃ F,F=drpT P (l.take j):=⟨_,rfl⟩
    rw [← hFe] at hFG ⊢
    rcases Decidable.em (j<l.length) with hjl|hjl
    ·have hjI:(j:Int)<(l.length:Int):=by omega
     have hdr:=drop_gt hjl
     have hins:=drpT_snoc (p:=P) (l:=l.take j) (x:=gt l j)
     rw [← take_succ_gt hjl,← hFe] at hins
     have hq:=fx.fl ⟨c1,c2,c3⟩ _ hfo (hok _ (gt_mem hjl))
     have hPq:P (gt l j)=fkP (.fl (c1,c2,c3)) (gt l j):=by rw [hP]
     obtain ⟨⟨x,y,z⟩,hm⟩:∃ m,m=gt l j:=⟨_,rfl⟩
     rw [← hm] at hdr hins hq hPq
     simp only [TeV,fkP] at hq hPq
     rw [← hPq] at hq
     obtain ⟨W,hW⟩:∃ W,W=F++G++l.drop j:=⟨_,rfl⟩
     have hWl:W.length=l.length:=by rw [hW];simp;omega
     have hWj:gt W j=(x,y,z):=by rw [hW,hdr];exact gt_app_at (by rw [List.length_append];exact hFG)
     have hFl:F.length<W.length:=by omega
     have hFI:(F.length:Int)<(W.length:Int):=by omega
     have hFI2:(F.length:Int)<(l.length:Int):=by omega
     have hFL2:F.length<l.length:=by omega
     have hg:=trows_gi (l:=W) (i:=j) (by omega)
     have hgE:=trows_gE (l:=W) (i:=j) (by omega)
     rw [hWj] at hg hgE
     simp only [trow,U] at hg hgE
     simp only [U] at hq
     have hgF:=trows_gi hFl
     have hgFE:=trows_gE hFl
     obtain ⟨⟨f1,f2,f3⟩,hf⟩:∃ m,m=gt W F.length:=⟨_,rfl⟩
     rw [← hf] at hgF hgFE
     simp only [trow,U] at hgF hgFE
     have hFb:F.length≤1000000:=by omega
     rw [← hW]
     cases hv:P (x,y,z) with
     | true =>
      rw [hv] at hq
      rw [if_pos hv] at hins
      have zS:=jj hjI<|jj hg<|jj hgE<|jj hWl<|hq
      repeat' (first|(apply aw_seq_k;intro K hK)|(refine eM64 ?_)|(refine aw_cond (b:=_) (by exact rfl) (fun h=>?_) (fun h=>?_)<;>(try simp at h))|(refine eB ?_)|(refine hK _ ?_;clear hK)|(clear hK;refine hK _ ?_;clear hK)|(clear hK;clear hK;refine hK _ ?_;clear hK)|(clear hK;clear hK;clear hK;refine hK _ ?_;clear hK))
      all_goals clear zS
      have hWe:F++(G++[(x,y,z)]++l.drop (j+1))=W:=by rw [hW,hdr];simp
      refine ⟨j+1,G++[(x,y,z)],?_,⟨by omega,by rw [hins];simp;omega,by simp⟩,by omega⟩
      simp only [hins,hWe]
      refine le_turn (s1:=?tus8) (m1:=?tum8) [] [0,1,5,6] [0] ?tua8 ?tub8 ?tuc8 ?tud8 ?tue8 ?tuf8 ?tug8
      case tua8=>first|(simp [keepS];done)|(simp [keepS];rfl)
      case tub8=>first|(simp;done)|(simp;rfl)
      case tuc8=>simp
      case tud8=>simp
      case tue8=>simp
      case tuf8=>simp
      case tug8 =>
       simp [swp,vr]
       exact dle
     | false =>
      rw [hv] at hq
      rw [if_neg (by simp [hv])] at hins
      have zS:=jj hjI<|jj hg<|jj hgE<|jj hWl<|jj hq<|jj hgF<|jj hgFE<|jj hFI<|jj hFI2<|jj hFL2<|trows_set
      repeat' (first|(apply aw_seq_k;intro K hK)|(refine eM64 ?_)|(refine aw_cond (b:=_) (by exact rfl) (fun h=>?_) (fun h=>?_)<;>(try simp at h))|(refine eB ?_)|(refine hK _ ?_;clear hK)|(clear hK;refine hK _ ?_;clear hK)|(clear hK;clear hK;refine hK _ ?_;clear hK)|(clear hK;clear hK;clear hK;refine hK _ ?_;clear hK))
      all_goals clear zS
      obtain ⟨g,G',rfl⟩:∃ g G',G=g::G':=by
       cases G with
       | nil=>simp at hG1
       | cons g G'=>exact ⟨g,G',rfl⟩
      have hWs:(F++[(x,y,z)])++(G'++[(x,y,z)]++l.drop (j+1))=W.set F.length (x,y,z):=by
       have e:=set_midT F g (x,y,z) (G'++l.drop j)
       have e2:F++g::(G'++l.drop j)=W:=by rw [hW];simp
       rw [e2] at e
       rw [e,hdr];simp
      simp only [List.length_cons] at hFG
      refine ⟨j+1,G'++[(x,y,z)],?_,⟨by omega,by rw [hins];simp;omega,by simp⟩,by omega⟩
      simp only [hins,hWs]
      refine le_turn (s1:=?tus9) (m1:=?tum9) [] [0,1,5,6] [0] ?tua9 ?tub9 ?tuc9 ?tud9 ?tue9 ?tuf9 ?tug9
      case tua9=>first|(simp [keepS];done)|(simp [keepS];rfl)
      case tub9=>first|(simp;done)|(simp;rfl)
      case tuc9=>simp
      case tud9=>simp
      case tue9=>simp
      case tuf9=>simp
      case tug9 =>
       simp [swp,vr]
       exact dle
    ·obtain rfl:j=l.length:=by omega
     rw [List.take_length] at hFe
     have hnil:l.drop l.length=[]:=List.drop_eq_nil_of_le (Nat.le_refl _)
     rw [hnil]
     have zS:=jj tkT<|hFG
     repeat' (first|(apply aw_seq_k;intro K hK)|(refine eM64 ?_)|(refine aw_cond (b:=_) (by exact rfl) (fun h=>?_) (fun h=>?_)<;>(try simp at h))|(refine eB ?_)|(refine hK _ ?_;clear hK)|(clear hK;refine hK _ ?_;clear hK)|(clear hK;clear hK;refine hK _ ?_;clear hK)|(clear hK;clear hK;clear hK;refine hK _ ?_;clear hK))
     all_goals clear zS
     refine ⟨by simp,leavesM_any ?_⟩
     simp (disch:=first|omega|assumption|(simp;done)|fail) [if_pos,if_neg,leaves_iff,Tryz.f210]
     rw [← hFe,← trows_take]
     simp
 | iv s p =>
  obtain ⟨P,hP⟩:∃ P,P=fkP (.iv s p):=⟨_,rfl⟩
  rw [← hP] at hF
  simp only [← hP]
  simp only [fkA,U] at hF ⊢
  rcases fsI_cases P l with ⟨h1,h2⟩|⟨k,hk,h1,h2,h3⟩
  ·rw [h1] at hF
   have hD:=drpT_none h2
   have zS:=jj hix<|jj hF<|tkT
   refine dM64 ?_
   repeat (intro K hK)
   clear zS
   refine ⟨by simp,leavesM_any ?_⟩
   simp (disch:=first|omega|assumption|(simp;done)|fail) [if_pos,if_neg,leaves_iff,Tryz.f210]
   rw [hD]
   first|done|exact (tkT l).symm
  ·rw [h1] at hF
   have zS:=jj hix<|jj hF<|tkT
   repeat' (first|(apply aw_seq_k;intro K hK)|(refine eM64 ?_)|(refine aw_cond (b:=_) (by exact rfl) (fun h=>?_) (fun h=>?_)<;>(try simp at h))|(refine eB ?_)|(refine hK _ ?_;clear hK)|(clear hK;refine hK _ ?_;clear hK)|(clear hK;clear hK;refine hK _ ?_;clear hK)|(clear hK;clear hK;clear hK;refine hK _ ?_;clear hK))
   all_goals clear zS
   have htk:drpT P (l.take k)=l.take k:=drpT_none fun j hj=>by
    rw [List.length_take] at hj
    have:=h3 j (by omega)
    rw [gt_eq (by omega)] at this
    rw [gt_eq (by rw [List.length_take];omega),List.getElem_take]
    exact this
   have hD0:drpT P (l.take (k+1))=l.take k:=by rw [take_succ_gt hk,drpT_snoc,if_pos h2,htk]
   have hlk:(l.take k).length=k:=by rw [List.length_take];omega
   have hW0:l.take k++[gt l k]++l.drop (k+1)=l:=by rw [← take_succ_gt hk,List.take_append_drop]
   refine aw_loopK (s0:=?lps10) (m0:=?lpm10) (ι:={x:Nat×List Te // x.1≤l.length∧(drpT P (l.take x.1)).length+x.2.length=x.1∧1≤x.2.length}) [0,1] (fun x=>[(6,I x.1.1),(5,I (drpT P (l.take x.1.1)).length)]) (fun x=>[(0,.vec 1 3 false (trows (drpT P (l.take x.1.1)++x.1.2++l.drop x.1.1)))]) (fun x=>l.length - x.1.1) ⟨(k+1,[gt l k]),by simp only [hD0,hlk];simp;omega⟩ ?lhs10 ?lhm10 ?_ ?_
   case lhs10=>first|(simp [keepS];done)|(simp [keepS];rfl)
   case lhm10=>first|rfl|(simp;done)|(simp;rfl)
   ·simp only [hD0,hlk,hW0]
    exact dle
   ·rintro ⟨⟨j,G⟩,hj,hFG,hG1⟩
    simp only at hj hFG hG1 ⊢
    obtain ⟨F,hFe⟩:∃ F,F=drpT P (l.take j):=⟨_,rfl⟩
    rw [← hFe] at hFG ⊢
    rcases Decidable.em (j<l.length) with hjl|hjl
    ·have hjI:(j:Int)<(l.length:Int):=by omega
     have hdr:=drop_gt hjl
     have hins:=drpT_snoc (p:=P) (l:=l.take j) (x:=gt l j)
     rw [← take_succ_gt hjl,← hFe] at hins
     have hq:=fx.iv _ s p (hok _ (gt_mem hjl))
     have hPq:P (gt l j)=fkP (.iv s p) (gt l j):=by rw [hP]
     obtain ⟨⟨x,y,z⟩,hm⟩:∃ m,m=gt l j:=⟨_,rfl⟩
     rw [← hm] at hdr hins hq hPq
     simp only [TeV,fkP] at hq hPq
     rw [← hPq] at hq
     obtain ⟨W,hW⟩:∃ W,W=F++G++l.drop j:=⟨_,rfl⟩
     have hWl:W.length=l.length:=by rw [hW];simp;omega
     have hWj:gt W j=(x,y,z):=by rw [hW,hdr];exact gt_app_at (by rw [List.length_append];exact hFG)
     have hFl:F.length<W.length:=by omega
     have hFI:(F.length:Int)<(W.length:Int):=by omega
     have hFI2:(F.length:Int)<(l.length:Int):=by omega
     have hFL2:F.length<l.length:=by omega
     have hg:=trows_gi (l:=W) (i:=j) (by omega)
     have hgE:=trows_gE (l:=W) (i:=j) (by omega)
     rw [hWj] at hg hgE
     simp only [trow,U] at hg hgE
     simp only [U] at hq
     have hgF:=trows_gi hFl
     have hgFE:=trows_gE hFl
     obtain ⟨⟨f1,f2,f3⟩,hf⟩:∃ m,m=gt W F.length:=⟨_,rfl⟩
     rw [← hf] at hgF hgFE
     simp only [trow,U] at hgF hgFE
     have hFb:F.length≤1000000:=by omega
     rw [← hW]
     cases hv:P (x,y,z) with
     | true =>
      rw [hv] at hq
      rw [if_pos hv] at hins
      have zS:=jj hjI<|jj hg<|jj hgE<|jj hWl<|hq
      repeat' (first|(apply aw_seq_k;intro K hK)|(refine eM64 ?_)|(refine aw_cond (b:=_) (by exact rfl) (fun h=>?_) (fun h=>?_)<;>(try simp at h))|(refine eB ?_)|(refine hK _ ?_;clear hK)|(clear hK;refine hK _ ?_;clear hK)|(clear hK;clear hK;refine hK _ ?_;clear hK)|(clear hK;clear hK;clear hK;refine hK _ ?_;clear hK))
      all_goals clear zS
      have hWe:F++(G++[(x,y,z)]++l.drop (j+1))=W:=by rw [hW,hdr];simp
      refine ⟨j+1,G++[(x,y,z)],?_,⟨by omega,by rw [hins];simp;omega,by simp⟩,by omega⟩
      simp only [hins,hWe]
      refine le_turn (s1:=?tus11) (m1:=?tum11) [] [0,1,5,6] [0] ?tua11 ?tub11 ?tuc11 ?tud11 ?tue11 ?tuf11 ?tug11
      case tua11=>first|(simp [keepS];done)|(simp [keepS];rfl)
      case tub11=>first|(simp;done)|(simp;rfl)
      case tuc11=>simp
      case tud11=>simp
      case tue11=>simp
      case tuf11=>simp
      case tug11 =>
       simp [swp,vr]
       exact dle
     | false =>
      rw [hv] at hq
      rw [if_neg (by simp [hv])] at hins
      have zS:=jj hjI<|jj hg<|jj hgE<|jj hWl<|jj hq<|jj hgF<|jj hgFE<|jj hFI<|jj hFI2<|jj hFL2<|trows_set
      repeat' (first|(apply aw_seq_k;intro K hK)|(refine eM64 ?_)|(refine aw_cond (b:=_) (by exact rfl) (fun h=>?_) (fun h=>?_)<;>(try simp at h))|(refine eB ?_)|(refine hK _ ?_;clear hK)|(clear hK;refine hK _ ?_;clear hK)|(clear hK;clear hK;refine hK _ ?_;clear hK)|(clear hK;clear hK;clear hK;refine hK _ ?_;clear hK))
      all_goals clear zS
      obtain ⟨g,G',rfl⟩:∃ g G',G=g::G':=by
       cases G with
       | nil=>simp at hG1
       | cons g G'=>exact ⟨g,G',rfl⟩
      have hWs:(F++[(x,y,z)])++(G'++[(x,y,z)]++l.drop (j+1))=W.set F.length (x,y,z):=by
       have e:=set_midT F g (x,y,z) (G'++l.drop j)
       have e2:F++g::(G'++l.drop j)=W:=by rw [hW];simp
       rw [e2] at e
       rw [e,hdr];simp
      simp only [List.length_cons] at hFG
      refine ⟨j+1,G'++[(x,y,z)],?_,⟨by omega,by rw [hins];simp;omega,by simp⟩,by omega⟩
      simp only [hins,hWs]
      refine le_turn (s1:=?tus12) (m1:=?tum12) [] [0,1,5,6] [0] ?tua12 ?tub12 ?tuc12 ?tud12 ?tue12 ?tuf12 ?tug12
      case tua12=>first|(simp [keepS];done)|(simp [keepS];rfl)
      case tub12=>first|(simp;done)|(simp;rfl)
      case tuc12=>simp
      case tud12=>simp
      case tue12=>simp
      case tuf12=>simp
      case tug12 =>
       simp [swp,vr]
       exact dle
    ·obtain rfl:j=l.length:=by omega
     rw [List.take_length] at hFe
     have hnil:l.drop l.length=[]:=List.drop_eq_nil_of_le (Nat.le_refl _)
     rw [hnil]
     have zS:=jj tkT<|hFG
     repeat' (first|(apply aw_seq_k;intro K hK)|(refine eM64 ?_)|(refine aw_cond (b:=_) (by exact rfl) (fun h=>?_) (fun h=>?_)<;>(try simp at h))|(refine eB ?_)|(refine hK _ ?_;clear hK)|(clear hK;refine hK _ ?_;clear hK)|(clear hK;clear hK;refine hK _ ?_;clear hK)|(clear hK;clear hK;clear hK;refine hK _ ?_;clear hK))
     all_goals clear zS
     refine ⟨by simp,leavesM_any ?_⟩
     simp (disch:=first|omega|assumption|(simp;done)|fail) [if_pos,if_neg,leaves_iff,Tryz.f210]
     rw [← hFe,← trows_take]
     simp
end Go.AM
namespace Go.AM
open Go Go.Proofs
def tlOK (b:Tl):Prop:=b.2.length≤1000000∧∀ x∈b.2,x.2.2<2^64
theorem CfF_at (l:List Te) (x:Te) (h:tesOK l) (hx:teOK x):CfF [.rd 3 (trows l),.fn 167 [.rp [I x.1,I x.2.1,U x.2.2]]]=some (B (l.any (ovB x))) :=
 specF_eq (ι:={x:List Te×Te // tesOK x.1∧teOK x.2}) (A:=fun x=>[.rd 3 (trows x.1.1),fkA (.ck x.1.2)]) (R:=fun x=>retOf [B (x.1.1.any (ovB x.1.2))]) ⟨(l,x),h,hx⟩ (by
  rintro ⟨⟨k,c⟩,h⟩ e
  simp only [List.cons.injEq,AV.rd.injEq,trows_inj,fkA_inj,true_and,and_true,Fk.ck.injEq] at e
  obtain ⟨rfl,rfl⟩:=e;rfl)
theorem erE_2 {l:List Te} {i:Nat} (h:plcB (gt l i).1 (gt l i).2.1=false):erE l i=2:=by
 have:efE (gt l i)=2:=by unfold efE;rw [if_pos h]
 unfold erE
 rw [this];rfl
theorem erE_3 {l:List Te} {i:Nat} (h:plcB (gt l i).1 (gt l i).2.1=true) (h2:trB (gt l i).2.2=false∨(hgB (gt l i).2.2=true∧(gt l i).2.1%8≠0)):erE l i=3:=by
 have:efE (gt l i)=3:=by unfold efE;rw [if_neg (by simp [h]),if_pos h2]
 unfold erE
 rw [this];rfl
theorem efE_0 {x:Te} (h:plcB x.1 x.2.1=true) (h2:trB x.2.2=true) (h3:hgB x.2.2=false∨x.2.1%8=0):efE x=0:=by
 unfold efE
 rw [if_neg (by simp [h]),if_neg]
 rintro (k|⟨k1,k2⟩)
 ·rw [h2] at k;simp at k
 ·rcases h3 with h3|h3
  ·rw [h3] at k1;simp at k1
  ·exact k2 h3
theorem erE_7 {l:List Te} {i:Nat} (h:efE (gt l i)=0) (h2:(l.take i).any (ovB (gt l i))=true):erE l i=7:=by
 unfold erE
 rw [if_neg (by simp [h]),if_pos h2]
theorem erE_0 {l:List Te} {i:Nat} (h:efE (gt l i)=0) (h2:(l.take i).any (ovB (gt l i))=false):erE l i=0:=by
 unfold erE
 rw [if_neg (by simp [h]),if_neg (by simp [h2])]
theorem te_ok {x:Te} (h:efE x=0) (h2:x.2.2<2^64):teOK x:=by
 obtain ⟨⟨_,_,h3,h4⟩,_,_⟩:=efE_z h
 exact ⟨h3,h4,h2⟩
theorem pre_ok {l:List Te} {i:Nat} (hl:l.length≤1000000) (hu:∀ x∈l,x.2.2<2^64) (h:∀ j,j<i→erE l j=0):tesOK (l.take i):=by
 refine ⟨by simp;omega,fun x hx=>?_⟩
 obtain ⟨j,hj,rfl⟩:=List.getElem_of_mem hx
 simp only [List.length_take] at hj
 rw [List.getElem_take]
 have h1:=(erE_z (h j (by omega))).1
 rw [gt_eq (by omega)] at h1
 exact te_ok h1 (hu _ (List.getElem_mem _))
theorem tl_ok {b:Tl} (h:tlOK b) (h0:chB b=0):tesOK b.2:=by
 have:=pre_ok h.1 h.2 (i:=b.2.length) (fun j hj=>(chB_z.1 h0).2.2.2 j hj)
 rwa [List.take_length] at this
noncomputable def CtF:List AV→Option AV:=specF (ι:={b:Tl // tlOK b}) (fun x=>[TlV x.1]) fun x=>retOf [I (chB x.1)]
set_option maxHeartbeats 4000000 in
theorem s92 (X:AX) (hX:XOK Tryz.prog X) (hw:X.W wT) (hpl:∀ s p M k,X.call 164 [I s,I p] M k=some (I (if plcB s p=true then 0 else 2),[]))
  (htr:∀ w:Nat,w<2^64→∀ M k,X.call 165 [U w] M k=some (.tup [B (trB w),B (hgB w)],[])) (hcf:X.call 166=callP CfF):PSound Tryz.prog 92 CtF:=by
 unfold CtF
 refine psound_spec hX mixed Tryz.func92 rfl fun ⟨⟨s,l⟩,hl,hu⟩ w0 G=>⟨by show 1≤62;decide,rfl,?_⟩
 show AW ⟨Tryz.prog,X,62,w0,.pure G⟩ _ _ _
 have hc:Cx.OK ⟨Tryz.prog,X,62,w0,.pure G⟩:=⟨hX,mixed⟩
 simp only at hl hu ⊢
 simp only [TlV]
 rcases Decidable.em (s<1) with h1|h1
 ·have e:chB (s,l)=1:=by unfold chB;rw [if_pos (.inl h1)]
  rw [e]
  have zS:=h1
  refine dM64 ?_
  repeat (intro K hK)
  clear zS
  refine ⟨by simp,?_⟩
  simp [leaves_iff,Tryz.f92]
  try exact dt
 ·rcases Decidable.em (16<s) with h2|h2
  ·have e:chB (s,l)=1:=by unfold chB;rw [if_pos (.inr h2)]
   rw [e]
   have zS:=jj h1<|h2
   refine dM64 ?_
   repeat (intro K hK)
   clear zS
   refine ⟨by simp,?_⟩
   simp [leaves_iff,Tryz.f92]
   try exact dt
  ·rcases Decidable.em (s<(l.length:Int)) with h3|h3
   ·have e:chB (s,l)=8:=by unfold chB;rw [if_neg (by simp only;omega),if_pos h3]
    rw [e]
    have zS:=jj h1<|jj h2<|h3
    refine dM64 ?_
    repeat (intro K hK)
    clear zS
    refine ⟨by simp,?_⟩
    simp [leaves_iff,Tryz.f92]
    try exact dt
   ·have e:chB (s,l)=frst (erE l) l.length:=by unfold chB;rw [if_neg (by simp only;omega),if_neg h3]
    rw [e]
    have zS:=jj h1<|jj h2<|h3
    repeat' (first|(apply aw_seq_k;intro K hK)|(refine eM64 ?_)|(refine aw_cond (b:=_) (by exact rfl) (fun h=>?_) (fun h=>?_)<;>(try simp at h))|(refine eB ?_)|(refine hK _ ?_;clear hK)|(clear hK;refine hK _ ?_;clear hK)|(clear hK;clear hK;refine hK _ ?_;clear hK)|(clear hK;clear hK;clear hK;refine hK _ ?_;clear hK))
    all_goals clear zS
    refine aw_loopK (s0:=?lps1) (m0:=?lpm1) (ι:={i:Nat // i≤l.length∧∀ j,j<i→erE l j=0}) [1,23,24] (fun i=>[(25,I i.1)]) (fun _=>[]) (fun i=>l.length - i.1) ⟨0,by omega,by omega⟩ ?lhs1 ?lhm1 ?_ ?_
    case lhs1=>first|(simp [keepS];done)|(simp [keepS];rfl)
    case lhm1=>first|rfl|(simp;done)|(simp;rfl)
    ·exact dle
    ·rintro ⟨i,hi,hinv⟩
     simp only
     rcases Decidable.em (i<l.length) with hil|hil
     ·have hilI:(i:Int)<(l.length:Int):=by omega
      have hg:=trows_gi hil
      have hgE:=trows_gE hil
      have hx3:=hu _ (gt_mem hil)
      have hat:erE l i≠0→frst (erE l) l.length=erE l i:=fun h=>frst_at hinv h hil
      have hnx:erE l i=0→∀ j,j<i+1→erE l j=0:=fun h j hj=>by
       rcases Nat.lt_succ_iff_lt_or_eq.1 hj with h5|rfl
       ·exact hinv j h5
       ·exact h
      have e2:=@erE_2 l i
      have e3:=@erE_3 l i
      have e0:=@efE_0 (gt l i)
      have e7:=@erE_7 l i
      have e00:=@erE_0 l i
      have hcfa:=CfF_at (l.take i) (gt l i) (pre_ok hl hu hinv)
      have hto:efE (gt l i)=0→teOK (gt l i):=fun h=>te_ok h hx3
      rw [trows_take] at hcfa
      obtain ⟨v,hv⟩:∃ v,v=(l.take i).any (ovB (gt l i)):=⟨_,rfl⟩
      rw [← hv] at hcfa e7 e00
      obtain ⟨ef,hef⟩:∃ v,v=efE (gt l i):=⟨_,rfl⟩
      rw [← hef] at e0 e7 e00 hto
      obtain ⟨⟨x1,x2,x3⟩,hm⟩:∃ m,m=gt l i:=⟨_,rfl⟩
      rw [← hm] at hg hgE hx3 e2 e3 e0 hcfa hto
      simp only [trow,U] at hg hgE hx3 e2 e3 e0 hcfa
      have hp:=hpl x1 x2
      have ht:=htr x3 hx3
      obtain ⟨a,ha⟩:∃ a,a=trB x3:=⟨_,rfl⟩
      obtain ⟨b,hb⟩:∃ b,b=hgB x3:=⟨_,rfl⟩
      obtain ⟨c,hcc⟩:∃ c,c=plcB x1 x2:=⟨_,rfl⟩
      rw [← hcc] at hp e2 e3 e0
      rw [← ha,← hb] at ht e3 e0
      simp only [U] at ht
      cases c with
      | false =>
       have er:=e2 rfl
       rw [er] at hat
       have hfe:=hat (by decide)
       rw [if_neg (by decide)] at hp
       rw [hfe]
       have zS:=jj hilI<|jj hil<|jj hg<|jj hgE<|hp
       repeat' (first|(apply aw_seq_k;intro K hK)|(refine eM64 ?_)|(refine aw_cond (b:=_) (by exact rfl) (fun h=>?_) (fun h=>?_)<;>(try simp at h))|(refine eB ?_)|(refine hK _ ?_;clear hK)|(clear hK;refine hK _ ?_;clear hK)|(clear hK;clear hK;refine hK _ ?_;clear hK)|(clear hK;clear hK;clear hK;refine hK _ ?_;clear hK))
       all_goals clear zS
       refine ⟨by simp,?_⟩
       simp [leaves_iff,Tryz.f92]
       try exact dt
       try exact hfe
      | true =>
       rw [if_pos rfl] at hp
       have hx2:0≤x2:=by
        unfold plcB at hcc
        have:=hcc.symm
        simp only [decide_eq_true_eq] at this
        exact this.2.2.1
       have htm:x2.tmod 8=x2%8:=Int.tmod_eq_emod_of_nonneg hx2
       cases a with
       | false =>
        have er:=e3 rfl (.inl rfl)
        rw [er] at hat
        have hfe:=hat (by decide)
        rw [hfe]
        have zS:=jj hilI<|jj hil<|jj hg<|jj hgE<|jj hp<|ht
        repeat' (first|(apply aw_seq_k;intro K hK)|(refine eM64 ?_)|(refine aw_cond (b:=_) (by exact rfl) (fun h=>?_) (fun h=>?_)<;>(try simp at h))|(refine eB ?_)|(refine hK _ ?_;clear hK)|(clear hK;refine hK _ ?_;clear hK)|(clear hK;clear hK;refine hK _ ?_;clear hK)|(clear hK;clear hK;clear hK;refine hK _ ?_;clear hK))
        all_goals clear zS
        refine ⟨by simp,?_⟩
        simp [leaves_iff,Tryz.f92]
        try exact dt
        try exact hfe
       | true =>
        rcases Decidable.em (b=true∧x2%8≠0) with hb8|hb8
        ·have er:=e3 rfl (.inr hb8)
         rw [er] at hat
         have hfe:=hat (by decide)
         obtain ⟨rfl,hr8⟩:=hb8
         rw [hfe]
         have zS:=jj hilI<|jj hil<|jj hg<|jj hgE<|jj hp<|jj ht<|jj htm<|hr8
         repeat' (first|(apply aw_seq_k;intro K hK)|(refine eM64 ?_)|(refine aw_cond (b:=_) (by exact rfl) (fun h=>?_) (fun h=>?_)<;>(try simp at h))|(refine eB ?_)|(refine hK _ ?_;clear hK)|(clear hK;refine hK _ ?_;clear hK)|(clear hK;clear hK;refine hK _ ?_;clear hK)|(clear hK;clear hK;clear hK;refine hK _ ?_;clear hK))
         all_goals clear zS
         refine ⟨by simp,?_⟩
         simp [leaves_iff,Tryz.f92]
         try exact dt
         try exact hfe
        ·have hb9:b=false∨x2%8=0:=by
          cases b with
          | false=>exact .inl rfl
          | true=>exact .inr (by by_cases k:x2%8=0;exact k;exact absurd ⟨rfl,k⟩ hb8)
         have ez:=e0 rfl rfl hb9
         have hF:=hcfa (hto ez)
         cases v with
         | true =>
          have er:=e7 ez rfl
          rw [er] at hat
          have hfe:=hat (by decide)
          rw [hfe]
          cases b with
          | false =>
           have zS:=jj hilI<|jj hil<|jj hg<|jj hgE<|jj hp<|jj ht<|jj hcf<|hF
           repeat' (first|(apply aw_seq_k;intro K hK)|(refine eM64 ?_)|(refine aw_cond (b:=_) (by exact rfl) (fun h=>?_) (fun h=>?_)<;>(try simp at h))|(refine eB ?_)|(refine hK _ ?_;clear hK)|(clear hK;refine hK _ ?_;clear hK)|(clear hK;clear hK;refine hK _ ?_;clear hK)|(clear hK;clear hK;clear hK;refine hK _ ?_;clear hK))
           all_goals clear zS
           refine ⟨by simp,?_⟩
           simp [leaves_iff,Tryz.f92]
           try exact dt
           try exact hfe
          | true =>
           have hr8:x2%8=0:=by simpa using hb9
           have zS:=jj hilI<|jj hil<|jj hg<|jj hgE<|jj hp<|jj ht<|jj htm<|jj hr8<|jj hcf<|hF
           repeat' (first|(apply aw_seq_k;intro K hK)|(refine eM64 ?_)|(refine aw_cond (b:=_) (by exact rfl) (fun h=>?_) (fun h=>?_)<;>(try simp at h))|(refine eB ?_)|(refine hK _ ?_;clear hK)|(clear hK;refine hK _ ?_;clear hK)|(clear hK;clear hK;refine hK _ ?_;clear hK)|(clear hK;clear hK;clear hK;refine hK _ ?_;clear hK))
           all_goals clear zS
           refine ⟨by simp,?_⟩
           simp [leaves_iff,Tryz.f92]
           try exact dt
           try exact hfe
         | false =>
          have er:=hnx (e00 ez rfl)
          cases b with
          | false =>
           have zS:=jj hilI<|jj hil<|jj hg<|jj hgE<|jj hp<|jj ht<|jj hcf<|hF
           repeat' (first|(apply aw_seq_k;intro K hK)|(refine eM64 ?_)|(refine aw_cond (b:=_) (by exact rfl) (fun h=>?_) (fun h=>?_)<;>(try simp at h))|(refine eB ?_)|(refine hK _ ?_;clear hK)|(clear hK;refine hK _ ?_;clear hK)|(clear hK;clear hK;refine hK _ ?_;clear hK)|(clear hK;clear hK;clear hK;refine hK _ ?_;clear hK))
           all_goals clear zS
           refine ⟨i+1,?_,⟨by omega,er⟩,by omega⟩
           exact dle
          | true =>
           have hr8:x2%8=0:=by simpa using hb9
           have zS:=jj hilI<|jj hil<|jj hg<|jj hgE<|jj hp<|jj ht<|jj htm<|jj hr8<|jj hcf<|hF
           repeat' (first|(apply aw_seq_k;intro K hK)|(refine eM64 ?_)|(refine aw_cond (b:=_) (by exact rfl) (fun h=>?_) (fun h=>?_)<;>(try simp at h))|(refine eB ?_)|(refine hK _ ?_;clear hK)|(clear hK;refine hK _ ?_;clear hK)|(clear hK;clear hK;refine hK _ ?_;clear hK)|(clear hK;clear hK;clear hK;refine hK _ ?_;clear hK))
           all_goals clear zS
           refine ⟨i+1,?_,⟨by omega,er⟩,by omega⟩
           exact dle
     ·obtain rfl:i=l.length:=by omega
      have hfe:frst (erE l) l.length=0:=frst_z.2 hinv
      rw [hfe]
      repeat' (first|(apply aw_seq_k;intro K hK)|(refine eM64o ?_)|(refine aw_cond (b:=_) (by exact rfl) (fun h=>?_) (fun h=>?_)<;>(try simp at h))|(refine eB ?_)|(refine hK _ ?_;clear hK)|(clear hK;refine hK _ ?_;clear hK)|(clear hK;clear hK;refine hK _ ?_;clear hK)|(clear hK;clear hK;clear hK;refine hK _ ?_;clear hK))
      refine ⟨by simp,?_⟩
      simp [leaves_iff,Tryz.f92]
      try exact dt
      try exact hfe
end Go.AM
