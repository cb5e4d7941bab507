/- A part of the proof. -/
import Derived.Test.YtcfhmdljeeppfaaGreatCPt60
import Derived.Test.YtcfhmdljeeppfaaGreatCAmW
import Derived.Test.YtcfhmdljeeppfaaGreatCPt36
set_option linter.all false
set_option maxHeartbeats 4000000
namespace Go.AM
open Go Go.Proofs Tryz
noncomputable def LkF:List AV→Option AV:=spF (ι:={x:Tl×Int×Int // tlOK x.1}) (fun x=>[TlV x.1.1,I x.1.2.1,I x.1.2.2]) fun x=>rtO [U (lkT x.1.1 x.1.2.1 x.1.2.2).1,B (lkT x.1.1 x.1.2.1 x.1.2.2).2]
theorem lk_c {b:Tl} {s p:Int} (h:chB b≠0):lkT b s p=(0,false):=by unfold lkT;rw [if_pos h]
theorem find_at {p:Te→Bool}:∀ {l:List Te} {i:Nat} (hi:i<l.length),p (gt l i)=true→(∀ j,j<i→p (gt l j)=false)→l.find? p=some (gt l i)
 | [],i,hi,_,_=>by simp at hi
 | x::l,0,_,h,_=>by
  rw [List.find?_cons]
  have:p x=true:=h
  rw [this];rfl
 | x::l,i+1,hi,h,hn=>by
  have h0:p x=false:=hn 0 (by omega)
  rw [List.find?_cons,h0]
  exact find_at (l:=l) (i:=i) (by simpa using hi) h fun j hj=>hn (j+1) (by omega)
theorem find_no {p:Te→Bool} {l:List Te} (h:∀ j,j<l.length→p (gt l j)=false):l.find? p=none:=by
 rw [List.find?_eq_none]
 intro x hx
 obtain ⟨j,hj,rfl⟩:=List.getElem_of_mem hx
 have:=h j hj
 rw [gt_eq hj] at this
 simp [this]
theorem lk_at {b:Tl} {s p:Int} {i:Nat} (h:chB b=0) (hi:i<b.2.length) (h1:cvB (gt b.2 i) s p=true) (h2:∀ j,j<i→cvB (gt b.2 j) s p=false):lkT b s p=((gt b.2 i).2.2,true):=by
 unfold lkT
 rw [if_neg (by simp [h]),find_at (p:=fun x=>cvB x s p) hi h1 h2]
theorem lk_no {b:Tl} {s p:Int} (h:chB b=0) (h2:∀ j,j<b.2.length→cvB (gt b.2 j) s p=false):lkT b s p=(0,false):=by
 unfold lkT
 rw [if_neg (by simp [h]),find_no (p:=fun x=>cvB x s p) h2]
theorem s93 (X:AX) (hX:XOK prog X) (hw:X.W wT) (hct:∀ b:Tl,tlOK b→∀ M k,X.call 92 [TlV b] M k=some (I (chB b),[]))
  (hcv:∀ x s p,teOK x→∀ M k,X.call 169 [TeV x,I s,I p] M k=some (B (cvB x s p),[])):PSd prog 93 LkF:=by
 unfold LkF
 refine psS hX mixed func93 rfl fun ⟨⟨⟨z,l⟩,s,p⟩,hok⟩ w0 G=>⟨by show 3≤27;decide,rfl,?_⟩
 show AW ⟨prog,X,27,w0,.pure G⟩ _ _ _
 have hc:=okc hX 27 w0 G
 simp only at hok ⊢
 have ht:=hct _ hok
 obtain ⟨hl,hu⟩:=hok
 simp only at hl hu
 rcases dE (chB (z,l)=0) with h0|h0
 ·rw [h0] at ht
  have htl:=tl_ok ⟨hl,hu⟩ h0
  have hat:=@lk_at (z,l) s p
  have hno:=@lk_no (z,l) s p h0
  obtain ⟨⟨rw,rb⟩,hR⟩:∃ R,R=lkT (z,l) s p:=⟨_,rfl⟩
  rw [← hR] at hno ⊢
  simp only [← hR] at hat
  simp only [TlV] at ht ⊢
  simp only at hno hat htl
  have zS:=ht
  repeat' (first|(refine aSk fun K hK=>?_)|(refine eM64 ?_)|(refine eC (fun h=>?_) (fun h=>?_)<;>(try simp at h))|(refine hK _ ?_;clear hK)|(clear hK;refine hK _ ?_;clear hK))
  all_goals clear zS
  refine aLK (s0:=?lps1) (m0:=?lpm1) (ι:={i:Nat // i≤l.length∧∀ j,j<i→cvB (gt l j) s p=false}) [1,2,14,15] (fun i=>[(16,I i.1)]) (fun _=>[]) (fun i=>l.length - i.1) ⟨0,by omega,by omega⟩ ?lhs1 ?lhm1 ?_ ?_
  case lhs1=>first|(simp [kpS];done)|(simp [kpS];rfl)
  case lhm1=>first|rfl|(simp;done)|(simp;rfl)
  ·exact dle
  ·rintro ⟨i,hi,hinv⟩
   simp only
   rcases dE (i<l.length) with hil|hil
   ·have hilI:(i:Int)<(l.length:Int):=by omega
    have hg:=trows_gi hil
    have hgE:=trows_gE hil
    have hq:=hcv _ s p (htl.2 _ (gt_mem hil))
    have ha:=fun h=>hat h0 hil h hinv
    have hnx:cvB (gt l i) s p=false→∀ j,j<i+1→cvB (gt l j) s p=false:=fun h j hj=>by
     rcases Nat.lt_succ_iff_lt_or_eq.1 hj with h5|rfl
     ·exact hinv j h5
     ·exact h
    obtain ⟨⟨x1,x2,x3⟩,hm⟩:∃ m,m=gt l i:=⟨_,rfl⟩
    rw [← hm] at hg hgE hq ha hnx
    simp only [trow,TeV,U] at hg hgE hq ha hnx
    obtain ⟨v,hv⟩:∃ v,v=cvB (x1,x2,x3) s p:=⟨_,rfl⟩
    rw [← hv] at hq ha hnx
    cases v with
    | true =>
     have he:=ha rfl
     simp only [pJ] at he
     obtain ⟨he1,he2⟩:=he
     subst he1 he2
     have zS:=jj hilI<|jj hil<|jj hg<|jj hgE<|hq
     repeat' (first|(refine aSk fun K hK=>?_)|(refine eM64 ?_)|(refine eC (fun h=>?_) (fun h=>?_)<;>(try simp at h))|(refine hK _ ?_;clear hK)|clear hK)
     all_goals clear zS
     refine ⟨by simp,?_⟩
     simp [lvI,f93,U]
     try exact dt
    | false =>
     have hr:=hnx rfl
     have zS:=jj hilI<|jj hil<|jj hg<|jj hgE<|hq
     repeat' (first|(refine aSk fun K hK=>?_)|(refine eM64 ?_)|(refine eC (fun h=>?_) (fun h=>?_)<;>(try simp at h))|(refine hK _ ?_;clear hK)|clear hK)
     all_goals clear zS
     refine ⟨i+1,?_,⟨by omega,hr⟩,by omega⟩
     exact dle
   ·obtain rfl:i=l.length:=by omega
    have he:=hno hinv
    simp only [pJ] at he
    obtain ⟨he1,he2⟩:=he
    subst he1 he2
    repeat' (first|(refine aSk fun K hK=>?_)|(refine eMo ?_)|(refine eC (fun h=>?_) (fun h=>?_)<;>(try simp at h))|(refine hK _ ?_;clear hK)|clear hK)
    refine ⟨by simp,?_⟩
    simp [lvI,f93,U]
    try exact dt
 ·rw [lk_c h0]
  obtain ⟨c,hcz⟩:∃ c,c=chB (z,l):=⟨_,rfl⟩
  rw [← hcz] at ht h0
  simp only [TlV] at ht ⊢
  have zS:=jj ht<|h0
  refine dM64 ?_
  repeat (intro K hK)
  clear zS
  refine ⟨by simp,?_⟩
  simp [lvI,f93,U]
  try exact dt
def TlO (b:Tl):AV:=.agg [I b.1,.ow 3 (trw b.2)]
def TlC (b:Tl) (n:Nat):AV:=.agg [I b.1,.sl n 1 3 0 b.2.length]
theorem callClT {l:List Te} (h:l.length≤1000000) (M:Nat→AO) (n:Nat):caP ClTF [.rd 3 (trw l)] M n=some (.sl n 1 3 0 l.length,[(n,.vec 1 3 false (trw l))]):=by
 have k:=cPs (ι:={l:List Te // l.length≤1000000}) (A:=fun x=>[.rd 3 (trw x.1)]) (R:=fun x=>rtO [.ow 3 (trw x.1)]) (avs:=[.rd 3 (trw l)]) (M:=M) (n:=n) ⟨l,h⟩ (by simp) (by
  rintro ⟨l',h'⟩ e
  simp only [cJ,AV.rd.injEq,trI,true_and,and_true] at e
  subst e;rfl) (by simp [rtO,oRt,oVs,oVl,oLs,oLf])
 unfold ClTF
 rw [k]
 simp [rtO,oRt,oVs,oVl,oLs,oLf]
theorem callDfT {b v:Nat} {fl:Bool} {l:List Te} {o:Fk} (h:tesOK l) (ho:fkO o) (M:Nat→AO) (nid:Nat) (hb:M b=.vec v 3 fl (trw l)) :
  callM false three3 DfT [.sl b v 3 0 l.length,fkA o] M nid=some (.sl nid 1 3 0 (drpT (fkP o) l).length,[(nid,.vec 1 3 false (trw (drpT (fkP o) l))),(b,.dead)]):=by
 have hF:=DfT_at l o h ho
 cases o<;>(simp only [fkA] at hF ⊢;simp [callM,giveArg,takeArg,hb,hF,tkL,three3])
noncomputable def WoF:List AV→Option AV:=spF (ι:={x:Tl×Fk // tesOK x.1.2∧fkO x.2}) (fun x=>[TlV x.1.1,fkA x.1.2]) fun x=>rtO [TlO (x.1.1.1,drpT (fkP x.1.2) x.1.1.2)]
theorem TlO_fl {b:Tl}:(rtO [TlO b]).flat:=by
 simp [rtO,AV.flat,AV.flatV,AV.flat1,TlO]
 try (intro e he a ha;obtain ⟨x,_,rfl⟩:=List.mem_map.1 he;simp [trow] at ha;rcases ha with rfl|rfl|rfl<;>trivial)
theorem s170 (X:AX) (hX:XOK prog X) (hw:X.W wT) (hcl:X.call 211=caP ClTF) (hdf:X.call 210=callM false three3 DfT):PSd prog 170 WoF:=by
 unfold WoF
 refine psS hX mixed func170 rfl fun ⟨⟨⟨z,l⟩,o⟩,hl,ho⟩ w0 G=>⟨by show 2≤13;decide,rfl,?_⟩
 show AW ⟨prog,X,13,w0,.pure G⟩ _ _ _
 have hc:=okc hX 13 w0 G
 simp only at hl ho ⊢
 have cl:=@callClT l hl.1
 rw [← hcl] at cl
 have df:=fun b v fl M n=>@callDfT b v fl l o hl ho M n
 rw [← hdf] at df
 obtain ⟨D,hD⟩:∃ D,D=drpT (fkP o) l:=⟨_,rfl⟩
 rw [← hD] at df ⊢
 simp only [TlV,TlO]
 cases o with
 | ck c =>
  simp only [fkA] at df ⊢
  have zS:=jj cl<|df
  refine dF64 ?_
  repeat (intro K hK)
  clear zS
  all_goals refine ⟨by simp,?_⟩
  all_goals simp [lvI,f170,tkT]
  all_goals try exact dt
 | fl c =>
  simp only [fkA] at df ⊢
  have zS:=jj cl<|df
  refine dF64 ?_
  repeat (intro K hK)
  clear zS
  all_goals refine ⟨by simp,?_⟩
  all_goals simp [lvI,f170,tkT]
  all_goals try exact dt
 | iv s p =>
  simp only [fkA] at df ⊢
  have zS:=jj cl<|df
  refine dF64 ?_
  repeat (intro K hK)
  clear zS
  all_goals refine ⟨by simp,?_⟩
  all_goals simp [lvI,f170,tkT]
  all_goals try exact dt
set_option maxHeartbeats 8000000
theorem WoF_at (b:Tl) (o:Fk) (h:tesOK b.2) (ho:fkO o):WoF [TlV b,fkA o]=some (TlO (b.1,drpT (fkP o) b.2)) :=
 sFe (ι:={x:Tl×Fk // tesOK x.1.2∧fkO x.2}) (A:=fun x=>[TlV x.1.1,fkA x.1.2]) (R:=fun x=>rtO [TlO (x.1.1.1,drpT (fkP x.1.2) x.1.1.2)]) ⟨(b,o),h,ho⟩ (by
  rintro ⟨⟨k,c⟩,h⟩ e
  simp only [cJ,TlJ,fkA_inj,and_true] at e
  obtain ⟨rfl,rfl⟩:=e;rfl)
noncomputable def InF:List AV→Option AV:=spF (ι:={x:Tl×Int×Int // tlOK x.1}) (fun x=>[TlV x.1.1,I x.1.2.1,I x.1.2.2]) fun x=>rtO [TlO (inT x.1.1 x.1.2.1 x.1.2.2).1,I (inT x.1.1 x.1.2.1 x.1.2.2).2]
theorem s98 (X:AX) (hX:XOK prog X) (hw:X.W wT) (hct:∀ b:Tl,tlOK b→∀ M k,X.call 92 [TlV b] M k=some (I (chB b),[]))
  (hpl:∀ s p M k,X.call 164 [I s,I p] M k=some (I (if plcB s p=true then 0 else 2),[])) (hwo:X.call 170=caP WoF):PSd prog 98 InF:=by
 unfold InF
 refine psS hX mixed func98 rfl fun ⟨⟨⟨z,l⟩,s,p⟩,hok⟩ w0 G=>⟨by show 3≤26;decide,rfl,?_⟩
 show AW ⟨prog,X,26,w0,.pure G⟩ _ _ _
 have hc:=okc hX 26 w0 G
 simp only at hok ⊢
 have ht:=hct _ hok
 have hp:=hpl s p
 rcases dE (chB (z,l)=0) with h0|h0
 ·have htl:=tl_ok hok h0
  have hF:=WoF_at (z,l) (.iv s p) htl trivial
  rw [h0] at ht
  cases hpb:plcB s p with
  | false =>
   rw [hpb,if_neg (by decide)] at hp
   have e:inT (z,l) s p=(zB,2):=by unfold inT;rw [if_neg (by simp [h0]),if_pos hpb]
   rw [e]
   simp only [TlV,TlO,zB] at ht ⊢
   have zS:=jj ht<|hp
   refine dM64 ?_
   repeat (intro K hK)
   clear zS
   refine ⟨by simp,?_⟩
   simp [lvI,f98,trw]
   try exact dt
  | true =>
   rw [hpb,if_pos rfl] at hp
   have e:inT (z,l) s p=((z,drpT (fkP (.iv s p)) l),0):=by unfold inT;rw [if_neg (by simp [h0]),if_neg (by simp [hpb])];rfl
   rw [e]
   simp only at hF
   obtain ⟨D,hD⟩:∃ D,D=drpT (fkP (.iv s p)) l:=⟨_,rfl⟩
   rw [← hD] at hF ⊢
   simp only [TlV,TlO,fkA] at ht hF ⊢
   have zS:=jj ht<|jj hp<|jj hwo<|hF
   refine dM64 ?_
   repeat (intro K hK)
   clear zS
   refine ⟨by simp,?_⟩
   simp [lvI,f98,tkT]
   try exact dt
 ·have e:inT (z,l) s p=(zB,chB (z,l)):=by unfold inT;rw [if_pos h0]
  rw [e]
  obtain ⟨c,hcz⟩:∃ c,c=chB (z,l):=⟨_,rfl⟩
  rw [← hcz] at ht h0 ⊢
  simp only [TlV,TlO,zB] at ht ⊢
  have zS:=jj ht<|h0
  refine dM64 ?_
  repeat (intro K hK)
  clear zS
  refine ⟨by simp,?_⟩
  simp [lvI,f98,trw]
  try exact dt
noncomputable def FiF7:List AV→Option AV:=spF (ι:={x:Tl×Int×Int×Nat // tlOK x.1∧x.2.2.2<2^64}) (fun x=>[TlV x.1.1,I x.1.2.1,I x.1.2.2.1,U x.1.2.2.2]) fun x=>rtO [TlO (fiT x.1.1 x.1.2.1 x.1.2.2.1 x.1.2.2.2).1,I (fiT x.1.1 x.1.2.1 x.1.2.2.1 x.1.2.2.2).2]
theorem fin1 {D:List Te} {a b:Int} {c:Nat}:trw (D++[(a,b,c)])=List.take (D.length+1) (trw D++[[I a,I b,.v (.int .u64 c)]]):=by
 rw [tkL (by simp)]
 simp [trw,trow,U]
theorem fin2 {D:List Te} (h:1≤D.length) {a b:Int} {c:Nat}:trw (D.tail++[(a,b,c)])=List.take (D.length - 1+1) (List.take (D.length - 1) (trw D).tail++[[I a,I b,.v (.int .u64 c)]]):=by
 have e:List.take (D.length - 1) (trw D).tail=trw D.tail:=by
  rw [tkL (by simp)]
  cases D with
  | nil=>rfl
  | cons x D=>rfl
 rw [e,tkL (by simp)]
 simp [trw,trow,U]
theorem s100 (X:AX) (hX:XOK prog X) (hw:X.W wT) (hct:∀ b:Tl,tlOK b→∀ M k,X.call 92 [TlV b] M k=some (I (chB b),[]))
  (hpl:∀ s p M k,X.call 164 [I s,I p] M k=some (I (if plcB s p=true then 0 else 2),[]))
  (htr:∀ w:Nat,w<2^64→∀ M k,X.call 165 [U w] M k=some (.tup [B (trB w),B (hgB w)],[])) (hwo:X.call 170=caP WoF):PSd prog 100 FiF7:=by
 unfold FiF7
 refine psS hX mixed func100 rfl fun ⟨⟨⟨z,l⟩,s,p,w⟩,hok,hw64⟩ w0 G=>⟨by show 4≤66;decide,rfl,?_⟩
 show AW ⟨prog,X,66,w0,.pure G⟩ _ _ _
 have hc:=okc hX 66 w0 G
 simp only at hok hw64 ⊢
 have ht:=hct _ hok
 have hp:=hpl s p
 have hq:=htr w hw64
 rcases dE (chB (z,l)=0) with h0|h0
 ·have htl:=tl_ok hok h0
  have hz:=chB_z.1 h0
  simp only at hz
  rw [h0] at ht
  cases hpb:plcB s p with
  | false =>
   rw [hpb,if_neg (by decide)] at hp
   have e:fiT (z,l) s p w=(zB,2):=by unfold fiT;rw [if_neg (by simp [h0]),if_pos hpb]
   rw [e]
   simp only [TlV,TlO,zB,U] at ht ⊢
   have zS:=jj ht<|hp
   refine dM64 ?_
   repeat (intro K hK)
   clear zS
   refine ⟨by simp,?_⟩
   simp [lvI,f100,trw]
   try exact dt
  | true =>
   rw [hpb,if_pos rfl] at hp
   cases htb:trB w with
   | false =>
    rw [htb] at hq
    have e:fiT (z,l) s p w=(zB,3):=by unfold fiT;rw [if_neg (by simp [h0]),if_neg (by simp [hpb]),if_pos htb]
    rw [e]
    simp only [TlV,TlO,zB,U] at ht hq ⊢
    have zS:=jj ht<|jj hp<|hq
    refine dM64 ?_
    repeat (intro K hK)
    clear zS
    refine ⟨by simp,?_⟩
    simp [lvI,f100,trw]
    try exact dt
   | true =>
    rw [htb] at hq
    have hpl2:0≤s∧s<8∧0≤p∧p<512:=by unfold plcB at hpb;simpa using hpb
    have htm:p.tmod 8=p%8:=Int.tmod_eq_emod_of_nonneg hpl2.2.2.1
    obtain ⟨pg,hpg⟩:∃ pg,pg=if hgB w=true then p - p%8 else p:=⟨_,rfl⟩
    have hx:fiX s p w=(s,pg,w):=by unfold fiX;rw [hpg]
    have hpgo:0≤pg∧pg<512:=by rw [hpg];split<;>omega
    have hF:=WoF_at (z,l) (.fl (s,pg,w)) htl ⟨hpgo.1,hpgo.2,hw64⟩
    obtain ⟨D,hD⟩:∃ D,D=drpT (fkP (.fl (s,pg,w))) l:=⟨_,rfl⟩
    have hDl:D.length≤l.length:=by rw [hD];exact List.length_filter_le _ _
    have e:fiT (z,l) s p w=((z,(if (D.length:Int)=z then D.drop 1 else D)++[(s,pg,w)]),0):=by
     unfold fiT
     rw [if_neg (by simp [h0]),if_neg (by simp [hpb]),if_neg (by simp [htb]),hx]
     unfold fiL
     rw [hD];rfl
    rw [e]
    simp only at hF
    rw [← hD] at hF
    clear hD e hx
    simp only [TlV,TlO,fkA,U] at ht hq hF ⊢
    have htk:=tkT D
    rcases dE ((D.length:Int)=z) with hfull|hfull
    ·rw [if_pos hfull]
     have hD1:1≤D.length:=by omega
     have hD1I:(1:Int)≤(D.length:Int):=by omega
     cases hgb:hgB w with
     | true =>
      rw [hgb,if_pos rfl] at hpg
      rw [hgb] at hq
      subst hpg
      have zS:=jj ht<|jj hp<|jj hq<|jj htm<|jj hwo<|jj hF<|jj hfull<|htk
      refine dM64 ?_
      repeat (intro K hK)
      clear zS
      refine ⟨by simp,?_⟩
      simp [lvI,f100,tkT]
      try exact dt
      all_goals exact fin2 hD1
     | false =>
      rw [hgb,if_neg (by decide)] at hpg
      rw [hgb] at hq
      subst hpg
      have zS:=jj ht<|jj hp<|jj hq<|jj htm<|jj hwo<|jj hF<|jj hfull<|htk
      refine dM64 ?_
      repeat (intro K hK)
      clear zS
      refine ⟨by simp,?_⟩
      simp [lvI,f100,tkT]
      try exact dt
      all_goals exact fin2 hD1
    ·rw [if_neg hfull]
     cases hgb:hgB w with
     | true =>
      rw [hgb,if_pos rfl] at hpg
      rw [hgb] at hq
      subst hpg
      have zS:=jj ht<|jj hp<|jj hq<|jj htm<|jj hwo<|jj hF<|jj hfull<|htk
      refine dM64 ?_
      repeat (intro K hK)
      clear zS
      refine ⟨by simp,?_⟩
      simp [lvI,f100,tkT]
      try exact dt
      all_goals exact fin1
     | false =>
      rw [hgb,if_neg (by decide)] at hpg
      rw [hgb] at hq
      subst hpg
      have zS:=jj ht<|jj hp<|jj hq<|jj htm<|jj hwo<|jj hF<|jj hfull<|htk
      refine dM64 ?_
      repeat (intro K hK)
      clear zS
      refine ⟨by simp,?_⟩
      simp [lvI,f100,tkT]
      try exact dt
      all_goals exact fin1
 ·have e:fiT (z,l) s p w=(zB,chB (z,l)):=by unfold fiT;rw [if_pos h0]
  rw [e]
  obtain ⟨c,hcz⟩:∃ c,c=chB (z,l):=⟨_,rfl⟩
  rw [← hcz] at ht h0 ⊢
  simp only [TlV,TlO,zB,U] at ht ⊢
  have zS:=jj ht<|h0
  refine dM64 ?_
  repeat (intro K hK)
  clear zS
  refine ⟨by simp,?_⟩
  simp [lvI,f100,trw]
  try exact dt
noncomputable section
def FrgF:List AV→Option AV:=spF (ι:={x:En×Int // 0≤x.1.2.1∧x.1.2.1≤4294967295∧0≤x.2}) (fun x=>[EnV x.1.1,I x.1.2]) fun x=>rtO [I (frmG x.1.1 x.1.2)]
theorem s96 (X:AX) (hX:XOK prog X) (hw:X.W wT):PSd prog 96 FrgF:=by
 unfold FrgF
 refine psS hX mixed func96 rfl fun ⟨⟨⟨k,num,b1,b2,b3,hg⟩,p⟩,h1,h2,h3⟩ w0 G=>⟨by show 2≤14;decide,rfl,?_⟩
 show AW ⟨prog,X,14,w0,.pure G⟩ _ _ _
 have hc:=okc hX 14 w0 G
 simp only at h1 h2 h3 ⊢
 have htm:p.tmod 8=p%8:=Int.tmod_eq_emod_of_nonneg h3
 unfold frmG
 simp only [EnV]
 cases hg
 ·refine dM64o ?_
  repeat (intro K hK)
  refine ⟨by simp,?_⟩
  simp [lvI,f96]
  try exact dt
 ·have zS:=htm
  refine dM64 ?_
  repeat (intro K hK)
  clear zS
  refine ⟨by simp,?_⟩
  simp [lvI,f96]
  try exact dt
def RfF:List AV→Option AV:=spF (ι:=En×Bool) (fun x=>[EnV x.1,B x.2]) fun x=>rtO [I (rfE x.1 x.2)]
theorem s97 (X:AX) (hX:XOK prog X) (hw:X.W wT):PSd prog 97 RfF:=by
 unfold RfF
 refine psS hX mixed func97 rfl fun ⟨⟨k,num,b1,b2,b3,hg⟩,wr⟩ w0 G=>⟨by show 2≤14;decide,rfl,?_⟩
 show AW ⟨prog,X,14,w0,.pure G⟩ _ _ _
 have hc:=okc hX 14 w0 G
 unfold rfE
 simp only [EnV]
 rcases dE (k=1) with h1|h1
 ·rw [if_neg (by simp [h1])]
  cases wr<;>cases b1
  ·have zS:=h1
   refine dM64 ?_
   repeat (intro K hK)
   clear zS
   refine ⟨by simp,?_⟩
   simp [lvI,f97]
   try exact dt
  ·have zS:=h1
   refine dM64 ?_
   repeat (intro K hK)
   clear zS
   refine ⟨by simp,?_⟩
   simp [lvI,f97]
   try exact dt
  ·have zS:=h1
   refine dM64 ?_
   repeat (intro K hK)
   clear zS
   refine ⟨by simp,?_⟩
   simp [lvI,f97]
   try exact dt
  ·have zS:=h1
   refine dM64 ?_
   repeat (intro K hK)
   clear zS
   refine ⟨by simp,?_⟩
   simp [lvI,f97]
   try exact dt
 ·rw [if_pos h1]
  have zS:=h1
  refine dM64 ?_
  repeat (intro K hK)
  clear zS
  refine ⟨by simp,?_⟩
  simp [lvI,f97]
  try exact dt
def CoTF:List AV→Option AV:=spF (ι:={x:Tb // tbOK x}) (fun x=>[TbV x.1]) fun x=>rtO [TbO x.1]
theorem s94 (X:AX) (hX:XOK prog X) (hw:X.W wT):PSd prog 94 CoTF:=by
 unfold CoTF
 refine psS hX mixed func94 rfl fun ⟨⟨r,ns,ds⟩,ht⟩ w0 G=>⟨by show 1≤12;decide,rfl,?_⟩
 show AW ⟨prog,X,12,w0,.pure G⟩ _ _ _
 have hc:=okc hX 12 w0 G
 have hl1:ns.length≤1000000:=ht.2.1
 have hl2:ds.length≤1000000:=ht.2.2
 simp only [TbV,TbO]
 have tkn:List.take ns.length (nrw ns)=nrw ns:=tkL (by simp)
 have tkd:List.take ds.length (prw ds)=prw ds:=tkL (by simp)
 refine dM64o ?_
 repeat (intro K hK)
 refine ⟨by simp,?_⟩
 simp [lvI,f94,tkn,tkd]
 try exact dt
def CoBF:List AV→Option AV:=spF (ι:={x:Tl // x.2.length≤1000000}) (fun x=>[TlV x.1]) fun x=>rtO [TlO x.1]
theorem s95 (X:AX) (hX:XOK prog X) (hw:X.W wT):PSd prog 95 CoBF:=by
 unfold CoBF
 refine psS hX mixed func95 rfl fun ⟨⟨z,l⟩,hl⟩ w0 G=>⟨by show 1≤8;decide,rfl,?_⟩
 show AW ⟨prog,X,8,w0,.pure G⟩ _ _ _
 have hc:=okc hX 8 w0 G
 simp only at hl
 simp only [TlV,TlO]
 have tkl:=tkT l
 refine dM64o ?_
 repeat (intro K hK)
 refine ⟨by simp,?_⟩
 simp [lvI,f95,tkl]
 try exact dt
theorem or_u {w v:Nat} (hw:w<2^64) (hv:v<2^64):bitI .or .u64 (w:Int) (v:Int)=((w ||| v:Nat):Int):=by
 unfold bitI
 have e:(BitVec.ofInt 64 (w:Int) ||| BitVec.ofInt 64 (v:Int)).toNat=w ||| v:=by
  rw [BitVec.toNat_or,toNat_u hw,toNat_u hv]
 show IntKind.u64.wrap (((BitVec.ofInt 64 (w:Int) ||| BitVec.ofInt 64 (v:Int)).toNat:Nat):Int)=_
 rw [e]
 exact wrapU (Nat.or_lt_two_pow hw hv)
theorem an_u {w v:Nat} (hw:w<2^64) (hv:v<2^64):bitI .andNot .u64 (w:Int) (v:Int)=((w &&& (18446744073709551615 - v):Nat):Int):=by
 unfold bitI
 have e:(BitVec.ofInt 64 (w:Int) &&& ~~~BitVec.ofInt 64 (v:Int)).toNat=w &&& (18446744073709551615 - v):=by
  rw [BitVec.toNat_and,BitVec.toNat_not,toNat_u hw,toNat_u hv]
 show IntKind.u64.wrap (((BitVec.ofInt 64 (w:Int) &&& ~~~BitVec.ofInt 64 (v:Int)).toNat:Nat):Int)=_
 rw [e]
 exact wrapU (Nat.lt_of_le_of_lt Nat.and_le_left hw)
def MkF:List AV→Option AV:=spF (ι:={x:Nat×Bool // x.1<2^64}) (fun x=>[U x.1.1,B x.1.2]) fun x=>rtO [U (mkW x.1.1 x.1.2).1,I (mkW x.1.1 x.1.2).2]
set_option maxHeartbeats 2000000 in
theorem s99 (X:AX) (hX:XOK prog X) (hw:X.W wT) (hpg:∀ w:Nat,w<2^64→∀ M k,X.call 172 [U w] M k=some (.tup [EnV (pgW w).1,I (pgW w).2],[])):PSd prog 99 MkF:=by
 unfold MkF
 refine psS hX mixed func99 rfl fun ⟨⟨w,wr⟩,hw64⟩ w0 G=>⟨by show 2≤26;decide,rfl,?_⟩
 show AW ⟨prog,X,26,w0,.pure G⟩ _ _ _
 have hc:=okc hX 26 w0 G
 simp only at hw64 ⊢
 have hp:=hpg w hw64
 rw [mkW_pg]
 obtain ⟨⟨⟨k,num,b1,b2,b3,hg⟩,er⟩,hx⟩:∃ x,x=pgW w:=⟨_,rfl⟩
 rw [← hx] at hp ⊢
 have o1:=or_u hw64 (show 16<2^64 by decide)
 have o2:=or_u (Nat.or_lt_two_pow hw64 (show 16<2^64 by decide)) (show 32<2^64 by decide)
 rw [show ((16:Nat):Int)=16 from rfl] at o1
 rw [show ((32:Nat):Int)=32 from rfl] at o2
 obtain ⟨w1,hw1⟩:∃ x,x=w ||| 16:=⟨_,rfl⟩
 rw [← hw1] at o1 o2 ⊢
 obtain ⟨w2,hw2⟩:∃ x,x=w1 ||| 32:=⟨_,rfl⟩
 rw [← hw2] at o2 ⊢
 simp only [EnV,U] at hp ⊢
 rcases dE (er=0) with h1|h1
 ·rw [if_neg (by simp [h1])]
  subst h1
  cases wr
  ·rw [if_pos rfl]
   have zS:=jj hp<|o1
   refine dM64 ?_
   repeat (intro K hK)
   clear zS
   refine ⟨by simp,?_⟩
   simp [lvI,f99]
   try exact dt
  ·rw [if_neg (by decide)]
   cases b1
   ·rw [if_pos rfl]
    have zS:=jj hp<|jj o1<|o2
    refine dM64 ?_
    repeat (intro K hK)
    clear zS
    refine ⟨by simp,?_⟩
    simp [lvI,f99]
    try exact dt
   ·rw [if_neg (by decide)]
    have zS:=jj hp<|jj o1<|o2
    refine dM64 ?_
    repeat (intro K hK)
    clear zS
    refine ⟨by simp,?_⟩
    simp [lvI,f99]
    try exact dt
 ·rw [if_pos h1]
  have zS:=jj hp<|h1
  refine dM64 ?_
  repeat (intro K hK)
  clear zS
  refine ⟨by simp,?_⟩
  simp [lvI,f99]
  try exact dt
end
def numC (t:Tb):Bool :=
 decide (∀ n∈t.2.1,frmN n.1)&&(decide (∀ d∈t.2.2,frmN d.2∧0≤d.1∧d.1<64)&&(decide (t.2.1.Pairwise fun a b=>a.1<b.1)&&(decide (t.2.2.Pairwise fun a b=>a.1<b.1) &&
 (decide (∀ d∈t.2.2,∀ n∈t.2.1,n.1≠d.2)&&(decide (t.2.2.Pairwise fun a b=>a.2≠b.2)&&decide (∃ n∈t.2.1,n.1=t.1))))))
theorem numC_ok {t:Tb} (h:numC t=true):NumOK t:=by
 simp only [numC,Bool.and_eq_true,decide_eq_true_eq] at h
 obtain ⟨h1,h2,h3,h4,h5,h6,h7⟩:=h
 exact ⟨h1,h2,h3,h4,h5,h6,h7⟩
def chkC (t:Tb):Bool:=numC t&&decide ((wkA t).1=true∧false ∉ (wkA t).2.1∧(wkA t).2.2=t.2.2.map (·.1))
theorem chkC_ok {t:Tb} (h:chkC t=true):chk t=0:=by
 simp only [chkC,Bool.and_eq_true,decide_eq_true_eq] at h
 unfold chk
 rw [if_neg (by simp [numOK_iff.2 (numC_ok h.1)]),if_pos h.2]
def setC (t:Tb) (p w:Nat) (fs:List Int):Tb×Int :=
 if (decR w).2≠0∨(decR w).1.1=0∨(decR w).1.1=4∨(decR w).1.2.2.2.2.2=true then (zT,3)
 else if (lsT t p).2.2≠0 then (zT,7)
 else if fs.length=(lsT t p).2.1∧usB t.2.1 t.2.2 fs=true then (putT (t.1,dpN t.1 t.2.2 p t.2.1 fs,t.2.2) p w,0)
 else (zT,1)
theorem setC_ok {t:Tb} {p w:Nat} {fs:List Int} (h:chkC t=true) (hp:p<512):setP t p w fs=setC t p w fs:=by
 unfold setP
 rw [if_neg (by rw [ckd_z (chkC_ok h) (by omega) (by omega)];decide),Int.toNat_natCast]
 rfl
def setHC (t:Tb) (g w:Nat) (fs:List Int):Tb×Int :=
 if (decR w).2≠0∨(decR w).1.2.2.2.2.2=false then (zT,3)
 else if (lsT t (g*8)).2.1=0∨(lsT t (g*8)).2.2≠0 then (zT,7)
 else if fs.length=(lsT t (g*8)).2.1∧usB t.2.1 t.2.2 fs=true then
  ((t.1,(putT (t.1,dpN t.1 t.2.2 (g*8) t.2.1 (fs.take (fs.length - 1)),t.2.2) (g*8) w).2.1,insL t.2.2 g (gi fs (fs.length - 1))),0)
 else (zT,1)
theorem setHC_ok {t:Tb} {g w:Nat} {fs:List Int} (h:chkC t=true) (hg:g<64):setH t g w fs=setHC t g w fs:=by
 unfold setH
 rw [if_neg (by rw [ckd_z (chkC_ok h) (by omega) (by omega)];decide),Int.toNat_natCast]
 rfl
def splC (t:Tb) (g:Nat):Tb×Int:=if (lsT t (g*8)).2.1=1∧(decR (lsT t (g*8)).2.2).1.2.2.2.2.2=true then (splN t g (lsT t (g*8)).2.2,0) else (zT,6)
theorem splC_ok {t:Tb} {g:Nat} (h:chkC t=true) (hg:g<64):splP t g=splC t g:=by
 unfold splP
 rw [if_neg (by rw [ckd_z (chkC_ok h) (by omega) (by omega)];decide),Int.toNat_natCast]
 rfl
theorem walkC_ok {t:Tb} {p:Nat} (h:chkC t=true) (hp:p<512):walkT t p=((lsT t p).2.2,(lsT t p).2.1,0):=by
 rw [walkT_z (ckd_z (chkC_ok h) (by omega) (by omega)),Int.toNat_natCast]
def hT:Tb:=(10,[(10,[0,2820,0,0,0,0,0,0]),(11,[0,4201,0,0,0,0,0,0])],[(9,12)])
def sT:Tb:=(10,[(10,[0,2820,0,0,0,0,0,0]),(11,[0,3076,0,0,0,0,0,0]),(12,[spW 4201 0,spW 4201 1,spW 4201 2,spW 4201 3,spW 4201 4,spW 4201 5,spW 4201 6,spW 4201 7])],[])
theorem hC:chkC hT=true:=by kernel_rfl
theorem sC:chkC sT=true:=by kernel_rfl
noncomputable def repP (t:Tb) (p:Int) (w:Nat):Tb×Nat×Int :=
 if ckd t p 512≠0 then (zT,0,ckd t p 512)
 else if (lsT t p.toNat).2.2=0 then (zT,0,6)
 else if (decR w).2≠0∨(decR w).1.1=0∨(decR w).1.1=4∨suitB (decR w).1 (lsT t p.toNat).2.1=false then (zT,0,3)
 else (putT t p.toNat w,(lsT t p.toNat).2.2,0)
set_option maxHeartbeats 8000000 in
theorem s61 (X:AX) (hX:XOK prog X) (hw:X.W wT) (hck:∀ t:Tb,tbOK t→∀ (n lim:Int) M k,X.call 109 [TbV t,I n,I lim] M k=some (I (ckd t n lim),[]))
  (hla:∀ (t:Tb) (p:Nat),ptO t p→∀ M n,X.call 110 [TbV t,I p] M n=some (stV (lsT t p),[]))
  (hdc:∀ n:Nat,n<2^64→∀ M k,X.call 56 [U n] M k=some (.tup [EnV (decR n).1,I (decR n).2],[]))
  (hsu:∀ (e:En) (l:Nat) M n,X.call 117 [EnV e,I l] M n=some (B (suitB e l),[]))
  (hcl:∀ t:Tb,tbOK t→∀ M n,X.call 128 [TbV t] M n=some (TbC t n,[(n,.vec 1 9 false (nrw t.2.1)),(n+1,.vec 1 2 false (prw t.2.2))]))
  (hpu:X.call 130=caG puS) :
  PSd prog 61 (spF (ι:={x:Tb×Int×Nat // tbOK x.1∧x.2.2<2^64}) (fun x=>[TbV x.1.1,I x.1.2.1,U x.1.2.2]) fun x=>rtO [TbO (repP x.1.1 x.1.2.1 x.1.2.2).1,U (repP x.1.1 x.1.2.1 x.1.2.2).2.1,I (repP x.1.1 x.1.2.1 x.1.2.2).2.2]):=by
 refine psS hX mixed func61 rfl fun ⟨⟨⟨r,ns,ds⟩,pI,w⟩,ht,hw64⟩ w0 G=>⟨by show 3≤61;decide,rfl,?_⟩
 show AW ⟨prog,X,61,w0,.pure G⟩ _ _ _
 have hc:=okc hX 61 w0 G
 simp only at hw64 ht ⊢
 have hck':=hck _ ht pI 512
 have hl1:ns.length≤1000000:=ht.2.1
 have hl2:ds.length≤1000000:=ht.2.2
 rcases dE (ckd (r,ns,ds) pI 512≠0) with hk|hk
 ·have e:repP (r,ns,ds) pI w=(zT,0,ckd (r,ns,ds) pI 512):=by unfold repP;rw [if_pos hk]
  rw [e]
  obtain ⟨c,hc0⟩:∃ c,c=ckd (r,ns,ds) pI 512:=⟨_,rfl⟩
  rw [← hc0] at hck' hk ⊢
  simp only [TbV,TbO,zT,U] at hck' ⊢
  have zS:=jj hck'<|hk
  refine dM64 ?_
  repeat (intro K hK)
  clear zS
  refine ⟨by simp,?_⟩
  simp [lvI,f61,nrw,prw]
  try exact dt
 ·obtain ⟨hpv,hp0,hp1⟩:=ckd_pt ht hk
  obtain ⟨p,rfl⟩:=Int.eq_ofNat_of_zero_le hp0
  have hp:p<512:=by omega
  have hz:ckd (r,ns,ds) p 512=0:=by omega
  rw [hz] at hck'
  have hdc':=hdc w hw64
  have hla':=hla _ _ (hpv.pto ht hp)
  have hcl':=hcl _ ht
  have hpu':=fun a b c hab hac hbc M n=>@callPu a b c hab hac hbc r ns ds p w (hpv.pto ht hp) hw64 0 0 M n
  rw [← hpu] at hpu'
  have hPl:(putT (r,ns,ds) p w).2.1.length=ns.length:=sNl
  have hP0:putT (r,ns,ds) p w=(r,(putT (r,ns,ds) p w).2.1,ds):=rfl
  have eS:repP (r,ns,ds) p w=if (lsT (r,ns,ds) p).2.2=0 then (zT,0,6) else if (decR w).2≠0∨(decR w).1.1=0∨(decR w).1.1=4∨suitB (decR w).1 (lsT (r,ns,ds) p).2.1=false then (zT,0,3) else (putT (r,ns,ds) p w,(lsT (r,ns,ds) p).2.2,0):=by
   unfold repP
   rw [if_neg hk,Int.toNat_natCast]
  rw [eS,hP0]
  obtain ⟨R,hR⟩:∃ R,R=(putT (r,ns,ds) p w).2.1:=⟨_,rfl⟩
  rw [← hR] at hPl hpu' ⊢
  clear hR hP0 eS
  obtain ⟨⟨a0,l0,w0'⟩,hS⟩:∃ S,S=lsT (r,ns,ds) p:=⟨_,rfl⟩
  rw [← hS] at hla' ⊢
  have hsu':=hsu (decR w).1 l0
  obtain ⟨⟨⟨k,f,d,a,x,h⟩,e⟩,hE⟩:∃ r,r=decR w:=⟨_,rfl⟩
  rw [← hE] at hdc' hsu' ⊢
  simp only at hsu' ⊢
  obtain ⟨su,hsu0⟩:∃ b,b=suitB (k,f,d,a,x,h) l0:=⟨_,rfl⟩
  rw [← hsu0] at hsu' ⊢
  clear hS hE hsu0 hck hla hdc hsu
  simp only [TbV,TbO,TbC,EnV,stV,srow,U,Nat.zero_add] at hck' hla' hdc' hcl' hsu' hpu' ⊢
  rcases dE (w0'=0) with hw0|hw0
  ·subst hw0
   rw [if_pos rfl]
   simp only [zT]
   have zS:=jj hck'<|hla'
   refine dM64 ?_
   repeat (intro K hK)
   clear zS
   all_goals refine ⟨by simp,?_⟩
   all_goals simp [lvI,f61,nrw,prw]
   all_goals try exact dt
  ·rw [if_neg hw0]
   have hw0I:¬ (w0':Int)=0:=by omega
   rcases dE (e=0) with he|he
   ·subst he
    rcases dE (k=0) with hk1|hk1
    ·subst hk1
     rw [if_pos (by simp)]
     simp only [zT]
     have zS:=jj hck'<|jj hla'<|jj hdc'<|jj hw0<|hw0I
     refine dM64 ?_
     repeat (intro K hK)
     clear zS
     all_goals refine ⟨by simp,?_⟩
     all_goals simp [lvI,f61,nrw,prw]
     all_goals try exact dt
    ·rcases dE (k=4) with hk2|hk2
     ·subst hk2
      rw [if_pos (by simp)]
      simp only [zT]
      have zS:=jj hck'<|jj hla'<|jj hdc'<|jj hw0<|hw0I
      refine dM64 ?_
      repeat (intro K hK)
      clear zS
      all_goals refine ⟨by simp,?_⟩
      all_goals simp [lvI,f61,nrw,prw]
      all_goals try exact dt
     ·cases su with
      | false =>
       rw [if_pos (by simp)]
       simp only [zT]
       have zS:=jj hck'<|jj hla'<|jj hdc'<|jj hw0<|jj hw0I<|jj hk1<|jj hk2<|hsu'
       refine dM64 ?_
       repeat (intro K hK)
       clear zS
       all_goals refine ⟨by simp,?_⟩
       all_goals simp [lvI,f61,nrw,prw]
       all_goals try exact dt
      | true =>
       rw [if_neg (by simp [hk1,hk2])]
       have hpq:=hpu' 752 736 737 (by decide) (by decide) (by decide)
       have zS:=jj hck'<|jj hla'<|jj hdc'<|jj hw0<|jj hw0I<|jj hk1<|jj hk2<|jj hsu'<|jj hcl'<|hpq
       refine dF64 ?_
       repeat (intro K hK)
       clear zS
       have tkR:List.take ns.length (nrw R)=nrw R:=tkL (by simp;omega)
       have tkd:List.take ds.length (prw ds)=prw ds:=tkL (by simp)
       refine ⟨by simp,?_⟩
       simp [lvI,f61,hPl,tkR,tkd]
       try exact dt
   ·rw [if_pos (by simp [he])]
    simp only [zT]
    have zS:=jj hck'<|jj hla'<|jj hdc'<|jj hw0<|jj hw0I<|he
    refine dM64 ?_
    repeat (intro K hK)
    clear zS
    all_goals refine ⟨by simp,?_⟩
    all_goals simp [lvI,f61,nrw,prw]
    all_goals try exact dt
def OwT (M:Nat→AO) (t:Tb) (a va b vb:Nat):Prop:=(∃ f,M a=.vec va 9 f (nrw t.2.1))∧∃ f,M b=.vec vb 2 f (prw t.2.2)
def TbS (t:Tb) (a va b vb:Nat):AV:=.agg [I t.1,.sl a va 9 0 t.2.1.length,.sl b vb 2 0 t.2.2.length]
theorem peek_tab {M:Nat→AO} {t:Tb} {a va b vb:Nat} {rest rs:List AV} (h:OwT M t a va b vb) (hr:peekVals M rest=some rs):peekVals M (TbS t a va b vb::rest)=some (TbV t::rs):=by
 obtain ⟨⟨f1,h1⟩,f2,h2⟩:=h
 have e1:List.take t.2.1.length (nrw t.2.1)=nrw t.2.1:=tkL (by simp)
 have e2:List.take t.2.2.length (prw t.2.2)=prw t.2.2:=tkL (by simp)
 simp [TbS,TbV,hr,h1,h2,e1,e2]
theorem dec_huge0:(decR 0).1.2.2.2.2.2=false:=rfl
theorem last_kind {r:Int} {ns:NdL} {ds:List Dp} (hv:Vt (r,ns,ds)) {p:Nat} (hp:p<512):∃ f l w,wlk (Mof ns) r p=(f,l,w)∧(lsT (r,ns,ds) p).2=(l,w)∧l≤2∧(decR w).2=0∧(l=2→w=0)∧(l=1→(w≠0↔(decR w).1.2.2.2.2.2=true))∧(l=0→(decR w).1.2.2.2.2.2=false):=by
 have hpv:=hv.pv
 obtain ⟨f,l,w,hw⟩:∃ f l w,wlk (Mof ns) r p=(f,l,w):=⟨_,_,_,rfl⟩
 have h1:=(hpv.walk hp).2.2
 simp only at h1
 rw [hw] at h1
 obtain ⟨a1,a2,a3,a4,a5,a6⟩:=wlk_at hpv.vm hp hw
 have hk0:=kind0 a6
 have h4:(decR w).1.1≠4:=decR_tab.1 a5
 have a7:=a6
 unfold okWb at a7
 simp only [Bool.and_eq_true,decide_eq_true_eq] at a7
 obtain ⟨hd0,a7⟩:=a7
 unfold suitB at a7
 refine ⟨f,l,w,hw,h1,a1,hd0,fun e=>?_,fun e=>⟨fun h0=>?_,fun hh h0=>?_⟩,fun e=>?_⟩
 ·subst e
  by_cases h0:(decR w).1.1=0
  ·exact hk0.1 h0
  ·rw [if_neg h0,if_neg h4] at a7
   simp at a7
 ·subst e
  rw [if_neg (fun h=>h0 (hk0.1 h)),if_neg h4] at a7
  by_cases hk1:(decR w).1.1=1
  ·rw [if_pos hk1] at a7;simpa using a7
  ·rw [if_neg hk1] at a7;simp at a7
 ·subst h0;rw [dec_huge0] at hh;simp at hh
 ·subst e
  cases hh:(decR w).1.2.2.2.2.2 with
  | false=>rfl
  | true =>
   have hk1:=kind_huge hd0 hh
   rw [if_neg (by rw [hk1];decide),if_neg h4,if_pos hk1,hh] at a7
   simp at a7
theorem hugW_huge {w:Nat} (h:(decR w).2=0):hugW w=(decR w).1.2.2.2.2.2:=by
 unfold hugW
 cases hh:(decR w).1.2.2.2.2.2 with
 | false=>simp
 | true=>rw [kind_huge h hh];rfl
theorem hugB_last {r:Int} {ns:NdL} {ds:List Dp} (hv:Vt (r,ns,ds)) {g:Nat} (hg:g<64):hugB (Mof ns) r g=(decR (lsT (r,ns,ds) (g*8)).2.2).1.2.2.2.2.2:=by
 have hp:g*8<512:=by omega
 obtain ⟨f,l,w,hw,hl,hl2,hd0,k2,k1,k0⟩:=last_kind hv hp
 obtain ⟨a1,a2,a3,a4,a5,a6⟩:=wlk_at hv.pv.vm hp hw
 rw [hl]
 simp only at a3 a4 ⊢
 have e8:g*8/64=g/8:=by omega
 rcases (by omega:l=0∨l=1∨l=2) with rfl|rfl|rfl
 ·rw [k0 rfl]
  have e1:g*8/8^(0+1)=g:=by simp
  rw [e1] at a3
  cases hb:hugB (Mof ns) r g with
  | false=>rfl
  | true =>
   obtain ⟨f1,hf1,hh⟩:=hugB_iff.1 hb
   simp only [Nat.sub_zero,frP] at a3 hf1
   rw [hf1] at a3
   simp only [Option.bind_some] at a3
   have hnt:=(WD_ok fun _=>true).notab _ hh
   rw [hnt] at a3
   simp at a3
 ·have e1:g*8/8^(1+1)=g/8:=by simp;omega
  have e2:dgt (g*8) 1=g%8:=by rw [dgt1];omega
  rw [e1] at a3
  rw [e2] at a4
  unfold hugB
  rw [show frP WA (Mof ns) r 1 (g/8)=some f from a3]
  simp only
  rw [← a4,hugW_huge hd0]
 ·have:=k2 rfl
  subst this
  rw [dec_huge0]
  have e2:dgt (g*8) 2=g/8:=by rw [dgt2 hp];exact e8
  cases hb:hugB (Mof ns) r g with
  | false=>rfl
  | true =>
   obtain ⟨f1,hf1,hh⟩:=hugB_iff.1 hb
   simp only [frP,Option.bind_some] at hf1 a3
   rw [show g/8%8=g/8 by omega] at hf1
   simp only [Nat.sub_self,frP,oJ] at a3
   subst a3
   rw [e2] at a4
   rw [← a4] at hf1
   rw [show WA.tab 0=none from tab0] at hf1
   simp at hf1
def outT (t:Tb) (n:Nat):List (Nat×AO):=[(n,.vec 1 9 false (nrw t.2.1)),(n+1,.vec 1 2 false (prw t.2.2))]
noncomputable section
def FbF:List AV→Option AV:=spF (ι:=Bool×Int) (fun x=>[B x.1,U x.2]) fun x=>rtO [U (fb x.1 x.2)]
theorem cFb (b:Bool) (c:Int) (M:Nat→AO) (n:Nat):caP FbF [B b,.v (.int .u64 c)] M n=some (.v (.int .u64 (fb b c)),[]) :=
 cPs (ι:=Bool×Int) (A:=fun x=>[B x.1,U x.2]) (R:=fun x=>rtO [U (fb x.1 x.2)]) (b,c) (by simp [U]) (by
  rintro ⟨b',c'⟩ e
  simp [B,U] at e;obtain ⟨rfl,rfl⟩:=e;rfl) (by simp [U])
def FmF:List AV→Option AV:=spF (ι:={e:En // 0≤e.1∧e.1≤4}) (fun x=>[EnV x.1]) fun x=>rtO [B (frmE x.1)]
theorem cFm (k f:Int) (d a x h:Bool) (hk:0≤k∧k≤4) (M:Nat→AO) (n:Nat):caP FmF [.agg [I k,I f,B d,B a,B x,B h]] M n=some (B (frmE (k,f,d,a,x,h)),[]) :=
 cPs (ι:={e:En // 0≤e.1∧e.1≤4}) (A:=fun x=>[EnV x.1]) (R:=fun x=>rtO [B (frmE x.1)]) ⟨(k,f,d,a,x,h),hk⟩ (by simp [EnV]) (by
  rintro ⟨e',h'⟩ e
  simp only [cJ,EnV_inj,and_true] at e;subst e;rfl) (by simp)
def EncF:List AV→Option AV:=spF (ι:=En) (fun x=>[EnV x]) fun x=>rtO [U (encR x).1,I (encR x).2]
theorem cEn (k f:Int) (d a x h:Bool) (M:Nat→AO) (n:Nat):caP EncF [.agg [I k,I f,B d,B a,B x,B h]] M n=some (.tup [U (encR (k,f,d,a,x,h)).1,I (encR (k,f,d,a,x,h)).2],[]) :=
 cPs (ι:=En) (A:=fun x=>[EnV x]) (R:=fun x=>rtO [U (encR x).1,I (encR x).2]) (k,f,d,a,x,h) (by simp [EnV]) (by
  rintro e' e
  simp only [cJ,EnV_inj,and_true] at e;subst e;rfl) (by simp [U])
def DecF:List AV→Option AV:=spF (ι:={n:Nat // n<2^64}) (fun x=>[U x.1]) fun x=>rtO [EnV (decR x.1).1,I (decR x.1).2]
theorem u_inj {a b:Nat} (h:[U a]=[U b]):a=b:=by
 simp only [cJ,U,AV.v.injEq,Value.int.injEq,true_and,and_true] at h;omega
theorem cDe (w:Nat) (hw:w<2^64) (M:Nat→AO) (n:Nat):caP DecF [U w] M n=some (.tup [EnV (decR w).1,I (decR w).2],[]) :=
 cPs (ι:={n:Nat // n<2^64}) (A:=fun x=>[U x.1]) (R:=fun x=>rtO [EnV (decR x.1).1,I (decR x.1).2]) ⟨w,hw⟩ (by simp [U]) (by
  rintro ⟨w',h'⟩ e
  have:=u_inj e
  simp only at this
  subst this;rfl) (by simp [EnV])
def Te0:AX:=(((((AX.start wT).eqAt 103).eqAt 170).eqAt 86).eqAt 148).eqAt 150
theorem w0T:Te0.W wT:=⟨rfl,rfl⟩
theorem enc_flat (x:En):(rtO [U (encR x).1,I (encR x).2]).flat:=by simp [rtO,AV.flat,AV.flatV,AV.flat1,U]
theorem dec_flat (n:Nat):(rtO [EnV (decR n).1,I (decR n).2]).flat:=by simp [rtO,AV.flat,AV.flatV,AV.flat1,EnV]
end
theorem nrow_pl {l:List Nd}:∀ e∈nrw l,∀ a∈e,a.plain:=by
 intro e he a ha
 obtain ⟨x,_,rfl⟩:=List.mem_map.1 he
 simp only [nrow,wcs,List.mem_cons,List.mem_map] at ha
 rcases ha with rfl|⟨y,_,rfl⟩<;>trivial
theorem prow_pl {l:List Dp}:∀ e∈prw l,∀ a∈e,a.plain:=by
 intro e he a ha
 obtain ⟨x,_,rfl⟩:=List.mem_map.1 he
 simp at ha
 rcases ha with rfl|rfl<;>trivial
theorem srow_pl {l:List Stp}:∀ e∈srows l,∀ a∈e,a.plain:=by
 intro e he a ha
 obtain ⟨x,_,rfl⟩:=List.mem_map.1 he
 simp [srow] at ha
 rcases ha with rfl|rfl|rfl<;>trivial
theorem irow_pl {l:List Int}:∀ e∈irw l,∀ a∈e,a.plain:=by
 intro e he a ha
 obtain ⟨x,_,rfl⟩:=List.mem_map.1 he
 simp at ha
 subst ha;trivial
theorem mem_mset:∀ {l:List (List Int×AV)} {q:List Int} {b:AV} {p:List Int×AV},p∈mset l q b→p∈l∨p=(q,b)
 | [],q,b,p,h=>by simp [mset] at h;exact .inr h
 | (k,a)::r,q,b,p,h=>by
  simp only [mset] at h
  split at h
  ·rcases List.mem_cons.1 h with h|h
   ·exact .inr h
   ·exact .inl (by simp [h])
  ·rcases List.mem_cons.1 h with h|h
   ·exact .inl (by simp [h])
   ·rcases mem_mset h with h|h
    ·exact .inl (by simp [h])
    ·exact .inr h
theorem idxE_pl {ns:List Nd}:∀ {n:Nat},∀ p∈idxE ns n,p.2.plain
 | 0,p,h=>by simp [idxE] at h
 | n+1,p,h=>by
  simp only [idxE] at h
  rcases mem_mset h with h|h
  ·exact idxE_pl p h
  ·rw [h];trivial
theorem TbO_fl {t:Tb}:(TbO t).flatV:=by
 intro a ha
 simp at ha
 rcases ha with rfl|rfl|rfl
 ·trivial
 ·exact nrow_pl
 ·exact prow_pl
theorem cT1 {D:Tb→Prop} {R:Tb→AV} {t:Tb} (h:D t) (M:Nat→AO) (n:Nat) {a:AV} {u:List (Nat×AO)} {k:Nat} (ho:oRt n (R t)=(a,u,k)) (hk:k≤n+16):caP (spF (ι:={x:Tb // D x}) (fun x=>[TbV x.1]) fun x=>R x.1) [TbV t] M n=some (a,u):=by
 rw [cPs (ι:={x:Tb // D x}) (A:=fun x=>[TbV x.1]) (R:=fun x=>R x.1) ⟨t,h⟩ (by simp [TbV]) ?_ (by rw [ho];exact hk),ho]
 rintro ⟨j,hj⟩ e
 simp only [cJ,TbJ,and_true] at e
 subst e;rfl
theorem cT2 {D:Tb→Int→Prop} {R:Tb→Int→AV} {t:Tb} {x:Int} (h:D t x) (M:Nat→AO) (n:Nat) {a:AV} {u:List (Nat×AO)} {k:Nat} (ho:oRt n (R t x)=(a,u,k)) (hk:k≤n+16):caP (spF (ι:={x:Tb×Int // D x.1 x.2}) (fun x=>[TbV x.1.1,I x.1.2]) fun x=>R x.1.1 x.1.2) [TbV t,I x] M n=some (a,u):=by
 rw [cPs (ι:={x:Tb×Int // D x.1 x.2}) (A:=fun x=>[TbV x.1.1,I x.1.2]) (R:=fun x=>R x.1.1 x.1.2) ⟨(t,x),h⟩ (by simp [TbV]) ?_ (by rw [ho];exact hk),ho]
 rintro ⟨⟨j,y⟩,hj⟩ e
 simp only [cJ,TbJ,I,AV.v.injEq,Value.int.injEq,true_and,and_true] at e
 obtain ⟨rfl,rfl⟩:=e;rfl
theorem cT3 {D:Tb→Nat→Prop} {R:Tb→Nat→AV} {t:Tb} {x:Nat} (h:D t x) (M:Nat→AO) (n:Nat) {a:AV} {u:List (Nat×AO)} {k:Nat} (ho:oRt n (R t x)=(a,u,k)) (hk:k≤n+16):caP (spF (ι:={x:Tb×Nat // D x.1 x.2}) (fun x=>[TbV x.1.1,I x.1.2]) fun x=>R x.1.1 x.1.2) [TbV t,I x] M n=some (a,u):=by
 rw [cPs (ι:={x:Tb×Nat // D x.1 x.2}) (A:=fun x=>[TbV x.1.1,I x.1.2]) (R:=fun x=>R x.1.1 x.1.2) ⟨(t,x),h⟩ (by simp [TbV]) ?_ (by rw [ho];exact hk),ho]
 rintro ⟨⟨j,y⟩,hj⟩ e
 simp only [cJ,TbJ,I,AV.v.injEq,Value.int.injEq,true_and,and_true,Int.ofNat_inj] at e
 obtain ⟨rfl,rfl⟩:=e;rfl
theorem oT3 {D:Tb→Nat→Prop} {R:Tb→Nat→AV} {t:Tb} {x:Nat} (h:D t x) {p vp q vq:Nat} {M:Nat→AO} (hM:OwT M t p vp q vq) (n:Nat) {a:AV} {u:List (Nat×AO)} {k:Nat} (ho:oRt n (R t x)=(a,u,k)) (hk:k≤n+16):caP (spF (ι:={x:Tb×Nat // D x.1 x.2}) (fun x=>[TbV x.1.1,I x.1.2]) fun x=>R x.1.1 x.1.2) [TbS t p vp q vq,I x] M n=some (a,u):=by
 rw [cPs (ι:={x:Tb×Nat // D x.1 x.2}) (A:=fun x=>[TbV x.1.1,I x.1.2]) (R:=fun x=>R x.1.1 x.1.2) ⟨(t,x),h⟩ (peek_tab hM (by simp)) ?_ (by rw [ho];exact hk),ho]
 rintro ⟨⟨j,y⟩,hj⟩ e
 simp only [cJ,TbJ,I,AV.v.injEq,Value.int.injEq,true_and,and_true,Int.ofNat_inj] at e
 obtain ⟨rfl,rfl⟩:=e;rfl
noncomputable section
set_option maxRecDepth 4000
def EtF:List AV→Option AV:=spF (ι:={n:Nat // n<2^64}) (fun x=>[U x.1]) fun x=>rtO [EnV (decR x.1).1]
theorem cEt (w:Nat) (hw:w<2^64) (M:Nat→AO) (n:Nat):caP EtF [U w] M n=some (EnV (decR w).1,[]) :=
 cPs (ι:={n:Nat // n<2^64}) (A:=fun x=>[U x.1]) (R:=fun x=>rtO [EnV (decR x.1).1]) ⟨w,hw⟩ (by simp [U]) (by
  rintro ⟨w',h'⟩ e
  have:=u_inj e
  simp only at this
  subst this;rfl) (by simp [EnV])
def IfF:List AV→Option AV:=spF (ι:=Int) (fun x=>[I x]) fun x=>rtO [B (decide (0≤x∧x≤4294967295))]
theorem cIf (x:Int) (M:Nat→AO) (n:Nat):caP IfF [I x] M n=some (B (decide (0≤x∧x≤4294967295)),[]) :=
 cPs (ι:=Int) (A:=fun x=>[I x]) (R:=fun x=>rtO [B (decide (0≤x∧x≤4294967295))]) x (by simp) (by
  intro j e
  simp at e;subst e;rfl) (by simp)
def FewF:List AV→Option AV:=spF (ι:=Tb) (fun x=>[TbV x]) fun x=>rtO [B (decide (x.2.1.length≤80∧x.2.2.length≤70))]
theorem cFew (t:Tb) (M:Nat→AO) (n:Nat):caP FewF [TbV t] M n=some (B (decide (t.2.1.length≤80∧t.2.2.length≤70)),[]) :=
 cPs (ι:=Tb) (A:=fun x=>[TbV x]) (R:=fun x=>rtO [B (decide (x.2.1.length≤80∧x.2.2.length≤70))]) t (by simp [TbV]) (by
  intro j e
  simp only [cJ,TbJ,and_true] at e;subst e;rfl) (by simp)
def DigF:List AV→Option AV:=spF (ι:={x:Nat×Nat // x.1<512∧x.2≤2}) (fun x=>[I x.1.1,I x.1.2]) fun x=>rtO [I (dig x.1.1 x.1.2)]
theorem cDig (p l:Nat) (h1:p<512) (h2:l≤2) (M:Nat→AO) (n:Nat):caP DigF [I p,I l] M n=some (I (dig p l),[]) :=
 cPs (ι:={x:Nat×Nat // x.1<512∧x.2≤2}) (A:=fun x=>[I x.1.1,I x.1.2]) (R:=fun x=>rtO [I (dig x.1.1 x.1.2)]) ⟨(p,l),h1,h2⟩ (by simp) (by
  rintro ⟨⟨p',l'⟩,h'⟩ e
  simp only [cJ,I,AV.v.injEq,Value.int.injEq,true_and,and_true,Int.ofNat_inj] at e
  obtain ⟨rfl,rfl⟩:=e;rfl) (by simp)
def DgtF:List AV→Option AV:=spF (ι:={x:Nat×Nat // x.1<512∧x.2≤2}) (fun x=>[I x.1.1,I x.1.2]) fun x=>rtO [I (dgt x.1.1 x.1.2)]
theorem cDgt (p l:Nat) (h1:p<512) (h2:l≤2) (M:Nat→AO) (n:Nat):caP DgtF [I p,I l] M n=some (I (dgt p l),[]) :=
 cPs (ι:={x:Nat×Nat // x.1<512∧x.2≤2}) (A:=fun x=>[I x.1.1,I x.1.2]) (R:=fun x=>rtO [I (dgt x.1.1 x.1.2)]) ⟨(p,l),h1,h2⟩ (by simp) (by
  rintro ⟨⟨p',l'⟩,h'⟩ e
  simp only [cJ,I,AV.v.injEq,Value.int.injEq,true_and,and_true,Int.ofNat_inj] at e
  obtain ⟨rfl,rfl⟩:=e;rfl) (by simp)
def SuF:List AV→Option AV:=spF (ι:=En×Nat) (fun x=>[EnV x.1,I x.2]) fun x=>rtO [B (suitB x.1 x.2)]
theorem cSu (e:En) (l:Nat) (M:Nat→AO) (n:Nat):caP SuF [EnV e,I l] M n=some (B (suitB e l),[]) :=
 cPs (ι:=En×Nat) (A:=fun x=>[EnV x.1,I x.2]) (R:=fun x=>rtO [B (suitB x.1 x.2)]) (e,l) (by simp [EnV]) (by
  rintro ⟨e',l'⟩ e
  simp only [cJ,EnV_inj,I,AV.v.injEq,Value.int.injEq,true_and,and_true,Int.ofNat_inj] at e
  obtain ⟨rfl,rfl⟩:=e;rfl) (by simp)
def FiF:List AV→Option AV:=spF (ι:={x:Tb×Int // tbOK x.1}) (fun x=>[TbV x.1.1,I x.1.2]) fun x=>rtO [I (fstG (fun n=>decide (n.1=x.1.2)) x.1.1.2.1)]
theorem cFi (t:Tb) (x:Int) (ht:tbOK t) (M:Nat→AO) (n:Nat):caP FiF [TbV t,I x] M n=some (I (fstG (fun n:Nd=>decide (n.1=x)) t.2.1),[]):=cT2 (D:=fun t _=>tbOK t) (R:=fun t x=>rtO [I (fstG (fun n:Nd=>decide (n.1=x)) t.2.1)]) ht M n rfl (by simp [rtO,oRt,oVs,oVl,oLs,oLf,stV,srow,U,TbO])
def DpF:List AV→Option AV:=spF (ι:={x:Tb×Int // tbOK x.1}) (fun x=>[TbV x.1.1,I x.1.2]) fun x=>rtO [I (fstG (fun n=>decide (n.1=x.1.2)) x.1.1.2.2)]
theorem cDp (t:Tb) (x:Int) (ht:tbOK t) (M:Nat→AO) (n:Nat):caP DpF [TbV t,I x] M n=some (I (fstG (fun n:Dp=>decide (n.1=x)) t.2.2),[]):=cT2 (D:=fun t _=>tbOK t) (R:=fun t x=>rtO [I (fstG (fun n:Dp=>decide (n.1=x)) t.2.2)]) ht M n rfl (by simp [rtO,oRt,oVs,oVl,oLs,oLf,stV,srow,U,TbO])
def RaF:List AV→Option AV:=spF (ι:={x:Tb // tbOK x}) (fun x=>[TbV x.1]) fun x=>rtO [B (rngB x.1)]
theorem cRa (t:Tb) (ht:tbOK t) (M:Nat→AO) (n:Nat):caP RaF [TbV t] M n=some (B (rngB t),[]):=cT1 (D:=tbOK) (R:=fun t=>rtO [B (rngB t)]) ht M n rfl (by simp [rtO,oRt,oVs,oVl,oLs,oLf,stV,srow,U,TbO])
def OrF:List AV→Option AV:=spF (ι:={x:Tb // tbOK x}) (fun x=>[TbV x.1]) fun x=>rtO [B (ascB x.1)]
theorem cOr (t:Tb) (ht:tbOK t) (M:Nat→AO) (n:Nat):caP OrF [TbV t] M n=some (B (ascB t),[]):=cT1 (D:=tbOK) (R:=fun t=>rtO [B (ascB t)]) ht M n rfl (by simp [rtO,oRt,oVs,oVl,oLs,oLf,stV,srow,U,TbO])
def TwF:List AV→Option AV:=spF (ι:={x:Tb // tbOK x}) (fun x=>[TbV x.1]) fun x=>rtO [B (twB x.1)]
theorem cTw (t:Tb) (ht:tbOK t) (M:Nat→AO) (n:Nat):caP TwF [TbV t] M n=some (B (twB t),[]):=cT1 (D:=tbOK) (R:=fun t=>rtO [B (twB t)]) ht M n rfl (by simp [rtO,oRt,oVs,oVl,oLs,oLf,stV,srow,U,TbO])
def IxF:List AV→Option AV:=spF (ι:={x:Tb // tbOK x}) (fun x=>[TbV x.1]) fun x=>rtO [.om 1 (idxE x.1.2.1 x.1.2.1.length)]
theorem cIx (t:Tb) (ht:tbOK t) (M:Nat→AO) (n:Nat):caP IxF [TbV t] M n=some (.mp n 1,[(n,.map 1 1 (idxE t.2.1 t.2.1.length))]):=cT1 (D:=tbOK) (R:=fun t=>rtO [.om 1 (idxE t.2.1 t.2.1.length)]) ht M n rfl (by simp [rtO,oRt,oVs,oVl,oLs,oLf,stV,srow,U,TbO])
def NuF:List AV→Option AV:=spF (ι:={x:Tb // tbOK x}) (fun x=>[TbV x.1]) fun x=>rtO [I (numB x.1)]
theorem cNu (t:Tb) (ht:tbOK t) (M:Nat→AO) (n:Nat):caP NuF [TbV t] M n=some (I (numB t),[]):=cT1 (D:=tbOK) (R:=fun t=>rtO [I (numB t)]) ht M n rfl (by simp [rtO,oRt,oVs,oVl,oLs,oLf,stV,srow,U,TbO])
def ChF:List AV→Option AV:=spF (ι:={x:Tb // tbOK x}) (fun x=>[TbV x.1]) fun x=>rtO [I (chk x.1)]
theorem cCh (t:Tb) (ht:tbOK t) (M:Nat→AO) (n:Nat):caP ChF [TbV t] M n=some (I (chk t),[]):=cT1 (D:=tbOK) (R:=fun t=>rtO [I (chk t)]) ht M n rfl (by simp [rtO,oRt,oVs,oVl,oLs,oLf,stV,srow,U,TbO])
theorem s40_c (X:AX) (hX:XOK prog X) (hw:X.W wT) (hra:∀ t:Tb,tbOK t→∀ M n,X.call 119 [TbV t] M n=some (B (rngB t),[])) (hor:∀ t:Tb,tbOK t→∀ M n,X.call 120 [TbV t] M n=some (B (ascB t),[]))
  (htw:∀ t:Tb,tbOK t→∀ M n,X.call 121 [TbV t] M n=some (B (twB t),[])) (hfi:∀ (t:Tb) f,tbOK t→∀ M n,X.call 122 [TbV t,I f] M n=some (I (fstG (fun n=>decide (n.1=f)) t.2.1),[]))
  (hwa:X.call 123=caG (rwS 2)):PSd prog 40 ChF:=by
 have h:=s40 X hX hw hra hor htw hfi hwa
 have e:(fun x:{x:Tb // tbOK x}=>rtO [I (chkR x.1)])=fun x=>rtO [I (chk x.1)]:=funext fun x=>by rw [chkR_eq x.2]
 rw [e] at h
 exact h
def PaF:List AV→Option AV:=spF (ι:={x:Tb×Nat // ptO x.1 x.2}) (fun x=>[TbV x.1.1,I x.1.2]) fun x=>rtO [.ow 3 (srows (ptL x.1.1 x.1.2))]
theorem cPa (t:Tb) (p:Nat) (h:ptO t p) (M:Nat→AO) (n:Nat):caP PaF [TbV t,I p] M n=some (.sl n 1 3 0 (ptL t p).length,[(n,.vec 1 3 false (srows (ptL t p)))]):=cT3 (D:=ptO) (R:=fun t p=>rtO [.ow 3 (srows (ptL t p))]) (k:=n+1) h M n (by simp [rtO,oRt,oVl,oLf,srows]) (by omega)
def LaF:List AV→Option AV:=spF (ι:={x:Tb×Nat // ptO x.1 x.2}) (fun x=>[TbV x.1.1,I x.1.2]) fun x=>rtO [stV (lsT x.1.1 x.1.2)]
theorem cLa (t:Tb) (p:Nat) (h:ptO t p) (M:Nat→AO) (n:Nat):caP LaF [TbV t,I p] M n=some (stV (lsT t p),[]):=cT3 (D:=ptO) (R:=fun t p=>rtO [stV (lsT t p)]) h M n rfl (by simp [rtO,oRt,oVs,oVl,oLs,oLf,stV,srow,U,TbO])
def CkF:List AV→Option AV:=spF (ι:={x:Tb×Int×Int // tbOK x.1}) (fun x=>[TbV x.1.1,I x.1.2.1,I x.1.2.2]) fun x=>rtO [I (ckd x.1.1 x.1.2.1 x.1.2.2)]
theorem cCk (t:Tb) (ht:tbOK t) (a b:Int) (M:Nat→AO) (n:Nat):caP CkF [TbV t,I a,I b] M n=some (I (ckd t a b),[]) :=
 cPs (ι:={x:Tb×Int×Int // tbOK x.1}) (A:=fun x=>[TbV x.1.1,I x.1.2.1,I x.1.2.2]) (R:=fun x=>rtO [I (ckd x.1.1 x.1.2.1 x.1.2.2)]) ⟨(t,a,b),ht⟩ (by simp [TbV]) (by
  rintro ⟨⟨t',a',b'⟩,h'⟩ e
  simp only [cJ,TbJ,I,AV.v.injEq,Value.int.injEq,true_and,and_true] at e
  obtain ⟨rfl,rfl,rfl⟩:=e;rfl) (by simp)
def WaF:List AV→Option AV:=spF (ι:={x:Tb×Int // tbOK x.1}) (fun x=>[TbV x.1.1,I x.1.2]) fun x=>rtO [U (walkT x.1.1 x.1.2).1,I (walkT x.1.1 x.1.2).2.1,I (walkT x.1.1 x.1.2).2.2]
theorem cWa (t:Tb) (x:Int) (ht:tbOK t) (M:Nat→AO) (n:Nat):caP WaF [TbV t,I x] M n=some (.tup [U (walkT t x).1,I (walkT t x).2.1,I (walkT t x).2.2],[]):=cT2 (D:=fun t _=>tbOK t) (R:=fun t x=>rtO [U (walkT t x).1,I (walkT t x).2.1,I (walkT t x).2.2]) ht M n rfl (by simp [rtO,oRt,oVs,oVl,oLs,oLf,stV,srow,U,TbO])
def MiF:List AV→Option AV:=spF (ι:={x:Tb×Int // tbOK x.1}) (fun x=>[TbV x.1.1,I x.1.2]) fun x=>rtO [I (missT x.1.1 x.1.2).1,I (missT x.1.1 x.1.2).2]
theorem cMi (t:Tb) (x:Int) (ht:tbOK t) (M:Nat→AO) (n:Nat):caP MiF [TbV t,I x] M n=some (.tup [I (missT t x).1,I (missT t x).2],[]):=cT2 (D:=fun t _=>tbOK t) (R:=fun t x=>rtO [I (missT t x).1,I (missT t x).2]) ht M n rfl (by simp [rtO,oRt,oVs,oVl,oLs,oLf,stV,srow,U,TbO])
def HuF:List AV→Option AV:=spF (ι:={x:Tb×Int // tbOK x.1}) (fun x=>[TbV x.1.1,I x.1.2]) fun x=>rtO [B (hugeT x.1.1 x.1.2)]
theorem cHu (t:Tb) (x:Int) (ht:tbOK t) (M:Nat→AO) (n:Nat):caP HuF [TbV t,I x] M n=some (B (hugeT t x),[]):=cT2 (D:=fun t _=>tbOK t) (R:=fun t x=>rtO [B (hugeT t x)]) ht M n rfl (by simp [rtO,oRt,oVs,oVl,oLs,oLf,stV,srow,U,TbO])
def ClF:List AV→Option AV:=spF (ι:={x:Tb // tbOK x}) (fun x=>[TbV x.1]) fun x=>rtO [TbO x.1]
theorem cCl (t:Tb) (ht:tbOK t) (M:Nat→AO) (n:Nat):caP ClF [TbV t] M n=some (TbC t n,[(n,.vec 1 9 false (nrw t.2.1)),(n+1,.vec 1 2 false (prw t.2.2))]):=cT1 (D:=tbOK) (R:=fun t=>rtO [TbO t]) (k:=n+2) ht M n (by simp [rtO,oRt,oVl,oLs,oLf,TbO,TbC]) (by omega)
def NeF:List AV→Option AV:=spF (ι:=Int) (fun x=>[I x]) fun x=>rtO [TbO (newT x).1,I (newT x).2]
theorem newO_fl {x:Int}:(rtO [TbO (newT x).1,I (newT x).2]).flat:=by
 intro a ha
 simp at ha
 rcases ha with rfl|rfl
 ·exact TbO_fl
 ·trivial
theorem tabO_fl {t:Tb} {n:Int}:(rtO [TbO t,I n]).flat:=by
 intro a ha
 simp at ha
 rcases ha with rfl|rfl
 ·exact TbO_fl
 ·trivial
theorem ovlF_keys {avs:List AV} {M:Nat→AO} {nid:Nat} {r:AV×List (Nat×AO)} (h:ovlF avs M nid=some r):∀ b∈r.2.map (·.1),nid≤b∧b<nid+16:=by
 unfold ovlF at h
 split at h<;>(try split at h)<;>(try split at h)<;>simp at h
 rw [← h];simp
theorem olaR {X:AX} (h:X.call 110=caP LaF):OwnR X 110 (fun t x=>0≤x∧ptO t x.toNat) fun t x=>stV (lsT t x.toNat):=fun r ns ds x hd a va b vb f1 f2 M n h1 h2=>by
 rw [h]
 obtain ⟨k,rfl⟩:∃ k:Nat,x=k:=⟨x.toNat,by omega⟩
 exact oT3 (D:=ptO) (R:=fun t p=>rtO [stV (lsT t p)]) (t:=(r,ns,ds)) hd.2 ⟨⟨f1,h1⟩,f2,h2⟩ n rfl (by simp [rtO,oRt,oVs,oVl,oLs,oLf,stV,srow,U,TbO])
theorem encR_tab {g:Nat} (hg:g≤4294967295):encR (4,(g:Int),false,false,false,false)=(((g*256+4:Nat):Int),0):=by
 rw [encR_z (by simp only;omega) (by unfold badF;simp only;omega) (by rfl)]
 unfold encW fb
 simp
 omega
theorem encT (f:Nat) (hf:f≤4294967295) (M:Nat→AO) (n:Nat):caP EncF [.agg [I 4,I f,B false,B false,B false,B false]] M n=some (.tup [U ((f*256+4:Nat)),I 0],[]):=by
 rw [cEn,encR_tab hf]
def FhF:List AV→Option AV:=spF (ι:={x:UsD×Nat // tbOK x.1.1∧ascN x.1.1.2.1∧x.1.2.length≤1000}) (fun x=>[TbV x.1.1.1,.rd 1 (irw x.1.1.2),I x.1.2]) fun x=>rtO [B (decide (x.1.1.2.length=x.1.2)&&usB x.1.1.1.2.1 x.1.1.1.2.2 x.1.1.2)]
theorem cFh (t:Tb) (fs:List Int) (m:Nat) (ht:tbOK t) (ha:ascN t.2.1) (hl:fs.length≤1000) (M:Nat→AO) (n:Nat):caP FhF [TbV t,.rd 1 (irw fs),I m] M n=some (B (decide (fs.length=m)&&usB t.2.1 t.2.2 fs),[]) :=
 cPs (ι:={x:UsD×Nat // tbOK x.1.1∧ascN x.1.1.2.1∧x.1.2.length≤1000}) (A:=fun x=>[TbV x.1.1.1,.rd 1 (irw x.1.1.2),I x.1.2]) (R:=fun x=>rtO [B (decide (x.1.1.2.length=x.1.2)&&usB x.1.1.1.2.1 x.1.1.1.2.2 x.1.1.2)]) ⟨((t,fs),m),ht,ha,hl⟩ (by simp [TbV]) (by
  rintro ⟨⟨⟨t',fs'⟩,m'⟩,h'⟩ e
  simp only [cJ,TbJ,I,AV.v.injEq,Value.int.injEq,true_and,and_true,AV.rd.injEq,irI,Int.ofNat_inj] at e
  obtain ⟨rfl,rfl,rfl⟩:=e;rfl) (by simp)
def SeF:List AV→Option AV:=spF (ι:={x:StD // stOK x}) (fun x=>[TbV x.1.1,I x.1.2.1,U x.1.2.2.1,.rd 1 (irw x.1.2.2.2)]) fun x=>rtO [TbO (setP x.1.1 x.1.2.1 x.1.2.2.1 x.1.2.2.2).1,I (setP x.1.1 x.1.2.1 x.1.2.2.1 x.1.2.2.2).2]
def PrF:List AV→Option AV:=spF (ι:={x:Nat×Int // x.1<2^64}) (fun x=>[U x.1.1,I x.1.2]) fun x=>rtO [U (partR x.1.1 x.1.2).1,I (partR x.1.1 x.1.2).2]
theorem cPr (w:Nat) (i:Int) (hw:w<2^64) (M:Nat→AO) (n:Nat):caP PrF [U w,I i] M n=some (.tup [U (partR w i).1,I (partR w i).2],[]) :=
 cPs (ι:={x:Nat×Int // x.1<2^64}) (A:=fun x=>[U x.1.1,I x.1.2]) (R:=fun x=>rtO [U (partR x.1.1 x.1.2).1,I (partR x.1.1 x.1.2).2]) ⟨(w,i),hw⟩ (by simp [U]) (by
  rintro ⟨⟨w',i'⟩,h'⟩ e
  simp only [cJ,U,I,AV.v.injEq,Value.int.injEq,true_and,and_true,Int.ofNat_inj] at e
  obtain ⟨rfl,rfl⟩:=e;rfl) (by simp [U])
def SpF:List AV→Option AV:=spF (ι:={x:Tb×Int // tbOK x.1∧x.1.2.1.length≤999000}) (fun x=>[TbV x.1.1,I x.1.2]) fun x=>rtO [TbO (splP x.1.1 x.1.2).1,I (splP x.1.1 x.1.2).2]
theorem octR {X:AX} (h:X.call 142=caP fun avs=>FCtI (avs.map (nilV 1))):OwnI X:=by
 have key:∀ (fr:List Int) (x:Int),fr.length≤1000→FCtI [.rd 1 (irw fr),I x]=some (B (decide (x∈fr))):=fun fr x hl=>by
  refine sFe (ι:={x:List Int×Int // x.1.length≤9223372036854775807}) (A:=fun x=>[.rd 1 (irw x.1.1),I x.1.2]) (R:=fun x=>rtO [B (decide (x.1.2∈x.1.1))]) ⟨(fr,x),by simp only;omega⟩ fun j e=>?_
  obtain ⟨⟨f',x'⟩,h'⟩:=j
  simp only [cJ,AV.rd.injEq,irI,I,AV.v.injEq,Value.int.injEq,true_and,and_true] at e
  obtain ⟨rfl,rfl⟩:=e;rfl
 refine ⟨fun fr x hl b v f M n hM=>?_,fun x M n=>?_⟩
 ·rw [h]
  have tk:List.take fr.length (irw fr)=irw fr:=tkL (by simp)
  simp [caP,hM,tk,nilV,nilA,key fr x hl]
 ·rw [h]
  have:=key [] x (by simp)
  simp only [irw,List.map_nil] at this
  simp [caP,nilV,nilA,this]
def ClrF:List AV→Option AV:=spF (ι:={x:Tb×Int // tbOK x.1∧x.1.2.1.length≤999000}) (fun x=>[TbV x.1.1,I x.1.2]) fun x=>rtO [TbO (clrP x.1.1 x.1.2).1,U (clrP x.1.1 x.1.2).2.1,.ow 1 (irw (clrP x.1.1 x.1.2).2.2.1),I (clrP x.1.1 x.1.2).2.2.2]
theorem clrO_fl {t:Tb} {w:Nat} {l:List Int} {n:Int}:(rtO [TbO t,U w,.ow 1 (irw l),I n]).flat:=by
 intro a ha
 simp at ha
 rcases ha with rfl|rfl|rfl|rfl
 ·exact TbO_fl
 ·trivial
 ·exact irow_pl
 ·trivial
theorem repO_fl {t:Tb} {w:Nat} {n:Int}:(rtO [TbO t,U w,I n]).flat:=by
 intro a ha
 simp at ha
 rcases ha with rfl|rfl|rfl
 ·exact TbO_fl
 ·trivial
 ·trivial
def ReF:List AV→Option AV:=spF (ι:={x:Tb×Int×Nat // tbOK x.1∧x.2.2<2^64}) (fun x=>[TbV x.1.1,I x.1.2.1,U x.1.2.2]) fun x=>rtO [TbO (repP x.1.1 x.1.2.1 x.1.2.2).1,U (repP x.1.1 x.1.2.1 x.1.2.2).2.1,I (repP x.1.1 x.1.2.1 x.1.2.2).2.2]
end
set_option maxRecDepth 4000
theorem open_rep {t:Tb} {w:Nat} {e:Int} {n:Nat}:oRt n (rtO [TbO t,U w,I e])=(.tup [TbC t n,U w,I e],outT t n,n+2):=by
 simp [rtO,oRt,oVs,oVl,oLs,oLf,TbO,TbC,outT,U]
noncomputable section
def acM (t:Tb) (b:Tl) (s p:Int) (wr:Bool):Tb×Tl×Int×Int :=
 if rfE (decR (walkT t p).1).1 wr≠0 then (t,(inT b s p).1,0,rfE (decR (walkT t p).1).1 wr)
 else ((repP t p (mkW (walkT t p).1 wr).1).1,(fiT b s p (mkW (walkT t p).1 wr).1).1,frmG (decR (walkT t p).1).1 p,0)
def acT (t:Tb) (b:Tl) (s p:Int) (wr:Bool):Tb×Tl×Int×Int :=
 if chk t≠0 then (zT,zB,0,chk t)
 else if chB b≠0 then (zT,zB,0,chB b)
 else if plcB s p=false then (zT,zB,0,2)
 else if (lkT b s p).2=true∧(wr=false∨((decR (lkT b s p).1).1.2.2.1=true∧(decR (lkT b s p).1).1.2.2.2.2.1=true)) then (t,b,frmG (decR (lkT b s p).1).1 p,0)
 else acM t b s p wr
theorem mkW_lt {w:Nat} {wr:Bool} (h:w<2^64):(mkW w wr).1<2^64:=by
 unfold mkW
 split
 ·show 0<2^64;decide
 ·split
  ·show 0<2^64;decide
  ·split
   ·exact Nat.or_lt_two_pow h (by decide)
   ·split
    ·show 0<2^64;decide
    ·exact Nat.or_lt_two_pow (Nat.or_lt_two_pow h (by decide)) (by decide)
theorem lk_u64 {b:Tl} {s p:Int} (h:tlOK b):(lkT b s p).1<2^64:=by
 unfold lkT
 split
 ·decide
 ·split
  ·rename_i x hx
   exact h.2 _ (List.mem_of_find?_eq_some hx)
  ·decide
theorem walk_u64 {t:Tb} (ht:tbOK t) (p:Int):(walkT t p).1<2^64:=by
 unfold walkT
 split
 ·rename_i h
  obtain ⟨hpv,h0,h1⟩:=ckd_pt ht (by rw [h];simp:¬ ckd t p 512≠0)
  obtain ⟨q,rfl⟩:=Int.eq_ofNat_of_zero_le h0
  exact lsT_u64 ht hpv (by omega)
 ·show 0<2^64;decide
theorem tkN (l:NdL):List.take l.length (nrw l)=nrw l:=tkL (by simp)
theorem tkP (l:List Dp):List.take l.length (prw l)=prw l:=tkL (by simp)
structure AcX (X:AX):Prop where
 ch:∀ t:Tb,tbOK t→∀ M n,X.call 39 [TbV t] M n=some (I (chk t),[])
 ct:∀ b:Tl,tlOK b→∀ M n,X.call 92 [TlV b] M n=some (I (chB b),[])
 lk:∀ (b:Tl) (s p:Int),tlOK b→∀ M n,X.call 93 [TlV b,I s,I p] M n=some (.tup [U (lkT b s p).1,B (lkT b s p).2],[])
 de:∀ w:Nat,w<2^64→∀ M k,X.call 56 [U w] M k=some (.tup [EnV (decR w).1,I (decR w).2],[])
 cT:∀ t:Tb,tbOK t→∀ M n,X.call 94 [TbV t] M n=some (TbC t n,outT t n)
 cB:∀ b:Tl,b.2.length≤1000000→∀ M n,X.call 95 [TlV b] M n=some (TlC b n,[(n,.vec 1 3 false (trw b.2))])
 fg:∀ (e:En) (p:Int),0≤e.2.1→e.2.1≤4294967295→0≤p→∀ M n,X.call 96 [EnV e,I p] M n=some (I (frmG e p),[])
 wa:∀ (t:Tb) (x:Int),tbOK t→∀ M n,X.call 35 [TbV t,I x] M n=some (.tup [U (walkT t x).1,I (walkT t x).2.1,I (walkT t x).2.2],[])
 rf:∀ (e:En) (wr:Bool) M n,X.call 97 [EnV e,B wr] M n=some (I (rfE e wr),[])
 iv:∀ (b:Tl) (s p:Int),tlOK b→∀ M n,X.call 98 [TlV b,I s,I p] M n=some (.tup [TlC (inT b s p).1 n,I (inT b s p).2],[(n,.vec 1 3 false (trw (inT b s p).1.2))])
 mq:∀ (w:Nat) (wr:Bool),w<2^64→∀ M n,X.call 99 [U w,B wr] M n=some (.tup [U (mkW w wr).1,I (mkW w wr).2],[])
 re:∀ (t:Tb) (p:Int) (w:Nat),tbOK t→w<2^64→∀ M n,X.call 61 [TbV t,I p,U w] M n=some (.tup [TbC (repP t p w).1 n,U (repP t p w).2.1,I (repP t p w).2.2],outT (repP t p w).1 n)
 fi:∀ (b:Tl) (s p:Int) (w:Nat),tlOK b→w<2^64→∀ M n,X.call 100 [TlV b,I s,I p,U w] M n=some (.tup [TlC (fiT b s p w).1 n,I (fiT b s p w).2],[(n,.vec 1 3 false (trw (fiT b s p w).1.2))])
def AcF:List AV→Option AV:=spF (ι:={x:Tb×Tl×Int×Int×Bool // tbOK x.1∧tlOK x.2.1}) (fun x=>[TbV x.1.1,TlV x.1.2.1,I x.1.2.2.1,I x.1.2.2.2.1,B x.1.2.2.2.2]) fun x=>rtO [TbO (acT x.1.1 x.1.2.1 x.1.2.2.1 x.1.2.2.2.1 x.1.2.2.2.2).1,TlO (acT x.1.1 x.1.2.1 x.1.2.2.1 x.1.2.2.2.1 x.1.2.2.2.2).2.1,I (acT x.1.1 x.1.2.1 x.1.2.2.1 x.1.2.2.2.1 x.1.2.2.2.2).2.2.1,I (acT x.1.1 x.1.2.1 x.1.2.2.1 x.1.2.2.2.1 x.1.2.2.2.2).2.2.2]
set_option maxHeartbeats 16000000 in
theorem s29 (X:AX) (hX:XOK prog X) (hw:X.W wT) (L:AcX X):PSd prog 29 AcF:=by
 unfold AcF
 refine psS hX mixed func29 rfl fun ⟨⟨⟨r,ns,ds⟩,⟨z,l⟩,s,p,wr⟩,ht,hb⟩ w0 G=>⟨by show 5≤150;decide,rfl,?_⟩
 show AW ⟨prog,X,150,w0,.pure G⟩ _ _ _
 have hc:=okc hX 150 w0 G
 simp only at ht hb ⊢
 have ch:=L.ch _ ht
 have ct:=L.ct _ hb
 rcases dE (chk (r,ns,ds)=0) with h0|h0
 ·rw [h0] at ch
  rcases dE (chB (z,l)=0) with g0|g0
  ·rw [g0] at ct
   cases hpb:plcB s p with
   | false =>
    have e:acT (r,ns,ds) (z,l) s p wr=(zT,zB,0,2):=by unfold acT;rw [if_neg (by simp [h0]),if_neg (by simp [g0]),if_pos hpb]
    rw [e]
    have hbad:s<0∨8≤s∨p<0∨512≤p:=by
     unfold plcB at hpb
     have:=of_decide_eq_false hpb
     omega
    simp only [TbV,TlV,TbO,TlO,zT,zB] at ch ct ⊢
    rcases dE (s<0) with k1|k1
    ·have zS:=jj ch<|jj ct<|k1
     refine dF64 ?_
     repeat (intro K hK)
     clear zS
     all_goals refine ⟨by simp,?_⟩
     all_goals simp [lvI,f29,nrw,prw,trw]
     all_goals try exact dt
    ·rcases dE (8≤s) with k2|k2
     ·have zS:=jj ch<|jj ct<|jj k1<|k2
      refine dF64 ?_
      repeat (intro K hK)
      clear zS
      all_goals refine ⟨by simp,?_⟩
      all_goals simp [lvI,f29,nrw,prw,trw]
      all_goals try exact dt
     ·rcases dE (p<0) with k3|k3
      ·have zS:=jj ch<|jj ct<|jj k1<|jj k2<|k3
       refine dF64 ?_
       repeat (intro K hK)
       clear zS
       all_goals refine ⟨by simp,?_⟩
       all_goals simp [lvI,f29,nrw,prw,trw]
       all_goals try exact dt
      ·have k4:512≤p:=by omega
       have zS:=jj ch<|jj ct<|jj k1<|jj k2<|jj k3<|k4
       refine dF64 ?_
       repeat (intro K hK)
       clear zS
       all_goals refine ⟨by simp,?_⟩
       all_goals simp [lvI,f29,nrw,prw,trw]
       all_goals try exact dt
   | true =>
    have hpl2:0≤s∧s<8∧0≤p∧p<512:=by unfold plcB at hpb;simpa using hpb
    have k1:¬ s<0:=by omega
    have k2:¬ 8≤s:=by omega
    have k3:¬ p<0:=by omega
    have k4:¬ 512≤p:=by omega
    have lk:=L.lk (z,l) s p hb
    have de:=L.de _ (lk_u64 (s:=s) (p:=p) hb)
    have fg:=L.fg (decR (lkT (z,l) s p).1).1 p (decR_rng _).1 (decR_rng _).2 hpl2.2.2.1
    have cT:=L.cT _ ht
    have cB:=L.cB _ hb.1
    have wa:=L.wa _ p ht
    have w64:=walk_u64 ht p
    have de2:=L.de _ w64
    have rf:=L.rf (decR (walkT (r,ns,ds) p).1).1 wr
    have iv:=L.iv _ s p hb
    have mk:=L.mq _ wr w64
    have re:=L.re _ p _ ht (mkW_lt (wr:=wr) w64)
    have fi:=L.fi _ s p _ hb (mkW_lt (wr:=wr) w64)
    have fg2:=L.fg (decR (walkT (r,ns,ds) p).1).1 p (decR_rng _).1 (decR_rng _).2 hpl2.2.2.1
    have eM:acM (r,ns,ds) (z,l) s p wr=if rfE (decR (walkT (r,ns,ds) p).1).1 wr≠0 then ((r,ns,ds),(inT (z,l) s p).1,0,rfE (decR (walkT (r,ns,ds) p).1).1 wr)
     else ((repP (r,ns,ds) p (mkW (walkT (r,ns,ds) p).1 wr).1).1,(fiT (z,l) s p (mkW (walkT (r,ns,ds) p).1 wr).1).1,frmG (decR (walkT (r,ns,ds) p).1).1 p,0):=rfl
    have eA:acT (r,ns,ds) (z,l) s p wr=if (lkT (z,l) s p).2=true∧(wr=false∨((decR (lkT (z,l) s p).1).1.2.2.1=true∧(decR (lkT (z,l) s p).1).1.2.2.2.2.1=true)) then ((r,ns,ds),(z,l),frmG (decR (lkT (z,l) s p).1).1 p,0) else acM (r,ns,ds) (z,l) s p wr:=by
     unfold acT
     rw [if_neg (by simp [h0]),if_neg (by simp [g0]),if_neg (by simp [hpb])]
    rw [eA]
    clear eA
    obtain ⟨⟨lw,lb⟩,hlk⟩:∃ x,x=lkT (z,l) s p:=⟨_,rfl⟩
    rw [← hlk] at lk de fg ⊢
    simp only at lk de fg ⊢
    obtain ⟨⟨⟨k,num,b1,b2,b3,hg⟩,er⟩,hx⟩:∃ x,x=decR lw:=⟨_,rfl⟩
    rw [← hx] at de fg ⊢
    obtain ⟨⟨ww,wl,we⟩,hwa⟩:∃ x,x=walkT (r,ns,ds) p:=⟨_,rfl⟩
    rw [← hwa] at wa de2 rf mk re fi fg2 eM
    simp only at wa de2 rf mk re fi fg2 eM
    obtain ⟨⟨⟨k',num',c1,c2,c3,hg'⟩,er'⟩,hx'⟩:∃ x,x=decR ww:=⟨_,rfl⟩
    rw [← hx'] at de2 rf fg2 eM
    obtain ⟨⟨mw,me⟩,hmk⟩:∃ x,x=mkW ww wr:=⟨_,rfl⟩
    rw [← hmk] at mk re fi eM
    simp only at re fi eM
    obtain ⟨⟨⟨r2,n2,d2⟩,v2,e2⟩,hre⟩:∃ x,x=repP (r,ns,ds) p mw:=⟨_,rfl⟩
    rw [← hre] at re eM
    obtain ⟨⟨⟨z2,l2⟩,e3⟩,hfi⟩:∃ x,x=fiT (z,l) s p mw:=⟨_,rfl⟩
    rw [← hfi] at fi eM
    obtain ⟨⟨⟨z3,l3⟩,e4⟩,hiv⟩:∃ x,x=inT (z,l) s p:=⟨_,rfl⟩
    rw [← hiv] at iv eM
    obtain ⟨rv,hrv⟩:∃ x,x=rfE (k',num',c1,c2,c3,hg') wr:=⟨_,rfl⟩
    simp only at rf fg2 eM
    rw [← hrv] at rf eM
    obtain ⟨f1,hf1⟩:∃ x,x=frmG (k,num,b1,b2,b3,hg) p:=⟨_,rfl⟩
    rw [← hf1] at fg ⊢
    obtain ⟨f2,hf2⟩:∃ x,x=frmG (k',num',c1,c2,c3,hg') p:=⟨_,rfl⟩
    rw [← hf2] at fg2 eM
    have tkl:=tkT l
    rw [eM]
    clear eM hlk hx hwa hx' hmk hre hfi hiv hrv hf1 hf2
    simp only [TbV,TlV,TbC,TlC,TbO,TlO,EnV,U,outT] at ch ct lk de fg cT cB wa de2 rf iv mk re fi fg2 ⊢
    cases lb with
    | false =>
     rw [if_neg (by simp)]
     rcases dE (rv=0) with hr0|hr0
     ·rw [if_neg (by simp [hr0])]
      have zS:=jj ch<|jj ct<|jj k1<|jj k2<|jj k3<|jj k4<|jj lk<|jj wa<|jj de2<|jj rf<|jj mk<|jj re<|jj fi<|jj fg2<|hr0
      refine dF64 ?_
      repeat (intro K hK)
      clear zS
      all_goals refine ⟨by simp,?_⟩
      all_goals simp [lvI,f29,tkN,tkP,tkT]
      all_goals try exact dt
     ·rw [if_pos hr0]
      have zS:=jj ch<|jj ct<|jj k1<|jj k2<|jj k3<|jj k4<|jj lk<|jj wa<|jj de2<|jj rf<|jj iv<|jj cT<|hr0
      refine dF64 ?_
      repeat (intro K hK)
      clear zS
      all_goals refine ⟨by simp,?_⟩
      all_goals simp [lvI,f29,tkN,tkP,tkT]
      all_goals try exact dt
    | true =>
     cases wr with
     | false =>
      rw [if_pos (by simp)]
      have zS:=jj ch<|jj ct<|jj k1<|jj k2<|jj k3<|jj k4<|jj lk<|jj de<|jj cT<|jj cB<|fg
      refine dF64 ?_
      repeat (intro K hK)
      clear zS
      all_goals refine ⟨by simp,?_⟩
      all_goals simp [lvI,f29,tkN,tkP,tkT]
      all_goals try exact dt
     | true =>
      cases b1 with
      | true =>
       cases b3 with
       | true =>
        rw [if_pos (by simp)]
        have zS:=jj ch<|jj ct<|jj k1<|jj k2<|jj k3<|jj k4<|jj lk<|jj de<|jj cT<|jj cB<|fg
        refine dF64 ?_
        repeat (intro K hK)
        clear zS
        all_goals refine ⟨by simp,?_⟩
        all_goals simp [lvI,f29,tkN,tkP,tkT]
        all_goals try exact dt
       | false =>
        rw [if_neg (by simp)]
        rcases dE (rv=0) with hr0|hr0
        ·rw [if_neg (by simp [hr0])]
         have zS:=jj ch<|jj ct<|jj k1<|jj k2<|jj k3<|jj k4<|jj lk<|jj de<|jj wa<|jj de2<|jj rf<|jj mk<|jj re<|jj fi<|jj fg2<|hr0
         refine dF64 ?_
         repeat (intro K hK)
         clear zS
         all_goals refine ⟨by simp,?_⟩
         all_goals simp [lvI,f29,tkN,tkP,tkT]
         all_goals try exact dt
        ·rw [if_pos hr0]
         have zS:=jj ch<|jj ct<|jj k1<|jj k2<|jj k3<|jj k4<|jj lk<|jj de<|jj wa<|jj de2<|jj rf<|jj iv<|jj cT<|hr0
         refine dF64 ?_
         repeat (intro K hK)
         clear zS
         all_goals refine ⟨by simp,?_⟩
         all_goals simp [lvI,f29,tkN,tkP,tkT]
         all_goals try exact dt
      | false =>
       rw [if_neg (by simp)]
       rcases dE (rv=0) with hr0|hr0
       ·rw [if_neg (by simp [hr0])]
        have zS:=jj ch<|jj ct<|jj k1<|jj k2<|jj k3<|jj k4<|jj lk<|jj de<|jj wa<|jj de2<|jj rf<|jj mk<|jj re<|jj fi<|jj fg2<|hr0
        refine dF64 ?_
        repeat (intro K hK)
        clear zS
        all_goals refine ⟨by simp,?_⟩
        all_goals simp [lvI,f29,tkN,tkP,tkT]
        all_goals try exact dt
       ·rw [if_pos hr0]
        have zS:=jj ch<|jj ct<|jj k1<|jj k2<|jj k3<|jj k4<|jj lk<|jj de<|jj wa<|jj de2<|jj rf<|jj iv<|jj cT<|hr0
        refine dF64 ?_
        repeat (intro K hK)
        clear zS
        all_goals refine ⟨by simp,?_⟩
        all_goals simp [lvI,f29,tkN,tkP,tkT]
        all_goals try exact dt
  ·have e:acT (r,ns,ds) (z,l) s p wr=(zT,zB,0,chB (z,l)):=by unfold acT;rw [if_neg (by simp [h0]),if_pos g0]
   rw [e]
   obtain ⟨c,hcz⟩:∃ c,c=chB (z,l):=⟨_,rfl⟩
   rw [← hcz] at ct g0 ⊢
   simp only [TbV,TlV,TbO,TlO,zT,zB] at ch ct ⊢
   have zS:=jj ch<|jj ct<|g0
   refine dF64 ?_
   repeat (intro K hK)
   clear zS
   all_goals refine ⟨by simp,?_⟩
   all_goals simp [lvI,f29,nrw,prw,trw]
   all_goals try exact dt
 ·have e:acT (r,ns,ds) (z,l) s p wr=(zT,zB,0,chk (r,ns,ds)):=by unfold acT;rw [if_pos h0]
  rw [e]
  obtain ⟨c,hcz⟩:∃ c,c=chk (r,ns,ds):=⟨_,rfl⟩
  rw [← hcz] at ch h0 ⊢
  simp only [TbV,TlV,TbO,TlO,zT,zB] at ch ⊢
  have zS:=jj ch<|h0
  refine dF64 ?_
  repeat (intro K hK)
  clear zS
  all_goals refine ⟨by simp,?_⟩
  all_goals simp [lvI,f29,nrw,prw,trw]
  all_goals try exact dt
end
def zi512:List Value:=List.replicate 512 (.int .i64 0)
def zb512:List Value:=List.replicate 512 (.bool false)
def zAs:List Value:=[.int .i64 0,.slice none 0 0,.slice none 0 0,.int .i64 0,.slice none 0 0,.int .i64 0,.slice none 0 0]++(zi512++(zb512++[.int .i64 0]))
@[simp] theorem tyAs:Types prog 120=some ⟨.struct [(0,63,3),(3,116,4),(7,117,512),(519,118,512),(1031,3,1)],1032,4736,zAs⟩:=by kernel_rfl
@[simp] theorem tyTlb2:Types prog 116=some ⟨.array 2 66,4,64,[.int .i64 0,.slice none 0 0,.int .i64 0,.slice none 0 0]⟩:=by kernel_rfl
@[simp] theorem tyI512:Types prog 117=some ⟨.array 512 3,512,4096,zi512⟩:=by kernel_rfl
@[simp] theorem tyB512:Types prog 118=some ⟨.array 512 4,512,512,zb512⟩:=by kernel_rfl
@[simp] theorem tyPop:Types prog 29=some ⟨.struct [(0,5,1),(1,27,1),(2,5,1)],3,6,[.int .u8 0,.int .u16 0,.int .u8 0]⟩:=by kernel_rfl
@[simp] theorem tyU16:Types prog 27=some ⟨.int .u16,1,2,[.int .u16 0]⟩:=by kernel_rfl
@[simp] theorem tyU8:Types prog 5=some ⟨.int .u8,1,1,[.int .u8 0]⟩:=by kernel_rfl
@[simp] theorem tyPops:Types prog 22=some ⟨.slice 29,1,24,[.slice none 0 0]⟩:=by kernel_rfl
abbrev AsD:=Tb×Tl×Tl×List Int×List Bool×Int
def asM (s:AsD):List AO:=[.box (asC s.1 s.2.1 s.2.2.1 s.2.2.2.1 s.2.2.2.2.1 s.2.2.2.2.2)]
def asK (s:AsD):Prop:=tbOK s.1∧tlOK s.2.1∧tlOK s.2.2.1∧s.2.2.2.1.length=512∧s.2.2.2.2.1.length=512
theorem map_I_inj:∀ {a b:List Int},a.map I=b.map I→a=b
 | [],[],_=>rfl
 | [],_::_,h=>by simp at h
 | _::_,[],h=>by simp at h
 | x::a,y::b,h=>by
  simp only [List.map_cons,cJ,I,AV.v.injEq,Value.int.injEq,true_and] at h
  rw [h.1,map_I_inj h.2]
theorem map_B_inj:∀ {a b:List Bool},a.map B=b.map B→a=b
 | [],[],_=>rfl
 | [],_::_,h=>by simp at h
 | _::_,[],h=>by simp at h
 | x::a,y::b,h=>by
  simp only [List.map_cons,cJ,B,AV.v.injEq,Value.bool.injEq] at h
  rw [h.1,map_B_inj h.2]
theorem asM_inj {s s':AsD} (h:asK s) (h':asK s') (e:asM s=asM s'):s=s':=by
 obtain ⟨⟨r,ns,ds⟩,⟨z0,l0⟩,⟨z1,l1⟩,fr,wr,nx⟩:=s
 obtain ⟨⟨r',ns',ds'⟩,⟨z0',l0'⟩,⟨z1',l1'⟩,fr',wr',nx'⟩:=s'
 obtain ⟨_,_,_,h1,h2⟩:=h
 obtain ⟨_,_,_,h1',h2'⟩:=h'
 simp only at h1 h2 h1' h2'
 simp only [asM,asC,asT,cJ,AO.box.injEq,I,AV.v.injEq,Value.int.injEq,true_and,AV.rd.injEq,nrows_inj,prows_inj,trI,and_true] at e
 obtain ⟨rfl,rfl,rfl,rfl,rfl,rfl,rfl,e⟩:=e
 obtain ⟨e1,e2⟩:=List.append_inj e (by simp [h1,h1'])
 obtain ⟨e3,e4⟩:=List.append_inj e2 (by simp [h2,h2'])
 simp at e4
 have:=map_I_inj e1
 have:=map_B_inj e3
 subst_vars
 rfl
noncomputable def flS:List AV→List AO→Option (AV×List AO):=specG (ι:={x:AsD×Nat // asK x.1∧chB x.1.2.1=0∧chB x.1.2.2.1=0∧x.2<512}) (fun x=>[.bp 0 0,I x.1.2]) (fun x=>asM x.1.1) (fun _=>rtO [B true])
 fun x=>asM (x.1.1.1,(inT x.1.1.2.1 3 x.1.2).1,(inT x.1.1.2.2.1 3 x.1.2).1,x.1.1.2.2.2)
theorem flS_at {s:AsD} {p:Nat} (h:asK s) (h0:chB s.2.1=0) (h1:chB s.2.2.1=0) (hp:p<512):flS [.bp 0 0,I p] (asM s)=some (B true,asM (s.1,(inT s.2.1 3 p).1,(inT s.2.2.1 3 p).1,s.2.2.2)):=by
 refine sGe (ι:={x:AsD×Nat // asK x.1∧chB x.1.2.1=0∧chB x.1.2.2.1=0∧x.2<512}) (A:=fun x=>[.bp 0 0,I x.1.2]) (M:=fun x=>asM x.1.1) (R:=fun _=>rtO [B true]) (O:=fun x=>asM (x.1.1.1,(inT x.1.1.2.1 3 x.1.2).1,(inT x.1.1.2.2.1 3 x.1.2).1,x.1.1.2.2.2)) ⟨(s,p),h,h0,h1,hp⟩ fun j hA hM=>?_
 obtain ⟨⟨s',p'⟩,h'⟩:=j
 have e:=asM_inj h'.1 h hM
 simp only at e
 subst e
 simp only [cJ,I,AV.v.injEq,Value.int.injEq,true_and,and_true,Int.ofNat_inj] at hA
 subst hA
 exact ⟨rfl,rfl⟩
theorem in_ok {b:Tl} {p:Nat} (h:chB b=0) (hp:p<512):(inT b 3 p).2=0:=by
 have hpl:plcB 3 p=true:=by unfold plcB;exact decide_eq_true ⟨by omega,by omega,by omega,by omega⟩
 unfold inT
 rw [if_neg (by simp [h]),if_neg (by simp [hpl])]
set_option maxHeartbeats 8000000 in
theorem s155 (X:AX) (hX:XOK prog X) (hw:X.W wT) (hiv:∀ (b:Tl) (s p:Int),tlOK b→∀ M n,X.call 98 [TlV b,I s,I p] M n=some (.tup [TlV (inT b s p).1,I (inT b s p).2],[])):GSd prog 155 flS:=by
 unfold flS
 refine gsS func155 rfl X fun ⟨⟨⟨t,b0,b1,fr,wr,nx⟩,p⟩,hk,hb0,hb1,hp⟩ w0 L E=>⟨by show 2≤31;decide,?_⟩
 obtain ⟨_,k0,k1,hf,hwl⟩:=hk
 simp only at k0 k1 hf hwl hb0 hb1 hp ⊢
 have i0:=hiv b0 3 p k0
 have i1:=hiv b1 3 p k1
 rw [in_ok hb0 hp] at i0
 rw [in_ok hb1 hp] at i1
 have hlen:=fun (t:Tb) (b0 b1:Tl) (fr:List Int) (wr:List Bool) (nx:Int) (h1:fr.length=512) (h2:wr.length=512)=>@asC_len t b0 b1 fr wr nx h1 h2
 have hln:=fun b0 b1=>@asC_len t b0 b1 fr wr nx hf hwl
 obtain ⟨⟨y0,m0⟩,e0⟩:∃ x,x=(inT b0 3 p).1:=⟨_,rfl⟩
 obtain ⟨⟨y1,m1⟩,e1⟩:∃ x,x=(inT b1 3 p).1:=⟨_,rfl⟩
 rw [← e0] at i0
 rw [← e1] at i1
 simp only [asM,← e0,← e1]
 simp only [TlV] at i0 i1
 show AW ⟨prog,X,31,w0,⟨L,E,1⟩⟩ _ _ _
 have hc:Cx.OK ⟨prog,X,31,w0,⟨L,E,1⟩⟩:=⟨hX,mixed⟩
 repeat' (first|(refine aSk fun K hK=>?_)|(refine eF64o ?_)|(refine eC (fun h=>?_) (fun h=>?_)<;>(try simp at h))|(refine hK _ ?_;clear hK)|(clear hK;refine hK _ ?_;clear hK))
 refine aRs_ 3 (aRd ?_)
 have zS:=jj i0<|jj i1<|hln
 repeat' (first|(refine aSk fun K hK=>?_)|(refine eF64 ?_)|(refine eC (fun h=>?_) (fun h=>?_)<;>(try simp at h))|(refine hK _ ?_;clear hK)|clear hK)
 all_goals clear zS
 refine ⟨by simp,_,by simp [aRs,aRt,f155];rfl,?_⟩
 simp only [idx]
 exact dle
end Go.AM
namespace Go.AM
open Go
def Env.shut (E:Env) (b:Nat):Env:={ G:=fun k=>E.G k∨∃ base sz,E.loc b=some (k,base,sz),alive:=E.alive,ver:=fun c=>if c=b then E.ver c+1 else E.ver c,loc:=fun c=>if c=b then none else E.loc c }
theorem SatF.shut {N:Nat} {w0:World} {bl:Bk} {E:Env} {a:Act} {w:World} {g:Nat→AV} {m:Nat→AO} {b v s:Nat} {f:Bool} {xs:List (List AV)} (h:SatF N w0 bl E a w g m) (hb:E.alive b) (hm:m b=.vec v s f xs) :
  SatF N w0 bl (E.shut b) a w g (fun c=>if c=b then .dead else m c)∧E.Le (E.shut b)∧∀ x,Rep E w (.sl b v s 0 xs.length) x→Rep (E.shut b) w (.rd s xs) x:=by
 have ho:=h.mem b hb
 rw [hm] at ho
 simp only [ObR] at ho
 obtain ⟨o1,o2,o3⟩:=ho
 have hle:E.Le (E.shut b):=⟨fun k hk=>.inl hk,fun c hc=>hc,fun c hc=>by
  by_cases e:c=b
  ·subst e
   exact .inr ⟨by rw [o1];exact o2,by simp [Env.shut]⟩
  ·exact .inl (by simp [Env.shut,e])⟩
 have hG:∀ k,(E.shut b).G k→E.G k∨∃ base sz,E.loc b=some (k,base,sz):=fun k hk=>hk
 have I:=h.inv
 refine ⟨⟨h.defers,h.size,⟨I.frame,I.gin.trans hle,I.low,fun k hk=>?_,fun k hk=>?_,fun c blk base sz hc hl=>?_,fun c c' blk base sz base' sz' hc hc' hl hl'=>?_⟩,fun c hc=>?_,fun t=>(h.slots t).mono hle fun _ _=>rfl⟩,hle,fun x hx=>?_⟩
 ·rcases hG k hk with hk|⟨base,sz,hl⟩
  ·exact I.gout k hk
  ·exact .inr (I.locs b k base sz hb hl).2.2
 ·rcases hG k hk with hk|⟨base,sz,hl⟩
  ·exact I.good k hk
  ·exact (I.locs b k base sz hb hl).1
 ·by_cases e:c=b
  ·simp [Env.shut,e] at hl
  ·simp only [Env.shut,if_neg e] at hl
   obtain ⟨l1,l2,l3⟩:=I.locs c blk base sz hc hl
   refine ⟨l1,fun hk=>?_,l3⟩
   rcases hG blk hk with hk|⟨base',sz',hl'⟩
   ·exact l2 hk
   ·exact e (I.apart c b blk base sz base' sz' hc hb hl hl')
 ·by_cases e:c=b
  ·simp [Env.shut,e] at hl
  ·by_cases e':c'=b
   ·simp [Env.shut,e'] at hl'
   ·simp only [Env.shut,if_neg e] at hl
    simp only [Env.shut,if_neg e'] at hl'
    exact I.apart c c' blk base sz base' sz' hc hc' hl hl'
 ·by_cases e:c=b
  ·simp only [e,if_true];trivial
  ·simp only [if_neg e]
   exact ObR.mono hle (fun _ _=>rfl) (by simp [Env.shut,e]) (by simp [Env.shut,e]) (fun _ _ _ _=>rfl) (h.mem c hc)
 ·simp only [Rep] at hx
  obtain ⟨_,_,_,p,c,rfl,h2,h3,h4⟩:=hx
  have h4:=h4 o1.symm
  simp only [Rep,CRep]
  refine ⟨p,c,rfl,h2,h3,?_⟩
  cases hl:E.loc b with
  | none=>rw [hl] at o3;exact .inl o3
  | some l =>
   obtain ⟨blk,base,sz⟩:=l
   rw [hl] at h4 o3
   simp only [SlAt] at h4 o3
   obtain ⟨ad,rfl,h5,_⟩:=h4
   obtain ⟨cs,t,_,_,_,_,_,hr⟩:=o3
   by_cases e:xs=[]
   ·exact .inl e
   ·right
    have:0<xs.length:=List.length_pos_iff.2 e
    refine ⟨blk,base,?_,.inr ⟨base,sz,hl⟩,hr.mono (fun k hk=>.inl hk) (fun _ _=>rfl) (.inl rfl)⟩
    rcases h5 with h5|h5
    ·omega
    ·rw [h5];simp
theorem le_seal {n:Nat} {s:List (Nat×AV)} {m:List (Nat×AO)} {nx t b v sz:Nat} {f:Bool} {xs:List (List AV)} (ht:getS s t=.sl b v sz 0 xs.length) (hm:getM m b=.vec v sz f xs) :
  Le n ⟨s,m,nx⟩ ⟨(t,.rd sz xs)::s,(b,.dead)::m,nx⟩:=fun N w0 bl a w _ ⟨E,hs,h1,h2⟩=>by
 have hr:=hs.slots t
 rw [ht] at hr
 have hb:E.alive b:=by simp only [Rep] at hr;exact hr.1
 obtain ⟨k1,k2,k3⟩:=hs.shut hb hm
 refine ⟨_,⟨k1.defers,k1.size,k1.inv,fun c hc=>?_,fun k=>?_⟩,fun k hk=>h1 k hk,fun k hk=>?_⟩
 ·have:=k1.mem c hc
  simp only [getM]
  by_cases e:b=c
  ·subst e;simpa using this
  ·rw [if_neg e]
   rw [if_neg (Ne.symm e)] at this
   exact this
 ·simp only [getS]
  by_cases e:t=k
  ·subst e;rw [if_pos rfl];exact k3 _ hr
  ·rw [if_neg e];exact k1.slots k
 ·simp only [getM] at hk
  split at hk
  ·exact absurd rfl hk
  ·exact h2 k hk
end Go.AM
namespace Go.AM
open Go Go.Proofs Tryz
theorem tabW_inv {x:Nat} {g:Int} (h:tabW x=some g):0≤g∧g≤4294967295∧x=g.toNat*256+4:=by
 have hr:=decR_rng x
 unfold tabW at h
 split at h
 case isFalse=>simp at h
 rename_i hk
 simp only [oJ] at h
 rw [h] at hr
 refine ⟨hr.1,hr.2,?_⟩
 by_cases he:encR (prs x)=((x:Int),0)
 ·rw [decR_z he] at hk h
  simp only at hk h
  have hb:¬ badF (prs x):=fun hb=>by rw [encR_f (by rw [hk];decide) hb] at he;simp at he
  cases hf:frmE (prs x) with
  | false=>rw [encR_m (by rw [hk];decide) hb hf] at he;simp at he
  | true =>
   rw [encR_z (by rw [hk];decide) hb hf] at he
   simp only [pJ,and_true] at he
   unfold frmE noFl at hf
   rw [if_neg (by rw [hk];decide),if_neg (by rw [hk];decide),if_neg (by rw [hk];decide),if_pos (.inr hk)] at hf
   simp only [Bool.and_eq_true,Bool.not_eq_true'] at hf
   unfold encW fb at he
   rw [hk,h,hf.1,hf.2.1,hf.2.2.1,hf.2.2.2] at he
   simp at he
   omega
 ·rw [decR_n he] at hk
  exact absurd hk (by decide)
def unlW (w:Nat) (ws:List Nat):List Nat:=ws.map fun x=>if x=w then 0 else x
def unl (w:Nat) (ns:NdL):NdL:=ns.map fun n=>(n.1,unlW w n.2)
@[simp] theorem unl_len {w:Nat} {ns:NdL}:(unl w ns).length=ns.length:=by simp [unl]
@[simp] theorem unlW_len {w:Nat} {ws:List Nat}:(unlW w ws).length=ws.length:=by simp [unlW]
theorem fnd_unl {w:Nat} {ns:NdL} {f:Int}:fnd (unl w ns) f=fnd ns f:=by
 unfold fnd unl
 rw [List.findIdx_map,List.length_map]
 rfl
theorem Mof_unl {w:Nat} {ns:NdL} {f:Int}:Mof (unl w ns) f=(Mof ns f).map (unlW w):=by
 unfold Mof
 rw [fnd_unl]
 cases fnd ns f with
 | none=>rfl
 | some i =>
  simp only [Option.map_some,unl,List.getD_eq_getElem?_getD,List.getElem?_map]
  cases ns[i]?<;>rfl
theorem unl_asc {w:Nat} {ns:NdL} (h:ascN ns):ascN (unl w ns):=by
 unfold ascN unl
 rw [List.pairwise_map]
 exact h
theorem unl_ok {w:Nat} {ns:NdL} (h:∀ x∈ns,ndOK x):∀ x∈unl w ns,ndOK x:=fun x hx=>by
 obtain ⟨y,hy,rfl⟩:=List.mem_map.1 hx
 refine ⟨by simp [(h y hy).1],fun z hz=>?_⟩
 obtain ⟨u,hu,rfl⟩:=List.mem_map.1 hz
 have:=(h y hy).2 u hu
 split
 ·decide
 ·exact this
theorem delK_ok {ns:NdL} {g:Int} (h:∀ x∈ns,ndOK x):∀ x∈delK ns g,ndOK x:=fun x hx=>h x (mem_delK.1 hx).1
theorem unl_one {M:Mm} {root:Int} (hV:VM WA M root) {d q:Nat} (hx:(d,q)∈Pos) (hd:d<2) {f:Int} (hf:frP WA M root d q=some f) {i:Nat} (hi:i<8) {g:Int} (h0:tabW (wM M f i)=some g) {h:Int} {us:List Nat} (hm:M h=some us) :
  unlW (g.toNat*256+4) us=if h=f then us.set i 0 else us:=by
 obtain ⟨g0,g1,gw⟩:=tabW_inv h0
 obtain ⟨d',q',hx',hf'⟩:=hV.all h us hm
 obtain ⟨us',hm',h8,hok⟩:=hV.nd d' q' hx' h hf'
 rw [hm] at hm'
 simp only [oJ] at hm'
 subst hm'
 have hgP:frP WA M root (d+1) (q*8+i)=some g:=by
  simp only [frP]
  rw [show (q*8+i)/8=q by omega,show (q*8+i)%8=i by omega,hf]
  exact h0
 have key:∀ j,j<8→us.getD j 0=g.toNat*256+4→h=f∧j=i:=fun j hj e=>by
  have hj':=hok j hj
  have htw:tabW (us.getD j 0)=some g:=by
   rw [e,tabW_tw (g:=g.toNat) (by omega),Int.toNat_of_nonneg g0]
  have hd':d'≤2:=by have:=mem_Pos.1 hx';simp only at this;omega
  by_cases e2:d'=2
  ·subst e2
   have:=(WD_ok fun _=>true).flat _ hj'
   rw [show (WD fun _=>true).tab=tabW from rfl,htw] at this
   simp at this
  ·have hgP':frP WA M root (d'+1) (q'*8+j)=some g:=by
    simp only [frP]
    rw [show (q'*8+j)/8=q' by omega,show (q'*8+j)%8=j by omega,hf']
    show tabW (wM M h j)=some g
    unfold wM
    rw [hm];exact htw
   have hin:=hV.inj _ _ _ _ (Pos_dn hx' (by omega) hj) (Pos_dn hx hd hi) g hgP' hgP
   have e3:d'=d:=by omega
   have e4:q'=q:=by omega
   subst e3 e4
   rw [hf] at hf'
   simp only [oJ] at hf'
   exact ⟨hf'.symm,by omega⟩
 refine List.ext_getElem (by split<;>simp) fun j h1 h2=>?_
 have hj:j<8:=by simp at h1;omega
 have hg:us.getD j 0=us[j]'(by simpa using h1):=by rw [List.getD_eq_getElem?_getD,List.getElem?_eq_getElem (by simpa using h1)];rfl
 have k:=key j hj
 rw [hg] at k
 simp only [unlW,List.getElem_map]
 by_cases e:us[j]'(by simpa using h1)=g.toNat*256+4
 ·obtain ⟨rfl,rfl⟩:=k e
  rw [if_pos e]
  simp
 ·rw [if_neg e]
  by_cases e2:h=f
  ·subst e2
   simp only [if_true]
   rw [List.getElem_set]
   split
   ·rename_i e3
    subst e3
    exfalso
    apply e
    unfold wM at gw
    rw [hm] at gw
    simp only at gw
    rw [← hg]
    exact gw
   ·rfl
  ·simp only [if_neg e2]
theorem Mof_kp {ns:NdL} (ha:ascN ns) {fr:List Int} (x:Int):Mof (kpF fr ns) x=if x∈fr then none else Mof ns x:=by
 have hk:ascN (kpF fr ns):=List.Pairwise.filter _ ha
 split
 ·rename_i h
  refine (Mof_none hk).2 fun n hn e=>?_
  have:=(List.mem_filter.1 hn).2
  unfold inF at this
  rw [e] at this
  simp [h] at this
 ·rename_i h
  cases hm:Mof ns x with
  | none=>exact (Mof_none hk).2 fun n hn=>(Mof_none ha).1 hm n (List.mem_filter.1 hn).1
  | some us =>
   refine (mMo hk).1 (List.mem_filter.2 ⟨(mMo ha).2 hm,?_⟩)
   unfold inF
   simp [h]
theorem kpF_asc {ns:NdL} (ha:ascN ns) {fr:List Int}:ascN (kpF fr ns):=List.Pairwise.filter _ ha
theorem zs_leaf {M:Mm} {g:Int} (h:M g=some zs8):∀ j,j<8→tabW (wM M g j)=none:=fun j _=>by
 have:wM M g j=0:=by unfold wM;rw [h];exact zs8_getD j
 rw [this];exact tab0
theorem round {r:Int} {ns:NdL} {ds:List Dp} (h:Pv (r,ns,ds)) (ht:tbOK (r,ns,ds)) {p:Nat} (hp:p<512) {g:Int} {l w:Nat} (hw:wlk (Mof ns) r p=(g,l,w)) (hl:l<2) (hlf:∀ j,j<8→tabW (wM (Mof ns) g j)=none) :
  ∃ f k,frP WA (Mof ns) r (1 - l) (p/8^(l+2))=some f∧tabW (wM (Mof ns) f (dgt p (l+1)))=some g∧fnd ns f=some k∧f≠g∧0≤g∧g≤4294967295 ∧
   Mof (unl (g.toNat*256+4) (delK ns g))=updM1 (updW (Mof ns) f (dgt p (l+1)) 0) g none∧Pv (r,unl (g.toNat*256+4) (delK ns g),ds)∧tbOK (r,unl (g.toNat*256+4) (delK ns g),ds) ∧
   wlk (Mof (unl (g.toNat*256+4) (delK ns g))) r p=(f,l+1,0)∧unl (g.toNat*256+4) (delK ns g)=kpF [g] (setN ns k (dgt p (l+1)) 0):=by
 obtain ⟨a1,a2,a3,a4,a5,a6⟩:=wlk_at h.vm hp hw
 simp only at a3
 have hq:p/8^(l+1)=p/8^(l+2)*8+dgt p (l+1):=by
  unfold dgt
  rw [Nat.pow_succ 8 (l+1),← Nat.div_div_eq_div_mul]
  omega
 have hd8:=dgt_lt p (l+1)
 obtain ⟨f,hf,htb⟩:∃ f,frP WA (Mof ns) r (1 - l) (p/8^(l+2))=some f∧tabW (wM (Mof ns) f (dgt p (l+1)))=some g:=by
  rw [show 2 - l=(1 - l)+1 by omega,hq] at a3
  simp only [frP] at a3
  rw [show (p/8^(l+2)*8+dgt p (l+1))/8=p/8^(l+2) by omega,show (p/8^(l+2)*8+dgt p (l+1))%8=dgt p (l+1) by omega] at a3
  cases hc:frP WA (Mof ns) r (1 - l) (p/8^(l+2)) with
  | none=>rw [hc] at a3;simp at a3
  | some f=>rw [hc] at a3;exact ⟨f,rfl,a3⟩
 have hx:(1 - l,p/8^(l+2))∈Pos:=by
  have:=Pos_up (d:=1 - l) (q:=p/8^(l+1)) (by rw [show 1 - l+1=2 - l by omega];exact a2)
  rwa [hq,show (p/8^(l+2)*8+dgt p (l+1))/8=p/8^(l+2) by omega] at this
 obtain ⟨g0,g1,gw⟩:=tabW_inv htb
 have hpr:=h.vm.prune hx (by omega) hf hd8 (w:=0) htb hlf tab0 (ok0 (2 - (1 - l)))
 obtain ⟨us,hus,hu8,_⟩:=h.vm.nd _ _ hx f hf
 obtain ⟨k,hk,_⟩:=Mof_some.1 hus
 have hfg:f≠g:=fun e=>by
  have:=h.vm.inj _ _ _ _ hx a2 f hf (by rw [e];exact a3)
  omega
 have hM:Mof (unl (g.toNat*256+4) (delK ns g))=updM1 (updW (Mof ns) f (dgt p (l+1)) 0) g none:=by
  refine Mof_ext fun x=>?_
  rw [Mof_unl,Mof_del h.asc]
  unfold updM1 updW
  by_cases e:x=g
  ·simp [e]
  ·simp only [if_neg e]
   cases hm:Mof ns x with
   | none =>
    split
    ·rename_i e2;rw [e2,hus] at hm;simp at hm
    ·rfl
   | some vs =>
    simp only [Option.map_some]
    rw [unl_one h.vm hx (by omega) hf hd8 htb hm]
    by_cases e2:x=f
    ·subst e2;rw [hm];simp
    ·simp [e2]
 have hasc:ascN (unl (g.toNat*256+4) (delK ns g)):=unl_asc (delK_asc h.asc)
 have hsa:=setN_asc h.asc (i:=dgt p (l+1)) (w:=0) (fnd_lt hk)
 refine ⟨f,k,hf,htb,hk,hfg,g0,g1,hM,⟨hasc,?_⟩,⟨unl_ok (delK_ok ht.1),?_,ht.2.2⟩,?_,?_⟩
 ·show VM WA (Mof (unl _ _)) r
  rw [hM];exact hpr.1
 ·have h1:(delK ns g).length≤ns.length:=List.length_filter_le _ _
  have h2:=ht.2.1
  show (unl _ _).length≤_
  simp only [unl_len]
  simp only at h2
  omega
 ·have hfr:frP WA (Mof (unl (g.toNat*256+4) (delK ns g))) r (2 - (l+1)) (p/8^(l+1+1))=some f:=by
   rw [hM,show 2 - (l+1)=1 - l by omega,hpr.2 _ _ hx,if_neg (by omega)]
   exact hf
  have hwf:wM (Mof (unl (g.toNat*256+4) (delK ns g))) f (dgt p (l+1))=0:=by
   rw [hM,wM_updM1,if_neg hfg,wM_updW hus (by omega),if_pos ⟨rfl,rfl⟩]
  rw [wlk_of hp (by omega) hfr (.inl (by rw [hwf];exact tab0)),hwf]
 ·refine ext_asc hasc (kpF_asc hsa) fun x=>?_
  rw [hM,Mof_kp hsa,Mof_set h.asc hk]
  unfold updM1
  simp
theorem td_del {β:Type} {l:List (Int×β)} (ha:ascK l) {i:Nat} (hi:i<l.length):l.take i++l.drop (i+1)=delK l (l[i]).1:=by
 have hlt:∀ a∈l.take i,a.1≠(l[i]).1:=fun a ha'=>by
  obtain ⟨k,hk,rfl⟩:=List.getElem_of_mem ha'
  simp only [List.length_take] at hk
  rw [List.getElem_take]
  have:=List.pairwise_iff_getElem.1 ha k i (by omega) hi (by omega)
  omega
 have hgt:∀ a∈l.drop (i+1),a.1≠(l[i]).1:=fun a ha'=>by
  obtain ⟨k,hk,rfl⟩:=List.getElem_of_mem ha'
  simp only [List.length_drop] at hk
  rw [List.getElem_drop]
  have:=List.pairwise_iff_getElem.1 ha i (i+1+k) hi (by omega) (by omega)
  omega
 have e:delK l (l[i]).1=delK (l.take i++l[i]::l.drop (i+1)) (l[i]).1:=by rw [List.getElem_cons_drop,List.take_append_drop]
 rw [e]
 unfold delK
 rw [List.filter_append,List.filter_cons,if_neg (by simp),List.filter_eq_self.2 (fun a ha'=>by simpa using hlt a ha'),List.filter_eq_self.2 (fun a ha'=>by simpa using hgt a ha')]
theorem lowD_split {ds:List Dp} {g:Int} (h:lowD ds g<ds.length):ds=ds.take (lowD ds g)++gp ds (lowD ds g)::ds.drop (lowD ds g+1):=by
 rw [gp_eq h,List.getElem_cons_drop,List.take_append_drop]
theorem delL_eq {ds:List Dp} (ha:ascK ds) {g:Int} (h:lowD ds g<ds.length) (h2:(gp ds (lowD ds g)).1=g):delL ds g=delK ds g∧lastK (-1) g ds=(gp ds (lowD ds g)).2:=by
 have hm:gp ds (lowD ds g)∈ds:=by rw [gp_eq h];exact List.getElem_mem h
 constructor
 ·have:=td_del (l:=ds) ha h
  rw [← gp_eq h,h2] at this
  exact this
 ·refine lastK_at ha ?_
  obtain ⟨x,hx⟩:∃ x,x=gp ds (lowD ds g):=⟨_,rfl⟩
  rw [← hx] at h2 hm ⊢
  obtain ⟨x1,x2⟩:=x
  simp only at h2
  subst h2
  exact hm
def clrR (r:Int) (ds:List Dp) (p:Nat):Nat→NdL→NdL×List Int
 | 0,ns=>(ns,[])
 | k+1,ns=>if (gn ns (lsT (r,ns,ds) p).1).2=zs8 then
   ((clrR r ds p k (unl ((gn ns (lsT (r,ns,ds) p).1).1.toNat*256+4) (delK ns (gn ns (lsT (r,ns,ds) p).1).1))).1,(gn ns (lsT (r,ns,ds) p).1).1::(clrR r ds p k (unl ((gn ns (lsT (r,ns,ds) p).1).1.toNat*256+4) (delK ns (gn ns (lsT (r,ns,ds) p).1).1))).2)
  else (ns,[])
theorem end_nd {r:Int} {ns:NdL} {ds:List Dp} (h:Pv (r,ns,ds)) {p:Nat} (hp:p<512) {g:Int} {l w:Nat} (hw:wlk (Mof ns) r p=(g,l,w)):fnd ns g=some (lsT (r,ns,ds) p).1∧(lsT (r,ns,ds) p).2=(l,w)∧(gn ns (lsT (r,ns,ds) p).1).1=g∧Mof ns g=some (gn ns (lsT (r,ns,ds) p).1).2∧(lsT (r,ns,ds) p).1<ns.length:=by
 have h1:=h.walk hp
 simp only at h1
 rw [hw] at h1
 exact ⟨h1.2.1,h1.2.2,fFr h1.2.1,Mof_some.2 ⟨_,h1.2.1,rfl⟩,fnd_lt h1.2.1⟩
theorem path_f0 {r:Int} {ns:NdL} {ds:List Dp} (h:Pv (r,ns,ds)) {p:Nat} (hp:p<512) (hl:(lsT (r,ns,ds) p).2.1=0):∃ n2 w2 n1 w1 g1 g0,ptL (r,ns,ds) p=[(n2,2,w2),(n1,1,w1),lsT (r,ns,ds) p]∧fnd ns r=some n2∧fnd ns g1=some n1∧fnd ns g0=some (lsT (r,ns,ds) p).1 ∧
  frP WA (Mof ns) r 1 (p/64)=some g1∧frP WA (Mof ns) r 2 (p/8)=some g0:=by
 have hr:=h.root
 simp only at hr
 have d2:dgt p 2=p/64:=dgt2 hp
 have d1:dgt p 1=p/8%8:=dgt1
 have f1:frP WA (Mof ns) r 1 (p/64)=tabW (wd ns (rtN (r,ns,ds)) (p/64)):=by
  simp only [frP,Option.bind_some]
  rw [show p/64%8=p/64 by omega,wM_Mof hr]
  rfl
 have f2:frP WA (Mof ns) r 2 (p/8)=(frP WA (Mof ns) r 1 (p/64)).bind fun f=>tabW (wM (Mof ns) f (p/8%8)):=by
  show (frP WA (Mof ns) r 1 (p/8/8)).bind _=_
  rw [show p/8/8=p/64 by omega]
  rfl
 unfold lsT ptL at *
 simp only [lst,pth,d2,d1] at hl ⊢
 cases h2:kid WA ns (wd ns (rtN (r,ns,ds)) (p/64)) with
 | none=>rw [h2] at hl;simp at hl
 | some n1 =>
  rw [h2] at hl
  simp only at hl ⊢
  cases h1:kid WA ns (wd ns n1 (p/8%8)) with
  | none=>rw [h1] at hl;simp at hl
  | some n0 =>
   obtain ⟨g1,t1,hg1⟩:=kid_some.1 h2
   obtain ⟨g0,t0,hg0⟩:=kid_some.1 h1
   rw [show WA.tab=tabW from rfl] at t1 t0
   rw [t1] at f1
   rw [f1,Option.bind_some,wM_Mof hg1,t0] at f2
   exact ⟨_,_,n1,_,g1,g0,rfl,hr,hg1,hg0,f1,f2⟩
theorem clr_start {r:Int} {ns:NdL} {ds:List Dp} (h:Pv (r,ns,ds)) (ht:tbOK (r,ns,ds)) {p:Nat} (hp:p<512) {g:Int} {l w:Nat} (hw:wlk (Mof ns) r p=(g,l,w)) :
  let ns1:=setN ns (lsT (r,ns,ds) p).1 (dgt p l) 0
  Pv (r,ns1,ds)∧tbOK (r,ns1,ds)∧wlk (Mof ns1) r p=(g,l,0)∧(∀ d q,(d,q)∈Pos→frP WA (Mof ns1) r d q=frP WA (Mof ns) r d q):=by
 obtain ⟨a1,a2,a3,a4,a5,a6⟩:=wlk_at h.vm hp hw
 obtain ⟨e1,e2,_⟩:=end_nd h hp hw
 obtain ⟨b1,b2,b3,b4,b5⟩:=h.put ht hp hw (w:=0) (by omega) tab0 (ok0 _)
 have hst:(putT (r,ns,ds) p 0).2.1=setN ns (lsT (r,ns,ds) p).1 (dgt p l) 0:=by unfold putT;simp only [e2]
 rw [hst] at b1 b2 b3 b4
 exact ⟨b1,b2,wlk_put_self h.vm hp hw tab0 b3 b4,b4⟩
theorem clr_0 {r:Int} {ns:NdL} {ds:List Dp} (h:Pv (r,ns,ds)) (ht:tbOK (r,ns,ds)) {p:Nat} (hp:p<512) (hl:(lsT (r,ns,ds) p).2.1=0) :
  (clrR r ds p 2 (setN ns (lsT (r,ns,ds) p).1 (dgt p 0) 0)).1=kpF (clrL p ns (ptL (r,ns,ds) p).reverse).2 (clrL p ns (ptL (r,ns,ds) p).reverse).1∧(clrR r ds p 2 (setN ns (lsT (r,ns,ds) p).1 (dgt p 0) 0)).2=(clrL p ns (ptL (r,ns,ds) p).reverse).2:=by
 obtain ⟨g,l,w,hw⟩:∃ f l w,wlk (Mof ns) r p=(f,l,w):=⟨_,_,_,rfl⟩
 obtain ⟨e1,e2,e3,e4,e5⟩:=end_nd h hp hw
 obtain rfl:l=0:=by rw [e2] at hl;exact hl
 obtain ⟨n2,w2,n1,w1,g1,g0,hpt,q2,q1,q0,f1,f0⟩:=path_f0 h hp hl
 obtain rfl:g0=g:=by
  have k1:=fFr q0
  have k2:=fFr e1
  rw [← k1,k2]
 obtain ⟨b1,b2,b3,b4⟩:=clr_start h ht hp hw
 obtain ⟨ns1,hns1⟩:∃ x,x=setN ns (lsT (r,ns,ds) p).1 (dgt p 0) 0:=⟨_,rfl⟩
 rw [← hns1] at b1 b2 b3 b4
 obtain ⟨a1,a2,a3,a4,a5⟩:=end_nd b1 hp b3
 have hfnd:∀ x,fnd ns1 x=fnd ns x:=fun x=>by rw [hns1];exact fnd_set e5 x
 have hpos:(lsT (r,ns1,ds) p).1=(lsT (r,ns,ds) p).1:=by
  rw [hfnd,e1] at a1
  simpa using a1.symm
 rw [hpos] at a3 a4 a5
 rw [hpt]
 simp only [List.reverse_cons,List.reverse_nil,List.nil_append,List.cons_append]
 have hs:(lsT (r,ns,ds) p).2.1=0:=hl
 unfold clrR
 rw [← hns1,hpos,a3]
 simp only [clrL,hs,← hns1]
 by_cases hz:(gn ns1 (lsT (r,ns,ds) p).1).2=zs8
 ·rw [if_pos hz,if_pos hz]
  obtain ⟨f,k,c1,c2,c3,c4,c5,c6,c7,c8,c9,c10,c11⟩:=round b1 b2 hp b3 (by omega) (zs_leaf (by rw [a4,hz]))
  have hfg:f=g1:=by
   have hx1:(1,p/64)∈Pos:=Pos1 (by omega)
   rw [show 1 - 0=1 from rfl,show p/8^(0+2)=p/64 by simp,b4 _ _ hx1,f1] at c1
   simpa using c1.symm
  subst hfg
  have hk:k=n1:=by
   rw [hfnd,q1] at c3
   simpa using c3.symm
  subst hk
  simp only [Nat.zero_add] at c2 c7 c10 c11
  obtain ⟨d1,d2,d3,d4,d5⟩:=end_nd c8 hp c10
  have hg0:(gn ns (lsT (r,ns,ds) p).1).1=g0:=e3
  obtain ⟨nsB,hnsB⟩:∃ x,x=unl (g0.toNat*256+4) (delK ns1 g0):=⟨_,rfl⟩
  rw [← hnsB] at c7 c8 c9 c10 c11 d1 d2 d3 d4 d5 ⊢
  obtain ⟨ns2,hns2⟩:∃ x,x=setN ns1 k (dgt p 1) 0:=⟨_,rfl⟩
  rw [← hns2] at c11 ⊢
  have hkl:k<ns1.length:=fnd_lt c3
  have hasc2:ascN ns2:=by rw [hns2];exact setN_asc b1.asc hkl
  have hfk2:fnd ns2 f=some k:=by rw [hns2,fnd_set hkl];exact c3
  have hmid:(gn nsB (lsT (r,nsB,ds) p).1).2=(gn ns2 k).2:=by
   have h1:Mof nsB f=some (gn ns2 k).2:=by
    rw [c11,Mof_kp hasc2,if_neg (by simpa using c4)]
    exact Mof_some.2 ⟨k,hfk2,rfl⟩
   rw [d4] at h1
   simpa using h1
  unfold clrR
  rw [d3,hmid,hg0]
  by_cases hz2:(gn ns2 k).2=zs8
  ·rw [if_pos hz2,if_pos hz2]
   have hzB:Mof nsB f=some zs8:=by rw [d4,hmid,hz2]
   obtain ⟨f',k',i1,i2,i3,i4,i5,i6,i7,i8,i9,i10,i11⟩:=round c8 c9 hp c10 (by omega) (zs_leaf hzB)
   have hfr:f'=r:=by
    rw [show 1 - 1=0 from rfl] at i1
    simp only [frP,oJ] at i1
    exact i1.symm
   subst hfr
   simp only [clrR]
   have hfk:(gn ns1 k).1=f:=fFr c3
   rw [hfk]
   refine ⟨?_,rfl⟩
   have hk2:n2<ns2.length:=by rw [hns2,sNl,hns1,sNl];exact fnd_lt q2
   have hasc3:ascN (setN ns2 n2 (dgt p 2) 0):=setN_asc hasc2 hk2
   have hr2:fnd ns2 f'=some n2:=by rw [hns2,fnd_set hkl,hfnd];exact q2
   have hg0r:g0≠f':=by
    intro e
    have:=h.vm.inj _ _ _ _ (Pos2 (q:=p/8) (by omega)) Pos0 g0 f0 (by rw [e];rfl)
    omega
   refine ext_asc i8.asc (kpF_asc hasc3) fun x=>?_
   rw [i7,Mof_kp hasc3,Mof_set hasc2 hr2]
   unfold updM1
   rw [show Mof nsB=fun x=>if x∈[g0] then none else Mof ns2 x from Mof_ext fun x=>by rw [c11,Mof_kp hasc2]]
   unfold updW
   by_cases x1:x=f
   ·simp [x1]
   ·by_cases x2:x=f'
    ·subst x2
     have:¬ x=g0:=fun e=>hg0r e.symm
     simp [x1,this]
    ·simp [x1,x2]
  ·rw [if_neg hz2,if_neg hz2]
   exact ⟨c11,rfl⟩
 ·rw [if_neg hz,if_neg hz]
  exact ⟨kpF_nil.symm,rfl⟩
@[simp] theorem tyE8:Types prog 237=some ⟨.array 8 103,48,192,[.int .i64 0,.int .i64 0,.bool false,.bool false,.bool false,.bool false,.int .i64 0,.int .i64 0,.bool false,.bool false,.bool false,.bool false,.int .i64 0,.int .i64 0,.bool false,.bool false,.bool false,.bool false,.int .i64 0,.int .i64 0,.bool false,.bool false,.bool false,.bool false,.int .i64 0,.int .i64 0,.bool false,.bool false,.bool false,.bool false,.int .i64 0,.int .i64 0,.bool false,.bool false,.bool false,.bool false,.int .i64 0,.int .i64 0,.bool false,.bool false,.bool false,.bool false,.int .i64 0,.int .i64 0,.bool false,.bool false,.bool false,.bool false]⟩:=by kernel_rfl
def chain:List (Bool×Int)→Int
 | []=>0
 | (b,c)::r=>if b=true then chain r else c
theorem chain_0:∀ {l:List (Bool×Int)},(∀ p∈l,p.1=false→p.2≠0)→chain l=0→∀ p∈l,p.1=true
 | [],_,_,p,hp=>by simp at hp
 | (b,c)::r,h,h0,p,hp=>by
  cases b with
  | false =>
   simp only [chain,Bool.false_eq_true,if_false] at h0
   exact absurd h0 (h (false,c) (by simp) rfl)
  | true =>
   simp only [chain,if_true] at h0
   rcases List.mem_cons.1 hp with rfl|hp
   ·rfl
   ·exact chain_0 (fun q hq=>h q (by simp [hq])) h0 p hp
def joinC (e0 e1 e2 e3 e4 e5 e6 e7:En×Int):List (Bool×Int):=[(decide (e0.2=0),e0.2),(decide (e1.2=0),e1.2),(decide (e2.2=0),e2.2),(decide (e3.2=0),e3.2),(decide (e4.2=0),e4.2),(decide (e5.2=0),e5.2),(decide (e6.2=0),e6.2),(decide (e7.2=0),e7.2),(decide (e0.1.1=1)&&!e0.1.2.2.2.2.2,11),(decide (e1.1.1=1)&&!e1.1.2.2.2.2.2,11),(decide (e2.1.1=1)&&!e2.1.2.2.2.2.2,11),(decide (e3.1.1=1)&&!e3.1.2.2.2.2.2,11),(decide (e4.1.1=1)&&!e4.1.2.2.2.2.2,11),(decide (e5.1.1=1)&&!e5.1.2.2.2.2.2,11),(decide (e6.1.1=1)&&!e6.1.2.2.2.2.2,11),(decide (e7.1.1=1)&&!e7.1.2.2.2.2.2,11),(decide (e0.1.2.1=e0.1.2.1+0),10),(decide (e1.1.2.1=e0.1.2.1+1),10),(decide (e2.1.2.1=e0.1.2.1+2),10),(decide (e3.1.2.1=e0.1.2.1+3),10),(decide (e4.1.2.1=e0.1.2.1+4),10),(decide (e5.1.2.1=e0.1.2.1+5),10),(decide (e6.1.2.1=e0.1.2.1+6),10),(decide (e7.1.2.1=e0.1.2.1+7),10),(e0.1.2.2.1 == e0.1.2.2.1,12),(e1.1.2.2.1 == e0.1.2.2.1,12),(e2.1.2.2.1 == e0.1.2.2.1,12),(e3.1.2.2.1 == e0.1.2.2.1,12),(e4.1.2.2.1 == e0.1.2.2.1,12),(e5.1.2.2.1 == e0.1.2.2.1,12),(e6.1.2.2.1 == e0.1.2.2.1,12),(e7.1.2.2.1 == e0.1.2.2.1,12)]
noncomputable def joinL (e0 e1 e2 e3 e4 e5 e6 e7:En×Int):Int×Int:=if chain (joinC e0 e1 e2 e3 e4 e5 e6 e7)=0 then encR (e0.1.1,e0.1.2.1,e0.1.2.2.1,((((((((e0.1.2.2.2.1||e0.1.2.2.2.1)||e1.1.2.2.2.1)||e2.1.2.2.2.1)||e3.1.2.2.2.1)||e4.1.2.2.2.1)||e5.1.2.2.2.1)||e6.1.2.2.2.1)||e7.1.2.2.2.1),((((((((e0.1.2.2.2.2.1||e0.1.2.2.2.2.1)||e1.1.2.2.2.2.1)||e2.1.2.2.2.2.1)||e3.1.2.2.2.2.1)||e4.1.2.2.2.2.1)||e5.1.2.2.2.2.1)||e6.1.2.2.2.2.1)||e7.1.2.2.2.2.1),true) else (0,chain (joinC e0 e1 e2 e3 e4 e5 e6 e7))
noncomputable def joinR (ws:List Nat):Int×Int:=joinL (decR (ws.getD 0 0)) (decR (ws.getD 1 0)) (decR (ws.getD 2 0)) (decR (ws.getD 3 0)) (decR (ws.getD 4 0)) (decR (ws.getD 5 0)) (decR (ws.getD 6 0)) (decR (ws.getD 7 0))
def accL (a:Bool) (l:List Bool):Nat→Bool
 | 0=>a
 | i+1=>accL a l i||l.getD i false
theorem list8 {l:List Nat} (h:l.length=8):∃ a b c d e f g i,l=[a,b,c,d,e,f,g,i]:=by
 match l,h with
 | [a,b,c,d,e,f,g,i],_=>exact ⟨a,b,c,d,e,f,g,i,rfl⟩
set_option maxHeartbeats 64000000 in
set_option maxRecDepth 20000 in
theorem s152 (X:AX) (hX:XOK prog X) (hw:X.W wT) (hdc:∀ n:Nat,n<2^64→∀ M k,X.call 56 [U n] M k=some (.tup [EnV (decR n).1,I (decR n).2],[]))
  (hen:∀ k f d a x h M n,X.call 143 [.agg [I k,I f,B d,B a,B x,B h]] M n=some (.tup [U (encR (k,f,d,a,x,h)).1,I (encR (k,f,d,a,x,h)).2],[])) :
  PSd prog 152 (spF (ι:={ws:List Nat // ws.length=8∧∀ w∈ws,w<2^64}) (fun x=>[.agg (wcs x.1)]) fun x=>rtO [U (joinR x.1).1,I (joinR x.1).2]):=by
 refine psS hX mixed func152 rfl fun ⟨ws,h8,hw64⟩ w0 G=>⟨by show 1≤89;decide,rfl,?_⟩
 show AW ⟨prog,X,89,w0,.pure G⟩ _ _ _
 have hc:=okc hX 89 w0 G
 obtain ⟨w0,w1,w2,w3,w4,w5,w6,w7,rfl⟩:=list8 h8
 unfold joinR
 simp only [List.getD_cons_zero,List.getD_cons_succ,wcs,List.map_cons,List.map_nil]
 have hd0:=hdc w0 (hw64 _ (by simp))
 have hr0:=decR_rng w0
 obtain ⟨⟨⟨k0,f0,d0,a0,x0,h0⟩,c0⟩,hE0⟩:∃ r,r=decR w0:=⟨_,rfl⟩
 rw [← hE0] at hd0 hr0 ⊢
 simp only at hr0
 have hd1:=hdc w1 (hw64 _ (by simp))
 have hr1:=decR_rng w1
 obtain ⟨⟨⟨k1,f1,d1,a1,x1,h1⟩,c1⟩,hE1⟩:∃ r,r=decR w1:=⟨_,rfl⟩
 rw [← hE1] at hd1 hr1 ⊢
 simp only at hr1
 have hd2:=hdc w2 (hw64 _ (by simp))
 have hr2:=decR_rng w2
 obtain ⟨⟨⟨k2,f2,d2,a2,x2,h2⟩,c2⟩,hE2⟩:∃ r,r=decR w2:=⟨_,rfl⟩
 rw [← hE2] at hd2 hr2 ⊢
 simp only at hr2
 have hd3:=hdc w3 (hw64 _ (by simp))
 have hr3:=decR_rng w3
 obtain ⟨⟨⟨k3,f3,d3,a3,x3,h3⟩,c3⟩,hE3⟩:∃ r,r=decR w3:=⟨_,rfl⟩
 rw [← hE3] at hd3 hr3 ⊢
 simp only at hr3
 have hd4:=hdc w4 (hw64 _ (by simp))
 have hr4:=decR_rng w4
 obtain ⟨⟨⟨k4,f4,d4,a4,x4,h4⟩,c4⟩,hE4⟩:∃ r,r=decR w4:=⟨_,rfl⟩
 rw [← hE4] at hd4 hr4 ⊢
 simp only at hr4
 have hd5:=hdc w5 (hw64 _ (by simp))
 have hr5:=decR_rng w5
 obtain ⟨⟨⟨k5,f5,d5,a5,x5,h5⟩,c5⟩,hE5⟩:∃ r,r=decR w5:=⟨_,rfl⟩
 rw [← hE5] at hd5 hr5 ⊢
 simp only at hr5
 have hd6:=hdc w6 (hw64 _ (by simp))
 have hr6:=decR_rng w6
 obtain ⟨⟨⟨k6,f6,d6,a6,x6,h6⟩,c6⟩,hE6⟩:∃ r,r=decR w6:=⟨_,rfl⟩
 rw [← hE6] at hd6 hr6 ⊢
 simp only at hr6
 have hd7:=hdc w7 (hw64 _ (by simp))
 have hr7:=decR_rng w7
 obtain ⟨⟨⟨k7,f7,d7,a7,x7,h7⟩,c7⟩,hE7⟩:∃ r,r=decR w7:=⟨_,rfl⟩
 rw [← hE7] at hd7 hr7 ⊢
 simp only at hr7
 clear hw64 hdc h8 hE0 hE1 hE2 hE3 hE4 hE5 hE6 hE7
 simp only [EnV,U] at hen hd0 hd1 hd2 hd3 hd4 hd5 hd6 hd7 ⊢
 have zS:=jj hd0<|jj hd1<|jj hd2<|jj hd3<|jj hd4<|jj hd5<|jj hd6<|jj hd7<|hen
 repeat' (first|(refine aSk fun K hK=>?_)|(refine eF64 ?_)|(refine eC (fun h=>?_) (fun h=>?_)<;>(try simp at h))|(refine hK _ ?_;clear hK)|(clear hK;refine hK _ ?_;clear hK))
 all_goals clear zS
 refine aRs_ 9 (aRd ?_)
 have zS:=jj hd0<|jj hd1<|jj hd2<|jj hd3<|jj hd4<|jj hd5<|jj hd6<|jj hd7<|hen
 repeat' (first|(refine aSk fun K hK=>?_)|(refine eF64 ?_)|(refine eC (fun h=>?_) (fun h=>?_)<;>(try simp at h))|(refine hK _ ?_;clear hK)|(clear hK;refine hK _ ?_;clear hK))
 all_goals clear zS
 all_goals try (refine ⟨by simp,?_⟩;clear hen hd0 hd1 hd2 hd3 hd4 hd5 hd6 hd7 hX hw hc;simp [lvI,f152,joinL,joinC,chain, *];done)
 refine aRs_ 9 (aRd ?_)
 repeat' (first|(apply aSk;intro K hK)|(refine aw_run hc (by exact aw_nod) ?_;simp [List.zipIdx,hd0,hd1,hd2,hd3,hd4,hd5,hd6,hd7,hen,-getM,gMh,gMm,gMn];(repeat (simp (disch:=first|omega|assumption|fail) only [if_pos,if_neg,w64_];try simp [List.zipIdx,hd0,hd1,hd2,hd3,hd4,hd5,hd6,hd7,hen,-getM,gMh,gMm,gMn]));try (repeat' (refine gQs (fun h=>?_) (fun h=>?_)<;>simp at h<;>(simp [List.zipIdx,hd0,hd1,hd2,hd3,hd4,hd5,hd6,hd7,hen,-getM,gMh,gMm,gMn];(repeat (simp (disch:=first|omega|assumption|fail) only [if_pos,if_neg,w64_];try simp [List.zipIdx,hd0,hd1,hd2,hd3,hd4,hd5,hd6,hd7,hen,-getM,gMh,gMm,gMn]))))))|(refine aw_runFt hc ?_;simp [List.zipIdx,hd0,hd1,hd2,hd3,hd4,hd5,hd6,hd7,hen,-getM,gMh,gMm,gMn];(repeat (simp (disch:=first|omega|assumption|fail) only [if_pos,if_neg,w64_];try simp [List.zipIdx,hd0,hd1,hd2,hd3,hd4,hd5,hd6,hd7,hen,-getM,gMh,gMm,gMn]));refine ⟨by kernel_rfl,?_⟩)|(refine aw_run hc (by first|(intro _;rw [ordB_w hw];kernel_rfl)|(intro _;rw [ordB_w0 hw0];kernel_rfl)|(intro _;kernel_rfl)) ?_;simp [List.zipIdx,hd0,hd1,hd2,hd3,hd4,hd5,hd6,hd7,hen,-getM,gMh,gMm,gMn];(repeat (simp (disch:=first|omega|assumption|fail) only [if_pos,if_neg,w64_];try simp [List.zipIdx,hd0,hd1,hd2,hd3,hd4,hd5,hd6,hd7,hen,-getM,gMh,gMm,gMn]));try (repeat' (refine gQs (fun h=>?_) (fun h=>?_)<;>simp at h<;>(simp [List.zipIdx,hd0,hd1,hd2,hd3,hd4,hd5,hd6,hd7,hen,-getM,gMh,gMm,gMn];(repeat (simp (disch:=first|omega|assumption|fail) only [if_pos,if_neg,w64_];try simp [List.zipIdx,hd0,hd1,hd2,hd3,hd4,hd5,hd6,hd7,hen,-getM,gMh,gMm,gMn]))))))|(refine eC (fun h=>?_) (fun h=>?_)<;>(try simp at h))|(refine aBl ?_)|(refine aw_skip ?_;simp only [thenQ,bkQ,if_true])|(refine aw_exit ?_;simp [thenQ,bkQ])|(refine aw_ret ?_;simp only [thenQ,bkQ])|(refine aRd ?_)|(refine hK _ ?_;clear hK)|(clear hK;refine hK _ ?_;clear hK)|(clear hK;clear hK;refine hK _ ?_;clear hK)|(clear hK;clear hK;clear hK;refine hK _ ?_;clear hK))
 all_goals try (refine ⟨by simp,?_⟩;clear hen hd0 hd1 hd2 hd3 hd4 hd5 hd6 hd7 hX hw hc;simp [lvI,f152,joinL,joinC,chain, *];done)
 refine aRs_ 9 (aRd ?_)
 repeat' (first|(apply aSk;intro K hK)|(refine aw_run hc (by exact aw_nod) ?_;simp [List.zipIdx,hd0,hd1,hd2,hd3,hd4,hd5,hd6,hd7,hen,-getM,gMh,gMm,gMn];(repeat (simp (disch:=first|omega|assumption|fail) only [if_pos,if_neg,w64_];try simp [List.zipIdx,hd0,hd1,hd2,hd3,hd4,hd5,hd6,hd7,hen,-getM,gMh,gMm,gMn]));try (repeat' (refine gQs (fun h=>?_) (fun h=>?_)<;>simp at h<;>(simp [List.zipIdx,hd0,hd1,hd2,hd3,hd4,hd5,hd6,hd7,hen,-getM,gMh,gMm,gMn];(repeat (simp (disch:=first|omega|assumption|fail) only [if_pos,if_neg,w64_];try simp [List.zipIdx,hd0,hd1,hd2,hd3,hd4,hd5,hd6,hd7,hen,-getM,gMh,gMm,gMn]))))))|(refine aw_runFt hc ?_;simp [List.zipIdx,hd0,hd1,hd2,hd3,hd4,hd5,hd6,hd7,hen,-getM,gMh,gMm,gMn];(repeat (simp (disch:=first|omega|assumption|fail) only [if_pos,if_neg,w64_];try simp [List.zipIdx,hd0,hd1,hd2,hd3,hd4,hd5,hd6,hd7,hen,-getM,gMh,gMm,gMn]));refine ⟨by kernel_rfl,?_⟩)|(refine aw_run hc (by first|(intro _;rw [ordB_w hw];kernel_rfl)|(intro _;rw [ordB_w0 hw0];kernel_rfl)|(intro _;kernel_rfl)) ?_;simp [List.zipIdx,hd0,hd1,hd2,hd3,hd4,hd5,hd6,hd7,hen,-getM,gMh,gMm,gMn];(repeat (simp (disch:=first|omega|assumption|fail) only [if_pos,if_neg,w64_];try simp [List.zipIdx,hd0,hd1,hd2,hd3,hd4,hd5,hd6,hd7,hen,-getM,gMh,gMm,gMn]));try (repeat' (refine gQs (fun h=>?_) (fun h=>?_)<;>simp at h<;>(simp [List.zipIdx,hd0,hd1,hd2,hd3,hd4,hd5,hd6,hd7,hen,-getM,gMh,gMm,gMn];(repeat (simp (disch:=first|omega|assumption|fail) only [if_pos,if_neg,w64_];try simp [List.zipIdx,hd0,hd1,hd2,hd3,hd4,hd5,hd6,hd7,hen,-getM,gMh,gMm,gMn]))))))|(refine eC (fun h=>?_) (fun h=>?_)<;>(try simp at h))|(refine aBl ?_)|(refine aw_skip ?_;simp only [thenQ,bkQ,if_true])|(refine aw_exit ?_;simp [thenQ,bkQ])|(refine aw_ret ?_;simp only [thenQ,bkQ])|(refine aRd ?_)|(refine hK _ ?_;clear hK)|(clear hK;refine hK _ ?_;clear hK)|(clear hK;clear hK;refine hK _ ?_;clear hK)|(clear hK;clear hK;clear hK;refine hK _ ?_;clear hK))
 all_goals try (refine ⟨by simp,?_⟩;clear hen hd0 hd1 hd2 hd3 hd4 hd5 hd6 hd7 hX hw hc;simp [lvI,f152,joinL,joinC,chain, *];done)
 refine aLK (s0:=?lps1) (m0:=?lpm1) (ι:={i:Nat // i≤8∧∀ j,j<i→[d0,d1,d2,d3,d4,d5,d6,d7].getD j false=d0}) [12,60] (fun s=>[(61,I s.1)]) (fun s=>[(6624,.box [I k0,I f0,B d0,B (accL a0 [a0,a1,a2,a3,a4,a5,a6,a7] s.1),B (accL x0 [x0,x1,x2,x3,x4,x5,x6,x7] s.1),B h0])]) (fun s=>8 - s.1) ⟨0,by simp,by simp⟩ ?lhs1 ?lhm1 ?_ ?_
 case lhs1=>first|(simp [kpS];done)|(simp [kpS];rfl)
 case lhm1=>first|rfl|(simp;done)|(simp;rfl)
 ·simp only [accL]
  exact dle
 ·rintro ⟨i,hi,hD⟩
  simp only at hi hD ⊢
  have q1:1<i→d1=d0:=fun h=>hD 1 h
  have q2:2<i→d2=d0:=fun h=>hD 2 h
  have q3:3<i→d3=d0:=fun h=>hD 3 h
  have q4:4<i→d4=d0:=fun h=>hD 4 h
  have q5:5<i→d5=d0:=fun h=>hD 5 h
  have q6:6<i→d6=d0:=fun h=>hD 6 h
  have q7:7<i→d7=d0:=fun h=>hD 7 h
  rcases dE (i<8) with hil|hil
  ·obtain ⟨j,hj⟩:∃ j,j=i+1:=⟨_,rfl⟩
   have hAn:accL a0 [a0,a1,a2,a3,a4,a5,a6,a7] j=(accL a0 [a0,a1,a2,a3,a4,a5,a6,a7] i||[a0,a1,a2,a3,a4,a5,a6,a7].getD i false):=by rw [hj];rfl
   have hXn:accL x0 [x0,x1,x2,x3,x4,x5,x6,x7] j=(accL x0 [x0,x1,x2,x3,x4,x5,x6,x7] i||[x0,x1,x2,x3,x4,x5,x6,x7].getD i false):=by rw [hj];rfl
   have hD2:[d0,d1,d2,d3,d4,d5,d6,d7].getD i false=d0→∀ k,k<j→[d0,d1,d2,d3,d4,d5,d6,d7].getD k false=d0:=fun h k hk=>by
    rcases (by omega:k<i∨k=i) with h1|rfl
    ·exact hD k h1
    ·exact h
   obtain ⟨A,hA⟩:∃ A,A=accL a0 [a0,a1,a2,a3,a4,a5,a6,a7] i:=⟨_,rfl⟩
   obtain ⟨Y,hY⟩:∃ Y,Y=accL x0 [x0,x1,x2,x3,x4,x5,x6,x7] i:=⟨_,rfl⟩
   rw [← hA] at hAn ⊢
   rw [← hY] at hXn ⊢
   obtain ⟨A2,hA2⟩:∃ A,A=accL a0 [a0,a1,a2,a3,a4,a5,a6,a7] j:=⟨_,rfl⟩
   obtain ⟨Y2,hY2⟩:∃ Y,Y=accL x0 [x0,x1,x2,x3,x4,x5,x6,x7] j:=⟨_,rfl⟩
   rw [← hA2] at hAn
   rw [← hY2] at hXn
   clear hA hY hD
   rcases (by omega:i=0∨i=1∨i=2∨i=3∨i=4∨i=5∨i=6∨i=7) with rfl|rfl|rfl|rfl|rfl|rfl|rfl|rfl
   all_goals
    simp only [List.getD_cons_zero,List.getD_cons_succ] at hAn hXn
    cases A<;>cases Y<;>simp only [Bool.true_or,Bool.false_or] at hAn hXn
   all_goals
    have zS:=jj hd0<|jj hd1<|jj hd2<|jj hd3<|jj hd4<|jj hd5<|jj hd6<|jj hd7<|hen
    repeat' (first|(refine aSk fun K hK=>?_)|(refine eF64 ?_)|(refine eC (fun h=>?_) (fun h=>?_)<;>(try simp at h))|(refine hK _ ?_;clear hK)|clear hK)
    all_goals clear zS
   all_goals first
    | (refine ⟨by simp,?_⟩;clear hen hd0 hd1 hd2 hd3 hd4 hd5 hd6 hd7 hX hw hc;simp [lvI,f152,joinL,joinC,chain, *];done)
    | (refine ⟨j,?_,⟨by omega,hD2 (by first|rfl|assumption)⟩,by omega⟩;simp only [← hA2,← hY2,hAn,hXn];subst hj;exact dle)
  ·obtain rfl:i=8:=by omega
   have zS:=jj hd0<|jj hd1<|jj hd2<|jj hd3<|jj hd4<|jj hd5<|jj hd6<|jj hd7<|hen
   repeat' (first|(refine aSk fun K hK=>?_)|(refine eF64 ?_)|(refine eC (fun h=>?_) (fun h=>?_)<;>(try simp at h))|(refine hK _ ?_;clear hK)|clear hK)
   all_goals clear zS
   all_goals (refine ⟨by simp,?_⟩;clear hen hd0 hd1 hd2 hd3 hd4 hd5 hd6 hd7 hX hw hc;simp [lvI,f152,joinL,joinC,chain,accL, *];done)
theorem gn_setN {S:NdL} {i j w k:Nat} (hi:i<S.length):gn (setN S i j w) k=if k=i then ((gn S i).1,(gn S i).2.set j w) else gn S k:=by
 by_cases e:k=i
 ·subst e
  rw [if_pos rfl,gn_eq (by rw [sNl];exact hi)]
  unfold setN
  rw [List.getElem_set_self];rfl
 ·rw [if_neg e]
  unfold gn setN
  rw [List.getD_eq_getElem?_getD,List.getElem?_set_ne (by omega),List.getD_eq_getElem?_getD]
theorem lowD_lt {ds:List Dp} {g:Int} {k:Nat} (h:k<lowD ds g):¬ g≤(gp ds k).1:=by
 have hk:k<ds.length:=Nat.lt_of_lt_of_le h lowD_le
 have:=List.not_of_lt_findIdx (p:=fun d:Dp=>decide (g≤d.1)) (xs:=ds) h
 rw [gp_eq hk]
 simpa using this
theorem lowD_ge {ds:List Dp} {g:Int} (h:lowD ds g<ds.length):g≤(gp ds (lowD ds g)).1:=by
 have:=List.findIdx_getElem (p:=fun d:Dp=>decide (g≤d.1)) (xs:=ds) (w:=h)
 rw [gp_eq h]
 exact of_decide_eq_true this
theorem insL_eq {ds:List Dp} (ha:ascK ds) {g f:Int} (hn:∀ d∈ds,d.1≠g):insL ds g f=insK ds (g,f):=by
 have h1:∀ a∈ds.take (lowD ds g),¬ (g,f).1<a.1:=fun a ha'=>by
  obtain ⟨k,hk,rfl⟩:=List.getElem_of_mem ha'
  simp only [List.length_take] at hk
  rw [List.getElem_take]
  have:=lowD_lt (ds:=ds) (g:=g) (k:=k) (by omega)
  rw [gp_eq (by omega)] at this
  simp only
  omega
 unfold insL
 by_cases h:lowD ds g<ds.length
 ·have h2:=lowD_ge (ds:=ds) (g:=g) h
  have hm:gp ds (lowD ds g)∈ds:=by rw [gp_eq h];exact List.getElem_mem h
  have h3:=hn _ hm
  have e:=insK_hit (n:=(g,f)) (x:=gp ds (lowD ds g)) (r:=ds.drop (lowD ds g+1)) (l:=ds.take (lowD ds g)) h1 (by simp only;omega)
  rw [← lowD_split h] at e
  rw [e,gp_eq h,List.getElem_cons_drop]
 ·have e:=insK_none (n:=(g,f)) (l:=ds.take (lowD ds g)) h1
  rw [tkL (by omega)] at e
  rw [tkL (by omega),List.drop_of_length_le (by omega),e]
theorem grp_abs {r:Int} {ns:NdL} {ds:List Dp} (hv:Vt (r,ns,ds)) {g:Nat} (hg:g<64) (h0:(decR (lsT (r,ns,ds) (g*8)).2.2).1.2.2.2.2.2=false):∀ d∈ds,d.1≠(g:Int):=fun d hd e=>by
 have hm:(g:Int)∈ds.map (·.1):=List.mem_map.2 ⟨d,hd,e⟩
 have hdp:=hv.dep
 simp only at hdp
 rw [hdp] at hm
 obtain ⟨k,hk,e2,hb⟩:=mem_hugM.1 hm
 have:k=g:=by omega
 subst this
 rw [hugB_last hv hk,h0] at hb
 simp at hb
theorem hug_lev {M:Mm} {root:Int} (hV:VM WA M root) {p:Nat} (hp:p<512) {f:Int} {l w:Nat} (hw:wlk M root p=(f,l,w)) (hh:(decR w).1.2.2.2.2.2=true):l=1∧(decR w).2=0:=by
 obtain ⟨a1,a2,a3,a4,a5,a6⟩:=wlk_at hV hp hw
 unfold okWb at a6
 simp only [Bool.and_eq_true,decide_eq_true_eq] at a6
 have hk:=kind_huge a6.1 hh
 have h2:=a6.2
 unfold suitB at h2
 rw [if_neg (by omega),if_neg (by omega),if_pos hk,hh] at h2
 refine ⟨?_,a6.1⟩
 by_cases h0:l=0
 ·rw [if_pos h0] at h2;simp at h2
 ·rw [if_neg h0] at h2
  by_cases h1:l=1
  ·exact h1
  ·rw [if_neg h1] at h2;simp at h2
def asN (t:Tb) (p w:Nat):NdL:=(setN t.2.1 ((ptL t p).getD 1 (0,0,0)).1 (dgt p 1) w).take (lsT t p).1++(setN t.2.1 ((ptL t p).getD 1 (0,0,0)).1 (dgt p 1) w).drop ((lsT t p).1+1)
noncomputable def asmP (t:Tb) (g:Int):Tb×Int :=
 if ckd t g 64≠0 then (zT,ckd t g 64)
 else if (lsT t (g.toNat*8)).2.1≠0 then (zT,6)
 else if (joinR (gn t.2.1 (lsT t (g.toNat*8)).1).2).2≠0 then (zT,(joinR (gn t.2.1 (lsT t (g.toNat*8)).1).2).2)
 else ((t.1,asN t (g.toNat*8) (joinR (gn t.2.1 (lsT t (g.toNat*8)).1).2).1.toNat,insK t.2.2 (g,(gn t.2.1 (lsT t (g.toNat*8)).1).1)),0)
theorem asm_eq {r:Int} {ns:NdL} {ds:List Dp} (h:Pv (r,ns,ds)) (ht:tbOK (r,ns,ds)) {p:Nat} (hp:p<512) (hl:(lsT (r,ns,ds) p).2.1=0) (w:Nat) :
  ∃ n2 w2 n1 w1 g1,∃ f:Nat,ptL (r,ns,ds) p=[(n2,2,w2),(n1,1,w1),lsT (r,ns,ds) p]∧n1<ns.length∧(gn ns (lsT (r,ns,ds) p).1).1=(f:Int)∧f≤4294967295∧Pv (r,unl (f*256+4) (delK ns (f:Int)),ds)∧tbOK (r,unl (f*256+4) (delK ns (f:Int)),ds) ∧
   wlk (Mof (unl (f*256+4) (delK ns (f:Int)))) r p=(g1,1,0)∧setN (unl (f*256+4) (delK ns (f:Int))) (lsT (r,unl (f*256+4) (delK ns (f:Int)),ds) p).1 (dgt p 1) w=asN (r,ns,ds) p w ∧
   (setN ns n1 (dgt p 1) w).take (lsT (r,ns,ds) p).1++(setN ns n1 (dgt p 1) w).drop ((lsT (r,ns,ds) p).1+1)=asN (r,ns,ds) p w ∧
   asN (r,ns,ds) p w=delK (setN ns n1 (dgt p 1) w) (f:Int):=by
 obtain ⟨g,l,w0,hw⟩:∃ f l w,wlk (Mof ns) r p=(f,l,w):=⟨_,_,_,rfl⟩
 obtain ⟨e1,e2,e3,e4,e5⟩:=end_nd h hp hw
 obtain rfl:l=0:=by rw [e2] at hl;exact hl
 obtain ⟨n2,w2,n1,w1,g1,g0,hpt,q2,q1,q0,f1,f0⟩:=path_f0 h hp hl
 obtain rfl:g0=g:=by
  have k1:=fFr q0
  have k2:=fFr e1
  rw [← k1,k2]
 have hlf:∀ j,j<8→tabW (wM (Mof ns) g0 j)=none:=fun j hj=>by
  obtain ⟨ws,m1,m2,m3⟩:=h.vm.nd 2 (p/8) (Pos2 (by omega)) g0 f0
  have:=m3 j hj
  have h1:=(WD_ok fun _=>true).flat _ this
  unfold wM
  rw [m1]
  exact h1
 obtain ⟨f,k,c1,c2,c3,c4,c5,c6,c7,c8,c9,c10,c11⟩:=round h ht hp hw (by omega) hlf
 have hfg:f=g1:=by
  rw [show 1 - 0=1 from rfl,show p/8^(0+2)=p/64 by simp,f1] at c1
  simpa using c1.symm
 subst hfg
 have hk:k=n1:=by
  rw [q1] at c3
  simpa using c3.symm
 subst hk
 obtain ⟨fn,rfl⟩:=Int.eq_ofNat_of_zero_le c5
 simp only [Int.toNat_natCast,Nat.zero_add] at c7 c8 c9 c10 c11
 have hkl:=fnd_lt c3
 have hn0:(lsT (r,ns,ds) p).1<ns.length:=e5
 have hsa:=setN_asc h.asc (i:=dgt p 1) (w:=w) hkl
 have hN:asN (r,ns,ds) p w=(setN ns k (dgt p 1) w).take (lsT (r,ns,ds) p).1++(setN ns k (dgt p 1) w).drop ((lsT (r,ns,ds) p).1+1):=by
  unfold asN
  rw [hpt]
  rfl
 have hfr:(gn (setN ns k (dgt p 1) w) (lsT (r,ns,ds) p).1).1=(fn:Int):=by
  rw [gn_setN hkl]
  split
  ·rename_i e
   exfalso
   apply c4
   have k1:=fFr c3
   have k2:=fFr e1
   rw [← k1,← k2,e]
  ·exact e3
 have hD:asN (r,ns,ds) p w=delK (setN ns k (dgt p 1) w) (fn:Int):=by
  have:=td_del (l:=setN ns k (dgt p 1) w) hsa (i:=(lsT (r,ns,ds) p).1) (by rw [sNl];exact hn0)
  rw [hN,this,← hfr,gn_eq (by rw [sNl];exact hn0)]
 obtain ⟨d1,d2,d3,d4,d5⟩:=end_nd c8 hp c10
 refine ⟨n2,w2,k,w1,f,fn,hpt,hkl,e3,by omega,c8,c9,c10,?_,hN.symm,hD⟩
 rw [hD]
 refine ext_asc (setN_asc c8.asc d5) (delK_asc hsa) fun x=>?_
 rw [Mof_set c8.asc d1,Mof_del hsa,c7,show Mof (setN ns k (dgt p 1) w)=updW (Mof ns) f (dgt p 1) w from Mof_ext (Mof_set h.asc c3)]
 unfold updM1 updW
 by_cases x1:x=f
 ·subst x1
  simp only [if_true,if_neg c4,Option.map_map]
  congr 1
  funext l
  simp
 ·by_cases x2:x=(fn:Int)
  ·simp [x2]
   try exact fun h=>absurd h.symm c4
  ·simp [x1,x2]
theorem joinR_ok {ws:List Nat} (h8:ws.length=8) (h:(joinR ws).2=0):∃ n:Nat,(joinR ws).1=(n:Int)∧n<2^64:=by
 unfold joinR joinL at h ⊢
 split at h
 ·rename_i hc
  rw [if_pos hc]
  have hall:=chain_0 (fun p hp hf=>by
   simp only [joinC,List.mem_cons,List.not_mem_nil,or_false] at hp
   rcases hp with rfl|rfl|rfl|rfl|rfl|rfl|rfl|rfl|rfl|rfl|rfl|rfl|rfl|rfl|rfl|rfl|rfl|rfl|rfl|rfl|rfl|rfl|rfl|rfl|rfl|rfl|rfl|rfl|rfl|rfl|rfl|rfl<;>first|(intro h;simp at h;done)|(have:=of_decide_eq_false hf;exact this)) hc
  have hk:=hall _ (by simp only [joinC];exact List.mem_cons_of_mem _ (List.mem_cons_of_mem _ (List.mem_cons_of_mem _ (List.mem_cons_of_mem _ (List.mem_cons_of_mem _ (List.mem_cons_of_mem _ (List.mem_cons_of_mem _ (List.mem_cons_of_mem _ (List.mem_cons_self ..)))))))))
  simp only [Bool.and_eq_true,decide_eq_true_eq] at hk
  obtain ⟨hk1,_⟩:=hk
  rw [hk1] at h ⊢
  have hr:=decR_rng (ws.getD 0 0)
  obtain ⟨E,hE⟩:∃ E,E=decR (ws.getD 0 0):=⟨_,rfl⟩
  rw [← hE] at h hr ⊢
  obtain ⟨a,ha⟩:∃ a:Bool,a=(E.1.2.2.2.1||E.1.2.2.2.1||(decR (ws.getD 1 0)).1.2.2.2.1||(decR (ws.getD 2 0)).1.2.2.2.1||(decR (ws.getD 3 0)).1.2.2.2.1||(decR (ws.getD 4 0)).1.2.2.2.1||(decR (ws.getD 5 0)).1.2.2.2.1||(decR (ws.getD 6 0)).1.2.2.2.1||(decR (ws.getD 7 0)).1.2.2.2.1):=⟨_,rfl⟩
  obtain ⟨d,hd⟩:∃ a:Bool,a=(E.1.2.2.2.2.1||E.1.2.2.2.2.1||(decR (ws.getD 1 0)).1.2.2.2.2.1||(decR (ws.getD 2 0)).1.2.2.2.2.1||(decR (ws.getD 3 0)).1.2.2.2.2.1||(decR (ws.getD 4 0)).1.2.2.2.2.1||(decR (ws.getD 5 0)).1.2.2.2.2.1||(decR (ws.getD 6 0)).1.2.2.2.2.1||(decR (ws.getD 7 0)).1.2.2.2.2.1):=⟨_,rfl⟩
  rw [← ha,← hd] at h ⊢
  by_cases hb:badF (1,E.1.2.1,E.1.2.2.1,a,d,true)
  ·rw [encR_f (by simp) hb] at h;simp at h
  ·obtain ⟨n,h1,h2,_⟩:=decR_enc (k:=1) (f:=E.1.2.1) (d:=E.1.2.2.1) (a:=a) (x:=d) (h:=true) (by decide) hr hb rfl
   rw [h1]
   exact ⟨n,rfl,h2⟩
 ·rename_i hc
  exact absurd h hc
end Go.AM
