/- A part of the proof: what functions of the program compute, by abstract execution of their code. Its theorems hold without further condition. -/
import Derived.Test.YtcfhmdljeeppfaaGreatAMm2
import Derived.Test.YtcfhmdljeeppfaaGreatAPt53
set_option linter.all false
set_option maxHeartbeats 4000000
namespace Go.AM
open Go Go.Proofs
noncomputable def LkF:List AV→Option AV:=specF (ι:={x:Tl×Int×Int // tlOK x.1}) (fun x=>[TlV x.1.1,I x.1.2.1,I x.1.2.2]) fun x=>retOf [U (lkT x.1.1 x.1.2.1 x.1.2.2).1,B (lkT x.1.1 x.1.2.1 x.1.2.2).2]
theorem lk_c {b:Tl} {s p:Int} (h:chB b≠0):lkT b s p=(0,false):=by unfold lkT;rw [if_pos h]
theorem find_at {p:Te→Bool}:∀ {l:List Te} {i:Nat} (hi:i<l.length),p (gt l i)=true→(∀ j,j<i→p (gt l j)=false)→l.find? p=some (gt l i)
 | [],i,hi,_,_=>by simp at hi
 | x::l,0,_,h,_=>by
  rw [List.find?_cons]
  have:p x=true:=h
  rw [this];rfl
 | x::l,i+1,hi,h,hn=>by
  have h0:p x=false:=hn 0 (by omega)
  rw [List.find?_cons,h0]
  exact find_at (l:=l) (i:=i) (by simpa using hi) h fun j hj=>hn (j+1) (by omega)
theorem find_no {p:Te→Bool} {l:List Te} (h:∀ j,j<l.length→p (gt l j)=false):l.find? p=none:=by
 rw [List.find?_eq_none]
 intro x hx
 obtain ⟨j,hj,rfl⟩:=List.getElem_of_mem hx
 have:=h j hj
 rw [gt_eq hj] at this
 simp [this]
theorem lk_at {b:Tl} {s p:Int} {i:Nat} (h:chB b=0) (hi:i<b.2.length) (h1:cvB (gt b.2 i) s p=true) (h2:∀ j,j<i→cvB (gt b.2 j) s p=false):lkT b s p=((gt b.2 i).2.2,true):=by
 unfold lkT
 rw [if_neg (by simp [h]),find_at (p:=fun x=>cvB x s p) hi h1 h2]
theorem lk_no {b:Tl} {s p:Int} (h:chB b=0) (h2:∀ j,j<b.2.length→cvB (gt b.2 j) s p=false):lkT b s p=(0,false):=by
 unfold lkT
 rw [if_neg (by simp [h]),find_no (p:=fun x=>cvB x s p) h2]
theorem s93 (X:AX) (hX:XOK Tryz.prog X) (hw:X.W wT) (hct:∀ b:Tl,tlOK b→∀ M k,X.call 92 [TlV b] M k=some (I (chB b),[]))
  (hcv:∀ x s p,teOK x→∀ M k,X.call 169 [TeV x,I s,I p] M k=some (B (cvB x s p),[])):PSound Tryz.prog 93 LkF:=by
 unfold LkF
 refine psound_spec hX mixed Tryz.func93 rfl fun ⟨⟨⟨z,l⟩,s,p⟩,hok⟩ w0 G=>⟨by show 3≤27;decide,rfl,?_⟩
 show AW ⟨Tryz.prog,X,27,w0,.pure G⟩ _ _ _
 have hc:Cx.OK ⟨Tryz.prog,X,27,w0,.pure G⟩:=⟨hX,mixed⟩
 simp only at hok ⊢
 have ht:=hct _ hok
 obtain ⟨hl,hu⟩:=hok
 simp only at hl hu
 rcases Decidable.em (chB (z,l)=0) with h0|h0
 ·rw [h0] at ht
  have htl:=tl_ok ⟨hl,hu⟩ h0
  have hat:=@lk_at (z,l) s p
  have hno:=@lk_no (z,l) s p h0
  obtain ⟨⟨rw,rb⟩,hR⟩:∃ R,R=lkT (z,l) s p:=⟨_,rfl⟩
  rw [← hR] at hno ⊢
  simp only [← hR] at hat
  simp only [TlV] at ht ⊢
  simp only at hno hat htl
  have zS:=ht
  repeat' (first|(apply aw_seq_k;intro K hK)|(refine eM64 ?_)|(refine aw_cond (b:=_) (by exact rfl) (fun h=>?_) (fun h=>?_)<;>(try simp at h))|(refine eB ?_)|(refine hK _ ?_;clear hK)|(clear hK;refine hK _ ?_;clear hK)|(clear hK;clear hK;refine hK _ ?_;clear hK)|(clear hK;clear hK;clear hK;refine hK _ ?_;clear hK))
  all_goals clear zS
  refine aw_loopK (s0:=?lps1) (m0:=?lpm1) (ι:={i:Nat // i≤l.length∧∀ j,j<i→cvB (gt l j) s p=false}) [1,2,14,15] (fun i=>[(16,I i.1)]) (fun _=>[]) (fun i=>l.length - i.1) ⟨0,by omega,by omega⟩ ?lhs1 ?lhm1 ?_ ?_
  case lhs1=>first|(simp [keepS];done)|(simp [keepS];rfl)
  case lhm1=>first|rfl|(simp;done)|(simp;rfl)
  ·exact dle
  ·rintro ⟨i,hi,hinv⟩
   simp only
   rcases Decidable.em (i<l.length) with hil|hil
   ·have hilI:(i:Int)<(l.length:Int):=by omega
    have hg:=trows_gi hil
    have hgE:=trows_gE hil
    have hq:=hcv _ s p (htl.2 _ (gt_mem hil))
    have ha:=fun h=>hat h0 hil h hinv
    have hnx:cvB (gt l i) s p=false→∀ j,j<i+1→cvB (gt l j) s p=false:=fun h j hj=>by
     rcases Nat.lt_succ_iff_lt_or_eq.1 hj with h5|rfl
     ·exact hinv j h5
     ·exact h
    obtain ⟨⟨x1,x2,x3⟩,hm⟩:∃ m,m=gt l i:=⟨_,rfl⟩
    rw [← hm] at hg hgE hq ha hnx
    simp only [trow,TeV,U] at hg hgE hq ha hnx
    obtain ⟨v,hv⟩:∃ v,v=cvB (x1,x2,x3) s p:=⟨_,rfl⟩
    rw [← hv] at hq ha hnx
    cases v with
    | true =>
     have he:=ha rfl
     simp only [Prod.mk.injEq] at he
     obtain ⟨he1,he2⟩:=he
     subst he1 he2
     have zS:=jj hilI<|jj hil<|jj hg<|jj hgE<|hq
     repeat' (first|(apply aw_seq_k;intro K hK)|(refine eM64 ?_)|(refine aw_cond (b:=_) (by exact rfl) (fun h=>?_) (fun h=>?_)<;>(try simp at h))|(refine eB ?_)|(refine hK _ ?_;clear hK)|(clear hK;refine hK _ ?_;clear hK)|(clear hK;clear hK;refine hK _ ?_;clear hK)|(clear hK;clear hK;clear hK;refine hK _ ?_;clear hK))
     all_goals clear zS
     refine ⟨by simp,?_⟩
     simp [leaves_iff,Tryz.f93,U]
     try exact dt
    | false =>
     have hr:=hnx rfl
     have zS:=jj hilI<|jj hil<|jj hg<|jj hgE<|hq
     repeat' (first|(apply aw_seq_k;intro K hK)|(refine eM64 ?_)|(refine aw_cond (b:=_) (by exact rfl) (fun h=>?_) (fun h=>?_)<;>(try simp at h))|(refine eB ?_)|(refine hK _ ?_;clear hK)|(clear hK;refine hK _ ?_;clear hK)|(clear hK;clear hK;refine hK _ ?_;clear hK)|(clear hK;clear hK;clear hK;refine hK _ ?_;clear hK))
     all_goals clear zS
     refine ⟨i+1,?_,⟨by omega,hr⟩,by omega⟩
     exact dle
   ·obtain rfl:i=l.length:=by omega
    have he:=hno hinv
    simp only [Prod.mk.injEq] at he
    obtain ⟨he1,he2⟩:=he
    subst he1 he2
    repeat' (first|(apply aw_seq_k;intro K hK)|(refine eM64o ?_)|(refine aw_cond (b:=_) (by exact rfl) (fun h=>?_) (fun h=>?_)<;>(try simp at h))|(refine eB ?_)|(refine hK _ ?_;clear hK)|(clear hK;refine hK _ ?_;clear hK)|(clear hK;clear hK;refine hK _ ?_;clear hK)|(clear hK;clear hK;clear hK;refine hK _ ?_;clear hK))
    refine ⟨by simp,?_⟩
    simp [leaves_iff,Tryz.f93,U]
    try exact dt
 ·rw [lk_c h0]
  obtain ⟨c,hcz⟩:∃ c,c=chB (z,l):=⟨_,rfl⟩
  rw [← hcz] at ht h0
  simp only [TlV] at ht ⊢
  have zS:=jj ht<|h0
  refine dM64 ?_
  repeat (intro K hK)
  clear zS
  refine ⟨by simp,?_⟩
  simp [leaves_iff,Tryz.f93,U]
  try exact dt
def TlO (b:Tl):AV:=.agg [I b.1,.ow 3 (trows b.2)]
def TlC (b:Tl) (n:Nat):AV:=.agg [I b.1,.sl n 1 3 0 b.2.length]
theorem callClT {l:List Te} (h:l.length≤1000000) (M:Nat→AO) (n:Nat):callP ClTF [.rd 3 (trows l)] M n=some (.sl n 1 3 0 l.length,[(n,.vec 1 3 false (trows l))]):=by
 have k:=callP_spec (ι:={l:List Te // l.length≤1000000}) (A:=fun x=>[.rd 3 (trows x.1)]) (R:=fun x=>retOf [.ow 3 (trows x.1)]) (avs:=[.rd 3 (trows l)]) (M:=M) (n:=n) ⟨l,h⟩ (by simp) (by
  rintro ⟨l',h'⟩ e
  simp only [List.cons.injEq,AV.rd.injEq,trows_inj,true_and,and_true] at e
  subst e;rfl) (by simp [retOf,openRet,openVals,openVal,openLeaves,openLeaf])
 unfold ClTF
 rw [k]
 simp [retOf,openRet,openVals,openVal,openLeaves,openLeaf]
theorem callDfT {b v:Nat} {fl:Bool} {l:List Te} {o:Fk} (h:tesOK l) (ho:fkO o) (M:Nat→AO) (nid:Nat) (hb:M b=.vec v 3 fl (trows l)) :
  callM false three3 DfT [.sl b v 3 0 l.length,fkA o] M nid=some (.sl nid 1 3 0 (drpT (fkP o) l).length,[(nid,.vec 1 3 false (trows (drpT (fkP o) l))),(b,.dead)]):=by
 have hF:=DfT_at l o h ho
 cases o<;>(simp only [fkA] at hF ⊢;simp [callM,giveArg,takeArg,hb,hF,List.take_of_length_le,three3])
noncomputable def WoF:List AV→Option AV:=specF (ι:={x:Tl×Fk // tesOK x.1.2∧fkO x.2}) (fun x=>[TlV x.1.1,fkA x.1.2]) fun x=>retOf [TlO (x.1.1.1,drpT (fkP x.1.2) x.1.1.2)]
theorem TlO_fl {b:Tl}:(retOf [TlO b]).flat:=by
 simp [retOf,AV.flat,AV.flatV,AV.flat1,TlO]
 try (intro e he a ha;obtain ⟨x,_,rfl⟩:=List.mem_map.1 he;simp [trow] at ha;rcases ha with rfl|rfl|rfl<;>trivial)
theorem s170 (X:AX) (hX:XOK Tryz.prog X) (hw:X.W wT) (hcl:X.call 211=callP ClTF) (hdf:X.call 210=callM false three3 DfT):PSound Tryz.prog 170 WoF:=by
 unfold WoF
 refine psound_spec hX mixed Tryz.func170 rfl fun ⟨⟨⟨z,l⟩,o⟩,hl,ho⟩ w0 G=>⟨by show 2≤13;decide,rfl,?_⟩
 show AW ⟨Tryz.prog,X,13,w0,.pure G⟩ _ _ _
 have hc:Cx.OK ⟨Tryz.prog,X,13,w0,.pure G⟩:=⟨hX,mixed⟩
 simp only at hl ho ⊢
 have cl:=@callClT l hl.1
 rw [← hcl] at cl
 have df:=fun b v fl M n=>@callDfT b v fl l o hl ho M n
 rw [← hdf] at df
 obtain ⟨D,hD⟩:∃ D,D=drpT (fkP o) l:=⟨_,rfl⟩
 rw [← hD] at df ⊢
 simp only [TlV,TlO]
 cases o with
 | ck c =>
  simp only [fkA] at df ⊢
  have zS:=jj cl<|df
  refine dF64 ?_
  repeat (intro K hK)
  clear zS
  all_goals refine ⟨by simp,?_⟩
  all_goals simp [leaves_iff,Tryz.f170,tkT]
  all_goals try exact dt
 | fl c =>
  simp only [fkA] at df ⊢
  have zS:=jj cl<|df
  refine dF64 ?_
  repeat (intro K hK)
  clear zS
  all_goals refine ⟨by simp,?_⟩
  all_goals simp [leaves_iff,Tryz.f170,tkT]
  all_goals try exact dt
 | iv s p =>
  simp only [fkA] at df ⊢
  have zS:=jj cl<|df
  refine dF64 ?_
  repeat (intro K hK)
  clear zS
  all_goals refine ⟨by simp,?_⟩
  all_goals simp [leaves_iff,Tryz.f170,tkT]
  all_goals try exact dt
end Go.AM
set_option maxHeartbeats 8000000
namespace Go.AM
open Go Go.Proofs
theorem WoF_at (b:Tl) (o:Fk) (h:tesOK b.2) (ho:fkO o):WoF [TlV b,fkA o]=some (TlO (b.1,drpT (fkP o) b.2)) :=
 specF_eq (ι:={x:Tl×Fk // tesOK x.1.2∧fkO x.2}) (A:=fun x=>[TlV x.1.1,fkA x.1.2]) (R:=fun x=>retOf [TlO (x.1.1.1,drpT (fkP x.1.2) x.1.1.2)]) ⟨(b,o),h,ho⟩ (by
  rintro ⟨⟨k,c⟩,h⟩ e
  simp only [List.cons.injEq,TlV_inj,fkA_inj,and_true] at e
  obtain ⟨rfl,rfl⟩:=e;rfl)
noncomputable def InF:List AV→Option AV:=specF (ι:={x:Tl×Int×Int // tlOK x.1}) (fun x=>[TlV x.1.1,I x.1.2.1,I x.1.2.2]) fun x=>retOf [TlO (inT x.1.1 x.1.2.1 x.1.2.2).1,I (inT x.1.1 x.1.2.1 x.1.2.2).2]
theorem s98 (X:AX) (hX:XOK Tryz.prog X) (hw:X.W wT) (hct:∀ b:Tl,tlOK b→∀ M k,X.call 92 [TlV b] M k=some (I (chB b),[]))
  (hpl:∀ s p M k,X.call 164 [I s,I p] M k=some (I (if plcB s p=true then 0 else 2),[])) (hwo:X.call 170=callP WoF):PSound Tryz.prog 98 InF:=by
 unfold InF
 refine psound_spec hX mixed Tryz.func98 rfl fun ⟨⟨⟨z,l⟩,s,p⟩,hok⟩ w0 G=>⟨by show 3≤26;decide,rfl,?_⟩
 show AW ⟨Tryz.prog,X,26,w0,.pure G⟩ _ _ _
 have hc:Cx.OK ⟨Tryz.prog,X,26,w0,.pure G⟩:=⟨hX,mixed⟩
 simp only at hok ⊢
 have ht:=hct _ hok
 have hp:=hpl s p
 rcases Decidable.em (chB (z,l)=0) with h0|h0
 ·have htl:=tl_ok hok h0
  have hF:=WoF_at (z,l) (.iv s p) htl trivial
  rw [h0] at ht
  cases hpb:plcB s p with
  | false =>
   rw [hpb,if_neg (by decide)] at hp
   have e:inT (z,l) s p=(zB,2):=by unfold inT;rw [if_neg (by simp [h0]),if_pos hpb]
   rw [e]
   simp only [TlV,TlO,zB] at ht ⊢
   have zS:=jj ht<|hp
   refine dM64 ?_
   repeat (intro K hK)
   clear zS
   refine ⟨by simp,?_⟩
   simp [leaves_iff,Tryz.f98,trows]
   try exact dt
  | true =>
   rw [hpb,if_pos rfl] at hp
   have e:inT (z,l) s p=((z,drpT (fkP (.iv s p)) l),0):=by unfold inT;rw [if_neg (by simp [h0]),if_neg (by simp [hpb])];rfl
   rw [e]
   simp only at hF
   obtain ⟨D,hD⟩:∃ D,D=drpT (fkP (.iv s p)) l:=⟨_,rfl⟩
   rw [← hD] at hF ⊢
   simp only [TlV,TlO,fkA] at ht hF ⊢
   have zS:=jj ht<|jj hp<|jj hwo<|hF
   refine dM64 ?_
   repeat (intro K hK)
   clear zS
   refine ⟨by simp,?_⟩
   simp [leaves_iff,Tryz.f98,tkT]
   try exact dt
 ·have e:inT (z,l) s p=(zB,chB (z,l)):=by unfold inT;rw [if_pos h0]
  rw [e]
  obtain ⟨c,hcz⟩:∃ c,c=chB (z,l):=⟨_,rfl⟩
  rw [← hcz] at ht h0 ⊢
  simp only [TlV,TlO,zB] at ht ⊢
  have zS:=jj ht<|h0
  refine dM64 ?_
  repeat (intro K hK)
  clear zS
  refine ⟨by simp,?_⟩
  simp [leaves_iff,Tryz.f98,trows]
  try exact dt
noncomputable def FiF7:List AV→Option AV:=specF (ι:={x:Tl×Int×Int×Nat // tlOK x.1∧x.2.2.2<2^64}) (fun x=>[TlV x.1.1,I x.1.2.1,I x.1.2.2.1,U x.1.2.2.2]) fun x=>retOf [TlO (fiT x.1.1 x.1.2.1 x.1.2.2.1 x.1.2.2.2).1,I (fiT x.1.1 x.1.2.1 x.1.2.2.1 x.1.2.2.2).2]
theorem fin1 {D:List Te} {a b:Int} {c:Nat}:trows (D++[(a,b,c)])=List.take (D.length+1) (trows D++[[I a,I b,.v (.int .u64 c)]]):=by
 rw [List.take_of_length_le (by simp)]
 simp [trows,trow,U]
theorem fin2 {D:List Te} (h:1≤D.length) {a b:Int} {c:Nat}:trows (D.tail++[(a,b,c)])=List.take (D.length - 1+1) (List.take (D.length - 1) (trows D).tail++[[I a,I b,.v (.int .u64 c)]]):=by
 have e:List.take (D.length - 1) (trows D).tail=trows D.tail:=by
  rw [List.take_of_length_le (by simp)]
  cases D with
  | nil=>rfl
  | cons x D=>rfl
 rw [e,List.take_of_length_le (by simp)]
 simp [trows,trow,U]
theorem s100 (X:AX) (hX:XOK Tryz.prog X) (hw:X.W wT) (hct:∀ b:Tl,tlOK b→∀ M k,X.call 92 [TlV b] M k=some (I (chB b),[]))
  (hpl:∀ s p M k,X.call 164 [I s,I p] M k=some (I (if plcB s p=true then 0 else 2),[]))
  (htr:∀ w:Nat,w<2^64→∀ M k,X.call 165 [U w] M k=some (.tup [B (trB w),B (hgB w)],[])) (hwo:X.call 170=callP WoF):PSound Tryz.prog 100 FiF7:=by
 unfold FiF7
 refine psound_spec hX mixed Tryz.func100 rfl fun ⟨⟨⟨z,l⟩,s,p,w⟩,hok,hw64⟩ w0 G=>⟨by show 4≤66;decide,rfl,?_⟩
 show AW ⟨Tryz.prog,X,66,w0,.pure G⟩ _ _ _
 have hc:Cx.OK ⟨Tryz.prog,X,66,w0,.pure G⟩:=⟨hX,mixed⟩
 simp only at hok hw64 ⊢
 have ht:=hct _ hok
 have hp:=hpl s p
 have hq:=htr w hw64
 rcases Decidable.em (chB (z,l)=0) with h0|h0
 ·have htl:=tl_ok hok h0
  have hz:=chB_z.1 h0
  simp only at hz
  rw [h0] at ht
  cases hpb:plcB s p with
  | false =>
   rw [hpb,if_neg (by decide)] at hp
   have e:fiT (z,l) s p w=(zB,2):=by unfold fiT;rw [if_neg (by simp [h0]),if_pos hpb]
   rw [e]
   simp only [TlV,TlO,zB,U] at ht ⊢
   have zS:=jj ht<|hp
   refine dM64 ?_
   repeat (intro K hK)
   clear zS
   refine ⟨by simp,?_⟩
   simp [leaves_iff,Tryz.f100,trows]
   try exact dt
  | true =>
   rw [hpb,if_pos rfl] at hp
   cases htb:trB w with
   | false =>
    rw [htb] at hq
    have e:fiT (z,l) s p w=(zB,3):=by unfold fiT;rw [if_neg (by simp [h0]),if_neg (by simp [hpb]),if_pos htb]
    rw [e]
    simp only [TlV,TlO,zB,U] at ht hq ⊢
    have zS:=jj ht<|jj hp<|hq
    refine dM64 ?_
    repeat (intro K hK)
    clear zS
    refine ⟨by simp,?_⟩
    simp [leaves_iff,Tryz.f100,trows]
    try exact dt
   | true =>
    rw [htb] at hq
    have hpl2:0≤s∧s<8∧0≤p∧p<512:=by unfold plcB at hpb;simpa using hpb
    have htm:p.tmod 8=p%8:=Int.tmod_eq_emod_of_nonneg hpl2.2.2.1
    obtain ⟨pg,hpg⟩:∃ pg,pg=if hgB w=true then p - p%8 else p:=⟨_,rfl⟩
    have hx:fiX s p w=(s,pg,w):=by unfold fiX;rw [hpg]
    have hpgo:0≤pg∧pg<512:=by rw [hpg];split<;>omega
    have hF:=WoF_at (z,l) (.fl (s,pg,w)) htl ⟨hpgo.1,hpgo.2,hw64⟩
    obtain ⟨D,hD⟩:∃ D,D=drpT (fkP (.fl (s,pg,w))) l:=⟨_,rfl⟩
    have hDl:D.length≤l.length:=by rw [hD];exact List.length_filter_le _ _
    have e:fiT (z,l) s p w=((z,(if (D.length:Int)=z then D.drop 1 else D)++[(s,pg,w)]),0):=by
     unfold fiT
     rw [if_neg (by simp [h0]),if_neg (by simp [hpb]),if_neg (by simp [htb]),hx]
     unfold fiL
     rw [hD];rfl
    rw [e]
    simp only at hF
    rw [← hD] at hF
    clear hD e hx
    simp only [TlV,TlO,fkA,U] at ht hq hF ⊢
    have htk:=tkT D
    rcases Decidable.em ((D.length:Int)=z) with hfull|hfull
    ·rw [if_pos hfull]
     have hD1:1≤D.length:=by omega
     have hD1I:(1:Int)≤(D.length:Int):=by omega
     cases hgb:hgB w with
     | true =>
      rw [hgb,if_pos rfl] at hpg
      rw [hgb] at hq
      subst hpg
      have zS:=jj ht<|jj hp<|jj hq<|jj htm<|jj hwo<|jj hF<|jj hfull<|htk
      refine dM64 ?_
      repeat (intro K hK)
      clear zS
      refine ⟨by simp,?_⟩
      simp [leaves_iff,Tryz.f100,tkT]
      try exact dt
      all_goals exact fin2 hD1
     | false =>
      rw [hgb,if_neg (by decide)] at hpg
      rw [hgb] at hq
      subst hpg
      have zS:=jj ht<|jj hp<|jj hq<|jj htm<|jj hwo<|jj hF<|jj hfull<|htk
      refine dM64 ?_
      repeat (intro K hK)
      clear zS
      refine ⟨by simp,?_⟩
      simp [leaves_iff,Tryz.f100,tkT]
      try exact dt
      all_goals exact fin2 hD1
    ·rw [if_neg hfull]
     cases hgb:hgB w with
     | true =>
      rw [hgb,if_pos rfl] at hpg
      rw [hgb] at hq
      subst hpg
      have zS:=jj ht<|jj hp<|jj hq<|jj htm<|jj hwo<|jj hF<|jj hfull<|htk
      refine dM64 ?_
      repeat (intro K hK)
      clear zS
      refine ⟨by simp,?_⟩
      simp [leaves_iff,Tryz.f100,tkT]
      try exact dt
      all_goals exact fin1
     | false =>
      rw [hgb,if_neg (by decide)] at hpg
      rw [hgb] at hq
      subst hpg
      have zS:=jj ht<|jj hp<|jj hq<|jj htm<|jj hwo<|jj hF<|jj hfull<|htk
      refine dM64 ?_
      repeat (intro K hK)
      clear zS
      refine ⟨by simp,?_⟩
      simp [leaves_iff,Tryz.f100,tkT]
      try exact dt
      all_goals exact fin1
 ·have e:fiT (z,l) s p w=(zB,chB (z,l)):=by unfold fiT;rw [if_pos h0]
  rw [e]
  obtain ⟨c,hcz⟩:∃ c,c=chB (z,l):=⟨_,rfl⟩
  rw [← hcz] at ht h0 ⊢
  simp only [TlV,TlO,zB,U] at ht ⊢
  have zS:=jj ht<|h0
  refine dM64 ?_
  repeat (intro K hK)
  clear zS
  refine ⟨by simp,?_⟩
  simp [leaves_iff,Tryz.f100,trows]
  try exact dt
end Go.AM
namespace Go.AM
open Go Go.Proofs
noncomputable def FrgF:List AV→Option AV:=specF (ι:={x:En×Int // 0≤x.1.2.1∧x.1.2.1≤4294967295∧0≤x.2}) (fun x=>[EnV x.1.1,I x.1.2]) fun x=>retOf [I (frmG x.1.1 x.1.2)]
theorem s96 (X:AX) (hX:XOK Tryz.prog X) (hw:X.W wT):PSound Tryz.prog 96 FrgF:=by
 unfold FrgF
 refine psound_spec hX mixed Tryz.func96 rfl fun ⟨⟨⟨k,num,b1,b2,b3,hg⟩,p⟩,h1,h2,h3⟩ w0 G=>⟨by show 2≤14;decide,rfl,?_⟩
 show AW ⟨Tryz.prog,X,14,w0,.pure G⟩ _ _ _
 have hc:Cx.OK ⟨Tryz.prog,X,14,w0,.pure G⟩:=⟨hX,mixed⟩
 simp only at h1 h2 h3 ⊢
 have htm:p.tmod 8=p%8:=Int.tmod_eq_emod_of_nonneg h3
 unfold frmG
 simp only [EnV]
 cases hg
 ·refine dM64o ?_
  repeat (intro K hK)
  refine ⟨by simp,?_⟩
  simp [leaves_iff,Tryz.f96]
  try exact dt
 ·have zS:=htm
  refine dM64 ?_
  repeat (intro K hK)
  clear zS
  refine ⟨by simp,?_⟩
  simp [leaves_iff,Tryz.f96]
  try exact dt
noncomputable def RfF:List AV→Option AV:=specF (ι:=En×Bool) (fun x=>[EnV x.1,B x.2]) fun x=>retOf [I (rfE x.1 x.2)]
theorem s97 (X:AX) (hX:XOK Tryz.prog X) (hw:X.W wT):PSound Tryz.prog 97 RfF:=by
 unfold RfF
 refine psound_spec hX mixed Tryz.func97 rfl fun ⟨⟨k,num,b1,b2,b3,hg⟩,wr⟩ w0 G=>⟨by show 2≤14;decide,rfl,?_⟩
 show AW ⟨Tryz.prog,X,14,w0,.pure G⟩ _ _ _
 have hc:Cx.OK ⟨Tryz.prog,X,14,w0,.pure G⟩:=⟨hX,mixed⟩
 unfold rfE
 simp only [EnV]
 rcases Decidable.em (k=1) with h1|h1
 ·rw [if_neg (by simp [h1])]
  cases wr<;>cases b1
  ·have zS:=h1
   refine dM64 ?_
   repeat (intro K hK)
   clear zS
   refine ⟨by simp,?_⟩
   simp [leaves_iff,Tryz.f97]
   try exact dt
  ·have zS:=h1
   refine dM64 ?_
   repeat (intro K hK)
   clear zS
   refine ⟨by simp,?_⟩
   simp [leaves_iff,Tryz.f97]
   try exact dt
  ·have zS:=h1
   refine dM64 ?_
   repeat (intro K hK)
   clear zS
   refine ⟨by simp,?_⟩
   simp [leaves_iff,Tryz.f97]
   try exact dt
  ·have zS:=h1
   refine dM64 ?_
   repeat (intro K hK)
   clear zS
   refine ⟨by simp,?_⟩
   simp [leaves_iff,Tryz.f97]
   try exact dt
 ·rw [if_pos h1]
  have zS:=h1
  refine dM64 ?_
  repeat (intro K hK)
  clear zS
  refine ⟨by simp,?_⟩
  simp [leaves_iff,Tryz.f97]
  try exact dt
noncomputable def CoTF:List AV→Option AV:=specF (ι:={x:Tb // tbOK x}) (fun x=>[TbV x.1]) fun x=>retOf [TbO x.1]
theorem s94 (X:AX) (hX:XOK Tryz.prog X) (hw:X.W wT):PSound Tryz.prog 94 CoTF:=by
 unfold CoTF
 refine psound_spec hX mixed Tryz.func94 rfl fun ⟨⟨r,ns,ds⟩,ht⟩ w0 G=>⟨by show 1≤12;decide,rfl,?_⟩
 show AW ⟨Tryz.prog,X,12,w0,.pure G⟩ _ _ _
 have hc:Cx.OK ⟨Tryz.prog,X,12,w0,.pure G⟩:=⟨hX,mixed⟩
 have hl1:ns.length≤1000000:=ht.2.1
 have hl2:ds.length≤1000000:=ht.2.2
 simp only [TbV,TbO]
 have tkn:List.take ns.length (nrows ns)=nrows ns:=List.take_of_length_le (by simp)
 have tkd:List.take ds.length (prows ds)=prows ds:=List.take_of_length_le (by simp)
 refine dM64o ?_
 repeat (intro K hK)
 refine ⟨by simp,?_⟩
 simp [leaves_iff,Tryz.f94,tkn,tkd]
 try exact dt
noncomputable def CoBF:List AV→Option AV:=specF (ι:={x:Tl // x.2.length≤1000000}) (fun x=>[TlV x.1]) fun x=>retOf [TlO x.1]
theorem s95 (X:AX) (hX:XOK Tryz.prog X) (hw:X.W wT):PSound Tryz.prog 95 CoBF:=by
 unfold CoBF
 refine psound_spec hX mixed Tryz.func95 rfl fun ⟨⟨z,l⟩,hl⟩ w0 G=>⟨by show 1≤8;decide,rfl,?_⟩
 show AW ⟨Tryz.prog,X,8,w0,.pure G⟩ _ _ _
 have hc:Cx.OK ⟨Tryz.prog,X,8,w0,.pure G⟩:=⟨hX,mixed⟩
 simp only at hl
 simp only [TlV,TlO]
 have tkl:=tkT l
 refine dM64o ?_
 repeat (intro K hK)
 refine ⟨by simp,?_⟩
 simp [leaves_iff,Tryz.f95,tkl]
 try exact dt
theorem or_u {w v:Nat} (hw:w<2^64) (hv:v<2^64):bitI .or .u64 (w:Int) (v:Int)=((w ||| v:Nat):Int):=by
 unfold bitI
 have e:(BitVec.ofInt 64 (w:Int) ||| BitVec.ofInt 64 (v:Int)).toNat=w ||| v:=by
  rw [BitVec.toNat_or,toNat_u hw,toNat_u hv]
 show IntKind.u64.wrap (((BitVec.ofInt 64 (w:Int) ||| BitVec.ofInt 64 (v:Int)).toNat:Nat):Int)=_
 rw [e]
 exact wrapU (Nat.or_lt_two_pow hw hv)
theorem an_u {w v:Nat} (hw:w<2^64) (hv:v<2^64):bitI .andNot .u64 (w:Int) (v:Int)=((w &&& (18446744073709551615 - v):Nat):Int):=by
 unfold bitI
 have e:(BitVec.ofInt 64 (w:Int) &&& ~~~BitVec.ofInt 64 (v:Int)).toNat=w &&& (18446744073709551615 - v):=by
  rw [BitVec.toNat_and,BitVec.toNat_not,toNat_u hw,toNat_u hv]
 show IntKind.u64.wrap (((BitVec.ofInt 64 (w:Int) &&& ~~~BitVec.ofInt 64 (v:Int)).toNat:Nat):Int)=_
 rw [e]
 exact wrapU (Nat.lt_of_le_of_lt Nat.and_le_left hw)
noncomputable def MkF:List AV→Option AV:=specF (ι:={x:Nat×Bool // x.1<2^64}) (fun x=>[U x.1.1,B x.1.2]) fun x=>retOf [U (mkW x.1.1 x.1.2).1,I (mkW x.1.1 x.1.2).2]
set_option maxHeartbeats 2000000 in
theorem s99 (X:AX) (hX:XOK Tryz.prog X) (hw:X.W wT) (hpg:∀ w:Nat,w<2^64→∀ M k,X.call 172 [U w] M k=some (.tup [EnV (pgW w).1,I (pgW w).2],[])):PSound Tryz.prog 99 MkF:=by
 unfold MkF
 refine psound_spec hX mixed Tryz.func99 rfl fun ⟨⟨w,wr⟩,hw64⟩ w0 G=>⟨by show 2≤26;decide,rfl,?_⟩
 show AW ⟨Tryz.prog,X,26,w0,.pure G⟩ _ _ _
 have hc:Cx.OK ⟨Tryz.prog,X,26,w0,.pure G⟩:=⟨hX,mixed⟩
 simp only at hw64 ⊢
 have hp:=hpg w hw64
 rw [mkW_pg]
 obtain ⟨⟨⟨k,num,b1,b2,b3,hg⟩,er⟩,hx⟩:∃ x,x=pgW w:=⟨_,rfl⟩
 rw [← hx] at hp ⊢
 have o1:=or_u hw64 (show 16<2^64 by decide)
 have o2:=or_u (Nat.or_lt_two_pow hw64 (show 16<2^64 by decide)) (show 32<2^64 by decide)
 rw [show ((16:Nat):Int)=16 from rfl] at o1
 rw [show ((32:Nat):Int)=32 from rfl] at o2
 obtain ⟨w1,hw1⟩:∃ x,x=w ||| 16:=⟨_,rfl⟩
 rw [← hw1] at o1 o2 ⊢
 obtain ⟨w2,hw2⟩:∃ x,x=w1 ||| 32:=⟨_,rfl⟩
 rw [← hw2] at o2 ⊢
 simp only [EnV,U] at hp ⊢
 rcases Decidable.em (er=0) with h1|h1
 ·rw [if_neg (by simp [h1])]
  subst h1
  cases wr
  ·rw [if_pos rfl]
   have zS:=jj hp<|o1
   refine dM64 ?_
   repeat (intro K hK)
   clear zS
   refine ⟨by simp,?_⟩
   simp [leaves_iff,Tryz.f99]
   try exact dt
  ·rw [if_neg (by decide)]
   cases b1
   ·rw [if_pos rfl]
    have zS:=jj hp<|jj o1<|o2
    refine dM64 ?_
    repeat (intro K hK)
    clear zS
    refine ⟨by simp,?_⟩
    simp [leaves_iff,Tryz.f99]
    try exact dt
   ·rw [if_neg (by decide)]
    have zS:=jj hp<|jj o1<|o2
    refine dM64 ?_
    repeat (intro K hK)
    clear zS
    refine ⟨by simp,?_⟩
    simp [leaves_iff,Tryz.f99]
    try exact dt
 ·rw [if_pos h1]
  have zS:=jj hp<|h1
  refine dM64 ?_
  repeat (intro K hK)
  clear zS
  refine ⟨by simp,?_⟩
  simp [leaves_iff,Tryz.f99]
  try exact dt
noncomputable def OdF:List AV→Option AV:=specF (ι:={w:Nat // w<2^64}) (fun x=>[U x.1]) fun x=>retOf [U (odW x.1).1,I (odW x.1).2]
theorem s163 (X:AX) (hX:XOK Tryz.prog X) (hw:X.W wT) (hpg:∀ w:Nat,w<2^64→∀ M k,X.call 172 [U w] M k=some (.tup [EnV (pgW w).1,I (pgW w).2],[])):PSound Tryz.prog 163 OdF:=by
 unfold OdF
 refine psound_spec hX mixed Tryz.func163 rfl fun ⟨w,hw64⟩ w0 G=>⟨by show 1≤16;decide,rfl,?_⟩
 show AW ⟨Tryz.prog,X,16,w0,.pure G⟩ _ _ _
 have hc:Cx.OK ⟨Tryz.prog,X,16,w0,.pure G⟩:=⟨hX,mixed⟩
 simp only at hw64 ⊢
 have hp:=hpg w hw64
 rw [odW_pg]
 obtain ⟨⟨⟨k,num,b1,b2,b3,hg⟩,er⟩,hx⟩:∃ x,x=pgW w:=⟨_,rfl⟩
 rw [← hx] at hp ⊢
 have o1:=an_u hw64 (show 16<2^64 by decide)
 rw [show ((16:Nat):Int)=16 from rfl] at o1
 obtain ⟨w1,hw1⟩:∃ x,x=w &&& (18446744073709551615 - 16):=⟨_,rfl⟩
 rw [← hw1] at o1 ⊢
 simp only [EnV,U] at hp ⊢
 rcases Decidable.em (er=0) with h1|h1
 ·rw [if_neg (by simp [h1])]
  subst h1
  have zS:=jj hp<|o1
  refine dM64 ?_
  repeat (intro K hK)
  clear zS
  refine ⟨by simp,?_⟩
  simp [leaves_iff,Tryz.f163]
  try exact dt
 ·rw [if_pos h1]
  have zS:=jj hp<|h1
  refine dM64 ?_
  repeat (intro K hK)
  clear zS
  refine ⟨by simp,?_⟩
  simp [leaves_iff,Tryz.f163]
  try exact dt
end Go.AM
namespace Go.AM
open Go Go.Proofs
def numC (t:Tb):Bool :=
 decide (∀ n∈t.2.1,frmN n.1)&&(decide (∀ d∈t.2.2,frmN d.2∧0≤d.1∧d.1<64)&&(decide (t.2.1.Pairwise fun a b=>a.1<b.1)&&(decide (t.2.2.Pairwise fun a b=>a.1<b.1) &&
 (decide (∀ d∈t.2.2,∀ n∈t.2.1,n.1≠d.2)&&(decide (t.2.2.Pairwise fun a b=>a.2≠b.2)&&decide (∃ n∈t.2.1,n.1=t.1))))))
theorem numC_ok {t:Tb} (h:numC t=true):NumOK t:=by
 simp only [numC,Bool.and_eq_true,decide_eq_true_eq] at h
 obtain ⟨h1,h2,h3,h4,h5,h6,h7⟩:=h
 exact ⟨h1,h2,h3,h4,h5,h6,h7⟩
def chkC (t:Tb):Bool:=numC t&&decide ((wkA t).1=true∧false ∉ (wkA t).2.1∧(wkA t).2.2=t.2.2.map (·.1))
theorem chkC_ok {t:Tb} (h:chkC t=true):chk t=0:=by
 simp only [chkC,Bool.and_eq_true,decide_eq_true_eq] at h
 unfold chk
 rw [if_neg (by simp [numOK_iff.2 (numC_ok h.1)]),if_pos h.2]
def setC (t:Tb) (p w:Nat) (fs:List Int):Tb×Int :=
 if (decR w).2≠0∨(decR w).1.1=0∨(decR w).1.1=4∨(decR w).1.2.2.2.2.2=true then (zT,3)
 else if (lsT t p).2.2≠0 then (zT,7)
 else if fs.length=(lsT t p).2.1∧usB t.2.1 t.2.2 fs=true then (putT (t.1,dpN t.1 t.2.2 p t.2.1 fs,t.2.2) p w,0)
 else (zT,1)
theorem setC_ok {t:Tb} {p w:Nat} {fs:List Int} (h:chkC t=true) (hp:p<512):setP t p w fs=setC t p w fs:=by
 unfold setP
 rw [if_neg (by rw [ckd_z (chkC_ok h) (by omega) (by omega)];decide),Int.toNat_natCast]
 rfl
theorem walkC_ok {t:Tb} {p:Nat} (h:chkC t=true) (hp:p<512):walkT t p=((lsT t p).2.2,(lsT t p).2.1,0):=by
 rw [walkT_z (ckd_z (chkC_ok h) (by omega) (by omega)),Int.toNat_natCast]
theorem lstC_ok {t:Tb} (h:chkC t=true):lstT t=lsA t 512:=by unfold lstT;rw [if_pos (chkC_ok h)]
def aT:Tb:=(10,[(10,zs8)],[])
def bT:Tb:=(10,[(10,[0,2820,0,0,0,0,0,0]),(11,[3076,0,0,0,0,0,0,0]),(12,[0,0,0,0,0,0,1305,0])],[])
def hT:Tb:=(10,[(10,[0,2820,0,0,0,0,0,0]),(11,[0,4201,0,0,0,0,0,0])],[(9,12)])
theorem aC:chkC aT=true:=by kernel_rfl
theorem bC:chkC bT=true:=by kernel_rfl
theorem hC:chkC hT=true:=by kernel_rfl
end Go.AM
namespace Go.AM
open Go Go.Proofs
noncomputable def repP (t:Tb) (p:Int) (w:Nat):Tb×Nat×Int :=
 if ckd t p 512≠0 then (zT,0,ckd t p 512)
 else if (lsT t p.toNat).2.2=0 then (zT,0,6)
 else if (decR w).2≠0∨(decR w).1.1=0∨(decR w).1.1=4∨suitB (decR w).1 (lsT t p.toNat).2.1=false then (zT,0,3)
 else (putT t p.toNat w,(lsT t p.toNat).2.2,0)
set_option maxHeartbeats 8000000 in
theorem s61 (X:AX) (hX:XOK Tryz.prog X) (hw:X.W wT) (hck:∀ t:Tb,tbOK t→∀ (n lim:Int) M k,X.call 109 [TbV t,I n,I lim] M k=some (I (ckd t n lim),[]))
  (hla:∀ (t:Tb) (p:Nat),ptO t p→∀ M n,X.call 110 [TbV t,I p] M n=some (stV (lsT t p),[]))
  (hdc:∀ n:Nat,n<2^64→∀ M k,X.call 56 [U n] M k=some (.tup [EnV (decR n).1,I (decR n).2],[]))
  (hsu:∀ (e:En) (l:Nat) M n,X.call 117 [EnV e,I l] M n=some (B (suitB e l),[]))
  (hcl:∀ t:Tb,tbOK t→∀ M n,X.call 128 [TbV t] M n=some (TbC t n,[(n,.vec 1 9 false (nrows t.2.1)),(n+1,.vec 1 2 false (prows t.2.2))]))
  (hpu:X.call 130=callG puS) :
  PSound Tryz.prog 61 (specF (ι:={x:Tb×Int×Nat // tbOK x.1∧x.2.2<2^64}) (fun x=>[TbV x.1.1,I x.1.2.1,U x.1.2.2]) fun x=>retOf [TbO (repP x.1.1 x.1.2.1 x.1.2.2).1,U (repP x.1.1 x.1.2.1 x.1.2.2).2.1,I (repP x.1.1 x.1.2.1 x.1.2.2).2.2]):=by
 refine psound_spec hX mixed Tryz.func61 rfl fun ⟨⟨⟨r,ns,ds⟩,pI,w⟩,ht,hw64⟩ w0 G=>⟨by show 3≤61;decide,rfl,?_⟩
 show AW ⟨Tryz.prog,X,61,w0,.pure G⟩ _ _ _
 have hc:Cx.OK ⟨Tryz.prog,X,61,w0,.pure G⟩:=⟨hX,mixed⟩
 simp only at hw64 ht ⊢
 have hck':=hck _ ht pI 512
 have hl1:ns.length≤1000000:=ht.2.1
 have hl2:ds.length≤1000000:=ht.2.2
 rcases Decidable.em (ckd (r,ns,ds) pI 512≠0) with hk|hk
 ·have e:repP (r,ns,ds) pI w=(zT,0,ckd (r,ns,ds) pI 512):=by unfold repP;rw [if_pos hk]
  rw [e]
  obtain ⟨c,hc0⟩:∃ c,c=ckd (r,ns,ds) pI 512:=⟨_,rfl⟩
  rw [← hc0] at hck' hk ⊢
  simp only [TbV,TbO,zT,U] at hck' ⊢
  have zS:=jj hck'<|hk
  refine dM64 ?_
  repeat (intro K hK)
  clear zS
  refine ⟨by simp,?_⟩
  simp [leaves_iff,Tryz.f61,nrows,prows]
  try exact dt
 ·obtain ⟨hpv,hp0,hp1⟩:=ckd_pt ht hk
  obtain ⟨p,rfl⟩:=Int.eq_ofNat_of_zero_le hp0
  have hp:p<512:=by omega
  have hz:ckd (r,ns,ds) p 512=0:=by omega
  rw [hz] at hck'
  have hdc':=hdc w hw64
  have hla':=hla _ _ (hpv.pto ht hp)
  have hcl':=hcl _ ht
  have hpu':=fun a b c hab hac hbc M n=>@callPu a b c hab hac hbc r ns ds p w (hpv.pto ht hp) hw64 0 0 M n
  rw [← hpu] at hpu'
  have hPl:(putT (r,ns,ds) p w).2.1.length=ns.length:=setN_len
  have hP0:putT (r,ns,ds) p w=(r,(putT (r,ns,ds) p w).2.1,ds):=rfl
  have eS:repP (r,ns,ds) p w=if (lsT (r,ns,ds) p).2.2=0 then (zT,0,6) else if (decR w).2≠0∨(decR w).1.1=0∨(decR w).1.1=4∨suitB (decR w).1 (lsT (r,ns,ds) p).2.1=false then (zT,0,3) else (putT (r,ns,ds) p w,(lsT (r,ns,ds) p).2.2,0):=by
   unfold repP
   rw [if_neg hk,Int.toNat_natCast]
  rw [eS,hP0]
  obtain ⟨R,hR⟩:∃ R,R=(putT (r,ns,ds) p w).2.1:=⟨_,rfl⟩
  rw [← hR] at hPl hpu' ⊢
  clear hR hP0 eS
  obtain ⟨⟨a0,l0,w0'⟩,hS⟩:∃ S,S=lsT (r,ns,ds) p:=⟨_,rfl⟩
  rw [← hS] at hla' ⊢
  have hsu':=hsu (decR w).1 l0
  obtain ⟨⟨⟨k,f,d,a,x,h⟩,e⟩,hE⟩:∃ r,r=decR w:=⟨_,rfl⟩
  rw [← hE] at hdc' hsu' ⊢
  simp only at hsu' ⊢
  obtain ⟨su,hsu0⟩:∃ b,b=suitB (k,f,d,a,x,h) l0:=⟨_,rfl⟩
  rw [← hsu0] at hsu' ⊢
  clear hS hE hsu0 hck hla hdc hsu
  simp only [TbV,TbO,TbC,EnV,stV,srow,U,Nat.zero_add] at hck' hla' hdc' hcl' hsu' hpu' ⊢
  rcases Decidable.em (w0'=0) with hw0|hw0
  ·subst hw0
   rw [if_pos rfl]
   simp only [zT]
   have zS:=jj hck'<|hla'
   refine dM64 ?_
   repeat (intro K hK)
   clear zS
   all_goals refine ⟨by simp,?_⟩
   all_goals simp [leaves_iff,Tryz.f61,nrows,prows]
   all_goals try exact dt
  ·rw [if_neg hw0]
   have hw0I:¬ (w0':Int)=0:=by omega
   rcases Decidable.em (e=0) with he|he
   ·subst he
    rcases Decidable.em (k=0) with hk1|hk1
    ·subst hk1
     rw [if_pos (by simp)]
     simp only [zT]
     have zS:=jj hck'<|jj hla'<|jj hdc'<|jj hw0<|hw0I
     refine dM64 ?_
     repeat (intro K hK)
     clear zS
     all_goals refine ⟨by simp,?_⟩
     all_goals simp [leaves_iff,Tryz.f61,nrows,prows]
     all_goals try exact dt
    ·rcases Decidable.em (k=4) with hk2|hk2
     ·subst hk2
      rw [if_pos (by simp)]
      simp only [zT]
      have zS:=jj hck'<|jj hla'<|jj hdc'<|jj hw0<|hw0I
      refine dM64 ?_
      repeat (intro K hK)
      clear zS
      all_goals refine ⟨by simp,?_⟩
      all_goals simp [leaves_iff,Tryz.f61,nrows,prows]
      all_goals try exact dt
     ·cases su with
      | false =>
       rw [if_pos (by simp)]
       simp only [zT]
       have zS:=jj hck'<|jj hla'<|jj hdc'<|jj hw0<|jj hw0I<|jj hk1<|jj hk2<|hsu'
       refine dM64 ?_
       repeat (intro K hK)
       clear zS
       all_goals refine ⟨by simp,?_⟩
       all_goals simp [leaves_iff,Tryz.f61,nrows,prows]
       all_goals try exact dt
      | true =>
       rw [if_neg (by simp [hk1,hk2])]
       have hpq:=hpu' 752 736 737 (by decide) (by decide) (by decide)
       have zS:=jj hck'<|jj hla'<|jj hdc'<|jj hw0<|jj hw0I<|jj hk1<|jj hk2<|jj hsu'<|jj hcl'<|hpq
       refine dF64 ?_
       repeat (intro K hK)
       clear zS
       have tkR:List.take ns.length (nrows R)=nrows R:=List.take_of_length_le (by simp;omega)
       have tkd:List.take ds.length (prows ds)=prows ds:=List.take_of_length_le (by simp)
       refine ⟨by simp,?_⟩
       simp [leaves_iff,Tryz.f61,hPl,tkR,tkd]
       try exact dt
   ·rw [if_pos (by simp [he])]
    simp only [zT]
    have zS:=jj hck'<|jj hla'<|jj hdc'<|jj hw0<|jj hw0I<|he
    refine dM64 ?_
    repeat (intro K hK)
    clear zS
    all_goals refine ⟨by simp,?_⟩
    all_goals simp [leaves_iff,Tryz.f61,nrows,prows]
    all_goals try exact dt
end Go.AM
namespace Go.AM
open Go Go.Proofs
def OwT (M:Nat→AO) (t:Tb) (a va b vb:Nat):Prop:=(∃ f,M a=.vec va 9 f (nrows t.2.1))∧∃ f,M b=.vec vb 2 f (prows t.2.2)
def TbS (t:Tb) (a va b vb:Nat):AV:=.agg [I t.1,.sl a va 9 0 t.2.1.length,.sl b vb 2 0 t.2.2.length]
theorem peek_tab {M:Nat→AO} {t:Tb} {a va b vb:Nat} {rest rs:List AV} (h:OwT M t a va b vb) (hr:peekVals M rest=some rs):peekVals M (TbS t a va b vb::rest)=some (TbV t::rs):=by
 obtain ⟨⟨f1,h1⟩,f2,h2⟩:=h
 have e1:List.take t.2.1.length (nrows t.2.1)=nrows t.2.1:=List.take_of_length_le (by simp)
 have e2:List.take t.2.2.length (prows t.2.2)=prows t.2.2:=List.take_of_length_le (by simp)
 simp [TbS,TbV,hr,h1,h2,e1,e2]
end Go.AM
namespace Go.AM
open Go Go.Proofs
def outT (t:Tb) (n:Nat):List (Nat×AO):=[(n,.vec 1 9 false (nrows t.2.1)),(n+1,.vec 1 2 false (prows t.2.2))]
end Go.AM
namespace Go.AM
open Go Go.Proofs
noncomputable def FbF:List AV→Option AV:=specF (ι:=Bool×Int) (fun x=>[B x.1,U x.2]) fun x=>retOf [U (fb x.1 x.2)]
theorem cFb (b:Bool) (c:Int) (M:Nat→AO) (n:Nat):callP FbF [B b,.v (.int .u64 c)] M n=some (.v (.int .u64 (fb b c)),[]) :=
 callP_spec (ι:=Bool×Int) (A:=fun x=>[B x.1,U x.2]) (R:=fun x=>retOf [U (fb x.1 x.2)]) (b,c) (by simp [U]) (by
  rintro ⟨b',c'⟩ e
  simp [B,U] at e;obtain ⟨rfl,rfl⟩:=e;rfl) (by simp [U])
noncomputable def FmF:List AV→Option AV:=specF (ι:={e:En // 0≤e.1∧e.1≤4}) (fun x=>[EnV x.1]) fun x=>retOf [B (frmE x.1)]
theorem cFm (k f:Int) (d a x h:Bool) (hk:0≤k∧k≤4) (M:Nat→AO) (n:Nat):callP FmF [.agg [I k,I f,B d,B a,B x,B h]] M n=some (B (frmE (k,f,d,a,x,h)),[]) :=
 callP_spec (ι:={e:En // 0≤e.1∧e.1≤4}) (A:=fun x=>[EnV x.1]) (R:=fun x=>retOf [B (frmE x.1)]) ⟨(k,f,d,a,x,h),hk⟩ (by simp [EnV]) (by
  rintro ⟨e',h'⟩ e
  simp only [List.cons.injEq,EnV_inj,and_true] at e;subst e;rfl) (by simp)
noncomputable def EncF:List AV→Option AV:=specF (ι:=En) (fun x=>[EnV x]) fun x=>retOf [U (encR x).1,I (encR x).2]
theorem cEn (k f:Int) (d a x h:Bool) (M:Nat→AO) (n:Nat):callP EncF [.agg [I k,I f,B d,B a,B x,B h]] M n=some (.tup [U (encR (k,f,d,a,x,h)).1,I (encR (k,f,d,a,x,h)).2],[]) :=
 callP_spec (ι:=En) (A:=fun x=>[EnV x]) (R:=fun x=>retOf [U (encR x).1,I (encR x).2]) (k,f,d,a,x,h) (by simp [EnV]) (by
  rintro e' e
  simp only [List.cons.injEq,EnV_inj,and_true] at e;subst e;rfl) (by simp [U])
noncomputable def DecF:List AV→Option AV:=specF (ι:={n:Nat // n<2^64}) (fun x=>[U x.1]) fun x=>retOf [EnV (decR x.1).1,I (decR x.1).2]
theorem u_inj {a b:Nat} (h:[U a]=[U b]):a=b:=by
 simp only [List.cons.injEq,U,AV.v.injEq,Value.int.injEq,true_and,and_true] at h;omega
theorem cDe (w:Nat) (hw:w<2^64) (M:Nat→AO) (n:Nat):callP DecF [U w] M n=some (.tup [EnV (decR w).1,I (decR w).2],[]) :=
 callP_spec (ι:={n:Nat // n<2^64}) (A:=fun x=>[U x.1]) (R:=fun x=>retOf [EnV (decR x.1).1,I (decR x.1).2]) ⟨w,hw⟩ (by simp [U]) (by
  rintro ⟨w',h'⟩ e
  have:=u_inj e
  simp only at this
  subst this;rfl) (by simp [EnV])
noncomputable def Te0:AX:=(((((AX.start wT).eqAt 103).eqAt 170).eqAt 86).eqAt 148).eqAt 150
theorem w0T:Te0.W wT:=⟨rfl,rfl⟩
theorem enc_flat (x:En):(retOf [U (encR x).1,I (encR x).2]).flat:=by simp [retOf,AV.flat,AV.flatV,AV.flat1,U]
theorem dec_flat (n:Nat):(retOf [EnV (decR n).1,I (decR n).2]).flat:=by simp [retOf,AV.flat,AV.flatV,AV.flat1,EnV]
end Go.AM
namespace Go.AM
open Go Go.Proofs
theorem nrow_pl {l:List Nd}:∀ e∈nrows l,∀ a∈e,a.plain:=by
 intro e he a ha
 obtain ⟨x,_,rfl⟩:=List.mem_map.1 he
 simp only [nrow,wcs,List.mem_cons,List.mem_map] at ha
 rcases ha with rfl|⟨y,_,rfl⟩<;>trivial
theorem prow_pl {l:List Dp}:∀ e∈prows l,∀ a∈e,a.plain:=by
 intro e he a ha
 obtain ⟨x,_,rfl⟩:=List.mem_map.1 he
 simp at ha
 rcases ha with rfl|rfl<;>trivial
theorem srow_pl {l:List Stp}:∀ e∈srows l,∀ a∈e,a.plain:=by
 intro e he a ha
 obtain ⟨x,_,rfl⟩:=List.mem_map.1 he
 simp [srow] at ha
 rcases ha with rfl|rfl|rfl<;>trivial
theorem irow_pl {l:List Int}:∀ e∈irows l,∀ a∈e,a.plain:=by
 intro e he a ha
 obtain ⟨x,_,rfl⟩:=List.mem_map.1 he
 simp at ha
 subst ha;trivial
theorem erow_pl {l:List Pe}:∀ e∈erows l,∀ a∈e,a.plain:=by
 intro e he a ha
 obtain ⟨x,_,rfl⟩:=List.mem_map.1 he
 simp [erow] at ha
 rcases ha with rfl|rfl<;>trivial
theorem mem_mset:∀ {l:List (List Int×AV)} {q:List Int} {b:AV} {p:List Int×AV},p∈mset l q b→p∈l∨p=(q,b)
 | [],q,b,p,h=>by simp [mset] at h;exact .inr h
 | (k,a)::r,q,b,p,h=>by
  simp only [mset] at h
  split at h
  ·rcases List.mem_cons.1 h with h|h
   ·exact .inr h
   ·exact .inl (by simp [h])
  ·rcases List.mem_cons.1 h with h|h
   ·exact .inl (by simp [h])
   ·rcases mem_mset h with h|h
    ·exact .inl (by simp [h])
    ·exact .inr h
theorem idxE_pl {ns:List Nd}:∀ {n:Nat},∀ p∈idxE ns n,p.2.plain
 | 0,p,h=>by simp [idxE] at h
 | n+1,p,h=>by
  simp only [idxE] at h
  rcases mem_mset h with h|h
  ·exact idxE_pl p h
  ·rw [h];trivial
theorem TbO_fl {t:Tb}:(TbO t).flatV:=by
 intro a ha
 simp at ha
 rcases ha with rfl|rfl|rfl
 ·trivial
 ·exact nrow_pl
 ·exact prow_pl
theorem cT1 {D:Tb→Prop} {R:Tb→AV} {t:Tb} (h:D t) (M:Nat→AO) (n:Nat) {a:AV} {u:List (Nat×AO)} {k:Nat} (ho:openRet n (R t)=(a,u,k)) (hk:k≤n+16):callP (specF (ι:={x:Tb // D x}) (fun x=>[TbV x.1]) fun x=>R x.1) [TbV t] M n=some (a,u):=by
 rw [callP_spec (ι:={x:Tb // D x}) (A:=fun x=>[TbV x.1]) (R:=fun x=>R x.1) ⟨t,h⟩ (by simp [TbV]) ?_ (by rw [ho];exact hk),ho]
 rintro ⟨j,hj⟩ e
 simp only [List.cons.injEq,TbV_inj,and_true] at e
 subst e;rfl
theorem cT2 {D:Tb→Int→Prop} {R:Tb→Int→AV} {t:Tb} {x:Int} (h:D t x) (M:Nat→AO) (n:Nat) {a:AV} {u:List (Nat×AO)} {k:Nat} (ho:openRet n (R t x)=(a,u,k)) (hk:k≤n+16):callP (specF (ι:={x:Tb×Int // D x.1 x.2}) (fun x=>[TbV x.1.1,I x.1.2]) fun x=>R x.1.1 x.1.2) [TbV t,I x] M n=some (a,u):=by
 rw [callP_spec (ι:={x:Tb×Int // D x.1 x.2}) (A:=fun x=>[TbV x.1.1,I x.1.2]) (R:=fun x=>R x.1.1 x.1.2) ⟨(t,x),h⟩ (by simp [TbV]) ?_ (by rw [ho];exact hk),ho]
 rintro ⟨⟨j,y⟩,hj⟩ e
 simp only [List.cons.injEq,TbV_inj,I,AV.v.injEq,Value.int.injEq,true_and,and_true] at e
 obtain ⟨rfl,rfl⟩:=e;rfl
theorem cT3 {D:Tb→Nat→Prop} {R:Tb→Nat→AV} {t:Tb} {x:Nat} (h:D t x) (M:Nat→AO) (n:Nat) {a:AV} {u:List (Nat×AO)} {k:Nat} (ho:openRet n (R t x)=(a,u,k)) (hk:k≤n+16):callP (specF (ι:={x:Tb×Nat // D x.1 x.2}) (fun x=>[TbV x.1.1,I x.1.2]) fun x=>R x.1.1 x.1.2) [TbV t,I x] M n=some (a,u):=by
 rw [callP_spec (ι:={x:Tb×Nat // D x.1 x.2}) (A:=fun x=>[TbV x.1.1,I x.1.2]) (R:=fun x=>R x.1.1 x.1.2) ⟨(t,x),h⟩ (by simp [TbV]) ?_ (by rw [ho];exact hk),ho]
 rintro ⟨⟨j,y⟩,hj⟩ e
 simp only [List.cons.injEq,TbV_inj,I,AV.v.injEq,Value.int.injEq,true_and,and_true,Int.ofNat_inj] at e
 obtain ⟨rfl,rfl⟩:=e;rfl
theorem oT1 {D:Tb→Prop} {R:Tb→AV} {t:Tb} (h:D t) {p vp q vq:Nat} {M:Nat→AO} (hM:OwT M t p vp q vq) (n:Nat) {a:AV} {u:List (Nat×AO)} {k:Nat} (ho:openRet n (R t)=(a,u,k)) (hk:k≤n+16):callP (specF (ι:={x:Tb // D x}) (fun x=>[TbV x.1]) fun x=>R x.1) [TbS t p vp q vq] M n=some (a,u):=by
 rw [callP_spec (ι:={x:Tb // D x}) (A:=fun x=>[TbV x.1]) (R:=fun x=>R x.1) ⟨t,h⟩ (peek_tab hM rfl) ?_ (by rw [ho];exact hk),ho]
 rintro ⟨j,hj⟩ e
 simp only [List.cons.injEq,TbV_inj,and_true] at e
 subst e;rfl
theorem oT3 {D:Tb→Nat→Prop} {R:Tb→Nat→AV} {t:Tb} {x:Nat} (h:D t x) {p vp q vq:Nat} {M:Nat→AO} (hM:OwT M t p vp q vq) (n:Nat) {a:AV} {u:List (Nat×AO)} {k:Nat} (ho:openRet n (R t x)=(a,u,k)) (hk:k≤n+16):callP (specF (ι:={x:Tb×Nat // D x.1 x.2}) (fun x=>[TbV x.1.1,I x.1.2]) fun x=>R x.1.1 x.1.2) [TbS t p vp q vq,I x] M n=some (a,u):=by
 rw [callP_spec (ι:={x:Tb×Nat // D x.1 x.2}) (A:=fun x=>[TbV x.1.1,I x.1.2]) (R:=fun x=>R x.1.1 x.1.2) ⟨(t,x),h⟩ (peek_tab hM (by simp)) ?_ (by rw [ho];exact hk),ho]
 rintro ⟨⟨j,y⟩,hj⟩ e
 simp only [List.cons.injEq,TbV_inj,I,AV.v.injEq,Value.int.injEq,true_and,and_true,Int.ofNat_inj] at e
 obtain ⟨rfl,rfl⟩:=e;rfl
end Go.AM
namespace Go.AM
open Go Go.Proofs
set_option maxRecDepth 4000
noncomputable def EtF:List AV→Option AV:=specF (ι:={n:Nat // n<2^64}) (fun x=>[U x.1]) fun x=>retOf [EnV (decR x.1).1]
theorem cEt (w:Nat) (hw:w<2^64) (M:Nat→AO) (n:Nat):callP EtF [U w] M n=some (EnV (decR w).1,[]) :=
 callP_spec (ι:={n:Nat // n<2^64}) (A:=fun x=>[U x.1]) (R:=fun x=>retOf [EnV (decR x.1).1]) ⟨w,hw⟩ (by simp [U]) (by
  rintro ⟨w',h'⟩ e
  have:=u_inj e
  simp only at this
  subst this;rfl) (by simp [EnV])
noncomputable def IfF:List AV→Option AV:=specF (ι:=Int) (fun x=>[I x]) fun x=>retOf [B (decide (0≤x∧x≤4294967295))]
theorem cIf (x:Int) (M:Nat→AO) (n:Nat):callP IfF [I x] M n=some (B (decide (0≤x∧x≤4294967295)),[]) :=
 callP_spec (ι:=Int) (A:=fun x=>[I x]) (R:=fun x=>retOf [B (decide (0≤x∧x≤4294967295))]) x (by simp) (by
  intro j e
  simp at e;subst e;rfl) (by simp)
noncomputable def FewF:List AV→Option AV:=specF (ι:=Tb) (fun x=>[TbV x]) fun x=>retOf [B (decide (x.2.1.length≤80∧x.2.2.length≤70))]
theorem cFew (t:Tb) (M:Nat→AO) (n:Nat):callP FewF [TbV t] M n=some (B (decide (t.2.1.length≤80∧t.2.2.length≤70)),[]) :=
 callP_spec (ι:=Tb) (A:=fun x=>[TbV x]) (R:=fun x=>retOf [B (decide (x.2.1.length≤80∧x.2.2.length≤70))]) t (by simp [TbV]) (by
  intro j e
  simp only [List.cons.injEq,TbV_inj,and_true] at e;subst e;rfl) (by simp)
noncomputable def DigF:List AV→Option AV:=specF (ι:={x:Nat×Nat // x.1<512∧x.2≤2}) (fun x=>[I x.1.1,I x.1.2]) fun x=>retOf [I (dig x.1.1 x.1.2)]
theorem cDig (p l:Nat) (h1:p<512) (h2:l≤2) (M:Nat→AO) (n:Nat):callP DigF [I p,I l] M n=some (I (dig p l),[]) :=
 callP_spec (ι:={x:Nat×Nat // x.1<512∧x.2≤2}) (A:=fun x=>[I x.1.1,I x.1.2]) (R:=fun x=>retOf [I (dig x.1.1 x.1.2)]) ⟨(p,l),h1,h2⟩ (by simp) (by
  rintro ⟨⟨p',l'⟩,h'⟩ e
  simp only [List.cons.injEq,I,AV.v.injEq,Value.int.injEq,true_and,and_true,Int.ofNat_inj] at e
  obtain ⟨rfl,rfl⟩:=e;rfl) (by simp)
noncomputable def DgtF:List AV→Option AV:=specF (ι:={x:Nat×Nat // x.1<512∧x.2≤2}) (fun x=>[I x.1.1,I x.1.2]) fun x=>retOf [I (dgt x.1.1 x.1.2)]
theorem cDgt (p l:Nat) (h1:p<512) (h2:l≤2) (M:Nat→AO) (n:Nat):callP DgtF [I p,I l] M n=some (I (dgt p l),[]) :=
 callP_spec (ι:={x:Nat×Nat // x.1<512∧x.2≤2}) (A:=fun x=>[I x.1.1,I x.1.2]) (R:=fun x=>retOf [I (dgt x.1.1 x.1.2)]) ⟨(p,l),h1,h2⟩ (by simp) (by
  rintro ⟨⟨p',l'⟩,h'⟩ e
  simp only [List.cons.injEq,I,AV.v.injEq,Value.int.injEq,true_and,and_true,Int.ofNat_inj] at e
  obtain ⟨rfl,rfl⟩:=e;rfl) (by simp)
noncomputable def SuF:List AV→Option AV:=specF (ι:=En×Nat) (fun x=>[EnV x.1,I x.2]) fun x=>retOf [B (suitB x.1 x.2)]
theorem cSu (e:En) (l:Nat) (M:Nat→AO) (n:Nat):callP SuF [EnV e,I l] M n=some (B (suitB e l),[]) :=
 callP_spec (ι:=En×Nat) (A:=fun x=>[EnV x.1,I x.2]) (R:=fun x=>retOf [B (suitB x.1 x.2)]) (e,l) (by simp [EnV]) (by
  rintro ⟨e',l'⟩ e
  simp only [List.cons.injEq,EnV_inj,I,AV.v.injEq,Value.int.injEq,true_and,and_true,Int.ofNat_inj] at e
  obtain ⟨rfl,rfl⟩:=e;rfl) (by simp)
noncomputable def FiF:List AV→Option AV:=specF (ι:={x:Tb×Int // tbOK x.1}) (fun x=>[TbV x.1.1,I x.1.2]) fun x=>retOf [I (fstG (fun n=>decide (n.1=x.1.2)) x.1.1.2.1)]
theorem cFi (t:Tb) (x:Int) (ht:tbOK t) (M:Nat→AO) (n:Nat):callP FiF [TbV t,I x] M n=some (I (fstG (fun n:Nd=>decide (n.1=x)) t.2.1),[]):=cT2 (D:=fun t _=>tbOK t) (R:=fun t x=>retOf [I (fstG (fun n:Nd=>decide (n.1=x)) t.2.1)]) ht M n rfl (by simp [retOf,openRet,openVals,openVal,openLeaves,openLeaf,stV,srow,U,TbO])
noncomputable def DpF:List AV→Option AV:=specF (ι:={x:Tb×Int // tbOK x.1}) (fun x=>[TbV x.1.1,I x.1.2]) fun x=>retOf [I (fstG (fun n=>decide (n.1=x.1.2)) x.1.1.2.2)]
theorem cDp (t:Tb) (x:Int) (ht:tbOK t) (M:Nat→AO) (n:Nat):callP DpF [TbV t,I x] M n=some (I (fstG (fun n:Dp=>decide (n.1=x)) t.2.2),[]):=cT2 (D:=fun t _=>tbOK t) (R:=fun t x=>retOf [I (fstG (fun n:Dp=>decide (n.1=x)) t.2.2)]) ht M n rfl (by simp [retOf,openRet,openVals,openVal,openLeaves,openLeaf,stV,srow,U,TbO])
noncomputable def RaF:List AV→Option AV:=specF (ι:={x:Tb // tbOK x}) (fun x=>[TbV x.1]) fun x=>retOf [B (rngB x.1)]
theorem cRa (t:Tb) (ht:tbOK t) (M:Nat→AO) (n:Nat):callP RaF [TbV t] M n=some (B (rngB t),[]):=cT1 (D:=tbOK) (R:=fun t=>retOf [B (rngB t)]) ht M n rfl (by simp [retOf,openRet,openVals,openVal,openLeaves,openLeaf,stV,srow,U,TbO])
noncomputable def OrF:List AV→Option AV:=specF (ι:={x:Tb // tbOK x}) (fun x=>[TbV x.1]) fun x=>retOf [B (ascB x.1)]
theorem cOr (t:Tb) (ht:tbOK t) (M:Nat→AO) (n:Nat):callP OrF [TbV t] M n=some (B (ascB t),[]):=cT1 (D:=tbOK) (R:=fun t=>retOf [B (ascB t)]) ht M n rfl (by simp [retOf,openRet,openVals,openVal,openLeaves,openLeaf,stV,srow,U,TbO])
noncomputable def TwF:List AV→Option AV:=specF (ι:={x:Tb // tbOK x}) (fun x=>[TbV x.1]) fun x=>retOf [B (twB x.1)]
theorem cTw (t:Tb) (ht:tbOK t) (M:Nat→AO) (n:Nat):callP TwF [TbV t] M n=some (B (twB t),[]):=cT1 (D:=tbOK) (R:=fun t=>retOf [B (twB t)]) ht M n rfl (by simp [retOf,openRet,openVals,openVal,openLeaves,openLeaf,stV,srow,U,TbO])
noncomputable def IxF:List AV→Option AV:=specF (ι:={x:Tb // tbOK x}) (fun x=>[TbV x.1]) fun x=>retOf [.om 1 (idxE x.1.2.1 x.1.2.1.length)]
theorem cIx (t:Tb) (ht:tbOK t) (M:Nat→AO) (n:Nat):callP IxF [TbV t] M n=some (.mp n 1,[(n,.map 1 1 (idxE t.2.1 t.2.1.length))]):=cT1 (D:=tbOK) (R:=fun t=>retOf [.om 1 (idxE t.2.1 t.2.1.length)]) ht M n rfl (by simp [retOf,openRet,openVals,openVal,openLeaves,openLeaf,stV,srow,U,TbO])
noncomputable def NuF:List AV→Option AV:=specF (ι:={x:Tb // tbOK x}) (fun x=>[TbV x.1]) fun x=>retOf [I (numB x.1)]
theorem cNu (t:Tb) (ht:tbOK t) (M:Nat→AO) (n:Nat):callP NuF [TbV t] M n=some (I (numB t),[]):=cT1 (D:=tbOK) (R:=fun t=>retOf [I (numB t)]) ht M n rfl (by simp [retOf,openRet,openVals,openVal,openLeaves,openLeaf,stV,srow,U,TbO])
noncomputable def ChF:List AV→Option AV:=specF (ι:={x:Tb // tbOK x}) (fun x=>[TbV x.1]) fun x=>retOf [I (chk x.1)]
theorem cCh (t:Tb) (ht:tbOK t) (M:Nat→AO) (n:Nat):callP ChF [TbV t] M n=some (I (chk t),[]):=cT1 (D:=tbOK) (R:=fun t=>retOf [I (chk t)]) ht M n rfl (by simp [retOf,openRet,openVals,openVal,openLeaves,openLeaf,stV,srow,U,TbO])
theorem s40_c (X:AX) (hX:XOK Tryz.prog X) (hw:X.W wT) (hra:∀ t:Tb,tbOK t→∀ M n,X.call 119 [TbV t] M n=some (B (rngB t),[])) (hor:∀ t:Tb,tbOK t→∀ M n,X.call 120 [TbV t] M n=some (B (ascB t),[]))
  (htw:∀ t:Tb,tbOK t→∀ M n,X.call 121 [TbV t] M n=some (B (twB t),[])) (hfi:∀ (t:Tb) f,tbOK t→∀ M n,X.call 122 [TbV t,I f] M n=some (I (fstG (fun n=>decide (n.1=f)) t.2.1),[]))
  (hwa:X.call 123=callG (rwS 2)):PSound Tryz.prog 40 ChF:=by
 have h:=s40 X hX hw hra hor htw hfi hwa
 have e:(fun x:{x:Tb // tbOK x}=>retOf [I (chkR x.1)])=fun x=>retOf [I (chk x.1)]:=funext fun x=>by rw [chkR_eq x.2]
 rw [e] at h
 exact h
noncomputable def PaF:List AV→Option AV:=specF (ι:={x:Tb×Nat // ptO x.1 x.2}) (fun x=>[TbV x.1.1,I x.1.2]) fun x=>retOf [.ow 3 (srows (ptL x.1.1 x.1.2))]
theorem cPa (t:Tb) (p:Nat) (h:ptO t p) (M:Nat→AO) (n:Nat):callP PaF [TbV t,I p] M n=some (.sl n 1 3 0 (ptL t p).length,[(n,.vec 1 3 false (srows (ptL t p)))]):=cT3 (D:=ptO) (R:=fun t p=>retOf [.ow 3 (srows (ptL t p))]) (k:=n+1) h M n (by simp [retOf,openRet,openVal,openLeaf,srows]) (by omega)
noncomputable def LaF:List AV→Option AV:=specF (ι:={x:Tb×Nat // ptO x.1 x.2}) (fun x=>[TbV x.1.1,I x.1.2]) fun x=>retOf [stV (lsT x.1.1 x.1.2)]
theorem cLa (t:Tb) (p:Nat) (h:ptO t p) (M:Nat→AO) (n:Nat):callP LaF [TbV t,I p] M n=some (stV (lsT t p),[]):=cT3 (D:=ptO) (R:=fun t p=>retOf [stV (lsT t p)]) h M n rfl (by simp [retOf,openRet,openVals,openVal,openLeaves,openLeaf,stV,srow,U,TbO])
noncomputable def StF:List AV→Option AV:=specF (ι:={x:Tb×Nat // ptO x.1 x.2}) (fun x=>[TbV x.1.1,I x.1.2]) fun x=>retOf [I (lsT x.1.1 x.1.2).1,I (lsT x.1.1 x.1.2).2.1]
theorem cSt (t:Tb) (p:Nat) (h:ptO t p) (M:Nat→AO) (n:Nat):callP StF [TbV t,I p] M n=some (.tup [I (lsT t p).1,I (lsT t p).2.1],[]):=cT3 (D:=ptO) (R:=fun t p=>retOf [I (lsT t p).1,I (lsT t p).2.1]) h M n rfl (by simp [retOf,openRet,openVals,openVal,openLeaves,openLeaf,stV,srow,U,TbO])
noncomputable def CkF:List AV→Option AV:=specF (ι:={x:Tb×Int×Int // tbOK x.1}) (fun x=>[TbV x.1.1,I x.1.2.1,I x.1.2.2]) fun x=>retOf [I (ckd x.1.1 x.1.2.1 x.1.2.2)]
theorem cCk (t:Tb) (ht:tbOK t) (a b:Int) (M:Nat→AO) (n:Nat):callP CkF [TbV t,I a,I b] M n=some (I (ckd t a b),[]) :=
 callP_spec (ι:={x:Tb×Int×Int // tbOK x.1}) (A:=fun x=>[TbV x.1.1,I x.1.2.1,I x.1.2.2]) (R:=fun x=>retOf [I (ckd x.1.1 x.1.2.1 x.1.2.2)]) ⟨(t,a,b),ht⟩ (by simp [TbV]) (by
  rintro ⟨⟨t',a',b'⟩,h'⟩ e
  simp only [List.cons.injEq,TbV_inj,I,AV.v.injEq,Value.int.injEq,true_and,and_true] at e
  obtain ⟨rfl,rfl,rfl⟩:=e;rfl) (by simp)
noncomputable def WaF:List AV→Option AV:=specF (ι:={x:Tb×Int // tbOK x.1}) (fun x=>[TbV x.1.1,I x.1.2]) fun x=>retOf [U (walkT x.1.1 x.1.2).1,I (walkT x.1.1 x.1.2).2.1,I (walkT x.1.1 x.1.2).2.2]
theorem cWa (t:Tb) (x:Int) (ht:tbOK t) (M:Nat→AO) (n:Nat):callP WaF [TbV t,I x] M n=some (.tup [U (walkT t x).1,I (walkT t x).2.1,I (walkT t x).2.2],[]):=cT2 (D:=fun t _=>tbOK t) (R:=fun t x=>retOf [U (walkT t x).1,I (walkT t x).2.1,I (walkT t x).2.2]) ht M n rfl (by simp [retOf,openRet,openVals,openVal,openLeaves,openLeaf,stV,srow,U,TbO])
noncomputable def ClF:List AV→Option AV:=specF (ι:={x:Tb // tbOK x}) (fun x=>[TbV x.1]) fun x=>retOf [TbO x.1]
theorem cCl (t:Tb) (ht:tbOK t) (M:Nat→AO) (n:Nat):callP ClF [TbV t] M n=some (TbC t n,[(n,.vec 1 9 false (nrows t.2.1)),(n+1,.vec 1 2 false (prows t.2.2))]):=cT1 (D:=tbOK) (R:=fun t=>retOf [TbO t]) (k:=n+2) ht M n (by simp [retOf,openRet,openVal,openLeaves,openLeaf,TbO,TbC]) (by omega)
theorem olaR {X:AX} (h:X.call 110=callP LaF):OwnR X 110 (fun t x=>0≤x∧ptO t x.toNat) fun t x=>stV (lsT t x.toNat):=fun r ns ds x hd a va b vb f1 f2 M n h1 h2=>by
 rw [h]
 obtain ⟨k,rfl⟩:∃ k:Nat,x=k:=⟨x.toNat,by omega⟩
 exact oT3 (D:=ptO) (R:=fun t p=>retOf [stV (lsT t p)]) (t:=(r,ns,ds)) hd.2 ⟨⟨f1,h1⟩,f2,h2⟩ n rfl (by simp [retOf,openRet,openVals,openVal,openLeaves,openLeaf,stV,srow,U,TbO])
noncomputable def SaF:List AV→Option AV:=specF (ι:={x:Tb×Tb // tbOK x.1∧tbOK x.2}) (fun x=>[TbV x.1.1,TbV x.1.2]) fun x=>retOf [B (decide (x.1.1=x.1.2))]
noncomputable def EiF:List AV→Option AV:=specF (ι:={x:List Int×List Int // x.1.length≤1000000∧x.2.length≤1000000}) (fun x=>[.rd 1 (irows x.1.1),.rd 1 (irows x.1.2)]) fun x=>retOf [B (decide (x.1.1=x.1.2))]
noncomputable def LiF:List AV→Option AV:=specF (ι:={x:Tb // tbOK x}) (fun x=>[TbV x.1]) fun x=>retOf [.ow 2 (erows (lstT x.1))]
theorem repO_fl {t:Tb} {w:Nat} {n:Int}:(retOf [TbO t,U w,I n]).flat:=by
 intro a ha
 simp at ha
 rcases ha with rfl|rfl|rfl
 ·exact TbO_fl
 ·trivial
 ·trivial
noncomputable def ReF:List AV→Option AV:=specF (ι:={x:Tb×Int×Nat // tbOK x.1∧x.2.2<2^64}) (fun x=>[TbV x.1.1,I x.1.2.1,U x.1.2.2]) fun x=>retOf [TbO (repP x.1.1 x.1.2.1 x.1.2.2).1,U (repP x.1.1 x.1.2.1 x.1.2.2).2.1,I (repP x.1.1 x.1.2.1 x.1.2.2).2.2]
end Go.AM
namespace Go.AM
open Go Go.Proofs
set_option maxRecDepth 4000
theorem open_rep {t:Tb} {w:Nat} {e:Int} {n:Nat}:openRet n (retOf [TbO t,U w,I e])=(.tup [TbC t n,U w,I e],outT t n,n+2):=by
 simp [retOf,openRet,openVals,openVal,openLeaves,openLeaf,TbO,TbC,outT,U]
theorem open_irow {l:List Int} {n:Nat}:openRet n (retOf [.ow 1 (irows l)])=(.sl n 1 1 0 l.length,[(n,.vec 1 1 false (irows l))],n+1):=by
 simp [retOf,openRet,openVal,openLeaf]
theorem open_erow {l:List Pe} {n:Nat}:openRet n (retOf [.ow 2 (erows l)])=(.sl n 1 2 0 l.length,[(n,.vec 1 2 false (erows l))],n+1):=by
 simp [retOf,openRet,openVal,openLeaf,erows]
theorem oSt {R:StD→AV} {x:StD} (h:stOK x) {p vp q vq c vc:Nat} {fc:Bool} {M:Nat→AO} (hM:OwT M x.1 p vp q vq) (hc:M c=.vec vc 1 fc (irows x.2.2.2)) (n:Nat) {a:AV} {u:List (Nat×AO)} {k:Nat} (ho:openRet n (R x)=(a,u,k)) (hk:k≤n+16) :
  callP (specF (ι:={x:StD // stOK x}) (fun x=>[TbV x.1.1,I x.1.2.1,U x.1.2.2.1,.rd 1 (irows x.1.2.2.2)]) fun x=>R x.1) [TbS x.1 p vp q vq,I x.2.1,U x.2.2.1,.sl c vc 1 0 x.2.2.2.length] M n=some (a,u):=by
 have tk:List.take x.2.2.2.length (irows x.2.2.2)=irows x.2.2.2:=List.take_of_length_le (by simp)
 rw [callP_spec (ι:={x:StD // stOK x}) (A:=fun x=>[TbV x.1.1,I x.1.2.1,U x.1.2.2.1,.rd 1 (irows x.1.2.2.2)]) (R:=fun x=>R x.1) ⟨x,h⟩ (peek_tab hM (by simp [U,hc,tk])) ?_ (by rw [ho];exact hk),ho]
 rintro ⟨⟨t',p',w',fs'⟩,h'⟩ e
 obtain ⟨t,p,w,fs⟩:=x
 simp only [List.cons.injEq,TbV_inj,U,I,AV.v.injEq,Value.int.injEq,true_and,and_true,AV.rd.injEq,irows_inj,Int.ofNat_inj] at e
 obtain ⟨rfl,rfl,rfl,rfl⟩:=e;rfl
theorem oEi {l m:List Int} (hl:l.length≤1000000∧m.length≤1000000) {c vc d vd:Nat} {fc fd:Bool} {M:Nat→AO} (hc:M c=.vec vc 1 fc (irows l)) (hd:M d=.vec vd 1 fd (irows m)) (n:Nat):callP EiF [.sl c vc 1 0 l.length,.sl d vd 1 0 m.length] M n=some (B (decide (l=m)),[]):=by
 have tk:List.take l.length (irows l)=irows l:=List.take_of_length_le (by simp)
 have tm:List.take m.length (irows m)=irows m:=List.take_of_length_le (by simp)
 exact callP_spec (ι:={x:List Int×List Int // x.1.length≤1000000∧x.2.length≤1000000}) (A:=fun x=>[.rd 1 (irows x.1.1),.rd 1 (irows x.1.2)]) (R:=fun x=>retOf [B (decide (x.1.1=x.1.2))]) ⟨(l,m),hl⟩ (by simp [hc,hd,tk,tm]) (by
  rintro ⟨⟨l',m'⟩,h'⟩ e
  simp only [List.cons.injEq,AV.rd.injEq,irows_inj,true_and,and_true] at e
  obtain ⟨rfl,rfl⟩:=e;rfl) (by simp)
theorem SaF_at {a b:Tb} (ha:tbOK a) (hb:tbOK b):SaF [TbV a,TbV b]=some (B (decide (a=b))):=by
 refine specF_eq (ι:={x:Tb×Tb // tbOK x.1∧tbOK x.2}) (A:=fun x=>[TbV x.1.1,TbV x.1.2]) (R:=fun x=>retOf [B (decide (x.1.1=x.1.2))]) ⟨(a,b),ha,hb⟩ fun j e=>?_
 obtain ⟨⟨a',b'⟩,h'⟩:=j
 simp only [List.cons.injEq,TbV_inj,and_true] at e
 obtain ⟨rfl,rfl⟩:=e;rfl
theorem oSa {a b:Tb} (ha:tbOK a) (hb:tbOK b) {avs:List AV} {M:Nat→AO} (hp:(peekVals M avs).map (List.map (nilV 2))=some [TbV a,TbV b]) (n:Nat):callP (fun avs=>SaF (avs.map (nilV 2))) avs M n=some (B (decide (a=b)),[]):=by
 unfold callP
 cases h:peekVals M avs with
 | none=>rw [h] at hp;simp at hp
 | some l =>
  rw [h] at hp
  simp only [Option.map_some,Option.some.injEq] at hp
  simp only [hp,SaF_at ha hb]
  simp
theorem tab2 {a b:Tb} {M:Nat→AO} {p vp q vq p' vp' q' vq':Nat} (h:OwT M a p vp q vq) (h':OwT M b p' vp' q' vq'):(peekVals M [TbS a p vp q vq,TbS b p' vp' q' vq']).map (List.map (nilV 2))=some [TbV a,TbV b]:=by
 rw [peek_tab h (rs:=[TbV b]) (peek_tab h' rfl)]
 simp [TbV,nilV,nilA]
theorem okA:tbOK aT:=by unfold tbOK ndOK;decide +kernel
theorem okB:tbOK bT:=by unfold tbOK ndOK;decide +kernel
end Go.AM
