/- A part of the proof: what functions of the program compute, by abstract execution of their code. Its theorems hold without further condition. -/
import Derived.Test.YtcfhmdljeeppfaaGreatSPt52
set_option linter.all false
set_option maxHeartbeats 2000000
namespace Go.AM
open Go Go.Proofs
theorem list_ext_gi {a b:List Int} (hl:a.length=b.length) (h:∀ j,j<a.length→gi a j=gi b j):a=b:=by
 refine List.ext_getElem hl fun i h1 h2=>?_
 have:=h i h1
 rw [gi_eq h1,gi_eq h2] at this
 exact this
theorem s46 (X:AX) (hX:XOK Tryz.prog X) (hw:X.W wT):PSound Tryz.prog 46 (specF (ι:={x:List Int×List Int // x.1.length≤1000000∧x.2.length≤1000000}) (fun x=>[.rd 1 (irows x.1.1),.rd 1 (irows x.1.2)]) fun x=>retOf [B (decide (x.1.1=x.1.2))]):=by
 refine psound_spec hX mixed Tryz.func46 rfl fun ⟨⟨l,m⟩,hl,hm⟩ w0 G=>⟨by show 2≤26;decide,rfl,?_⟩
 show AW ⟨Tryz.prog,X,26,w0,.pure G⟩ _ _ _
 have hc:Cx.OK ⟨Tryz.prog,X,26,w0,.pure G⟩:=⟨hX,mixed⟩
 simp only at hl hm ⊢
 rcases Decidable.em (l.length=m.length) with h1|h1
 ·have h1I:(l.length:Int)=(m.length:Int):=by omega
  have zS:=h1
  repeat' (first|(apply aw_seq_k;intro K hK)|(refine eM64 ?_)|(refine aw_cond (b:=_) (by exact rfl) (fun h=>?_) (fun h=>?_)<;>(try simp at h))|(refine eB ?_)|(refine hK _ ?_;clear hK)|(clear hK;refine hK _ ?_;clear hK)|(clear hK;clear hK;refine hK _ ?_;clear hK)|(clear hK;clear hK;clear hK;refine hK _ ?_;clear hK))
  all_goals clear zS
  refine aw_loopK (s0:=?lps1) (m0:=?lpm1) (ι:={i:Nat // i≤m.length∧∀ j,j<i→gi l j=gi m j}) [0,1,12] (fun s=>[(13,I s.1)]) (fun _=>[]) (fun s=>m.length - s.1) ⟨0,by omega,by omega⟩ ?lhs1 ?lhm1 ?_ ?_
  case lhs1=>first|(simp [keepS];done)|(simp [keepS];rfl)
  case lhm1=>first|rfl|(simp;done)|(simp;rfl)
  ·exact dle
  ·rintro ⟨i,hi,hinv⟩
   simp only
   rcases Decidable.em (i<m.length) with hil|hil
   ·have hilI:(i:Int)<(m.length:Int):=by omega
    have hil2:i<l.length:=by omega
    have hil2I:(i:Int)<(l.length:Int):=by omega
    have hg:=irows_gi hil2
    have hgE:=irows_gE hil2
    have hg':=irows_gi hil
    have hgE':=irows_gE hil
    have hdf:gi l i≠gi m i→¬ l=m:=fun h e=>h (by rw [e])
    obtain ⟨a,ha⟩:∃ a,a=gi l i:=⟨_,rfl⟩
    obtain ⟨b,hb⟩:∃ b,b=gi m i:=⟨_,rfl⟩
    rw [← ha,← hb] at hdf
    rw [← ha] at hg hgE
    rw [← hb] at hg' hgE'
    rcases Decidable.em (a=b) with e1|e1
    ·subst e1
     have zS:=jj hilI<|jj hil<|jj hil2<|jj hil2I<|jj hg<|jj hgE<|jj hg'<|jj hgE'<|h1
     repeat' (first|(apply aw_seq_k;intro K hK)|(refine eM64 ?_)|(refine aw_cond (b:=_) (by exact rfl) (fun h=>?_) (fun h=>?_)<;>(try simp at h))|(refine eB ?_)|(refine hK _ ?_;clear hK)|(clear hK;refine hK _ ?_;clear hK)|(clear hK;clear hK;refine hK _ ?_;clear hK)|(clear hK;clear hK;clear hK;refine hK _ ?_;clear hK))
     all_goals clear zS
     refine ⟨i+1,?_,⟨by omega,fun j hj=>?_⟩,by omega⟩
     ·exact dle
     ·rcases Nat.lt_succ_iff_lt_or_eq.1 hj with h5|rfl
      ·exact hinv j h5
      ·rw [← ha,← hb]
    ·have e:=hdf e1
     have e1':¬ b=a:=fun h=>e1 h.symm
     have zS:=jj hilI<|jj hil<|jj hil2<|jj hil2I<|jj hg<|jj hgE<|jj hg'<|jj hgE'<|jj h1<|jj e1<|e1'
     repeat' (first|(apply aw_seq_k;intro K hK)|(refine eM64 ?_)|(refine aw_cond (b:=_) (by exact rfl) (fun h=>?_) (fun h=>?_)<;>(try simp at h))|(refine eB ?_)|(refine hK _ ?_;clear hK)|(clear hK;refine hK _ ?_;clear hK)|(clear hK;clear hK;refine hK _ ?_;clear hK)|(clear hK;clear hK;clear hK;refine hK _ ?_;clear hK))
     all_goals clear zS
     refine ⟨by simp,?_⟩
     simp [leaves_iff,Tryz.f46,e]
     try exact dt
   ·obtain rfl:i=m.length:=by omega
    have e:l=m:=list_ext_gi h1 fun j hj=>hinv j (by omega)
    have zS:=h1
    repeat' (first|(apply aw_seq_k;intro K hK)|(refine eM64 ?_)|(refine aw_cond (b:=_) (by exact rfl) (fun h=>?_) (fun h=>?_)<;>(try simp at h))|(refine eB ?_)|(refine hK _ ?_;clear hK)|(clear hK;refine hK _ ?_;clear hK)|(clear hK;clear hK;refine hK _ ?_;clear hK)|(clear hK;clear hK;clear hK;refine hK _ ?_;clear hK))
    all_goals clear zS
    refine ⟨by simp,?_⟩
    simp [leaves_iff,Tryz.f46,e]
    try exact dt
 ·have h1I:¬ (l.length:Int)=(m.length:Int):=by omega
  have e:¬ l=m:=fun e=>h1 (by rw [e])
  have zS:=jj h1<|h1I
  refine dM64 ?_
  repeat (intro K hK)
  clear zS
  all_goals refine ⟨by simp,?_⟩
  all_goals simp [leaves_iff,Tryz.f46,e]
  all_goals try exact dt
abbrev Pe:=Int×Nat
def erow (x:Pe):List AV:=[I x.1,U x.2]
def erows (l:List Pe):List (List AV):=l.map erow
@[simp] theorem erows_length (l:List Pe):(erows l).length=l.length:=by simp [erows]
def ge (l:List Pe) (n:Nat):Pe:=l.getD n (0,0)
theorem ge_eq {l:List Pe} {n:Nat} (h:n<l.length):ge l n=l[n]:=by
 unfold ge;rw [List.getD_eq_getElem?_getD,List.getElem?_eq_getElem h];rfl
theorem erows_gi {l:List Pe} {n:Nat} (h:n<l.length):(erows l)[n]?=some [I (ge l n).1,.v (.int .u64 (ge l n).2)]:=by
 simp [erows,List.getElem?_eq_getElem h,ge_eq h,erow,U]
theorem erows_gE {l:List Pe} {n:Nat} (h:n<l.length):∀ h',(erows l)[n]'(h')=[I (ge l n).1,.v (.int .u64 (ge l n).2)]:=fun h'=>by
 have hg:=erows_gi h
 rw [List.getElem?_eq_getElem h'] at hg
 exact Option.some.inj hg
theorem list_ext_ge {a b:List Pe} (hl:a.length=b.length) (h:∀ j,j<a.length→ge a j=ge b j):a=b:=by
 refine List.ext_getElem hl fun i h1 h2=>?_
 have:=h i h1
 rw [ge_eq h1,ge_eq h2] at this
 exact this
@[simp] theorem tyPE:Types Tryz.prog 86=some ⟨.struct [(0,3,1),(1,76,1)],2,16,[.int .i64 0,.int .u64 0]⟩:=by kernel_rfl
@[simp] theorem tyPEs:Types Tryz.prog 84=some ⟨.slice 86,1,24,[.slice none 0 0]⟩:=by kernel_rfl
theorem s43 (X:AX) (hX:XOK Tryz.prog X) (hw:X.W wT) (he:X.eqs 86=true):PSound Tryz.prog 43 (specF (ι:={x:List Pe×List Pe // x.1.length≤1000000∧x.2.length≤1000000}) (fun x=>[.rd 2 (erows x.1.1),.rd 2 (erows x.1.2)]) fun x=>retOf [B (decide (x.1.1=x.1.2))]):=by
 refine psound_spec hX mixed Tryz.func43 rfl fun ⟨⟨l,m⟩,hl,hm⟩ w0 G=>⟨by show 2≤26;decide,rfl,?_⟩
 show AW ⟨Tryz.prog,X,26,w0,.pure G⟩ _ _ _
 have hc:Cx.OK ⟨Tryz.prog,X,26,w0,.pure G⟩:=⟨hX,mixed⟩
 simp only at hl hm ⊢
 rcases Decidable.em (l.length=m.length) with h1|h1
 ·have h1I:(l.length:Int)=(m.length:Int):=by omega
  have zS:=h1
  repeat' (first|(apply aw_seq_k;intro K hK)|(refine eM64 ?_)|(refine aw_cond (b:=_) (by exact rfl) (fun h=>?_) (fun h=>?_)<;>(try simp at h))|(refine eB ?_)|(refine hK _ ?_;clear hK)|(clear hK;refine hK _ ?_;clear hK)|(clear hK;clear hK;refine hK _ ?_;clear hK)|(clear hK;clear hK;clear hK;refine hK _ ?_;clear hK))
  all_goals clear zS
  refine aw_loopK (s0:=?lps2) (m0:=?lpm2) (ι:={i:Nat // i≤m.length∧∀ j,j<i→ge l j=ge m j}) [0,1,12] (fun s=>[(13,I s.1)]) (fun _=>[]) (fun s=>m.length - s.1) ⟨0,by omega,by omega⟩ ?lhs2 ?lhm2 ?_ ?_
  case lhs2=>first|(simp [keepS];done)|(simp [keepS];rfl)
  case lhm2=>first|rfl|(simp;done)|(simp;rfl)
  ·exact dle
  ·rintro ⟨i,hi,hinv⟩
   simp only
   rcases Decidable.em (i<m.length) with hil|hil
   ·have hilI:(i:Int)<(m.length:Int):=by omega
    have hil2:i<l.length:=by omega
    have hil2I:(i:Int)<(l.length:Int):=by omega
    have hg:=erows_gi hil2
    have hgE:=erows_gE hil2
    have hg':=erows_gi hil
    have hgE':=erows_gE hil
    have hdf:ge l i≠ge m i→¬ l=m:=fun h e=>h (by rw [e])
    have hinv2:ge l i=ge m i→∀ j,j<i+1→ge l j=ge m j:=fun h j hj=>by
     rcases Nat.lt_succ_iff_lt_or_eq.1 hj with h5|rfl
     ·exact hinv j h5
     ·exact h
    obtain ⟨⟨a,a2⟩,ha⟩:∃ a,a=ge l i:=⟨_,rfl⟩
    obtain ⟨⟨b,b2⟩,hb⟩:∃ b,b=ge m i:=⟨_,rfl⟩
    rw [← ha,← hb] at hdf hinv2
    rw [← ha] at hg hgE
    rw [← hb] at hg' hgE'
    simp only at hg hgE hg' hgE'
    rcases Decidable.em (a=b∧a2=b2) with e1|e1
    ·obtain ⟨rfl,rfl⟩:=e1
     have:=hinv2 rfl
     have zS:=jj hilI<|jj hil<|jj hil2<|jj hil2I<|jj hg<|jj hgE<|jj hg'<|jj hgE'<|jj h1<|jj he<|jj eqLs<|sameKs
     repeat' (first|(apply aw_seq_k;intro K hK)|(refine eM64 ?_)|(refine aw_cond (b:=_) (by exact rfl) (fun h=>?_) (fun h=>?_)<;>(try simp at h))|(refine eB ?_)|(refine hK _ ?_;clear hK)|(clear hK;refine hK _ ?_;clear hK)|(clear hK;clear hK;refine hK _ ?_;clear hK)|(clear hK;clear hK;clear hK;refine hK _ ?_;clear hK))
     all_goals clear zS
     refine ⟨i+1,?_,⟨by omega,this⟩,by omega⟩
     exact dle
    ·have e:=hdf (by simp;omega)
     have e2:a=b→¬ (a2:Int)=(b2:Int):=by omega
     have e3:a=b→¬ a2=b2:=by omega
     have zS:=jj hilI<|jj hil<|jj hil2<|jj hil2I<|jj hg<|jj hgE<|jj hg'<|jj hgE'<|jj h1<|jj he<|jj eqLs<|jj sameKs<|jj e1<|jj e2<|e3
     repeat' (first|(apply aw_seq_k;intro K hK)|(refine eM64 ?_)|(refine aw_cond (b:=_) (by exact rfl) (fun h=>?_) (fun h=>?_)<;>(try simp at h))|(refine eB ?_)|(refine hK _ ?_;clear hK)|(clear hK;refine hK _ ?_;clear hK)|(clear hK;clear hK;refine hK _ ?_;clear hK)|(clear hK;clear hK;clear hK;refine hK _ ?_;clear hK))
     all_goals clear zS
     refine ⟨by simp,?_⟩
     simp [leaves_iff,Tryz.f43,e]
     try exact dt
   ·obtain rfl:i=m.length:=by omega
    have e:l=m:=list_ext_ge h1 fun j hj=>hinv j (by omega)
    have zS:=h1
    repeat' (first|(apply aw_seq_k;intro K hK)|(refine eM64 ?_)|(refine aw_cond (b:=_) (by exact rfl) (fun h=>?_) (fun h=>?_)<;>(try simp at h))|(refine eB ?_)|(refine hK _ ?_;clear hK)|(clear hK;refine hK _ ?_;clear hK)|(clear hK;clear hK;refine hK _ ?_;clear hK)|(clear hK;clear hK;clear hK;refine hK _ ?_;clear hK))
    all_goals clear zS
    refine ⟨by simp,?_⟩
    simp [leaves_iff,Tryz.f43,e]
    try exact dt
 ·have h1I:¬ (l.length:Int)=(m.length:Int):=by omega
  have e:¬ l=m:=fun e=>h1 (by rw [e])
  have zS:=jj h1<|h1I
  refine dM64 ?_
  repeat (intro K hK)
  clear zS
  all_goals refine ⟨by simp,?_⟩
  all_goals simp [leaves_iff,Tryz.f43,e]
  all_goals try exact dt
noncomputable def siS:List AV→List AO→Option (AV×List AO):=specG (ι:={l:List Int // l.length≤2000000}) (fun l=>[.sl 0 1 1 0 l.1.length]) (fun l=>[.vec 1 1 false (irows l.1)]) (fun _=>.tup []) fun l=>[.vec 1 1 false (irows (sortL l.1))]
theorem siS_at {l:List Int} (h:l.length≤2000000):siS [.sl 0 1 1 0 l.length] [.vec 1 1 false (irows l)]=some (.tup [],[.vec 1 1 false (irows (sortL l))]):=by
 refine specG_eq (ι:={l:List Int // l.length≤2000000}) (A:=fun l=>[.sl 0 1 1 0 l.1.length]) (M:=fun l=>[.vec 1 1 false (irows l.1)]) (R:=fun _=>.tup []) (O:=fun l=>[.vec 1 1 false (irows (sortL l.1))]) ⟨l,h⟩ fun j hA hM=>?_
 simp only [List.cons.injEq,AO.vec.injEq,true_and,irows_inj,and_true] at hM
 rw [hM]
 exact ⟨rfl,rfl⟩
theorem unI_ir:∀ l:List Int,unI (irows l)=some l
 | []=>rfl
 | x::l=>by
  show (match unI (irows l) with|some r=>some (x::r)|none=>none)=_
  rw [unI_ir l]
theorem s125 (X:AX) (hX:XOK Tryz.prog X) (hw:X.W wT) (hs:X.call 183=sortC):GSound Tryz.prog 125 siS:=by
 unfold siS
 refine gsound_spec Tryz.func125 rfl X fun ⟨l,hl⟩ w0 L E=>⟨by show 1≤4;decide,?_⟩
 show AW ⟨Tryz.prog,X,4,w0,⟨L,E,1⟩⟩ _ _ _
 have hc:Cx.OK ⟨Tryz.prog,X,4,w0,⟨L,E,1⟩⟩:=⟨hX,mixed⟩
 have hl':l.length<4611686018427387904:=by omega
 have hu:=unI_ir l
 repeat' (first|(apply aw_seq_k;intro K hK)|(refine aw_run hc (by first|exact aw_nod|(intro _;rw [ordB_w hw];kernel_rfl)|(intro _;rw [ordB_w0 hw0];kernel_rfl)|(intro _;kernel_rfl)) ?_;simp [List.zipIdx,enterS,idx,hs,sortC,hu,hl',-getM,getM_hit,getM_miss,getM_none];(repeat (simp (disch:=first|omega|assumption|fail) only [if_pos,if_neg,wrap64];try simp [List.zipIdx,enterS,idx,hs,sortC,hu,hl',-getM,getM_hit,getM_miss,getM_none]));try (repeat' (refine guardQ_split (fun h=>?_) (fun h=>?_)<;>simp at h<;>(simp [List.zipIdx,enterS,idx,hs,sortC,hu,hl',-getM,getM_hit,getM_miss,getM_none];(repeat (simp (disch:=first|omega|assumption|fail) only [if_pos,if_neg,wrap64];try simp [List.zipIdx,enterS,idx,hs,sortC,hu,hl',-getM,getM_hit,getM_miss,getM_none]))))))|(refine aw_cond (b:=_) (by exact rfl) (fun h=>?_) (fun h=>?_)<;>(try simp at h))|(refine aw_block ?_)|(refine aw_skip ?_;simp only [thenQ,blockQ,if_true])|(refine aw_exit ?_;simp [thenQ,blockQ])|(refine aw_ret ?_;simp only [thenQ,blockQ])|(refine aw_round ?_)|(refine hK _ ?_;clear hK)|(clear hK;refine hK _ ?_;clear hK)|(clear hK;clear hK;refine hK _ ?_;clear hK)|(clear hK;clear hK;clear hK;refine hK _ ?_;clear hK))
 refine ⟨[],rfl,?_⟩
 simp only [idx]
 exact dle
end Go.AM
namespace Go.AM
open Go Go.Proofs
def nFr (ns:NdL):List Int:=ns.map (·.1)
def framesT (t:Tb):List Int:=sortL (nFr t.2.1++depF t.2.2)
noncomputable def frmT (t:Tb):List Int:=if chk t=0 then framesT t else []
theorem sorted_perm {a b:List Int} (ha:a.Pairwise (·≤·)) (hb:b.Pairwise (·≤·)) (h:a.Perm b):a=b :=
 List.Perm.eq_of_pairwise (le:=fun a b:Int=>a≤b) (fun a b _ _ h1 h2=>Int.le_antisymm h1 h2) ha hb h
theorem nFr_s {ns:NdL} {i:Nat} (h:i<ns.length):nFr (ns.take (i+1))=nFr (ns.take i)++[(gn ns i).1]:=by rw [take_succ_gn h];simp [nFr]
theorem depF_s {ds:List Dp} {i:Nat} (h:i<ds.length):depF (ds.take (i+1))=depF (ds.take i)++[(gp ds i).2]:=by
 rw [List.take_add_one,List.getElem?_eq_getElem h,gp_eq h];unfold depF;rw [List.map_append];rfl
def frA (ns:NdL) (i:Nat):List Int:=nFr (ns.take i)
def frB (ns:NdL) (ds:List Dp) (i:Nat):List Int:=nFr ns++depF (ds.take i)
@[simp] theorem nFr_len {ns:NdL}:(nFr ns).length=ns.length:=by simp [nFr]
@[simp] theorem depF_len {ds:List Dp}:(depF ds).length=ds.length:=by simp [depF]
theorem irows_ap (a:List Int) (x:Int):irows a++[[I x]]=irows (a++[x]):=by simp [irows]
theorem irows_tkl (a:List Int):List.take a.length (irows a)=irows a:=List.take_of_length_le (by simp)
theorem callSi {b:Nat} {l:List Int} (h:l.length≤2000000) {v:Nat} (M:Nat→AO) (nid:Nat) (h0:M b=.vec (v+1) 1 false (irows l)) :
  callG siS [.sl b (v+1) 1 0 l.length] M nid=some (.tup [],[(b,.vec (v+1) 1 false (irows (sortL l)))]):=by
 have hF:=siS_at h
 unfold callG
 have hg:gat M 64 (nmsL [.sl b (v+1) 1 0 l.length]) []=[b]:=by simp [gat,nmsL,AV.nms,AO.nms,h0]
 simp only [hg]
 rw [if_pos ?cg]
 case cg=>simp [CallG,nmsL,AV.nms,AO.nms,Led,curBL,AV.curB,AO.curB,verOf,notDead,h0]
 have e1:1+v=v+1:=by omega
 simp [renL,AV.ren,AO.ren,posN,canO,nmsL,h0,hF,RetG,getL,AV.nms,AO.nms,updN,nmN,shN,verOf,rng,Led,e1]
set_option maxHeartbeats 4000000 in
theorem s47 (X:AX) (hX:XOK Tryz.prog X) (hw:X.W wT) (hch:∀ t:Tb,tbOK t→∀ M n,X.call 39 [TbV t] M n=some (I (chk t),[])) (hso:X.call 125=callG siS) :
  PSound Tryz.prog 47 (specF (ι:={x:Tb // tbOK x}) (fun x=>[TbV x.1]) fun x=>retOf [.ow 1 (irows (frmT x.1))]):=by
 refine psound_spec hX mixed Tryz.func47 rfl fun ⟨⟨r,ns,ds⟩,ht⟩ w0 G=>⟨by show 1≤40;decide,rfl,?_⟩
 show AW ⟨Tryz.prog,X,40,w0,.pure G⟩ _ _ _
 have hc:Cx.OK ⟨Tryz.prog,X,40,w0,.pure G⟩:=⟨hX,mixed⟩
 simp only at ht ⊢
 have hl1:ns.length≤1000000:=ht.2.1
 have hl2:ds.length≤1000000:=ht.2.2
 have hch':=hch _ ht
 simp only [TbV] at hch' ⊢
 rcases Decidable.em (chk (r,ns,ds)=0) with hc0|hc0
 ·have e:frmT (r,ns,ds)=framesT (r,ns,ds):=by unfold frmT;rw [if_pos hc0]
  rw [e]
  unfold framesT
  rw [hc0] at hch'
  simp only
  have zS:=hch'
  repeat' (first|(apply aw_seq_k;intro K hK)|(refine eM64 ?_)|(refine aw_cond (b:=_) (by exact rfl) (fun h=>?_) (fun h=>?_)<;>(try simp at h))|(refine eB ?_)|(refine hK _ ?_;clear hK)|(clear hK;refine hK _ ?_;clear hK)|(clear hK;clear hK;refine hK _ ?_;clear hK)|(clear hK;clear hK;clear hK;refine hK _ ?_;clear hK))
  all_goals clear zS
  refine aw_weaken (le_nilslot (t:=3) (sz:=1) (by simp)) ?_
  refine aw_loopK (s0:=?lps1) (m0:=?lpm1) (ι:={i:Nat // i≤ns.length}) [1,12,13] (fun s=>[(14,I s.1),(3,.sl 160 1 1 0 (frA ns s.1).length)]) (fun s=>[(160,.vec 1 1 false (irows (frA ns s.1)))]) (fun s=>ns.length - s.1) ⟨0,by omega⟩ ?lhs1 ?lhm1 ?_ ?_
  case lhs1=>first|(simp [keepS];done)|(simp [keepS];rfl)
  case lhm1=>first|rfl|(simp;done)|(simp;rfl)
  ·simp only [show frA ns 0=[] from rfl]
   exact le_of2 (by simp) (by simp [AVle,AV.under,AV.underL,irows]<;>omega) (by simp [AOle,AO.under,AV.underL,AV.under,irows]<;>omega)
  ·rintro ⟨i,hi⟩
   simp only
   rcases Decidable.em (i<ns.length) with hil|hil
   ·have hilI:(i:Int)<(ns.length:Int):=by omega
    have hg:=nrows_gi hil
    have hgE:=nrows_gE hil
    have hlen:=(ht.1 _ (gn_mem hil)).1
    have hnx:frA ns (i+1)=frA ns i++[(gn ns i).1]:=nFr_s hil
    have hAl:(frA ns i).length=i:=by simp [frA];omega
    obtain ⟨A,hA⟩:∃ A,A=frA ns i:=⟨_,rfl⟩
    rw [← hA] at hnx hAl ⊢
    obtain ⟨⟨g,ws⟩,hm⟩:∃ m,m=gn ns i:=⟨_,rfl⟩
    rw [← hm] at hg hgE hnx hlen
    simp only at hg hgE hnx hlen
    have hle1:A.length≤1000000:=by omega
    have htk:=irows_tkl A
    have hap:=irows_ap A g
    rw [← hnx] at hap
    have hl2:A.length+1=(frA ns (i+1)).length:=by rw [hnx];simp
    have zS:=jj hilI<|jj hg<|jj hgE<|jj hlen<|jj hle1<|jj htk<|hap
    repeat' (first|(apply aw_seq_k;intro K hK)|(refine eM64 ?_)|(refine aw_cond (b:=_) (by exact rfl) (fun h=>?_) (fun h=>?_)<;>(try simp at h))|(refine eB ?_)|(refine hK _ ?_;clear hK)|(clear hK;refine hK _ ?_;clear hK)|(clear hK;clear hK;refine hK _ ?_;clear hK)|(clear hK;clear hK;clear hK;refine hK _ ?_;clear hK))
    all_goals clear zS
    refine ⟨i+1,?_,by omega,by omega⟩
    simp only [hl2]
    refine le_turn (s1:=?tus2) (m1:=?tum2) [] [14,3,1,12,13] [0,160] ?tua2 ?tub2 ?tuc2 ?tud2 ?tue2 ?tuf2 ?tug2
    case tua2=>first|(simp [keepS];done)|(simp [keepS];rfl)
    case tub2=>first|(simp;done)|(simp;rfl)
    case tuc2=>simp
    case tud2=>simp
    case tue2=>simp
    case tuf2=>simp
    case tug2 =>
     simp [swp,vr]
     exact dle
   ·obtain rfl:i=ns.length:=by omega
    rw [show frA ns ns.length=frB ns ds 0 by simp [frA,frB,depF]]
    repeat' (first|(apply aw_seq_k;intro K hK)|(refine eM64o ?_)|(refine aw_cond (b:=_) (by exact rfl) (fun h=>?_) (fun h=>?_)<;>(try simp at h))|(refine eB ?_)|(refine hK _ ?_;clear hK)|(clear hK;refine hK _ ?_;clear hK)|(clear hK;clear hK;refine hK _ ?_;clear hK)|(clear hK;clear hK;clear hK;refine hK _ ?_;clear hK))
    refine aw_loopK (s0:=?lps3) (m0:=?lpm3) (ι:={i:Nat // i≤ds.length}) [25,26] (fun s=>[(27,I s.1),(3,.sl 160 1 1 0 (frB ns ds s.1).length)]) (fun s=>[(160,.vec 1 1 false (irows (frB ns ds s.1)))]) (fun s=>ds.length - s.1) ⟨0,by omega⟩ ?lhs3 ?lhm3 ?_ ?_
    case lhs3=>first|(simp [keepS];done)|(simp [keepS];rfl)
    case lhm3=>first|rfl|(simp;done)|(simp;rfl)
    ·exact dle
    ·rintro ⟨i,hi⟩
     simp only
     rcases Decidable.em (i<ds.length) with hil|hil
     ·have hilI:(i:Int)<(ds.length:Int):=by omega
      have hg:=prows_gi hil
      have hgE:=prows_gE hil
      have hnx:frB ns ds (i+1)=frB ns ds i++[(gp ds i).2]:=by unfold frB;rw [depF_s hil,List.append_assoc]
      have hAl:(frB ns ds i).length=ns.length+i:=by simp [frB];omega
      obtain ⟨A,hA⟩:∃ A,A=frB ns ds i:=⟨_,rfl⟩
      rw [← hA] at hnx hAl ⊢
      obtain ⟨⟨g,g2⟩,hm⟩:∃ m,m=gp ds i:=⟨_,rfl⟩
      rw [← hm] at hg hgE hnx
      simp only at hg hgE hnx
      have hle1:A.length≤2000000:=by omega
      have htk:=irows_tkl A
      have hap:=irows_ap A g2
      rw [← hnx] at hap
      have hl2:A.length+1=(frB ns ds (i+1)).length:=by rw [hnx,List.length_append];rfl
      have zS:=jj hilI<|jj hg<|jj hgE<|jj hle1<|jj htk<|hap
      repeat' (first|(apply aw_seq_k;intro K hK)|(refine eM64 ?_)|(refine aw_cond (b:=_) (by exact rfl) (fun h=>?_) (fun h=>?_)<;>(try simp at h))|(refine eB ?_)|(refine hK _ ?_;clear hK)|(clear hK;refine hK _ ?_;clear hK)|(clear hK;clear hK;refine hK _ ?_;clear hK)|(clear hK;clear hK;clear hK;refine hK _ ?_;clear hK))
      all_goals clear zS
      refine ⟨i+1,?_,by omega,by omega⟩
      simp only [hl2]
      refine le_turn (s1:=?tus4) (m1:=?tum4) [] [27,3,25,26] [0,160] ?tua4 ?tub4 ?tuc4 ?tud4 ?tue4 ?tuf4 ?tug4
      case tua4=>first|(simp [keepS];done)|(simp [keepS];rfl)
      case tub4=>first|(simp;done)|(simp;rfl)
      case tuc4=>simp
      case tud4=>simp
      case tue4=>simp
      case tuf4=>simp
      case tug4 =>
       simp [swp,vr]
       exact dle
     ·obtain rfl:i=ds.length:=by omega
      have hAl:(frB ns ds ds.length).length≤2000000:=by simp [frB];omega
      have hAe:nFr ns++depF ds=frB ns ds ds.length:=by simp [frB]
      rw [hAe]
      obtain ⟨A,hA⟩:∃ A,A=frB ns ds ds.length:=⟨_,rfl⟩
      rw [← hA] at hAl ⊢
      have hcs:=fun M n=>@callSi 160 A hAl 0 M n
      rw [← hso] at hcs
      have hsl:(sortL A).length=A.length:=(sortL_perm A).length_eq
      have htk:List.take A.length (irows (sortL A))=irows (sortL A):=by rw [← hsl];exact irows_tkl _
      have zS:=hcs
      repeat' (first|(apply aw_seq_k;intro K hK)|(refine eM64 ?_)|(refine aw_cond (b:=_) (by exact rfl) (fun h=>?_) (fun h=>?_)<;>(try simp at h))|(refine eB ?_)|(refine hK _ ?_;clear hK)|(clear hK;refine hK _ ?_;clear hK)|(clear hK;clear hK;refine hK _ ?_;clear hK)|(clear hK;clear hK;clear hK;refine hK _ ?_;clear hK))
      all_goals clear zS
      refine ⟨by simp,?_⟩
      simp [leaves_iff,Tryz.f47,htk,hsl]
      try exact dt
      rw [hA,← hAe]
 ·have e:frmT (r,ns,ds)=[]:=by unfold frmT;rw [if_neg hc0]
  rw [e]
  obtain ⟨c,hcc⟩:∃ c,c=chk (r,ns,ds):=⟨_,rfl⟩
  rw [← hcc] at hch' hc0
  have zS:=jj hch'<|hc0
  refine dM64 ?_
  repeat (intro K hK)
  clear zS
  refine ⟨by simp,?_⟩
  simp [leaves_iff,Tryz.f47,irows]
  try exact dt
end Go.AM
namespace Go.AM
open Go Go.Proofs
def lsF (t:Tb) (p:Nat):List Pe:=if (lsT t p).2.2≠0∧((lsT t p).2.1=0∨p%8=0) then [((p:Int),(lsT t p).2.2)] else []
def lsA (t:Tb):Nat→List Pe
 | 0=>[]
 | n+1=>lsA t n++lsF t n
theorem lsA_le {t:Tb}:∀ {n:Nat},(lsA t n).length≤n
 | 0=>by simp [lsA]
 | n+1=>by
  have:=@lsA_le t n
  simp only [lsA,lsF,List.length_append]
  split<;>simp<;>omega
noncomputable def lstT (t:Tb):List Pe:=if chk t=0 then lsA t 512 else []
theorem erows_ap (a:List Pe) (x:Int) (w:Nat):erows a++[[I x,.v (.int .u64 w)]]=erows (a++[(x,w)]):=by simp [erows,erow,U]
theorem erows_tkl (a:List Pe):List.take a.length (erows a)=erows a:=List.take_of_length_le (by simp)
section
variable {r:Int} {ns:NdL} {ds:List Dp}
theorem lev_same (h:Pv (r,ns,ds)) {p l w:Nat} (hp:p<512) (hl:(lsT (r,ns,ds) p).2=(l,w)) (ha:p%8^l=0) {q:Nat} (hq:p≤q) (hq2:q<p+8^l):(lsT (r,ns,ds) q).2=(l,w):=by
 obtain ⟨f0,l0,w0,hw⟩:∃ f l w,wlk (Mof ns) r p=(f,l,w):=⟨_,_,_,rfl⟩
 have h1:=(h.walk hp).2.2
 simp only at h1
 rw [hw] at h1
 rw [h1] at hl
 simp only [Prod.mk.injEq] at hl
 obtain ⟨rfl,rfl⟩:=hl
 obtain ⟨a1,a2,a3,a4,a5,a6⟩:=wlk_at h.vm hp hw
 have hq5:q<512:=by
  rcases (by omega:l0=0∨l0=1∨l0=2) with rfl|rfl|rfl<;>simp at ha hq2<;>omega
 have e1:q/8^(l0+1)=p/8^(l0+1):=by
  rcases (by omega:l0=0∨l0=1∨l0=2) with rfl|rfl|rfl<;>simp at ha hq2 ⊢<;>omega
 have e2:dgt q l0=dgt p l0:=by
  unfold dgt
  rcases (by omega:l0=0∨l0=1∨l0=2) with rfl|rfl|rfl<;>simp at ha hq2 ⊢<;>omega
 have h2:=wlk_of (M:=Mof ns) (root:=r) (p:=q) hq5 a1 (by rw [e1];exact a3) (.inl (by rw [e2];simp only at a4;rw [← a4];exact a5))
 have h3:=(h.walk hq5).2.2
 simp only at h3
 rw [h3,h2,e2]
 simp only at a4
 rw [← a4]
theorem lev_next (h:Pv (r,ns,ds)) {p l w:Nat} (hp:p<512) (hl:(lsT (r,ns,ds) p).2=(l,w)) (ha:p%8^l=0) (hq:p+8^l<512):(p+8^l)%8^(lsT (r,ns,ds) (p+8^l)).2.1=0:=by
 obtain ⟨f0,l0,w0,hw⟩:∃ f l w,wlk (Mof ns) r p=(f,l,w):=⟨_,_,_,rfl⟩
 obtain ⟨f1,l1,w1,hw1⟩:∃ f k w,wlk (Mof ns) r (p+8^l)=(f,k,w):=⟨_,_,_,rfl⟩
 have h1:=(h.walk hp).2.2
 have h2:=(h.walk hq).2.2
 simp only at h1 h2
 rw [hw] at h1
 rw [hw1] at h2
 rw [h1] at hl
 simp only [Prod.mk.injEq] at hl
 obtain ⟨rfl,rfl⟩:=hl
 rw [h2]
 simp only
 obtain ⟨a1,a2,a3,a4,a5,a6⟩:=wlk_at h.vm hp hw
 obtain ⟨b1,b2,b3,b4,b5,b6⟩:=wlk_at h.vm hq hw1
 by_cases hc:(p+8^l0)%8^l1=0
 ·exact hc
 ·exfalso
  have hc2:p%8^l1≠0∨8^l0%8^l1≠0:=by
   by_cases h3:p%8^l1=0
   ·right;intro h4;exact hc (by rw [Nat.add_mod,h3,h4];simp)
   ·exact .inl h3
  have hlt:l0<l1:=by
   rcases (by omega:l0=0∨l0=1∨l0=2) with rfl|rfl|rfl<;>rcases (by omega:l1=0∨l1=1∨l1=2) with rfl|rfl|rfl<;>simp at hc ha ⊢<;>omega
  have hsame:dgt (p+8^l0) l1=dgt p l1∧(p+8^l0)/8^(l1+1)=p/8^(l1+1):=by
   unfold dgt
   rcases (by omega:l0=0∨l0=1∨l0=2) with rfl|rfl|rfl<;>rcases (by omega:l1=0∨l1=1∨l1=2) with rfl|rfl|rfl<;>simp at hc ha ⊢<;>omega
  have:=wlk_of (M:=Mof ns) (root:=r) hp b1 (by rw [← hsame.2];exact b3) (.inl (by rw [← hsame.1];simp only at b4;rw [← b4];exact b5))
  rw [hw] at this
  simp only [Prod.mk.injEq] at this
  omega
theorem lsA_step (h:Pv (r,ns,ds)) {p l w:Nat} (hp:p<512) (hl:(lsT (r,ns,ds) p).2=(l,w)) (ha:p%8^l=0):lsA (r,ns,ds) (p+8^l)=lsA (r,ns,ds) p++(if w≠0 then [((p:Int),w)] else []):=by
 obtain ⟨f0,l0,w0,hw⟩:∃ f l w,wlk (Mof ns) r p=(f,l,w):=⟨_,_,_,rfl⟩
 have h1:=(h.walk hp).2.2
 simp only at h1
 rw [hw] at h1
 have hlw:l0=l∧w0=w:=by rw [h1] at hl;simpa using hl
 obtain ⟨rfl,rfl⟩:=hlw
 obtain ⟨a1,a2,a3,a4,a5,a6⟩:=wlk_at h.vm hp hw
 have hz2:l0=2→w0=0:=fun e=>by
  subst e
  unfold okWb at a6
  simp only [Bool.and_eq_true,decide_eq_true_eq] at a6
  obtain ⟨_,a7⟩:=a6
  unfold suitB at a7
  refine (kind0 (l:=2) (w:=w0) ?_).1 ?_
  ·unfold okWb;simp only [Bool.and_eq_true,decide_eq_true_eq];exact ⟨by assumption,by unfold suitB;exact a7⟩
  ·by_cases h0:(decR w0).1.1=0
   ·exact h0
   ·rw [if_neg h0] at a7
    have h4:(decR w0).1.1≠4:=decR_tab.1 a5
    rw [if_neg h4] at a7
    simp at a7
 have hmid:∀ d,1≤d→d≤8^l0→lsA (r,ns,ds) (p+d)=lsA (r,ns,ds) p++(if w0≠0 then [((p:Int),w0)] else []):=by
  intro d hd
  induction d with
  | zero=>omega
  | succ d ih =>
   intro hd2
   rw [show p+(d+1)=p+d+1 by omega]
   simp only [lsA]
   by_cases h0:d=0
   ·subst h0
    simp only [Nat.add_zero,lsF,hl]
    by_cases hw0:w0=0
    ·simp [hw0]
    ·have:l0=0∨p%8=0:=by
      rcases (by omega:l0=0∨l0=1∨l0=2) with e|e|e
      ·exact .inl e
      ·right;rw [e] at ha;simpa using ha
      ·exact absurd (hz2 e) hw0
     rw [if_pos ⟨hw0,this⟩,if_pos hw0]
   ·rw [ih (by omega) (by omega)]
    have hs:=lev_same h hp hl ha (q:=p+d) (by omega) (by omega)
    have:lsF (r,ns,ds) (p+d)=[]:=by
     unfold lsF
     rw [hs]
     rw [if_neg]
     rintro ⟨g1,g2⟩
     rcases (by omega:l0=0∨l0=1∨l0=2) with e|e|e
     ·subst e;simp at hd2;omega
     ·subst e
      simp at ha hd2 g2
      omega
     ·exact g1 (hz2 e)
    rw [this,List.append_nil]
 have hpos:1≤8^l0:=Nat.pow_pos (by decide)
 exact hmid _ hpos (Nat.le_refl _)
end
end Go.AM
