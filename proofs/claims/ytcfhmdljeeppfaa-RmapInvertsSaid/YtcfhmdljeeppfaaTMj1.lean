/- A part of the proof: what functions of the program compute, by abstract execution of their code. Its theorems hold without further condition. -/
import Derived.Test.YtcfhmdljeeppfaaTMi5
set_option linter.all false
namespace Go.AM
open Go Go.Proofs
def MpV (m:Dp):AV:=.agg [I m.1,I m.2]
theorem MpV_inj {a b:Dp}:MpV a=MpV b↔a=b:=by
 obtain ⟨a1,a2⟩:=a
 obtain ⟨b1,b2⟩:=b
 simp [MpV,I]
def valM (m:Dp):Prop:=(0≤m.1∧m.1<8)∧0≤m.2∧m.2<512
instance (m:Dp):Decidable (valM m):=by unfold valM;infer_instance
def ltM (a b:Dp):Prop:=a.1<b.1∨a.1=b.1∧a.2<b.2
instance (a b:Dp):Decidable (ltM a b):=by unfold ltM;infer_instance
def cmpIm (a b:Int):Int:=if a<b then -1 else if b<a then 1 else 0
def cmpMm (a b:Dp):Int:=if cmpIm a.1 b.1=0 then cmpIm a.2 b.2 else cmpIm a.1 b.1
theorem s90 (X:AX) (hX:XOK Try.prog X):PSound Try.prog 90 (specF (ι:=Int) (fun x=>[I x]) fun x=>retOf [B (decide (0≤x∧x<8))]):=by
 refine psound_spec hX mixed Try.func90 rfl fun a w0 G=>⟨by show 1≤9;decide,rfl,?_⟩
 show AW ⟨Try.prog,X,9,w0,.pure G⟩ _ _ _
 have hc:Cx.OK ⟨Try.prog,X,9,w0,.pure G⟩:=⟨hX,mixed⟩
 rcases Decidable.em (0≤a) with h1|h1
 ·rcases Decidable.em (a<8) with h2|h2
  ·have zS:=jj h1<|h2
   refine dM64 ?_
   repeat (intro K hK)
   clear zS
   refine ⟨by simp,?_⟩
   simp [leaves_iff,Try.f90,h1,h2]
   try exact dt
  ·have zS:=jj h1<|h2
   refine dM64 ?_
   repeat (intro K hK)
   clear zS
   refine ⟨by simp,?_⟩
   simp [leaves_iff,Try.f90,h1,h2]
   try exact dt
 ·have zS:=h1
  refine dM64 ?_
  repeat (intro K hK)
  clear zS
  refine ⟨by simp,?_⟩
  simp [leaves_iff,Try.f90,h1]
  try exact dt
theorem s144 (X:AX) (hX:XOK Try.prog X):PSound Try.prog 144 (specF (ι:=Int) (fun x=>[I x]) fun _=>retOf [B false]):=by
 refine psound_spec hX mixed Try.func144 rfl fun a w0 G=>⟨by show 1≤6;decide,rfl,?_⟩
 show AW ⟨Try.prog,X,6,w0,.pure G⟩ _ _ _
 have hc:Cx.OK ⟨Try.prog,X,6,w0,.pure G⟩:=⟨hX,mixed⟩
 refine dM64o ?_
 repeat (intro K hK)
 refine ⟨by simp,?_⟩
 simp [leaves_iff,Try.f144]
 try exact dt
theorem s127 (X:AX) (hX:XOK Try.prog X) (h46:∀ x M n,X.call 144 [I x] M n=some (B false,[])):PSound Try.prog 127 (specF (ι:=Int×Int) (fun x=>[I x.1,I x.2]) fun x=>retOf [I (cmpIm x.1 x.2)]):=by
 refine psound_spec hX mixed Try.func127 rfl fun ⟨a,b⟩ w0 G=>⟨by show 2≤20;decide,rfl,?_⟩
 show AW ⟨Try.prog,X,20,w0,.pure G⟩ _ _ _
 have hc:Cx.OK ⟨Try.prog,X,20,w0,.pure G⟩:=⟨hX,mixed⟩
 unfold cmpIm
 simp only
 rcases Decidable.em (a<b) with h1|h1
 ·have zS:=jj h46<|h1
  refine dM64 ?_
  repeat (intro K hK)
  clear zS
  refine ⟨by simp,?_⟩
  simp [leaves_iff,Try.f127,h1]
  try exact dt
 ·rcases Decidable.em (b<a) with h2|h2
  ·have zS:=jj h46<|jj h1<|h2
   refine dM64 ?_
   repeat (intro K hK)
   clear zS
   refine ⟨by simp,?_⟩
   simp [leaves_iff,Try.f127,h1,h2]
   try exact dt
  ·have zS:=jj h46<|jj h1<|h2
   refine dM64 ?_
   repeat (intro K hK)
   clear zS
   refine ⟨by simp,?_⟩
   simp [leaves_iff,Try.f127,h1,h2]
   try exact dt
theorem irows2m (a b:Int):irows [a,b]=[[I a],[I b]]:=rfl
theorem s126 (X:AX) (hX:XOK Try.prog X):PSound Try.prog 126 (specF (ι:=Int×Int) (fun x=>[.rd 1 (irows [x.1,x.2])]) fun x=>retOf [I (if x.1=0 then x.2 else x.1)]):=by
 refine psound_spec hX mixed Try.func126 rfl fun ⟨a,b⟩ w0 G=>⟨by show 1≤18;decide,rfl,?_⟩
 show AW ⟨Try.prog,X,18,w0,.pure G⟩ _ _ _
 have hc:Cx.OK ⟨Try.prog,X,18,w0,.pure G⟩:=⟨hX,mixed⟩
 simp only [irows2m]
 repeat' (first|(apply aw_seq_k;intro K hK)|(refine eM64o ?_)|(refine aw_cond (b:=_) (by exact rfl) (fun h=>?_) (fun h=>?_)<;>(try simp at h))|(refine eB ?_)|(refine hK _ ?_;clear hK)|(clear hK;refine hK _ ?_;clear hK)|(clear hK;clear hK;refine hK _ ?_;clear hK)|(clear hK;clear hK;clear hK;refine hK _ ?_;clear hK))
 refine aw_loopK (s0:=?lps1) (m0:=?lpm1) (ι:={i:Nat // i≤2∧(1≤i→a=0)∧(2≤i→b=0)}) [3,6,7] (fun i=>[(8,I i.1)]) (fun _=>[]) (fun i=>2 - i.1) ⟨0,by omega⟩ ?lhs1 ?lhm1 ?_ ?_
 case lhs1=>first|(simp [keepS];done)|(simp [keepS];rfl)
 case lhm1=>first|rfl|(simp;done)|(simp;rfl)
 ·exact dle
 ·rintro ⟨i,hi,ha,hb⟩
  simp only
  have h3:i=0∨i=1∨i=2:=by omega
  rcases h3 with rfl|rfl|rfl
  ·rcases Decidable.em (a=0) with h|h
   ·rw [h]
    repeat' (first|(apply aw_seq_k;intro K hK)|(refine eM64o ?_)|(refine aw_cond (b:=_) (by exact rfl) (fun h=>?_) (fun h=>?_)<;>(try simp at h))|(refine eB ?_)|(refine hK _ ?_;clear hK)|(clear hK;refine hK _ ?_;clear hK)|(clear hK;clear hK;refine hK _ ?_;clear hK)|(clear hK;clear hK;clear hK;refine hK _ ?_;clear hK))
    refine ⟨1,?_,by omega,by omega⟩
    exact dle
   ·have zS:=h
    repeat' (first|(apply aw_seq_k;intro K hK)|(refine eM64 ?_)|(refine aw_cond (b:=_) (by exact rfl) (fun h=>?_) (fun h=>?_)<;>(try simp at h))|(refine eB ?_)|(refine hK _ ?_;clear hK)|(clear hK;refine hK _ ?_;clear hK)|(clear hK;clear hK;refine hK _ ?_;clear hK)|(clear hK;clear hK;clear hK;refine hK _ ?_;clear hK))
    all_goals clear zS
    refine ⟨by simp,?_⟩
    simp [leaves_iff,Try.f126,h]
    try exact dt
  ·obtain rfl:=ha (by omega)
   rcases Decidable.em (b=0) with h|h
   ·rw [h]
    repeat' (first|(apply aw_seq_k;intro K hK)|(refine eM64o ?_)|(refine aw_cond (b:=_) (by exact rfl) (fun h=>?_) (fun h=>?_)<;>(try simp at h))|(refine eB ?_)|(refine hK _ ?_;clear hK)|(clear hK;refine hK _ ?_;clear hK)|(clear hK;clear hK;refine hK _ ?_;clear hK)|(clear hK;clear hK;clear hK;refine hK _ ?_;clear hK))
    refine ⟨2,?_,by omega,by omega⟩
    exact dle
   ·have zS:=h
    repeat' (first|(apply aw_seq_k;intro K hK)|(refine eM64 ?_)|(refine aw_cond (b:=_) (by exact rfl) (fun h=>?_) (fun h=>?_)<;>(try simp at h))|(refine eB ?_)|(refine hK _ ?_;clear hK)|(clear hK;refine hK _ ?_;clear hK)|(clear hK;clear hK;refine hK _ ?_;clear hK)|(clear hK;clear hK;clear hK;refine hK _ ?_;clear hK))
    all_goals clear zS
    refine ⟨by simp,?_⟩
    simp [leaves_iff,Try.f126,h]
    try exact dt
  ·obtain rfl:=ha (by omega)
   obtain rfl:=hb (by omega)
   repeat' (first|(apply aw_seq_k;intro K hK)|(refine eM64o ?_)|(refine aw_cond (b:=_) (by exact rfl) (fun h=>?_) (fun h=>?_)<;>(try simp at h))|(refine eB ?_)|(refine hK _ ?_;clear hK)|(clear hK;refine hK _ ?_;clear hK)|(clear hK;clear hK;refine hK _ ?_;clear hK)|(clear hK;clear hK;clear hK;refine hK _ ?_;clear hK))
   refine ⟨by simp,?_⟩
   simp [leaves_iff,Try.f126]
   try exact dt
theorem s85 (X:AX) (hX:XOK Try.prog X) (h34:∀ x M n,X.call 90 [I x] M n=some (B (decide (0≤x∧x<8)),[])):PSound Try.prog 85 (specF (ι:=Dp) (fun x=>[MpV x]) fun x=>retOf [B (decide (valM x))]):=by
 refine psound_spec hX mixed Try.func85 rfl fun ⟨a,b⟩ w0 G=>⟨by show 1≤16;decide,rfl,?_⟩
 show AW ⟨Try.prog,X,16,w0,.pure G⟩ _ _ _
 have hc:Cx.OK ⟨Try.prog,X,16,w0,.pure G⟩:=⟨hX,mixed⟩
 unfold MpV valM
 simp only
 rcases Decidable.em (0≤a∧a<8) with h1|h1
 ·rcases Decidable.em (0≤b) with h3|h3
  ·rcases Decidable.em (b<512) with h4|h4
   ·have zS:=jj h34<|jj h1<|jj h3<|h4
    refine dM64 ?_
    repeat (intro K hK)
    clear zS
    refine ⟨by simp,?_⟩
    simp [leaves_iff,Try.f85,h1,h3,h4]
    try exact dt
   ·have zS:=jj h34<|jj h1<|jj h3<|h4
    refine dM64 ?_
    repeat (intro K hK)
    clear zS
    refine ⟨by simp,?_⟩
    simp [leaves_iff,Try.f85,h1,h3,h4]
    try exact dt
  ·have zS:=jj h34<|jj h1<|h3
   refine dM64 ?_
   repeat (intro K hK)
   clear zS
   refine ⟨by simp,?_⟩
   simp [leaves_iff,Try.f85,h1,h3]
   try exact dt
 ·have zS:=jj h34<|h1
  refine dM64 ?_
  repeat (intro K hK)
  clear zS
  refine ⟨by simp,?_⟩
  simp [leaves_iff,Try.f85,h1]
  try exact dt
theorem s95 (X:AX) (hX:XOK Try.prog X) (h26:∀ a b M n,X.call 85 [.agg [I a,I b]] M n=some (B (decide (valM (a,b))),[])):PSound Try.prog 95 (specF (ι:=Dp) (fun x=>[MpV x]) fun x=>retOf [B (!decide (valM x))]):=by
 refine psound_spec hX mixed Try.func95 rfl fun ⟨a,b⟩ w0 G=>⟨by show 1≤6;decide,rfl,?_⟩
 show AW ⟨Try.prog,X,6,w0,.pure G⟩ _ _ _
 have hc:Cx.OK ⟨Try.prog,X,6,w0,.pure G⟩:=⟨hX,mixed⟩
 unfold MpV
 simp only
 have zS:=h26
 refine dM64 ?_
 repeat (intro K hK)
 clear zS
 refine ⟨by simp,?_⟩
 simp [leaves_iff,Try.f95]
 try exact dt
theorem s93 (X:AX) (hX:XOK Try.prog X):PSound Try.prog 93 (specF (ι:=Dp×Int) (fun x=>[MpV x.1,.rp [I x.2]]) fun x=>retOf [B (decide (x.1.1=x.2))]):=by
 refine psound_spec hX mixed Try.func93 rfl fun ⟨⟨a,b⟩,s⟩ w0 G=>⟨by show 2≤8;decide,rfl,?_⟩
 show AW ⟨Try.prog,X,8,w0,.pure G⟩ _ _ _
 have hc:Cx.OK ⟨Try.prog,X,8,w0,.pure G⟩:=⟨hX,mixed⟩
 unfold MpV
 simp only
 rcases Decidable.em (a=s) with h1|h1
 ·have zS:=h1
  refine dM64 ?_
  repeat (intro K hK)
  clear zS
  refine ⟨by simp,?_⟩
  simp [leaves_iff,Try.f93,h1]
  try exact dt
 ·have zS:=h1
  refine dM64 ?_
  repeat (intro K hK)
  clear zS
  refine ⟨by simp,?_⟩
  simp [leaves_iff,Try.f93,h1]
  try exact dt
noncomputable def FMor:List AV→Option AV:=specF (ι:=Int×Int) (fun x=>[.rd 1 (irows [x.1,x.2])]) fun x=>retOf [I (if x.1=0 then x.2 else x.1)]
theorem FMor_at (a b:Int):FMor [.rd 1 [[I a],[I b]]]=some (I (if a=0 then b else a)) :=
 specF_eq (A:=fun x:Int×Int=>[.rd 1 (irows [x.1,x.2])]) (R:=fun x=>retOf [I (if x.1=0 then x.2 else x.1)]) (a,b) (by
  rintro ⟨c,d⟩ e
  simp [irows_inj] at e
  obtain ⟨rfl,rfl⟩:=e;rfl)
theorem s87 (X:AX) (hX:XOK Try.prog X) (hw:X.W wT) (h40:∀ a b M n,X.call 127 [I a,I b] M n=some (I (cmpIm a b),[])) (h39:X.call 126=callP FMor) :
  PSound Try.prog 87 (specF (ι:=Dp×Dp) (fun x=>[MpV x.1,MpV x.2]) fun x=>retOf [I (cmpMm x.1 x.2)]):=by
 refine psound_spec hX mixed Try.func87 rfl fun ⟨⟨a,b⟩,c,d⟩ w0 G=>⟨by show 2≤17;decide,rfl,?_⟩
 show AW ⟨Try.prog,X,17,w0,.pure G⟩ _ _ _
 have hc:Cx.OK ⟨Try.prog,X,17,w0,.pure G⟩:=⟨hX,mixed⟩
 unfold MpV cmpMm
 simp only
 have hF:=FMor_at (cmpIm a c) (cmpIm b d)
 have zS:=jj h40<|jj h39<|hF
 refine dM64 ?_
 repeat (intro K hK)
 clear zS
 refine ⟨by simp,?_⟩
 simp [leaves_iff,Try.f87]
 try exact dt
def chkMV (l:List Dp):Prop:=∀ i,i<l.length→valM (gp l i)
def chkMO (l:List Dp):Prop:=∀ i,i+1<l.length→ltM (gp l i) (gp l (i+1))
open Classical in
noncomputable def chkM (l:List Dp):Int:=if chkMV l then (if chkMO l then 0 else 10) else 2
theorem chkM_v {l:List Dp} (h:¬ chkMV l):chkM l=2:=by unfold chkM;rw [if_neg h]
theorem chkM_o {l:List Dp} (h:chkMV l) (h2:¬ chkMO l):chkM l=10:=by unfold chkM;rw [if_pos h,if_neg h2]
theorem chkM_z {l:List Dp} (h:chkMV l) (h2:chkMO l):chkM l=0:=by unfold chkM;rw [if_pos h,if_pos h2]
noncomputable def FMchk:List AV→Option AV:=specF (ι:={l:List Dp // l.length≤1000000}) (fun x=>[.rd 2 (prows x.1)]) fun x=>retOf [I (chkM x.1)]
theorem cmpIm_neg {a b:Int}:cmpIm a b<0↔a<b:=by
 unfold cmpIm
 split
 ·simp [*]
 ·split<;>simp [*]
theorem cmpIm_zero {a b:Int}:cmpIm a b=0↔a=b:=by
 unfold cmpIm
 split
 ·constructor
  ·intro h;simp at h
  ·intro h;omega
 ·split
  ·constructor
   ·intro h;simp at h
   ·intro h;omega
  ·constructor
   ·intro _;omega
   ·intro _;rfl
theorem cmpMm_neg {a b:Dp}:cmpMm a b<0↔ltM a b:=by
 unfold cmpMm ltM
 split
 ·rename_i h
  rw [cmpIm_zero] at h
  rw [cmpIm_neg]
  omega
 ·rename_i h
  rw [cmpIm_zero] at h
  rw [cmpIm_neg]
  omega
def fnAm:Option Int→AV
 | none=>.fn 95 []
 | some s=>.fn 93 [.rp [I s]]
def fnPm:Option Int→Dp→Bool
 | none,m=>!decide (valM m)
 | some s,m=>decide (m.1=s)
def fstIm (p:Dp→Bool) (l:List Dp):Int:=if l.findIdx p<l.length then (l.findIdx p:Int) else -1
theorem fstIm_at {p:Dp→Bool} {l:List Dp} {i:Nat} (hi:i<l.length) (hp:p (gp l i)=true) (hn:∀ j,j<i→p (gp l j)=false):fstIm p l=i:=by
 have:l.findIdx p=i:=by
  rw [List.findIdx_eq hi]
  refine ⟨by rw [← gp_eq hi];exact hp,fun j hj=>?_⟩
  have:=hn j hj
  rw [gp_eq (by omega)] at this
  exact this
 unfold fstIm
 rw [this,if_pos hi]
theorem fstIm_not {p:Dp→Bool} {l:List Dp} (hn:∀ j,j<l.length→p (gp l j)=false):fstIm p l=-1:=by
 have:l.findIdx p=l.length:=by
  rw [List.findIdx_eq_length]
  intro x hx
  obtain ⟨j,hj,rfl⟩:=List.getElem_of_mem hx
  have:=hn j hj
  rw [gp_eq hj] at this
  exact this
 unfold fstIm
 rw [this,if_neg (by omega)]
theorem fstIm_cases (p:Dp→Bool) (l:List Dp):(fstIm p l=-1∧∀ j,j<l.length→p (gp l j)=false)∨∃ i,i<l.length∧fstIm p l=(i:Int)∧p (gp l i)=true∧∀ j,j<i→p (gp l j)=false:=by
 by_cases h:l.findIdx p<l.length
 ·right
  refine ⟨l.findIdx p,h,by unfold fstIm;rw [if_pos h],?_,fun j hj=>?_⟩
  ·rw [gp_eq h];exact List.findIdx_getElem
  ·rw [gp_eq (by omega)]
   have:=List.not_of_lt_findIdx hj
   simpa using this
 ·left
  have h2:l.findIdx p=l.length:=Nat.le_antisymm (List.findIdx_le_length) (by omega)
  refine ⟨by unfold fstIm;rw [if_neg h],fun j hj=>?_⟩
  rw [gp_eq hj]
  exact (List.findIdx_eq_length.1 h2) _ (List.getElem_mem hj)
structure FnXm (X:AX):Prop where
 h25:∀ a b M n,X.call 95 [.agg [I a,I b]] M n=some (B (!decide (valM (a,b))),[])
 h33:∀ a b s M n,X.call 93 [.agg [I a,I b],.rp [I s]] M n=some (B (decide (a=s)),[])
theorem s132 (X:AX) (hX:XOK Try.prog X) (hw:X.W wT) (fx:FnXm X) :
  PSound Try.prog 132 (specF (ι:={x:List Dp×Option Int // x.1.length≤1000000}) (fun x=>[.rd 2 (prows x.1.1),fnAm x.1.2]) fun x=>retOf [I (fstIm (fnPm x.1.2) x.1.1)]):=by
 refine psound_spec hX mixed Try.func132 rfl fun ⟨⟨l,o⟩,hl⟩ w0 G=>⟨by show 2≤19;decide,rfl,?_⟩
 show AW ⟨Try.prog,X,19,w0,.pure G⟩ _ _ _
 have hc:Cx.OK ⟨Try.prog,X,19,w0,.pure G⟩:=⟨hX,mixed⟩
 simp only at hl ⊢
 cases o with
 | none =>
  unfold fnAm
  repeat' (first|(apply aw_seq_k;intro K hK)|(refine eM64o ?_)|(refine aw_cond (b:=_) (by exact rfl) (fun h=>?_) (fun h=>?_)<;>(try simp at h))|(refine eB ?_)|(refine hK _ ?_;clear hK)|(clear hK;refine hK _ ?_;clear hK)|(clear hK;clear hK;refine hK _ ?_;clear hK)|(clear hK;clear hK;clear hK;refine hK _ ?_;clear hK))
  refine aw_loopK (s0:=?lps2) (m0:=?lpm2) (ι:={i:Nat // i≤l.length∧∀ j,j<i→fnPm none (gp l j)=false}) [0,1,7] (fun i=>[(8,I i.1)]) (fun _=>[]) (fun i=>l.length - i.1) ⟨0,by omega,by omega⟩ ?lhs2 ?lhm2 ?_ ?_
  case lhs2=>first|(simp [keepS];done)|(simp [keepS];rfl)
  case lhm2=>first|rfl|(simp;done)|(simp;rfl)
  ·exact dle
  ·rintro ⟨i,hi,hinv⟩
   simp only
   rcases Decidable.em (i<l.length) with hil|hil
   ·have hilI:(i:Int)<(l.length:Int):=by omega
    have hg:=prows_gi hil
    have hgE:=prows_gE hil
    obtain ⟨⟨x,y⟩,hm⟩:∃ m,m=gp l i:=⟨_,rfl⟩
    rw [← hm] at hg hgE
    simp only at hg hgE
    rcases Decidable.em (valM (x,y)) with hv|hv
    ·have zS:=jj hilI<|jj hg<|jj hgE<|jj fx.h25<|hv
     repeat' (first|(apply aw_seq_k;intro K hK)|(refine eM64 ?_)|(refine aw_cond (b:=_) (by exact rfl) (fun h=>?_) (fun h=>?_)<;>(try simp at h))|(refine eB ?_)|(refine hK _ ?_;clear hK)|(clear hK;refine hK _ ?_;clear hK)|(clear hK;clear hK;refine hK _ ?_;clear hK)|(clear hK;clear hK;clear hK;refine hK _ ?_;clear hK))
     all_goals clear zS
     refine ⟨i+1,?_,⟨by omega,fun j hj=>?_⟩,by omega⟩
     ·exact dle
     ·rcases Nat.lt_succ_iff_lt_or_eq.1 hj with h|rfl
      ·exact hinv j h
      ·rw [← hm];simp [fnPm,hv]
    ·have zS:=jj hilI<|jj hg<|jj hgE<|jj fx.h25<|hv
     repeat' (first|(apply aw_seq_k;intro K hK)|(refine eM64 ?_)|(refine aw_cond (b:=_) (by exact rfl) (fun h=>?_) (fun h=>?_)<;>(try simp at h))|(refine eB ?_)|(refine hK _ ?_;clear hK)|(clear hK;refine hK _ ?_;clear hK)|(clear hK;clear hK;refine hK _ ?_;clear hK)|(clear hK;clear hK;clear hK;refine hK _ ?_;clear hK))
     all_goals clear zS
     rw [fstIm_at hil (by rw [← hm];simp [fnPm,hv]) hinv]
     refine ⟨by simp,?_⟩
     simp [leaves_iff,Try.f132]
     try exact dt
   ·obtain rfl:i=l.length:=by omega
    repeat' (first|(apply aw_seq_k;intro K hK)|(refine eM64o ?_)|(refine aw_cond (b:=_) (by exact rfl) (fun h=>?_) (fun h=>?_)<;>(try simp at h))|(refine eB ?_)|(refine hK _ ?_;clear hK)|(clear hK;refine hK _ ?_;clear hK)|(clear hK;clear hK;refine hK _ ?_;clear hK)|(clear hK;clear hK;clear hK;refine hK _ ?_;clear hK))
    rw [fstIm_not hinv]
    refine ⟨by simp,?_⟩
    simp [leaves_iff,Try.f132]
    try exact dt
 | some s =>
  unfold fnAm
  repeat' (first|(apply aw_seq_k;intro K hK)|(refine eM64o ?_)|(refine aw_cond (b:=_) (by exact rfl) (fun h=>?_) (fun h=>?_)<;>(try simp at h))|(refine eB ?_)|(refine hK _ ?_;clear hK)|(clear hK;refine hK _ ?_;clear hK)|(clear hK;clear hK;refine hK _ ?_;clear hK)|(clear hK;clear hK;clear hK;refine hK _ ?_;clear hK))
  refine aw_loopK (s0:=?lps3) (m0:=?lpm3) (ι:={i:Nat // i≤l.length∧∀ j,j<i→fnPm (some s) (gp l j)=false}) [0,1,7] (fun i=>[(8,I i.1)]) (fun _=>[]) (fun i=>l.length - i.1) ⟨0,by omega,by omega⟩ ?lhs3 ?lhm3 ?_ ?_
  case lhs3=>first|(simp [keepS];done)|(simp [keepS];rfl)
  case lhm3=>first|rfl|(simp;done)|(simp;rfl)
  ·exact dle
  ·rintro ⟨i,hi,hinv⟩
   simp only
   rcases Decidable.em (i<l.length) with hil|hil
   ·have hilI:(i:Int)<(l.length:Int):=by omega
    have hg:=prows_gi hil
    have hgE:=prows_gE hil
    obtain ⟨⟨x,y⟩,hm⟩:∃ m,m=gp l i:=⟨_,rfl⟩
    rw [← hm] at hg hgE
    simp only at hg hgE
    rcases Decidable.em (x=s) with hv|hv
    ·have zS:=jj hilI<|jj hg<|jj hgE<|jj fx.h33<|hv
     repeat' (first|(apply aw_seq_k;intro K hK)|(refine eM64 ?_)|(refine aw_cond (b:=_) (by exact rfl) (fun h=>?_) (fun h=>?_)<;>(try simp at h))|(refine eB ?_)|(refine hK _ ?_;clear hK)|(clear hK;refine hK _ ?_;clear hK)|(clear hK;clear hK;refine hK _ ?_;clear hK)|(clear hK;clear hK;clear hK;refine hK _ ?_;clear hK))
     all_goals clear zS
     rw [fstIm_at hil (by rw [← hm];simp [fnPm,hv]) hinv]
     refine ⟨by simp,?_⟩
     simp [leaves_iff,Try.f132]
     try exact dt
    ·have zS:=jj hilI<|jj hg<|jj hgE<|jj fx.h33<|hv
     repeat' (first|(apply aw_seq_k;intro K hK)|(refine eM64 ?_)|(refine aw_cond (b:=_) (by exact rfl) (fun h=>?_) (fun h=>?_)<;>(try simp at h))|(refine eB ?_)|(refine hK _ ?_;clear hK)|(clear hK;refine hK _ ?_;clear hK)|(clear hK;clear hK;refine hK _ ?_;clear hK)|(clear hK;clear hK;clear hK;refine hK _ ?_;clear hK))
     all_goals clear zS
     refine ⟨i+1,?_,⟨by omega,fun j hj=>?_⟩,by omega⟩
     ·exact dle
     ·rcases Nat.lt_succ_iff_lt_or_eq.1 hj with h|rfl
      ·exact hinv j h
      ·rw [← hm];simp [fnPm,hv]
   ·obtain rfl:i=l.length:=by omega
    repeat' (first|(apply aw_seq_k;intro K hK)|(refine eM64o ?_)|(refine aw_cond (b:=_) (by exact rfl) (fun h=>?_) (fun h=>?_)<;>(try simp at h))|(refine eB ?_)|(refine hK _ ?_;clear hK)|(clear hK;refine hK _ ?_;clear hK)|(clear hK;clear hK;refine hK _ ?_;clear hK)|(clear hK;clear hK;clear hK;refine hK _ ?_;clear hK))
    rw [fstIm_not hinv]
    refine ⟨by simp,?_⟩
    simp [leaves_iff,Try.f132]
    try exact dt
noncomputable def FMif:List AV→Option AV:=specF (ι:={x:List Dp×Option Int // x.1.length≤1000000}) (fun x=>[.rd 2 (prows x.1.1),fnAm x.1.2]) fun x=>retOf [I (fstIm (fnPm x.1.2) x.1.1)]
theorem fnAm_inj {a b:Option Int}:fnAm a=fnAm b↔a=b:=by
 cases a<;>cases b<;>simp [fnAm,I]
theorem FMif_at (l:List Dp) (o:Option Int) (h:l.length≤1000000):FMif [.rd 2 (prows l),fnAm o]=some (I (fstIm (fnPm o) l)) :=
 specF_eq (ι:={x:List Dp×Option Int // x.1.length≤1000000}) (A:=fun x=>[.rd 2 (prows x.1.1),fnAm x.1.2]) (R:=fun x=>retOf [I (fstIm (fnPm x.1.2) x.1.1)]) ⟨(l,o),h⟩ (by
  rintro ⟨⟨k,c⟩,h⟩ e
  simp [prows_inj,fnAm_inj] at e
  obtain ⟨rfl,rfl⟩:=e;rfl)
theorem s94 (X:AX) (hX:XOK Try.prog X) (hw:X.W wT) (h38:X.call 132=callP FMif) :
  PSound Try.prog 94 (specF (ι:={x:List Dp // x.length≤1000000}) (fun x=>[.rd 2 (prows x.1),.fn 95 []]) fun x=>retOf [B (decide (0≤fstIm (fnPm none) x.1))]):=by
 refine psound_spec hX mixed Try.func94 rfl fun ⟨l,hl⟩ w0 G=>⟨by show 2≤9;decide,rfl,?_⟩
 show AW ⟨Try.prog,X,9,w0,.pure G⟩ _ _ _
 have hc:Cx.OK ⟨Try.prog,X,9,w0,.pure G⟩:=⟨hX,mixed⟩
 simp only at hl ⊢
 have hF:=FMif_at l none hl
 simp only [fnAm] at hF
 have zS:=jj h38<|hF
 refine dM64 ?_
 repeat (intro K hK)
 clear zS
 refine ⟨by simp,?_⟩
 simp [leaves_iff,Try.f94]
 try exact dt
noncomputable def FMcf:List AV→Option AV:=specF (ι:={x:List Dp // x.length≤1000000}) (fun x=>[.rd 2 (prows x.1),.fn 95 []]) fun x=>retOf [B (decide (0≤fstIm (fnPm none) x.1))]
theorem FMcf_at (l:List Dp) (h:l.length≤1000000):FMcf [.rd 2 (prows l),.fn 95 []]=some (B (decide (0≤fstIm (fnPm none) l))) :=
 specF_eq (ι:={x:List Dp // x.length≤1000000}) (A:=fun x=>[.rd 2 (prows x.1),.fn 95 []]) (R:=fun x=>retOf [B (decide (0≤fstIm (fnPm none) x.1))]) ⟨l,h⟩ (by
  rintro ⟨k,h⟩ e
  simp [prows_inj] at e
  subst e;rfl)
theorem fst_chkMV {l:List Dp}:0≤fstIm (fnPm none) l↔¬ chkMV l:=by
 rcases fstIm_cases (fnPm none) l with ⟨h1,h2⟩|⟨i,hi,h1,h2,_⟩
 ·rw [h1]
  constructor
  ·intro h;omega
  ·intro h
   exact absurd (fun i hi=>by have:=h2 i hi;simpa [fnPm] using this) h
 ·rw [h1]
  constructor
  ·intro _ h
   simp [fnPm] at h2
   exact h2 (h i hi)
  ·intro _;omega
theorem s39 (X:AX) (hX:XOK Try.prog X) (hw:X.W wT) (h24:X.call 94=callP FMcf)
  (h27:∀ a b c d M n,X.call 87 [.agg [I a,I b],.agg [I c,I d]] M n=some (I (cmpMm (a,b) (c,d)),[])) :
  PSound Try.prog 39 (specF (ι:={l:List Dp // l.length≤1000000}) (fun x=>[.rd 2 (prows x.1)]) fun x=>retOf [I (chkM x.1)]):=by
 refine psound_spec hX mixed Try.func39 rfl fun ⟨l,hl⟩ w0 G=>⟨by show 1≤23;decide,rfl,?_⟩
 show AW ⟨Try.prog,X,23,w0,.pure G⟩ _ _ _
 have hc:Cx.OK ⟨Try.prog,X,23,w0,.pure G⟩:=⟨hX,mixed⟩
 simp only at hl ⊢
 have hF:=FMcf_at l hl
 rcases Decidable.em (0≤fstIm (fnPm none) l) with hc0|hc0
 ·simp only [hc0,decide_true] at hF
  have zS:=jj h24<|hF
  refine dM64 ?_
  repeat (intro K hK)
  clear zS
  rw [chkM_v (fst_chkMV.1 hc0)]
  refine ⟨by simp,?_⟩
  simp [leaves_iff,Try.f39]
  try exact dt
 ·simp only [hc0,decide_false] at hF
  have hV:chkMV l:=Classical.not_not.1 fun h=>hc0 (fst_chkMV.2 h)
  have zS:=jj h24<|hF
  repeat' (first|(apply aw_seq_k;intro K hK)|(refine eM64 ?_)|(refine aw_cond (b:=_) (by exact rfl) (fun h=>?_) (fun h=>?_)<;>(try simp at h))|(refine eB ?_)|(refine hK _ ?_;clear hK)|(clear hK;refine hK _ ?_;clear hK)|(clear hK;clear hK;refine hK _ ?_;clear hK)|(clear hK;clear hK;clear hK;refine hK _ ?_;clear hK))
  all_goals clear zS
  refine aw_loopK (s0:=?lps4) (m0:=?lpm4) (ι:={k:Nat // ∀ j,j<k→j+1<l.length→ltM (gp l j) (gp l (j+1))}) [0] (fun k=>[(3,I ((k.1+1:Nat):Int))]) (fun _=>[]) (fun k=>l.length - k.1) ⟨0,by omega⟩ ?lhs4 ?lhm4 ?_ ?_
  case lhs4=>first|(simp [keepS];done)|(simp [keepS];rfl)
  case lhm4=>first|rfl|(simp;done)|(simp;rfl)
  ·exact dle
  ·rintro ⟨k,hk⟩
   simp only
   rcases Decidable.em (k+1<l.length) with hil|hil
   ·have hilI:(k:Int)+1<(l.length:Int):=by omega
    have hg:=prows_gi hil
    have hgE:=prows_gE hil
    have hk1:k<l.length:=by omega
    have hk1I:(k:Int)<(l.length:Int):=by omega
    have hg1:=prows_gi hk1
    have hg1E:=prows_gE hk1
    obtain ⟨⟨x,y⟩,hm⟩:∃ m,m=gp l (k+1):=⟨_,rfl⟩
    obtain ⟨⟨u,v⟩,hm1⟩:∃ m,m=gp l k:=⟨_,rfl⟩
    rw [← hm] at hg hgE
    rw [← hm1] at hg1 hg1E
    simp only at hg hgE hg1 hg1E
    have e1:((k:Int)+1).toNat=k+1:=by omega
    have hcm:=cmpMm_neg (a:=(u,v)) (b:=(x,y))
    obtain ⟨q,hq⟩:∃ q,q=cmpMm (u,v) (x,y):=⟨_,rfl⟩
    have h27':=fun M n=>h27 u v x y M n
    rw [← hq] at hcm h27'
    rcases Decidable.em (q<0) with hv|hv
    ·have hv':¬ 0≤q:=by omega
     have zS:=jj hilI<|jj hg<|jj hgE<|jj hg1<|jj hg1E<|jj hk1I<|jj h27'<|jj hv'<|e1
     repeat' (first|(apply aw_seq_k;intro K hK)|(refine eM64 ?_)|(refine aw_cond (b:=_) (by exact rfl) (fun h=>?_) (fun h=>?_)<;>(try simp at h))|(refine eB ?_)|(refine hK _ ?_;clear hK)|(clear hK;refine hK _ ?_;clear hK)|(clear hK;clear hK;refine hK _ ?_;clear hK)|(clear hK;clear hK;clear hK;refine hK _ ?_;clear hK))
     all_goals clear zS
     refine ⟨k+1,?_,fun j hj hj2=>?_,by omega⟩
     ·exact dle
     ·rcases Nat.lt_succ_iff_lt_or_eq.1 hj with h|rfl
      ·exact hk j h hj2
      ·rw [← hm,← hm1];exact hcm.1 hv
    ·have hv':0≤q:=by omega
     have zS:=jj hilI<|jj hg<|jj hgE<|jj hg1<|jj hg1E<|jj hk1I<|jj h27'<|jj hv'<|e1
     repeat' (first|(apply aw_seq_k;intro K hK)|(refine eM64 ?_)|(refine aw_cond (b:=_) (by exact rfl) (fun h=>?_) (fun h=>?_)<;>(try simp at h))|(refine eB ?_)|(refine hK _ ?_;clear hK)|(clear hK;refine hK _ ?_;clear hK)|(clear hK;clear hK;refine hK _ ?_;clear hK)|(clear hK;clear hK;clear hK;refine hK _ ?_;clear hK))
     all_goals clear zS
     have e:¬ chkMO l:=fun h=>hv (hcm.2 (by rw [hm,hm1];exact h k hil))
     rw [chkM_o hV e]
     refine ⟨by simp,?_⟩
     simp [leaves_iff,Try.f39]
     try exact dt
   ·have hilI:¬ (k:Int)+1<(l.length:Int):=by omega
    have zS:=hilI
    repeat' (first|(apply aw_seq_k;intro K hK)|(refine eM64 ?_)|(refine aw_cond (b:=_) (by exact rfl) (fun h=>?_) (fun h=>?_)<;>(try simp at h))|(refine eB ?_)|(refine hK _ ?_;clear hK)|(clear hK;refine hK _ ?_;clear hK)|(clear hK;clear hK;refine hK _ ?_;clear hK)|(clear hK;clear hK;clear hK;refine hK _ ?_;clear hK))
    all_goals clear zS
    rw [chkM_z hV fun i hi=>hk i (by omega) hi]
    refine ⟨by simp,?_⟩
    simp [leaves_iff,Try.f39]
    try exact dt
def eqPm (m:Dp) (x:Dp):Bool:=decide (x=m)
theorem s124 (X:AX) (hX:XOK Try.prog X) (hw:X.W wT) (he:X.eqs 71=true) :
  PSound Try.prog 124 (specF (ι:={x:List Dp×Dp // x.1.length≤1000000}) (fun x=>[.rd 2 (prows x.1.1),MpV x.1.2]) fun x=>retOf [I (fstIm (eqPm x.1.2) x.1.1)]):=by
 refine psound_spec hX mixed Try.func124 rfl fun ⟨⟨l,a,b⟩,hl⟩ w0 G=>⟨by show 2≤19;decide,rfl,?_⟩
 show AW ⟨Try.prog,X,19,w0,.pure G⟩ _ _ _
 have hc:Cx.OK ⟨Try.prog,X,19,w0,.pure G⟩:=⟨hX,mixed⟩
 simp only at hl ⊢
 unfold MpV
 simp only
 repeat' (first|(apply aw_seq_k;intro K hK)|(refine eM64o ?_)|(refine aw_cond (b:=_) (by exact rfl) (fun h=>?_) (fun h=>?_)<;>(try simp at h))|(refine eB ?_)|(refine hK _ ?_;clear hK)|(clear hK;refine hK _ ?_;clear hK)|(clear hK;clear hK;refine hK _ ?_;clear hK)|(clear hK;clear hK;clear hK;refine hK _ ?_;clear hK))
 refine aw_loopK (s0:=?lps5) (m0:=?lpm5) (ι:={i:Nat // i≤l.length∧∀ j,j<i→eqPm (a,b) (gp l j)=false}) [0,3,7] (fun i=>[(8,I i.1)]) (fun _=>[]) (fun i=>l.length - i.1) ⟨0,by omega,by omega⟩ ?lhs5 ?lhm5 ?_ ?_
 case lhs5=>first|(simp [keepS];done)|(simp [keepS];rfl)
 case lhm5=>first|rfl|(simp;done)|(simp;rfl)
 ·exact dle
 ·rintro ⟨i,hi,hinv⟩
  simp only
  rcases Decidable.em (i<l.length) with hil|hil
  ·have hilI:(i:Int)<(l.length:Int):=by omega
   have hg:=prows_gi hil
   have hgE:=prows_gE hil
   obtain ⟨⟨x,y⟩,hm⟩:∃ m,m=gp l i:=⟨_,rfl⟩
   rw [← hm] at hg hgE
   simp only at hg hgE
   rcases Decidable.em (a=x∧b=y) with hv|hv
   ·rw [fstIm_at hil (by rw [← hm];simp [eqPm,hv.1,hv.2]) hinv]
    obtain ⟨rfl,rfl⟩:=hv
    have zS:=jj hilI<|jj hg<|jj hgE<|jj he<|eqLs
    repeat' (first|(apply aw_seq_k;intro K hK)|(refine eM64 ?_)|(refine aw_cond (b:=_) (by exact rfl) (fun h=>?_) (fun h=>?_)<;>(try simp at h))|(refine eB ?_)|(refine hK _ ?_;clear hK)|(clear hK;refine hK _ ?_;clear hK)|(clear hK;clear hK;refine hK _ ?_;clear hK)|(clear hK;clear hK;clear hK;refine hK _ ?_;clear hK))
    all_goals clear zS
    refine ⟨by simp,?_⟩
    simp [leaves_iff,Try.f124]
    try exact dt
   ·have hv':(decide (a=x)&&decide (b=y))=false:=by simpa using hv
    have zS:=jj hilI<|jj hg<|jj hgE<|jj hv'<|jj he<|eqLs
    repeat' (first|(apply aw_seq_k;intro K hK)|(refine eM64 ?_)|(refine aw_cond (b:=_) (by exact rfl) (fun h=>?_) (fun h=>?_)<;>(try simp at h))|(refine eB ?_)|(refine hK _ ?_;clear hK)|(clear hK;refine hK _ ?_;clear hK)|(clear hK;clear hK;refine hK _ ?_;clear hK)|(clear hK;clear hK;clear hK;refine hK _ ?_;clear hK))
    all_goals clear zS
    refine ⟨i+1,?_,⟨by omega,fun j hj=>?_⟩,by omega⟩
    ·exact dle
    ·rcases Nat.lt_succ_iff_lt_or_eq.1 hj with h|rfl
     ·exact hinv j h
     ·rw [← hm]
      simp only [eqPm,Prod.mk.injEq,decide_eq_false_iff_not]
      rintro ⟨rfl,rfl⟩
      exact hv ⟨rfl,rfl⟩
  ·obtain rfl:i=l.length:=by omega
   repeat' (first|(apply aw_seq_k;intro K hK)|(refine eM64o ?_)|(refine aw_cond (b:=_) (by exact rfl) (fun h=>?_) (fun h=>?_)<;>(try simp at h))|(refine eB ?_)|(refine hK _ ?_;clear hK)|(clear hK;refine hK _ ?_;clear hK)|(clear hK;clear hK;refine hK _ ?_;clear hK)|(clear hK;clear hK;clear hK;refine hK _ ?_;clear hK))
   rw [fstIm_not hinv]
   refine ⟨by simp,?_⟩
   simp [leaves_iff,Try.f124]
   try exact dt
theorem fst_eqPm {l:List Dp} {m:Dp}:0≤fstIm (eqPm m) l↔m∈l:=by
 rcases fstIm_cases (eqPm m) l with ⟨h1,h2⟩|⟨i,hi,h1,h2,_⟩
 ·rw [h1]
  constructor
  ·intro h;omega
  ·intro h
   obtain ⟨j,hj,e⟩:=List.getElem_of_mem h
   have:=h2 j hj
   rw [gp_eq hj,e] at this
   simp [eqPm] at this
 ·rw [h1]
  constructor
  ·intro _
   simp only [eqPm,decide_eq_true_eq] at h2
   rw [← h2];exact gp_mem hi
  ·intro _;omega
noncomputable def FMix:List AV→Option AV:=specF (ι:={x:List Dp×Dp // x.1.length≤1000000}) (fun x=>[.rd 2 (prows x.1.1),MpV x.1.2]) fun x=>retOf [I (fstIm (eqPm x.1.2) x.1.1)]
theorem FMix_at (l:List Dp) (a b:Int) (h:l.length≤1000000):FMix [.rd 2 (prows l),.agg [I a,I b]]=some (I (fstIm (eqPm (a,b)) l)) :=
 specF_eq (ι:={x:List Dp×Dp // x.1.length≤1000000}) (A:=fun x=>[.rd 2 (prows x.1.1),MpV x.1.2]) (R:=fun x=>retOf [I (fstIm (eqPm x.1.2) x.1.1)]) ⟨(l,(a,b)),h⟩ (by
  rintro ⟨⟨k,c⟩,h⟩ e
  simp [prows_inj,MpV_inj] at e
  obtain ⟨rfl,rfl⟩:=e;rfl)
theorem s77 (X:AX) (hX:XOK Try.prog X) (hw:X.W wT) (h41:X.call 124=callP FMix) :
  PSound Try.prog 77 (specF (ι:={x:List Dp×Dp // x.1.length≤1000000}) (fun x=>[.rd 2 (prows x.1.1),MpV x.1.2]) fun x=>retOf [B (decide (x.1.2∈x.1.1))]):=by
 refine psound_spec hX mixed Try.func77 rfl fun ⟨⟨l,a,b⟩,hl⟩ w0 G=>⟨by show 2≤9;decide,rfl,?_⟩
 show AW ⟨Try.prog,X,9,w0,.pure G⟩ _ _ _
 have hc:Cx.OK ⟨Try.prog,X,9,w0,.pure G⟩:=⟨hX,mixed⟩
 simp only at hl ⊢
 unfold MpV
 simp only
 have hF:=FMix_at l a b hl
 have hm:=fst_eqPm (l:=l) (m:=(a,b))
 have zS:=jj h41<|jj hF<|hm
 refine dM64 ?_
 repeat (intro K hK)
 clear zS
 refine ⟨by simp,?_⟩
 simp [leaves_iff,Try.f77]
 try exact dt
noncomputable def FMct:List AV→Option AV:=specF (ι:={x:List Dp×Dp // x.1.length≤1000000}) (fun x=>[.rd 2 (prows x.1.1),MpV x.1.2]) fun x=>retOf [B (decide (x.1.2∈x.1.1))]
theorem FMct_at (l:List Dp) (a b:Int) (h:l.length≤1000000):FMct [.rd 2 (prows l),.agg [I a,I b]]=some (B (decide ((a,b)∈l))) :=
 specF_eq (ι:={x:List Dp×Dp // x.1.length≤1000000}) (A:=fun x=>[.rd 2 (prows x.1.1),MpV x.1.2]) (R:=fun x=>retOf [B (decide (x.1.2∈x.1.1))]) ⟨(l,(a,b)),h⟩ (by
  rintro ⟨⟨k,c⟩,h⟩ e
  simp [prows_inj,MpV_inj] at e
  obtain ⟨rfl,rfl⟩:=e;rfl)
theorem FMchk_at (l:List Dp) (h:l.length≤1000000):FMchk [.rd 2 (prows l)]=some (I (chkM l)) :=
 specF_eq (ι:={l:List Dp // l.length≤1000000}) (A:=fun x=>[.rd 2 (prows x.1)]) (R:=fun x=>retOf [I (chkM x.1)]) ⟨l,h⟩ (by
  rintro ⟨k,h⟩ e
  simp [prows_inj] at e
  subst e;rfl)
theorem s32 (X:AX) (hX:XOK Try.prog X) (hw:X.W wT) (h10:X.call 39=callP FMchk) (h28:X.call 77=callP FMct) :
  PSound Try.prog 32 (specF (ι:={x:List Dp×Dp // x.1.length≤1000000}) (fun x=>[.rd 2 (prows x.1.1),MpV x.1.2]) fun x=>retOf [B (decide (chkM x.1.1=0∧x.1.2∈x.1.1))]):=by
 refine psound_spec hX mixed Try.func32 rfl fun ⟨⟨l,a,b⟩,hl⟩ w0 G=>⟨by show 2≤13;decide,rfl,?_⟩
 show AW ⟨Try.prog,X,13,w0,.pure G⟩ _ _ _
 have hc:Cx.OK ⟨Try.prog,X,13,w0,.pure G⟩:=⟨hX,mixed⟩
 simp only at hl ⊢
 unfold MpV
 simp only
 have hF:=FMchk_at l hl
 have hG:=FMct_at l a b hl
 obtain ⟨c,hcc⟩:∃ c,c=chkM l:=⟨_,rfl⟩
 rw [← hcc] at hF ⊢
 rcases Decidable.em (c=0) with h0|h0
 ·have zS:=jj h10<|jj hF<|jj h28<|jj hG<|h0
  refine dM64 ?_
  repeat (intro K hK)
  clear zS
  refine ⟨by simp,?_⟩
  simp [leaves_iff,Try.f32,h0]
  try exact dt
 ·have zS:=jj h10<|jj hF<|jj h28<|jj hG<|h0
  refine dM64 ?_
  repeat (intro K hK)
  clear zS
  refine ⟨by simp,?_⟩
  simp [leaves_iff,Try.f32,h0]
  try exact dt
end Go.AM
namespace Go.AM
open Go Go.Proofs
theorem inP_getD {s:Int} {x:Bool×List (List Dp)} {e:Int×Int} {f:Nat} (h0:0≤e.2) (hf:f<x.2.length):(inP s x e).2.getD f []=x.2.getD f []++ofE f s [e]:=by
 obtain ⟨p,n⟩:=e
 simp only at h0
 rw [ofE_1]
 unfold inP
 simp only
 split
 ·rename_i h
  by_cases e:n.toNat=f
  ·have:n=(f:Int):=by omega
   rw [if_pos this]
   simp only [List.getD_eq_getElem?_getD]
   rw [← e,List.getElem?_set_self (by omega)]
   rfl
  ·have:¬ n=(f:Int):=by omega
   rw [if_neg this,List.append_nil]
   simp only [List.getD_eq_getElem?_getD]
   rw [List.getElem?_set_ne e]
 ·have:¬ n=(f:Int):=by omega
  rw [if_neg this,List.append_nil]
theorem ivF_getD {s:Int} {f:Nat}:∀ {l:List (Int×Int)} {x:Bool×List (List Dp)},(∀ e∈l,0≤e.2)→f<x.2.length→(ivF s x l).2.getD f []=x.2.getD f []++ofE f s l
 | [],x,_,_=>by simp [ivF,ofE]
 | e::l,x,h,hf=>by
  have ih:=ivF_getD (s:=s) (f:=f) (l:=l) (x:=inP s x e) (fun y hy=>h y (by simp [hy])) (by rw [inP_len];exact hf)
  show (ivF s (inP s x e) l).2.getD f []=_
  rw [ih,inP_getD (h e (by simp)) hf,List.append_assoc,← ofE_app]
  rfl
theorem ivF_ins {s:Int}:∀ {l:List (Int×Int)} {x:Bool×List (List Dp)},(ivF s x l).1=(x.1&&l.all fun e=>decide (e.2<(x.2.length:Int)))
 | [],x=>by simp [ivF]
 | e::l,x=>by
  have ih:=ivF_ins (s:=s) (l:=l) (x:=inP s x e)
  show (ivF s (inP s x e) l).1=_
  rw [ih,inP_len]
  simp only [List.all_cons]
  unfold inP
  by_cases h:e.2<(x.2.length:Int)
  ·rw [if_pos h];simp [h]
  ·rw [if_neg h];simp [h]
theorem nmE_pos {x:Pe}:∀ e∈nmE x,0≤e.2:=by
 have hrg:=decR_rng x.2
 intro e he
 unfold nmE at he
 split at he
 ·simp only [List.mem_map,List.mem_range] at he
  obtain ⟨i,hi,rfl⟩:=he
  simp only
  omega
 ·split at he
  ·simp only [List.mem_singleton] at he
   subst he
   simp only
   omega
  ·simp at he
theorem nmT_pos {l:List Pe}:∀ e∈nmT l,0≤e.2:=fun e he=>by
 unfold nmT at he
 obtain ⟨x,_,hx⟩:=List.mem_flatMap.1 he
 exact nmE_pos e hx
noncomputable def inside (T:List Tb) (n:Nat):Nat→Bool
 | 0=>true
 | k+1=>inside T n k&&(nmT (lstT (tbG T k))).all fun e=>decide (e.2<(n:Int))
theorem invA_getD {T:List Tb} {x:Bool×List (List Dp)} {f:Nat} (hf:f<x.2.length):∀ {k:Nat},(invA T x k).2.getD f []=x.2.getD f []++ofA T f k
 | 0=>by simp [invA,ofA]
 | k+1=>by
  simp only [invA,ofA]
  rw [ivF_getD nmT_pos (by rw [invA_len];exact hf),invA_getD hf,List.append_assoc]
theorem invA_ins {T:List Tb} {x:Bool×List (List Dp)}:∀ {k:Nat},(invA T x k).1=(x.1&&inside T x.2.length k)
 | 0=>by simp [invA,inside]
 | k+1=>by
  simp only [invA,inside]
  rw [ivF_ins,invA_ins,invA_len,Bool.and_assoc]
noncomputable def mapsT (ts:List Tb) (n:Nat):List (List Dp):=(List.range n).map fun (f:Nat)=>ofT ts (f:Int)
theorem invR_eq {ts:List Tb} {n:Nat}:invR ts n=(inside (ts.take 8) n (ts.take 8).length,mapsT ts n):=by
 have h1:(invR ts n).1=inside (ts.take 8) n (ts.take 8).length:=by
  unfold invR
  rw [invA_ins]
  simp
 have h2:(invR ts n).2=mapsT ts n:=by
  have hl:(invR ts n).2.length=n:=by unfold invR;rw [invA_len];simp
  refine List.ext_getElem (by rw [hl];simp [mapsT]) fun i g1 g2=>?_
  have hi:i<n:=by omega
  have:=invA_getD (T:=ts.take 8) (x:=(true,List.replicate n [])) (f:=i) (by simpa using hi) (k:=(ts.take 8).length)
  rw [gprep,List.nil_append] at this
  have e1:(invR ts n).2.getD i []=(invR ts n).2[i]:=by
   rw [List.getD_eq_getElem?_getD,List.getElem?_eq_getElem g1];rfl
  rw [← e1]
  simp only [mapsT,List.getElem_map,List.getElem_range]
  exact this
 rw [← h1,← h2]
theorem invT_eq {ts:List Tb} {ms:List (List Dp)}:invT ts ms=(inside (ts.take 8) ms.length (ts.take 8).length&&decide (mapsT ts ms.length=ms)):=by
 unfold invT
 rw [invR_eq]
end Go.AM
namespace Go.AM
open Go Go.Proofs
def ascP (l:List (Int×Int)):Prop:=l.Pairwise fun a b=>a.1<b.1
theorem nmE_rng {p l w:Nat} (hok:okWb l w=true):ascP (nmE ((p:Int),w))∧∀ e∈nmE ((p:Int),w),(p:Int)≤e.1∧e.1<((p+8^l:Nat):Int):=by
 have h8:1≤8^l:=Nat.pow_pos (by decide)
 unfold okWb at hok
 simp only [Bool.and_eq_true,decide_eq_true_eq] at hok
 obtain ⟨_,hs⟩:=hok
 unfold nmE ascP
 simp only
 split
 ·rename_i h
  obtain ⟨hk,hh⟩:=h
  unfold suitB at hs
  rw [if_neg (by omega),if_neg (by omega),if_pos hk] at hs
  have hl:l=1:=by
   by_cases h0:l=0
   ·rw [if_pos h0,hh] at hs;simp at hs
   ·rw [if_neg h0] at hs
    by_cases h1:l=1
    ·exact h1
    ·rw [if_neg h1] at hs;simp at hs
  subst hl
  refine ⟨?_,fun e he=>?_⟩
  ·rw [List.pairwise_map]
   refine List.Pairwise.imp ?_ List.pairwise_lt_range
   intro a b hab
   simp only
   omega
  ·simp only [List.mem_map,List.mem_range] at he
   obtain ⟨i,hi,rfl⟩:=he
   simp only
   omega
 ·split
  ·refine ⟨by simp,fun e he=>?_⟩
   simp only [List.mem_singleton] at he
   subst he
   simp only
   omega
  ·exact ⟨by simp,fun e he=>by simp at he⟩
section
variable {r:Int} {ns:NdL} {ds:List Dp}
theorem word_at (hv:Vt (r,ns,ds)) {p l w:Nat} (hp:p<512) (hl:(lsT (r,ns,ds) p).2=(l,w)):okWb l w=true∧l≤2:=by
 obtain ⟨f0,l0,w0,hw⟩:∃ f l w,wlk (Mof ns) r p=(f,l,w):=⟨_,_,_,rfl⟩
 have h1:=(hv.pv.walk hp).2.2
 simp only at h1
 rw [hw,hl] at h1
 simp only [Prod.mk.injEq] at h1
 obtain ⟨rfl,rfl⟩:=h1
 obtain ⟨a1,a2,a3,a4,a5,a6⟩:=wlk_at hv.vm hp hw
 exact ⟨a6,a1⟩
theorem nm_asc (hv:Vt (r,ns,ds)):∀ (k p:Nat),512 - p≤k→p≤512→(p<512→p%8^(lsT (r,ns,ds) p).2.1=0)→ascP (nmT (lsA (r,ns,ds) p))→(∀ e∈nmT (lsA (r,ns,ds) p),0≤e.1∧e.1<(p:Int)) →
  ascP (nmT (lsA (r,ns,ds) 512))∧∀ e∈nmT (lsA (r,ns,ds) 512),0≤e.1∧e.1<512
 | 0,p,hk,hp,_,h1,h2=>by
  obtain rfl:p=512:=by omega
  exact ⟨h1,h2⟩
 | k+1,p,hk,hp,hb,h1,h2=>by
  by_cases e:p=512
  ·subst e;exact ⟨h1,h2⟩
  have hp5:p<512:=by omega
  obtain ⟨l,w,hlw⟩:∃ l w,(lsT (r,ns,ds) p).2=(l,w):=⟨_,_,rfl⟩
  have hb:=hb hp5
  rw [hlw] at hb
  simp only at hb
  obtain ⟨hok,hl2⟩:=word_at hv hp5 hlw
  have h8:1≤8^l:=Nat.pow_pos (by decide)
  have hstep:=lsA_step hv.pv hp5 hlw hb
  have hle:p+8^l≤512:=by
   rcases (by omega:l=0∨l=1∨l=2) with rfl|rfl|rfl<;>simp at hb ⊢<;>omega
  have hN:nmT (lsA (r,ns,ds) (p+8^l))=nmT (lsA (r,ns,ds) p)++(if w≠0 then nmE ((p:Int),w) else []):=by
   rw [hstep]
   unfold nmT
   rw [List.flatMap_append]
   split<;>simp
  have hE:=nmE_rng (p:=p) hok
  refine nm_asc hv k (p+8^l) (by omega) hle (fun hlt=>lev_next hv.pv hp5 hlw hb hlt) ?_ ?_
  ·rw [hN]
   unfold ascP
   rw [List.pairwise_append]
   refine ⟨h1,?_,fun a ha b hb'=>?_⟩
   ·split
    ·exact hE.1
    ·simp
   ·split at hb'
    ·have q1:=(h2 a ha).2
     have q2:=(hE.2 b hb').1
     omega
    ·simp at hb'
  ·intro x hx
   rw [hN] at hx
   rcases List.mem_append.1 hx with q|q
   ·have:=h2 x q
    omega
   ·split at q
    ·have:=hE.2 x q
     omega
    ·simp at q
theorem nm_ok (hv:Vt (r,ns,ds)) (ht:tbOK (r,ns,ds)):ascP (nmT (lstT (r,ns,ds)))∧∀ e∈nmT (lstT (r,ns,ds)),0≤e.1∧e.1<512:=by
 unfold lstT
 rw [if_pos ((chk_iff ht).2 hv)]
 refine nm_asc hv 512 0 (by omega) (by omega) (fun _=>Nat.zero_mod _) ?_ ?_
 ·simp [lsA,nmT,ascP]
 ·intro e he;simp [lsA,nmT] at he
end
theorem ofE_asc {f s:Int} {l:List (Int×Int)} (h:ascP l):(ofE f s l).Pairwise ltM:=by
 unfold ofE
 rw [List.pairwise_map]
 refine List.Pairwise.imp ?_ (h.filter _)
 intro a b hab
 exact .inr ⟨rfl,hab⟩
theorem ofE_mem {f s:Int} {l:List (Int×Int)} {x:Dp}:x∈ofE f s l↔x.1=s∧(x.2,f)∈l:=by
 unfold ofE
 simp only [List.mem_map,List.mem_filter,decide_eq_true_eq]
 constructor
 ·rintro ⟨⟨a,b⟩,⟨h1,h2⟩,rfl⟩
  simp only at h2
  subst h2
  exact ⟨rfl,h1⟩
 ·obtain ⟨x1,x2⟩:=x
  rintro ⟨rfl,h⟩
  exact ⟨(x2,f),⟨h,rfl⟩,rfl⟩
theorem ofA_mem {T:List Tb} {f:Int} {x:Dp}:∀ {n:Nat},x∈ofA T f n↔∃ s:Nat,s<n∧x.1=s∧(x.2,f)∈nmT (lstT (tbG T s))
 | 0=>by simp [ofA]
 | n+1=>by
  simp only [ofA,List.mem_append,ofA_mem (n:=n),ofE_mem]
  constructor
  ·rintro (⟨s,h1,h2⟩|h)
   ·exact ⟨s,by omega,h2⟩
   ·exact ⟨n,by omega,h⟩
  ·rintro ⟨s,h1,h2⟩
   by_cases e:s=n
   ·subst e;exact .inr h2
   ·exact .inl ⟨s,by omega,h2⟩
theorem ofA_asc {T:List Tb} {f:Int} (hT:∀ t∈T,tbOK t∧Vt t):∀ {n:Nat},n≤T.length→(ofA T f n).Pairwise ltM
 | 0,_=>by simp [ofA]
 | n+1,h=>by
  simp only [ofA]
  rw [List.pairwise_append]
  obtain ⟨⟨r,ns,ds⟩,e⟩:∃ t,t=tbG T n:=⟨_,rfl⟩
  have hm:=hT _ (tbG_mem (show n<T.length by omega))
  rw [← e] at hm ⊢
  refine ⟨ofA_asc hT (by omega),ofE_asc (nm_ok hm.2 hm.1).1,fun a ha b hb=>?_⟩
  obtain ⟨s,h1,h2,_⟩:=ofA_mem.1 ha
  obtain ⟨h3,_⟩:=ofE_mem.1 hb
  exact .inl (by omega)
theorem ofA_chk {T:List Tb} {f:Int} (hT:∀ t∈T,tbOK t∧Vt t) (h8:T.length≤8):chkM (ofA T f T.length)=0:=by
 have hP:=ofA_asc (f:=f) hT (Nat.le_refl T.length)
 refine chkM_z (fun i hi=>?_) fun i hi=>?_
 ·obtain ⟨s,h1,h2,h3⟩:=ofA_mem.1 (gp_mem hi)
  obtain ⟨⟨r,ns,ds⟩,e⟩:∃ t,t=tbG T s:=⟨_,rfl⟩
  have hm:=hT _ (tbG_mem h1)
  rw [← e] at hm h3
  have:=(nm_ok hm.2 hm.1).2 _ h3
  unfold valM
  simp only at this
  omega
 ·rw [gp_eq (by omega),gp_eq (by omega)]
  exact List.pairwise_iff_getElem.1 hP i (i+1) (by omega) (by omega) (by omega)
end Go.AM
namespace Go.AM
open Go Go.Proofs
theorem decR_hug {w:Nat} (h:(decR w).1.2.2.2.2.2=true):(decR w).1.1=1:=by
 unfold decR at h ⊢
 split at h
 ·rename_i he
  rw [if_pos he]
  simp only at h ⊢
  unfold encR at he
  split at he
  ·split at he
   ·simp at he
   ·split at he
    ·rename_i hf
     unfold frmE at hf
     have key:∀ e:En,e.2.2.2.2.2=true→(if e.1=1 then true else if e.1=3 then !e.2.2.2.1&&(!e.2.2.2.2.1&&!e.2.2.2.2.2) else if e.1=0 then decide (e.2.1=0)&&noFl e else if e.1=2∨e.1=4 then noFl e else false)=true→e.1=1:=by
      rintro ⟨k,f,d,a,x,hh⟩ h hf
      simp only at h hf ⊢
      subst h
      by_cases hk:k=1
      ·exact hk
      ·exfalso
       rw [if_neg hk] at hf
       unfold noFl at hf
       simp at hf
     exact key _ h hf
    ·simp at he
  ·simp at he
 ·simp [zE] at h
def sumF (n:Nat) (g:Nat→Nat):Nat:=((List.range n).map g).sum
theorem sumF_s {n:Nat} {g:Nat→Nat}:sumF (n+1) g=sumF n g+g n:=by
 simp [sumF,List.range_succ]
theorem sumF_0:∀ {n:Nat},sumF n (fun _=>0)=0
 | 0=>rfl
 | n+1=>by rw [sumF_s,sumF_0]
theorem sumF_add {g h:Nat→Nat}:∀ {n:Nat},sumF n (fun f=>g f+h f)=sumF n g+sumF n h
 | 0=>rfl
 | n+1=>by rw [sumF_s,sumF_s,sumF_s,sumF_add];omega
theorem sumF_one {m:Nat}:∀ {n:Nat},sumF n (fun f=>if m=f then 1 else 0)=if m<n then 1 else 0
 | 0=>rfl
 | n+1=>by
  rw [sumF_s,sumF_one]
  by_cases h:m<n
  ·have:¬ m=n:=by omega
   rw [if_pos h,if_neg this,if_pos (by omega)]
  ·by_cases e:m=n
   ·subst e;rw [if_neg h];simp
   ·rw [if_neg h,if_neg e,if_neg (by omega)]
theorem sumF_ofE {n:Nat} {s:Int}:∀ {l:List (Int×Int)},(∀ e∈l,0≤e.2∧e.2<(n:Int))→sumF n (fun f=>(ofE (f:Int) s l).length)=l.length
 | [],_=>by
  have:(fun f:Nat=>(ofE (f:Int) s []).length)=fun _=>0:=by funext f;simp [ofE]
  rw [this,sumF_0]
  rfl
 | e::l,h=>by
  have ih:=sumF_ofE (n:=n) (s:=s) (l:=l) fun y hy=>h y (by simp [hy])
  obtain ⟨p,m⟩:=e
  have he:=h (p,m) (by simp)
  simp only at he
  have hfun:(fun f:Nat=>(ofE (f:Int) s ((p,m)::l)).length)=fun f:Nat=>(if m.toNat=f then 1 else 0)+(ofE (f:Int) s l).length:=by
   funext f
   have:=@ofE_app (f:Int) s [(p,m)] l
   simp only [List.singleton_append] at this
   rw [this,ofE_1,List.length_append]
   by_cases e:m=(f:Int)
   ·rw [if_pos e,if_pos (by omega)];rfl
   ·rw [if_neg e,if_neg (by omega)];rfl
  rw [hfun,sumF_add,sumF_one,ih,if_pos (by omega)]
  simp only [List.length_cons]
  omega
noncomputable def cntA (T:List Tb):Nat→Nat
 | 0=>0
 | k+1=>cntA T k+(nmT (lstT (tbG T k))).length
theorem sumF_ofA {T:List Tb} {n:Nat}:∀ {k:Nat},inside T n k=true→sumF n (fun f=>(ofA T (f:Int) k).length)=cntA T k
 | 0,_=>sumF_0
 | k+1,h=>by
  simp only [inside,Bool.and_eq_true,List.all_eq_true,decide_eq_true_eq] at h
  have ih:=sumF_ofA (T:=T) (n:=n) h.1
  have:(fun f:Nat=>(ofA T (f:Int) (k+1)).length)=fun f:Nat=>(ofA T (f:Int) k).length+(ofE (f:Int) (k:Int) (nmT (lstT (tbG T k)))).length:=by
   funext f
   simp only [ofA,List.length_append]
  rw [this,sumF_add,ih,sumF_ofE fun e he=>⟨nmT_pos e he,h.2 e he⟩]
  rfl
end Go.AM
namespace Go.AM
open Go Go.Proofs
def tbL (t:Tb):Prop:=(∀ n∈t.2.1,ndOK n)∧t.2.1.length≤1000000∧64<t.2.2.length∧t.2.2.length≤9223372036854775807
set_option maxHeartbeats 4000000 in
theorem s67_l (X:AX) (hX:XOK Try.prog X) (hw:X.W wT) (hfr:∀ x M n,X.call 119 [I x] M n=some (B (decide (0≤x∧x≤4294967295)),[])) :
  PSound Try.prog 67 (specF (ι:={x:Tb // tbL x}) (fun x=>[TbV x.1]) fun x=>retOf [I (numB x.1)]):=by
 refine psound_spec hX mixed Try.func67 rfl fun ⟨⟨r,ns,ds⟩,ht⟩ w0 G=>⟨by show 1≤126;decide,rfl,?_⟩
 show AW ⟨Try.prog,X,126,w0,.pure G⟩ _ _ _
 have hc:Cx.OK ⟨Try.prog,X,126,w0,.pure G⟩:=⟨hX,mixed⟩
 have hl1:ns.length≤1000000:=ht.2.1
 have hl3:64<ds.length:=ht.2.2.1
 have hl2:ds.length≤9223372036854775807:=ht.2.2.2
 simp only [TbV]
 repeat' (first|(apply aw_seq_k;intro K hK)|(refine eM64o ?_)|(refine aw_cond (b:=_) (by exact rfl) (fun h=>?_) (fun h=>?_)<;>(try simp at h))|(refine eB ?_)|(refine hK _ ?_;clear hK)|(clear hK;refine hK _ ?_;clear hK)|(clear hK;clear hK;refine hK _ ?_;clear hK)|(clear hK;clear hK;clear hK;refine hK _ ?_;clear hK))
 refine aw_loopK (s0:=?lps1) (m0:=?lpm1) (ι:={i:Nat // i≤ns.length∧∀ j,j<i→frmN (gn ns j).1}) [1,17,18] (fun i=>[(19,I i.1)]) (fun _=>[]) (fun i=>ns.length - i.1) ⟨0,by omega,by omega⟩ ?lhs1 ?lhm1 ?_ ?_
 case lhs1=>first|(simp [keepS];done)|(simp [keepS];rfl)
 case lhm1=>first|rfl|(simp;done)|(simp;rfl)
 ·exact dle
 ·rintro ⟨i,hi,hinv⟩
  simp only
  rcases Decidable.em (i<ns.length) with hil|hil
  ·have hilI:(i:Int)<(ns.length:Int):=by omega
   have hg:=nrows_gi hil
   have hgE:=nrows_gE hil
   have hno:¬ frmN (gn ns i).1→numB (r,ns,ds)=2:=fun h=>numB_2 (rngB_no fun h2=>h (h2.1 i hil))
   have hlen:=(ht.1 _ (gn_mem hil)).1
   obtain ⟨⟨g,ws⟩,hm⟩:∃ m,m=gn ns i:=⟨_,rfl⟩
   rw [← hm] at hg hgE hno hlen
   simp only [frmN] at hg hgE hno hlen
   have hfr':=hfr g
   rcases Decidable.em (0≤g∧g≤4294967295) with h1|h1
   ·rw [decide_eq_true h1] at hfr'
    have zS:=jj hilI<|jj hg<|jj hgE<|jj hfr'<|hlen
    repeat' (first|(apply aw_seq_k;intro K hK)|(refine eM64 ?_)|(refine aw_cond (b:=_) (by exact rfl) (fun h=>?_) (fun h=>?_)<;>(try simp at h))|(refine eB ?_)|(refine hK _ ?_;clear hK)|(clear hK;refine hK _ ?_;clear hK)|(clear hK;clear hK;refine hK _ ?_;clear hK)|(clear hK;clear hK;clear hK;refine hK _ ?_;clear hK))
    all_goals clear zS
    refine ⟨i+1,?_,⟨by omega,fun j hj=>?_⟩,by omega⟩
    ·exact dle
    ·rcases Nat.lt_succ_iff_lt_or_eq.1 hj with h3|rfl
     ·exact hinv j h3
     ·rw [← hm];unfold frmN;simp only;omega
   ·rw [decide_eq_false h1] at hfr'
    have e:=hno h1
    have zS:=jj hilI<|jj hg<|jj hgE<|jj hfr'<|hlen
    repeat' (first|(apply aw_seq_k;intro K hK)|(refine eM64 ?_)|(refine aw_cond (b:=_) (by exact rfl) (fun h=>?_) (fun h=>?_)<;>(try simp at h))|(refine eB ?_)|(refine hK _ ?_;clear hK)|(clear hK;refine hK _ ?_;clear hK)|(clear hK;clear hK;refine hK _ ?_;clear hK)|(clear hK;clear hK;clear hK;refine hK _ ?_;clear hK))
    all_goals clear zS
    refine ⟨by simp,?_⟩
    simp [leaves_iff,Try.f67,e]
    try exact dt
  ·obtain rfl:i=ns.length:=by omega
   repeat' (first|(apply aw_seq_k;intro K hK)|(refine eM64o ?_)|(refine aw_cond (b:=_) (by exact rfl) (fun h=>?_) (fun h=>?_)<;>(try simp at h))|(refine eB ?_)|(refine hK _ ?_;clear hK)|(clear hK;refine hK _ ?_;clear hK)|(clear hK;clear hK;refine hK _ ?_;clear hK)|(clear hK;clear hK;clear hK;refine hK _ ?_;clear hK))
   refine aw_loopK (s0:=?lps2) (m0:=?lpm2) (ι:={i:Nat // i≤ds.length∧∀ j,j<i→frmN (gp ds j).2∧0≤(gp ds j).1∧(gp ds j).1<64}) [1,29,30] (fun i=>[(31,I i.1)]) (fun _=>[]) (fun i=>ds.length - i.1) ⟨0,by omega,by omega⟩ ?lhs2 ?lhm2 ?_ ?_
   case lhs2=>first|(simp [keepS];done)|(simp [keepS];rfl)
   case lhm2=>first|rfl|(simp;done)|(simp;rfl)
   ·exact dle
   ·rintro ⟨i,hi2,hinv2⟩
    simp only
    rcases Decidable.em (i<ds.length) with hil2|hil2
    ·have hilI2:(i:Int)<(ds.length:Int):=by omega
     have hg:=prows_gi hil2
     have hgE:=prows_gE hil2
     have hno:¬ (frmN (gp ds i).2∧0≤(gp ds i).1∧(gp ds i).1<64)→numB (r,ns,ds)=2:=fun h=>numB_2 (rngB_no fun h2=>h (h2.2 i hil2))
     obtain ⟨⟨a,b⟩,hm⟩:∃ m,m=gp ds i:=⟨_,rfl⟩
     rw [← hm] at hg hgE hno
     simp only [frmN] at hg hgE hno
     have hfr':=hfr b
     rcases Decidable.em (0≤b∧b≤4294967295) with h1|h1
     ·rw [decide_eq_true h1] at hfr'
      rcases Decidable.em (a<0) with h3|h3
      ·have e:=hno (by omega)
       have zS:=jj hilI2<|jj hg<|jj hgE<|jj hfr'<|h3
       repeat' (first|(apply aw_seq_k;intro K hK)|(refine eM64 ?_)|(refine aw_cond (b:=_) (by exact rfl) (fun h=>?_) (fun h=>?_)<;>(try simp at h))|(refine eB ?_)|(refine hK _ ?_;clear hK)|(clear hK;refine hK _ ?_;clear hK)|(clear hK;clear hK;refine hK _ ?_;clear hK)|(clear hK;clear hK;clear hK;refine hK _ ?_;clear hK))
       all_goals clear zS
       refine ⟨by simp,?_⟩
       simp [leaves_iff,Try.f67,e]
       try exact dt
      ·rcases Decidable.em (64≤a) with h4|h4
       ·have e:=hno (by omega)
        have zS:=jj hilI2<|jj hg<|jj hgE<|jj hfr'<|jj h3<|h4
        repeat' (first|(apply aw_seq_k;intro K hK)|(refine eM64 ?_)|(refine aw_cond (b:=_) (by exact rfl) (fun h=>?_) (fun h=>?_)<;>(try simp at h))|(refine eB ?_)|(refine hK _ ?_;clear hK)|(clear hK;refine hK _ ?_;clear hK)|(clear hK;clear hK;refine hK _ ?_;clear hK)|(clear hK;clear hK;clear hK;refine hK _ ?_;clear hK))
        all_goals clear zS
        refine ⟨by simp,?_⟩
        simp [leaves_iff,Try.f67,e]
        try exact dt
       ·have zS:=jj hilI2<|jj hg<|jj hgE<|jj hfr'<|jj h3<|h4
        repeat' (first|(apply aw_seq_k;intro K hK)|(refine eM64 ?_)|(refine aw_cond (b:=_) (by exact rfl) (fun h=>?_) (fun h=>?_)<;>(try simp at h))|(refine eB ?_)|(refine hK _ ?_;clear hK)|(clear hK;refine hK _ ?_;clear hK)|(clear hK;clear hK;refine hK _ ?_;clear hK)|(clear hK;clear hK;clear hK;refine hK _ ?_;clear hK))
        all_goals clear zS
        refine ⟨i+1,?_,⟨by omega,fun j hj=>?_⟩,by omega⟩
        ·exact dle
        ·rcases Nat.lt_succ_iff_lt_or_eq.1 hj with h5|rfl
         ·exact hinv2 j h5
         ·rw [← hm];unfold frmN;simp only;omega
     ·rw [decide_eq_false h1] at hfr'
      have e:=hno (by omega)
      have zS:=jj hilI2<|jj hg<|jj hgE<|hfr'
      repeat' (first|(apply aw_seq_k;intro K hK)|(refine eM64 ?_)|(refine aw_cond (b:=_) (by exact rfl) (fun h=>?_) (fun h=>?_)<;>(try simp at h))|(refine eB ?_)|(refine hK _ ?_;clear hK)|(clear hK;refine hK _ ?_;clear hK)|(clear hK;clear hK;refine hK _ ?_;clear hK)|(clear hK;clear hK;clear hK;refine hK _ ?_;clear hK))
      all_goals clear zS
      refine ⟨by simp,?_⟩
      simp [leaves_iff,Try.f67,e]
      try exact dt
    ·obtain rfl:i=ds.length:=by omega
     have hR:rngB (r,ns,ds)=true:=rngB_iff.2 ⟨fun j hj=>hinv j hj,fun j hj=>hinv2 j hj⟩
     clear hinv hinv2
     repeat' (first|(apply aw_seq_k;intro K hK)|(refine eM64o ?_)|(refine aw_cond (b:=_) (by exact rfl) (fun h=>?_) (fun h=>?_)<;>(try simp at h))|(refine eB ?_)|(refine hK _ ?_;clear hK)|(clear hK;refine hK _ ?_;clear hK)|(clear hK;clear hK;refine hK _ ?_;clear hK)|(clear hK;clear hK;clear hK;refine hK _ ?_;clear hK))
     refine aw_loopK (s0:=?lps3) (m0:=?lpm3) (ι:={k:Nat // k≤ns.length∧∀ j,j<k→(gn ns j).1<(gn ns (j+1)).1}) [1] (fun k=>[(7,I ((k.1:Int)+1))]) (fun _=>[]) (fun k=>ns.length - k.1) ⟨0,by omega,by omega⟩ ?lhs3 ?lhm3 ?_ ?_
     case lhs3=>first|(simp [keepS];done)|(simp [keepS];rfl)
     case lhm3=>first|rfl|(simp;done)|(simp;rfl)
     ·exact dle
     ·rintro ⟨k,hk,hinv⟩
      simp only
      rcases Decidable.em (k+1<ns.length) with hil|hil
      ·have hilI:(k:Int)+1<(ns.length:Int):=by omega
       have hk1:k<ns.length:=by omega
       have hk1I:(k:Int)<(ns.length:Int):=by omega
       have hg:=nrows_gi hil
       have hgE:=nrows_gE hil
       have hg2:=nrows_gi hk1
       have hgE2:=nrows_gE hk1
       have hno:¬ (gn ns k).1<(gn ns (k+1)).1→numB (r,ns,ds)=10:=fun h=>numB_10 hR (ascB_no fun h2=>h (h2.1 k hil))
       obtain ⟨⟨a,b⟩,hm⟩:∃ m,m=gn ns (k+1):=⟨_,rfl⟩
       obtain ⟨⟨c,d⟩,hm2⟩:∃ m,m=gn ns k:=⟨_,rfl⟩
       rw [← hm] at hg hgE hno
       rw [← hm2] at hg2 hgE2 hno
       simp only at hg hgE hg2 hgE2 hno
       rcases Decidable.em (a≤c) with h1|h1
       ·have e:=hno (by omega)
        have zS:=jj hil<|jj hilI<|jj hk1<|jj hk1I<|jj hg<|jj hgE<|jj hg2<|jj hgE2<|h1
        repeat' (first|(apply aw_seq_k;intro K hK)|(refine eM64 ?_)|(refine aw_cond (b:=_) (by exact rfl) (fun h=>?_) (fun h=>?_)<;>(try simp at h))|(refine eB ?_)|(refine hK _ ?_;clear hK)|(clear hK;refine hK _ ?_;clear hK)|(clear hK;clear hK;refine hK _ ?_;clear hK)|(clear hK;clear hK;clear hK;refine hK _ ?_;clear hK))
        all_goals clear zS
        refine ⟨by simp,?_⟩
        simp [leaves_iff,Try.f67,e]
        try exact dt
       ·have zS:=jj hil<|jj hilI<|jj hk1<|jj hk1I<|jj hg<|jj hgE<|jj hg2<|jj hgE2<|h1
        repeat' (first|(apply aw_seq_k;intro K hK)|(refine eM64 ?_)|(refine aw_cond (b:=_) (by exact rfl) (fun h=>?_) (fun h=>?_)<;>(try simp at h))|(refine eB ?_)|(refine hK _ ?_;clear hK)|(clear hK;refine hK _ ?_;clear hK)|(clear hK;clear hK;refine hK _ ?_;clear hK)|(clear hK;clear hK;clear hK;refine hK _ ?_;clear hK))
        all_goals clear zS
        refine ⟨k+1,?_,⟨by omega,fun j hj=>?_⟩,by omega⟩
        ·exact dle
        ·rcases Nat.lt_succ_iff_lt_or_eq.1 hj with h3|rfl
         ·exact hinv j h3
         ·rw [← hm,← hm2];simp only;omega
      ·have hordN:∀ j,j+1<ns.length→(gn ns j).1<(gn ns (j+1)).1:=fun j hj=>hinv j (by omega)
       have hilI:¬ (k:Int)+1<(ns.length:Int):=by omega
       have zS:=jj hil<|hilI
       repeat' (first|(apply aw_seq_k;intro K hK)|(refine eM64 ?_)|(refine aw_cond (b:=_) (by exact rfl) (fun h=>?_) (fun h=>?_)<;>(try simp at h))|(refine eB ?_)|(refine hK _ ?_;clear hK)|(clear hK;refine hK _ ?_;clear hK)|(clear hK;clear hK;refine hK _ ?_;clear hK)|(clear hK;clear hK;clear hK;refine hK _ ?_;clear hK))
       all_goals clear zS
       refine aw_loopK (s0:=?lps4) (m0:=?lpm4) (ι:={k:Nat // k≤ds.length∧∀ j,j<k→(gp ds j).1<(gp ds (j+1)).1}) [1] (fun k=>[(8,I ((k.1:Int)+1))]) (fun _=>[]) (fun k=>ds.length - k.1) ⟨0,by omega,by omega⟩ ?lhs4 ?lhm4 ?_ ?_
       case lhs4=>first|(simp [keepS];done)|(simp [keepS];rfl)
       case lhm4=>first|rfl|(simp;done)|(simp;rfl)
       ·exact dle
       ·rintro ⟨k2,hk2,hinv2⟩
        simp only
        rcases Decidable.em (k2+1<ds.length) with hilb|hilb
        ·have hilbI:(k2:Int)+1<(ds.length:Int):=by omega
         have hk3:k2<ds.length:=by omega
         have hk3I:(k2:Int)<(ds.length:Int):=by omega
         have hg:=prows_gi hilb
         have hgE:=prows_gE hilb
         have hg2:=prows_gi hk3
         have hgE2:=prows_gE hk3
         have hno:¬ (gp ds k2).1<(gp ds (k2+1)).1→numB (r,ns,ds)=10:=fun h=>numB_10 hR (ascB_no fun h2=>h (h2.2 k2 hilb))
         obtain ⟨⟨a,b⟩,hm⟩:∃ m,m=gp ds (k2+1):=⟨_,rfl⟩
         obtain ⟨⟨c,d⟩,hm2⟩:∃ m,m=gp ds k2:=⟨_,rfl⟩
         rw [← hm] at hg hgE hno
         rw [← hm2] at hg2 hgE2 hno
         simp only at hg hgE hg2 hgE2 hno
         rcases Decidable.em (a≤c) with h1|h1
         ·have e:=hno (by omega)
          have zS:=jj hilb<|jj hilbI<|jj hk3<|jj hk3I<|jj hg<|jj hgE<|jj hg2<|jj hgE2<|h1
          repeat' (first|(apply aw_seq_k;intro K hK)|(refine eM64 ?_)|(refine aw_cond (b:=_) (by exact rfl) (fun h=>?_) (fun h=>?_)<;>(try simp at h))|(refine eB ?_)|(refine hK _ ?_;clear hK)|(clear hK;refine hK _ ?_;clear hK)|(clear hK;clear hK;refine hK _ ?_;clear hK)|(clear hK;clear hK;clear hK;refine hK _ ?_;clear hK))
          all_goals clear zS
          refine ⟨by simp,?_⟩
          simp [leaves_iff,Try.f67,e]
          try exact dt
         ·have zS:=jj hilb<|jj hilbI<|jj hk3<|jj hk3I<|jj hg<|jj hgE<|jj hg2<|jj hgE2<|h1
          repeat' (first|(apply aw_seq_k;intro K hK)|(refine eM64 ?_)|(refine aw_cond (b:=_) (by exact rfl) (fun h=>?_) (fun h=>?_)<;>(try simp at h))|(refine eB ?_)|(refine hK _ ?_;clear hK)|(clear hK;refine hK _ ?_;clear hK)|(clear hK;clear hK;refine hK _ ?_;clear hK)|(clear hK;clear hK;clear hK;refine hK _ ?_;clear hK))
          all_goals clear zS
          refine ⟨k2+1,?_,⟨by omega,fun j hj=>?_⟩,by omega⟩
          ·exact dle
          ·rcases Nat.lt_succ_iff_lt_or_eq.1 hj with h3|rfl
           ·exact hinv2 j h3
           ·rw [← hm,← hm2];simp only;omega
        ·have hilbI:¬ (k2:Int)+1<(ds.length:Int):=by omega
         exfalso
         have hge:∀ j,j<ds.length→(j:Int)≤(gp ds j).1:=by
          intro j
          induction j with
          | zero=>intro h0;exact ((rngB_iff.1 hR).2 0 h0).2.1
          | succ j ih =>
           intro hj
           have q1:=ih (by omega)
           have q2:=hinv2 j (by omega)
           omega
         have q1:=hge 64 (by omega)
         have q2:=((rngB_iff.1 hR).2 64 (by omega)).2.2
         simp only at q2
         omega
theorem numB_long {t:Tb} (h:64<t.2.2.length):numB t≠0:=fun e=>by
 obtain ⟨h1,h2,_⟩:=numB_zero e
 have hr:=(rngB_iff.1 h1).2
 have ha:=(ascB_iff.1 h2).2
 have hge:∀ j,j<t.2.2.length→(j:Int)≤(gp t.2.2 j).1:=by
  intro j
  induction j with
  | zero=>intro h0;exact (hr 0 h0).2.1
  | succ j ih =>
   intro hj
   have q1:=ih (by omega)
   have q2:=ha j hj
   omega
 have q1:=hge 64 h
 have q2:=(hr 64 h).2.2
 omega
end Go.AM
namespace Go.AM
open Go Go.Proofs
noncomputable def NumL:List AV→Option AV:=specF (ι:={x:Tb // tbL x}) (fun x=>[TbV x.1]) fun x=>retOf [I (numB x.1)]
theorem numL_at {t:Tb} (h:tbL t):NumL [TbV t]=some (I (numB t)):=by
 refine specF_eq (ι:={x:Tb // tbL x}) (A:=fun x=>[TbV x.1]) (R:=fun x=>retOf [I (numB x.1)]) ⟨t,h⟩ fun j e=>?_
 obtain ⟨t',h'⟩:=j
 simp only [List.cons.injEq,TbV_inj,and_true] at e
 subst e;rfl
set_option maxHeartbeats 1000000 in
theorem s28_l (X:AX) (hX:XOK Try.prog X) (hw:X.W wT) (hnu:∀ t:Tb,tbL t→∀ M n,X.call 67 [TbV t] M n=some (I (numB t),[])):PSound Try.prog 28 NumL:=by
 unfold NumL
 refine psound_spec hX mixed Try.func28 rfl fun ⟨⟨r,ns,ds⟩,ht⟩ w0 G=>⟨by show 1≤57;decide,rfl,?_⟩
 show AW ⟨Try.prog,X,57,w0,.pure G⟩ _ _ _
 have hc:Cx.OK ⟨Try.prog,X,57,w0,.pure G⟩:=⟨hX,mixed⟩
 have nu:=hnu _ ht
 have hne:=numB_long (t:=(r,ns,ds)) ht.2.2.1
 simp only [TbV] at nu ⊢
 obtain ⟨c,hcc⟩:∃ c,c=numB (r,ns,ds):=⟨_,rfl⟩
 rw [← hcc] at nu hne ⊢
 have zS:=jj nu<|hne
 refine dM64 ?_
 repeat (intro K hK)
 clear zS
 refine ⟨by simp,?_⟩
 simp [leaves_iff,Try.f28]
 try exact dt
theorem PSound.or2 {P:Program} {f:FuncId} {F G:List AV→Option AV} (h:PSound P f F) (k:PSound P f G):PSound P f (fun avs=>(F avs).orElse fun _=>G avs):=by
 intro w Gd args avs r hr
 simp only at hr
 cases hF:F avs with
 | none=>rw [hF] at hr;exact k w Gd args avs r (by simpa using hr)
 | some x=>rw [hF] at hr;simp at hr;subst hr;exact h w Gd args avs _ hF
end Go.AM
