/- A part of the proof: what functions of the program compute, by abstract execution of their code. Its theorems hold without further condition. -/
import Derived.Test.YtcfhmdljeeppfaaTMi4
set_option linter.all false
set_option maxHeartbeats 2000000
namespace Go.AM
open Go Go.Proofs
noncomputable def EqmF:List AV→Option AV:=specF (ι:={x:List Dp×List Dp // x.1.length≤1000000∧x.2.length≤1000000}) (fun x=>[.rd 2 (prows x.1.1),.rd 2 (prows x.1.2)]) fun x=>retOf [B (decide (x.1.1=x.1.2))]
theorem eqmF_at {a b:List Dp} (ha:a.length≤1000000) (hb:b.length≤1000000) (M:Nat→AO) (n:Nat):callP EqmF [.rd 2 (prows a),.rd 2 (prows b)] M n=some (B (decide (a=b)),[]):=by
 refine callP_spec (ι:={x:List Dp×List Dp // x.1.length≤1000000∧x.2.length≤1000000}) (A:=fun x=>[.rd 2 (prows x.1.1),.rd 2 (prows x.1.2)]) (R:=fun x=>retOf [B (decide (x.1.1=x.1.2))]) ⟨(a,b),ha,hb⟩ (by simp) (fun j e=>?_) (by simp)
 obtain ⟨⟨a',b'⟩,h'⟩:=j
 simp only [List.cons.injEq,AV.rd.injEq,prows_inj,true_and,and_true] at e
 obtain ⟨rfl,rfl⟩:=e;rfl
theorem s76 (X:AX) (hX:XOK Try.prog X) (hw:X.W wT) (he:X.eqs 71=true):PSound Try.prog 76 EqmF:=by
 unfold EqmF
 refine psound_spec hX mixed Try.func76 rfl fun ⟨⟨l,m⟩,hl,hm⟩ w0 G=>⟨by show 2≤26;decide,rfl,?_⟩
 show AW ⟨Try.prog,X,26,w0,.pure G⟩ _ _ _
 have hc:Cx.OK ⟨Try.prog,X,26,w0,.pure G⟩:=⟨hX,mixed⟩
 simp only at hl hm ⊢
 rcases Decidable.em (l.length=m.length) with h1|h1
 ·have h1I:(l.length:Int)=(m.length:Int):=by omega
  have zS:=h1
  repeat' (first|(apply aw_seq_k;intro K hK)|(refine eM64 ?_)|(refine aw_cond (b:=_) (by exact rfl) (fun h=>?_) (fun h=>?_)<;>(try simp at h))|(refine eB ?_)|(refine hK _ ?_;clear hK)|(clear hK;refine hK _ ?_;clear hK)|(clear hK;clear hK;refine hK _ ?_;clear hK)|(clear hK;clear hK;clear hK;refine hK _ ?_;clear hK))
  all_goals clear zS
  refine aw_loopK (s0:=?lps1) (m0:=?lpm1) (ι:={i:Nat // i≤m.length∧∀ j,j<i→gp l j=gp m j}) [0,1,12] (fun s=>[(13,I s.1)]) (fun _=>[]) (fun s=>m.length - s.1) ⟨0,by omega,by omega⟩ ?lhs1 ?lhm1 ?_ ?_
  case lhs1=>first|(simp [keepS];done)|(simp [keepS];rfl)
  case lhm1=>first|rfl|(simp;done)|(simp;rfl)
  ·exact dle
  ·rintro ⟨i,hi,hinv⟩
   simp only
   rcases Decidable.em (i<m.length) with hil|hil
   ·have hilI:(i:Int)<(m.length:Int):=by omega
    have hil2:i<l.length:=by omega
    have hil2I:(i:Int)<(l.length:Int):=by omega
    have hg:=prows_gi hil2
    have hgE:=prows_gE hil2
    have hg':=prows_gi hil
    have hgE':=prows_gE hil
    have hdf:gp l i≠gp m i→¬ l=m:=fun h e=>h (by rw [e])
    have hinv2:gp l i=gp m i→∀ j,j<i+1→gp l j=gp m j:=fun h j hj=>by
     rcases Nat.lt_succ_iff_lt_or_eq.1 hj with h5|rfl
     ·exact hinv j h5
     ·exact h
    obtain ⟨⟨a,a2⟩,ha⟩:∃ a,a=gp l i:=⟨_,rfl⟩
    obtain ⟨⟨b,b2⟩,hb⟩:∃ b,b=gp m i:=⟨_,rfl⟩
    rw [← ha,← hb] at hdf hinv2
    rw [← ha] at hg hgE
    rw [← hb] at hg' hgE'
    simp only at hg hgE hg' hgE'
    rcases Decidable.em (a=b∧a2=b2) with e1|e1
    ·obtain ⟨rfl,rfl⟩:=e1
     have:=hinv2 rfl
     have zS:=jj hilI<|jj hil<|jj hil2<|jj hil2I<|jj hg<|jj hgE<|jj hg'<|jj hgE'<|jj h1<|jj he<|jj eqLs<|sameKs
     repeat' (first|(apply aw_seq_k;intro K hK)|(refine eM64 ?_)|(refine aw_cond (b:=_) (by exact rfl) (fun h=>?_) (fun h=>?_)<;>(try simp at h))|(refine eB ?_)|(refine hK _ ?_;clear hK)|(clear hK;refine hK _ ?_;clear hK)|(clear hK;clear hK;refine hK _ ?_;clear hK)|(clear hK;clear hK;clear hK;refine hK _ ?_;clear hK))
     all_goals clear zS
     refine ⟨i+1,?_,⟨by omega,this⟩,by omega⟩
     exact dle
    ·have e:=hdf (by simp;omega)
     have e2:a=b→¬ (a2:Int)=(b2:Int):=by omega
     have e3:a=b→¬ a2=b2:=by omega
     have zS:=jj hilI<|jj hil<|jj hil2<|jj hil2I<|jj hg<|jj hgE<|jj hg'<|jj hgE'<|jj h1<|jj he<|jj eqLs<|jj sameKs<|jj e1<|jj e2<|e3
     repeat' (first|(apply aw_seq_k;intro K hK)|(refine eM64 ?_)|(refine aw_cond (b:=_) (by exact rfl) (fun h=>?_) (fun h=>?_)<;>(try simp at h))|(refine eB ?_)|(refine hK _ ?_;clear hK)|(clear hK;refine hK _ ?_;clear hK)|(clear hK;clear hK;refine hK _ ?_;clear hK)|(clear hK;clear hK;clear hK;refine hK _ ?_;clear hK))
     all_goals clear zS
     refine ⟨by simp,?_⟩
     simp [leaves_iff,Try.f76,e]
     try exact dt
   ·obtain rfl:i=m.length:=by omega
    have e:l=m:=list_ext_gp h1 fun j hj=>hinv j (by omega)
    have zS:=h1
    repeat' (first|(apply aw_seq_k;intro K hK)|(refine eM64 ?_)|(refine aw_cond (b:=_) (by exact rfl) (fun h=>?_) (fun h=>?_)<;>(try simp at h))|(refine eB ?_)|(refine hK _ ?_;clear hK)|(clear hK;refine hK _ ?_;clear hK)|(clear hK;clear hK;refine hK _ ?_;clear hK)|(clear hK;clear hK;clear hK;refine hK _ ?_;clear hK))
    all_goals clear zS
    refine ⟨by simp,?_⟩
    simp [leaves_iff,Try.f76,e]
    try exact dt
 ·have h1I:¬ (l.length:Int)=(m.length:Int):=by omega
  have e:¬ l=m:=fun e=>h1 (by rw [e])
  have zS:=jj h1<|h1I
  refine dM64 ?_
  repeat (intro K hK)
  clear zS
  all_goals refine ⟨by simp,?_⟩
  all_goals simp [leaves_iff,Try.f76,e]
  all_goals try exact dt
def mrow (l:List Dp):List AV:=[.rd 2 (prows l)]
def mrows (ls:List (List Dp)):List (List AV):=ls.map mrow
@[simp] theorem mrows_len (ls:List (List Dp)):(mrows ls).length=ls.length:=by simp [mrows]
def gmm (ls:List (List Dp)) (i:Nat):List Dp:=ls.getD i []
theorem gmm_eq {ls:List (List Dp)} {i:Nat} (h:i<ls.length):gmm ls i=ls[i]:=by
 unfold gmm;rw [List.getD_eq_getElem?_getD,List.getElem?_eq_getElem h];rfl
theorem gmm_mem {ls:List (List Dp)} {i:Nat} (h:i<ls.length):gmm ls i∈ls:=by rw [gmm_eq h];exact List.getElem_mem h
theorem mrows_gi {ls:List (List Dp)} {i:Nat} (h:i<ls.length):(mrows ls)[i]?=some [.rd 2 (prows (gmm ls i))]:=by
 rw [gmm_eq h];simp [mrows,mrow,h]
theorem mrows_gE {ls:List (List Dp)} {i:Nat} (h:i<ls.length):∀ h',(mrows ls)[i]'(h')=[.rd 2 (prows (gmm ls i))]:=fun h'=>by
 have:=mrows_gi h
 rw [List.getElem?_eq_getElem h'] at this
 exact Option.some.inj this
theorem mrows_inj:∀ {a b:List (List Dp)},mrows a=mrows b↔a=b
 | [],[]=>by simp [mrows]
 | [],_::_=>by simp [mrows]
 | _::_,[]=>by simp [mrows]
 | x::a,y::b=>by
  have ih:=@mrows_inj a b
  unfold mrows at ih ⊢
  simp only [List.map_cons,List.cons.injEq,ih,mrow,AV.rd.injEq,true_and,and_true,prows_inj]
theorem list_ext_gmm {a b:List (List Dp)} (hl:a.length=b.length) (h:∀ j,j<a.length→gmm a j=gmm b j):a=b:=by
 refine List.ext_getElem hl fun i h1 h2=>?_
 have:=h i h1
 rw [gmm_eq h1,gmm_eq h2] at this
 exact this
def MssOK (l:List (List Dp)):Prop:=l.length≤1000000∧∀ r∈l,r.length≤1000000
noncomputable def EqfF:List AV→Option AV:=specF (ι:={x:List (List Dp)×List (List Dp) // MssOK x.1∧MssOK x.2}) (fun x=>[.rd 1 (mrows x.1.1),.rd 1 (mrows x.1.2),.fn 76 []]) fun x=>retOf [B (decide (x.1.1=x.1.2))]
theorem eqfF_at {a b:List (List Dp)} (ha:MssOK a) (hb:MssOK b) (M:Nat→AO) (n:Nat):callP EqfF [.rd 1 (mrows a),.rd 1 (mrows b),.fn 76 []] M n=some (B (decide (a=b)),[]):=by
 refine callP_spec (ι:={x:List (List Dp)×List (List Dp) // MssOK x.1∧MssOK x.2}) (A:=fun x=>[.rd 1 (mrows x.1.1),.rd 1 (mrows x.1.2),.fn 76 []]) (R:=fun x=>retOf [B (decide (x.1.1=x.1.2))]) ⟨(a,b),ha,hb⟩ (by simp [peekVals,peekVal]) (fun j e=>?_) (by simp)
 obtain ⟨⟨a',b'⟩,h'⟩:=j
 simp only [List.cons.injEq,AV.rd.injEq,mrows_inj,true_and,and_true] at e
 obtain ⟨rfl,rfl⟩:=e;rfl
theorem s75 (X:AX) (hX:XOK Try.prog X) (hw:X.W wT) (heq:X.call 76=callP EqmF):PSound Try.prog 75 EqfF:=by
 unfold EqfF
 refine psound_spec hX mixed Try.func75 rfl fun ⟨⟨l,m⟩,⟨hl,hlr⟩,hm,hmr⟩ w0 G=>⟨by show 3≤32;decide,rfl,?_⟩
 show AW ⟨Try.prog,X,32,w0,.pure G⟩ _ _ _
 have hc:Cx.OK ⟨Try.prog,X,32,w0,.pure G⟩:=⟨hX,mixed⟩
 simp only at hl hm hlr hmr ⊢
 rcases Decidable.em (l.length=m.length) with h1|h1
 ·have h1I:(l.length:Int)=(m.length:Int):=by omega
  have zS:=h1
  repeat' (first|(apply aw_seq_k;intro K hK)|(refine eM64 ?_)|(refine aw_cond (b:=_) (by exact rfl) (fun h=>?_) (fun h=>?_)<;>(try simp at h))|(refine eB ?_)|(refine hK _ ?_;clear hK)|(clear hK;refine hK _ ?_;clear hK)|(clear hK;clear hK;refine hK _ ?_;clear hK)|(clear hK;clear hK;clear hK;refine hK _ ?_;clear hK))
  all_goals clear zS
  refine aw_loopK (s0:=?lps2) (m0:=?lpm2) (ι:={i:Nat // i≤m.length∧∀ j,j<i→gmm l j=gmm m j}) [1,2,15,16] (fun s=>[(17,I s.1)]) (fun _=>[]) (fun s=>m.length - s.1) ⟨0,by omega,by omega⟩ ?lhs2 ?lhm2 ?_ ?_
  case lhs2=>first|(simp [keepS];done)|(simp [keepS];rfl)
  case lhm2=>first|rfl|(simp;done)|(simp;rfl)
  ·exact dle
  ·rintro ⟨i,hi,hinv⟩
   simp only
   rcases Decidable.em (i<m.length) with hil|hil
   ·have hilI:(i:Int)<(m.length:Int):=by omega
    have hil2:i<l.length:=by omega
    have hil2I:(i:Int)<(l.length:Int):=by omega
    have hg:=mrows_gi hil2
    have hgE:=mrows_gE hil2
    have hg':=mrows_gi hil
    have hgE':=mrows_gE hil
    have ca:∀ M n,X.call 76 [.rd 2 (prows (gmm l i)),.rd 2 (prows (gmm m i))] M n=some (B (decide (gmm l i=gmm m i)),[]):=fun M n=>by rw [heq];exact eqmF_at (hlr _ (gmm_mem hil2)) (hmr _ (gmm_mem hil)) M n
    have hdf:gmm l i≠gmm m i→¬ l=m:=fun h e=>h (by rw [e])
    have hinv2:gmm l i=gmm m i→∀ j,j<i+1→gmm l j=gmm m j:=fun h j hj=>by
     rcases Nat.lt_succ_iff_lt_or_eq.1 hj with h5|rfl
     ·exact hinv j h5
     ·exact h
    obtain ⟨a,ha⟩:∃ a,a=gmm l i:=⟨_,rfl⟩
    obtain ⟨b,hb⟩:∃ b,b=gmm m i:=⟨_,rfl⟩
    rw [← ha,← hb] at hdf hinv2 ca
    rw [← ha] at hg hgE
    rw [← hb] at hg' hgE'
    rcases Decidable.em (a=b) with e1|e1
    ·rw [decide_eq_true e1] at ca
     have:=hinv2 e1
     clear e1 hdf hinv2 heq
     have zS:=jj hilI<|jj hil<|jj hil2<|jj hil2I<|jj hg<|jj hgE<|jj hg'<|jj hgE'<|jj h1<|ca
     repeat' (first|(apply aw_seq_k;intro K hK)|(refine eM64 ?_)|(refine aw_cond (b:=_) (by exact rfl) (fun h=>?_) (fun h=>?_)<;>(try simp at h))|(refine eB ?_)|(refine hK _ ?_;clear hK)|(clear hK;refine hK _ ?_;clear hK)|(clear hK;clear hK;refine hK _ ?_;clear hK)|(clear hK;clear hK;clear hK;refine hK _ ?_;clear hK))
     all_goals clear zS
     refine ⟨i+1,?_,⟨by omega,this⟩,by omega⟩
     exact dle
    ·rw [decide_eq_false e1] at ca
     have e:=hdf e1
     clear e1 hdf hinv2 heq
     have zS:=jj hilI<|jj hil<|jj hil2<|jj hil2I<|jj hg<|jj hgE<|jj hg'<|jj hgE'<|jj h1<|ca
     repeat' (first|(apply aw_seq_k;intro K hK)|(refine eM64 ?_)|(refine aw_cond (b:=_) (by exact rfl) (fun h=>?_) (fun h=>?_)<;>(try simp at h))|(refine eB ?_)|(refine hK _ ?_;clear hK)|(clear hK;refine hK _ ?_;clear hK)|(clear hK;clear hK;refine hK _ ?_;clear hK)|(clear hK;clear hK;clear hK;refine hK _ ?_;clear hK))
     all_goals clear zS
     refine ⟨by simp,?_⟩
     simp [leaves_iff,Try.f75,e]
     try exact dt
   ·obtain rfl:i=m.length:=by omega
    have e:l=m:=list_ext_gmm h1 fun j hj=>hinv j (by omega)
    have zS:=h1
    repeat' (first|(apply aw_seq_k;intro K hK)|(refine eM64 ?_)|(refine aw_cond (b:=_) (by exact rfl) (fun h=>?_) (fun h=>?_)<;>(try simp at h))|(refine eB ?_)|(refine hK _ ?_;clear hK)|(clear hK;refine hK _ ?_;clear hK)|(clear hK;clear hK;refine hK _ ?_;clear hK)|(clear hK;clear hK;clear hK;refine hK _ ?_;clear hK))
    all_goals clear zS
    refine ⟨by simp,?_⟩
    simp [leaves_iff,Try.f75,e]
    try exact dt
 ·have h1I:¬ (l.length:Int)=(m.length:Int):=by omega
  have e:¬ l=m:=fun e=>h1 (by rw [e])
  have zS:=jj h1<|h1I
  refine dM64 ?_
  repeat (intro K hK)
  clear zS
  all_goals refine ⟨by simp,?_⟩
  all_goals simp [leaves_iff,Try.f75,e]
  all_goals try exact dt
end Go.AM
namespace Go.AM
open Go Go.Proofs
theorem repL_1 {E:Env} {w:World} {a:AV} {vs:List Value}:RepL E w [a] vs↔∃ y,vs=[y]∧Rep E w a y:=by
 match vs with
 | []=>simp [RepL]
 | [y]=>simp [RepL]
 | _::_::_=>simp [RepL]
def HidJ (w0:World) (l0:List Nat) (G:Nat→Prop) (k1 k2 k3:Nat) (xs:List (List AV)) (x:Bool×List (List Dp)) (F:List Nat) (w:World):Prop :=
 ∃ (E:Env) (o:Nat) (L:List Value) (vers:Nat→Nat),HidE w0 l0 G E (hiM xs x.1 o L 0 vers x.2) F w∧(∀ b,E.alive b↔b<5+xs.length∧b≠4) ∧
  (E.loc 0=some (k1,0,1)∧E.loc 1=some (k2,0,1)∧E.loc 2=some (k3,0,1))∧x.2.length=xs.length∧o+xs.length≤L.length ∧
  ∀ i,i<xs.length→∃ v,L[o+i]?=some v∧Rep E w (.sl (5+i) (vers i) 2 0 (x.2.getD i []).length) v
theorem HidJ.keep {w0:World} {l0:List Nat} {G:Nat→Prop} {k1 k2 k3:Nat} {xs:List (List AV)} {x:Bool×List (List Dp)} {F:List Nat} {w w':World} (h:HidJ w0 l0 G k1 k2 k3 xs x F w)
  (hF:∀ k∈F,w'.heap[k]?=w.heap[k]?) (hfr:Frame w0 l0 w') (hsz:w.heap.size≤w'.heap.size):HidJ w0 l0 G k1 k2 k3 xs x F w':=by
 obtain ⟨E,o,L,vers,h1,h2,h3,h4,h5,h6⟩:=h
 refine ⟨E,o,L,vers,h1.keep hF hfr hsz,h2,h3,h4,h5,fun i hi=>?_⟩
 obtain ⟨v,q1,q2⟩:=h6 i hi
 refine ⟨v,q1,?_⟩
 simp only [Rep] at q2 ⊢
 exact q2
theorem HidI.detach {w0:World} {l0:List Nat} {G:Nat→Prop} {k1 k2 k3 k4:Nat} {xs:List (List AV)} {s:Int} {x:Bool×List (List Dp)} {F:List Nat} {w:World} (h:HidI w0 l0 G k1 k2 k3 k4 xs s x F w):HidJ w0 l0 G k1 k2 k3 xs x F w:=by
 obtain ⟨E,o,L,vers,h1,h2,⟨l1,l2,l3,_⟩,h4,h5,h6⟩:=h
 refine ⟨{ E with alive:=fun b=>E.alive b∧b≠4 },o,L,vers,⟨⟨h1.inv.frame,⟨h1.inv.gin.G,fun _ h=>h.elim,fun _ h=>h.elim⟩,fun _ h=>h.elim,h1.inv.gout,h1.inv.good,fun b blk base sz hb hl=>h1.inv.locs b blk base sz hb.1 hl,fun b b' blk base sz base' sz' hb hb'=>h1.inv.apart b b' blk base sz base' sz' hb.1 hb'.1⟩,
  fun b hb=>?_,fun b blk base sz hb hl=>h1.loc b blk base sz hb.1 hl,h1.gs,h1.low,h1.gw⟩,fun b=>by simp [h2],⟨l1,l2,l3⟩,h4,h5,fun i hi=>?_⟩
 ·have hob:=h1.mem b hb.1
  have h3a:E.alive 3:=(h2 3).2 (by omega)
  match b,hb,hob with
  | 0,_,hob =>
   simp only [hiM,ObjRep,repL_1,Rep,CRep] at hob ⊢
   exact hob
  | 1,_,hob =>
   simp only [hiM,ObjRep,repL_1,B,Rep,CRep] at hob ⊢
   exact hob
  | 2,_,hob =>
   simp only [hiM,ObjRep,repL_1,Rep] at hob ⊢
   obtain ⟨a1,blk,t,vs,a2,a3,a4,y,a5,a6,a7⟩:=hob
   exact ⟨a1,blk,t,vs,a2,a3,a4,y,a5,⟨a6,by decide⟩,a7⟩
  | 3,_,hob =>
   simp only [hiM,ObjRep,repL_vm] at hob ⊢
   exact hob
  | 4,hb,_=>exact absurd rfl hb.2
  | j+5,_,hob =>
   by_cases hj:j<xs.length
   ·simp only [hiM,hj,if_true,ObjRep] at hob ⊢
    exact hob
   ·simp only [hiM,hj,if_false,ObjRep]
 ·obtain ⟨v,q1,q2⟩:=h6 i hi
  refine ⟨v,q1,?_⟩
  simp only [Rep] at q2 ⊢
  exact ⟨⟨q2.1,by omega⟩,q2.2⟩
theorem HidJ.attach {w0:World} {l0:List Nat} {G:Nat→Prop} {k1 k2 k3 k4:Nat} {xs:List (List AV)} {s:Int} {x:Bool×List (List Dp)} {F:List Nat} {w:World} (h:HidJ w0 l0 G k1 k2 k3 xs x F w)
  {t:TypeId} (hk:w.heap[k4]?=some (.cells #[.int .i64 s] t (0,0))) (hkF:k4 ∉ F) (hk0:w0.heap.size≤k4∨k4∈l0) (hone:(Value.int .i64 s).oneCell'=true):HidI w0 l0 G k1 k2 k3 k4 xs s x (F++[k4]) w:=by
 obtain ⟨E,o,L,vers,h1,h2,⟨l1,l2,l3⟩,h4,h5,h6⟩:=h
 have hG4:¬ E.G k4:=fun hg=>by
  rcases h1.gs k4 hg with q|q
  ·obtain ⟨q1,q2⟩:=h1.gw k4 q
   rcases hk0 with q3|q3
   ·omega
   ·exact q2 q3
  ·exact hkF q
 have hsz:k4<w.heap.size:=(Array.getElem?_eq_some_iff.1 hk).1
 have hno:∀ b base sz,E.alive b→E.loc b≠some (k4,base,sz):=fun b base sz hb hl=>hkF (h1.loc b k4 base sz hb hl)
 let E':Env:={ E with alive:=fun b=>E.alive b∨b=4,ver:=fun b=>if b=4 then 0 else E.ver b,loc:=fun b=>if b=4 then some (k4,0,1) else E.loc b }
 have n4:¬ E.alive 4:=fun h=>((h2 4).1 h).2 rfl
 have hle:E.Le E':=⟨fun _ h=>h,fun _ h=>.inl h,fun b hb=>.inl (by
  have:b≠4:=fun e=>n4 (e ▸ hb)
  simp [E',this])⟩
 refine ⟨E',o,L,vers,⟨⟨h1.inv.frame,⟨h1.inv.gin.G,fun _ h=>h.elim,fun _ h=>h.elim⟩,fun _ h=>h.elim,h1.inv.gout,h1.inv.good,fun b blk base sz hb hl=>?_,fun b b' blk base sz base' sz' hb hb' hl hl'=>?_⟩,
  fun b hb=>?_,fun b blk base sz hb hl=>?_,fun k hk=>(h1.gs k hk).imp id fun q=>List.mem_append.2 (.inl q),fun k hk=>?_,h1.gw⟩,fun b=>?_,⟨?_,?_,?_,?_⟩,h4,h5,fun i hi=>?_⟩
 ·by_cases e:b=4
  ·simp only [E',e,if_true,Option.some.injEq,Prod.mk.injEq] at hl
   obtain ⟨rfl,rfl,rfl⟩:=hl
   exact ⟨hsz,hG4,hk0⟩
  ·simp only [E',e,if_false] at hl
   exact h1.inv.locs b blk base sz (hb.resolve_right e) hl
 ·by_cases e:b=4
  ·by_cases e':b'=4
   ·rw [e,e']
   ·simp only [E',e,if_true,Option.some.injEq,Prod.mk.injEq] at hl
    simp only [E',e',if_false] at hl'
    exact absurd (hl.1 ▸ hl') (hno b' _ _ (hb'.resolve_right e'))
  ·by_cases e':b'=4
   ·simp only [E',e',if_true,Option.some.injEq,Prod.mk.injEq] at hl'
    simp only [E',e,if_false] at hl
    exact absurd (hl'.1 ▸ hl) (hno b _ _ (hb.resolve_right e))
   ·simp only [E',e,if_false] at hl
    simp only [E',e',if_false] at hl'
    exact h1.inv.apart b b' blk base sz base' sz' (hb.resolve_right e) (hb'.resolve_right e') hl hl'
 ·by_cases e:b=4
  ·subst e
   simp only [hiM,ObjRep]
   refine ⟨by simp [E'],k4,t,[.int .i64 s],by simp [E'],hk,by simp,by simp [RepL,Rep,CRep,I]⟩
  ·have hob:=h1.mem b (hb.resolve_right e)
   have hmm:hiM xs x.1 o L s vers x.2 b=hiM xs x.1 o L 0 vers x.2 b:=by
    match b,e with
    | 0,_=>rfl
    | 1,_=>rfl
    | 2,_=>rfl
    | 3,_=>rfl
    | 4,e=>exact absurd rfl e
    | j+5,_=>rfl
   rw [hmm]
   exact ObjRep.mono hle (fun _ _=>rfl) (by simp [E',e]) (by simp [E',e]) (fun _ _ _ _=>rfl) hob
 ·by_cases e:b=4
  ·simp only [E',e,if_true,Option.some.injEq,Prod.mk.injEq] at hl
   exact List.mem_append.2 (.inr (by simp [hl.1]))
  ·simp only [E',e,if_false] at hl
   exact List.mem_append.2 (.inl (h1.loc b blk base sz (hb.resolve_right e) hl))
 ·rcases List.mem_append.1 hk with q|q
  ·exact h1.low k q
  ·simp only [List.mem_singleton] at q
   rw [q];exact hk0
 ·show E.alive b∨b=4↔_
  rw [h2]
  omega
 ·simpa [E'] using l1
 ·simpa [E'] using l2
 ·simpa [E'] using l3
 ·simp [E']
 ·obtain ⟨v,q1,q2⟩:=h6 i hi
  exact ⟨v,q1,q2.mono hle fun _ _=>rfl⟩
end Go.AM
namespace Go.AM
open Go Go.Proofs
theorem SatX.fresh {N:Nat} {a:Act} {w:World} {F:List Nat} {Gw:Nat→Prop} {kp:List (Nat×AV)} {nx:Nat} (hd:a.defers=[]) (hs:a.tmps.size=N) (hG:∀ k,Gw k→k<w.heap.size) (hF:∀ k∈F,k<w.heap.size∧¬ Gw k)
  (hk:∀ p∈kp,CRep w Gw p.2 (a.tmps.getD p.1 undef)):SatX N w ⟨F,Env.start Gw,0⟩ a w ⟨kp,[],nx⟩ F:=by
 refine ⟨Env.start Gw,⟨hd,hs,⟨⟨rfl,rfl,Nat.le_refl _,fun _ _ _=>rfl⟩,Env.Le.refl _,fun _ h=>h.elim,fun k hk=>.inl hk,hG,fun _ _ _ _ h=>h.elim,fun _ _ _ _ _ _ _ h=>h.elim⟩,fun b hb=>hb.elim,fun t=>?_⟩,fun k hk=>hk.elim,fun k hk=>absurd rfl hk,fun k hk=>⟨(hF k hk).1,(hF k hk).2,fun _ _ _ hb=>hb.elim⟩⟩
 rcases getS_cases kp t with e|⟨p,hp,rfl,e⟩
 ·rw [e];simp [Rep,CRep]
 ·rw [e]
  exact Rep.of_c (E:=Env.start Gw) (hk p hp)
def nilV0:Value:=.slice none 0 0
theorem gprep {n i:Nat}:((List.replicate n ([]:List Dp)).getD i [])=[]:=by
 rw [List.getD_eq_getElem?_getD]
 by_cases h:i<n
 ·simp [h]
 ·rw [List.getElem?_eq_none (by simp;omega)];rfl
theorem hideJ {N:Nat} {w0:World} {bl:Bk} {E:Env} {a:Act} {w:World} {g:Nat→AV} {m:Nat→AO} (h:SatF N w0 bl E a w g m) {s3 s5 s6 a0 a1 a2 v:Nat} {xs:List (List AV)} {f:Bool}
  (hx:0<xs.length) (g3:g s3=.bp a0 0) (g5:g s5=.bp a1 0) (g6:g s6=.bp a2 0) (m0:m a0=.box [.rd 1 xs]) (m1:m a1=.box [.sl v 1 1 0 xs.length]) (m2:m a2=.box [B true]) (mv:m v=.vec 1 1 f (List.replicate xs.length [.v nilV0]))
  (d1:a0≠a1) (d2:a0≠a2) (d3:a0≠v) (d4:a1≠a2) (d5:a1≠v) (d6:a2≠v) :
  ∃ k1 k2 k3 F,(∀ k∈F,k<w.heap.size∧¬ E.G k)∧(∀ k∈F,w0.heap.size≤k∨k∈bl.l)∧a.tmps.getD s3 undef=pK k1∧a.tmps.getD s6 undef=pK k2∧a.tmps.getD s5 undef=pK k3 ∧
   HidJ w F E.G k1 k2 k3 xs (true,List.replicate xs.length []) F w:=by
 have r3:=h.slots s3
 have r5:=h.slots s5
 have r6:=h.slots s6
 rw [g3] at r3
 rw [g5] at r5
 rw [g6] at r6
 simp only [Rep] at r3 r5 r6
 obtain ⟨l0,v0,k1,z1,e1,r3⟩:=r3
 obtain ⟨l1,v1,k3,z3,e3,r5⟩:=r5
 obtain ⟨l2,v2,k2,z2,e2,r6⟩:=r6
 have o0:=h.mem a0 l0
 have o1:=h.mem a1 l1
 have o2:=h.mem a2 l2
 rw [m0] at o0
 rw [m1] at o1
 rw [m2] at o2
 simp only [ObjRep,repL_1] at o0 o1 o2
 obtain ⟨_,b0,t0,vs0,q0,h0,one0,y0,rfl,p0⟩:=o0
 obtain ⟨_,b1,t1,vs1,q1,h1,one1,y1,rfl,p1⟩:=o1
 obtain ⟨_,b2,t2,vs2,q2,h2,one2,y2,rfl,p2⟩:=o2
 rw [e1] at q0
 rw [e3] at q1
 rw [e2] at q2
 simp only [List.length_cons,List.length_nil,Nat.zero_add,Option.some.injEq,Prod.mk.injEq,true_and] at q0 q1 q2
 obtain ⟨rfl,rfl⟩:=q0
 obtain ⟨rfl,rfl⟩:=q1
 obtain ⟨rfl,rfl⟩:=q2
 simp only [Rep] at p1
 obtain ⟨lv,_,_,p,c,rfl,hnc,hpc,hsl⟩:=p1
 have ov:=h.mem v lv
 rw [mv] at ov
 simp only [ObjRep] at ov
 obtain ⟨vv,_,ov⟩:=ov
 cases hlv:E.loc v with
 | none =>
  rw [hlv] at ov
  simp only [List.replicate_eq_nil_iff] at ov
  omega
 | some l =>
 obtain ⟨ka,base,sz⟩:=l
 rw [hlv] at ov
 simp only at ov
 obtain ⟨cs,tc,hka,hszc,onec,hbn,_,hrows⟩:=ov
 have hsl:=hsl vv.symm
 rw [hlv] at hsl
 simp only [SlAt] at hsl
 obtain ⟨ad,rfl,had,_⟩:=hsl
 have had:ad=⟨ka,base,none⟩:=by
  rcases had with q|q
  ·omega
  ·simpa using q
 subst had
 simp only [List.length_replicate,Nat.mul_one] at hbn
 have i:=h.inv
 have c1:=i.locs a0 k1 0 1 l0 e1
 have c3:=i.locs a1 k3 0 1 l1 e3
 have c2:=i.locs a2 k2 0 1 l2 e2
 have ca:=i.locs v ka base sz lv hlv
 have n13:k1≠k3:=fun e=>d1 (i.apart a0 a1 k1 0 1 0 1 l0 l1 e1 (e ▸ e3))
 have n12:k1≠k2:=fun e=>d2 (i.apart a0 a2 k1 0 1 0 1 l0 l2 e1 (e ▸ e2))
 have n1a:k1≠ka:=fun e=>d3 (i.apart a0 v k1 0 1 base sz l0 lv e1 (e ▸ hlv))
 have n32:k3≠k2:=fun e=>d4 (i.apart a1 a2 k3 0 1 0 1 l1 l2 e3 (e ▸ e2))
 have n3a:k3≠ka:=fun e=>d5 (i.apart a1 v k3 0 1 base sz l1 lv e3 (e ▸ hlv))
 have n2a:k2≠ka:=fun e=>d6 (i.apart a2 v k2 0 1 base sz l2 lv e2 (e ▸ hlv))
 let Eh:Env:={ G:=E.G,alive:=fun b=>b<5+xs.length∧b≠4,ver:=fun b=>(if b<5 then 0 else 1),loc:=fun b=>if b=0 then some (k1,0,1) else if b=1 then some (k2,0,1) else if b=2 then some (k3,0,1) else if b=3 then some (ka,0,cs.size) else none }
 have hlocs:∀ b blk base sz,Eh.loc b=some (blk,base,sz)→(b=0∧blk=k1)∨(b=1∧blk=k2)∨(b=2∧blk=k3)∨(b=3∧blk=ka):=fun b blk base sz hl=>by
  simp only [Eh] at hl
  split at hl
  ·simp at hl;rename_i e;exact .inl ⟨e,hl.1.symm⟩
  ·split at hl
   ·simp at hl;rename_i e;exact .inr (.inl ⟨e,hl.1.symm⟩)
   ·split at hl
    ·simp at hl;rename_i e;exact .inr (.inr (.inl ⟨e,hl.1.symm⟩))
    ·split at hl
     ·simp at hl;rename_i e;exact .inr (.inr (.inr ⟨e,hl.1.symm⟩))
     ·simp at hl
 have hFin:∀ k∈[k1,k3,k2,ka],k<w.heap.size∧¬ E.G k∧(w0.heap.size≤k∨k∈bl.l):=fun k hk=>by
  simp only [List.mem_cons,List.not_mem_nil,or_false] at hk
  rcases hk with rfl|rfl|rfl|rfl
  ·exact c1
  ·exact c3
  ·exact c2
  ·exact ca
 refine ⟨k1,k2,k3,[k1,k3,k2,ka],fun k hk=>⟨(hFin k hk).1,(hFin k hk).2.1⟩,fun k hk=>(hFin k hk).2.2,r3,r6,r5,Eh,base,cs.toList,fun _=>1,
  ⟨⟨⟨rfl,rfl,Nat.le_refl _,fun _ _ _=>rfl⟩,⟨fun _ h=>h,fun _ h=>h.elim,fun _ h=>h.elim⟩,fun _ h=>h.elim,fun k hk=>.inl hk,i.good,fun b blk base sz hb hl=>?_,fun b b' blk base sz base' sz' hb hb' hl hl'=>?_⟩,
   fun b hb=>?_,fun b blk base sz hb hl=>?_,fun k hk=>.inl hk,fun k hk=>.inr hk,fun k hk=>⟨i.good k hk,fun hm=>(hFin k hm).2.1 hk⟩⟩,fun b=>Iff.rfl,⟨rfl,rfl,rfl⟩,by simp,by simp;omega,fun j hj=>?_⟩
 ·have hm:blk∈[k1,k3,k2,ka]:=by rcases hlocs b blk base sz hl with ⟨_,rfl⟩|⟨_,rfl⟩|⟨_,rfl⟩|⟨_,rfl⟩<;>simp
  exact ⟨(hFin blk hm).1,(hFin blk hm).2.1,.inr hm⟩
 ·rcases hlocs b blk base sz hl with ⟨rfl,f1⟩|⟨rfl,f1⟩|⟨rfl,f1⟩|⟨rfl,f1⟩<;>rcases hlocs b' blk base' sz' hl' with ⟨rfl,f2⟩|⟨rfl,f2⟩|⟨rfl,f2⟩|⟨rfl,f2⟩ <;>
   first
   | rfl
   | (exfalso;have e:=f1.symm.trans f2;first|exact n13 e|exact n12 e|exact n1a e|exact n32 e|exact n3a e|exact n2a e|exact n13 e.symm|exact n12 e.symm|exact n1a e.symm|exact n32 e.symm|exact n3a e.symm|exact n2a e.symm)
 ·match b,hb with
  | 0,_ =>
   simp only [hiM,ObjRep,repL_1]
   refine ⟨rfl,k1,t0,[y0],rfl,h0,one0,y0,rfl,?_⟩
   simp only [Rep] at p0 ⊢
   exact p0
  | 1,_ =>
   simp only [hiM,ObjRep,repL_1]
   refine ⟨rfl,k2,t2,[y2],rfl,h2,one2,y2,rfl,?_⟩
   simp only [Rep,B] at p2 ⊢
   exact p2
  | 2,_ =>
   simp only [hiM,ObjRep,repL_1]
   refine ⟨rfl,k3,t1,_,rfl,h1,one1,_,rfl,?_⟩
   simp only [Rep]
   exact ⟨⟨by omega,by decide⟩,rfl,ka,cs.size,_,c,rfl,rfl,hnc,.inr rfl⟩
  | 3,_ =>
   simp only [hiM,ObjRep,repL_vm]
   exact ⟨rfl,ka,tc,cs.toList,by simp [Eh],by simpa using hka,onec,rfl⟩
  | 4,hb=>exact absurd rfl hb.2
  | j+5,hb =>
   have hj:j<xs.length:=by have:=hb.1;omega
   simp only [hiM,hj,if_true,ObjRep,gprep]
   refine ⟨by simp [Eh],Nat.le_refl _,?_⟩
   have e:Eh.loc (j+5)=none:=by simp [Eh]
   rw [e]
   rfl
 ·rcases hlocs b blk base sz hl with ⟨_,rfl⟩|⟨_,rfl⟩|⟨_,rfl⟩|⟨_,rfl⟩<;>simp
 ·obtain ⟨_,hcc⟩:=hrows.get (i:=j) (e:=[.v nilV0]) (by simp [hj])
  obtain ⟨x,hx1,_,hx2⟩:=hcc.get (j:=0) (a:=.v nilV0) rfl
  simp only [CRep] at hx2
  subst hx2
  refine ⟨nilV0,?_,?_⟩
  ·have:=cell_of_row w ka (base+j) cs tc _ hka
   rw [Nat.mul_one,Nat.add_zero] at hx1
   rw [this] at hx1
   simpa using hx1
  ·simp only [gprep,List.length_nil,Rep]
   refine ⟨⟨by omega,by omega⟩,Nat.le_refl _,by (show 1≤(if 5+j<5 then 0 else 1));rw [if_neg (by omega)];exact Nat.le_refl _,none,0,rfl,Nat.le_refl _,fun _=>rfl,fun _=>?_⟩
   have e:Eh.loc (5+j)=none:=by
    have q0:¬ (5+j=0):=by omega
    have q1:¬ (5+j=1):=by omega
    have q2:¬ (5+j=2):=by omega
    have q3:¬ (5+j=3):=by omega
    simp [Eh,q1,q2,q3]
   rw [e]
   exact ⟨rfl,rfl⟩
end Go.AM
namespace Go.AM
open Go Go.Proofs
theorem adoptJ {N:Nat} {w0 w1 w':World} {G0 G1:Nat→Prop} {F1 F':List Nat} {a:Act} {st:St} {k1 k2 k3:Nat} {xs:List (List AV)} {x:Bool×List (List Dp)}
  (hs:SatX N w1 ⟨F1,Env.start G1,0⟩ a w' st F') (hj:HidJ w1 F1 G1 k1 k2 k3 xs x F' w') (hfr:Frame w0 [] w1) (hF1:∀ k∈F1,w0.heap.size≤k) (hG1:∀ k,G1 k→G0 k∨w0.heap.size≤k) (hG0:∀ k,G0 k→G1 k)
  {s3 s5 s6:Nat} (h3:a.tmps.getD s3 undef=pK k1) (h5:a.tmps.getD s5 undef=pK k3) (h6:a.tmps.getD s6 undef=pK k2) :
  Sat N w0 (Bk.pure G0) a w' ⟨[(s3,.bp 0 0),(s5,.bp 1 0),(s6,.bp 2 0)],[(0,.box [.rd 1 xs]),(1,.box [.rd 1 (mrows x.2)]),(2,.box [B x.1])],3⟩:=by
 obtain ⟨Ev,v1,v2,v3,v4⟩:=hs
 obtain ⟨Eh,o,L,vers,hh,hal,⟨l0,l1,l2⟩,hn,ho,hhd⟩:=hj
 have iv:=v1.inv
 have ih:=hh.inv
 have a0:Eh.alive 0:=(hal 0).2 ⟨by omega,by decide⟩
 have a1:Eh.alive 1:=(hal 1).2 ⟨by omega,by decide⟩
 have a2:Eh.alive 2:=(hal 2).2 ⟨by omega,by decide⟩
 have a3:Eh.alive 3:=(hal 3).2 ⟨by omega,by decide⟩
 have hw1:w0.heap.size≤w1.heap.size:=hfr.size
 have hw':w1.heap.size≤w'.heap.size:=iv.frame.size
 let G2:Nat→Prop:=fun k=>Ev.G k∨Eh.G k∨∃ b base sz,Eh.alive b∧3≤b∧Eh.loc b=some (k,base,sz)
 let E2:Env:={ G:=G2,alive:=fun b=>b<3,ver:=fun _=>0,loc:=fun b=>if b=0 then some (k1,0,1) else if b=1 then some (k3,0,1) else if b=2 then some (k2,0,1) else none }
 have hlocs:∀ b blk base sz,E2.loc b=some (blk,base,sz)→∃ c,c<3∧Eh.alive c∧Eh.loc c=some (blk,base,sz)∧((b=0∧c=0)∨(b=1∧c=2)∨(b=2∧c=1)):=fun b blk base sz hl=>by
  simp only [E2] at hl
  split at hl
  ·rename_i e;exact ⟨0,by decide,a0,by rw [l0];exact hl,.inl ⟨e,rfl⟩⟩
  ·split at hl
   ·rename_i e;exact ⟨2,by decide,a2,by rw [l2];exact hl,.inr (.inl ⟨e,rfl⟩)⟩
   ·split at hl
    ·rename_i e;exact ⟨1,by decide,a1,by rw [l1];exact hl,.inr (.inr ⟨e,rfl⟩)⟩
    ·simp at hl
 have hlate:∀ k,(w1.heap.size≤k∨k∈F1)→w0.heap.size≤k:=fun k hk=>by
  rcases hk with q|q
  ·omega
  ·exact hF1 k q
 have hgh:∀ k,Eh.G k→G2 k:=fun k hk=>.inr (.inl hk)
 have hrow:∀ i,i<xs.length→∃ v,L[o+i]?=some v∧CRep w' G2 (.rd 2 (prows (gmm x.2 i))) v:=fun i hi=>by
  obtain ⟨v,q1,q2⟩:=hhd i hi
  refine ⟨v,q1,?_⟩
  simp only [Rep] at q2
  obtain ⟨b1,b2,b3,p,c,rfl,b4,b5,b6⟩:=q2
  have hob:=hh.mem (5+i) b1
  rw [show 5+i=i+5 by omega] at hob b1 b3 b6
  simp only [hiM,hi,if_true,ObjRep] at hob
  obtain ⟨c1,_,c3⟩:=hob
  have b6:=b6 c1.symm
  have el:(x.2.getD i []).length=(prows (gmm x.2 i)).length:=by simp [gmm]
  simp only [CRep]
  refine ⟨p,c,by rw [el],by rw [← el];exact b4,b5,?_⟩
  cases hl:Eh.loc (i+5) with
  | none=>rw [hl] at c3;exact .inl c3
  | some l =>
   obtain ⟨blk,base,sz⟩:=l
   rw [hl] at b6 c3
   simp only [SlAt] at b6 c3
   obtain ⟨ad,rfl,b7,_⟩:=b6
   obtain ⟨cs,t,c4,_,_,_,_,c5⟩:=c3
   by_cases e:prows (gmm x.2 i)=[]
   ·exact .inl e
   ·refine .inr ⟨blk,base,?_,.inr (.inr ⟨i+5,base,sz,b1,by omega,hl⟩),c5.mono hgh (fun _ _=>rfl) (.inl rfl)⟩
    rcases b7 with b7|b7
    ·have:(prows (gmm x.2 i)).length≠0:=fun h=>e (List.length_eq_zero_iff.1 h)
     omega
    ·rw [b7];simp
 refine ⟨E2,⟨v1.defers,v1.size,⟨⟨iv.frame.os.trans hfr.os,iv.frame.out.trans hfr.out,Nat.le_trans hw1 hw',fun k hk _=>?_⟩,⟨fun k hk=>.inl (iv.gin.G k (hG0 k hk)),fun _ h=>h.elim,fun _ h=>h.elim⟩,fun _ h=>h.elim,fun k hk=>?_,fun k hk=>?_,fun b blk base sz hb hl=>?_,fun b b' blk base sz base' sz' hb hb' hl hl'=>?_⟩,fun b hb=>?_,fun t=>?_⟩,fun b hb=>hb,fun b hb=>?_⟩
 ·rw [iv.frame.old k (by omega) fun hm=>by have:=hF1 k hm;omega]
  exact hfr.old k hk (by simp)
 ·rcases hk with hk|hk|⟨b,base,sz,hb,_,hl⟩
  ·rcases iv.gout k hk with q|q
   ·rcases hG1 k q with q|q
    ·exact .inl q
    ·exact .inr (.inl q)
   ·exact .inr (.inl (hlate k q))
  ·rcases ih.gout k hk with q|q
   ·rcases hG1 k q with q|q
    ·exact .inl q
    ·exact .inr (.inl q)
   ·exact .inr (.inl (hlate k q))
  ·exact .inr (.inl (hlate k (ih.locs b k base sz hb hl).2.2))
 ·rcases hk with hk|hk|⟨b,base,sz,hb,_,hl⟩
  ·exact iv.good k hk
  ·exact ih.good k hk
  ·exact (ih.locs b k base sz hb hl).1
 ·obtain ⟨c,hc3,hca,hcl,_⟩:=hlocs b blk base sz hl
  obtain ⟨q1,q2,q3⟩:=ih.locs c blk base sz hca hcl
  refine ⟨q1,fun hg=>?_,.inl (hlate blk q3)⟩
  rcases hg with hg|hg|⟨b',base',sz',hb',h3',hl'⟩
  ·exact (v4 blk (hh.loc c blk base sz hca hcl)).2.1 hg
  ·exact q2 hg
  ·have:=ih.apart c b' blk base sz base' sz' hca hb' hcl hl'
   omega
 ·obtain ⟨c,_,hca,hcl,hcc⟩:=hlocs b blk base sz hl
  obtain ⟨c',_,hca',hcl',hcc'⟩:=hlocs b' blk base' sz' hl'
  have:=ih.apart c c' blk base sz base' sz' hca hca' hcl hcl'
  omega
 ·match b,hb with
  | 0,_ =>
   have hob:=hh.mem 0 a0
   simp only [hiM,ObjRep,repL_1] at hob
   obtain ⟨_,blk,t,vs,q1,q2,q3,y,rfl,q4⟩:=hob
   rw [l0] at q1
   simp only [List.length_cons,List.length_nil,Nat.zero_add,Option.some.injEq,Prod.mk.injEq,and_true,true_and] at q1
   subst q1
   have e1:getM [(0,AO.box [.rd 1 xs]),(1,.box [.rd 1 (mrows x.2)]),(2,.box [B x.1])] 0=.box [.rd 1 xs]:=rfl
   rw [e1]
   simp only [ObjRep,repL_1]
   refine ⟨rfl,k1,t,[y],rfl,q2,q3,y,rfl,?_⟩
   simp only [Rep] at q4 ⊢
   exact q4.mono hgh fun _ _=>rfl
  | 1,_ =>
   have hob:=hh.mem 2 a2
   simp only [hiM,ObjRep,repL_1] at hob
   obtain ⟨_,blk,t,vs,q1,q2,q3,y,rfl,q4⟩:=hob
   rw [l2] at q1
   simp only [List.length_cons,List.length_nil,Nat.zero_add,Option.some.injEq,Prod.mk.injEq,and_true,true_and] at q1
   subst q1
   have e1:getM [(0,AO.box [.rd 1 xs]),(1,.box [.rd 1 (mrows x.2)]),(2,.box [B x.1])] 1=.box [.rd 1 (mrows x.2)]:=rfl
   rw [e1]
   simp only [ObjRep,repL_1]
   refine ⟨rfl,k3,t,[y],rfl,q2,q3,y,rfl,?_⟩
   simp only [Rep] at q4
   obtain ⟨_,_,ka,sz,p,c,r1,rfl,r3,r4⟩:=q4
   simp only [Rep,CRep]
   refine ⟨some p,c,by simp [hn],by simpa [hn] using r3,by simp,?_⟩
   by_cases e:mrows x.2=[]
   ·exact .inl e
   have hpos:xs.length≠0:=fun h=>e (by
    have:x.2=[]:=List.length_eq_zero_iff.1 (hn.trans h)
    rw [this];rfl)
   rcases r4 with r4|rfl
   ·exact absurd r4 hpos
   refine .inr ⟨ka,o,rfl,.inr (.inr ⟨3,0,sz,a3,by decide,r1⟩),CRows.of_get fun i e he=>?_⟩
   have hi:i<x.2.length:=by
    have:=(List.getElem?_eq_some_iff.1 he).1
    simpa using this
   rw [mrows_gi hi] at he
   simp only [Option.some.injEq] at he
   subst he
   obtain ⟨v,u1,u2⟩:=hrow i (by omega)
   obtain ⟨blk,sz',vs,u3,u4,u5,u6⟩:=box_cells (hh.mem 3 a3)
   rw [repL_vm] at u4
   subst u4
   rw [r1] at u3
   simp only [Option.some.injEq,Prod.mk.injEq,true_and] at u3
   obtain ⟨rfl,rfl⟩:=u3
   refine ⟨rfl,?_⟩
   simp only [CCells,and_true]
   exact ⟨v,by rw [Nat.mul_one];exact u6 (o+i) v u1,u5 v (List.mem_of_getElem? u1),u2⟩
  | 2,_ =>
   have hob:=hh.mem 1 a1
   simp only [hiM,ObjRep,repL_1] at hob
   obtain ⟨_,blk,t,vs,q1,q2,q3,y,rfl,q4⟩:=hob
   rw [l1] at q1
   simp only [List.length_cons,List.length_nil,Nat.zero_add,Option.some.injEq,Prod.mk.injEq,and_true,true_and] at q1
   subst q1
   have e1:getM [(0,AO.box [.rd 1 xs]),(1,.box [.rd 1 (mrows x.2)]),(2,.box [B x.1])] 2=.box [B x.1]:=rfl
   rw [e1]
   simp only [ObjRep,repL_1]
   refine ⟨rfl,k2,t,[y],rfl,q2,q3,y,rfl,?_⟩
   simp only [B,Rep,CRep] at q4 ⊢
   exact q4
 ·simp only [getS]
  split
  ·rename_i e;subst e
   rw [h3]
   simp only [Rep]
   exact ⟨(by decide:0<3),rfl,k1,1,rfl,rfl⟩
  ·split
   ·rename_i e;subst e
    rw [h5]
    simp only [Rep]
    exact ⟨(by decide:1<3),rfl,k3,1,rfl,rfl⟩
   ·split
    ·rename_i e;subst e
     rw [h6]
     simp only [Rep]
     exact ⟨(by decide:2<3),rfl,k2,1,rfl,rfl⟩
    ·simp [Rep,CRep]
 ·simp only [getM] at hb
  show b<3
  split at hb
  ·omega
  ·split at hb
   ·omega
   ·split at hb
    ·omega
    ·exact absurd rfl hb
end Go.AM
namespace Go.AM
open Go Go.Proofs
noncomputable def invA (ts:List Tb) (x:Bool×List (List Dp)):Nat→Bool×List (List Dp)
 | 0=>x
 | n+1=>ivF n (invA ts x n) (nmT (lstT (tbG ts n)))
noncomputable def invR (ts:List Tb) (n:Nat):Bool×List (List Dp):=invA (ts.take 8) (true,List.replicate n []) (ts.take 8).length
noncomputable def invT (ts:List Tb) (ms:List (List Dp)):Bool:=(invR ts ms.length).1&&decide ((invR ts ms.length).2=ms)
theorem invA_len {ts:List Tb} {x:Bool×List (List Dp)}:∀ {n:Nat},(invA ts x n).2.length=x.2.length
 | 0=>rfl
 | n+1=>by simp only [invA,ivF_len,invA_len (n:=n)]
theorem invA_row {ts:List Tb} {x:Bool×List (List Dp)} (i:Nat):∀ {n:Nat},((invA ts x n).2.getD i []).length≤(x.2.getD i []).length+4096*n
 | 0=>by simp [invA]
 | n+1=>by
  have ih:=invA_row (ts:=ts) (x:=x) i (n:=n)
  have h1:=ivF_row (s:=(n:Int)) i (l:=nmT (lstT (tbG ts n))) (x:=invA ts x n)
  have h2:=@nmT_len (lstT (tbG ts n))
  have h3:=@lstT_l5 (tbG ts n)
  simp only [invA]
  omega
abbrev InvI:={x:List Tb×List (List Dp) // (∀ t∈x.1,tbOK t)∧x.1.length≤1000000∧MssOK x.2∧0<x.2.length}
noncomputable def InvF:List AV→Option AV:=specF (ι:=InvI) (fun x=>[.rd 3 (tbrows x.1.1),.rd 1 (mrows x.1.2)]) fun x=>retOf [B (invT x.1.1 x.1.2)]
set_option maxHeartbeats 16000000 in
theorem s31 (X:AX) (hX:XOK Try.prog X) (hw:X.W wT) (hli:∀ t:Tb,tbOK t→∀ M n,X.call 29 [TbV t] M n=some (.sl n 1 2 0 (lstT t).length,[(n,.vec 1 2 false (erows (lstT t)))]))
  (hde:∀ w:Nat,w<2^64→∀ M k,X.call 30 [U w] M k=some (.tup [EnV (decR w).1,I (decR w).2],[])) (hef:X.call 75=callP EqfF):PSound Try.prog 31 InvF:=by
 unfold InvF
 refine psound_spec hX mixed Try.func31 rfl fun ⟨⟨ts,ms⟩,hts,hl,hms,hm0⟩ w0 G=>⟨by show 2≤33;decide,rfl,?_⟩
 show AW ⟨Try.prog,X,33,w0,.pure G⟩ _ _ _
 have hc:Cx.OK ⟨Try.prog,X,33,w0,.pure G⟩:=⟨hX,mixed⟩
 simp only at hts hl hms hm0 ⊢
 obtain ⟨T,hT⟩:∃ T,T=ts.take 8:=⟨_,rfl⟩
 have hT8:T.length≤8:=by rw [hT];simp;omega
 have hTt:∀ t∈T,tbOK t:=fun t ht=>hts t (by rw [hT] at ht;exact List.mem_of_mem_take ht)
 have hT1:List.take (min (ts.length:Int) 8).toNat (tbrows ts)=tbrows T:=by
  rw [hT]
  unfold tbrows
  rw [List.map_take]
  rcases Nat.le_total ts.length 8 with h|h
  ·rw [show (min (ts.length:Int) 8).toNat=ts.length by omega,List.take_of_length_le (by simp),List.take_of_length_le (by simp;omega)]
  ·rw [show (min (ts.length:Int) 8).toNat=8 by omega]
 have hT2:min (min (ts.length:Int) 8).toNat ts.length=T.length:=by rw [hT];simp;omega
 have hT3:((min (min (ts.length:Int) 8).toNat ts.length:Nat):Int)=T.length:=by rw [hT2]
 have eT:invT ts ms=((invA T (true,List.replicate ms.length []) T.length).1&&decide ((invA T (true,List.replicate ms.length []) T.length).2=ms)):=by rw [hT];rfl
 rw [eT]
 clear eT hT
 have hml:=hms.1
 have zS:=jj hT1<|jj hT2<|jj hT3<|hml
 repeat' (first|(apply aw_seq_k;intro K hK)|(refine eM64 ?_)|(refine aw_cond (b:=_) (by exact rfl) (fun h=>?_) (fun h=>?_)<;>(try simp at h))|(refine eB ?_)|(refine hK _ ?_;clear hK)|(clear hK;refine hK _ ?_;clear hK)|(clear hK;clear hK;refine hK _ ?_;clear hK)|(clear hK;clear hK;clear hK;refine hK _ ?_;clear hK))
 all_goals clear zS
 intro a w hs
 obtain ⟨E,h1,h2,h3⟩:=hs
 obtain ⟨k1,k2,k3,F,hF1,hF2,e3,e6,e5,hj⟩:=hideJ h1 (s3:=3) (s5:=5) (s6:=6) (a0:=0) (a1:=80) (a2:=112) (v:=64) (xs:=mrows ms) (f:=false) (by simpa using hm0) rfl rfl rfl rfl (by rw [mrows_len];rfl) rfl (by rw [mrows_len];rfl) (by decide) (by decide) (by decide) (by decide) (by decide) (by decide)
 have iv:=h1.inv
 rw [mrows_len] at hj
 have g16:=h1.slots 16
 have g17:=h1.slots 17
 have g18:=h1.slots 18
 simp only [getS,reduceCtorEq,if_false,if_true,Nat.reduceEqDiff,Rep] at g16 g17 g18
 obtain ⟨x0,hx0⟩:∃ x0,x0=((true,List.replicate ms.length []):Bool×List (List Dp)):=⟨_,rfl⟩
 have hx0r:∀ i,(x0.2.getD i []).length=0:=fun i=>by rw [hx0];simp only [gprep,List.length_nil]
 rw [← hx0] at hj ⊢
 let c:Cx:=⟨Try.prog,X,33,w,⟨F,Env.start E.G,0⟩⟩
 let J:Bool×List (List Dp)→List Nat→World→Prop:=fun x F' w'=>HidJ w F E.G k1 k2 k3 (mrows ms) x F' w'
 have hJ:Keeps w F J:=fun x F' u u' q1 q2 q3 q4 q5=>q1.keep q2 q4 q5
 have hc0:c.OK:=⟨hX,mixed⟩
 have hsx:SatX 33 w ⟨F,Env.start E.G,0⟩ a w ⟨[(18,I 0),(17,I T.length),(16,.rd 3 (tbrows T)),(3,.v (pK k1)),(5,.v (pK k3)),(6,.v (pK k2))],[],0⟩ F:=by
  refine SatX.fresh h1.defers h1.size iv.good hF1 fun p hp=>?_
  simp only [List.mem_cons,List.not_mem_nil,or_false] at hp
  rcases hp with rfl|rfl|rfl|rfl|rfl|rfl
  ·exact g18
  ·exact g17
  ·exact g16
  ·simp only [CRep];exact e3
  ·simp only [CRep];exact e5
  ·simp only [CRep];exact e6
 refine wp_mono ((?_:AWX c J _ ⟨[(18,I 0),(17,I T.length),(16,.rd 3 (tbrows T)),(3,.v (pK k1)),(5,.v (pK k3)),(6,.v (pK k2))],[],0⟩ x0 fun e st' x'=>e=.exit 0∧x'=invA T x0 T.length∧getS st'.s 3=.v (pK k1)∧getS st'.s 5=.v (pK k3)∧getS st'.s 6=.v (pK k2)) a w F hsx hj) ?_
 ·clear hsx hj h3 h2 h1 iv g16 g17 g18 e3 e5 e6
  refine awx_loop (ι:={i:Nat // i≤T.length}) (fun i=>⟨[(18,I i.1),(17,I T.length),(16,.rd 3 (tbrows T)),(3,.v (pK k1)),(5,.v (pK k3)),(6,.v (pK k2))],[],0⟩) (fun i=>invA T x0 i.1) (fun i=>T.length - i.1) ⟨0,by omega⟩ (Le.refl _ _) rfl ?_
  rintro ⟨i,hi⟩
  simp only
  rcases Decidable.em (i<T.length) with hil|hil
  ·have hilI:(i:Int)<(T.length:Int):=by omega
   have hg:=tbrows_gi hil
   have hgE:=tbrows_gE hil
   have ht:=hTt _ (tbG_mem hil)
   obtain ⟨⟨r,ns,ds⟩,ht0⟩:∃ t,t=tbG T i:=⟨_,rfl⟩
   rw [← ht0] at hg hgE ht
   simp only at hg hgE
   refine awx_step hJ fun w1 bl1 hn1 K hK=>?_
   have hc:Cx.OK ⟨Try.prog,X,33,w1,bl1⟩:=⟨hX,mixed⟩
   show AW ⟨Try.prog,X,33,w1,bl1⟩ _ _ _
   have zS:=hilI
   repeat' (first|(apply aw_seq_k;intro K hK)|(refine eM64 ?_)|(refine aw_cond (b:=_) (by exact rfl) (fun h=>?_) (fun h=>?_)<;>(try simp at h))|(refine eB ?_)|(refine hK _ ?_;clear hK)|(clear hK;refine hK _ ?_;clear hK)|(clear hK;clear hK;refine hK _ ?_;clear hK)|(clear hK;clear hK;clear hK;refine hK _ ?_;clear hK))
   all_goals clear zS
   refine awx_seq (awx_cond (b:=true) rfl (fun _=>awx_skip ?_) fun h=>by cases h)
   show AWX c J _ _ _ _
   refine awx_seq (awx_block ?_)
   refine awx_step hJ fun w1 bl1 hn1 K hK=>?_
   have hc:Cx.OK ⟨Try.prog,X,33,w1,bl1⟩:=⟨hX,mixed⟩
   show AW ⟨Try.prog,X,33,w1,bl1⟩ _ _ _
   have zS:=jj hilI<|jj hg<|hgE
   repeat' (first|(apply aw_seq_k;intro K hK)|(refine eM64 ?_)|(refine aw_cond (b:=_) (by exact rfl) (fun h=>?_) (fun h=>?_)<;>(try simp at h))|(refine eB ?_)|(refine hK _ ?_;clear hK)|(clear hK;refine hK _ ?_;clear hK)|(clear hK;clear hK;refine hK _ ?_;clear hK)|(clear hK;clear hK;clear hK;refine hK _ ?_;clear hK))
   all_goals clear zS
   refine awx_callH (fun x'=>x'=invA T x0 (i+1)) (fun s1 m1=>getM m1 64=.box [I i]∧getS s1 18=I i∧getS s1 17=I T.length∧getS s1 16=.rd 3 (tbrows T)∧getS s1 3=.v (pK k1)∧getS s1 5=.v (pK k3)∧getS s1 6=.v (pK k2))
    [(18,I i),(17,I T.length),(16,.rd 3 (tbrows T)),(3,.v (pK k1)),(5,.v (pK k3)),(6,.v (pK k2))] 0 [] [.agg [I r,.rd 9 (nrows ns),.rd 2 (prows ds)],.fn 74 [.v (pK k1),.v (pK k2),.v (pK k3),.bp 64 0]] 2 hc0 hJ rfl rfl rfl rfl (by show 25<33;decide) (body_ok _ Try.func40 (by kernel_rfl)) ?_ ?_ ?_
   ·rintro E2 b2 w2 F2 vs s1 m1 ⟨hm,q18,q17,q16,q3,q5,q6⟩ hj h1 hU hr
    simp only [List.append_nil] at hr
    match vs,hr with
    | [tv,fv],hr =>
    simp only [RepL,and_true] at hr
    obtain ⟨htv,hfv⟩:=hr
    simp only [Rep] at hfv
    obtain ⟨cs,rfl,hcs⟩:=hfv
    match cs,hcs with
    | [c1,c2,c3,c4],hcs =>
    simp only [RepL,Rep,CRep,and_true] at hcs
    obtain ⟨rfl,rfl,rfl,hal,_,k4,sz,hl4,rfl⟩:=hcs
    have ho:=h1.mem 64 hal
    rw [hm] at ho
    simp only [ObjRep,repL_1] at ho
    obtain ⟨_,blk,tt,vs',p1,p2,p3,y,rfl,p4⟩:=ho
    rw [hl4] at p1
    simp only [List.length_cons,List.length_nil,Nat.zero_add,Option.some.injEq,Prod.mk.injEq,true_and] at p1
    obtain ⟨rfl,rfl⟩:=p1
    simp only [I,Rep,CRep] at p4
    subst p4
    have hlc:=h1.inv.locs 64 k4 0 1 hal hl4
    have hkF:k4 ∉ F2:=fun hk=>(hU k4 hk).2.2 64 0 1 hal hl4
    have hI:=hj.attach p2 hkF hlc.2.2 (p3 _ (by simp))
    have hF3:∀ k∈F2++[k4],k<w2.heap.size∧¬ E2.G k:=fun k hk=>by
     rcases List.mem_append.1 hk with q|q
     ·exact ⟨(hU k q).1,(hU k q).2.1⟩
     ·simp only [List.mem_singleton] at q
      rw [q];exact ⟨hlc.1,hlc.2.1⟩
    refine ⟨F2++[k4],hI.low,h1.close (fun _ h=>h.elim) hF3 fun p hp=>?_,?_⟩
    ·have u18:=h1.slots 18
     have u17:=h1.slots 17
     have u16:=h1.slots 16
     have u3:=h1.slots 3
     have u5:=h1.slots 5
     have u6:=h1.slots 6
     rw [q18] at u18
     rw [q17] at u17
     rw [q16] at u16
     rw [q3] at u3
     rw [q5] at u5
     rw [q6] at u6
     simp only [I,Rep] at u18 u17 u16 u3 u5 u6
     simp only [List.mem_cons,List.not_mem_nil,or_false] at hp
     rcases hp with rfl|rfl|rfl|rfl|rfl|rfl
     ·exact u18
     ·exact u17
     ·exact u16
     ·exact u3
     ·exact u5
     ·exact u6
    ·refine Calls.mono (namedX X hX hw hli hde (by simpa using hms.1) hI (fun j=>?_) ht (tv:=tv) (Gw:=E2.G) ?_ h1.inv.good hF3) fun e w' ⟨r',z1,z2,z3⟩=>⟨r',_,z1,?_,z2.detach,z3⟩
     ·have z1:=invA_row (ts:=T) (x:=x0) j (n:=i)
      rw [hx0r] at z1
      omega
     ·simp only [Rep] at htv
      obtain ⟨us,rfl,o1,o2⟩:=htv
      simp only [TbV,CRep]
      exact ⟨us,rfl,o1,RepL.to_c rfl o2⟩
     ·show _=ivF i (invA T x0 i) (nmT (lstT (tbG T i)))
      rw [← ht0]
   ·intro K hK
    show RunQ (Types Try.prog) X _ 33 _ _ 0 _ _ K
    simp [List.zipIdx,-getM,getM_hit,getM_miss,getM_none]
    exact hK _ _ rfl rfl ⟨rfl,rfl,rfl,rfl,rfl,rfl,rfl⟩
   ·intro x' hx'
    subst hx'
    show AWX c J _ _ _ _
    refine awx_last hJ fun w1 bl1 hn1 K hK=>?_
    have hc:Cx.OK ⟨Try.prog,X,33,w1,bl1⟩:=⟨hX,mixed⟩
    show AW ⟨Try.prog,X,33,w1,bl1⟩ _ _ _
    have zS:=hilI
    repeat' (first|(apply aw_seq_k;intro K hK)|(refine eM64 ?_)|(refine aw_cond (b:=_) (by exact rfl) (fun h=>?_) (fun h=>?_)<;>(try simp at h))|(refine eB ?_)|(refine hK _ ?_;clear hK)|(clear hK;refine hK _ ?_;clear hK)|(clear hK;clear hK;refine hK _ ?_;clear hK)|(clear hK;clear hK;clear hK;refine hK _ ?_;clear hK))
    all_goals clear zS
    refine ⟨⟨i+1,by omega⟩,?_,rfl,by show T.length - (i+1)<T.length - i;omega⟩
    show Le 0 _ _
    exact dle
  ·obtain rfl:i=T.length:=by omega
   refine awx_step hJ fun w1 bl1 hn1 K hK=>?_
   have hc:Cx.OK ⟨Try.prog,X,33,w1,bl1⟩:=⟨hX,mixed⟩
   show AW ⟨Try.prog,X,33,w1,bl1⟩ _ _ _
   have zS:=hT8
   repeat' (first|(apply aw_seq_k;intro K hK)|(refine eM64 ?_)|(refine aw_cond (b:=_) (by exact rfl) (fun h=>?_) (fun h=>?_)<;>(try simp at h))|(refine eB ?_)|(refine hK _ ?_;clear hK)|(clear hK;refine hK _ ?_;clear hK)|(clear hK;clear hK;refine hK _ ?_;clear hK)|(clear hK;clear hK;clear hK;refine hK _ ?_;clear hK))
   all_goals clear zS
   refine awx_seq (awx_cond (b:=false) rfl (fun h=>by cases h) fun _=>awx_exit ?_)
   exact ⟨rfl,rfl,rfl,rfl,rfl⟩
 ·rintro e a' w' ⟨st',x',F',⟨rfl,hx',q3,q5,q6⟩,hsx',hj'⟩
  have hsx2:=hsx'
  obtain ⟨Ev,u1,_⟩:=hsx2
  have u3:=u1.slots 3
  have u5:=u1.slots 5
  have u6:=u1.slots 6
  rw [q3] at u3
  rw [q5] at u5
  rw [q6] at u6
  simp only [Rep,CRep] at u3 u5 u6
  have hfin:=adoptJ (G0:=G) (G1:=E.G) hsx' hj' iv.frame (fun k hk=>by simpa using hF2 k hk) (fun k hk=>by simpa using iv.gout k hk) iv.gin.G u3 u5 u6
  refine ⟨_,?_,hfin⟩
  simp only [blockQ,if_true,thenQ]
  refine hK _ ?_
  have hlen:x'.2.length=ms.length:=by rw [hx',invA_len,hx0];simp
  have hrow:∀ j,(x'.2.getD j []).length≤32768:=fun j=>by
   have z1:=invA_row (ts:=T) (x:=x0) j (n:=T.length)
   rw [hx0r] at z1
   rw [hx']
   omega
  have hok:MssOK x'.2:=⟨by rw [hlen];exact hms.1,fun r hr=>by
   obtain ⟨j,hj1,rfl⟩:=List.getElem_of_mem hr
   have:=hrow j
   rw [List.getD_eq_getElem?_getD,List.getElem?_eq_getElem hj1] at this
   simp only [Option.getD_some] at this
   omega⟩
  have ca:∀ M n,X.call 75 [.rd 1 (mrows x'.2),.rd 1 (mrows ms),.fn 76 []] M n=some (B (decide (x'.2=ms)),[]):=fun M n=>by rw [hef];exact eqfF_at hok hms M n
  rw [← hx0,← hx']
  clear hx' hlen hrow hok hfin hsx' hj' u3 u5 u6 hK hef
  obtain ⟨ins,rows⟩:=x'
  simp only at ca ⊢
  cases ins with
  | true =>
   have zS:=ca
   repeat' (first|(apply aw_seq_k;intro K hK)|(refine eM64 ?_)|(refine aw_cond (b:=_) (by exact rfl) (fun h=>?_) (fun h=>?_)<;>(try simp at h))|(refine eB ?_)|(refine hK _ ?_;clear hK)|(clear hK;refine hK _ ?_;clear hK)|(clear hK;clear hK;refine hK _ ?_;clear hK)|(clear hK;clear hK;clear hK;refine hK _ ?_;clear hK))
   all_goals clear zS
   rw [Bool.true_and]
   refine ⟨by simp,?_⟩
   simp [leaves_iff,Try.f31]
   try exact dt
  | false =>
   have zS:=ca
   repeat' (first|(apply aw_seq_k;intro K hK)|(refine eM64 ?_)|(refine aw_cond (b:=_) (by exact rfl) (fun h=>?_) (fun h=>?_)<;>(try simp at h))|(refine eB ?_)|(refine hK _ ?_;clear hK)|(clear hK;refine hK _ ?_;clear hK)|(clear hK;clear hK;refine hK _ ?_;clear hK)|(clear hK;clear hK;clear hK;refine hK _ ?_;clear hK))
   all_goals clear zS
   rw [Bool.false_and]
   refine ⟨by simp,?_⟩
   simp [leaves_iff,Try.f31]
   try exact dt
end Go.AM
