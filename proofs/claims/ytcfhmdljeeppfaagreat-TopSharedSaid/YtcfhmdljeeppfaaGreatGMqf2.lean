/- A part of the proof. -/
import Derived.Test.YtcfhmdljeeppfaaGreatGPt62
import Derived.Test.YtcfhmdljeeppfaaGreatGAmO
import Derived.Test.YtcfhmdljeeppfaaGreatGAmW
set_option linter.all false
set_option maxHeartbeats 16000000
namespace Go.AM
open Go Go.Proofs Tryz
set_option maxRecDepth 4000 in
theorem zvy {L:List Dp} (fr s pg nu:Int) {v:Nat} (hl:L.length<=1000000) (hv:1<=v) {a b c d:Nat} (hab:a≠b) (hac:a≠c) (had:a≠d) (hbc:b≠c) (hbd:b≠d) (hcd:c≠d) (M:Nat->AO) (nid:Nat) (h0:M a=.box [I fr]) (h1:M b=.box [.sl c v 2 0 L.length]) (h2:M c=.vec v 2 false (prw L)) (h3:M d=.box [I s]) :
  caG ofS [I pg,I nu,.bp a 0,.bp b 0,.bp d 0] M nid=some (.tup [],[(a,.box [I fr]),(b,.box [.sl c (v+(ofE fr s [(pg,nu)]).length) 2 0 (L.length+(ofE fr s [(pg,nu)]).length)]),(c,.vec (v+(ofE fr s [(pg,nu)]).length) 2 false (prw (L++ofE fr s [(pg,nu)]))),(d,.box [I s])]):=by
 have hF:=zut fr s pg nu hl;obtain ⟨N,hN⟩:∃ N,N=ofE fr s [(pg,nu)]:=⟨_,rfl⟩
 rw [<- hN] at hF ⊢;simp only [ofM,List.length_append] at hF;obtain ⟨u,rfl⟩:∃ u,v=1+u:=⟨v - 1,by omega⟩
 have hba:=hab.symm;have hca:=hac.symm;have hda:=had.symm;have hcb:=hbc.symm;have hdb:=hbd.symm;have hdc:=hcd.symm;have e1:1+N.length+u=1+u+N.length:=by omega
 unfold caG;have hg:gat M 64 (nmsL [I pg,I nu,.bp a 0,.bp b 0,.bp d 0]) []=[a,b,c,d]:=by simp [gat,nmsL,AV.nms,AO.nms,h0,h1,h2,h3, *]
 simp only [hg];rw [if_pos ?cg]
 case cg=>simp [zbp,nmsL,AV.nms,AO.nms,Led,curBL,AV.curB,AO.curB,zaj,nDd,h0,h1,h2,h3,hab,hac,had,hbc,hbd,hcd,hba,hca,hda,hcb,hdb,hdc]
 simp [renL,AV.ren,AO.ren,zbL,zdP,nmsL,h0,h1,h2,h3,hab,hac,had,hbc,hbd,hcd,hba,hca,hda,hcb,hdb,hdc,hF,zeZ,zcc,AV.nms,AO.nms,zdC,nmN,shN,zaj,rng,Led,e1]
abbrev NaD:=Tb×List Dp×Int×Int
noncomputable def naS:List AV->List AO->Option (AV×List AO):=za1 (ι:={x:NaD // zf x.1∧x.2.1.length<=900000}) (fun x=>[TbV x.1.1,.fn 88 [.bp 0 0,.bp 1 0,.bp 3 0]]) (fun x=>ofM x.1.2.1 1 x.1.2.2.1 x.1.2.2.2) (fun _=>.tup [])
 fun x=>ofM (x.1.2.1++ofE x.1.2.2.1 x.1.2.2.2 (nmT (zq x.1.1))) (1+(ofE x.1.2.2.1 x.1.2.2.2 (nmT (zq x.1.1))).length) x.1.2.2.1 x.1.2.2.2
theorem zuA {t:Tb} {L:List Dp} (fr s:Int) (ht:zf t) (h:L.length<=900000):naS [TbV t,.fn 88 [.bp 0 0,.bp 1 0,.bp 3 0]] (ofM L 1 fr s)=some (.tup [],ofM (L++ofE fr s (nmT (zq t))) (1+(ofE fr s (nmT (zq t))).length) fr s):=by refine sGe (ι:={x:NaD // zf x.1∧x.2.1.length<=900000}) (A:=fun x=>[TbV x.1.1,.fn 88 [.bp 0 0,.bp 1 0,.bp 3 0]]) (M:=fun x=>ofM x.1.2.1 1 x.1.2.2.1 x.1.2.2.2) (R:=fun _=>.tup []) (O:=fun x=>ofM (x.1.2.1++ofE x.1.2.2.1 x.1.2.2.2 (nmT (zq x.1.1))) (1+(ofE x.1.2.2.1 x.1.2.2.2 (nmT (zq x.1.1))).length) x.1.2.2.1 x.1.2.2.2) ⟨(t,L,fr,s),ht,h⟩ fun j hA hM=>?_;obtain ⟨⟨t',L',fr',s'⟩,h'⟩:=j;obtain ⟨rfl,rfl,rfl⟩:=znv hM;simp only [cJ,TbJ,and_true] at hA;subst hA;exact ⟨rfl,rfl⟩
theorem s84 (X:AX) (hX:XOK prog X) (hw:X.W wT) (hli:∀ t:Tb,zf t->∀ M n,X.call 44 [TbV t] M n=some (.sl n 1 2 0 (zq t).length,[(n,.vec 1 2 false (za9 (zq t)))]))
  (hde:∀ w:Nat,w<2^64->∀ M k,X.call 56 [U w] M k=some (.tup [EnV (zj w).1,I (zj w).2],[])) (hcl:X.call 88=caG ofS):GSd prog 84 naS:=by
 unfold naS;refine gsS func84 rfl X fun ⟨⟨⟨r,ns,ds⟩,L,fr,s⟩,ht,hl⟩ w0 B E=>⟨by show 2<=60;decide,?_⟩
 simp only at hl ht ⊢;have li:=hli _ ht;have hlu:=znM ht;have hlp:=@zqO (r,ns,ds);have hll:=@zhP (r,ns,ds);obtain ⟨l,hL⟩:∃ l,l=zq (r,ns,ds):=⟨_,rfl⟩
 rw [<- hL] at li hlu hlp hll ⊢;simp only [ofM,List.length_append];simp only [TbV] at li ⊢;have hll2:=@zdZ l;have hall:=@zhF fr s (nmT l)
 have hca:∀ (A:List Dp) (v:Nat) (pg nu:Int),A.length<=1000000->1<=v->∀ M n,M 0=.box [I fr]->M 1=.box [.sl 2 v 2 0 A.length]->M 2=.vec v 2 false (prw A)->M 3=.box [I s] ->
   X.call 88 [I pg,I nu,.bp 0 0,.bp 1 0,.bp 3 0] M n=some (.tup [],[(0,.box [I fr]),(1,.box [.sl 2 (v+(ofE fr s [(pg,nu)]).length) 2 0 (A.length+(ofE fr s [(pg,nu)]).length)]),(2,.vec (v+(ofE fr s [(pg,nu)]).length) 2 false (prw (A++ofE fr s [(pg,nu)]))),(3,.box [I s])]) :=fun A v pg nu h1 h2 M n q0 q1 q2 q3=>by rw [hcl];exact zvy fr s pg nu h1 h2 (by decide) (by decide) (by decide) (by decide) (by decide) (by decide) M n q0 q1 q2 q3
 show AW ⟨prog,X,60,w0,⟨B,E,4⟩⟩ _ _ _;have hc:Cx.OK ⟨prog,X,60,w0,⟨B,E,4⟩⟩:=⟨hX,mixed⟩
 have zS:=li;repeat' (first|(refine aSk fun K hK=>?_)|(refine zi ?_)|(refine eC (fun h=>?_) (fun h=>?_)<;>(try simp at h))|(refine hK _ ?_;clear hK)|(clear hK;refine hK _ ?_;clear hK))
 all_goals clear zS
 refine aLK (s0:=?lps1) (m0:=?lpm1) (ι:={i:Nat // i<=l.length}) [1,10,11] (fun i=>[(12,I i.1)]) (fun i=>[(1,.box [.sl 2 (1+(ofE fr s (nmT (l.take i.1))).length) 2 0 (L++ofE fr s (nmT (l.take i.1))).length]),(2,.vec (1+(ofE fr s (nmT (l.take i.1))).length) 2 false (prw (L++ofE fr s (nmT (l.take i.1)))))]) (fun i=>l.length - i.1) ⟨0,by omega⟩ ?lhs1 ?lhm1 ?_ ?_
 case lhs1=>first|(simp [kpS];done)|(simp [kpS];rfl)
 case lhm1=>first|rfl|(simp;done)|(simp;rfl)
 ·simp only [show ofE fr s (nmT (l.take 0))=[] by simp [nmT,ofE],List.append_nil,List.length_nil,Nat.add_zero];exact dle
 ·rintro ⟨i,hi⟩;simp only;have hNl:(ofE fr s (nmT (l.take i))).length<=4096:=by
   have h1:=@zhF fr s (nmT (l.take i));have h2:=@zdZ (l.take i);have h3:(l.take i).length<=512:=by simp;omega
   omega
  rcases dE (i<l.length) with hil|hil
  ·have hilI:(i:Int)<(l.length:Int):=by omega
   have hg:=zgf hil;have hgE:=zjg hil;have hu:=hlu _ (zhU hil);have hpg:=hlp _ (zhU hil);have de:=hde _ hu;have hrg:=zfs (gpe l i).2;have hns:=zuy hil;obtain ⟨N,hN⟩:∃ N,N=ofE fr s (nmT (l.take i)):=⟨_,rfl⟩
   have hNs:ofE fr s (nmT (l.take (i+1)))=N++ofE fr s (nmE (gpe l i)):=by rw [hns,zj0,hN]
   rw [<- hN] at hNl ⊢;obtain ⟨⟨pg,w⟩,hx⟩:∃ x,x=gpe l i:=⟨_,rfl⟩
   rw [<- hx] at hg hgE hu hpg de hrg hNs;simp only at hg hgE hu hpg de hrg;have hnE:nmE (pg,w)=if (zj w).1.1=1∧(zj w).1.2.2.2.2.2=true then (List.range 8).map fun i=>(pg+(i:Nat),(zj w).1.2.1+(i:Nat)) else if (zj w).1.1=1∨(zj w).1.1=3 then [(pg,(zj w).1.2.1)] else []:=rfl
   obtain ⟨⟨⟨k,num,b1,b2,b3,hgh⟩,er⟩,hD⟩:∃ x,x=zj w:=⟨_,rfl⟩
   rw [<- hD] at de hrg hnE;simp only at de hrg hnE;simp only [EnV] at de;rcases dE (k=1) with hk|hk
   ·subst hk;cases hgh with
    | true =>
     rw [if_pos (by simp)] at hnE;have zS:=jj hilI<|jj hg<|jj hgE<|de;repeat' (first|(refine aSk fun K hK=>?_)|(refine zi ?_)|(refine eC (fun h=>?_) (fun h=>?_)<;>(try simp at h))|(refine hK _ ?_;clear hK)|(clear hK;refine hK _ ?_;clear hK))
     all_goals clear zS
     have hQs:∀ j,j<8->ofE fr s ((nmE (pg,w)).take (j+1))=ofE fr s ((nmE (pg,w)).take j)++ofE fr s [(pg+(j:Nat),num+(j:Nat))]:=fun j hj=>by rw [<- zj0];congr 1;rw [hnE,List.take_add_one];simp [List.getElem?_range,hj]
     have hQl:∀ j,(ofE fr s ((nmE (pg,w)).take j)).length<=8:=fun j=>by
      have h1:=@zhF fr s ((nmE (pg,w)).take j);have h2:=@zfV (pg,w);have h3:((nmE (pg,w)).take j).length<=(nmE (pg,w)).length:=by simp;omega
      omega
     have hQ8:(nmE (pg,w)).take 8=nmE (pg,w):=tkL zfV;clear hnE;obtain ⟨F,hF⟩:∃ F:Nat->List Dp,∀ j,F j=ofE fr s ((nmE (pg,w)).take j):=⟨_,fun _=>rfl⟩
     have hF0:F 0=[]:=by rw [hF];simp [ofE]
     have hF8:ofE fr s (nmE (pg,w))=F 8:=by rw [hF,hQ8]
     rw [hF8] at hNs;simp only [<- hF] at hQs hQl;refine aLK (s0:=?lps2) (m0:=?lpm2) (ι:={j:Nat // j<=8}) [1,5,6,10,11,12] (fun j=>[(30,I j.1)]) (fun j=>[(1,.box [.sl 2 (1+N.length+(F j.1).length) 2 0 (L.length+N.length+(F j.1).length)]),(2,.vec (1+N.length+(F j.1).length) 2 false (prw (L++(N++F j.1))))]) (fun j=>8 - j.1) ⟨0,by omega⟩ ?lhs2 ?lhm2 ?_ ?_
     case lhs2=>first|(simp [kpS];done)|(simp [kpS];rfl)
     case lhm2=>first|rfl|(simp;done)|(simp;rfl)
     ·simp only [hF0,List.append_nil,List.length_nil,Nat.add_zero];exact zaN (by simp) (by simp [zdT,AV.under,AV.underL,U]<;>omega) (by simp [zeE,AO.under,AV.underL,AV.under,U]<;>omega)
     ·rintro ⟨j,hj⟩;simp only;rcases dE (j<8) with hjl|hjl
      ·have hjI:(j:Int)<8:=by omega
       have hql:=hQl j;have ca:=hca (L++(N++F j)) (1+N.length+(F j).length) (pg+(j:Nat)) (num+(j:Nat)) (by simp;omega) (by omega);have hqs:=hQs j hjl;obtain ⟨Q,hQ⟩:∃ Q,Q=ofE fr s [(pg+(j:Nat),num+(j:Nat))]:=⟨_,rfl⟩
       rw [<- hQ] at ca hqs;obtain ⟨P,hP⟩:∃ P,P=F j:=⟨_,rfl⟩
       rw [<- hP] at hql ca hqs ⊢;simp only [List.length_append,<- Nat.add_assoc] at ca;have zS:=jj hjI<|ca;repeat' (first|(refine aSk fun K hK=>?_)|(refine zi ?_)|(refine eC (fun h=>?_) (fun h=>?_)<;>(try simp at h))|(refine hK _ ?_;clear hK)|clear hK)
       all_goals clear zS
       refine ⟨j+1,?_,by omega,by omega⟩;simp only [hqs,List.length_append,<- Nat.add_assoc,List.append_assoc];exact zaN (by simp) (by simp [zdT,AV.under,AV.underL,U]<;>omega) (by simp [zeE,AO.under,AV.underL,AV.under,U]<;>omega)
      ·obtain rfl:j=8:=by omega
       repeat' (first|(refine aSk fun K hK=>?_)|(refine eMo ?_)|(refine eC (fun h=>?_) (fun h=>?_)<;>(try simp at h))|(refine hK _ ?_;clear hK)|clear hK)
       refine ⟨i+1,?_,by omega,by omega⟩;simp only [hNs,List.length_append,<- Nat.add_assoc];exact dle
    | false =>
     rw [if_neg (by simp),if_pos (by simp)] at hnE;have ca:=hca (L++N) (1+N.length) pg num (by simp;omega) (by omega);have hNs':(ofE fr s [(pg,num)])=(ofE fr s [(pg,num)]):=rfl;rw [hnE] at hNs;obtain ⟨Q,hQ⟩:∃ Q,Q=ofE fr s [(pg,num)]:=⟨_,rfl⟩
     rw [<- hQ] at ca hNs;simp only [List.length_append] at ca;have zS:=jj hilI<|jj hg<|jj hgE<|jj de<|ca;repeat' (first|(refine aSk fun K hK=>?_)|(refine zi ?_)|(refine eC (fun h=>?_) (fun h=>?_)<;>(try simp at h))|(refine hK _ ?_;clear hK)|clear hK)
     all_goals clear zS
     refine ⟨i+1,?_,by omega,by omega⟩;simp only [hNs,List.length_append,<- Nat.add_assoc];exact dle
   ·rcases dE (k=3) with hk3|hk3
    ·subst hk3;rw [if_neg (by simp),if_pos (by simp)] at hnE;have ca:=hca (L++N) (1+N.length) pg num (by simp;omega) (by omega);rw [hnE] at hNs;obtain ⟨Q,hQ⟩:∃ Q,Q=ofE fr s [(pg,num)]:=⟨_,rfl⟩
     rw [<- hQ] at ca hNs;simp only [List.length_append] at ca;have zS:=jj hilI<|jj hg<|jj hgE<|jj de<|ca;repeat' (first|(refine aSk fun K hK=>?_)|(refine zi ?_)|(refine eC (fun h=>?_) (fun h=>?_)<;>(try simp at h))|(refine hK _ ?_;clear hK)|clear hK)
     all_goals clear zS
     refine ⟨i+1,?_,by omega,by omega⟩;simp only [hNs,List.length_append,<- Nat.add_assoc];exact dle
    ·rw [if_neg (by simp [hk]),if_neg (by simp [hk,hk3])] at hnE;rw [hnE,show ofE fr s []=[] from rfl,List.append_nil] at hNs;have zS:=jj hilI<|jj hg<|jj hgE<|jj de<|jj hk<|hk3;repeat' (first|(refine aSk fun K hK=>?_)|(refine zi ?_)|(refine eC (fun h=>?_) (fun h=>?_)<;>(try simp at h))|(refine hK _ ?_;clear hK)|clear hK)
     all_goals clear zS
     refine ⟨i+1,?_,by omega,by omega⟩;simp only [hNs,List.length_append];exact dle
  ·obtain rfl:i=l.length:=by omega
   rw [List.take_length];repeat' (first|(refine aSk fun K hK=>?_)|(refine eMo ?_)|(refine eC (fun h=>?_) (fun h=>?_)<;>(try simp at h))|(refine hK _ ?_;clear hK)|clear hK)
   refine ⟨[],rfl,?_⟩;simp only [idx,List.length_append];exact dle
def ivF (s:Int) (x:Bool×List (List Dp)) (l:List (Int×Int)):Bool×List (List Dp):=l.foldl (inP s) x
theorem zkf {s:Int} {x:Bool×List (List Dp)} {a b:List (Int×Int)}:ivF s x (a++b)=ivF s (ivF s x a) b:=by simp [ivF]
theorem zsa {s:Int} {x:Bool×List (List Dp)} {e:Int×Int}:ivF s x [e]=inP s x e:=rfl
theorem zkh {s:Int} {x:Bool×List (List Dp)} {e:Int×Int}:(inP s x e).2.length=x.2.length:=by unfold inP;split<;>simp
theorem zsg {s:Int} {x:Bool×List (List Dp)} {e:Int×Int} (i:Nat):((inP s x e).2.getD i []).length<=(x.2.getD i []).length+1:=by
 unfold inP;split
 ·simp only;by_cases h:e.2.toNat=i
  ·subst h;by_cases h2:e.2.toNat<x.2.length
   ·rw [List.getD_eq_getElem?_getD,List.getElem?_set_self h2];simp
   ·rw [List.set_eq_of_length_le (by omega)];omega
  ·rw [List.getD_eq_getElem?_getD,List.getElem?_set_ne h,List.getD_eq_getElem?_getD];omega
 ·simp only;omega
theorem znY {s:Int}:∀ {l:List (Int×Int)} {x:Bool×List (List Dp)},(ivF s x l).2.length=x.2.length
 | [],x=>rfl
 | e::l,x=>by show (ivF s (inP s x e) l).2.length=_;rw [znY,zkh]
theorem zke {s:Int} (i:Nat):∀ {l:List (Int×Int)} {x:Bool×List (List Dp)},((ivF s x l).2.getD i []).length<=(x.2.getD i []).length+l.length
 | [],x=>by simp [ivF]
 | e::l,x=>by have h1:=zke (s:=s) i (l:=l) (x:=inP s x e);have h2:=@zsg s x e i;show ((ivF s (inP s x e) l).2.getD i []).length<=_;simp only [List.length_cons];omega
theorem zgM.more {w0:World} {l0:List Nat} {G:Nat->Prop} {k1 k2 k3 k4:Nat} {xs:List (List AV)} {s:Int} {x:Bool×List (List Dp)} {F F':List Nat} {w:World} (h:zgM w0 l0 G k1 k2 k3 k4 xs s x F w)
  (hs:∀ k∈F,k∈F') (hl:∀ k∈F',w0.heap.size<=k∨k∈l0):zgM w0 l0 G k1 k2 k3 k4 xs s x F' w:=by obtain ⟨E,o,L,vers,h1,h2⟩:=h;exact ⟨E,o,L,vers,h1.more hs hl,h2⟩
theorem zgM.low {w0:World} {l0:List Nat} {G:Nat->Prop} {k1 k2 k3 k4:Nat} {xs:List (List AV)} {s:Int} {x:Bool×List (List Dp)} {F:List Nat} {w:World} (h:zgM w0 l0 G k1 k2 k3 k4 xs s x F w):∀ k∈F,w0.heap.size<=k∨k∈l0:=by obtain ⟨E,o,L,vers,h1,h2⟩:=h;exact h1.low
theorem zgM.frame {w0:World} {l0:List Nat} {G:Nat->Prop} {k1 k2 k3 k4:Nat} {xs:List (List AV)} {s:Int} {x:Bool×List (List Dp)} {F:List Nat} {w w':World} (h:zgM w0 l0 G k1 k2 k3 k4 xs s x F w) (hfr:zaV w F w'):zaV w0 l0 w':=by obtain ⟨E,o,L,vers,h1,h2⟩:=h;exact h1.frame hfr
theorem zgM.size {w0:World} {l0:List Nat} {G:Nat->Prop} {k1 k2 k3 k4:Nat} {xs:List (List AV)} {s:Int} {x:Bool×List (List Dp)} {F:List Nat} {w:World} (h:zgM w0 l0 G k1 k2 k3 k4 xs s x F w):w0.heap.size<=w.heap.size:=by obtain ⟨E,o,L,vers,h1,h2⟩:=h;exact h1.inv.frame.size
def bod (n:Nat) (x:Bool×List (List Dp)):Prop:=∀ i,(x.2.getD i []).length<=n
set_option maxHeartbeats 16000000 in
theorem zuz (X:AX) (hX:XOK prog X) (hw:X.W wT) (hli:∀ t:Tb,zf t->∀ M n,X.call 44 [TbV t] M n=some (.sl n 1 2 0 (zq t).length,[(n,.vec 1 2 false (za9 (zq t)))]))
  (hde:∀ w:Nat,w<2^64->∀ M k,X.call 56 [U w] M k=some (.tup [EnV (zj w).1,I (zj w).2],[]))
  {w0:World} {l0:List Nat} {G:Nat->Prop} {k1 k2 k3 k4:Nat} {xs:List (List AV)} {s:Int} {x:Bool×List (List Dp)} {F:List Nat} {w:World} (hn:xs.length<=1000000) (hh:zgM w0 l0 G k1 k2 k3 k4 xs s x F w) (hb:bod 900000 x)
  {t:Tb} (ht:zf t) {tv:Value} {Gw:Nat->Prop} (htv:zd w Gw (TbV t) tv) (hG:∀ k,Gw k->k<w.heap.size) (hF:∀ k∈F,k<w.heap.size∧¬ Gw k) :
  Calls prog 84 [tv,.func (.func 85) #[] #[pK k1,pK k2,pK k3,pK k4]].toArray w fun e w'=>∃ r,e=.returned r∧zgM w0 l0 G k1 k2 k3 k4 xs s (ivF s x (nmT (zq t))) (F++List.range' w.heap.size (w'.heap.size - w.heap.size)) w'∧zaV w F w':=by
 let c:Cx:=⟨prog,X,60,w,⟨F,Env.start Gw,0⟩⟩
 let J:Bool×List (List Dp)->List Nat->World->Prop:=fun x F' w'=>zgM w0 l0 G k1 k2 k3 k4 xs s x F' w'∧∀ k∈F',w.heap.size<=k∨k∈F
 have hJ:zjH w F J:=fun x F' u u' h1 h2 h3 h4 h5=>⟨h1.1.keep h2 (hh.frame h4) h5,h1.2⟩
 have hJF:∀ x F' u,J x F' u->∀ k∈F',w.heap.size<=k∨k∈F:=fun x F' u h=>h.2
 have hcall:∀ x pg nu,bod 1000000 x->0<=nu->∀ (E:Env) (u:World) (F':List Nat) (vs:List Value),J x F' u->Inv w ⟨F,Env.start Gw,0⟩ E u->(∀ k∈F',Unt E u k)->RepL E u ([I pg,I nu]++[.v (pK k1),.v (pK k2),.v (pK k3),.v (pK k4)]) vs ->
   Calls prog 85 vs.toArray u fun e w'=>∃ r x',e=.returned r∧x'=inP s x (pg,nu)∧J x' (F'++List.range' u.heap.size (w'.heap.size - u.heap.size)) w'∧zaV u F' w':=by
  intro x pg nu h1 h2 E u F' vs h hI hU hr;obtain rfl:vs=[Value.int .i64 pg,.int .i64 nu,pK k1,pK k2,pK k3,pK k4]:=zcw.1 hr;refine Calls.mono (h.1.call hX hw hn h1 pg nu h2) fun e w' ⟨r,q1,q2,q3⟩=>⟨r,_,q1,rfl,⟨q2,fun k hk=>?_⟩,q3⟩
  have hsz:w.heap.size<=u.heap.size:=hI.frame.size;rcases List.mem_append.1 hk with hk|hk
  ·exact h.2 k hk
  ·have:=List.mem_range'_1.1 hk;exact .inl (by omega)
 have hbd:ze9 prog 85:=boK _ func85 (by kernel_rfl);obtain ⟨FN,hFN⟩:∃ FN,FN=AV.fn 85 [.v (pK k1),.v (pK k2),.v (pK k3),.v (pK k4)]:=⟨_,rfl⟩
 have hFu:∀ n,FN.under n:=fun n=>by rw [hFN];simp [AV.under,AV.underL]
 have hFl:zdT FN FN:=by rw [hFN];simp [zdT]
 have hc0:c.OK:=⟨hX,mixed⟩
 have hbod:∀ es:List (Int×Int),es.length<=5000->bod 1000000 (ivF s x es):=fun es h i=>by have h1:=zke (s:=s) i (l:=es) (x:=x);have h2:=hb i;omega
 have hall:AWX c J (f84.body.get rfl) ⟨eSt [TbV t,FN],[],0⟩ x (fun e st' x'=>(e=.normal∨e=.ret)∧x'=ivF s x (nmT (zq t))):=by
  obtain ⟨r,ns,ds⟩:=t;have li:=hli _ ht;have hlu:=znM ht;have hlp:=@zqO (r,ns,ds);have hll:=@zhP (r,ns,ds);obtain ⟨l,hL⟩:∃ l,l=zq (r,ns,ds):=⟨_,rfl⟩
  rw [<- hL] at li hlu hlp hll ⊢;simp only [TbV] at li ⊢;have hll2:=@zdZ l;refine zan hJ fun w1 bl1 hn1 K hK=>?_;have hc:Cx.OK ⟨prog,X,60,w1,bl1⟩:=⟨hX,mixed⟩
  show AW ⟨prog,X,60,w1,bl1⟩ _ _ _;have zS:=li;repeat' (first|(refine aSk fun K hK=>?_)|(refine zi ?_)|(refine eC (fun h=>?_) (fun h=>?_)<;>(try simp at h))|(refine hK _ ?_;clear hK)|(clear hK;refine hK _ ?_;clear hK))
  all_goals clear zS
  refine zan hJ fun w1 bl1 hn1 K hK=>?_;have hc:Cx.OK ⟨prog,X,60,w1,bl1⟩:=⟨hX,mixed⟩
  show AW ⟨prog,X,60,w1,bl1⟩ _ _ _;have zS:=li;repeat' (first|(refine aSk fun K hK=>?_)|(refine zi ?_)|(refine eC (fun h=>?_) (fun h=>?_)<;>(try simp at h))|(refine hK _ ?_;clear hK)|(clear hK;refine hK _ ?_;clear hK))
  all_goals clear zS
  refine zcn (zh9 (ι:={i:Nat // i<=l.length}) (fun i=>⟨[(12,I i.1),(11,I l.length),(10,.sl 32 1 2 0 l.length),(1,FN)],[(32,.vec 1 2 false (za9 l))],80⟩) (fun i=>ivF s x (nmT (l.take i.1))) (fun i=>l.length - i.1) ⟨0,by omega⟩ ?_ ?_ ?_)
  ·show Le 0 _ _;exact zaN (by simp) (by simp [zdT,AV.under,AV.underL,hFu,hFl,U]<;>omega) (by simp [zeE,AO.under,AV.underL,AV.under,hFu,hFl,U]<;>omega)
  ·simp [nmT,ivF]
  ·rintro ⟨i,hi⟩;simp only;rcases dE (i<l.length) with hil|hil
   ·have hilI:(i:Int)<(l.length:Int):=by omega
    have hg:=zgf hil;have hgE:=zjg hil;have hu:=hlu _ (zhU hil);have hpg:=hlp _ (zhU hil);have de:=hde _ hu;have hrg:=zfs (gpe l i).2;have hns:=zuy hil;obtain ⟨N,hN⟩:∃ N,N=nmT (l.take i):=⟨_,rfl⟩
    have hNl:N.length<=4096:=by
     have h2:=@zdZ (l.take i);have h3:(l.take i).length<=512:=by simp;omega
     rw [hN];omega
    have hNs:nmT (l.take (i+1))=N++nmE (gpe l i):=by rw [hns,hN]
    rw [<- hN];obtain ⟨⟨pg,v⟩,hx⟩:∃ x,x=gpe l i:=⟨_,rfl⟩
    rw [<- hx] at hg hgE hu hpg de hrg hNs;simp only at hg hgE hu hpg de hrg;have hnE:nmE (pg,v)=if (zj v).1.1=1∧(zj v).1.2.2.2.2.2=true then (List.range 8).map fun i=>(pg+(i:Nat),(zj v).1.2.1+(i:Nat)) else if (zj v).1.1=1∨(zj v).1.1=3 then [(pg,(zj v).1.2.1)] else []:=rfl
    obtain ⟨⟨⟨k,num,b1,b2,b3,hgh⟩,er⟩,hD⟩:∃ x,x=zj v:=⟨_,rfl⟩
    rw [<- hD] at de hrg hnE;simp only at de hrg hnE;simp only [EnV] at de;refine zan hJ fun w1 bl1 hn1 K hK=>?_;have hc:Cx.OK ⟨prog,X,60,w1,bl1⟩:=⟨hX,mixed⟩
    show AW ⟨prog,X,60,w1,bl1⟩ _ _ _;have zS:=hilI;repeat' (first|(refine aSk fun K hK=>?_)|(refine zi ?_)|(refine eC (fun h=>?_) (fun h=>?_)<;>(try simp at h))|(refine hK _ ?_;clear hK)|(clear hK;refine hK _ ?_;clear hK))
    all_goals clear zS
    refine zb9 (zaX (b:=true) rfl (fun _=>zfv ?_) fun h=>by cases h);show AWX c J _ _ _ _;refine zb9 (zcn ?_);refine zan hJ fun w1 bl1 hn1 K hK=>?_;have hc:Cx.OK ⟨prog,X,60,w1,bl1⟩:=⟨hX,mixed⟩
    show AW ⟨prog,X,60,w1,bl1⟩ _ _ _;have zS:=jj hilI<|jj hg<|hgE;repeat' (first|(refine aSk fun K hK=>?_)|(refine zi ?_)|(refine eC (fun h=>?_) (fun h=>?_)<;>(try simp at h))|(refine hK _ ?_;clear hK)|(clear hK;refine hK _ ?_;clear hK))
    all_goals clear zS
    refine zan hJ fun w1 bl1 hn1 K hK=>?_;have hc:Cx.OK ⟨prog,X,60,w1,bl1⟩:=⟨hX,mixed⟩
    show AW ⟨prog,X,60,w1,bl1⟩ _ _ _;have zS:=de;repeat' (first|(refine aSk fun K hK=>?_)|(refine zi ?_)|(refine eC (fun h=>?_) (fun h=>?_)<;>(try simp at h))|(refine hK _ ?_;clear hK)|(clear hK;refine hK _ ?_;clear hK))
    all_goals clear zS
    refine zcn ?_;rcases dE (k=1) with hk|hk
    ·subst hk;cases hgh with
     | true =>
      rw [if_pos (by simp)] at hnE;refine zan hJ fun w1 bl1 hn1 K hK=>?_;have hc:Cx.OK ⟨prog,X,60,w1,bl1⟩:=⟨hX,mixed⟩
      show AW ⟨prog,X,60,w1,bl1⟩ _ _ _;have zS:=hilI;repeat' (first|(refine aSk fun K hK=>?_)|(refine zi ?_)|(refine eC (fun h=>?_) (fun h=>?_)<;>(try simp at h))|(refine hK _ ?_;clear hK)|(clear hK;refine hK _ ?_;clear hK))
      all_goals clear zS
      refine zaX (b:=true) rfl (fun _=>?_) fun h=>by cases h
      refine zan hJ fun w1 bl1 hn1 K hK=>?_;have hc:Cx.OK ⟨prog,X,60,w1,bl1⟩:=⟨hX,mixed⟩
      show AW ⟨prog,X,60,w1,bl1⟩ _ _ _;have zS:=hilI;repeat' (first|(refine aSk fun K hK=>?_)|(refine zi ?_)|(refine eC (fun h=>?_) (fun h=>?_)<;>(try simp at h))|(refine hK _ ?_;clear hK)|(clear hK;refine hK _ ?_;clear hK))
      all_goals clear zS
      have hQs:∀ j,j<8->(nmE (pg,v)).take (j+1)=(nmE (pg,v)).take j++[(pg+(j:Nat),num+(j:Nat))]:=fun j hj=>by rw [hnE,List.take_add_one];simp [List.getElem?_range,hj]
      have hQl:∀ j,((nmE (pg,v)).take j).length<=8:=fun j=>by
       have h2:=@zfV (pg,v);have h3:((nmE (pg,v)).take j).length<=(nmE (pg,v)).length:=by simp;omega
       omega
      have hQ8:(nmE (pg,v)).take 8=nmE (pg,v):=tkL zfV;clear hnE;refine zcn (zh9 (ι:={j:Nat // j<=8}) (fun j=>⟨[(30,I j.1),(6,.bp 256 0),(5,.bp 128 0),(12,I i),(11,I l.length),(10,.sl 32 1 2 0 l.length),(1,FN)],[(32,.vec 1 2 false (za9 l)),(128,.box [I pg,U v]),(256,.box [I 1,I num,B b1,B b2,B b3,B true])],448⟩) (fun j=>ivF s x (N++(nmE (pg,v)).take j.1)) (fun j=>8 - j.1) ⟨0,by omega⟩ ?_ ?_ ?_)
      ·show Le 0 _ _;exact zaN (by simp) (by simp [zdT,AV.under,AV.underL,hFu,hFl,U]<;>omega) (by simp [zeE,AO.under,AV.underL,AV.under,hFu,hFl,U]<;>omega)
      ·simp
      ·rintro ⟨j,hj⟩;simp only;rcases dE (j<8) with hjl|hjl
       ·have hjI:(j:Int)<8:=by omega
        have hql:=hQl j;refine zan hJ fun w1 bl1 hn1 K hK=>?_;have hc:Cx.OK ⟨prog,X,60,w1,bl1⟩:=⟨hX,mixed⟩
        show AW ⟨prog,X,60,w1,bl1⟩ _ _ _;have zS:=hjI;repeat' (first|(refine aSk fun K hK=>?_)|(refine zi ?_)|(refine eC (fun h=>?_) (fun h=>?_)<;>(try simp at h))|(refine hK _ ?_;clear hK)|(clear hK;refine hK _ ?_;clear hK))
        all_goals clear zS
        refine zb9 (zaX (b:=true) rfl (fun _=>zfv ?_) fun h=>by cases h);show AWX c J _ _ _ _;refine zb9 (zcn ?_);refine zan hJ fun w1 bl1 hn1 K hK=>?_;have hc:Cx.OK ⟨prog,X,60,w1,bl1⟩:=⟨hX,mixed⟩
        show AW ⟨prog,X,60,w1,bl1⟩ _ _ _;have zS:=hjI;repeat' (first|(refine aSk fun K hK=>?_)|(refine zi ?_)|(refine eC (fun h=>?_) (fun h=>?_)<;>(try simp at h))|(refine hK _ ?_;clear hK)|(clear hK;refine hK _ ?_;clear hK))
        all_goals clear zS
        refine zgm (fun x'=>x'=inP s (ivF s x (N++(nmE (pg,v)).take j)) (pg+(j:Nat),num+(j:Nat))) [.v (pK k1),.v (pK k2),.v (pK k3),.v (pK k4)] [I (pg+(j:Nat)),I (num+(j:Nat))] 9 hc0 hJ hJF rfl rfl rfl rfl (by show 42<60;decide) hbd (hcall _ _ _ (hbod _ (by simp only [List.length_append];omega)) (by omega)) fun K hK=>?_;show zfy (za prog) X _ 60 _ _ 0 _ _ K;simp [List.zipIdx,-zb,gMh,gMm,gMn]
        (repeat (simp (disch:=first|omega|assumption|fail) only [if_pos,if_neg,zm];try simp [List.zipIdx,-zb,gMh,gMm,gMn]))
        refine hK _ _ (by simp [hFN]) rfl fun x' hx'=>?_;subst hx';show AWX c J _ _ _ _;refine zdv hJ fun w1 bl1 hn1 K hK=>?_;have hc:Cx.OK ⟨prog,X,60,w1,bl1⟩:=⟨hX,mixed⟩
        show AW ⟨prog,X,60,w1,bl1⟩ _ _ _;have zS:=hjI;repeat' (first|(refine aSk fun K hK=>?_)|(refine zi ?_)|(refine eC (fun h=>?_) (fun h=>?_)<;>(try simp at h))|(refine hK _ ?_;clear hK)|clear hK)
        all_goals clear zS
        refine ⟨⟨j+1,by omega⟩,?_,?_,by show 8 - (j+1)<8 - j;omega⟩
        ·show Le 0 _ _;exact zaN (by simp) (by simp [zdT,AV.under,AV.underL,hFu,hFl,U]<;>omega) (by simp [zeE,AO.under,AV.underL,AV.under,hFu,hFl,U]<;>omega)
        ·show ivF s x (N++(nmE (pg,v)).take (j+1))=_;rw [hQs j hjl,<- List.append_assoc,zkf,zsa]
       ·obtain rfl:j=8:=by omega
        refine zan hJ fun w1 bl1 hn1 K hK=>?_;have hc:Cx.OK ⟨prog,X,60,w1,bl1⟩:=⟨hX,mixed⟩
        show AW ⟨prog,X,60,w1,bl1⟩ _ _ _;have zS:=hilI;repeat' (first|(refine aSk fun K hK=>?_)|(refine zi ?_)|(refine eC (fun h=>?_) (fun h=>?_)<;>(try simp at h))|(refine hK _ ?_;clear hK)|(clear hK;refine hK _ ?_;clear hK))
        all_goals clear zS
        refine zb9 (zaX (b:=false) rfl (fun h=>by cases h) fun _=>zia ?_);show AWX c J _ _ _ _;refine zdv hJ fun w1 bl1 hn1 K hK=>?_;have hc:Cx.OK ⟨prog,X,60,w1,bl1⟩:=⟨hX,mixed⟩
        show AW ⟨prog,X,60,w1,bl1⟩ _ _ _;have zS:=hilI;repeat' (first|(refine aSk fun K hK=>?_)|(refine zi ?_)|(refine eC (fun h=>?_) (fun h=>?_)<;>(try simp at h))|(refine hK _ ?_;clear hK)|clear hK)
        all_goals clear zS
        refine ⟨⟨i+1,by omega⟩,?_,?_,by show l.length - (i+1)<l.length - i;omega⟩
        ·show Le 0 _ _;exact zaN (by simp) (by simp [zdT,AV.under,AV.underL,hFu,hFl,U]<;>omega) (by simp [zeE,AO.under,AV.underL,AV.under,hFu,hFl,U]<;>omega)
        ·show ivF s x (nmT (l.take (i+1)))=_;rw [hNs,hQ8]
     | false =>
      rw [if_neg (by simp),if_pos (by simp)] at hnE;refine zan hJ fun w1 bl1 hn1 K hK=>?_;have hc:Cx.OK ⟨prog,X,60,w1,bl1⟩:=⟨hX,mixed⟩
      show AW ⟨prog,X,60,w1,bl1⟩ _ _ _;have zS:=hilI;repeat' (first|(refine aSk fun K hK=>?_)|(refine zi ?_)|(refine eC (fun h=>?_) (fun h=>?_)<;>(try simp at h))|(refine hK _ ?_;clear hK)|(clear hK;refine hK _ ?_;clear hK))
      all_goals clear zS
      refine zaX (b:=false) rfl (fun h=>by cases h) fun _=>?_;refine zan hJ fun w1 bl1 hn1 K hK=>?_;have hc:Cx.OK ⟨prog,X,60,w1,bl1⟩:=⟨hX,mixed⟩
      show AW ⟨prog,X,60,w1,bl1⟩ _ _ _;have zS:=hilI;repeat' (first|(refine aSk fun K hK=>?_)|(refine zi ?_)|(refine eC (fun h=>?_) (fun h=>?_)<;>(try simp at h))|(refine hK _ ?_;clear hK)|(clear hK;refine hK _ ?_;clear hK))
      all_goals clear zS
      refine zaX (b:=true) rfl (fun _=>?_) fun h=>by cases h
      refine zgm (fun x'=>x'=inP s (ivF s x N) (pg,num)) [.v (pK k1),.v (pK k2),.v (pK k3),.v (pK k4)] [I pg,I num] 5 hc0 hJ hJF rfl rfl rfl rfl (by show 58<60;decide) hbd (hcall _ _ _ (hbod _ (by omega)) (by omega)) fun K hK=>?_;show zfy (za prog) X _ 60 _ _ 0 _ _ K;simp [List.zipIdx,-zb,gMh,gMm,gMn];refine hK _ _ (by simp [hFN]) rfl fun x' hx'=>?_;subst hx';show AWX c J _ _ _ _;refine zdv hJ fun w1 bl1 hn1 K hK=>?_;have hc:Cx.OK ⟨prog,X,60,w1,bl1⟩:=⟨hX,mixed⟩
      show AW ⟨prog,X,60,w1,bl1⟩ _ _ _;have zS:=hilI;repeat' (first|(refine aSk fun K hK=>?_)|(refine zi ?_)|(refine eC (fun h=>?_) (fun h=>?_)<;>(try simp at h))|(refine hK _ ?_;clear hK)|clear hK)
      all_goals clear zS
      refine ⟨⟨i+1,by omega⟩,?_,?_,by show l.length - (i+1)<l.length - i;omega⟩
      ·show Le 0 _ _;exact zaN (by simp) (by simp [zdT,AV.under,AV.underL,hFu,hFl,U]<;>omega) (by simp [zeE,AO.under,AV.underL,AV.under,hFu,hFl,U]<;>omega)
      ·show ivF s x (nmT (l.take (i+1)))=_;rw [hNs,hnE,zkf,zsa]
    ·have hk1:¬ (1:Int)=k:=fun e=>hk e.symm;rcases dE (k=3) with h3|h3
     ·subst h3;rw [if_neg (by simp),if_pos (by simp)] at hnE;refine zan hJ fun w1 bl1 hn1 K hK=>?_;have hc:Cx.OK ⟨prog,X,60,w1,bl1⟩:=⟨hX,mixed⟩
      show AW ⟨prog,X,60,w1,bl1⟩ _ _ _;have zS:=jj hilI<|hk;repeat' (first|(refine aSk fun K hK=>?_)|(refine zi ?_)|(refine eC (fun h=>?_) (fun h=>?_)<;>(try simp at h))|(refine hK _ ?_;clear hK)|(clear hK;refine hK _ ?_;clear hK))
      all_goals clear zS
      refine zaX (b:=false) rfl (fun h=>by cases h) fun _=>?_;refine zan hJ fun w1 bl1 hn1 K hK=>?_;have hc:Cx.OK ⟨prog,X,60,w1,bl1⟩:=⟨hX,mixed⟩
      show AW ⟨prog,X,60,w1,bl1⟩ _ _ _;have zS:=jj hilI<|hk;repeat' (first|(refine aSk fun K hK=>?_)|(refine zi ?_)|(refine eC (fun h=>?_) (fun h=>?_)<;>(try simp at h))|(refine hK _ ?_;clear hK)|(clear hK;refine hK _ ?_;clear hK))
      all_goals clear zS
      refine zaX (b:=true) rfl (fun _=>?_) fun h=>by cases h
      refine zgm (fun x'=>x'=inP s (ivF s x N) (pg,num)) [.v (pK k1),.v (pK k2),.v (pK k3),.v (pK k4)] [I pg,I num] 5 hc0 hJ hJF rfl rfl rfl rfl (by show 58<60;decide) hbd (hcall _ _ _ (hbod _ (by omega)) (by omega)) fun K hK=>?_;show zfy (za prog) X _ 60 _ _ 0 _ _ K;simp [List.zipIdx,-zb,gMh,gMm,gMn];refine hK _ _ (by simp [hFN]) rfl fun x' hx'=>?_;subst hx';show AWX c J _ _ _ _;refine zdv hJ fun w1 bl1 hn1 K hK=>?_;have hc:Cx.OK ⟨prog,X,60,w1,bl1⟩:=⟨hX,mixed⟩
      show AW ⟨prog,X,60,w1,bl1⟩ _ _ _;have zS:=hilI;repeat' (first|(refine aSk fun K hK=>?_)|(refine zi ?_)|(refine eC (fun h=>?_) (fun h=>?_)<;>(try simp at h))|(refine hK _ ?_;clear hK)|clear hK)
      all_goals clear zS
      refine ⟨⟨i+1,by omega⟩,?_,?_,by show l.length - (i+1)<l.length - i;omega⟩
      ·show Le 0 _ _;exact zaN (by simp) (by simp [zdT,AV.under,AV.underL,hFu,hFl,U]<;>omega) (by simp [zeE,AO.under,AV.underL,AV.under,hFu,hFl,U]<;>omega)
      ·show ivF s x (nmT (l.take (i+1)))=_;rw [hNs,hnE,zkf,zsa]
     ·rw [if_neg (by simp [hk]),if_neg (by simp [hk,h3])] at hnE;refine zan hJ fun w1 bl1 hn1 K hK=>?_;have hc:Cx.OK ⟨prog,X,60,w1,bl1⟩:=⟨hX,mixed⟩
      show AW ⟨prog,X,60,w1,bl1⟩ _ _ _;have zS:=jj hilI<|hk;repeat' (first|(refine aSk fun K hK=>?_)|(refine zi ?_)|(refine eC (fun h=>?_) (fun h=>?_)<;>(try simp at h))|(refine hK _ ?_;clear hK)|(clear hK;refine hK _ ?_;clear hK))
      all_goals clear zS
      refine zaX (b:=false) rfl (fun h=>by cases h) fun _=>?_;refine zan hJ fun w1 bl1 hn1 K hK=>?_;have hc:Cx.OK ⟨prog,X,60,w1,bl1⟩:=⟨hX,mixed⟩
      show AW ⟨prog,X,60,w1,bl1⟩ _ _ _;have zS:=jj hilI<|jj hk<|h3;repeat' (first|(refine aSk fun K hK=>?_)|(refine zi ?_)|(refine eC (fun h=>?_) (fun h=>?_)<;>(try simp at h))|(refine hK _ ?_;clear hK)|(clear hK;refine hK _ ?_;clear hK))
      all_goals clear zS
      refine zaX (b:=false) rfl (fun h=>by cases h) fun _=>zfv ?_;show AWX c J _ _ _ _;refine zdv hJ fun w1 bl1 hn1 K hK=>?_;have hc:Cx.OK ⟨prog,X,60,w1,bl1⟩:=⟨hX,mixed⟩
      show AW ⟨prog,X,60,w1,bl1⟩ _ _ _;have zS:=hilI;repeat' (first|(refine aSk fun K hK=>?_)|(refine zi ?_)|(refine eC (fun h=>?_) (fun h=>?_)<;>(try simp at h))|(refine hK _ ?_;clear hK)|clear hK)
      all_goals clear zS
      refine ⟨⟨i+1,by omega⟩,?_,?_,by show l.length - (i+1)<l.length - i;omega⟩
      ·show Le 0 _ _;exact zaN (by simp) (by simp [zdT,AV.under,AV.underL,hFu,hFl,U]<;>omega) (by simp [zeE,AO.under,AV.underL,AV.under,hFu,hFl,U]<;>omega)
      ·show ivF s x (nmT (l.take (i+1)))=_;rw [hNs,hnE,List.append_nil]
   ·obtain rfl:i=l.length:=by omega
    refine zan hJ fun w1 bl1 hn1 K hK=>?_;have hc:Cx.OK ⟨prog,X,60,w1,bl1⟩:=⟨hX,mixed⟩
    show AW ⟨prog,X,60,w1,bl1⟩ _ _ _;have zS:=hll;repeat' (first|(refine aSk fun K hK=>?_)|(refine zi ?_)|(refine eC (fun h=>?_) (fun h=>?_)<;>(try simp at h))|(refine hK _ ?_;clear hK)|clear hK)
    all_goals clear zS
    refine zb9 (zaX (b:=false) rfl (fun h=>by cases h) fun _=>zia ?_);refine ⟨.inl rfl,?_⟩;rw [List.take_length]
 refine Calls.mono (zoJ (X:=X) (J:=J) (F:=F) (Gw:=Gw) (avs:=[TbV t,FN]) func84 rfl rfl ?_ (by show 2<=60;decide) hG hF ⟨hh,fun k hk=>.inr hk⟩ hall) fun e w' ⟨r,x',F',q1,q2,q3,q4,q5⟩=>⟨r,q1,?_,q4⟩
 ·simp only [RepL,and_true];refine ⟨Rep.of_c (E:=Env.start Gw) htv,?_⟩;rw [hFN];simp only [Rep];exact ⟨[pK k1,pK k2,pK k3,pK k4],rfl,by simp [RepL,Rep,zd]⟩
 ·subst q2;have hsz:=hh.size;have hfs:w.heap.size<=w'.heap.size:=q4.size;refine q3.1.more (fun k hk=>?_) fun k hk=>?_
  ·rcases q3.2 k hk with q|q
   ·have:=q5 k hk;exact List.mem_append.2 (.inr (List.mem_range'_1.2 ⟨q,by omega⟩))
   ·exact List.mem_append.2 (.inl q)
  ·rcases List.mem_append.1 hk with hk|hk
   ·exact hh.low k hk
   ·have:=List.mem_range'_1.1 hk;exact .inl (by omega)
@[simp] theorem ztW:za prog 133=some ⟨.struct [(0,3,1),(1,3,1)],2,16,[.int .i64 0,.int .i64 0]⟩:=by kernel_rfl
@[simp] theorem ztV:za prog 57=some ⟨.slice 133,1,24,[.slice none 0 0]⟩:=by kernel_rfl
set_option maxRecDepth 8000 in
theorem zxG:zqt prog 133:=zdp (by kernel_rfl) (fun d hd=>by rw [ztW,oJ] at hd;subst hd;exact ziO (by kernel_rfl)) (by kernel_rfl) (by kernel_rfl)
theorem zwX:zmO prog 225 zir :=zqG (tR:=4) func225 (by kernel_rfl) (by kernel_rfl) (by kernel_rfl) (by kernel_rfl) ztV rfl ztW
theorem zBv (X:AX) (hX:XOK prog X) (h42:X.call 225=zir):zdS prog 203 (zed (ι:={x:List Dp×Nat×Dp // x.2.1<=x.1.length∧x.1.length<=1000000}) (fun x=>.ow 2 (prw x.1.1)) (fun x=>[I x.1.2.1,.rd 2 (prw [x.1.2.2])]) (fun x=>rtO [.ow 2 (prw (x.1.1.take x.1.2.1++x.1.2.2::x.1.1.drop x.1.2.1))]) fun _=>.any):=by
 refine zc0 func203 rfl X fun ⟨⟨l,i,x⟩,hi,hl⟩ w0 bl E m=>⟨by show 3<=95;decide,rfl,?_⟩
 simp only at hi hl;show AW ⟨prog,X,95,w0,⟨bl,E,1⟩⟩ _ _ _;have hc:Cx.OK ⟨prog,X,95,w0,⟨bl,E,1⟩⟩:=⟨hX,mixed⟩
 have hm:m=0∨1<=m:=by omega
 have hP:prw l=prw (l.take i)++prw (l.drop i):=by rw [zaG,List.take_append_drop]
 have hR:prw (l.take i++x::l.drop i)=prw (l.take i)++[I x.1,I x.2]::prw (l.drop i):=by simp [prw]
 have hPl:(prw (l.take i)).length=i:=by simp;omega
 rcases hm with rfl|hm
 ·repeat' (first|(apply aSk;intro K hK)|(refine zae hc (by first|exact zau|(intro _;rw [zat hw];kernel_rfl)|(intro _;rw [ordB_w0 hw0];kernel_rfl)|(intro _;kernel_rfl)) ?_;simp (disch:=first|omega|assumption|(simp;done)|fail) [if_pos,if_neg,List.zipIdx,Int.ofNat_inj,h42,zir,zm];try (repeat' (refine gQs (fun h=>?_) (fun h=>?_)<;>simp at h<;>simp (disch:=first|omega|assumption|(simp;done)|fail) [if_pos,if_neg,List.zipIdx,Int.ofNat_inj,h42,zir,zm])))|(refine eC (fun h=>?_) (fun h=>?_)<;>(try simp at h))|(refine aBl ?_)|(refine zaf ?_;simp only [ze,bkQ,if_true])|(refine zag ?_;simp [ze,bkQ])|(refine zar ?_;simp only [ze,bkQ])|(refine hK _ ?_;clear hK)|(clear hK;refine hK _ ?_;clear hK)|(clear hK;clear hK;refine hK _ ?_;clear hK)|(clear hK;clear hK;clear hK;refine hK _ ?_;clear hK))
  all_goals first|(exfalso;omega)|skip
  all_goals (refine ⟨by simp,lMa ?_⟩;simp (disch:=first|omega|assumption|(simp;done)|fail) [if_pos,if_neg,lvI,f203])
  ·subst h;rw [zaG];simp [tkL]
  ·rw [hR];exact zll hP hPl (zbU l)
 ·repeat' (first|(apply aSk;intro K hK)|(refine zae hc (by first|exact zau|(intro _;rw [zat hw];kernel_rfl)|(intro _;rw [ordB_w0 hw0];kernel_rfl)|(intro _;kernel_rfl)) ?_;simp (disch:=first|omega|assumption|(simp;done)|fail) [if_pos,if_neg,List.zipIdx,Int.ofNat_inj,h42,zir,zm];try (repeat' (refine gQs (fun h=>?_) (fun h=>?_)<;>simp at h<;>simp (disch:=first|omega|assumption|(simp;done)|fail) [if_pos,if_neg,List.zipIdx,Int.ofNat_inj,h42,zir,zm])))|(refine eC (fun h=>?_) (fun h=>?_)<;>(try simp at h))|(refine aBl ?_)|(refine zaf ?_;simp only [ze,bkQ,if_true])|(refine zag ?_;simp [ze,bkQ])|(refine zar ?_;simp only [ze,bkQ])|(refine hK _ ?_;clear hK)|(clear hK;refine hK _ ?_;clear hK)|(clear hK;clear hK;refine hK _ ?_;clear hK)|(clear hK;clear hK;clear hK;refine hK _ ?_;clear hK))
  all_goals first|(exfalso;omega)|skip
  all_goals (refine ⟨by simp,lMa ?_⟩;simp (disch:=first|omega|assumption|(simp;done)|fail) [if_pos,if_neg,lvI,f203])
  ·subst h;rw [<- List.append_assoc,zaG,List.take_append_of_le_length (by simp),tkL (by simp)];simp [tkL]
  ·rw [hR];exact zi4 hP hPl (zbU l) (by simpa using hm) (by omega)
@[simp] theorem zzm:za prog 51=some ⟨.slice 63,1,24,[.slice none 0 0]⟩:=by kernel_rfl
set_option maxHeartbeats 16000000
noncomputable section
def tbG (ts:List Tb) (i:Nat):Tb:=ts.getD i zT
theorem zkT {l:List Tb} {i:Nat} (h:i<l.length):tbG l i=l[i]:=by unfold tbG;rw [List.getD_eq_getElem?_getD,List.getElem?_eq_getElem h];rfl
theorem zhs {l:List Tb} {i:Nat} (h:i<l.length):tbG l i∈l:=by rw [zkT h];exact List.getElem_mem h
def tbR (t:Tb):List AV:=[I t.1,.rd 9 (nrw t.2.1),.rd 2 (prw t.2.2)]
def zc (ts:List Tb):List (List AV):=ts.map tbR
@[simp] theorem ztw (ts:List Tb):(zc ts).length=ts.length:=by simp [zc]
theorem zcf {ts:List Tb} {i:Nat} (h:i<ts.length):(zc ts)[i]?=some [I (tbG ts i).1,.rd 9 (nrw (tbG ts i).2.1),.rd 2 (prw (tbG ts i).2.2)]:=by rw [zkT h];simp [zc,tbR,h]
theorem zcS {ts:List Tb} {i:Nat} (h:i<ts.length):∀ h',(zc ts)[i]'(h')=[I (tbG ts i).1,.rd 9 (nrw (tbG ts i).2.1),.rd 2 (prw (tbG ts i).2.2)]:=fun h'=>by have:=zcf h;rw [List.getElem?_eq_getElem h'] at this;exact Option.some.inj this
theorem zru {t t':Tb} (h:tbR t=tbR t'):t=t':=by obtain ⟨r,ns,ds⟩:=t;obtain ⟨r',ns',ds'⟩:=t';simp only [tbR,cJ,I,AV.v.injEq,Value.int.injEq,true_and,AV.rd.injEq,zbf,zaa,and_true] at h;obtain ⟨rfl,rfl,rfl⟩:=h;rfl
theorem zbk:∀ {a b:List Tb},zc a=zc b↔a=b
 | [],[]=>by simp [zc]
 | [],_::_=>by simp [zc]
 | _::_,[]=>by simp [zc]
 | x::a,y::b=>by
  have ih:=@zbk a b;unfold zc at ih ⊢;simp only [List.map_cons,cJ,ih];constructor
  ·rintro ⟨h,k⟩;exact ⟨zru h,k⟩
  ·rintro ⟨rfl,k⟩;exact ⟨rfl,k⟩
def ofA (ts:List Tb) (fr:Int):Nat->List Dp
 | 0=>[]
 | n+1=>ofA ts fr n++ofE fr n (nmT (zq (tbG ts n)))
def ofT (ts:List Tb) (fr:Int):List Dp:=ofA (ts.take 8) fr (ts.take 8).length
theorem zpu {t:Tb} {fr s:Int}:(ofE fr s (nmT (zq t))).length<=4096:=by have h1:=@zhF fr s (nmT (zq t));have h2:=@zdZ (zq t);have h3:=@zhP t;omega
theorem zj1 {ts:List Tb} {fr:Int}:∀ {n:Nat},(ofA ts fr n).length<=4096*n
 | 0=>by simp [ofA]
 | n+1=>by have ih:=@zj1 ts fr n;have:=@zpu (tbG ts n) fr n;simp only [ofA,List.length_append];omega
abbrev TsI:={x:List Tb×Int // (∀ t∈x.1,zf t)∧x.1.length<=1000000}
def OfF:List AV->Option AV:=spF (ι:=TsI) (fun x=>[.rd 3 (zc x.1.1),I x.1.2]) fun x=>rtO [.ow 2 (prw (ofT x.1.1 x.1.2))]
set_option maxRecDepth 4000 in
theorem zvz {t:Tb} {L:List Dp} (fr s:Int) {v:Nat} (ht:zf t) (hl:L.length<=900000) (hv:1<=v) {a b c d:Nat} (hab:a≠b) (hac:a≠c) (had:a≠d) (hbc:b≠c) (hbd:b≠d) (hcd:c≠d) (M:Nat->AO) (nid:Nat) (h0:M a=.box [I fr]) (h1:M b=.box [.sl c v 2 0 L.length]) (h2:M c=.vec v 2 false (prw L)) (h3:M d=.box [I s]) :
  caG naS [TbV t,.fn 88 [.bp a 0,.bp b 0,.bp d 0]] M nid=some (.tup [],[(a,.box [I fr]),(b,.box [.sl c (v+(ofE fr s (nmT (zq t))).length) 2 0 (L.length+(ofE fr s (nmT (zq t))).length)]),(c,.vec (v+(ofE fr s (nmT (zq t))).length) 2 false (prw (L++ofE fr s (nmT (zq t))))),(d,.box [I s])]):=by
 have hF:=zuA fr s ht hl;obtain ⟨N,hN⟩:∃ N,N=ofE fr s (nmT (zq t)):=⟨_,rfl⟩
 rw [<- hN] at hF ⊢;simp only [ofM,List.length_append,TbV] at hF;obtain ⟨u,rfl⟩:∃ u,v=1+u:=⟨v - 1,by omega⟩
 have hba:=hab.symm;have hca:=hac.symm;have hda:=had.symm;have hcb:=hbc.symm;have hdb:=hbd.symm;have hdc:=hcd.symm;have e1:1+N.length+u=1+u+N.length:=by omega
 unfold caG;have hg:gat M 64 (nmsL [TbV t,.fn 88 [.bp a 0,.bp b 0,.bp d 0]]) []=[a,b,c,d]:=by simp [gat,nmsL,AV.nms,AO.nms,h0,h1,h2,h3,TbV, *]
 simp only [hg];rw [if_pos ?cg]
 case cg=>simp [zbp,nmsL,AV.nms,AO.nms,Led,curBL,AV.curB,AO.curB,zaj,nDd,h0,h1,h2,h3,TbV,hab,hac,had,hbc,hbd,hcd,hba,hca,hda,hcb,hdb,hdc]
 simp [renL,AV.ren,AO.ren,zbL,zdP,nmsL,h0,h1,h2,h3,TbV,hab,hac,had,hbc,hbd,hcd,hba,hca,hda,hcb,hdb,hdc,hF,zeZ,zcc,AV.nms,AO.nms,zdC,nmN,shN,zaj,rng,Led,e1]
theorem s26 (X:AX) (hX:XOK prog X) (hw:X.W wT) (hna:X.call 84=caG naS):PSd prog 26 OfF:=by
 unfold OfF;refine psS hX mixed func26 rfl fun ⟨⟨ts,fr⟩,hts,hl⟩ w0 G=>⟨by show 2<=24;decide,rfl,?_⟩
 show AW ⟨prog,X,24,w0,.pure G⟩ _ _ _;have hc:=okc hX 24 w0 G;simp only at hts hl ⊢;have e0:ofT ts fr=ofA (ts.take 8) fr (ts.take 8).length:=rfl;obtain ⟨T,hT⟩:∃ T,T=ts.take 8:=⟨_,rfl⟩
 have hT8:T.length<=8:=by rw [hT];simp;omega
 have hTt:∀ t∈T,zf t:=fun t ht=>hts t (by rw [hT] at ht;exact List.mem_of_mem_take ht);have hT1:List.take (min (ts.length:Int) 8).toNat (zc ts)=zc T:=by
  rw [hT];unfold zc;rw [List.map_take];rcases Nat.le_total ts.length 8 with h|h
  ·rw [show (min (ts.length:Int) 8).toNat=ts.length by omega,tkL (by simp),tkL (by simp;omega)]
  ·rw [show (min (ts.length:Int) 8).toNat=8 by omega]
 have hT2:min (min (ts.length:Int) 8).toNat ts.length=T.length:=by rw [hT];simp;omega
 have hT3:((min (min (ts.length:Int) 8).toNat ts.length:Nat):Int)=T.length:=by rw [hT2]
 rw [<- hT] at e0;clear hT
 have hca:∀ (t:Tb) (A:List Dp) (s:Int),zf t->A.length<=900000->∀ (c d:Nat),c≠0->c≠32->d≠0->d≠32->c≠d->∀ M n,M 0=.box [I fr]->M 32=.box [.sl c 1 2 0 A.length]->M c=.vec 1 2 false (prw A)->M d=.box [I s] ->
   X.call 84 [TbV t,.fn 88 [.bp 0 0,.bp 32 0,.bp d 0]] M n=some (.tup [],[(0,.box [I fr]),(32,.box [.sl c (1+(ofE fr s (nmT (zq t))).length) 2 0 (A.length+(ofE fr s (nmT (zq t))).length)]),(c,.vec (1+(ofE fr s (nmT (zq t))).length) 2 false (prw (A++ofE fr s (nmT (zq t))))),(d,.box [I s])]) :=fun t A s ht h1 c d c0 c3 d0 d3 cd M n q0 q1 q2 q3=>by rw [hna];exact zvz fr s ht h1 (by decide) (by decide) (Ne.symm c0) (Ne.symm d0) (Ne.symm c3) (Ne.symm d3) cd M n q0 q1 q2 q3
 simp only [TbV] at hca;have zS:=jj hT1<|jj hT2<|hT3;repeat' (first|(refine aSk fun K hK=>?_)|(refine zi ?_)|(refine eC (fun h=>?_) (fun h=>?_)<;>(try simp at h))|(refine hK _ ?_;clear hK)|(clear hK;refine hK _ ?_;clear hK))
 all_goals clear zS
 refine zad (zeO (b:=32) (i:=0) (sz:=2) (cs:=[.v (.slice none 0 0)]) (by simp) (by simp)) ?_;simp only [List.set_cons_zero];refine aLK (s0:=?lps1) (m0:=?lpm1) (ι:={i:Nat // i<=T.length}) [3,5,12,13] (fun i=>[(14,I i.1)]) (fun i=>[(32,.box [.sl 160 1 2 0 (ofA T fr i.1).length]),(160,.vec 1 2 false (prw (ofA T fr i.1)))]) (fun i=>T.length - i.1) ⟨0,by omega⟩ ?lhs1 ?lhm1 ?_ ?_
 case lhs1=>first|(simp [kpS];done)|(simp [kpS];rfl)
 case lhm1=>first|rfl|(simp;done)|(simp;rfl)
 ·simp only [ofA];exact zaN (by simp) (by simp [zdT,AV.under,AV.underL,prw]<;>omega) (by simp [zeE,AO.under,AV.underL,AV.under,prw]<;>omega)
 ·rintro ⟨i,hi⟩;simp only;have hA:=@zj1 T fr i;rcases dE (i<T.length) with hil|hil
  ·have hilI:(i:Int)<(T.length:Int):=by omega
   have hg:=zcf hil;have hgE:=zcS hil;have ht:=hTt _ (zhs hil);have ca:=fun d d0 d3 cd=>hca (tbG T i) (ofA T fr i) i ht (by omega) 160 d (by decide) (by decide) d0 d3 cd;have hs:ofA T fr (i+1)=ofA T fr i++ofE fr i (nmT (zq (tbG T i))):=rfl;obtain ⟨Q,hQ⟩:∃ Q,Q=ofE fr i (nmT (zq (tbG T i))):=⟨_,rfl⟩
   obtain ⟨A,hAA⟩:∃ A,A=ofA T fr i:=⟨_,rfl⟩
   rw [<- hQ] at ca hs;rw [<- hAA] at ca hs hA ⊢;obtain ⟨⟨r,ns,ds⟩,ht0⟩:∃ t,t=tbG T i:=⟨_,rfl⟩
   rw [<- ht0] at hg hgE ca;simp only at hg hgE ca;have zS:=jj hilI<|jj hg<|jj hgE<|ca;repeat' (first|(refine aSk fun K hK=>?_)|(refine zi ?_)|(refine eC (fun h=>?_) (fun h=>?_)<;>(try simp at h))|(refine hK _ ?_;clear hK)|clear hK)
   all_goals clear zS
   refine ⟨i+1,?_,by omega,by omega⟩;simp only [hs,List.length_append];refine zaI (s1:=?tus2) (m1:=?tum2) [] [3,5,12,13,14] [0,32,160] ?tua2 ?tub2 ?tuc2 ?tud2 ?tue2 ?tuf2 ?tug2
   case tua2=>first|(simp [kpS];done)|(simp [kpS];rfl)
   case tub2=>first|(simp;done)|(simp;rfl)
   case tuc2=>simp
   case tud2=>simp
   case tue2=>simp
   case tuf2=>simp
   case tug2 =>simp [swp,vr];exact dle
  ·obtain rfl:i=T.length:=by omega
   repeat' (first|(refine aSk fun K hK=>?_)|(refine eMo ?_)|(refine eC (fun h=>?_) (fun h=>?_)<;>(try simp at h))|(refine hK _ ?_;clear hK)|clear hK)
   refine ⟨by simp,?_⟩;simp [lvI,f26,e0,zw5];try exact dt
end
set_option maxHeartbeats 2000000
noncomputable def zwe:List AV->Option AV:=spF (ι:={x:List Dp×List Dp // x.1.length<=1000000∧x.2.length<=1000000}) (fun x=>[.rd 2 (prw x.1.1),.rd 2 (prw x.1.2)]) fun x=>rtO [B (decide (x.1.1=x.1.2))]
theorem zss {a b:List Dp} (ha:a.length<=1000000) (hb:b.length<=1000000) (M:Nat->AO) (n:Nat):caP zwe [.rd 2 (prw a),.rd 2 (prw b)] M n=some (B (decide (a=b)),[]):=by refine cPs (ι:={x:List Dp×List Dp // x.1.length<=1000000∧x.2.length<=1000000}) (A:=fun x=>[.rd 2 (prw x.1.1),.rd 2 (prw x.1.2)]) (R:=fun x=>rtO [B (decide (x.1.1=x.1.2))]) ⟨(a,b),ha,hb⟩ (by simp) (fun j e=>?_) (by simp);obtain ⟨⟨a',b'⟩,h'⟩:=j;simp only [cJ,AV.rd.injEq,zaa,true_and,and_true] at e;obtain ⟨rfl,rfl⟩:=e;rfl
theorem s87 (X:AX) (hX:XOK prog X) (hw:X.W wT) (he:X.eqs 133=true):PSd prog 87 zwe:=by
 unfold zwe;refine psS hX mixed func87 rfl fun ⟨⟨l,m⟩,hl,hm⟩ w0 G=>⟨by show 2<=26;decide,rfl,?_⟩
 show AW ⟨prog,X,26,w0,.pure G⟩ _ _ _;have hc:=okc hX 26 w0 G;simp only at hl hm ⊢;rcases dE (l.length=m.length) with h1|h1
 ·have h1I:(l.length:Int)=(m.length:Int):=by omega
  have zS:=h1;repeat' (first|(refine aSk fun K hK=>?_)|(refine zi ?_)|(refine eC (fun h=>?_) (fun h=>?_)<;>(try simp at h))|(refine hK _ ?_;clear hK)|(clear hK;refine hK _ ?_;clear hK))
  all_goals clear zS
  refine aLK (s0:=?lps1) (m0:=?lpm1) (ι:={i:Nat // i<=m.length∧∀ j,j<i->gp l j=gp m j}) [0,1,12] (fun s=>[(13,I s.1)]) (fun _=>[]) (fun s=>m.length - s.1) ⟨0,by omega,by omega⟩ ?lhs1 ?lhm1 ?_ ?_
  case lhs1=>first|(simp [kpS];done)|(simp [kpS];rfl)
  case lhm1=>first|rfl|(simp;done)|(simp;rfl)
  ·exact dle
  ·rintro ⟨i,hi,hinv⟩;simp only;rcases dE (i<m.length) with hil|hil
   ·have hilI:(i:Int)<(m.length:Int):=by omega
    have hil2:i<l.length:=by omega
    have hil2I:(i:Int)<(l.length:Int):=by omega
    have hg:=zab hil2;have hgE:=zac hil2;have hg':=zab hil;have hgE':=zac hil;have hdf:gp l i≠gp m i->¬ l=m:=fun h e=>h (by rw [e]);have hinv2:gp l i=gp m i->∀ j,j<i+1->gp l j=gp m j:=fun h j hj=>by
     rcases Nat.lt_succ_iff_lt_or_eq.1 hj with h5|rfl
     ·exact hinv j h5
     ·exact h
    obtain ⟨⟨a,a2⟩,ha⟩:∃ a,a=gp l i:=⟨_,rfl⟩
    obtain ⟨⟨b,b2⟩,hb⟩:∃ b,b=gp m i:=⟨_,rfl⟩
    rw [<- ha,<- hb] at hdf hinv2;rw [<- ha] at hg hgE;rw [<- hb] at hg' hgE';simp only at hg hgE hg' hgE';rcases dE (a=b∧a2=b2) with e1|e1
    ·obtain ⟨rfl,rfl⟩:=e1;have:=hinv2 rfl;have zS:=jj hilI<|jj hil<|jj hil2<|jj hil2I<|jj hg<|jj hgE<|jj hg'<|jj hgE'<|jj h1<|jj he<|jj ziu<|zbi;repeat' (first|(refine aSk fun K hK=>?_)|(refine zi ?_)|(refine eC (fun h=>?_) (fun h=>?_)<;>(try simp at h))|(refine hK _ ?_;clear hK)|clear hK)
     all_goals clear zS
     refine ⟨i+1,?_,⟨by omega,this⟩,by omega⟩;exact dle
    ·have e:=hdf (by simp;omega);have e2:a=b->¬ (a2:Int)=(b2:Int):=by omega
     have e3:a=b->¬ a2=b2:=by omega
     have zS:=jj hilI<|jj hil<|jj hil2<|jj hil2I<|jj hg<|jj hgE<|jj hg'<|jj hgE'<|jj h1<|jj he<|jj ziu<|jj zbi<|jj e1<|jj e2<|e3;repeat' (first|(refine aSk fun K hK=>?_)|(refine zi ?_)|(refine eC (fun h=>?_) (fun h=>?_)<;>(try simp at h))|(refine hK _ ?_;clear hK)|clear hK)
     all_goals clear zS
     refine ⟨by simp,?_⟩;simp [lvI,f87,e];try exact dt
   ·obtain rfl:i=m.length:=by omega
    have e:l=m:=zj9 h1 fun j hj=>hinv j (by omega);have zS:=h1;repeat' (first|(refine aSk fun K hK=>?_)|(refine zi ?_)|(refine eC (fun h=>?_) (fun h=>?_)<;>(try simp at h))|(refine hK _ ?_;clear hK)|clear hK)
    all_goals clear zS
    refine ⟨by simp,?_⟩;simp [lvI,f87,e];try exact dt
 ·have h1I:¬ (l.length:Int)=(m.length:Int):=by omega
  have e:¬ l=m:=fun e=>h1 (by rw [e]);have zS:=jj h1<|h1I;refine zl ?_;repeat (intro K hK)
  clear zS;all_goals refine ⟨by simp,?_⟩
  all_goals simp [lvI,f87,e]
  all_goals try exact dt
def zuB (l:List Dp):List AV:=[.rd 2 (prw l)]
def zg (ls:List (List Dp)):List (List AV):=ls.map zuB
@[simp] theorem zfY (ls:List (List Dp)):(zg ls).length=ls.length:=by simp [zg]
def gmm (ls:List (List Dp)) (i:Nat):List Dp:=ls.getD i []
theorem zi8 {ls:List (List Dp)} {i:Nat} (h:i<ls.length):gmm ls i=ls[i]:=by unfold gmm;rw [List.getD_eq_getElem?_getD,List.getElem?_eq_getElem h];rfl
theorem zoe {ls:List (List Dp)} {i:Nat} (h:i<ls.length):gmm ls i∈ls:=by rw [zi8 h];exact List.getElem_mem h
theorem zdj {ls:List (List Dp)} {i:Nat} (h:i<ls.length):(zg ls)[i]?=some [.rd 2 (prw (gmm ls i))]:=by rw [zi8 h];simp [zg,zuB,h]
theorem zfl {ls:List (List Dp)} {i:Nat} (h:i<ls.length):∀ h',(zg ls)[i]'(h')=[.rd 2 (prw (gmm ls i))]:=fun h'=>by have:=zdj h;rw [List.getElem?_eq_getElem h'] at this;exact Option.some.inj this
theorem zck:∀ {a b:List (List Dp)},zg a=zg b↔a=b
 | [],[]=>by simp [zg]
 | [],_::_=>by simp [zg]
 | _::_,[]=>by simp [zg]
 | x::a,y::b=>by have ih:=@zck a b;unfold zg at ih ⊢;simp only [List.map_cons,cJ,ih,zuB,AV.rd.injEq,true_and,and_true,zaa]
theorem zi0 {a b:List (List Dp)} (hl:a.length=b.length) (h:∀ j,j<a.length->gmm a j=gmm b j):a=b:=by refine List.ext_getElem hl fun i h1 h2=>?_;have:=h i h1;rw [zi8 h1,zi8 h2] at this;exact this
def zgL (l:List (List Dp)):Prop:=l.length<=1000000∧∀ r∈l,r.length<=1000000
noncomputable def zwf:List AV->Option AV:=spF (ι:={x:List (List Dp)×List (List Dp) // zgL x.1∧zgL x.2}) (fun x=>[.rd 1 (zg x.1.1),.rd 1 (zg x.1.2),.fn 87 []]) fun x=>rtO [B (decide (x.1.1=x.1.2))]
theorem zst {a b:List (List Dp)} (ha:zgL a) (hb:zgL b) (M:Nat->AO) (n:Nat):caP zwf [.rd 1 (zg a),.rd 1 (zg b),.fn 87 []] M n=some (B (decide (a=b)),[]):=by refine cPs (ι:={x:List (List Dp)×List (List Dp) // zgL x.1∧zgL x.2}) (A:=fun x=>[.rd 1 (zg x.1.1),.rd 1 (zg x.1.2),.fn 87 []]) (R:=fun x=>rtO [B (decide (x.1.1=x.1.2))]) ⟨(a,b),ha,hb⟩ (by simp [zah,zbl]) (fun j e=>?_) (by simp);obtain ⟨⟨a',b'⟩,h'⟩:=j;simp only [cJ,AV.rd.injEq,zck,true_and,and_true] at e;obtain ⟨rfl,rfl⟩:=e;rfl
theorem s86 (X:AX) (hX:XOK prog X) (hw:X.W wT) (heq:X.call 87=caP zwe):PSd prog 86 zwf:=by
 unfold zwf;refine psS hX mixed func86 rfl fun ⟨⟨l,m⟩,⟨hl,hlr⟩,hm,hmr⟩ w0 G=>⟨by show 3<=32;decide,rfl,?_⟩
 show AW ⟨prog,X,32,w0,.pure G⟩ _ _ _;have hc:=okc hX 32 w0 G;simp only at hl hm hlr hmr ⊢;rcases dE (l.length=m.length) with h1|h1
 ·have h1I:(l.length:Int)=(m.length:Int):=by omega
  have zS:=h1;repeat' (first|(refine aSk fun K hK=>?_)|(refine zi ?_)|(refine eC (fun h=>?_) (fun h=>?_)<;>(try simp at h))|(refine hK _ ?_;clear hK)|(clear hK;refine hK _ ?_;clear hK))
  all_goals clear zS
  refine aLK (s0:=?lps2) (m0:=?lpm2) (ι:={i:Nat // i<=m.length∧∀ j,j<i->gmm l j=gmm m j}) [1,2,15,16] (fun s=>[(17,I s.1)]) (fun _=>[]) (fun s=>m.length - s.1) ⟨0,by omega,by omega⟩ ?lhs2 ?lhm2 ?_ ?_
  case lhs2=>first|(simp [kpS];done)|(simp [kpS];rfl)
  case lhm2=>first|rfl|(simp;done)|(simp;rfl)
  ·exact dle
  ·rintro ⟨i,hi,hinv⟩;simp only;rcases dE (i<m.length) with hil|hil
   ·have hilI:(i:Int)<(m.length:Int):=by omega
    have hil2:i<l.length:=by omega
    have hil2I:(i:Int)<(l.length:Int):=by omega
    have hg:=zdj hil2;have hgE:=zfl hil2;have hg':=zdj hil;have hgE':=zfl hil;have ca:∀ M n,X.call 87 [.rd 2 (prw (gmm l i)),.rd 2 (prw (gmm m i))] M n=some (B (decide (gmm l i=gmm m i)),[]):=fun M n=>by rw [heq];exact zss (hlr _ (zoe hil2)) (hmr _ (zoe hil)) M n
    have hdf:gmm l i≠gmm m i->¬ l=m:=fun h e=>h (by rw [e]);have hinv2:gmm l i=gmm m i->∀ j,j<i+1->gmm l j=gmm m j:=fun h j hj=>by
     rcases Nat.lt_succ_iff_lt_or_eq.1 hj with h5|rfl
     ·exact hinv j h5
     ·exact h
    obtain ⟨a,ha⟩:∃ a,a=gmm l i:=⟨_,rfl⟩
    obtain ⟨b,hb⟩:∃ b,b=gmm m i:=⟨_,rfl⟩
    rw [<- ha,<- hb] at hdf hinv2 ca;rw [<- ha] at hg hgE;rw [<- hb] at hg' hgE';rcases dE (a=b) with e1|e1
    ·rw [decide_eq_true e1] at ca;have:=hinv2 e1;clear e1 hdf hinv2 heq;have zS:=jj hilI<|jj hil<|jj hil2<|jj hil2I<|jj hg<|jj hgE<|jj hg'<|jj hgE'<|jj h1<|ca;repeat' (first|(refine aSk fun K hK=>?_)|(refine zi ?_)|(refine eC (fun h=>?_) (fun h=>?_)<;>(try simp at h))|(refine hK _ ?_;clear hK)|clear hK)
     all_goals clear zS
     refine ⟨i+1,?_,⟨by omega,this⟩,by omega⟩;exact dle
    ·rw [decide_eq_false e1] at ca;have e:=hdf e1;clear e1 hdf hinv2 heq;have zS:=jj hilI<|jj hil<|jj hil2<|jj hil2I<|jj hg<|jj hgE<|jj hg'<|jj hgE'<|jj h1<|ca;repeat' (first|(refine aSk fun K hK=>?_)|(refine zi ?_)|(refine eC (fun h=>?_) (fun h=>?_)<;>(try simp at h))|(refine hK _ ?_;clear hK)|clear hK)
     all_goals clear zS
     refine ⟨by simp,?_⟩;simp [lvI,f86,e];try exact dt
   ·obtain rfl:i=m.length:=by omega
    have e:l=m:=zi0 h1 fun j hj=>hinv j (by omega);have zS:=h1;repeat' (first|(refine aSk fun K hK=>?_)|(refine zi ?_)|(refine eC (fun h=>?_) (fun h=>?_)<;>(try simp at h))|(refine hK _ ?_;clear hK)|clear hK)
    all_goals clear zS
    refine ⟨by simp,?_⟩;simp [lvI,f86,e];try exact dt
 ·have h1I:¬ (l.length:Int)=(m.length:Int):=by omega
  have e:¬ l=m:=fun e=>h1 (by rw [e]);have zS:=jj h1<|h1I;refine zl ?_;repeat (intro K hK)
  clear zS;all_goals refine ⟨by simp,?_⟩
  all_goals simp [lvI,f86,e]
  all_goals try exact dt
theorem zbT {E:Env} {w:World} {a:AV} {vs:List Value}:RepL E w [a] vs↔∃ y,vs=[y]∧Rep E w a y:=by
 match vs with
 | []=>simp [RepL]
 | [y]=>simp [RepL]
 | _::_::_=>simp [RepL]
def zqp (w0:World) (l0:List Nat) (G:Nat->Prop) (k1 k2 k3:Nat) (xs:List (List AV)) (x:Bool×List (List Dp)) (F:List Nat) (w:World):Prop :=∃ (E:Env) (o:Nat) (L:List Value) (vers:Nat->Nat),zgv w0 l0 G E (hiM xs x.1 o L 0 vers x.2) F w∧(∀ b,E.alive b↔b<5+xs.length∧b≠4) ∧
  (E.loc 0=some (k1,0,1)∧E.loc 1=some (k2,0,1)∧E.loc 2=some (k3,0,1))∧x.2.length=xs.length∧o+xs.length<=L.length ∧
  ∀ i,i<xs.length->∃ v,L[o+i]?=some v∧Rep E w (.sl (5+i) (vers i) 2 0 (x.2.getD i []).length) v
theorem zqp.keep {w0:World} {l0:List Nat} {G:Nat->Prop} {k1 k2 k3:Nat} {xs:List (List AV)} {x:Bool×List (List Dp)} {F:List Nat} {w w':World} (h:zqp w0 l0 G k1 k2 k3 xs x F w)
  (hF:∀ k∈F,w'.heap[k]?=w.heap[k]?) (hfr:zaV w0 l0 w') (hsz:w.heap.size<=w'.heap.size):zqp w0 l0 G k1 k2 k3 xs x F w':=by obtain ⟨E,o,L,vers,h1,h2,h3,h4,h5,h6⟩:=h;refine ⟨E,o,L,vers,h1.keep hF hfr hsz,h2,h3,h4,h5,fun i hi=>?_⟩;obtain ⟨v,q1,q2⟩:=h6 i hi;refine ⟨v,q1,?_⟩;simp only [Rep] at q2 ⊢;exact q2
theorem zgM.detach {w0:World} {l0:List Nat} {G:Nat->Prop} {k1 k2 k3 k4:Nat} {xs:List (List AV)} {s:Int} {x:Bool×List (List Dp)} {F:List Nat} {w:World} (h:zgM w0 l0 G k1 k2 k3 k4 xs s x F w):zqp w0 l0 G k1 k2 k3 xs x F w:=by
 obtain ⟨E,o,L,vers,h1,h2,⟨l1,l2,l3,_⟩,h4,h5,h6⟩:=h;refine ⟨{ E with alive:=fun b=>E.alive b∧b≠4 },o,L,vers,⟨⟨h1.inv.frame,⟨h1.inv.gin.G,fun _ h=>h.elim,fun _ h=>h.elim⟩,fun _ h=>h.elim,h1.inv.gout,h1.inv.good,fun b blk base sz hb hl=>h1.inv.locs b blk base sz hb.1 hl,fun b b' blk base sz base' sz' hb hb'=>h1.inv.apart b b' blk base sz base' sz' hb.1 hb'.1⟩,fun b hb=>?_,fun b blk base sz hb hl=>h1.loc b blk base sz hb.1 hl,h1.gs,h1.low,h1.gw⟩,fun b=>by simp [h2],⟨l1,l2,l3⟩,h4,h5,fun i hi=>?_⟩
 ·have hob:=h1.mem b hb.1;have h3a:E.alive 3:=(h2 3).2 (by omega);match b,hb,hob with
  | 0,_,hob =>
   simp only [hiM,ObR,zbT,Rep,zd] at hob ⊢;exact hob
  | 1,_,hob =>
   simp only [hiM,ObR,zbT,B,Rep,zd] at hob ⊢;exact hob
  | 2,_,hob =>
   simp only [hiM,ObR,zbT,Rep] at hob ⊢;obtain ⟨a1,blk,t,vs,a2,a3,a4,y,a5,a6,a7⟩:=hob;exact ⟨a1,blk,t,vs,a2,a3,a4,y,a5,⟨a6,by decide⟩,a7⟩
  | 3,_,hob =>
   simp only [hiM,ObR,zcw] at hob ⊢;exact hob
  | 4,hb,_=>exact absurd rfl hb.2
  | j+5,_,hob =>
   by_cases hj:j<xs.length
   ·simp only [hiM,hj,if_true,ObR] at hob ⊢;exact hob
   ·simp only [hiM,hj,if_false,ObR]
 ·obtain ⟨v,q1,q2⟩:=h6 i hi;refine ⟨v,q1,?_⟩;simp only [Rep] at q2 ⊢;exact ⟨⟨q2.1,by omega⟩,q2.2⟩
theorem zqp.attach {w0:World} {l0:List Nat} {G:Nat->Prop} {k1 k2 k3 k4:Nat} {xs:List (List AV)} {s:Int} {x:Bool×List (List Dp)} {F:List Nat} {w:World} (h:zqp w0 l0 G k1 k2 k3 xs x F w)
  {t:TypeId} (hk:w.heap[k4]?=some (.cells #[.int .i64 s] t (0,0))) (hkF:k4 ∉ F) (hk0:w0.heap.size<=k4∨k4∈l0) (hone:(Value.int .i64 s).oneCell'=true):zgM w0 l0 G k1 k2 k3 k4 xs s x (F++[k4]) w:=by
 obtain ⟨E,o,L,vers,h1,h2,⟨l1,l2,l3⟩,h4,h5,h6⟩:=h;have hG4:¬ E.G k4:=fun hg=>by
  rcases h1.gs k4 hg with q|q
  ·obtain ⟨q1,q2⟩:=h1.gw k4 q;rcases hk0 with q3|q3
   ·omega
   ·exact q2 q3
  ·exact hkF q
 have hsz:k4<w.heap.size:=(Array.getElem?_eq_some_iff.1 hk).1;have hno:∀ b base sz,E.alive b->E.loc b≠some (k4,base,sz):=fun b base sz hb hl=>hkF (h1.loc b k4 base sz hb hl)
 let E':Env:={ E with alive:=fun b=>E.alive b∨b=4,ver:=fun b=>if b=4 then 0 else E.ver b,loc:=fun b=>if b=4 then some (k4,0,1) else E.loc b }
 have n4:¬ E.alive 4:=fun h=>((h2 4).1 h).2 rfl;have hle:E.Le E':=⟨fun _ h=>h,fun _ h=>.inl h,fun b hb=>.inl (by have:b≠4:=fun e=>n4 (e ▸ hb);simp [E',this])⟩
 refine ⟨E',o,L,vers,⟨⟨h1.inv.frame,⟨h1.inv.gin.G,fun _ h=>h.elim,fun _ h=>h.elim⟩,fun _ h=>h.elim,h1.inv.gout,h1.inv.good,fun b blk base sz hb hl=>?_,fun b b' blk base sz base' sz' hb hb' hl hl'=>?_⟩,fun b hb=>?_,fun b blk base sz hb hl=>?_,fun k hk=>(h1.gs k hk).imp id fun q=>List.mem_append.2 (.inl q),fun k hk=>?_,h1.gw⟩,fun b=>?_,⟨?_,?_,?_,?_⟩,h4,h5,fun i hi=>?_⟩
 ·by_cases e:b=4
  ·simp only [E',e,if_true,oJ,pJ] at hl;obtain ⟨rfl,rfl,rfl⟩:=hl;exact ⟨hsz,hG4,hk0⟩
  ·simp only [E',e,if_false] at hl;exact h1.inv.locs b blk base sz (hb.resolve_right e) hl
 ·by_cases e:b=4
  ·by_cases e':b'=4
   ·rw [e,e']
   ·simp only [E',e,if_true,oJ,pJ] at hl;simp only [E',e',if_false] at hl';exact absurd (hl.1 ▸ hl') (hno b' _ _ (hb'.resolve_right e'))
  ·by_cases e':b'=4
   ·simp only [E',e',if_true,oJ,pJ] at hl';simp only [E',e,if_false] at hl;exact absurd (hl'.1 ▸ hl) (hno b _ _ (hb.resolve_right e))
   ·simp only [E',e,if_false] at hl;simp only [E',e',if_false] at hl';exact h1.inv.apart b b' blk base sz base' sz' (hb.resolve_right e) (hb'.resolve_right e') hl hl'
 ·by_cases e:b=4
  ·subst e;simp only [hiM,ObR];refine ⟨by simp [E'],k4,t,[.int .i64 s],by simp [E'],hk,by simp,by simp [RepL,Rep,zd,I]⟩
  ·have hob:=h1.mem b (hb.resolve_right e);have hmm:hiM xs x.1 o L s vers x.2 b=hiM xs x.1 o L 0 vers x.2 b:=by
    match b,e with
    | 0,_=>rfl
    | 1,_=>rfl
    | 2,_=>rfl
    | 3,_=>rfl
    | 4,e=>exact absurd rfl e
    | j+5,_=>rfl
   rw [hmm];exact ObR.mono hle (fun _ _=>rfl) (by simp [E',e]) (by simp [E',e]) (fun _ _ _ _=>rfl) hob
 ·by_cases e:b=4
  ·simp only [E',e,if_true,oJ,pJ] at hl;exact List.mem_append.2 (.inr (by simp [hl.1]))
  ·simp only [E',e,if_false] at hl;exact List.mem_append.2 (.inl (h1.loc b blk base sz (hb.resolve_right e) hl))
 ·rcases List.mem_append.1 hk with q|q
  ·exact h1.low k q
  ·simp only [List.mem_singleton] at q;rw [q];exact hk0
 ·show E.alive b∨b=4↔_;rw [h2];omega
 ·simpa [E'] using l1
 ·simpa [E'] using l2
 ·simpa [E'] using l3
 ·simp [E']
 ·obtain ⟨v,q1,q2⟩:=h6 i hi;exact ⟨v,q1,q2.mono hle fun _ _=>rfl⟩
theorem zd7.fresh {N:Nat} {a:Act} {w:World} {F:List Nat} {Gw:Nat->Prop} {kp:List (Nat×AV)} {nx:Nat} (hd:a.defers=[]) (hs:a.tmps.size=N) (hG:∀ k,Gw k->k<w.heap.size) (hF:∀ k∈F,k<w.heap.size∧¬ Gw k)
  (hk:∀ p∈kp,zd w Gw p.2 (a.tmps.getD p.1 undef)):zd7 N w ⟨F,Env.start Gw,0⟩ a w ⟨kp,[],nx⟩ F:=by
 refine ⟨Env.start Gw,⟨hd,hs,⟨⟨rfl,rfl,Nat.le_refl _,fun _ _ _=>rfl⟩,Env.Le.refl _,fun _ h=>h.elim,fun k hk=>.inl hk,hG,fun _ _ _ _ h=>h.elim,fun _ _ _ _ _ _ _ h=>h.elim⟩,fun b hb=>hb.elim,fun t=>?_⟩,fun k hk=>hk.elim,fun k hk=>absurd rfl hk,fun k hk=>⟨(hF k hk).1,(hF k hk).2,fun _ _ _ hb=>hb.elim⟩⟩;rcases zeR kp t with e|⟨p,hp,rfl,e⟩
 ·rw [e];simp [Rep,zd]
 ·rw [e];exact Rep.of_c (E:=Env.start Gw) (hk p hp)
def zpw:Value:=.slice none 0 0
theorem zpQ {n i:Nat}:((List.replicate n ([]:List Dp)).getD i [])=[]:=by
 rw [List.getD_eq_getElem?_getD];by_cases h:i<n
 ·simp [h]
 ·rw [List.getElem?_eq_none (by simp;omega)];rfl
theorem zxx {N:Nat} {w0:World} {bl:Bk} {E:Env} {a:Act} {w:World} {g:Nat->AV} {m:Nat->AO} (h:zdd N w0 bl E a w g m) {s3 s5 s6 a0 a1 a2 v:Nat} {xs:List (List AV)} {f:Bool}
  (hx:0<xs.length) (g3:g s3=.bp a0 0) (g5:g s5=.bp a1 0) (g6:g s6=.bp a2 0) (m0:m a0=.box [.rd 1 xs]) (m1:m a1=.box [.sl v 1 1 0 xs.length]) (m2:m a2=.box [B true]) (mv:m v=.vec 1 1 f (List.replicate xs.length [.v zpw]))
  (d1:a0≠a1) (d2:a0≠a2) (d3:a0≠v) (d4:a1≠a2) (d5:a1≠v) (d6:a2≠v) :
  ∃ k1 k2 k3 F,(∀ k∈F,k<w.heap.size∧¬ E.G k)∧(∀ k∈F,w0.heap.size<=k∨k∈bl.l)∧a.tmps.getD s3 undef=pK k1∧a.tmps.getD s6 undef=pK k2∧a.tmps.getD s5 undef=pK k3 ∧
   zqp w F E.G k1 k2 k3 xs (true,List.replicate xs.length []) F w:=by
 have r3:=h.slots s3;have r5:=h.slots s5;have r6:=h.slots s6;rw [g3] at r3;rw [g5] at r5;rw [g6] at r6;simp only [Rep] at r3 r5 r6;obtain ⟨l0,v0,k1,z1,e1,r3⟩:=r3;obtain ⟨l1,v1,k3,z3,e3,r5⟩:=r5;obtain ⟨l2,v2,k2,z2,e2,r6⟩:=r6;have o0:=h.mem a0 l0;have o1:=h.mem a1 l1;have o2:=h.mem a2 l2;rw [m0] at o0;rw [m1] at o1;rw [m2] at o2;simp only [ObR,zbT] at o0 o1 o2;obtain ⟨_,b0,t0,vs0,q0,h0,one0,y0,rfl,p0⟩:=o0;obtain ⟨_,b1,t1,vs1,q1,h1,one1,y1,rfl,p1⟩:=o1;obtain ⟨_,b2,t2,vs2,q2,h2,one2,y2,rfl,p2⟩:=o2;rw [e1] at q0;rw [e3] at q1;rw [e2] at q2;simp only [List.length_cons,List.length_nil,Nat.zero_add,oJ,pJ,true_and] at q0 q1 q2;obtain ⟨rfl,rfl⟩:=q0;obtain ⟨rfl,rfl⟩:=q1;obtain ⟨rfl,rfl⟩:=q2;simp only [Rep] at p1;obtain ⟨lv,_,_,p,c,rfl,hnc,hpc,hsl⟩:=p1;have ov:=h.mem v lv;rw [mv] at ov;simp only [ObR] at ov;obtain ⟨vv,_,ov⟩:=ov;cases hlv:E.loc v with
 | none =>
  rw [hlv] at ov;simp only [List.replicate_eq_nil_iff] at ov;omega
 | some l =>
 obtain ⟨ka,base,sz⟩:=l;rw [hlv] at ov;simp only at ov;obtain ⟨cs,tc,hka,hszc,onec,hbn,_,hrows⟩:=ov;have hsl:=hsl vv.symm;rw [hlv] at hsl;simp only [zcd] at hsl;obtain ⟨ad,rfl,had,_⟩:=hsl;have had:ad=⟨ka,base,none⟩:=by
  rcases had with q|q
  ·omega
  ·simpa using q
 subst had;simp only [List.length_replicate,Nat.mul_one] at hbn;have i:=h.inv;have c1:=i.locs a0 k1 0 1 l0 e1;have c3:=i.locs a1 k3 0 1 l1 e3;have c2:=i.locs a2 k2 0 1 l2 e2;have ca:=i.locs v ka base sz lv hlv;have n13:k1≠k3:=fun e=>d1 (i.apart a0 a1 k1 0 1 0 1 l0 l1 e1 (e ▸ e3));have n12:k1≠k2:=fun e=>d2 (i.apart a0 a2 k1 0 1 0 1 l0 l2 e1 (e ▸ e2));have n1a:k1≠ka:=fun e=>d3 (i.apart a0 v k1 0 1 base sz l0 lv e1 (e ▸ hlv));have n32:k3≠k2:=fun e=>d4 (i.apart a1 a2 k3 0 1 0 1 l1 l2 e3 (e ▸ e2));have n3a:k3≠ka:=fun e=>d5 (i.apart a1 v k3 0 1 base sz l1 lv e3 (e ▸ hlv));have n2a:k2≠ka:=fun e=>d6 (i.apart a2 v k2 0 1 base sz l2 lv e2 (e ▸ hlv))
 let Eh:Env:={ G:=E.G,alive:=fun b=>b<5+xs.length∧b≠4,ver:=fun b=>(if b<5 then 0 else 1),loc:=fun b=>if b=0 then some (k1,0,1) else if b=1 then some (k2,0,1) else if b=2 then some (k3,0,1) else if b=3 then some (ka,0,cs.size) else none }
 have hlocs:∀ b blk base sz,Eh.loc b=some (blk,base,sz)->(b=0∧blk=k1)∨(b=1∧blk=k2)∨(b=2∧blk=k3)∨(b=3∧blk=ka):=fun b blk base sz hl=>by
  simp only [Eh] at hl;split at hl
  ·simp at hl;rename_i e;exact .inl ⟨e,hl.1.symm⟩
  ·split at hl
   ·simp at hl;rename_i e;exact .inr (.inl ⟨e,hl.1.symm⟩)
   ·split at hl
    ·simp at hl;rename_i e;exact .inr (.inr (.inl ⟨e,hl.1.symm⟩))
    ·split at hl
     ·simp at hl;rename_i e;exact .inr (.inr (.inr ⟨e,hl.1.symm⟩))
     ·simp at hl
 have hFin:∀ k∈[k1,k3,k2,ka],k<w.heap.size∧¬ E.G k∧(w0.heap.size<=k∨k∈bl.l):=fun k hk=>by
  simp only [List.mem_cons,List.not_mem_nil,or_false] at hk;rcases hk with rfl|rfl|rfl|rfl
  ·exact c1
  ·exact c3
  ·exact c2
  ·exact ca
 refine ⟨k1,k2,k3,[k1,k3,k2,ka],fun k hk=>⟨(hFin k hk).1,(hFin k hk).2.1⟩,fun k hk=>(hFin k hk).2.2,r3,r6,r5,Eh,base,cs.toList,fun _=>1,⟨⟨⟨rfl,rfl,Nat.le_refl _,fun _ _ _=>rfl⟩,⟨fun _ h=>h,fun _ h=>h.elim,fun _ h=>h.elim⟩,fun _ h=>h.elim,fun k hk=>.inl hk,i.good,fun b blk base sz hb hl=>?_,fun b b' blk base sz base' sz' hb hb' hl hl'=>?_⟩,fun b hb=>?_,fun b blk base sz hb hl=>?_,fun k hk=>.inl hk,fun k hk=>.inr hk,fun k hk=>⟨i.good k hk,fun hm=>(hFin k hm).2.1 hk⟩⟩,fun b=>Iff.rfl,⟨rfl,rfl,rfl⟩,by simp,by simp;omega,fun j hj=>?_⟩
 ·have hm:blk∈[k1,k3,k2,ka]:=by rcases hlocs b blk base sz hl with ⟨_,rfl⟩|⟨_,rfl⟩|⟨_,rfl⟩|⟨_,rfl⟩<;>simp
  exact ⟨(hFin blk hm).1,(hFin blk hm).2.1,.inr hm⟩
 ·rcases hlocs b blk base sz hl with ⟨rfl,f1⟩|⟨rfl,f1⟩|⟨rfl,f1⟩|⟨rfl,f1⟩<;>rcases hlocs b' blk base' sz' hl' with ⟨rfl,f2⟩|⟨rfl,f2⟩|⟨rfl,f2⟩|⟨rfl,f2⟩ <;>
   first
   | rfl
   | (exfalso;have e:=f1.symm.trans f2;first|exact n13 e|exact n12 e|exact n1a e|exact n32 e|exact n3a e|exact n2a e|exact n13 e.symm|exact n12 e.symm|exact n1a e.symm|exact n32 e.symm|exact n3a e.symm|exact n2a e.symm)
 ·match b,hb with
  | 0,_ =>
   simp only [hiM,ObR,zbT];refine ⟨rfl,k1,t0,[y0],rfl,h0,one0,y0,rfl,?_⟩;simp only [Rep] at p0 ⊢;exact p0
  | 1,_ =>
   simp only [hiM,ObR,zbT];refine ⟨rfl,k2,t2,[y2],rfl,h2,one2,y2,rfl,?_⟩;simp only [Rep,B] at p2 ⊢;exact p2
  | 2,_ =>
   simp only [hiM,ObR,zbT];refine ⟨rfl,k3,t1,_,rfl,h1,one1,_,rfl,?_⟩;simp only [Rep];exact ⟨⟨by omega,by decide⟩,rfl,ka,cs.size,_,c,rfl,rfl,hnc,.inr rfl⟩
  | 3,_ =>
   simp only [hiM,ObR,zcw];exact ⟨rfl,ka,tc,cs.toList,by simp [Eh],by simpa using hka,onec,rfl⟩
  | 4,hb=>exact absurd rfl hb.2
  | j+5,hb =>
   have hj:j<xs.length:=by have:=hb.1;omega
   simp only [hiM,hj,if_true,ObR,zpQ];refine ⟨by simp [Eh],Nat.le_refl _,?_⟩;have e:Eh.loc (j+5)=none:=by simp [Eh]
   rw [e];rfl
 ·rcases hlocs b blk base sz hl with ⟨_,rfl⟩|⟨_,rfl⟩|⟨_,rfl⟩|⟨_,rfl⟩<;>simp
 ·obtain ⟨_,hcc⟩:=hrows.get (i:=j) (e:=[.v zpw]) (by simp [hj]);obtain ⟨x,hx1,_,hx2⟩:=hcc.get (j:=0) (a:=.v zpw) rfl;simp only [zd] at hx2;subst hx2;refine ⟨zpw,?_,?_⟩
  ·have:=cell_of_row w ka (base+j) cs tc _ hka;rw [Nat.mul_one,Nat.add_zero] at hx1;rw [this] at hx1;simpa using hx1
  ·simp only [zpQ,List.length_nil,Rep];refine ⟨⟨by omega,by omega⟩,Nat.le_refl _,by (show 1<=(if 5+j<5 then 0 else 1));rw [if_neg (by omega)];exact Nat.le_refl _,none,0,rfl,Nat.le_refl _,fun _=>rfl,fun _=>?_⟩;have e:Eh.loc (5+j)=none:=by
    have q0:¬ (5+j=0):=by omega
    have q1:¬ (5+j=1):=by omega
    have q2:¬ (5+j=2):=by omega
    have q3:¬ (5+j=3):=by omega
    simp [Eh,q1,q2,q3]
   rw [e];exact ⟨rfl,rfl⟩
theorem zvW {N:Nat} {w0 w1 w':World} {G0 G1:Nat->Prop} {F1 F':List Nat} {a:Act} {st:St} {k1 k2 k3:Nat} {xs:List (List AV)} {x:Bool×List (List Dp)}
  (hs:zd7 N w1 ⟨F1,Env.start G1,0⟩ a w' st F') (hj:zqp w1 F1 G1 k1 k2 k3 xs x F' w') (hfr:zaV w0 [] w1) (hF1:∀ k∈F1,w0.heap.size<=k) (hG1:∀ k,G1 k->G0 k∨w0.heap.size<=k) (hG0:∀ k,G0 k->G1 k)
  {s3 s5 s6:Nat} (h3:a.tmps.getD s3 undef=pK k1) (h5:a.tmps.getD s5 undef=pK k3) (h6:a.tmps.getD s6 undef=pK k2) :
  Sat N w0 (Bk.pure G0) a w' ⟨[(s3,.bp 0 0),(s5,.bp 1 0),(s6,.bp 2 0)],[(0,.box [.rd 1 xs]),(1,.box [.rd 1 (zg x.2)]),(2,.box [B x.1])],3⟩:=by
 obtain ⟨Ev,v1,v2,v3,v4⟩:=hs;obtain ⟨Eh,o,L,vers,hh,hal,⟨l0,l1,l2⟩,hn,ho,hhd⟩:=hj;have iv:=v1.inv;have ih:=hh.inv;have a0:Eh.alive 0:=(hal 0).2 ⟨by omega,by decide⟩;have a1:Eh.alive 1:=(hal 1).2 ⟨by omega,by decide⟩;have a2:Eh.alive 2:=(hal 2).2 ⟨by omega,by decide⟩;have a3:Eh.alive 3:=(hal 3).2 ⟨by omega,by decide⟩;have hw1:w0.heap.size<=w1.heap.size:=hfr.size;have hw':w1.heap.size<=w'.heap.size:=iv.frame.size
 let G2:Nat->Prop:=fun k=>Ev.G k∨Eh.G k∨∃ b base sz,Eh.alive b∧3<=b∧Eh.loc b=some (k,base,sz)
 let E2:Env:={ G:=G2,alive:=fun b=>b<3,ver:=fun _=>0,loc:=fun b=>if b=0 then some (k1,0,1) else if b=1 then some (k3,0,1) else if b=2 then some (k2,0,1) else none }
 have hlocs:∀ b blk base sz,E2.loc b=some (blk,base,sz)->∃ c,c<3∧Eh.alive c∧Eh.loc c=some (blk,base,sz)∧((b=0∧c=0)∨(b=1∧c=2)∨(b=2∧c=1)):=fun b blk base sz hl=>by
  simp only [E2] at hl;split at hl
  ·rename_i e;exact ⟨0,by decide,a0,by rw [l0];exact hl,.inl ⟨e,rfl⟩⟩
  ·split at hl
   ·rename_i e;exact ⟨2,by decide,a2,by rw [l2];exact hl,.inr (.inl ⟨e,rfl⟩)⟩
   ·split at hl
    ·rename_i e;exact ⟨1,by decide,a1,by rw [l1];exact hl,.inr (.inr ⟨e,rfl⟩)⟩
    ·simp at hl
 have hlate:∀ k,(w1.heap.size<=k∨k∈F1)->w0.heap.size<=k:=fun k hk=>by
  rcases hk with q|q
  ·omega
  ·exact hF1 k q
 have hgh:∀ k,Eh.G k->G2 k:=fun k hk=>.inr (.inl hk);have hrow:∀ i,i<xs.length->∃ v,L[o+i]?=some v∧zd w' G2 (.rd 2 (prw (gmm x.2 i))) v:=fun i hi=>by
  obtain ⟨v,q1,q2⟩:=hhd i hi;refine ⟨v,q1,?_⟩;simp only [Rep] at q2;obtain ⟨b1,b2,b3,p,c,rfl,b4,b5,b6⟩:=q2;have hob:=hh.mem (5+i) b1;rw [show 5+i=i+5 by omega] at hob b1 b3 b6;simp only [hiM,hi,if_true,ObR] at hob;obtain ⟨c1,_,c3⟩:=hob;have b6:=b6 c1.symm;have el:(x.2.getD i []).length=(prw (gmm x.2 i)).length:=by simp [gmm]
  simp only [zd];refine ⟨p,c,by rw [el],by rw [<- el];exact b4,b5,?_⟩;cases hl:Eh.loc (i+5) with
  | none=>rw [hl] at c3;exact .inl c3
  | some l =>
   obtain ⟨blk,base,sz⟩:=l;rw [hl] at b6 c3;simp only [zcd] at b6 c3;obtain ⟨ad,rfl,b7,_⟩:=b6;obtain ⟨cs,t,c4,_,_,_,_,c5⟩:=c3;by_cases e:prw (gmm x.2 i)=[]
   ·exact .inl e
   ·refine .inr ⟨blk,base,?_,.inr (.inr ⟨i+5,base,sz,b1,by omega,hl⟩),c5.mono hgh (fun _ _=>rfl) (.inl rfl)⟩;rcases b7 with b7|b7
    ·have:(prw (gmm x.2 i)).length≠0:=fun h=>e (List.length_eq_zero_iff.1 h);omega
    ·rw [b7];simp
 refine ⟨E2,⟨v1.defers,v1.size,⟨⟨iv.frame.os.trans hfr.os,iv.frame.out.trans hfr.out,Nat.le_trans hw1 hw',fun k hk _=>?_⟩,⟨fun k hk=>.inl (iv.gin.G k (hG0 k hk)),fun _ h=>h.elim,fun _ h=>h.elim⟩,fun _ h=>h.elim,fun k hk=>?_,fun k hk=>?_,fun b blk base sz hb hl=>?_,fun b b' blk base sz base' sz' hb hb' hl hl'=>?_⟩,fun b hb=>?_,fun t=>?_⟩,fun b hb=>hb,fun b hb=>?_⟩
 ·rw [iv.frame.old k (by omega) fun hm=>by have:=hF1 k hm;omega];exact hfr.old k hk (by simp)
 ·rcases hk with hk|hk|⟨b,base,sz,hb,_,hl⟩
  ·rcases iv.gout k hk with q|q
   ·rcases hG1 k q with q|q
    ·exact .inl q
    ·exact .inr (.inl q)
   ·exact .inr (.inl (hlate k q))
  ·rcases ih.gout k hk with q|q
   ·rcases hG1 k q with q|q
    ·exact .inl q
    ·exact .inr (.inl q)
   ·exact .inr (.inl (hlate k q))
  ·exact .inr (.inl (hlate k (ih.locs b k base sz hb hl).2.2))
 ·rcases hk with hk|hk|⟨b,base,sz,hb,_,hl⟩
  ·exact iv.good k hk
  ·exact ih.good k hk
  ·exact (ih.locs b k base sz hb hl).1
 ·obtain ⟨c,hc3,hca,hcl,_⟩:=hlocs b blk base sz hl;obtain ⟨q1,q2,q3⟩:=ih.locs c blk base sz hca hcl;refine ⟨q1,fun hg=>?_,.inl (hlate blk q3)⟩;rcases hg with hg|hg|⟨b',base',sz',hb',h3',hl'⟩
  ·exact (v4 blk (hh.loc c blk base sz hca hcl)).2.1 hg
  ·exact q2 hg
  ·have:=ih.apart c b' blk base sz base' sz' hca hb' hcl hl';omega
 ·obtain ⟨c,_,hca,hcl,hcc⟩:=hlocs b blk base sz hl;obtain ⟨c',_,hca',hcl',hcc'⟩:=hlocs b' blk base' sz' hl';have:=ih.apart c c' blk base sz base' sz' hca hca' hcl hcl';omega
 ·match b,hb with
  | 0,_ =>
   have hob:=hh.mem 0 a0;simp only [hiM,ObR,zbT] at hob;obtain ⟨_,blk,t,vs,q1,q2,q3,y,rfl,q4⟩:=hob;rw [l0] at q1;simp only [List.length_cons,List.length_nil,Nat.zero_add,oJ,pJ,and_true,true_and] at q1;subst q1;have e1:zb [(0,AO.box [.rd 1 xs]),(1,.box [.rd 1 (zg x.2)]),(2,.box [B x.1])] 0=.box [.rd 1 xs]:=rfl;rw [e1];simp only [ObR,zbT];refine ⟨rfl,k1,t,[y],rfl,q2,q3,y,rfl,?_⟩;simp only [Rep] at q4 ⊢;exact q4.mono hgh fun _ _=>rfl
  | 1,_ =>
   have hob:=hh.mem 2 a2;simp only [hiM,ObR,zbT] at hob;obtain ⟨_,blk,t,vs,q1,q2,q3,y,rfl,q4⟩:=hob;rw [l2] at q1;simp only [List.length_cons,List.length_nil,Nat.zero_add,oJ,pJ,and_true,true_and] at q1;subst q1;have e1:zb [(0,AO.box [.rd 1 xs]),(1,.box [.rd 1 (zg x.2)]),(2,.box [B x.1])] 1=.box [.rd 1 (zg x.2)]:=rfl;rw [e1];simp only [ObR,zbT];refine ⟨rfl,k3,t,[y],rfl,q2,q3,y,rfl,?_⟩;simp only [Rep] at q4;obtain ⟨_,_,ka,sz,p,c,r1,rfl,r3,r4⟩:=q4;simp only [Rep,zd];refine ⟨some p,c,by simp [hn],by simpa [hn] using r3,by simp,?_⟩;by_cases e:zg x.2=[]
   ·exact .inl e
   have hpos:xs.length≠0:=fun h=>e (by have:x.2=[]:=List.length_eq_zero_iff.1 (hn.trans h);rw [this];rfl);rcases r4 with r4|rfl
   ·exact absurd r4 hpos
   refine .inr ⟨ka,o,rfl,.inr (.inr ⟨3,0,sz,a3,by decide,r1⟩),CRows.of_get fun i e he=>?_⟩;have hi:i<x.2.length:=by have:=(List.getElem?_eq_some_iff.1 he).1;simpa using this
   rw [zdj hi] at he;simp only [oJ] at he;subst he;obtain ⟨v,u1,u2⟩:=hrow i (by omega);obtain ⟨blk,sz',vs,u3,u4,u5,u6⟩:=zc7 (hh.mem 3 a3);rw [zcw] at u4;subst u4;rw [r1] at u3;simp only [oJ,pJ,true_and] at u3;obtain ⟨rfl,rfl⟩:=u3;refine ⟨rfl,?_⟩;simp only [CCs,and_true];exact ⟨v,by rw [Nat.mul_one];exact u6 (o+i) v u1,u5 v (List.mem_of_getElem? u1),u2⟩
  | 2,_ =>have hob:=hh.mem 1 a1;simp only [hiM,ObR,zbT] at hob;obtain ⟨_,blk,t,vs,q1,q2,q3,y,rfl,q4⟩:=hob;rw [l1] at q1;simp only [List.length_cons,List.length_nil,Nat.zero_add,oJ,pJ,and_true,true_and] at q1;subst q1;have e1:zb [(0,AO.box [.rd 1 xs]),(1,.box [.rd 1 (zg x.2)]),(2,.box [B x.1])] 2=.box [B x.1]:=rfl;rw [e1];simp only [ObR,zbT];refine ⟨rfl,k2,t,[y],rfl,q2,q3,y,rfl,?_⟩;simp only [B,Rep,zd] at q4 ⊢;exact q4
 ·simp only [zn];split
  ·rename_i e;subst e;rw [h3];simp only [Rep];exact ⟨(by decide:0<3),rfl,k1,1,rfl,rfl⟩
  ·split
   ·rename_i e;subst e;rw [h5];simp only [Rep];exact ⟨(by decide:1<3),rfl,k3,1,rfl,rfl⟩
   ·split
    ·rename_i e;subst e;rw [h6];simp only [Rep];exact ⟨(by decide:2<3),rfl,k2,1,rfl,rfl⟩
    ·simp [Rep,zd]
 ·simp only [zb] at hb;show b<3;split at hb
  ·omega
  ·split at hb
   ·omega
   ·split at hb
    ·omega
    ·exact absurd rfl hb
noncomputable section
def zg7 (ts:List Tb) (x:Bool×List (List Dp)):Nat->Bool×List (List Dp)
 | 0=>x
 | n+1=>ivF n (zg7 ts x n) (nmT (zq (tbG ts n)))
def zo9 (ts:List Tb) (n:Nat):Bool×List (List Dp):=zg7 (ts.take 8) (true,List.replicate n []) (ts.take 8).length
def zsd (ts:List Tb) (ms:List (List Dp)):Bool:=(zo9 ts ms.length).1&&decide ((zo9 ts ms.length).2=ms)
theorem zep {ts:List Tb} {x:Bool×List (List Dp)}:∀ {n:Nat},(zg7 ts x n).2.length=x.2.length
 | 0=>rfl
 | n+1=>by simp only [zg7,znY,zep (n:=n)]
theorem zhR {ts:List Tb} {x:Bool×List (List Dp)} (i:Nat):∀ {n:Nat},((zg7 ts x n).2.getD i []).length<=(x.2.getD i []).length+4096*n
 | 0=>by simp [zg7]
 | n+1=>by have ih:=zhR (ts:=ts) (x:=x) i (n:=n);have h1:=zke (s:=(n:Int)) i (l:=nmT (zq (tbG ts n))) (x:=zg7 ts x n);have h2:=@zdZ (zq (tbG ts n));have h3:=@zhP (tbG ts n);simp only [zg7];omega
abbrev zyY:={x:List Tb×List (List Dp) // (∀ t∈x.1,zf t)∧x.1.length<=1000000∧zgL x.2∧0<x.2.length}
def zta:List AV->Option AV:=spF (ι:=zyY) (fun x=>[.rd 3 (zc x.1.1),.rd 1 (zg x.1.2)]) fun x=>rtO [B (zsd x.1.1 x.1.2)]
set_option maxHeartbeats 16000000 in
theorem s25 (X:AX) (hX:XOK prog X) (hw:X.W wT) (hli:∀ t:Tb,zf t->∀ M n,X.call 44 [TbV t] M n=some (.sl n 1 2 0 (zq t).length,[(n,.vec 1 2 false (za9 (zq t)))]))
  (hde:∀ w:Nat,w<2^64->∀ M k,X.call 56 [U w] M k=some (.tup [EnV (zj w).1,I (zj w).2],[])) (hef:X.call 86=caP zwf):PSd prog 25 zta:=by
 unfold zta;refine psS hX mixed func25 rfl fun ⟨⟨ts,ms⟩,hts,hl,hms,hm0⟩ w0 G=>⟨by show 2<=33;decide,rfl,?_⟩
 show AW ⟨prog,X,33,w0,.pure G⟩ _ _ _;have hc:=okc hX 33 w0 G;simp only at hts hl hms hm0 ⊢;obtain ⟨T,hT⟩:∃ T,T=ts.take 8:=⟨_,rfl⟩
 have hT8:T.length<=8:=by rw [hT];simp;omega
 have hTt:∀ t∈T,zf t:=fun t ht=>hts t (by rw [hT] at ht;exact List.mem_of_mem_take ht);have hT1:List.take (min (ts.length:Int) 8).toNat (zc ts)=zc T:=by
  rw [hT];unfold zc;rw [List.map_take];rcases Nat.le_total ts.length 8 with h|h
  ·rw [show (min (ts.length:Int) 8).toNat=ts.length by omega,tkL (by simp),tkL (by simp;omega)]
  ·rw [show (min (ts.length:Int) 8).toNat=8 by omega]
 have hT2:min (min (ts.length:Int) 8).toNat ts.length=T.length:=by rw [hT];simp;omega
 have hT3:((min (min (ts.length:Int) 8).toNat ts.length:Nat):Int)=T.length:=by rw [hT2]
 have eT:zsd ts ms=((zg7 T (true,List.replicate ms.length []) T.length).1&&decide ((zg7 T (true,List.replicate ms.length []) T.length).2=ms)):=by rw [hT];rfl
 rw [eT];clear eT hT;have hml:=hms.1;have zS:=jj hT1<|jj hT2<|jj hT3<|hml;repeat' (first|(refine aSk fun K hK=>?_)|(refine zi ?_)|(refine eC (fun h=>?_) (fun h=>?_)<;>(try simp at h))|(refine hK _ ?_;clear hK)|(clear hK;refine hK _ ?_;clear hK))
 all_goals clear zS
 intro a w hs;obtain ⟨E,h1,h2,h3⟩:=hs;obtain ⟨k1,k2,k3,F,hF1,hF2,e3,e6,e5,hj⟩:=zxx h1 (s3:=3) (s5:=5) (s6:=6) (a0:=0) (a1:=80) (a2:=112) (v:=64) (xs:=zg ms) (f:=false) (by simpa using hm0) rfl rfl rfl rfl (by rw [zfY];rfl) rfl (by rw [zfY];rfl) (by decide) (by decide) (by decide) (by decide) (by decide) (by decide);have iv:=h1.inv;rw [zfY] at hj;have g16:=h1.slots 16;have g17:=h1.slots 17;have g18:=h1.slots 18;simp only [zn,reduceCtorEq,if_false,if_true,Nat.reduceEqDiff,Rep] at g16 g17 g18;obtain ⟨x0,hx0⟩:∃ x0,x0=((true,List.replicate ms.length []):Bool×List (List Dp)):=⟨_,rfl⟩
 have hx0r:∀ i,(x0.2.getD i []).length=0:=fun i=>by rw [hx0];simp only [zpQ,List.length_nil]
 rw [<- hx0] at hj ⊢
 let c:Cx:=⟨prog,X,33,w,⟨F,Env.start E.G,0⟩⟩
 let J:Bool×List (List Dp)->List Nat->World->Prop:=fun x F' w'=>zqp w F E.G k1 k2 k3 (zg ms) x F' w'
 have hJ:zjH w F J:=fun x F' u u' q1 q2 q3 q4 q5=>q1.keep q2 q4 q5;have hc0:c.OK:=⟨hX,mixed⟩
 have hsx:zd7 33 w ⟨F,Env.start E.G,0⟩ a w ⟨[(18,I 0),(17,I T.length),(16,.rd 3 (zc T)),(3,.v (pK k1)),(5,.v (pK k3)),(6,.v (pK k2))],[],0⟩ F:=by
  refine zd7.fresh h1.defers h1.size iv.good hF1 fun p hp=>?_;simp only [List.mem_cons,List.not_mem_nil,or_false] at hp;rcases hp with rfl|rfl|rfl|rfl|rfl|rfl
  ·exact g18
  ·exact g17
  ·exact g16
  ·simp only [zd];exact e3
  ·simp only [zd];exact e5
  ·simp only [zd];exact e6
 refine wp_mono ((?_:AWX c J _ ⟨[(18,I 0),(17,I T.length),(16,.rd 3 (zc T)),(3,.v (pK k1)),(5,.v (pK k3)),(6,.v (pK k2))],[],0⟩ x0 fun e st' x'=>e=.exit 0∧x'=zg7 T x0 T.length∧zn st'.s 3=.v (pK k1)∧zn st'.s 5=.v (pK k3)∧zn st'.s 6=.v (pK k2)) a w F hsx hj) ?_
 ·clear hsx hj h3 h2 h1 iv g16 g17 g18 e3 e5 e6;refine zh9 (ι:={i:Nat // i<=T.length}) (fun i=>⟨[(18,I i.1),(17,I T.length),(16,.rd 3 (zc T)),(3,.v (pK k1)),(5,.v (pK k3)),(6,.v (pK k2))],[],0⟩) (fun i=>zg7 T x0 i.1) (fun i=>T.length - i.1) ⟨0,by omega⟩ (Le.refl _ _) rfl ?_;rintro ⟨i,hi⟩;simp only;rcases dE (i<T.length) with hil|hil
  ·have hilI:(i:Int)<(T.length:Int):=by omega
   have hg:=zcf hil;have hgE:=zcS hil;have ht:=hTt _ (zhs hil);obtain ⟨⟨r,ns,ds⟩,ht0⟩:∃ t,t=tbG T i:=⟨_,rfl⟩
   rw [<- ht0] at hg hgE ht;simp only at hg hgE;refine zan hJ fun w1 bl1 hn1 K hK=>?_;have hc:Cx.OK ⟨prog,X,33,w1,bl1⟩:=⟨hX,mixed⟩
   show AW ⟨prog,X,33,w1,bl1⟩ _ _ _;have zS:=hilI;repeat' (first|(refine aSk fun K hK=>?_)|(refine zi ?_)|(refine eC (fun h=>?_) (fun h=>?_)<;>(try simp at h))|(refine hK _ ?_;clear hK)|(clear hK;refine hK _ ?_;clear hK))
   all_goals clear zS
   refine zb9 (zaX (b:=true) rfl (fun _=>zfv ?_) fun h=>by cases h);show AWX c J _ _ _ _;refine zb9 (zcn ?_);refine zan hJ fun w1 bl1 hn1 K hK=>?_;have hc:Cx.OK ⟨prog,X,33,w1,bl1⟩:=⟨hX,mixed⟩
   show AW ⟨prog,X,33,w1,bl1⟩ _ _ _;have zS:=jj hilI<|jj hg<|hgE;repeat' (first|(refine aSk fun K hK=>?_)|(refine zi ?_)|(refine eC (fun h=>?_) (fun h=>?_)<;>(try simp at h))|(refine hK _ ?_;clear hK)|(clear hK;refine hK _ ?_;clear hK))
   all_goals clear zS
   refine zoK (fun x'=>x'=zg7 T x0 (i+1)) (fun s1 m1=>zb m1 64=.box [I i]∧zn s1 18=I i∧zn s1 17=I T.length∧zn s1 16=.rd 3 (zc T)∧zn s1 3=.v (pK k1)∧zn s1 5=.v (pK k3)∧zn s1 6=.v (pK k2))
    [(18,I i),(17,I T.length),(16,.rd 3 (zc T)),(3,.v (pK k1)),(5,.v (pK k3)),(6,.v (pK k2))] 0 [] [.agg [I r,.rd 9 (nrw ns),.rd 2 (prw ds)],.fn 85 [.v (pK k1),.v (pK k2),.v (pK k3),.bp 64 0]] 2 hc0 hJ rfl rfl rfl rfl (by show 25<33;decide) (boK _ func84 (by kernel_rfl)) ?_ ?_ ?_
   ·rintro E2 b2 w2 F2 vs s1 m1 ⟨hm,q18,q17,q16,q3,q5,q6⟩ hj h1 hU hr;simp only [List.append_nil] at hr;match vs,hr with
    | [tv,fv],hr =>
    simp only [RepL,and_true] at hr;obtain ⟨htv,hfv⟩:=hr;simp only [Rep] at hfv;obtain ⟨cs,rfl,hcs⟩:=hfv;match cs,hcs with
    | [c1,c2,c3,c4],hcs =>
    simp only [RepL,Rep,zd,and_true] at hcs;obtain ⟨rfl,rfl,rfl,hal,_,k4,sz,hl4,rfl⟩:=hcs;have ho:=h1.mem 64 hal;rw [hm] at ho;simp only [ObR,zbT] at ho;obtain ⟨_,blk,tt,vs',p1,p2,p3,y,rfl,p4⟩:=ho;rw [hl4] at p1;simp only [List.length_cons,List.length_nil,Nat.zero_add,oJ,pJ,true_and] at p1;obtain ⟨rfl,rfl⟩:=p1;simp only [I,Rep,zd] at p4;subst p4;have hlc:=h1.inv.locs 64 k4 0 1 hal hl4;have hkF:k4 ∉ F2:=fun hk=>(hU k4 hk).2.2 64 0 1 hal hl4;have hI:=hj.attach p2 hkF hlc.2.2 (p3 _ (by simp));have hF3:∀ k∈F2++[k4],k<w2.heap.size∧¬ E2.G k:=fun k hk=>by
     rcases List.mem_append.1 hk with q|q
     ·exact ⟨(hU k q).1,(hU k q).2.1⟩
     ·simp only [List.mem_singleton] at q;rw [q];exact ⟨hlc.1,hlc.2.1⟩
    refine ⟨F2++[k4],hI.low,h1.close (fun _ h=>h.elim) hF3 fun p hp=>?_,?_⟩
    ·have u18:=h1.slots 18;have u17:=h1.slots 17;have u16:=h1.slots 16;have u3:=h1.slots 3;have u5:=h1.slots 5;have u6:=h1.slots 6;rw [q18] at u18;rw [q17] at u17;rw [q16] at u16;rw [q3] at u3;rw [q5] at u5;rw [q6] at u6;simp only [I,Rep] at u18 u17 u16 u3 u5 u6;simp only [List.mem_cons,List.not_mem_nil,or_false] at hp;rcases hp with rfl|rfl|rfl|rfl|rfl|rfl
     ·exact u18
     ·exact u17
     ·exact u16
     ·exact u3
     ·exact u5
     ·exact u6
    ·refine Calls.mono (zuz X hX hw hli hde (by simpa using hms.1) hI (fun j=>?_) ht (tv:=tv) (Gw:=E2.G) ?_ h1.inv.good hF3) fun e w' ⟨r',z1,z2,z3⟩=>⟨r',_,z1,?_,z2.detach,z3⟩
     ·have z1:=zhR (ts:=T) (x:=x0) j (n:=i);rw [hx0r] at z1;omega
     ·simp only [Rep] at htv;obtain ⟨us,rfl,o1,o2⟩:=htv;simp only [TbV,zd];exact ⟨us,rfl,o1,RepL.to_c rfl o2⟩
     ·show _=ivF i (zg7 T x0 i) (nmT (zq (tbG T i)));rw [<- ht0]
   ·intro K hK;show zfy (za prog) X _ 33 _ _ 0 _ _ K;simp [List.zipIdx,-zb,gMh,gMm,gMn];exact hK _ _ rfl rfl ⟨rfl,rfl,rfl,rfl,rfl,rfl,rfl⟩
   ·intro x' hx';subst hx';show AWX c J _ _ _ _;refine zdv hJ fun w1 bl1 hn1 K hK=>?_;have hc:Cx.OK ⟨prog,X,33,w1,bl1⟩:=⟨hX,mixed⟩
    show AW ⟨prog,X,33,w1,bl1⟩ _ _ _;have zS:=hilI;repeat' (first|(refine aSk fun K hK=>?_)|(refine zi ?_)|(refine eC (fun h=>?_) (fun h=>?_)<;>(try simp at h))|(refine hK _ ?_;clear hK)|clear hK)
    all_goals clear zS
    refine ⟨⟨i+1,by omega⟩,?_,rfl,by show T.length - (i+1)<T.length - i;omega⟩;show Le 0 _ _;exact dle
  ·obtain rfl:i=T.length:=by omega
   refine zan hJ fun w1 bl1 hn1 K hK=>?_;have hc:Cx.OK ⟨prog,X,33,w1,bl1⟩:=⟨hX,mixed⟩
   show AW ⟨prog,X,33,w1,bl1⟩ _ _ _;have zS:=hT8;repeat' (first|(refine aSk fun K hK=>?_)|(refine zi ?_)|(refine eC (fun h=>?_) (fun h=>?_)<;>(try simp at h))|(refine hK _ ?_;clear hK)|clear hK)
   all_goals clear zS
   refine zb9 (zaX (b:=false) rfl (fun h=>by cases h) fun _=>zia ?_);exact ⟨rfl,rfl,rfl,rfl,rfl⟩
 ·rintro e a' w' ⟨st',x',F',⟨rfl,hx',q3,q5,q6⟩,hsx',hj'⟩;have hsx2:=hsx';obtain ⟨Ev,u1,_⟩:=hsx2;have u3:=u1.slots 3;have u5:=u1.slots 5;have u6:=u1.slots 6;rw [q3] at u3;rw [q5] at u5;rw [q6] at u6;simp only [Rep,zd] at u3 u5 u6;have hfin:=zvW (G0:=G) (G1:=E.G) hsx' hj' iv.frame (fun k hk=>by simpa using hF2 k hk) (fun k hk=>by simpa using iv.gout k hk) iv.gin.G u3 u5 u6;refine ⟨_,?_,hfin⟩;simp only [bkQ,if_true,ze];refine hK _ ?_;have hlen:x'.2.length=ms.length:=by rw [hx',zep,hx0];simp
  have hrow:∀ j,(x'.2.getD j []).length<=32768:=fun j=>by have z1:=zhR (ts:=T) (x:=x0) j (n:=T.length);rw [hx0r] at z1;rw [hx'];omega
  have hok:zgL x'.2:=⟨by rw [hlen];exact hms.1,fun r hr=>by obtain ⟨j,hj1,rfl⟩:=List.getElem_of_mem hr;have:=hrow j;rw [List.getD_eq_getElem?_getD,List.getElem?_eq_getElem hj1] at this;simp only [Option.getD_some] at this;omega⟩
  have ca:∀ M n,X.call 86 [.rd 1 (zg x'.2),.rd 1 (zg ms),.fn 87 []] M n=some (B (decide (x'.2=ms)),[]):=fun M n=>by rw [hef];exact zst hok hms M n
  rw [<- hx0,<- hx'];clear hx' hlen hrow hok hfin hsx' hj' u3 u5 u6 hK hef;obtain ⟨ins,rows⟩:=x';simp only at ca ⊢;cases ins with
  | true =>
   have zS:=ca;repeat' (first|(refine aSk fun K hK=>?_)|(refine zi ?_)|(refine eC (fun h=>?_) (fun h=>?_)<;>(try simp at h))|(refine hK _ ?_;clear hK)|clear hK)
   all_goals clear zS
   rw [Bool.true_and];refine ⟨by simp,?_⟩;simp [lvI,f25];try exact dt
  | false =>
   have zS:=ca;repeat' (first|(refine aSk fun K hK=>?_)|(refine zi ?_)|(refine eC (fun h=>?_) (fun h=>?_)<;>(try simp at h))|(refine hK _ ?_;clear hK)|clear hK)
   all_goals clear zS
   rw [Bool.false_and];refine ⟨by simp,?_⟩;simp [lvI,f25];try exact dt
end
noncomputable section
def MpV (m:Dp):AV:=.agg [I m.1,I m.2]
theorem zaF {a b:Dp}:MpV a=MpV b↔a=b:=by obtain ⟨a1,a2⟩:=a;obtain ⟨b1,b2⟩:=b;simp [MpV,I]
def zgx (m:Dp):Prop:=(0<=m.1∧m.1<8)∧0<=m.2∧m.2<512
instance (m:Dp):Decidable (zgx m):=by unfold zgx;infer_instance
def ltM (a b:Dp):Prop:=a.1<b.1∨a.1=b.1∧a.2<b.2
instance (a b:Dp):Decidable (ltM a b):=by unfold ltM;infer_instance
def zd4 (a b:Int):Int:=if a<b then -1 else if b<a then 1 else 0
def zd3 (a b:Dp):Int:=if zd4 a.1 b.1=0 then zd4 a.2 b.2 else zd4 a.1 b.1
theorem zBo (X:AX) (hX:XOK prog X):PSd prog 222 (spF (ι:=Int) (fun x=>[I x]) fun x=>rtO [B (decide (0<=x∧x<8))]):=by
 refine psS hX mixed func222 rfl fun a w0 G=>⟨by show 1<=9;decide,rfl,?_⟩
 show AW ⟨prog,X,9,w0,.pure G⟩ _ _ _;have hc:=okc hX 9 w0 G;rcases dE (0<=a) with h1|h1
 ·rcases dE (a<8) with h2|h2
  ·have zS:=jj h1<|h2;refine zl ?_;repeat (intro K hK)
   clear zS;refine ⟨by simp,?_⟩;simp [lvI,f222,h1,h2];try exact dt
  ·have zS:=jj h1<|h2;refine zl ?_;repeat (intro K hK)
   clear zS;refine ⟨by simp,?_⟩;simp [lvI,f222,h1,h2];try exact dt
 ·have zS:=h1;refine zl ?_;repeat (intro K hK)
  clear zS;refine ⟨by simp,?_⟩;simp [lvI,f222,h1];try exact dt
theorem zBk (X:AX) (hX:XOK prog X):PSd prog 244 (spF (ι:=Int) (fun x=>[I x]) fun _=>rtO [B false]):=by
 refine psS hX mixed func244 rfl fun a w0 G=>⟨by show 1<=6;decide,rfl,?_⟩
 show AW ⟨prog,X,6,w0,.pure G⟩ _ _ _;have hc:=okc hX 6 w0 G;refine zfe ?_;repeat (intro K hK)
 refine ⟨by simp,?_⟩;simp [lvI,f244];try exact dt
theorem zBm (X:AX) (hX:XOK prog X) (h46:∀ x M n,X.call 244 [I x] M n=some (B false,[])):PSd prog 224 (spF (ι:=Int×Int) (fun x=>[I x.1,I x.2]) fun x=>rtO [I (zd4 x.1 x.2)]):=by
 refine psS hX mixed func224 rfl fun ⟨a,b⟩ w0 G=>⟨by show 2<=20;decide,rfl,?_⟩
 show AW ⟨prog,X,20,w0,.pure G⟩ _ _ _;have hc:=okc hX 20 w0 G;unfold zd4;simp only;rcases dE (a<b) with h1|h1
 ·have zS:=jj h46<|h1;refine zl ?_;repeat (intro K hK)
  clear zS;refine ⟨by simp,?_⟩;simp [lvI,f224,h1];try exact dt
 ·rcases dE (b<a) with h2|h2
  ·have zS:=jj h46<|jj h1<|h2;refine zl ?_;repeat (intro K hK)
   clear zS;refine ⟨by simp,?_⟩;simp [lvI,f224,h1,h2];try exact dt
  ·have zS:=jj h46<|jj h1<|h2;refine zl ?_;repeat (intro K hK)
   clear zS;refine ⟨by simp,?_⟩;simp [lvI,f224,h1,h2];try exact dt
theorem zsb (a b:Int):irw [a,b]=[[I a],[I b]]:=rfl
theorem zBn (X:AX) (hX:XOK prog X):PSd prog 223 (spF (ι:=Int×Int) (fun x=>[.rd 1 (irw [x.1,x.2])]) fun x=>rtO [I (if x.1=0 then x.2 else x.1)]):=by
 refine psS hX mixed func223 rfl fun ⟨a,b⟩ w0 G=>⟨by show 1<=18;decide,rfl,?_⟩
 show AW ⟨prog,X,18,w0,.pure G⟩ _ _ _;have hc:=okc hX 18 w0 G;simp only [zsb];repeat' (first|(refine aSk fun K hK=>?_)|(refine eMo ?_)|(refine eC (fun h=>?_) (fun h=>?_)<;>(try simp at h))|(refine hK _ ?_;clear hK)|(clear hK;refine hK _ ?_;clear hK))
 refine aLK (s0:=?lps1) (m0:=?lpm1) (ι:={i:Nat // i<=2∧(1<=i->a=0)∧(2<=i->b=0)}) [3,6,7] (fun i=>[(8,I i.1)]) (fun _=>[]) (fun i=>2 - i.1) ⟨0,by omega⟩ ?lhs1 ?lhm1 ?_ ?_
 case lhs1=>first|(simp [kpS];done)|(simp [kpS];rfl)
 case lhm1=>first|rfl|(simp;done)|(simp;rfl)
 ·exact dle
 ·rintro ⟨i,hi,ha,hb⟩;simp only;have h3:i=0∨i=1∨i=2:=by omega
  rcases h3 with rfl|rfl|rfl
  ·rcases dE (a=0) with h|h
   ·rw [h];repeat' (first|(refine aSk fun K hK=>?_)|(refine eMo ?_)|(refine eC (fun h=>?_) (fun h=>?_)<;>(try simp at h))|(refine hK _ ?_;clear hK)|clear hK)
    refine ⟨1,?_,by omega,by omega⟩;exact dle
   ·have zS:=h;repeat' (first|(refine aSk fun K hK=>?_)|(refine zi ?_)|(refine eC (fun h=>?_) (fun h=>?_)<;>(try simp at h))|(refine hK _ ?_;clear hK)|clear hK)
    all_goals clear zS
    refine ⟨by simp,?_⟩;simp [lvI,f223,h];try exact dt
  ·obtain rfl:=ha (by omega);rcases dE (b=0) with h|h
   ·rw [h];repeat' (first|(refine aSk fun K hK=>?_)|(refine eMo ?_)|(refine eC (fun h=>?_) (fun h=>?_)<;>(try simp at h))|(refine hK _ ?_;clear hK)|clear hK)
    refine ⟨2,?_,by omega,by omega⟩;exact dle
   ·have zS:=h;repeat' (first|(refine aSk fun K hK=>?_)|(refine zi ?_)|(refine eC (fun h=>?_) (fun h=>?_)<;>(try simp at h))|(refine hK _ ?_;clear hK)|clear hK)
    all_goals clear zS
    refine ⟨by simp,?_⟩;simp [lvI,f223,h];try exact dt
  ·obtain rfl:=ha (by omega);obtain rfl:=hb (by omega);repeat' (first|(refine aSk fun K hK=>?_)|(refine eMo ?_)|(refine eC (fun h=>?_) (fun h=>?_)<;>(try simp at h))|(refine hK _ ?_;clear hK)|clear hK)
   refine ⟨by simp,?_⟩;simp [lvI,f223];try exact dt
theorem zBy (X:AX) (hX:XOK prog X) (h34:∀ x M n,X.call 222 [I x] M n=some (B (decide (0<=x∧x<8)),[])):PSd prog 200 (spF (ι:=Dp) (fun x=>[MpV x]) fun x=>rtO [B (decide (zgx x))]):=by
 refine psS hX mixed func200 rfl fun ⟨a,b⟩ w0 G=>⟨by show 1<=16;decide,rfl,?_⟩
 show AW ⟨prog,X,16,w0,.pure G⟩ _ _ _;have hc:=okc hX 16 w0 G;unfold MpV zgx;simp only;rcases dE (0<=a∧a<8) with h1|h1
 ·rcases dE (0<=b) with h3|h3
  ·rcases dE (b<512) with h4|h4
   ·have zS:=jj h34<|jj h1<|jj h3<|h4;refine zl ?_;repeat (intro K hK)
    clear zS;refine ⟨by simp,?_⟩;simp [lvI,f200,h1,h3,h4];try exact dt
   ·have zS:=jj h34<|jj h1<|jj h3<|h4;refine zl ?_;repeat (intro K hK)
    clear zS;refine ⟨by simp,?_⟩;simp [lvI,f200,h1,h3,h4];try exact dt
  ·have zS:=jj h34<|jj h1<|h3;refine zl ?_;repeat (intro K hK)
   clear zS;refine ⟨by simp,?_⟩;simp [lvI,f200,h1,h3];try exact dt
 ·have zS:=jj h34<|h1;refine zl ?_;repeat (intro K hK)
  clear zS;refine ⟨by simp,?_⟩;simp [lvI,f200,h1];try exact dt
theorem zBp (X:AX) (hX:XOK prog X) (h26:∀ a b M n,X.call 200 [.agg [I a,I b]] M n=some (B (decide (zgx (a,b))),[])):PSd prog 221 (spF (ι:=Dp) (fun x=>[MpV x]) fun x=>rtO [B (!decide (zgx x))]):=by
 refine psS hX mixed func221 rfl fun ⟨a,b⟩ w0 G=>⟨by show 1<=6;decide,rfl,?_⟩
 show AW ⟨prog,X,6,w0,.pure G⟩ _ _ _;have hc:=okc hX 6 w0 G;unfold MpV;simp only;have zS:=h26;refine zl ?_;repeat (intro K hK)
 clear zS;refine ⟨by simp,?_⟩;simp [lvI,f221];try exact dt
def zyZ:List AV->Option AV:=spF (ι:=Int×Int) (fun x=>[.rd 1 (irw [x.1,x.2])]) fun x=>rtO [I (if x.1=0 then x.2 else x.1)]
theorem ztc (a b:Int):zyZ [.rd 1 [[I a],[I b]]]=some (I (if a=0 then b else a)) :=sFe (A:=fun x:Int×Int=>[.rd 1 (irw [x.1,x.2])]) (R:=fun x=>rtO [I (if x.1=0 then x.2 else x.1)]) (a,b) (by rintro ⟨c,d⟩ e;simp [irI] at e;obtain ⟨rfl,rfl⟩:=e;rfl)
theorem zBw (X:AX) (hX:XOK prog X) (hw:X.W wT) (h40:∀ a b M n,X.call 224 [I a,I b] M n=some (I (zd4 a b),[])) (h39:X.call 223=caP zyZ) :
  PSd prog 202 (spF (ι:=Dp×Dp) (fun x=>[MpV x.1,MpV x.2]) fun x=>rtO [I (zd3 x.1 x.2)]):=by
 refine psS hX mixed func202 rfl fun ⟨⟨a,b⟩,c,d⟩ w0 G=>⟨by show 2<=17;decide,rfl,?_⟩
 show AW ⟨prog,X,17,w0,.pure G⟩ _ _ _;have hc:=okc hX 17 w0 G;unfold MpV zd3;simp only;have hF:=ztc (zd4 a c) (zd4 b d);have zS:=jj h40<|jj h39<|hF;refine zl ?_;repeat (intro K hK)
 clear zS;refine ⟨by simp,?_⟩;simp [lvI,f202];try exact dt
def zju (l:List Dp):Prop:=∀ i,i<l.length->zgx (gp l i)
def zdH (l:List Dp):Prop:=∀ i,i+1<l.length->ltM (gp l i) (gp l (i+1))
open Classical in
def zgw (l:List Dp):Int:=if zju l then (if zdH l then 0 else 10) else 2
theorem zvt {l:List Dp} (h:¬ zju l):zgw l=2:=by unfold zgw;rw [if_neg h]
theorem zvu {l:List Dp} (h:zju l) (h2:¬ zdH l):zgw l=10:=by unfold zgw;rw [if_pos h,if_neg h2]
theorem zq8 {l:List Dp} (h:zju l) (h2:zdH l):zgw l=0:=by unfold zgw;rw [if_pos h,if_pos h2]
theorem zjt {l:List Dp}:zgw l=0↔zju l∧zdH l:=by
 unfold zgw;by_cases h:zju l
 ·by_cases h2:zdH l
  ·simp [h,h2]
  ·simp [h,h2]
 ·simp [h]
def ztg:List AV->Option AV:=spF (ι:={l:List Dp // l.length<=1000000}) (fun x=>[.rd 2 (prw x.1)]) fun x=>rtO [I (zgw x.1)]
theorem zjn {a b:Int}:zd4 a b<0↔a<b:=by
 unfold zd4;split
 ·simp [*]
 ·split<;>simp [*]
theorem zcm {a b:Int}:zd4 a b=0↔a=b:=by
 unfold zd4;split
 ·constructor
  ·intro h;simp at h
  ·intro h;omega
 ·split
  ·constructor
   ·intro h;simp at h
   ·intro h;omega
  ·constructor
   ·intro _;omega
   ·intro _;rfl
theorem zjm {a b:Dp}:zd3 a b<0↔ltM a b:=by
 unfold zd3 ltM;split
 ·rename_i h;rw [zcm] at h;rw [zjn];omega
 ·rename_i h;rw [zcm] at h;rw [zjn];omega
theorem zmv {a b:Dp}:zd3 a b=0↔a=b:=by
 obtain ⟨a1,a2⟩:=a;obtain ⟨b1,b2⟩:=b;unfold zd3;simp only;split
 ·rename_i h;rw [zcm] at h ⊢;simp [h]
 ·rename_i h;rw [zcm] at h;rw [zcm];simp [h]
theorem zbM (a:Dp):¬ ltM a a:=by unfold ltM;omega
theorem za3 {a b c:Dp} (h:ltM a b) (k:ltM b c):ltM a c:=by unfold ltM at *;omega
theorem znL (a b:Dp):ltM a b∨a=b∨ltM b a:=by obtain ⟨a1,a2⟩:=a;obtain ⟨b1,b2⟩:=b;unfold ltM;simp only [pJ];omega
theorem zez {l:List Dp} (h:zdH l) {i:Nat}:∀ {j:Nat},i<j->j<l.length->ltM (gp l i) (gp l j)
 | 0,hij,_=>by omega
 | j+1,hij,hj=>by
  rcases Nat.lt_succ_iff_lt_or_eq.1 hij with hh|rfl
  ·exact za3 (zez h hh (by omega)) (h j hj)
  ·exact h i hj
def zpX:Option Int->AV
 | none=>.fn 221 []
 | some s=>.fn 999999 [.rp [I s]]
def zjJ:Option Int->Dp->Bool
 | none,m=>!decide (zgx m)
 | some s,m=>decide (m.1=s)
def zcN (p:Dp->Bool) (l:List Dp):Int:=if l.findIdx p<l.length then (l.findIdx p:Int) else -1
theorem zpS {p:Dp->Bool} {l:List Dp} {i:Nat} (hi:i<l.length) (hp:p (gp l i)=true) (hn:∀ j,j<i->p (gp l j)=false):zcN p l=i:=by
 have:l.findIdx p=i:=by rw [List.findIdx_eq hi];refine ⟨by rw [<- zax hi];exact hp,fun j hj=>?_⟩;have:=hn j hj;rw [zax (by omega)] at this;exact this
 unfold zcN;rw [this,if_pos hi]
theorem zoi {p:Dp->Bool} {l:List Dp} (hn:∀ j,j<l.length->p (gp l j)=false):zcN p l=-1:=by
 have:l.findIdx p=l.length:=by rw [List.findIdx_eq_length];intro x hx;obtain ⟨j,hj,rfl⟩:=List.getElem_of_mem hx;have:=hn j hj;rw [zax hj] at this;exact this
 unfold zcN;rw [this,if_neg (by omega)]
theorem zkm (p:Dp->Bool) (l:List Dp):(zcN p l=-1∧∀ j,j<l.length->p (gp l j)=false)∨∃ i,i<l.length∧zcN p l=(i:Int)∧p (gp l i)=true∧∀ j,j<i->p (gp l j)=false:=by
 by_cases h:l.findIdx p<l.length
 ·right;refine ⟨l.findIdx p,h,by unfold zcN;rw [if_pos h],?_,fun j hj=>?_⟩
  ·rw [zax h];exact List.findIdx_getElem
  ·rw [zax (by omega)];have:=List.not_of_lt_findIdx hj;simpa using this
 ·left;have h2:l.findIdx p=l.length:=Nat.le_antisymm (List.findIdx_le_length) (by omega);refine ⟨by unfold zcN;rw [if_neg h],fun j hj=>?_⟩;rw [zax hj];exact (List.findIdx_eq_length.1 h2) _ (List.getElem_mem hj)
structure zCz (X:AX):Prop where
 h25:∀ a b M n,X.call 221 [.agg [I a,I b]] M n=some (B (!decide (zgx (a,b))),[])
theorem zBl (X:AX) (hX:XOK prog X) (hw:X.W wT) (fx:zCz X) :
  PSd prog 243 (spF (ι:={x:List Dp×Option Int // x.1.length<=1000000∧x.2=none}) (fun x=>[.rd 2 (prw x.1.1),zpX x.1.2]) fun x=>rtO [I (zcN (zjJ x.1.2) x.1.1)]):=by
 refine psS hX mixed func243 rfl fun ⟨⟨l,o⟩,hl,ho⟩ w0 G=>⟨by show 2<=19;decide,rfl,?_⟩
 show AW ⟨prog,X,19,w0,.pure G⟩ _ _ _;have hc:=okc hX 19 w0 G;simp only at hl ho ⊢;subst ho
 ·unfold zpX;repeat' (first|(refine aSk fun K hK=>?_)|(refine eMo ?_)|(refine eC (fun h=>?_) (fun h=>?_)<;>(try simp at h))|(refine hK _ ?_;clear hK)|(clear hK;refine hK _ ?_;clear hK))
  refine aLK (s0:=?lps2) (m0:=?lpm2) (ι:={i:Nat // i<=l.length∧∀ j,j<i->zjJ none (gp l j)=false}) [0,1,7] (fun i=>[(8,I i.1)]) (fun _=>[]) (fun i=>l.length - i.1) ⟨0,by omega,by omega⟩ ?lhs2 ?lhm2 ?_ ?_
  case lhs2=>first|(simp [kpS];done)|(simp [kpS];rfl)
  case lhm2=>first|rfl|(simp;done)|(simp;rfl)
  ·exact dle
  ·rintro ⟨i,hi,hinv⟩;simp only;rcases dE (i<l.length) with hil|hil
   ·have hilI:(i:Int)<(l.length:Int):=by omega
    have hg:=zab hil;have hgE:=zac hil;obtain ⟨⟨x,y⟩,hm⟩:∃ m,m=gp l i:=⟨_,rfl⟩
    rw [<- hm] at hg hgE;simp only at hg hgE;rcases dE (zgx (x,y)) with hv|hv
    ·have zS:=jj hilI<|jj hg<|jj hgE<|jj fx.h25<|hv;repeat' (first|(refine aSk fun K hK=>?_)|(refine zi ?_)|(refine eC (fun h=>?_) (fun h=>?_)<;>(try simp at h))|(refine hK _ ?_;clear hK)|clear hK)
     all_goals clear zS
     refine ⟨i+1,?_,⟨by omega,fun j hj=>?_⟩,by omega⟩
     ·exact dle
     ·rcases Nat.lt_succ_iff_lt_or_eq.1 hj with h|rfl
      ·exact hinv j h
      ·rw [<- hm];simp [zjJ,hv]
    ·have zS:=jj hilI<|jj hg<|jj hgE<|jj fx.h25<|hv;repeat' (first|(refine aSk fun K hK=>?_)|(refine zi ?_)|(refine eC (fun h=>?_) (fun h=>?_)<;>(try simp at h))|(refine hK _ ?_;clear hK)|clear hK)
     all_goals clear zS
     rw [zpS hil (by rw [<- hm];simp [zjJ,hv]) hinv];refine ⟨by simp,?_⟩;simp [lvI,f243];try exact dt
   ·obtain rfl:i=l.length:=by omega
    repeat' (first|(refine aSk fun K hK=>?_)|(refine eMo ?_)|(refine eC (fun h=>?_) (fun h=>?_)<;>(try simp at h))|(refine hK _ ?_;clear hK)|clear hK)
    rw [zoi hinv];refine ⟨by simp,?_⟩;simp [lvI,f243];try exact dt
def zy0:List AV->Option AV:=spF (ι:={x:List Dp×Option Int // x.1.length<=1000000∧x.2=none}) (fun x=>[.rd 2 (prw x.1.1),zpX x.1.2]) fun x=>rtO [I (zcN (zjJ x.1.2) x.1.1)]
theorem zpW {a b:Option Int}:zpX a=zpX b↔a=b:=by cases a<;>cases b<;>simp [zpX,I]
theorem zte (l:List Dp) (o:Option Int) (h:l.length<=1000000) (ho:o=none):zy0 [.rd 2 (prw l),zpX o]=some (I (zcN (zjJ o) l)) :=sFe (ι:={x:List Dp×Option Int // x.1.length<=1000000∧x.2=none}) (A:=fun x=>[.rd 2 (prw x.1.1),zpX x.1.2]) (R:=fun x=>rtO [I (zcN (zjJ x.1.2) x.1.1)]) ⟨(l,o),h,ho⟩ (by rintro ⟨⟨k,c⟩,h⟩ e;simp [zaa,zpW] at e;obtain ⟨rfl,rfl⟩:=e;rfl)
theorem zBq (X:AX) (hX:XOK prog X) (hw:X.W wT) (h38:X.call 243=caP zy0) :
  PSd prog 220 (spF (ι:={x:List Dp // x.length<=1000000}) (fun x=>[.rd 2 (prw x.1),.fn 221 []]) fun x=>rtO [B (decide (0<=zcN (zjJ none) x.1))]):=by
 refine psS hX mixed func220 rfl fun ⟨l,hl⟩ w0 G=>⟨by show 2<=9;decide,rfl,?_⟩
 show AW ⟨prog,X,9,w0,.pure G⟩ _ _ _;have hc:=okc hX 9 w0 G;simp only at hl ⊢;have hF:=zte l none hl rfl;simp only [zpX] at hF;have zS:=jj h38<|hF;refine zl ?_;repeat (intro K hK)
 clear zS;refine ⟨by simp,?_⟩;simp [lvI,f220];try exact dt
def zy2:List AV->Option AV:=spF (ι:={x:List Dp // x.length<=1000000}) (fun x=>[.rd 2 (prw x.1),.fn 221 []]) fun x=>rtO [B (decide (0<=zcN (zjJ none) x.1))]
theorem zth (l:List Dp) (h:l.length<=1000000):zy2 [.rd 2 (prw l),.fn 221 []]=some (B (decide (0<=zcN (zjJ none) l))) :=sFe (ι:={x:List Dp // x.length<=1000000}) (A:=fun x=>[.rd 2 (prw x.1),.fn 221 []]) (R:=fun x=>rtO [B (decide (0<=zcN (zjJ none) x.1))]) ⟨l,h⟩ (by rintro ⟨k,h⟩ e;simp [zaa] at e;subst e;rfl)
theorem zjc {l:List Dp}:0<=zcN (zjJ none) l↔¬ zju l:=by
 rcases zkm (zjJ none) l with ⟨h1,h2⟩|⟨i,hi,h1,h2,_⟩
 ·rw [h1];constructor
  ·intro h;omega
  ·intro h;exact absurd (fun i hi=>by have:=h2 i hi;simpa [zjJ] using this) h
 ·rw [h1];constructor
  ·intro _ h;simp [zjJ] at h2;exact h2 (h i hi)
  ·intro _;omega
theorem zBz (X:AX) (hX:XOK prog X) (hw:X.W wT) (h24:X.call 220=caP zy2)
  (h27:∀ a b c d M n,X.call 202 [.agg [I a,I b],.agg [I c,I d]] M n=some (I (zd3 (a,b) (c,d)),[])) :
  PSd prog 199 (spF (ι:={l:List Dp // l.length<=1000000}) (fun x=>[.rd 2 (prw x.1)]) fun x=>rtO [I (zgw x.1)]):=by
 refine psS hX mixed func199 rfl fun ⟨l,hl⟩ w0 G=>⟨by show 1<=23;decide,rfl,?_⟩
 show AW ⟨prog,X,23,w0,.pure G⟩ _ _ _;have hc:=okc hX 23 w0 G;simp only at hl ⊢;have hF:=zth l hl;rcases dE (0<=zcN (zjJ none) l) with hc0|hc0
 ·simp only [hc0,decide_true] at hF;have zS:=jj h24<|hF;refine zl ?_;repeat (intro K hK)
  clear zS;rw [zvt (zjc.1 hc0)];refine ⟨by simp,?_⟩;simp [lvI,f199];try exact dt
 ·simp only [hc0,decide_false] at hF;have hV:zju l:=Classical.not_not.1 fun h=>hc0 (zjc.2 h);have zS:=jj h24<|hF;repeat' (first|(refine aSk fun K hK=>?_)|(refine zi ?_)|(refine eC (fun h=>?_) (fun h=>?_)<;>(try simp at h))|(refine hK _ ?_;clear hK)|(clear hK;refine hK _ ?_;clear hK))
  all_goals clear zS
  refine aLK (s0:=?lps3) (m0:=?lpm3) (ι:={k:Nat // ∀ j,j<k->j+1<l.length->ltM (gp l j) (gp l (j+1))}) [0] (fun k=>[(3,I ((k.1+1:Nat):Int))]) (fun _=>[]) (fun k=>l.length - k.1) ⟨0,by omega⟩ ?lhs3 ?lhm3 ?_ ?_
  case lhs3=>first|(simp [kpS];done)|(simp [kpS];rfl)
  case lhm3=>first|rfl|(simp;done)|(simp;rfl)
  ·exact dle
  ·rintro ⟨k,hk⟩;simp only;rcases dE (k+1<l.length) with hil|hil
   ·have hilI:(k:Int)+1<(l.length:Int):=by omega
    have hg:=zab hil;have hgE:=zac hil;have hk1:k<l.length:=by omega
    have hk1I:(k:Int)<(l.length:Int):=by omega
    have hg1:=zab hk1;have hg1E:=zac hk1;obtain ⟨⟨x,y⟩,hm⟩:∃ m,m=gp l (k+1):=⟨_,rfl⟩
    obtain ⟨⟨u,v⟩,hm1⟩:∃ m,m=gp l k:=⟨_,rfl⟩
    rw [<- hm] at hg hgE;rw [<- hm1] at hg1 hg1E;simp only at hg hgE hg1 hg1E;have e1:((k:Int)+1).toNat=k+1:=by omega
    have hcm:=zjm (a:=(u,v)) (b:=(x,y));obtain ⟨q,hq⟩:∃ q,q=zd3 (u,v) (x,y):=⟨_,rfl⟩
    have h27':=fun M n=>h27 u v x y M n;rw [<- hq] at hcm h27';rcases dE (q<0) with hv|hv
    ·have hv':¬ 0<=q:=by omega
     have zS:=jj hilI<|jj hg<|jj hgE<|jj hg1<|jj hg1E<|jj hk1I<|jj h27'<|jj hv'<|e1;repeat' (first|(refine aSk fun K hK=>?_)|(refine zi ?_)|(refine eC (fun h=>?_) (fun h=>?_)<;>(try simp at h))|(refine hK _ ?_;clear hK)|clear hK)
     all_goals clear zS
     refine ⟨k+1,?_,fun j hj hj2=>?_,by omega⟩
     ·exact dle
     ·rcases Nat.lt_succ_iff_lt_or_eq.1 hj with h|rfl
      ·exact hk j h hj2
      ·rw [<- hm,<- hm1];exact hcm.1 hv
    ·have hv':0<=q:=by omega
     have zS:=jj hilI<|jj hg<|jj hgE<|jj hg1<|jj hg1E<|jj hk1I<|jj h27'<|jj hv'<|e1;repeat' (first|(refine aSk fun K hK=>?_)|(refine zi ?_)|(refine eC (fun h=>?_) (fun h=>?_)<;>(try simp at h))|(refine hK _ ?_;clear hK)|clear hK)
     all_goals clear zS
     have e:¬ zdH l:=fun h=>hv (hcm.2 (by rw [hm,hm1];exact h k hil));rw [zvu hV e];refine ⟨by simp,?_⟩;simp [lvI,f199];try exact dt
   ·have hilI:¬ (k:Int)+1<(l.length:Int):=by omega
    have zS:=hilI;repeat' (first|(refine aSk fun K hK=>?_)|(refine zi ?_)|(refine eC (fun h=>?_) (fun h=>?_)<;>(try simp at h))|(refine hK _ ?_;clear hK)|clear hK)
    all_goals clear zS
    rw [zq8 hV fun i hi=>hk i (by omega) hi];refine ⟨by simp,?_⟩;simp [lvI,f199];try exact dt
theorem zl3 (l:List Dp) (h:l.length<=1000000):ztg [.rd 2 (prw l)]=some (I (zgw l)) :=sFe (ι:={l:List Dp // l.length<=1000000}) (A:=fun x=>[.rd 2 (prw x.1)]) (R:=fun x=>rtO [I (zgw x.1)]) ⟨l,h⟩ (by rintro ⟨k,h⟩ e;simp [zaa] at e;subst e;rfl)
end
theorem zpM {s:Int} {x:Bool×List (List Dp)} {e:Int×Int} {f:Nat} (h0:0<=e.2) (hf:f<x.2.length):(inP s x e).2.getD f []=x.2.getD f []++ofE f s [e]:=by
 obtain ⟨p,n⟩:=e;simp only at h0;rw [zuu];unfold inP;simp only;split
 ·rename_i h;by_cases e:n.toNat=f
  ·have:n=(f:Int):=by omega
   rw [if_pos this];simp only [List.getD_eq_getElem?_getD];rw [<- e,List.getElem?_set_self (by omega)];rfl
  ·have:¬ n=(f:Int):=by omega
   rw [if_neg this,List.append_nil];simp only [List.getD_eq_getElem?_getD];rw [List.getElem?_set_ne e]
 ·have:¬ n=(f:Int):=by omega
  rw [if_neg this,List.append_nil]
theorem zli {s:Int} {f:Nat}:∀ {l:List (Int×Int)} {x:Bool×List (List Dp)},(∀ e∈l,0<=e.2)->f<x.2.length->(ivF s x l).2.getD f []=x.2.getD f []++ofE f s l
 | [],x,_,_=>by simp [ivF,ofE]
 | e::l,x,h,hf=>by have ih:=zli (s:=s) (f:=f) (l:=l) (x:=inP s x e) (fun y hy=>h y (by simp [hy])) (by rw [zkh];exact hf);show (ivF s (inP s x e) l).2.getD f []=_;rw [ih,zpM (h e (by simp)) hf,List.append_assoc,<- zj0];rfl
theorem znZ {s:Int}:∀ {l:List (Int×Int)} {x:Bool×List (List Dp)},(ivF s x l).1=(x.1&&l.all fun e=>decide (e.2<(x.2.length:Int)))
 | [],x=>by simp [ivF]
 | e::l,x=>by
  have ih:=znZ (s:=s) (l:=l) (x:=inP s x e);show (ivF s (inP s x e) l).1=_;rw [ih,zkh];simp only [List.all_cons];unfold inP;by_cases h:e.2<(x.2.length:Int)
  ·rw [if_pos h];simp [h]
  ·rw [if_neg h];simp [h]
theorem zrW {x:Pe}:∀ e∈nmE x,0<=e.2:=by
 have hrg:=zfs x.2;intro e he;unfold nmE at he;split at he
 ·simp only [List.mem_map,List.mem_range] at he;obtain ⟨i,hi,rfl⟩:=he;simp only;omega
 ·split at he
  ·simp only [List.mem_singleton] at he;subst he;simp only;omega
  ·simp at he
theorem zrU {l:List Pe}:∀ e∈nmT l,0<=e.2:=fun e he=>by unfold nmT at he;obtain ⟨x,_,hx⟩:=List.mem_flatMap.1 he;exact zrW e hx
noncomputable def zeq (T:List Tb) (n:Nat):Nat->Bool
 | 0=>true
 | k+1=>zeq T n k&&(nmT (zq (tbG T k))).all fun e=>decide (e.2<(n:Int))
theorem zi3 {T:List Tb} {x:Bool×List (List Dp)} {f:Nat} (hf:f<x.2.length):∀ {k:Nat},(zg7 T x k).2.getD f []=x.2.getD f []++ofA T f k
 | 0=>by simp [zg7,ofA]
 | k+1=>by simp only [zg7,ofA];rw [zli zrU (by rw [zep];exact hf),zi3 hf,List.append_assoc]
theorem zlk {T:List Tb} {x:Bool×List (List Dp)}:∀ {k:Nat},(zg7 T x k).1=(x.1&&zeq T x.2.length k)
 | 0=>by simp [zg7,zeq]
 | k+1=>by simp only [zg7,zeq];rw [znZ,zlk,zep,Bool.and_assoc]
noncomputable def zh (ts:List Tb) (n:Nat):List (List Dp):=(List.range n).map fun (f:Nat)=>ofT ts (f:Int)
theorem zse {ts:List Tb} {n:Nat}:zo9 ts n=(zeq (ts.take 8) n (ts.take 8).length,zh ts n):=by
 have h1:(zo9 ts n).1=zeq (ts.take 8) n (ts.take 8).length:=by unfold zo9;rw [zlk];simp
 have h2:(zo9 ts n).2=zh ts n:=by
  have hl:(zo9 ts n).2.length=n:=by unfold zo9;rw [zep];simp
  refine List.ext_getElem (by rw [hl];simp [zh]) fun i g1 g2=>?_;have hi:i<n:=by omega
  have:=zi3 (T:=ts.take 8) (x:=(true,List.replicate n [])) (f:=i) (by simpa using hi) (k:=(ts.take 8).length);rw [zpQ,List.nil_append] at this;have e1:(zo9 ts n).2.getD i []=(zo9 ts n).2[i]:=by rw [List.getD_eq_getElem?_getD,List.getElem?_eq_getElem g1];rfl
  rw [<- e1];simp only [zh,List.getElem_map,List.getElem_range];exact this
 rw [<- h1,<- h2]
theorem zsc {ts:List Tb} {ms:List (List Dp)}:zsd ts ms=(zeq (ts.take 8) ms.length (ts.take 8).length&&decide (zh ts ms.length=ms)):=by unfold zsd;rw [zse]
def zrh (l:List (Int×Int)):Prop:=l.Pairwise fun a b=>a.1<b.1
theorem zrV {p l w:Nat} (hok:zcO l w=true):zrh (nmE ((p:Int),w))∧∀ e∈nmE ((p:Int),w),(p:Int)<=e.1∧e.1<((p+8^l:Nat):Int):=by
 have h8:1<=8^l:=Nat.pow_pos (by decide);unfold zcO at hok;simp only [Bool.and_eq_true,decide_eq_true_eq] at hok;obtain ⟨_,hs⟩:=hok;unfold nmE zrh;simp only;split
 ·rename_i h;obtain ⟨hk,hh⟩:=h;unfold zaO at hs;rw [if_neg (by omega),if_neg (by omega),if_pos hk] at hs;have hl:l=1:=by
   by_cases h0:l=0
   ·rw [if_pos h0,hh] at hs;simp at hs
   ·rw [if_neg h0] at hs;by_cases h1:l=1
    ·exact h1
    ·rw [if_neg h1] at hs;simp at hs
  subst hl;refine ⟨?_,fun e he=>?_⟩
  ·rw [List.pairwise_map];refine List.Pairwise.imp ?_ List.pairwise_lt_range;intro a b hab;simp only;omega
  ·simp only [List.mem_map,List.mem_range] at he;obtain ⟨i,hi,rfl⟩:=he;simp only;omega
 ·split
  ·refine ⟨by simp,fun e he=>?_⟩;simp only [List.mem_singleton] at he;subst he;simp only;omega
  ·exact ⟨by simp,fun e he=>by simp at he⟩
section
variable {r:Int} {ns:NdL} {ds:List Dp}
theorem zrj (hv:Vt (r,ns,ds)) {p l w:Nat} (hp:p<512) (hl:(lsT (r,ns,ds) p).2=(l,w)):zcO l w=true∧l<=2:=by
 obtain ⟨f0,l0,w0,hw⟩:∃ f l w,wlk (Mof ns) r p=(f,l,w):=⟨_,_,_,rfl⟩
 have h1:=(hv.pv.walk hp).2.2;simp only at h1;rw [hw,hl] at h1;simp only [pJ] at h1;obtain ⟨rfl,rfl⟩:=h1;obtain ⟨a1,a2,a3,a4,a5,a6⟩:=zap hv.vm hp hw;exact ⟨a6,a1⟩
theorem zqK (hv:Vt (r,ns,ds)):∀ (k p:Nat),512 - p<=k->p<=512->(p<512->p%8^(lsT (r,ns,ds) p).2.1=0)->zrh (nmT (lsA (r,ns,ds) p))->(∀ e∈nmT (lsA (r,ns,ds) p),0<=e.1∧e.1<(p:Int)) ->
  zrh (nmT (lsA (r,ns,ds) 512))∧∀ e∈nmT (lsA (r,ns,ds) 512),0<=e.1∧e.1<512
 | 0,p,hk,hp,_,h1,h2=>by
  obtain rfl:p=512:=by omega
  exact ⟨h1,h2⟩
 | k+1,p,hk,hp,hb,h1,h2=>by
  by_cases e:p=512
  ·subst e;exact ⟨h1,h2⟩
  have hp5:p<512:=by omega
  obtain ⟨l,w,hlw⟩:∃ l w,(lsT (r,ns,ds) p).2=(l,w):=⟨_,_,rfl⟩
  have hb:=hb hp5;rw [hlw] at hb;simp only at hb;obtain ⟨hok,hl2⟩:=zrj hv hp5 hlw;have h8:1<=8^l:=Nat.pow_pos (by decide);have hstep:=zle hv.pv hp5 hlw hb;have hle:p+8^l<=512:=by rcases (by omega:l=0∨l=1∨l=2) with rfl|rfl|rfl<;>simp at hb ⊢<;>omega
  have hN:nmT (lsA (r,ns,ds) (p+8^l))=nmT (lsA (r,ns,ds) p)++(if w≠0 then nmE ((p:Int),w) else []):=by rw [hstep];unfold nmT;rw [List.flatMap_append];split<;>simp
  have hE:=zrV (p:=p) hok;refine zqK hv k (p+8^l) (by omega) hle (fun hlt=>zlg hv.pv hp5 hlw hb hlt) ?_ ?_
  ·rw [hN];unfold zrh;rw [List.pairwise_append];refine ⟨h1,?_,fun a ha b hb'=>?_⟩
   ·split
    ·exact hE.1
    ·simp
   ·split at hb'
    ·have q1:=(h2 a ha).2;have q2:=(hE.2 b hb').1;omega
    ·simp at hb'
  ·intro x hx;rw [hN] at hx;rcases List.mem_append.1 hx with q|q
   ·have:=h2 x q;omega
   ·split at q
    ·have:=hE.2 x q;omega
    ·simp at q
theorem zux (hv:Vt (r,ns,ds)) (ht:zf (r,ns,ds)):zrh (nmT (zq (r,ns,ds)))∧∀ e∈nmT (zq (r,ns,ds)),0<=e.1∧e.1<512:=by
 unfold zq;rw [if_pos ((zcH ht).2 hv)];refine zqK hv 512 0 (by omega) (by omega) (fun _=>Nat.zero_mod _) ?_ ?_
 ·simp [lsA,nmT,zrh]
 ·intro e he;simp [lsA,nmT] at he
end
theorem zrQ {f s:Int} {l:List (Int×Int)} (h:zrh l):(ofE f s l).Pairwise ltM:=by unfold ofE;rw [List.pairwise_map];refine List.Pairwise.imp ?_ (h.filter _);intro a b hab;exact .inr ⟨rfl,hab⟩
theorem znw {f s:Int} {l:List (Int×Int)} {x:Dp}:x∈ofE f s l↔x.1=s∧(x.2,f)∈l:=by
 unfold ofE;simp only [List.mem_map,List.mem_filter,decide_eq_true_eq];constructor
 ·rintro ⟨⟨a,b⟩,⟨h1,h2⟩,rfl⟩;simp only at h2;subst h2;exact ⟨rfl,h1⟩
 ·obtain ⟨x1,x2⟩:=x;rintro ⟨rfl,h⟩;exact ⟨(x2,f),⟨h,rfl⟩,rfl⟩
theorem zhG {T:List Tb} {f:Int} {x:Dp}:∀ {n:Nat},x∈ofA T f n↔∃ s:Nat,s<n∧x.1=s∧(x.2,f)∈nmT (zq (tbG T s))
 | 0=>by simp [ofA]
 | n+1=>by
  simp only [ofA,List.mem_append,zhG (n:=n),znw];constructor
  ·rintro (⟨s,h1,h2⟩|h)
   ·exact ⟨s,by omega,h2⟩
   ·exact ⟨n,by omega,h⟩
  ·rintro ⟨s,h1,h2⟩;by_cases e:s=n
   ·subst e;exact .inr h2
   ·exact .inl ⟨s,by omega,h2⟩
theorem zj2 {T:List Tb} {f:Int} (hT:∀ t∈T,zf t∧Vt t):∀ {n:Nat},n<=T.length->(ofA T f n).Pairwise ltM
 | 0,_=>by simp [ofA]
 | n+1,h=>by
  simp only [ofA];rw [List.pairwise_append];obtain ⟨⟨r,ns,ds⟩,e⟩:∃ t,t=tbG T n:=⟨_,rfl⟩
  have hm:=hT _ (zhs (show n<T.length by omega));rw [<- e] at hm ⊢;refine ⟨zj2 hT (by omega),zrQ (zux hm.2 hm.1).1,fun a ha b hb=>?_⟩;obtain ⟨s,h1,h2,_⟩:=zhG.1 ha;obtain ⟨h3,_⟩:=znw.1 hb;exact .inl (by omega)
theorem zrR {T:List Tb} {f:Int} (hT:∀ t∈T,zf t∧Vt t) (h8:T.length<=8):zgw (ofA T f T.length)=0:=by
 have hP:=zj2 (f:=f) hT (Nat.le_refl T.length);refine zq8 (fun i hi=>?_) fun i hi=>?_
 ·obtain ⟨s,h1,h2,h3⟩:=zhG.1 (zlq hi);obtain ⟨⟨r,ns,ds⟩,e⟩:∃ t,t=tbG T s:=⟨_,rfl⟩
  have hm:=hT _ (zhs h1);rw [<- e] at hm h3;have:=(zux hm.2 hm.1).2 _ h3;unfold zgx;simp only at this;omega
 ·rw [zax (by omega),zax (by omega)];exact List.pairwise_iff_getElem.1 hP i (i+1) (by omega) (by omega) (by omega)
end Go.AM
