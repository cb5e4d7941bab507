/- A part of the proof. -/
import Derived.Test.YtcfhmdljeeppfaaGreatGPt1
import Derived.Test.YtcfhmdljeeppfaaGreatGPt20
import Derived.Test.YtcfhmdljeeppfaaGreatGMqk2
import Derived.Test.YtcfhmdljeeppfaaGreatGAmW
set_option linter.all false
namespace Go.AM
open Go
abbrev CwP:=Int×Bool
abbrev CwS:=Bool×List CwP
abbrev Cw:=Int×List CwS×List Dp×Int
def pgs (ss:List CwS):List CwP:=ss.flatMap (·.2)
def zbn (l:List CwP) (f:Int):Nat:=(l.filter fun p=>decide (p.1=f)).length
def gsp (ss:List CwS) (i:Nat):CwS:=ss.getD i (false,[])
def gpg (l:List CwP) (i:Nat):CwP:=l.getD i (-1,false)
theorem zf6 {l:List CwS} {n:Nat} (h:n<l.length):gsp l n=l[n]:=by unfold gsp;rw [List.getD_eq_getElem?_getD,List.getElem?_eq_getElem h];rfl
theorem zaT {l:List CwS} {n:Nat} (h:n<l.length):gsp l n∈l:=by rw [zf6 h];exact List.getElem_mem h
theorem zer {l:List CwP} {n:Nat} (h:n<l.length):gpg l n=l[n]:=by unfold gpg;rw [List.getD_eq_getElem?_getD,List.getElem?_eq_getElem h];rfl
theorem zhT {l:List CwP} {n:Nat} (h:n<l.length):gpg l n∈l:=by rw [zer h];exact List.getElem_mem h
theorem zbh {a b:List CwP} {f:Int}:zbn (a++b) f=zbn a f+zbn b f:=by simp [zbn]
theorem zbg {a:CwP} {b:List CwP} {f:Int}:zbn (a::b) f=(if a.1=f then 1 else 0)+zbn b f:=by
 unfold zbn;by_cases h:a.1=f
 ·simp [h];omega
 ·simp [h]
theorem zft {f:Int}:zbn [] f=0:=rfl
theorem zdr {l:List CwP} {p:CwP} (h:p∈l):1<=zbn l p.1:=by unfold zbn;exact List.length_pos_iff.2 (List.ne_nil_of_mem (List.mem_filter.2 ⟨h,by simp⟩))
structure zk (c:Cw):Prop where
 sz:1<=c.1∧c.1<=512
 sp:1<=c.2.1.length∧c.2.1.length<=8
 fr:1<=c.2.2.1.length∧c.2.2.1.length<=256
 cp:0<=c.2.2.2∧c.2.2.2<=1048576
 live:∀ s∈c.2.1,(s.1=true->(s.2.length:Int)=c.1)∧(s.1=false->s.2=[])
 pg:∀ p∈pgs c.2.1,-1<=p.1∧p.1<(c.2.2.1.length:Int)∧(p.1=-1->p.2=false)
 cnt:∀ i:Nat,i<c.2.2.1.length->(gp c.2.2.1 i).1=(zbn (pgs c.2.1) (i:Int):Int)∧((gp c.2.2.1 i).1=0->(gp c.2.2.1 i).2=0)
 wr:∀ p∈pgs c.2.1,p.2=true->zbn (pgs c.2.1) p.1=1
theorem znm {ss:List CwS} {s p:Nat} (hs:s<ss.length) (hp:p<(gsp ss s).2.length) :
  ∃ U V,pgs ss=U++gpg (gsp ss s).2 p::V∧∀ b x,pgs (ss.set s (b,(gsp ss s).2.set p x))=U++x::V:=by
 rw [zf6 hs] at hp ⊢;refine ⟨pgs (ss.take s)++(ss[s].2).take p,(ss[s].2).drop (p+1)++pgs (ss.drop (s+1)),?_,fun b x=>?_⟩
 ·have e1:ss=ss.take s++ss[s]::ss.drop (s+1):=by rw [<- List.drop_eq_getElem_cons hs,List.take_append_drop]
  have e2:ss[s].2=(ss[s].2).take p++gpg ss[s].2 p::(ss[s].2).drop (p+1):=by rw [zer hp,<- List.drop_eq_getElem_cons hp,List.take_append_drop]
  have e3:pgs ss=pgs (ss.take s)++(ss[s].2++pgs (ss.drop (s+1))):=by have:=congrArg pgs e1;rw [this];unfold pgs;rw [List.flatMap_append,List.flatMap_cons]
  rw [e3]
  conv=>lhs;rw [e2]
  simp
 ·rw [List.set_eq_take_append_cons_drop,if_pos hs];have e2:(ss[s].2).set p x=(ss[s].2).take p++x::(ss[s].2).drop (p+1):=by rw [List.set_eq_take_append_cons_drop,if_pos hp]
  simp [pgs,e2]
theorem zj4 {ss:List CwS} {p:CwP}:p∈pgs ss↔∃ s∈ss,p∈s.2:=by simp [pgs,List.mem_flatMap]
theorem zb8 {ss:List CwS} {s p:Nat} (hs:s<ss.length) (hp:p<(gsp ss s).2.length):gpg (gsp ss s).2 p∈pgs ss:=zj4.2 ⟨_,zaT hs,zhT hp⟩
theorem ze6 {l:List Dp} {i j:Nat} {x:Dp} (h:i<l.length):gp (l.set i x) j=if j=i then x else gp l j:=by
 unfold gp;rw [List.getD_eq_getElem?_getD,List.getElem?_set];by_cases e:i=j
 ·subst e;simp [h]
 ·have:¬ j=i:=fun h=>e h.symm;simp [e,this,List.getD_eq_getElem?_getD]
theorem zk.put {c:Cw} (h:zk c) {s p:Nat} (hs:s<c.2.1.length) (hp:p<(gsp c.2.1 s).2.length) {x:CwP} {fr:List Dp} {cp:Int} (hl:fr.length=c.2.2.1.length) (hcp:0<=cp∧cp<=1048576)
  (hx:-1<=x.1∧x.1<(c.2.2.1.length:Int)∧(x.1=-1->x.2=false))
  (hcn:∀ i:Nat,i<fr.length->(gp fr i).1=(gp c.2.2.1 i).1 - (if (gpg (gsp c.2.1 s).2 p).1=(i:Int) then 1 else 0)+(if x.1=(i:Int) then 1 else 0)∧((gp fr i).1=0->(gp fr i).2=0))
  (hw:x.2=true->zbn (pgs c.2.1) x.1=if (gpg (gsp c.2.1 s).2 p).1=x.1 then 1 else 0)
  (hwo:∀ q∈pgs c.2.1,q.2=true->q.1=x.1->(gpg (gsp c.2.1 s).2 p).1=x.1):zk (c.1,c.2.1.set s ((gsp c.2.1 s).1,(gsp c.2.1 s).2.set p x),fr,cp):=by
 obtain ⟨U,V,e1,e2⟩:=znm hs hp;have e2:=e2 (gsp c.2.1 s).1 x;obtain ⟨o,ho⟩:∃ o,o=gpg (gsp c.2.1 s).2 p:=⟨_,rfl⟩
 rw [<- ho] at e1 hcn hw hwo;have hc:∀ f,zbn (pgs c.2.1) f=zbn U f+((if o.1=f then 1 else 0)+zbn V f):=fun f=>by rw [e1,zbh,zbg]
 have hc2:∀ f,zbn (U++x::V) f=zbn U f+((if x.1=f then 1 else 0)+zbn V f):=fun f=>by rw [zbh,zbg]
 have hmem:∀ q,q∈U++x::V->q=x∨(q∈U∨q∈V):=fun q hq=>by
  rcases List.mem_append.1 hq with h1|h1
  ·exact .inr (.inl h1)
  ·rcases List.mem_cons.1 h1 with h1|h1
   ·exact .inl h1
   ·exact .inr (.inr h1)
 have hUV:∀ q,q∈U∨q∈V->q∈pgs c.2.1:=fun q hq=>by
  rw [e1];rcases hq with h1|h1
  ·exact List.mem_append.2 (.inl h1)
  ·exact List.mem_append.2 (.inr (List.mem_cons.2 (.inr h1)))
 have hpos:∀ q,q∈U∨q∈V->1<=zbn U q.1+zbn V q.1:=fun q hq=>by
  rcases hq with h1|h1
  ·have:=zdr h1;omega
  ·have:=zdr h1;omega
 refine ⟨h.sz,by simpa using h.sp,by simpa [hl] using h.fr,hcp,fun t ht=>?_,fun q hq=>?_,fun i hi=>?_,fun q hq hq2=>?_⟩
 ·simp only at ht ⊢;rcases List.mem_or_eq_of_mem_set ht with h1|rfl
  ·exact h.live t h1
  ·have:=h.live _ (zaT hs);simp only [List.length_set];exact ⟨this.1,fun hh=>by rw [this.2 hh] at hp;simp at hp⟩
 ·simp only [hl] at hq ⊢;rw [e2] at hq;rcases hmem q hq with rfl|h1
  ·exact hx
  ·exact h.pg q (hUV q h1)
 ·simp only [hl] at hi ⊢;obtain ⟨q1,q2⟩:=hcn i (by rw [hl];exact hi);refine ⟨?_,q2⟩;have h1:=(h.cnt i hi).1;rw [hc] at h1;rw [q1,h1,e2,hc2];by_cases a:o.1=(i:Int)<;>by_cases b:x.1=(i:Int)<;>simp [a,b]<;>omega
 ·simp only at hq ⊢;rw [e2] at hq ⊢;rw [hc2];rcases hmem q hq with rfl|h1
  ·have h3:=hw hq2;rw [hc] at h3;simp only [if_true];omega
  ·have h4:=h.wr q (hUV q h1) hq2;have h5:=hpos q h1;rw [hc] at h4;by_cases e:q.1=x.1
   ·have:=hwo q (hUV q h1) hq2 e;rw [if_pos e.symm];rw [if_pos (this.trans e.symm)] at h4;omega
   ·rw [if_neg (fun h=>e h.symm)];omega
def unF (fr:List Dp) (f:Int):List Dp:=if 0<=f then fr.set f.toNat ((gp fr f.toNat).1 - 1,if (gp fr f.toNat).1 - 1=0 then 0 else (gp fr f.toNat).2) else fr
def unC (c:Cw) (s p:Nat):Cw:=(c.1,c.2.1.set s ((gsp c.2.1 s).1,(gsp c.2.1 s).2.set p (-1,false)),unF c.2.2.1 (gpg (gsp c.2.1 s).2 p).1,c.2.2.2)
theorem zeI {fr:List Dp} {f:Int}:(unF fr f).length=fr.length:=by unfold unF;split<;>simp
theorem zk.un {c:Cw} (h:zk c) {s p:Nat} (hs:s<c.2.1.length) (hp:p<(gsp c.2.1 s).2.length):zk (unC c s p):=by
 have hg:=h.pg _ (zb8 hs hp);unfold unC;refine h.put hs hp zeI h.cp ⟨by simp,by simp only;omega,fun _=>rfl⟩ (fun i hi=>?_) (fun h=>by simp at h) (fun q hq hq2 e=>?_)
 ·rw [zeI] at hi;have hci:=h.cnt i hi;obtain ⟨f,hf⟩:∃ f,f=(gpg (gsp c.2.1 s).2 p).1:=⟨_,rfl⟩
  rw [<- hf] at hg ⊢;have hn1:¬ (-1:Int)=(i:Int):=by omega
  simp only [if_neg hn1];unfold unF;rcases dE (0<=f) with h0|h0
  ·rw [if_pos h0,ze6 (by omega)];rcases dE (i=f.toNat) with e|e
   ·have e2:f=(i:Int):=by omega
    subst e;rw [if_pos rfl,if_pos e2];simp only;refine ⟨by omega,fun hz=>?_⟩;rw [if_pos hz]
   ·rw [if_neg e,if_neg (by omega)];exact ⟨by omega,hci.2⟩
  ·rw [if_neg h0,if_neg (by omega)];exact ⟨by omega,hci.2⟩
 ·have:=(h.pg q hq).2.2 e;rw [this] at hq2;simp at hq2
def frz (fr:List Dp):Nat:=fr.findIdx fun x=>decide (x.1=0)
def cw0:Cw:=(0,[],[],0)
def wrC (c:Cw) (s p:Nat) (w:Int):Cw×Int :=let f:=(gpg (gsp c.2.1 s).2 p).1
 let fr:=c.2.2.1
 if f<0∨1<(gp fr f.toNat).1 then
  if frz fr<fr.length then
   ((c.1,c.2.1.set s ((gsp c.2.1 s).1,(gsp c.2.1 s).2.set p ((frz fr:Int),true)),(if 0<=f then fr.set f.toNat ((gp fr f.toNat).1 - 1,(gp fr f.toNat).2) else fr).set (frz fr) (1,w),if 0<=f then min (c.2.2.2+1) 1048576 else c.2.2.2),0)
  else (cw0,16)
 else ((c.1,c.2.1.set s ((gsp c.2.1 s).1,(gsp c.2.1 s).2.set p (f,true)),fr.set f.toNat ((gp fr f.toNat).1,w),c.2.2.2),0)
theorem zqT {fr:List Dp} (h:frz fr<fr.length):(gp fr (frz fr)).1=0:=by have:=List.findIdx_getElem (w:=h);rw [zax h];exact of_decide_eq_true this
theorem zvn {c:Cw} (h:zk c) {s p:Nat} (hs:s<c.2.1.length) (hp:p<(gsp c.2.1 s).2.length) (h0:0<=(gpg (gsp c.2.1 s).2 p).1):1<=(gp c.2.2.1 (gpg (gsp c.2.1 s).2 p).1.toNat).1:=by have hg:=h.pg _ (zb8 hs hp);have h1:=(h.cnt (gpg (gsp c.2.1 s).2 p).1.toNat (by omega)).1;have h2:=zdr (zb8 hs hp);rw [Int.toNat_of_nonneg h0] at h1;omega
theorem zk.write {c:Cw} (h:zk c) {s p:Nat} (hs:s<c.2.1.length) (hp:p<(gsp c.2.1 s).2.length) {w:Int} (h0:(wrC c s p w).2=0):zk (wrC c s p w).1:=by
 have hg:=h.pg _ (zb8 hs hp);have hc1:=zvn h hs hp;have hwo:=h.wr _ (zb8 hs hp);obtain ⟨f,hf⟩:∃ f,f=(gpg (gsp c.2.1 s).2 p).1:=⟨_,rfl⟩
 unfold wrC at h0 ⊢;simp only [<- hf] at h0 hg hc1 ⊢;split at h0
 ·rename_i hc;rw [if_pos hc];split at h0
  case isFalse=>simp at h0
  rename_i hz;rw [if_pos hz];have hz0:=zqT hz;have hzc:=(h.cnt _ hz).1;rw [hz0] at hzc;have hzf:f≠(frz c.2.2.1:Int):=fun e=>by have:=hc1 (by omega);rw [e] at this;simp only [Int.toNat_natCast] at this;omega
  refine h.put hs hp (by split<;>simp) ?_ ⟨by simp only;omega,by simp only;omega,fun e=>by simp only at e;omega⟩ (fun i hi=>?_) (fun _=>?_) (fun q hq hq2 e=>?_)
  ·have:=h.cp;split
   ·omega
   ·exact this
  ·have hi2:i<c.2.2.1.length:=by
    have:((if 0<=f then c.2.2.1.set f.toNat ((gp c.2.2.1 f.toNat).1 - 1,(gp c.2.2.1 f.toNat).2) else c.2.2.1).set (frz c.2.2.1) (1,w)).length=c.2.2.1.length:=by split<;>simp
    rw [this] at hi;exact hi
   have hci:=h.cnt i hi2;rw [ze6 (by split<;>simpa using hz),<- hf];simp only;rcases dE (i=frz c.2.2.1) with e|e
   ·rw [if_pos e,e,if_neg hzf,if_pos rfl,hz0];simp
   ·rw [if_neg e,if_neg (show ¬ ((frz c.2.2.1:Nat):Int)=(i:Int) by omega)];rcases dE (0<=f) with h3|h3
    ·rw [if_pos h3,ze6 (by omega)];rcases dE (i=f.toNat) with e2|e2
     ·rw [if_pos e2,if_pos (show f=(i:Int) by omega)];simp only;rw [e2];refine ⟨by omega,fun hh=>?_⟩;rcases hc with hc|hc<;>omega
     ·rw [if_neg e2,if_neg (show ¬ f=(i:Int) by omega)];exact ⟨by omega,hci.2⟩
    ·rw [if_neg h3,if_neg (show ¬ f=(i:Int) by omega)];exact ⟨by omega,hci.2⟩
  ·simp only;rw [<- hf,if_neg hzf];omega
  ·simp only at e ⊢;have h5:=zdr hq;rw [e] at h5;omega
 ·rename_i hc;rw [if_neg hc];have hf0:0<=f:=by omega
  have h1:=hc1 hf0;have h1e:(gp c.2.2.1 f.toNat).1=1:=by omega
  have hcf:=(h.cnt f.toNat (by omega)).1;rw [Int.toNat_of_nonneg hf0,h1e] at hcf;refine h.put hs hp (by simp) h.cp ⟨by simp only;omega,by simp only;omega,fun e=>by simp only at e;omega⟩ (fun i hi=>?_) (fun _=>?_) (fun q hq hq2 e=>?_)
  ·have hi2:i<c.2.2.1.length:=by simpa using hi
   have hci:=h.cnt i hi2;rw [ze6 (by omega),<- hf];simp only;rcases dE (i=f.toNat) with e2|e2
   ·rw [if_pos e2,if_pos (show f=(i:Int) by omega),e2];simp only;omega
   ·rw [if_neg e2,if_neg (show ¬ f=(i:Int) by omega)];exact ⟨by omega,hci.2⟩
  ·simp only;rw [<- hf,if_pos rfl];omega
  ·simp only;exact hf.symm
theorem zqF {ss:List CwS} {s:Nat} (hs:s<ss.length):∃ U V,pgs ss=U++((gsp ss s).2++V)∧∀ b l,pgs (ss.set s (b,l))=U++(l++V):=by
 rw [zf6 hs];refine ⟨pgs (ss.take s),pgs (ss.drop (s+1)),?_,fun b l=>?_⟩
 ·have e1:ss=ss.take s++ss[s]::ss.drop (s+1):=by rw [<- List.drop_eq_getElem_cons hs,List.take_append_drop]
  have:=congrArg pgs e1;rw [this];unfold pgs;rw [List.flatMap_append,List.flatMap_cons]
 ·rw [List.set_eq_take_append_cons_drop,if_pos hs];simp [pgs]
def unw (l:List CwP):List CwP:=l.map fun p=>(p.1,false)
theorem zjP {l:List CwP}:(unw l).length=l.length:=by simp [unw]
theorem zm5 {f:Int}:∀ {l:List CwP},zbn (unw l) f=zbn l f
 | []=>rfl
 | p::l=>by have:=@zm5 f l;show zbn ((p.1,false)::unw l) f=_;rw [zbg,zbg,this]
theorem znH {l:List CwP} {q:CwP} (h:q∈unw l):q.2=false∧∃ p∈l,p.1=q.1:=by obtain ⟨p,hp,rfl⟩:=List.mem_map.1 h;exact ⟨rfl,p,hp,rfl⟩
def zpb (fr:List Dp) (f:Int):List Dp:=if 0<=f then fr.set f.toNat ((gp fr f.toNat).1+1,(gp fr f.toNat).2) else fr
def zg8 (fr:List Dp):List CwP->List Dp
 | []=>fr
 | p::l=>zg8 (zpb fr p.1) l
theorem zlo {fr:List Dp} {f:Int}:(zpb fr f).length=fr.length:=by unfold zpb;split<;>simp
theorem zdm:∀ {l:List CwP} {fr:List Dp},(zg8 fr l).length=fr.length
 | [],fr=>rfl
 | p::l,fr=>by rw [zg8,zdm,zlo]
theorem zln:∀ {a b:List CwP} {fr:List Dp},zg8 fr (a++b)=zg8 (zg8 fr a) b
 | [],b,fr=>rfl
 | p::a,b,fr=>by simp only [List.cons_append,zg8,zln (a:=a)]
theorem zsf {fr:List Dp} {f:Int} {i:Nat} (hf:f<(fr.length:Int)):gp (zpb fr f) i=if f=(i:Int) then ((gp fr i).1+1,(gp fr i).2) else gp fr i:=by
 unfold zpb;rcases dE (0<=f) with h0|h0
 ·rw [if_pos h0,ze6 (by omega)];rcases dE (i=f.toNat) with e|e
  ·rw [if_pos e,if_pos (by omega),e]
  ·rw [if_neg e,if_neg (by omega)]
 ·rw [if_neg h0,if_neg (by omega)]
theorem zkg {i:Nat}:∀ {l:List CwP} {fr:List Dp},(∀ p∈l,p.1<(fr.length:Int))->gp (zg8 fr l) i=((gp fr i).1+(zbn l (i:Int):Int),(gp fr i).2)
 | [],fr,_=>by simp [zg8,zbn]
 | p::l,fr,h=>by rw [zg8,zkg (fun q hq=>by rw [zlo];exact h q (by simp [hq])),zsf (h p (by simp)),zbg];by_cases e:p.1=(i:Int)<;>simp [e]<;>omega
def fkC (c:Cw) (s:Nat):Cw:=(c.1,c.2.1.set s ((gsp c.2.1 s).1,unw (gsp c.2.1 s).2)++[(true,unw (gsp c.2.1 s).2)],zg8 c.2.2.1 (gsp c.2.1 s).2,c.2.2.2)
theorem zk.fork {c:Cw} (h:zk c) {s:Nat} (hs:s<c.2.1.length) (h8:c.2.1.length<8) (hl:(gsp c.2.1 s).1=true):zk (fkC c s):=by
 obtain ⟨U,V,e1,e2⟩:=zqF hs;have e2:=e2 (gsp c.2.1 s).1 (unw (gsp c.2.1 s).2);have hlv:=h.live _ (zaT hs);obtain ⟨P,hP⟩:∃ P,P=(gsp c.2.1 s).2:=⟨_,rfl⟩
 rw [<- hP] at e1 e2 hlv;have hin:∀ q,q∈P->q∈pgs c.2.1:=fun q hq=>by rw [e1];simp [hq]
 have hUV:∀ q,q∈U∨q∈V->q∈pgs c.2.1:=fun q hq=>by rw [e1];rcases hq with hq|hq<;>simp [hq]
 have hlt:∀ p∈P,p.1<(c.2.2.1.length:Int):=fun p hp=>(h.pg p (hin p hp)).2.1;have e3:pgs (fkC c s).2.1=U++(unw P++V)++unw P:=by unfold fkC;simp only [<- hP];show pgs (_++_)=_;unfold pgs at e2 ⊢;rw [List.flatMap_append,e2];try simp
 have hcn:∀ f,zbn (pgs (fkC c s).2.1) f=zbn (pgs c.2.1) f+zbn P f:=fun f=>by rw [e3,e1];simp only [zbh,zm5]
 have hmem:∀ q,q∈pgs (fkC c s).2.1->(q∈U∨q∈V)∨q∈unw P:=fun q hq=>by
  rw [e3] at hq;simp only [List.mem_append] at hq;rcases hq with (hq|hq|hq)|hq
  ·exact .inl (.inl hq)
  ·exact .inr hq
  ·exact .inl (.inr hq)
  ·exact .inr hq
 refine ⟨h.sz,?_,?_,h.cp,fun t ht=>?_,fun q hq=>?_,fun i hi=>?_,fun q hq hq2=>?_⟩
 ·simp [fkC];omega
 ·have:=h.fr;simpa [fkC,zdm] using this
 ·simp only [fkC,<- hP] at ht ⊢;rcases List.mem_append.1 ht with ht|ht
  ·rcases List.mem_or_eq_of_mem_set ht with h1|rfl
   ·exact h.live t h1
   ·exact ⟨fun _=>by simp only [zjP];exact hlv.1 hl,fun hh=>by simp only [hl] at hh;simp at hh⟩
  ·simp only [List.mem_singleton] at ht;subst ht;exact ⟨fun _=>by simp only [zjP];exact hlv.1 hl,fun hh=>by simp at hh⟩
 ·have el:(fkC c s).2.2.1.length=c.2.2.1.length:=by simp [fkC,zdm]
  rw [el];rcases hmem q hq with h1|h1
  ·exact h.pg q (hUV q h1)
  ·obtain ⟨k1,p,k2,k3⟩:=znH h1;have:=h.pg p (hin p k2);rw [<- k3];exact ⟨this.1,this.2.1,fun _=>k1⟩
 ·have hi2:i<c.2.2.1.length:=by simpa [fkC,zdm] using hi
  have hci:=h.cnt i hi2;rw [hcn];have e4:gp (fkC c s).2.2.1 i=((gp c.2.2.1 i).1+(zbn P (i:Int):Int),(gp c.2.2.1 i).2):=by simp only [fkC,<- hP];exact zkg hlt
  rw [e4];simp only;exact ⟨by omega,fun hz=>hci.2 (by omega)⟩
 ·rw [hcn];rcases hmem q hq with h1|h1
  ·have h4:=h.wr q (hUV q h1) hq2;have h5:1<=zbn U q.1+zbn V q.1:=by
    rcases h1 with h1|h1
    ·have:=zdr h1;omega
    ·have:=zdr h1;omega
   have h6:=h4;rw [e1,zbh,zbh] at h6;omega
  ·rw [(znH h1).1] at hq2;simp at hq2
def exI (c:Cw) (s:Nat):Nat->Cw
 | 0=>c
 | n+1=>unC (exI c s n) s n
theorem zoa {ss:List CwS} {s t:Nat} {x:CwS} (h:s<ss.length):gsp (ss.set s x) t=if t=s then x else gsp ss t:=by
 unfold gsp;rw [List.getD_eq_getElem?_getD,List.getElem?_set];by_cases e:s=t
 ·subst e;simp [h]
 ·have:¬ t=s:=fun h=>e h.symm;simp [e,this,List.getD_eq_getElem?_getD]
theorem zf7 {l:List CwP} {i j:Nat} {x:CwP} (h:i<l.length):gpg (l.set i x) j=if j=i then x else gpg l j:=by
 unfold gpg;rw [List.getD_eq_getElem?_getD,List.getElem?_set];by_cases e:i=j
 ·subst e;simp [h]
 ·have:¬ j=i:=fun h=>e h.symm;simp [e,this,List.getD_eq_getElem?_getD]
structure ExI (c:Cw) (s n:Nat) (d:Cw):Prop where
 ok:zk d
 len:d.2.1.length=c.2.1.length
 fl:d.2.2.1.length=c.2.2.1.length
 sz:d.1=c.1
 lv:(gsp d.2.1 s).1=(gsp c.2.1 s).1
 pl:(gsp d.2.1 s).2.length=(gsp c.2.1 s).2.length
 lo:∀ i,i<n->gpg (gsp d.2.1 s).2 i=(-1,false)
 hi:∀ i,n<=i->gpg (gsp d.2.1 s).2 i=gpg (gsp c.2.1 s).2 i
 ot:∀ t,t≠s->gsp d.2.1 t=gsp c.2.1 t
theorem zk.exI {c:Cw} (h:zk c) {s:Nat} (hs:s<c.2.1.length):∀ {n:Nat},n<=(gsp c.2.1 s).2.length->ExI c s n (exI c s n)
 | 0,_=>⟨h,rfl,rfl,rfl,rfl,rfl,fun i hi=>by omega,fun i _=>rfl,fun _ _=>rfl⟩
 | n+1,hn=>by
  have ih:=zk.exI h hs (n:=n) (by omega);have hs2:s<(AM.exI c s n).2.1.length:=by rw [ih.len];exact hs
  have hp2:n<(gsp (AM.exI c s n).2.1 s).2.length:=by rw [ih.pl];omega
  have eg:∀ t,gsp (AM.exI c s (n+1)).2.1 t=if t=s then ((gsp (AM.exI c s n).2.1 s).1,(gsp (AM.exI c s n).2.1 s).2.set n (-1,false)) else gsp (AM.exI c s n).2.1 t:=fun t=>by show gsp (unC (AM.exI c s n) s n).2.1 t=_;unfold unC;exact zoa hs2
  refine ⟨ih.ok.un hs2 hp2,?_,?_,ih.sz,?_,?_,fun i hi=>?_,fun i hi=>?_,fun t ht=>?_⟩
  ·show (unC _ _ _).2.1.length=_;simp [unC,ih.len]
  ·show (unC _ _ _).2.2.1.length=_;simp [unC,zeI,ih.fl]
  ·rw [eg,if_pos rfl];exact ih.lv
  ·rw [eg,if_pos rfl];simpa using ih.pl
  ·rw [eg,if_pos rfl];simp only;rw [zf7 hp2];by_cases e:i=n
   ·rw [if_pos e]
   ·rw [if_neg e];exact ih.lo i (by omega)
  ·rw [eg,if_pos rfl];simp only;rw [zf7 hp2,if_neg (by omega)];exact ih.hi i (by omega)
  ·rw [eg,if_neg ht];exact ih.ot t ht
def exC (c:Cw) (s:Nat):Cw :=let d:=exI c s (gsp c.2.1 s).2.length
 (d.1,d.2.1.set s (false,[]),d.2.2.1,d.2.2.2)
theorem zk.exit {c:Cw} (h:zk c) {s:Nat} (hs:s<c.2.1.length):zk (exC c s):=by
 have E:=h.exI hs (Nat.le_refl (gsp c.2.1 s).2.length);unfold exC;simp only;obtain ⟨d,hd⟩:∃ d,d=AM.exI c s (gsp c.2.1 s).2.length:=⟨_,rfl⟩
 rw [<- hd] at E ⊢;have hs2:s<d.2.1.length:=by rw [E.len];exact hs
 obtain ⟨U,V,e1,e2⟩:=zqF hs2;have e2:=e2 false [];rw [List.nil_append] at e2;have hP:∀ p∈(gsp d.2.1 s).2,p=(-1,false):=fun p hp=>by obtain ⟨j,hj,rfl⟩:=List.getElem_of_mem hp;rw [<- zer hj];exact E.lo j (by rw [E.pl] at hj;exact hj)
 have hPc:∀ f:Int,0<=f->zbn (gsp d.2.1 s).2 f=0:=fun f hf=>by unfold zbn;rw [List.length_eq_zero_iff,List.filter_eq_nil_iff];intro p hp;rw [hP p hp];simp;omega
 have hc:∀ f:Int,0<=f->zbn (U++V) f=zbn (pgs d.2.1) f:=fun f hf=>by rw [e1];simp only [zbh,hPc f hf];omega
 have hUV:∀ q,q∈U++V->q∈pgs d.2.1:=fun q hq=>by rw [e1];rcases List.mem_append.1 hq with h1|h1<;>simp [h1]
 have H:=E.ok;refine ⟨H.sz,by simpa using H.sp,H.fr,H.cp,fun t ht=>?_,fun q hq=>?_,fun i hi=>?_,fun q hq hq2=>?_⟩
 ·rcases List.mem_or_eq_of_mem_set ht with h1|rfl
  ·exact H.live t h1
  ·exact ⟨fun h=>by simp at h,fun _=>rfl⟩
 ·simp only at hq ⊢;rw [e2] at hq;exact H.pg q (hUV q hq)
 ·simp only at hi ⊢;rw [e2,hc _ (by omega)];exact H.cnt i hi
 ·simp only at hq ⊢;rw [e2] at hq ⊢;have hq3:=hUV q hq;have:=H.pg q hq3;rw [hc _ (by
   rcases dE (q.1=-1) with e|e
   ·rw [this.2.2 e] at hq2;simp at hq2
   ·omega)]
  exact H.wr q hq3 hq2
end Go.AM
namespace Go.AM
open Go Go.Proofs Tryz
noncomputable section
@[simp] theorem zA9:za prog 36=some ⟨.struct [(0,3,1),(1,33,1),(2,34,1),(3,3,1)],4,64,[.int .i64 0,.slice none 0 0,.slice none 0 0,.int .i64 0]⟩:=by kernel_rfl
@[simp] theorem zzr:za prog 130=some ⟨.struct [(0,4,1),(1,125,1)],2,32,[.bool false,.slice none 0 0]⟩:=by kernel_rfl
@[simp] theorem zzs:za prog 128=some ⟨.struct [(0,3,1),(1,4,1)],2,16,[.int .i64 0,.bool false]⟩:=by kernel_rfl
@[simp] theorem zzt:za prog 56=some ⟨.struct [(0,3,1),(1,3,1)],2,16,[.int .i64 0,.int .i64 0]⟩:=by kernel_rfl
@[simp] theorem zw2:za prog 33=some ⟨.slice 130,1,24,[.slice none 0 0]⟩:=by kernel_rfl
@[simp] theorem zw3:za prog 125=some ⟨.slice 128,1,24,[.slice none 0 0]⟩:=by kernel_rfl
@[simp] theorem zw4:za prog 34=some ⟨.slice 56,1,24,[.slice none 0 0]⟩:=by kernel_rfl
def pgr (l:List CwP):List (List AV):=l.map fun p=>[I p.1,B p.2]
def spr (l:List CwS):List (List AV):=l.map fun s=>[B s.1,.rd 2 (pgr s.2)]
def CwV (c:Cw):AV:=.agg [I c.1,.rd 2 (spr c.2.1),.rd 2 (prw c.2.2.1),I c.2.2.2]
@[simp] theorem zxk (l:List CwP):(pgr l).length=l.length:=by simp [pgr]
@[simp] theorem zw7 (l:List CwS):(spr l).length=l.length:=by simp [spr]
theorem zaE:∀ {a b:List CwP},pgr a=pgr b↔a=b
 | [],[]=>by simp
 | [],b::r=>by simp [pgr]
 | a::r,[]=>by simp [pgr]
 | (a1,a2)::r,(b1,b2)::q=>by have ih:=zaE (a:=r) (b:=q);unfold pgr at ih ⊢;simp [ih,I,B,and_assoc]
theorem zaC:∀ {a b:List CwS},spr a=spr b↔a=b
 | [],[]=>by simp
 | [],b::r=>by simp [spr]
 | a::r,[]=>by simp [spr]
 | (a1,a2)::r,(b1,b2)::q=>by have ih:=zaC (a:=r) (b:=q);unfold spr at ih ⊢;simp [ih,B,zaE,and_assoc]
theorem zaJ {a b:Cw}:CwV a=CwV b↔a=b:=by obtain ⟨a1,a2,a3,a4⟩:=a;obtain ⟨b1,b2,b3,b4⟩:=b;simp [CwV,I,zaC,zaa]
theorem ze3 {l:List CwP} {i:Nat} (h:i<l.length):(pgr l)[i]?=some [I (gpg l i).1,B (gpg l i).2]:=by rw [zer h];simp [pgr,h]
theorem ze4 {l:List CwP} {i:Nat} (h:i<l.length):∀ h',(pgr l)[i]'(h')=[I (gpg l i).1,B (gpg l i).2]:=fun h'=>by rw [zer h];simp [pgr]
theorem ziF {l:List CwS} {i:Nat} (h:i<l.length):(spr l)[i]?=some [B (gsp l i).1,.rd 2 (pgr (gsp l i).2)]:=by rw [zf6 h];simp [spr,h]
theorem ziG {l:List CwS} {i:Nat} (h:i<l.length):∀ h',(spr l)[i]'(h')=[B (gsp l i).1,.rd 2 (pgr (gsp l i).2)]:=fun h'=>by rw [zf6 h];simp [spr]
theorem zfL {l:List CwP} {i:Nat} {x:CwP}:(pgr l).set i [I x.1,B x.2]=pgr (l.set i x):=by simp [pgr,List.map_set]
theorem zdU {l:List CwS} {i:Nat} {b:Bool} {p:List CwP}:(spr l).set i [B b,.rd 2 (pgr p)]=spr (l.set i (b,p)):=by simp [spr,List.map_set]
def ztI:List AV->Option AV:=spF (ι:={l:List CwP // l.length<=1000000}) (fun x=>[.rd 2 (pgr x.1)]) fun x=>rtO [.ow 2 (pgr x.1)]
theorem ztn {l:List CwP} (h:l.length<=1000000):ztI [.rd 2 (pgr l)]=some (.ow 2 (pgr l)) :=sFe (ι:={l:List CwP // l.length<=1000000}) (A:=fun x=>[.rd 2 (pgr x.1)]) (R:=fun x=>rtO [.ow 2 (pgr x.1)]) ⟨l,h⟩ (by rintro ⟨k,h⟩ e;simp [zaE] at e;subst e;rfl)
theorem s81 (X:AX) (hX:XOK prog X) (hw:X.W wT):PSd prog 81 ztI:=by
 unfold ztI;refine psS hX mixed func81 rfl fun ⟨ds,hl⟩ w0 G=>⟨by show 1<=8;decide,rfl,?_⟩
 show AW ⟨prog,X,8,w0,.pure G⟩ _ _ _;have hc:=okc hX 8 w0 G;simp only at hl ⊢;cases ds with
 | nil =>
  refine zba 0 2 (by simp [pgr,eSt]) ?_ fun p n=>?_
  ·refine zfe ?_;repeat (intro K hK)
   refine ⟨by simp,?_⟩;simp [lvI,f81,pgr];try exact dt
  ·refine zfe ?_;repeat (intro K hK)
   refine ⟨by simp,?_⟩;simp [lvI,f81,pgr];try exact dt
 | cons x ds =>
  have hl':ds.length+1<=1000000:=by simpa using hl
  obtain ⟨e,he⟩:∃ e,e=[I x.1,B x.2]:=⟨_,rfl⟩
  obtain ⟨T,hT⟩:∃ T,T=pgr ds:=⟨_,rfl⟩
  have hc2:pgr (x::ds)=e::T:=by rw [he,hT];rfl
  have hTl:T.length=ds.length:=by rw [hT];simp
  have tk:List.take T.length T=T:=tkL (Nat.le_refl _);rw [hc2];clear he hT;have zS:=tk;refine zl ?_;repeat (intro K hK)
  clear zS;refine ⟨by simp,?_⟩;simp [lvI,f81,tk];try exact dt
def zwa:List AV->Option AV:=spF (ι:={l:List CwS // l.length<=1000000}) (fun x=>[.rd 2 (spr x.1)]) fun x=>rtO [.ow 2 (spr x.1)]
theorem ztl {l:List CwS} (h:l.length<=1000000):zwa [.rd 2 (spr l)]=some (.ow 2 (spr l)) :=sFe (ι:={l:List CwS // l.length<=1000000}) (A:=fun x=>[.rd 2 (spr x.1)]) (R:=fun x=>rtO [.ow 2 (spr x.1)]) ⟨l,h⟩ (by rintro ⟨k,h⟩ e;simp [zaC] at e;subst e;rfl)
theorem zBP (X:AX) (hX:XOK prog X) (hw:X.W wT):PSd prog 160 zwa:=by
 unfold zwa;refine psS hX mixed func160 rfl fun ⟨ds,hl⟩ w0 G=>⟨by show 1<=8;decide,rfl,?_⟩
 show AW ⟨prog,X,8,w0,.pure G⟩ _ _ _;have hc:=okc hX 8 w0 G;simp only at hl ⊢;cases ds with
 | nil =>
  refine zba 0 2 (by simp [spr,eSt]) ?_ fun p n=>?_
  ·refine zfe ?_;repeat (intro K hK)
   refine ⟨by simp,?_⟩;simp [lvI,f160,spr];try exact dt
  ·refine zfe ?_;repeat (intro K hK)
   refine ⟨by simp,?_⟩;simp [lvI,f160,spr];try exact dt
 | cons x ds =>
  have hl':ds.length+1<=1000000:=by simpa using hl
  obtain ⟨e,he⟩:∃ e,e=[B x.1,.rd 2 (pgr x.2)]:=⟨_,rfl⟩
  obtain ⟨T,hT⟩:∃ T,T=spr ds:=⟨_,rfl⟩
  have hc2:spr (x::ds)=e::T:=by rw [he,hT];rfl
  have hTl:T.length=ds.length:=by rw [hT];simp
  have tk:List.take T.length T=T:=tkL (Nat.le_refl _);rw [hc2];clear he hT;have zS:=tk;refine zl ?_;repeat (intro K hK)
  clear zS;refine ⟨by simp,?_⟩;simp [lvI,f160,tk];try exact dt
def zwb:List AV->Option AV:=spF (ι:={l:List Dp // l.length<=1000000}) (fun x=>[.rd 2 (prw x.1)]) fun x=>rtO [.ow 2 (prw x.1)]
theorem ztm {l:List Dp} (h:l.length<=1000000):zwb [.rd 2 (prw l)]=some (.ow 2 (prw l)) :=sFe (ι:={l:List Dp // l.length<=1000000}) (A:=fun x=>[.rd 2 (prw x.1)]) (R:=fun x=>rtO [.ow 2 (prw x.1)]) ⟨l,h⟩ (by rintro ⟨k,h⟩ e;simp [zaa] at e;subst e;rfl)
theorem zBO (X:AX) (hX:XOK prog X) (hw:X.W wT):PSd prog 161 zwb:=by
 unfold zwb;refine psS hX mixed func161 rfl fun ⟨ds,hl⟩ w0 G=>⟨by show 1<=8;decide,rfl,?_⟩
 show AW ⟨prog,X,8,w0,.pure G⟩ _ _ _;have hc:=okc hX 8 w0 G;simp only at hl ⊢;cases ds with
 | nil =>
  refine zba 0 2 (by simp [prw,eSt]) ?_ fun p n=>?_
  ·refine zfe ?_;repeat (intro K hK)
   refine ⟨by simp,?_⟩;simp [lvI,f161,prw];try exact dt
  ·refine zfe ?_;repeat (intro K hK)
   refine ⟨by simp,?_⟩;simp [lvI,f161,prw];try exact dt
 | cons x ds =>
  have hl':ds.length+1<=1000000:=by simpa using hl
  obtain ⟨e,he⟩:∃ e,e=[I x.1,I x.2]:=⟨_,rfl⟩
  obtain ⟨T,hT⟩:∃ T,T=prw ds:=⟨_,rfl⟩
  have hc2:prw (x::ds)=e::T:=by rw [he,hT];rfl
  have hTl:T.length=ds.length:=by rw [hT];simp
  have tk:List.take T.length T=T:=tkL (Nat.le_refl _);rw [hc2];clear he hT;have zS:=tk;refine zl ?_;repeat (intro K hK)
  clear zS;refine ⟨by simp,?_⟩;simp [lvI,f161,tk];try exact dt
end
noncomputable section
def wnt (c:Cw) (s q:Nat):Int:=if (gsp c.2.1 s).1=true∧q<(gsp c.2.1 s).2.length then (gpg (gsp c.2.1 s).2 q).1 else -1
def wnw (c:Cw) (s q:Nat):Bool:=(gpg (gsp c.2.1 s).2 q).2
def pgN (q:Nat):Int:=((60+3*q:Nat):Int)
def fo0 (x:List Tb×Nat) (s q:Nat) (v:Int):List Tb:=if 0<=atT x.1 s (pgN q) then x.1.set s (zcM (tbG x.1 s) (pgN q)).1 else x.1
def fo1 (x:List Tb×Nat) (s q:Nat) (v:Int) (w:Bool):List Tb×Nat :=if atT x.1 s (pgN q)=v then x else
 if 0<=v then ((fo0 x s q v).set s (zdD (tbG (fo0 x s q v) s) (pgN q) (wdE v.toNat w) (nxF x.2 (zaq (tbG (fo0 x s q v) s) (pgN q)).1)).1,x.2+(zaq (tbG (fo0 x s q v) s) (pgN q)).1) else (fo0 x s q v,x.2)
def foQ (c:Cw) (x:List Tb×Nat) (s:Nat):Nat->List Tb×Nat
 | 0=>x
 | q+1=>fo1 (foQ c x s q) s q (wnt c s q) (wnw c s q)
def foA (c:Cw) (x:List Tb×Nat):Nat->List Tb×Nat
 | 0=>x
 | s+1=>foQ c (foA c x s) s 4
def foF (c:Cw) (F:Nat->Nat->Int) (s q:Nat):Nat->Nat->Int:=fun a b=>if b<4∧(a<s∨a=s∧b<q) then wnt c a b else F a b
theorem TbI.congr {N:Nat} {T:List Tb} {F F':Nat->Nat->Int} {nx:Nat} (h:TbI N T F nx) (hr:∀ s q,-1<=F' s q∧F' s q<32) (e:∀ s q,s<N->q<4->F s q=F' s q):TbI N T F' nx :=⟨h.n8,h.len,hr,fun s hs=>by
  obtain ⟨ns,m,h1,h2,h3⟩:=h.tb s hs;refine ⟨ns,m,h1,h2,fun p hp=>?_⟩;rcases h3 p hp with ⟨q,hq,e1,f,hf,w,hw⟩|⟨hn,h0⟩
  ·exact .inl ⟨q,hq,e1,f,by rw [<- e s q hs hq];exact hf,w,hw⟩
  ·exact .inr ⟨fun q hq e1=>by rw [<- e s q hs hq];exact hn q hq e1,h0⟩⟩
theorem TbI.rm0 {N:Nat} {T:List Tb} {F:Nat->Nat->Int} {nx:Nat} (h:TbI N T F nx) {s q:Nat} (hs:s<N) (hq:q<4) (v:Int):TbI N (fo0 (T,nx) s q v) (zr F s q (-1)) nx:=by
 have ha:atT (T,nx).1 s (pgN q)=F s q:=(h.at hs hq).1;unfold fo0;rcases dE (0<=F s q) with h0|h0
 ·rw [if_pos (by rw [ha];exact h0)];obtain ⟨f,hf⟩:=Int.eq_ofNat_of_zero_le h0;exact (h.remove hs hq hf).2
 ·rw [if_neg (by rw [ha];exact h0)];have hr:=h.rng s q;refine h.congr (fun a b=>?_) fun a b _ _=>?_
  ·unfold zr;split
   ·omega
   ·exact h.rng a b
  ·unfold zr;split
   ·rename_i hh;rw [hh.1,hh.2];omega
   ·rfl
theorem ztR {F:Nat->Nat->Int} {s q:Nat} {u v:Int}:zr (zr F s q u) s q v=zr F s q v:=by funext a b;unfold zr;split<;>rfl
theorem TbI.step {N:Nat} {T:List Tb} {F:Nat->Nat->Int} {nx:Nat} (h:TbI N T F nx) {s q:Nat} (hs:s<N) (hq:q<4) {v:Int} (hv:-1<=v∧v<32) (w:Bool) (hnx:nx<=4000000000) :
  TbI N (fo1 (T,nx) s q v w).1 (zr F s q v) (fo1 (T,nx) s q v w).2∧nx<=(fo1 (T,nx) s q v w).2∧(fo1 (T,nx) s q v w).2<=nx+2:=by
 have ha:atT (T,nx).1 s (pgN q)=F s q:=(h.at hs hq).1;have hru:∀ a b,-1<=zr F s q v a b∧zr F s q v a b<32:=fun a b=>by
  unfold zr;split
  ·exact hv
  ·exact h.rng a b
 have h0:=h.rm0 hs hq v;unfold fo1;rcases dE (F s q=v) with e|e
 ·rw [if_pos (by rw [ha];exact e)];refine ⟨h.congr hru fun a b _ _=>?_,Nat.le_refl _,Nat.le_add_right _ _⟩;unfold zr;split
  ·rename_i hh;rw [hh.1,hh.2];exact e
  ·rfl
 ·rw [if_neg (by rw [ha];exact e)];rcases dE (0<=v) with h1|h1
  ·rw [if_pos h1];obtain ⟨f,rfl⟩:=Int.eq_ofNat_of_zero_le h1;obtain ⟨i1,i2,i3,i4⟩:=h0.install (f:=f) hs hq (by unfold zr;rw [if_pos ⟨rfl,rfl⟩]) (by omega) w hnx;simp only [Int.toNat_natCast,pgN];rw [ztR] at i4;exact ⟨i4,Nat.le_add_right _ _,Nat.add_le_add_left i2 _⟩
  ·rw [if_neg h1];obtain rfl:v=-1:=by omega
   exact ⟨h0,Nat.le_refl _,Nat.le_add_right _ _⟩
theorem zjL {c:Cw} (h:zk c) (hf:c.2.2.1.length<=32) (s q:Nat):-1<=wnt c s q∧wnt c s q<32:=by
 unfold wnt;split
 ·rename_i hh;by_cases hs:s<c.2.1.length
  ·have:=h.pg _ (zb8 hs hh.2);omega
  ·have e:gsp c.2.1 s=(false,[]):=by unfold gsp;rw [List.getD_eq_getElem?_getD,List.getElem?_eq_none (by omega)];rfl
   rw [e] at hh;simp at hh
 ·omega
theorem zxA {c:Cw} {F:Nat->Nat->Int} {s q:Nat} (hq:q<4):zr (foF c F s q) s q (wnt c s q)=foF c F s (q+1):=by
 funext a b;unfold zr foF;by_cases e:a=s∧b=q
 ·obtain ⟨rfl,rfl⟩:=e;rw [if_pos ⟨rfl,rfl⟩,if_pos ⟨hq,.inr ⟨rfl,by omega⟩⟩]
 ·rw [if_neg e];by_cases e2:b<4∧(a<s∨a=s∧b<q)
  ·rw [if_pos e2,if_pos (by omega)]
  ·rw [if_neg e2,if_neg (by omega)]
theorem zxB {c:Cw} {F:Nat->Nat->Int} {s:Nat}:foF c F s 4=foF c F (s+1) 0:=by
 funext a b;unfold foF;by_cases e:b<4∧(a<s∨a=s∧b<4)
 ·rw [if_pos e,if_pos (by omega)]
 ·rw [if_neg e,if_neg (by omega)]
theorem zxC {c:Cw} {F:Nat->Nat->Int}:foF c F 0 0=F:=by funext a b;unfold foF;rw [if_neg (by omega)]
theorem zol {c:Cw} (h:zk c) (hf:c.2.2.1.length<=32) {F:Nat->Nat->Int} {x:List Tb×Nat} {s:Nat} (hs:s<8) (hT:TbI 8 x.1 (foF c F s 0) x.2) (hnx:x.2<=3000000000):∀ {q:Nat},q<=4->TbI 8 (foQ c x s q).1 (foF c F s q) (foQ c x s q).2∧x.2<=(foQ c x s q).2∧(foQ c x s q).2<=x.2+2*q
 | 0,_=>⟨hT,Nat.le_refl _,by simp only [foQ];omega⟩
 | q+1,hq=>by obtain ⟨i1,i2,i3⟩:=zol h hf hs hT hnx (q:=q) (by omega);obtain ⟨j1,j2,j3⟩:=i1.step hs (show q<4 by omega) (zjL h hf s q) (wnw c s q) (by omega);rw [zxA (by omega)] at j1;have e:foQ c x s (q+1)=fo1 ((foQ c x s q).1,(foQ c x s q).2) s q (wnt c s q) (wnw c s q):=rfl;rw [e];exact ⟨j1,by omega,by omega⟩
theorem zom {c:Cw} (h:zk c) (hf:c.2.2.1.length<=32) {F:Nat->Nat->Int} {x:List Tb×Nat} (hT:TbI 8 x.1 F x.2) (hnx:x.2<=2000000000):∀ {s:Nat},s<=8->TbI 8 (foA c x s).1 (foF c F s 0) (foA c x s).2∧x.2<=(foA c x s).2∧(foA c x s).2<=x.2+8*s
 | 0,_=>⟨by rw [zxC];exact hT,Nat.le_refl _,by simp only [foA];omega⟩
 | s+1,hs=>by obtain ⟨i1,i2,i3⟩:=zom h hf hT hnx (s:=s) (by omega);obtain ⟨j1,j2,j3⟩:=zol h hf (show s<8 by omega) i1 (by omega) (q:=4) (Nat.le_refl _);rw [zxB] at j1;exact ⟨j1,by simp only [foA];omega,by simp only [foA];omega⟩
end
structure FoX (X:AX):Prop where
 ok:XOK prog X
 w:X.W wT
 at':X.call 83=caP FBa
 rm:X.call 75=caG rmS
 ins:X.call 74=caG zmx
theorem zal {T:List Tb} {n:Nat}:(zh T n).length=n:=by simp [zh]
theorem zbX {T:List Tb} {f:Int}:(ofT T f).length<=32768:=by unfold ofT;have h1:=@zj1 (T.take 8) f (T.take 8).length;have h2:(T.take 8).length<=8:=List.length_take_le _ _;omega
theorem TbI.tok {N:Nat} {T:List Tb} {F:Nat->Nat->Int} {nx:Nat} (h:TbI N T F nx) {s:Nat} (hs:s<N):zf (tbG T s)∧(tbG T s).2.1.length<=999000:=by obtain ⟨ns,m,h1,h2,_⟩:=h.tb s hs;have:=h2.le;rw [h1];exact ⟨h2.ok,by simp only;omega⟩
theorem zu4 {X:AX} (L:FoX X) {N:Nat} {T:List Tb} {F:Nat->Nat->Int} {nx:Nat} (h:TbI N T F nx) {s q f:Nat} (hs:s<N) (hq:q<4) (hf:F s q=(f:Int)) (v:Int) {a t m:Nat} (hat:a≠t) (ham:a≠m) (htm:t≠m) (M:Nat->AO) (nid:Nat)
  (ha:M a=.box [.sl t 1 3 0 N,.sl m 1 1 0 32,I nx]) (hT:M t=.vec 1 3 false (zc T)) (hm:M m=.vec 1 1 false (zg (zh T 32))) :
  X.call 75 [.bp a 0,I s,I (pgN q),I f] M nid=some (B true,[(a,.box [.sl t 1 3 0 N,.sl m 1 1 0 32,I nx]),(t,.vec 1 3 false (zc (fo0 (T,nx) s q v))),(m,.vec 1 1 false (zg (zh (fo0 (T,nx) s q v) 32)))]):=by
 have hr:=h.rng s q;have hn8:=h.n8;have hlen:=h.len;have hf32:f<32:=by omega
 obtain ⟨r1,r2⟩:=h.remove hs hq hf;have hat':atT (T,nx).1 s (pgN q)=F s q:=(h.at hs hq).1;have e0:fo0 (T,nx) s q v=T.set s (zcM (tbG T s) (pgN q)).1:=by unfold fo0;rw [if_pos (by rw [hat',hf];omega)]
 have hT1:TbI N (fo0 (T,nx) s q v) (zr F s q (-1)) nx:=h.rm0 hs hq v;obtain ⟨k1,k2⟩:=h.rem hs hq hf hT1 hf32;have hg:gmm (zh T 32) f=ofT T (f:Int):=zi7 hf32;have hrr:zgS (gmm (zh T 32) f) ((s:Int),pgN q)=(ofT (fo0 (T,nx) s q v) (f:Int),0):=by rw [hg];exact k1
 obtain ⟨t1,t2⟩:=h.tok hs
 have:=@zsE T (zh T 32) (nx:Int) s f (pgN q) (fo0 (T,nx) s q v) (zh (fo0 (T,nx) s q v) 32) ⟨by omega,by omega,by rw [zal];exact hf32,by rw [zal];omega,t1,t2,r1,by rw [hg];have:=@zbX T (f:Int);omega,by rw [hrr]⟩ e0.symm
  (by rw [hrr];exact ziW hf32 rfl fun g hg hgf=>k2 g hgf) a t m hat ham htm M nid (by rw [zal,hlen];exact ha) hT hm
 rw [zal,hlen] at this;rw [L.rm];exact this
theorem zu5 {X:AX} (L:FoX X) {N:Nat} {T:List Tb} {F:Nat->Nat->Int} {nx:Nat} (h:TbI N T F nx) {s q f:Nat} (hs:s<N) (hq:q<4) (hF:F s q=-1) (hf:f<32) (w:Bool) (hnx:nx<=4000000000) {T':List Tb} {nx':Nat}
  (hT':T.set s (zdD (tbG T s) (pgN q) (wdE f w) (nxF nx (zaq (tbG T s) (pgN q)).1)).1=T') (hn':nx+(zaq (tbG T s) (pgN q)).1=nx') {a t m:Nat} (hat:a≠t) (ham:a≠m) (htm:t≠m) (M:Nat->AO) (nid:Nat)
  (ha:M a=.box [.sl t 1 3 0 N,.sl m 1 1 0 32,I nx]) (hT:M t=.vec 1 3 false (zc T)) (hm:M m=.vec 1 1 false (zg (zh T 32))) :
  X.call 74 [.bp a 0,I s,I (pgN q),I f,B w] M nid=some (B true,[(a,.box [.sl t 1 3 0 N,.sl m 1 1 0 32,I nx']),(t,.vec 1 3 false (zc T')),(m,.vec 1 1 false (zg (zh T' 32)))]):=by
 have hn8:=h.n8;have hlen:=h.len;obtain ⟨i1,i2,i3,i4⟩:=h.install hs hq hF hf w hnx;change TbI N (T.set s (zdD (tbG T s) (pgN q) (wdE f w) (nxF nx (zaq (tbG T s) (pgN q)).1)).1) _ (nx+(zaq (tbG T s) (pgN q)).1) at i4;rw [hT',hn'] at i4;obtain ⟨k1,k2⟩:=h.add hs hq hF i4 hf;have hg:gmm (zh T 32) f=ofT T (f:Int):=zi7 hf;have hrr:zhj (gmm (zh T 32) f) ((s:Int),pgN q)=(ofT T' (f:Int),0):=by rw [hg];exact k1
 obtain ⟨t1,t2⟩:=h.tok hs
 have:=@zsI T (zh T 32) nx s f (pgN q) w T' (zh T' 32) nx' ⟨by omega,by omega,by rw [zal];exact hf,by rw [zal];omega,t1,t2,hnx,i1,i2,i3,by rw [hg];have:=@zbX T (f:Int);omega,by rw [hrr]⟩ hT'
  (by rw [hrr];exact ziW hf rfl fun g hg hgf=>k2 g hgf) hn' a t m hat ham htm M nid (by rw [zal,hlen];exact ha) hT hm
 rw [zal,hlen] at this;rw [L.ins];exact this
theorem zxz {X:AX} (L:FoX X) {N:Nat} {T:List Tb} {F:Nat->Nat->Int} {nx:Nat} (h:TbI N T F nx) {s q:Nat} (hs:s<N) (hq:q<4) {a t m:Nat} (M:Nat->AO) (nid:Nat)
  (ha:M a=.box [.sl t 1 3 0 N,.sl m 1 1 0 32,I nx]) (hT:M t=.vec 1 3 false (zc T)) (hm:M m=.vec 1 1 false (zg (zh T 32))) :
  X.call 83 [.bp a 0,I s,I (pgN q)] M nid=some (I (F s q),[]):=by have hn8:=h.n8;have hlen:=h.len;obtain ⟨e,hu⟩:=h.at hs hq;have:=@zvG T (zh T 32) (nx:Int) s (pgN q) (by omega) (by omega) (h.tok hs).1 hu a t m M nid (by rw [zal,hlen];exact ha) hT hm;rw [L.at',this];show some (I (atT T s ((60+3*q:Nat):Int)),[])=_;rw [e]
set_option maxHeartbeats 4000000
theorem s79 (X:AX) (hX:XOK prog X):PSd prog 79 (spF (ι:=Dp) (fun x=>[.agg [I x.1,I x.2]]) fun x=>rtO [B (decide (x.1=0))]):=by
 refine psS hX mixed func79 rfl fun ⟨a,b⟩ w0 G=>⟨by show 1<=6;decide,rfl,?_⟩
 show AW ⟨prog,X,6,w0,.pure G⟩ _ _ _;have hc:=okc hX 6 w0 G;simp only;rcases dE (a=0) with h|h
 ·have zS:=h;refine zl ?_;repeat (intro K hK)
  clear zS;refine ⟨by simp,?_⟩;simp [lvI,f79,h];try exact dt
 ·have zS:=h;refine zl ?_;repeat (intro K hK)
  clear zS;refine ⟨by simp,?_⟩;simp [lvI,f79,h];try exact dt
def frI (l:List Dp):Int:=if frz l<l.length then (frz l:Int) else -1
theorem zu0 {l:List Dp} {i:Nat} (hi:i<l.length) (hp:(gp l i).1=0) (hn:∀ j,j<i->(gp l j).1≠0):frz l=i:=by unfold frz;rw [List.findIdx_eq hi];rw [zax hi] at hp;refine ⟨by simpa using hp,fun j hj=>?_⟩;have:=hn j hj;rw [zax (by omega)] at this;simpa using this
theorem zuZ {l:List Dp} (hn:∀ j,j<l.length->(gp l j).1≠0):frz l=l.length:=by unfold frz;rw [List.findIdx_eq_length];intro x hx;obtain ⟨j,hj,rfl⟩:=List.getElem_of_mem hx;have:=hn j hj;rw [zax hj] at this;simpa using this
noncomputable def zv7:List AV->Option AV:=spF (ι:={l:List Dp // l.length<=1000000}) (fun x=>[.rd 2 (prw x.1),.fn 79 []]) fun x=>rtO [I (frI x.1)]
theorem s78 (X:AX) (hX:XOK prog X) (hw:X.W wT) (hf:∀ a b M n,X.call 79 [.agg [I a,I b]] M n=some (B (decide (a=0)),[])):PSd prog 78 zv7:=by
 unfold zv7;refine psS hX mixed func78 rfl fun ⟨l,hl⟩ w0 G=>⟨by show 2<=19;decide,rfl,?_⟩
 show AW ⟨prog,X,19,w0,.pure G⟩ _ _ _;have hc:=okc hX 19 w0 G;simp only at hl ⊢;repeat' (first|(refine aSk fun K hK=>?_)|(refine eMo ?_)|(refine eC (fun h=>?_) (fun h=>?_)<;>(try simp at h))|(refine hK _ ?_;clear hK)|(clear hK;refine hK _ ?_;clear hK))
 refine aLK (s0:=?lps1) (m0:=?lpm1) (ι:={i:Nat // i<=l.length∧∀ j,j<i->(gp l j).1≠0}) [0,1,7] (fun i=>[(8,I i.1)]) (fun i=>[]) (fun i=>l.length - i.1) ⟨0,by omega,by omega⟩ ?lhs1 ?lhm1 ?_ ?_
 case lhs1=>first|(simp [kpS];done)|(simp [kpS];rfl)
 case lhm1=>first|rfl|(simp;done)|(simp;rfl)
 ·exact dle
 ·rintro ⟨i,hi,hn⟩;simp only;rcases dE (i<l.length) with hil|hil
  ·have hilI:(i:Int)<(l.length:Int):=by omega
   have hg:=zab hil;have hgE:=zac hil;have hat:=@zu0 l i hil;obtain ⟨⟨a,b⟩,hx⟩:∃ x,x=gp l i:=⟨_,rfl⟩
   rw [<- hx] at hg hgE hat;simp only at hg hgE hat;have hfi:=hf a b;rcases dE (a=0) with h0|h0
   ·have e:frI l=(i:Int):=by unfold frI;rw [hat h0 hn,if_pos hil]
    rw [e];rw [decide_eq_true h0] at hfi;have zS:=jj hilI<|jj hil<|jj hg<|jj hgE<|hfi;repeat' (first|(refine aSk fun K hK=>?_)|(refine zi ?_)|(refine eC (fun h=>?_) (fun h=>?_)<;>(try simp at h))|(refine hK _ ?_;clear hK)|clear hK)
    all_goals clear zS
    refine ⟨by simp,?_⟩;simp [lvI,f78];try exact dt
   ·rw [decide_eq_false h0] at hfi;have zS:=jj hilI<|jj hil<|jj hg<|jj hgE<|hfi;repeat' (first|(refine aSk fun K hK=>?_)|(refine zi ?_)|(refine eC (fun h=>?_) (fun h=>?_)<;>(try simp at h))|(refine hK _ ?_;clear hK)|clear hK)
    all_goals clear zS
    refine ⟨i+1,?_,⟨by omega,fun j hj=>?_⟩,by omega⟩
    ·exact dle
    ·rcases Nat.lt_succ_iff_lt_or_eq.1 hj with h5|rfl
     ·exact hn j h5
     ·rw [<- hx];exact h0
  ·obtain rfl:i=l.length:=by omega
   have e:frI l=-1:=by unfold frI;rw [zuZ hn,if_neg (by omega)]
   rw [e];repeat' (first|(refine aSk fun K hK=>?_)|(refine eMo ?_)|(refine eC (fun h=>?_) (fun h=>?_)<;>(try simp at h))|(refine hK _ ?_;clear hK)|clear hK)
   refine ⟨by simp,?_⟩;simp [lvI,f78];try exact dt
theorem zBs (X:AX) (hX:XOK prog X):PSd prog 206 (spF (ι:=Int×Int) (fun x=>[I x.1,I x.2]) fun x=>rtO [B (decide (1<=x.1∧x.1<=x.2))]):=by
 refine psS hX mixed func206 rfl fun ⟨a,b⟩ w0 G=>⟨by show 2<=12;decide,rfl,?_⟩
 show AW ⟨prog,X,12,w0,.pure G⟩ _ _ _;have hc:=okc hX 12 w0 G;simp only;rcases dE (1<=a) with h1|h1
 ·rcases dE (a<=b) with h2|h2
  ·have zS:=jj h1<|h2;refine zl ?_;repeat (intro K hK)
   clear zS;refine ⟨by simp,?_⟩;simp [lvI,f206,h1,h2];try exact dt
  ·have zS:=jj h1<|h2;refine zl ?_;repeat (intro K hK)
   clear zS;refine ⟨by simp,?_⟩;simp [lvI,f206,h1,h2];try exact dt
 ·have zS:=h1;refine zl ?_;repeat (intro K hK)
  clear zS;refine ⟨by simp,?_⟩;simp [lvI,f206,h1];try exact dt
noncomputable def zwT:List AV->Option AV:=spF (ι:={c:Cw // zk c}) (fun x=>[CwV x.1]) fun _=>rtO [B true]
theorem zBr (X:AX) (hX:XOK prog X) (hw:X.W wT):PSd prog 207 zwT:=by
 unfold zwT;refine psS hX mixed func207 rfl fun ⟨⟨sz,ss,fr,cp⟩,h⟩ w0 G=>⟨by show 1<=64;decide,rfl,?_⟩
 show AW ⟨prog,X,64,w0,.pure G⟩ _ _ _;have hc:=okc hX 64 w0 G;have hsz:=h.sz;have hsp:=h.sp;have hfr:=h.fr;have hlv:=h.live;have hpg:=h.pg;simp only at hsz hsp hfr hlv hpg ⊢;unfold CwV;simp only;repeat' (first|(refine aSk fun K hK=>?_)|(refine eMo ?_)|(refine eC (fun h=>?_) (fun h=>?_)<;>(try simp at h))|(refine hK _ ?_;clear hK)|(clear hK;refine hK _ ?_;clear hK))
 refine aLK (s0:=?lps2) (m0:=?lpm2) (ι:={i:Nat // i<=ss.length}) [1,8,9] (fun i=>[(10,I i.1)]) (fun i=>[]) (fun i=>ss.length - i.1) ⟨0,by omega⟩ ?lhs2 ?lhm2 ?_ ?_
 case lhs2=>first|(simp [kpS];done)|(simp [kpS];rfl)
 case lhm2=>first|rfl|(simp;done)|(simp;rfl)
 ·exact dle
 ·rintro ⟨i,hi⟩;simp only;rcases dE (i<ss.length) with hil|hil
  ·have hilI:(i:Int)<(ss.length:Int):=by omega
   have hg:=ziF hil;have hgE:=ziG hil;have hl:=hlv _ (zaT hil);have hp:∀ p∈(gsp ss i).2,p∈pgs ss:=fun p hp=>zj4.2 ⟨_,zaT hil,hp⟩;obtain ⟨⟨b,l⟩,hx⟩:∃ x,x=gsp ss i:=⟨_,rfl⟩
   rw [<- hx] at hg hgE hl hp;simp only at hg hgE hl hp;have hls:(b=true∧(l.length:Int)=sz)∨(b=false∧l.length=0):=by
    cases b with
    | true=>exact .inl ⟨rfl,hl.1 rfl⟩
    | false=>exact .inr ⟨rfl,by rw [hl.2 rfl];rfl⟩
   rcases hls with ⟨rfl,hls⟩|⟨rfl,hls⟩
   ·have zS:=jj hilI<|jj hil<|jj hg<|jj hgE<|hls;repeat' (first|(refine aSk fun K hK=>?_)|(refine zi ?_)|(refine eC (fun h=>?_) (fun h=>?_)<;>(try simp at h))|(refine hK _ ?_;clear hK)|(clear hK;refine hK _ ?_;clear hK))
    all_goals clear zS
    refine aLK (s0:=?lps3) (m0:=?lpm3) (ι:={j:Nat // j<=l.length}) [1,8,9,10,36,37] (fun j=>[(38,I j.1),(37,I l.length)]) (fun j=>[]) (fun j=>l.length - j.1) ⟨0,by omega⟩ ?lhs3 ?lhm3 ?_ ?_
    case lhs3=>first|(simp [kpS];done)|(simp [kpS];rfl)
    case lhm3=>first|rfl|(simp;done)|(simp;rfl)
    ·exact zaN (by simp) (by simp [zdT,AV.under,AV.underL,hls]<;>omega) (by simp [zeE,AO.under,AV.underL,AV.under,hls]<;>omega)
    ·rintro ⟨j,hj⟩;simp only;rcases dE (j<l.length) with hjl|hjl
     ·have hjI:(j:Int)<(l.length:Int):=by omega
      have hg1:=ze3 hjl;have hgE1:=ze4 hjl;have hpj:=hpg _ (hp _ (zhT hjl));obtain ⟨⟨f,wr⟩,hx2⟩:∃ x,x=gpg l j:=⟨_,rfl⟩
      rw [<- hx2] at hg1 hgE1 hpj;simp only at hg1 hgE1 hpj;have h1:¬ f < -1:=by omega
      have h2:¬ (fr.length:Int)<=f:=by omega
      rcases dE (f=-1) with h3|h3
      ·have h4:=hpj.2.2 h3;subst h3;subst h4;have zS:=jj hjI<|jj hjl<|jj hg1<|jj hgE1<|h2;repeat' (first|(refine aSk fun K hK=>?_)|(refine zi ?_)|(refine eC (fun h=>?_) (fun h=>?_)<;>(try simp at h))|(refine hK _ ?_;clear hK)|clear hK)
       all_goals clear zS
       refine ⟨j+1,?_,by omega,by omega⟩;exact dle
      ·have zS:=jj hjI<|jj hjl<|jj hg1<|jj hgE1<|jj h1<|jj h2<|h3;repeat' (first|(refine aSk fun K hK=>?_)|(refine zi ?_)|(refine eC (fun h=>?_) (fun h=>?_)<;>(try simp at h))|(refine hK _ ?_;clear hK)|clear hK)
       all_goals clear zS
       refine ⟨j+1,?_,by omega,by omega⟩;exact dle
     ·obtain rfl:j=l.length:=by omega
      repeat' (first|(refine aSk fun K hK=>?_)|(refine eMo ?_)|(refine eC (fun h=>?_) (fun h=>?_)<;>(try simp at h))|(refine hK _ ?_;clear hK)|clear hK)
      refine ⟨i+1,?_,by omega,by omega⟩;exact dle
   ·have zS:=jj hilI<|jj hil<|jj hg<|jj hgE<|hls;repeat' (first|(refine aSk fun K hK=>?_)|(refine zi ?_)|(refine eC (fun h=>?_) (fun h=>?_)<;>(try simp at h))|(refine hK _ ?_;clear hK)|(clear hK;refine hK _ ?_;clear hK))
    all_goals clear zS
    refine aLK (s0:=?lps4) (m0:=?lpm4) (ι:=Unit) [1,8,9,10,36,37] (fun j=>[(38,I 0),(37,I 0)]) (fun j=>[]) (fun j=>0) () ?lhs4 ?lhm4 ?_ ?_
    case lhs4=>first|(simp [kpS];done)|(simp [kpS];rfl)
    case lhm4=>first|rfl|(simp;done)|(simp;rfl)
    ·exact dle
    ·rintro ⟨⟩;simp only;repeat' (first|(refine aSk fun K hK=>?_)|(refine eMo ?_)|(refine eC (fun h=>?_) (fun h=>?_)<;>(try simp at h))|(refine hK _ ?_;clear hK)|clear hK)
     refine ⟨i+1,?_,by omega,by omega⟩;exact dle
  ·obtain rfl:i=ss.length:=by omega
   repeat' (first|(refine aSk fun K hK=>?_)|(refine eMo ?_)|(refine eC (fun h=>?_) (fun h=>?_)<;>(try simp at h))|(refine hK _ ?_;clear hK)|clear hK)
   refine ⟨by simp,?_⟩;simp [lvI,f207];try exact dt
def zgH (n:Nat) (Q:List CwP):List Int:=(List.range n).map fun f:Nat=>(zbn Q (f:Int):Int)
def wrF (Q:List CwP) (f:Int):Bool:=Q.any fun p=>decide (p.1=f)&&p.2
def zh4 (n:Nat) (Q:List CwP):List Bool:=(List.range n).map fun f:Nat=>wrF Q (f:Int)
@[simp] theorem zwx {n:Nat} {Q:List CwP}:(zgH n Q).length=n:=by simp [zgH]
@[simp] theorem zww {n:Nat} {Q:List CwP}:(zh4 n Q).length=n:=by simp [zh4]
theorem zvl {n:Nat}:List.replicate n [AV.v (.int .i64 0)]=irw (zgH n []):=by
 apply List.ext_getElem
 ·simp
 ·intro i h1 h2;simp [irw,zgH,zbn,I]
theorem zvi {n:Nat}:List.replicate n [AV.v (.bool false)]=zaP (zh4 n []):=by
 apply List.ext_getElem
 ·simp
 ·intro i h1 h2;simp [zaP,zh4,wrF,B]
theorem zsj {n i:Nat} {Q:List CwP} (h:i<n):gi (zgH n Q) i=(zbn Q (i:Int):Int):=by rw [zgG (by simpa using h)];simp [zgH]
theorem zuY {n i:Nat} {Q:List CwP} (h:i<n):(zh4 n Q).getD i false=wrF Q (i:Int):=by rw [List.getD_eq_getElem?_getD,List.getElem?_eq_getElem (by simpa using h)];simp [zh4]
theorem zvj {n f:Nat} {Q:List CwP} {w:Bool} (h:f<n):(irw (zgH n Q)).set f [AV.v (.int .i64 ((zbn Q (f:Int):Int)+1))]=irw (zgH n (Q++[((f:Int),w)])):=by
 apply List.ext_getElem
 ·simp
 ·intro i h1 h2;rw [List.getElem_set];by_cases e:f=i
  ·subst e;simp [irw,zgH,zbh,zbg,zft,I]
  ·rw [if_neg e];have:¬ (f:Int)=(i:Int):=by omega
   simp [irw,zgH,zbh,zbg,zft,I,this]
theorem zvg {n f:Nat} {Q:List CwP} {w:Bool} (h:f<n):(zaP (zh4 n Q)).set f [B (wrF Q (f:Int)||w)]=zaP (zh4 n (Q++[((f:Int),w)])):=by
 apply List.ext_getElem
 ·simp
 ·intro i h1 h2;rw [List.getElem_set];by_cases e:f=i
  ·subst e;simp [zaP,zh4,wrF,B]
  ·rw [if_neg e];have:¬ (f:Int)=(i:Int):=by omega
   simp [zaP,zh4,wrF,B,this]
theorem zvk {n:Nat} {Q:List CwP} {p:CwP} (h:p.1<0):zgH n (Q++[p])=zgH n Q:=by unfold zgH;refine List.map_congr_left fun f _=>?_;rw [zbh,zbg,if_neg (by omega),zft];simp
theorem zvh {n:Nat} {Q:List CwP} {p:CwP} (h:p.1<0):zh4 n (Q++[p])=zh4 n Q:=by
 unfold zh4;refine List.map_congr_left fun f _=>?_;have:¬ p.1=(f:Int):=by omega
 simp [wrF,this]
theorem zui {ss:List CwS} {i:Nat} (h:i<ss.length):pgs (ss.take (i+1))=pgs (ss.take i)++(gsp ss i).2:=by unfold pgs;rw [List.take_add_one,List.getElem?_eq_getElem h,zf6 h,List.flatMap_append];simp
theorem zpR {l:List CwP} {j:Nat} (h:j<l.length):l.take (j+1)=l.take j++[gpg l j]:=by rw [List.take_add_one,List.getElem?_eq_getElem h,zer h];simp
theorem znn:∀ {ss:List CwS},(∀ s∈ss,s.2.length<=512)->(pgs ss).length<=512*ss.length
 | [],_=>by simp [pgs]
 | s::ss,h=>by have ih:=znn (ss:=ss) fun t ht=>h t (by simp [ht]);have h1:=h s (by simp);unfold pgs at ih ⊢;simp only [List.flatMap_cons,List.length_append,List.length_cons];omega
noncomputable def zwU:List AV->Option AV:=spF (ι:={c:Cw // zk c}) (fun x=>[CwV x.1]) fun _=>rtO [I 0]
set_option maxHeartbeats 8000000 in
theorem zBN (X:AX) (hX:XOK prog X) (hw:X.W wT) (hin:∀ a b M n,X.call 206 [I a,I b] M n=some (B (decide (1<=a∧a<=b)),[])) (hfo:∀ c,zk c->∀ M n,X.call 207 [CwV c] M n=some (B true,[])):PSd prog 162 zwU:=by
 unfold zwU;refine psS hX mixed func162 rfl fun ⟨⟨sz,ss,fr,cp⟩,h⟩ w0 G=>⟨by show 1<=137;decide,rfl,?_⟩
 show AW ⟨prog,X,137,w0,.pure G⟩ _ _ _;have hc:=okc hX 137 w0 G;have hsz:=h.sz;have hsp:=h.sp;have hfr:=h.fr;have hcp:=h.cp;have hpg:=h.pg;have hcn:=h.cnt;have hwr:=h.wr;have hfo:=hfo _ h;have hlen:∀ s∈ss,s.2.length<=512:=fun s hs=>by
  have h1:=h.live s hs;have h2:=h.sz;simp only at h1 h2;cases e:s.1 with
  | true=>have:=h1.1 e;omega
  | false=>rw [h1.2 e];simp
 simp only at hsz hsp hfr hcp hpg hcn hwr hfo ⊢;unfold CwV at hfo ⊢;simp only at hfo ⊢;have i1:=hin sz 512;have i2:=hin ss.length 8;have i3:=hin fr.length 256;rw [decide_eq_true ⟨by omega,by omega⟩] at i1;rw [decide_eq_true ⟨by omega,by omega⟩] at i2;rw [decide_eq_true ⟨by omega,by omega⟩] at i3;have c1:¬ cp<0:=by omega
 have c2:¬ 1048576<cp:=by omega
 have cwSh0:=fun n=>@zvl n;have cwWr0:=fun n=>@zvi n;have zS:=jj i1<|jj i2<|jj i3<|jj c1<|jj c2<|jj hfo<|jj cwSh0<|cwWr0;repeat' (first|(refine aSk fun K hK=>?_)|(refine zi ?_)|(refine eC (fun h=>?_) (fun h=>?_)<;>(try simp at h))|(refine hK _ ?_;clear hK)|(clear hK;refine hK _ ?_;clear hK))
 all_goals clear zS
 refine aLK (s0:=?lps1) (m0:=?lpm1) (ι:={i:Nat // i<=ss.length}) [1,4,5,57,58] (fun i=>[(59,I i.1)]) (fun i=>[(640,.vec 1 1 false (irw (zgH fr.length (pgs (ss.take i.1))))),(720,.vec 1 1 false (zaP (zh4 fr.length (pgs (ss.take i.1)))))]) (fun i=>ss.length - i.1) ⟨0,by omega⟩ ?lhs1 ?lhm1 ?_ ?_
 case lhs1=>first|(simp [kpS];done)|(simp [kpS];rfl)
 case lhm1=>first|rfl|(simp;done)|(simp;rfl)
 ·have e0:pgs (ss.take 0)=[]:=by simp [pgs]
  simp only [e0];exact zaN (by simp) (by simp [zdT,AV.under,AV.underL,zbC]<;>omega) (by simp [zeE,AO.under,AV.underL,AV.under,zbC]<;>omega)
 ·rintro ⟨i,hi⟩;simp only;rcases dE (i<ss.length) with hil|hil
  ·have hilI:(i:Int)<(ss.length:Int):=by omega
   have hg:=ziF hil;have hgE:=ziG hil;have hll:=hlen _ (zaT hil);have hQ0l:(pgs (ss.take i)).length<=4096:=by
    have h1:=@znn (ss.take i) fun s hs=>hlen s (List.mem_of_mem_take hs);have h2:(ss.take i).length<=8:=by simp;omega
    omega
   have hp:∀ p∈(gsp ss i).2,p∈pgs ss:=fun p hp=>zj4.2 ⟨_,zaT hil,hp⟩;have hps:=zui hil;obtain ⟨Q0,hQ0⟩:∃ Q,Q=pgs (ss.take i):=⟨_,rfl⟩
   obtain ⟨⟨b,l⟩,hx⟩:∃ x,x=gsp ss i:=⟨_,rfl⟩
   rw [<- hx] at hg hgE hp hps hll;rw [<- hQ0] at hps hQ0l ⊢;simp only at hg hgE hp hps hll;have zS:=jj hilI<|jj hil<|jj hg<|hgE;repeat' (first|(refine aSk fun K hK=>?_)|(refine zp ?_)|(refine eC (fun h=>?_) (fun h=>?_)<;>(try simp at h))|(refine hK _ ?_;clear hK)|(clear hK;refine hK _ ?_;clear hK))
   all_goals clear zS
   refine aLK (s0:=?lps2) (m0:=?lpm2) (ι:={j:Nat // j<=l.length}) [1,4,5,57,58,59,64,65] (fun j=>[(66,I j.1)]) (fun j=>[(640,.vec 1 1 false (irw (zgH fr.length (Q0++l.take j.1)))),(720,.vec 1 1 false (zaP (zh4 fr.length (Q0++l.take j.1))))]) (fun j=>l.length - j.1) ⟨0,by omega⟩ ?lhs2 ?lhm2 ?_ ?_
   case lhs2=>first|(simp [kpS];done)|(simp [kpS];rfl)
   case lhm2=>first|rfl|(simp;done)|(simp;rfl)
   ·simp only [List.take_zero,List.append_nil];exact zaN (by simp) (by simp [zdT,AV.under,AV.underL,zbC]<;>omega) (by simp [zeE,AO.under,AV.underL,AV.under,zbC]<;>omega)
   ·rintro ⟨j,hj⟩;simp only;rcases dE (j<l.length) with hjl|hjl
    ·have hjI:(j:Int)<(l.length:Int):=by omega
     have hg1:=ze3 hjl;have hgE1:=ze4 hjl;have hpj:=hpg _ (hp _ (zhT hjl));have hts:=zpR hjl;obtain ⟨⟨f,wr⟩,hx2⟩:∃ x,x=gpg l j:=⟨_,rfl⟩
     rw [<- hx2] at hg1 hgE1 hpj hts;simp only at hg1 hgE1 hpj;obtain ⟨Q,hQ⟩:∃ Q,Q=Q0++l.take j:=⟨_,rfl⟩
     have hQs:Q0++l.take (j+1)=Q++[(f,wr)]:=by rw [hts,hQ,List.append_assoc]
     rw [<- hQ];rcases dE (0<=f) with h0|h0
     ·obtain ⟨f,rfl⟩:=Int.eq_ofNat_of_zero_le h0;have hfl:f<fr.length:=by omega
      have hflI:(f:Int)<(fr.length:Int):=by omega
      have hs1:=zb1 (l:=zgH fr.length Q) (n:=f) (by simpa using hfl);have hs2:=zeo (l:=zgH fr.length Q) (n:=f) (by simpa using hfl);have hw1:=zcI (l:=zh4 fr.length Q) (n:=f) (by simpa using hfl);have hw2:=zdu (l:=zh4 fr.length Q) (n:=f) (by simpa using hfl);rw [zsj hfl] at hs1 hs2;rw [zuY hfl] at hw1 hw2;have hss:=zvj (Q:=Q) (w:=wr) hfl;have hws:=zvg (Q:=Q) (w:=wr) hfl;have hcl:zbn Q (f:Int)<=Q.length:=by unfold zbn;exact List.length_filter_le _ _
      have hQl:Q.length<=1000000:=by rw [hQ];simp;omega
      obtain ⟨w0',hw0'⟩:∃ w,w=wrF Q (f:Int):=⟨_,rfl⟩
      rw [<- hw0'] at hw1 hw2 hws;cases w0' with
      | true =>
       rw [Bool.true_or] at hws;simp only [B] at hws;have zS:=jj hjI<|jj hjl<|jj hg1<|jj hgE1<|jj hfl<|jj hflI<|jj hs1<|jj hs2<|jj hw1<|jj hw2<|jj hss<|hws;repeat' (first|(refine aSk fun K hK=>?_)|(refine zp ?_)|(refine eC (fun h=>?_) (fun h=>?_)<;>(try simp at h))|(refine hK _ ?_;clear hK)|clear hK)
       all_goals clear zS
       refine ⟨j+1,?_,by omega,by omega⟩;rw [hQs];exact dle
      | false =>
       rw [Bool.false_or] at hws;have zS:=jj hjI<|jj hjl<|jj hg1<|jj hgE1<|jj hfl<|jj hflI<|jj hs1<|jj hs2<|jj hw1<|jj hw2<|jj hss<|hws;repeat' (first|(refine aSk fun K hK=>?_)|(refine zp ?_)|(refine eC (fun h=>?_) (fun h=>?_)<;>(try simp at h))|(refine hK _ ?_;clear hK)|clear hK)
       all_goals clear zS
       refine ⟨j+1,?_,by omega,by omega⟩;rw [hQs];exact dle
     ·have e1:=zvk (n:=fr.length) (Q:=Q) (p:=(f,wr)) (by simp only;omega);have e2:=zvh (n:=fr.length) (Q:=Q) (p:=(f,wr)) (by simp only;omega);have zS:=jj hjI<|jj hjl<|jj hg1<|jj hgE1<|h0;repeat' (first|(refine aSk fun K hK=>?_)|(refine zp ?_)|(refine eC (fun h=>?_) (fun h=>?_)<;>(try simp at h))|(refine hK _ ?_;clear hK)|clear hK)
      all_goals clear zS
      refine ⟨j+1,?_,by omega,by omega⟩;rw [hQs,e1,e2];exact dle
    ·obtain rfl:j=l.length:=by omega
     repeat' (first|(refine aSk fun K hK=>?_)|(refine zd2 ?_)|(refine eC (fun h=>?_) (fun h=>?_)<;>(try simp at h))|(refine hK _ ?_;clear hK)|clear hK)
     refine ⟨i+1,?_,by omega,by omega⟩;rw [hps];exact dle
  ·obtain rfl:i=ss.length:=by omega
   rw [List.take_length];repeat' (first|(refine aSk fun K hK=>?_)|(refine zd2 ?_)|(refine eC (fun h=>?_) (fun h=>?_)<;>(try simp at h))|(refine hK _ ?_;clear hK)|(clear hK;refine hK _ ?_;clear hK))
   refine aLK (s0:=?lps3) (m0:=?lpm3) (ι:={i:Nat // i<=fr.length}) [4,5,96,97] (fun i=>[(98,I i.1)]) (fun i=>[]) (fun i=>fr.length - i.1) ⟨0,by omega⟩ ?lhs3 ?lhm3 ?_ ?_
   case lhs3=>first|(simp [kpS];done)|(simp [kpS];rfl)
   case lhm3=>first|rfl|(simp;done)|(simp;rfl)
   ·exact dle
   ·rintro ⟨i,hi⟩;simp only;rcases dE (i<fr.length) with hil|hil
    ·have hilI:(i:Int)<(fr.length:Int):=by omega
     have hg:=zab hil;have hgE:=zac hil;have hci:=hcn i hil;have hs1:=zb1 (l:=zgH fr.length (pgs ss)) (n:=i) (by simpa using hil);have hs2:=zeo (l:=zgH fr.length (pgs ss)) (n:=i) (by simpa using hil);rw [zsj hil,<- hci.1] at hs1 hs2;obtain ⟨⟨a,b⟩,hx⟩:∃ x,x=gp fr i:=⟨_,rfl⟩
     rw [<- hx] at hg hgE hci hs1 hs2;simp only at hg hgE hci hs1 hs2;rcases dE (a=0) with h0|h0
     ·have hb:=hci.2 h0;subst h0;subst hb;have zS:=jj hilI<|jj hil<|jj hg<|jj hgE<|jj hs1<|hs2;repeat' (first|(refine aSk fun K hK=>?_)|(refine zp ?_)|(refine eC (fun h=>?_) (fun h=>?_)<;>(try simp at h))|(refine hK _ ?_;clear hK)|clear hK)
      all_goals clear zS
      refine ⟨i+1,?_,by omega,by omega⟩;exact dle
     ·have zS:=jj hilI<|jj hil<|jj hg<|jj hgE<|jj hs1<|jj hs2<|h0;repeat' (first|(refine aSk fun K hK=>?_)|(refine zp ?_)|(refine eC (fun h=>?_) (fun h=>?_)<;>(try simp at h))|(refine hK _ ?_;clear hK)|clear hK)
      all_goals clear zS
      refine ⟨i+1,?_,by omega,by omega⟩;exact dle
    ·obtain rfl:i=fr.length:=by omega
     repeat' (first|(refine aSk fun K hK=>?_)|(refine zd2 ?_)|(refine eC (fun h=>?_) (fun h=>?_)<;>(try simp at h))|(refine hK _ ?_;clear hK)|(clear hK;refine hK _ ?_;clear hK))
     refine aLK (s0:=?lps4) (m0:=?lpm4) (ι:={i:Nat // i<=fr.length}) [4,121,122] (fun i=>[(123,I i.1)]) (fun i=>[]) (fun i=>fr.length - i.1) ⟨0,by omega⟩ ?lhs4 ?lhm4 ?_ ?_
     case lhs4=>first|(simp [kpS];done)|(simp [kpS];rfl)
     case lhm4=>first|rfl|(simp;done)|(simp;rfl)
     ·exact dle
     ·rintro ⟨i,hi⟩;simp only;rcases dE (i<fr.length) with hil|hil
      ·have hilI:(i:Int)<(fr.length:Int):=by omega
       have hs1:=zb1 (l:=zgH fr.length (pgs ss)) (n:=i) (by simpa using hil);have hs2:=zeo (l:=zgH fr.length (pgs ss)) (n:=i) (by simpa using hil);have hw1:=zcI (l:=zh4 fr.length (pgs ss)) (n:=i) (by simpa using hil);have hw2:=zdu (l:=zh4 fr.length (pgs ss)) (n:=i) (by simpa using hil);rw [zsj hil] at hs1 hs2;rw [zuY hil] at hw1 hw2;have hone:wrF (pgs ss) (i:Int)=true->((zbn (pgs ss) (i:Int):Nat):Int)=1:=fun hh=>by obtain ⟨p,hp,hh2⟩:=List.any_eq_true.1 hh;simp only [Bool.and_eq_true,decide_eq_true_eq] at hh2;have:=hwr p hp hh2.2;rw [hh2.1] at this;omega
       obtain ⟨wv,hwv⟩:∃ w,w=wrF (pgs ss) (i:Int):=⟨_,rfl⟩
       rw [<- hwv] at hw1 hw2 hone;cases wv with
       | true =>
        rw [hone rfl] at hs1 hs2;have zS:=jj hilI<|jj hil<|jj hs1<|jj hs2<|jj hw1<|hw2;repeat' (first|(refine aSk fun K hK=>?_)|(refine zp ?_)|(refine eC (fun h=>?_) (fun h=>?_)<;>(try simp at h))|(refine hK _ ?_;clear hK)|clear hK)
        all_goals clear zS
        refine ⟨i+1,?_,by omega,by omega⟩;exact dle
       | false =>
        have zS:=jj hilI<|jj hil<|jj hs1<|jj hs2<|jj hw1<|hw2;repeat' (first|(refine aSk fun K hK=>?_)|(refine zp ?_)|(refine eC (fun h=>?_) (fun h=>?_)<;>(try simp at h))|(refine hK _ ?_;clear hK)|clear hK)
        all_goals clear zS
        refine ⟨i+1,?_,by omega,by omega⟩;exact dle
      ·obtain rfl:i=fr.length:=by omega
       repeat' (first|(refine aSk fun K hK=>?_)|(refine zd2 ?_)|(refine eC (fun h=>?_) (fun h=>?_)<;>(try simp at h))|(refine hK _ ?_;clear hK)|clear hK)
       refine ⟨by simp,?_⟩;simp [lvI,f162];try exact dt
def cqL (W:Nat->Nat->Int) (f:Int) (s:Nat):Nat->List Dp
 | 0=>[]
 | k+1=>cqL W f s k++if W s k=f then [((s:Int),((60+3*k:Nat):Int))] else []
def csL (W:Nat->Nat->Int) (f:Int):Nat->List Dp
 | 0=>[]
 | s+1=>csL W f s++cqL W f s 4
theorem zhN {W:Nat->Nat->Int} {f:Int} {s:Nat} {x:Dp}:∀ {k:Nat},x∈cqL W f s k↔∃ q,q<k∧x=((s:Int),((60+3*q:Nat):Int))∧W s q=f
 | 0=>by simp [cqL]
 | k+1=>by
  simp only [cqL,List.mem_append,zhN (k:=k)];constructor
  ·rintro (⟨q,h1,h2,h3⟩|h)
   ·exact ⟨q,by omega,h2,h3⟩
   ·split at h
    ·rename_i h0;exact ⟨k,by omega,by simpa using h,h0⟩
    ·simp at h
  ·rintro ⟨q,h1,h2,h3⟩;rcases Nat.lt_succ_iff_lt_or_eq.1 h1 with h4|rfl
   ·exact .inl ⟨q,h4,h2,h3⟩
   ·right;rw [if_pos h3];simpa using h2
theorem zj6 {W:Nat->Nat->Int} {f:Int} {x:Dp}:∀ {n:Nat},x∈csL W f n↔∃ s q,s<n∧q<4∧x=((s:Int),((60+3*q:Nat):Int))∧W s q=f
 | 0=>by simp [csL]
 | n+1=>by
  simp only [csL,List.mem_append,zj6 (n:=n),zhN];constructor
  ·rintro (⟨s,q,h1,h2,h3,h4⟩|⟨q,h1,h2,h3⟩)
   ·exact ⟨s,q,by omega,h2,h3,h4⟩
   ·exact ⟨n,q,by omega,h1,h2,h3⟩
  ·rintro ⟨s,q,h1,h2,h3,h4⟩;rcases Nat.lt_succ_iff_lt_or_eq.1 h1 with h5|rfl
   ·exact .inl ⟨s,q,h5,h2,h3,h4⟩
   ·exact .inr ⟨q,h2,h3,h4⟩
theorem zoy {W:Nat->Nat->Int} {f:Int} {s:Nat}:∀ {k:Nat},(cqL W f s k).Pairwise ltM
 | 0=>by simp [cqL]
 | k+1=>by
  rw [cqL,List.pairwise_append];refine ⟨zoy,by split<;>simp,fun a ha b hb=>?_⟩;obtain ⟨q,h1,rfl,_⟩:=zhN.1 ha;split at hb
  ·simp only [List.mem_singleton] at hb;subst hb;exact .inr ⟨rfl,by show ((60+3*q:Nat):Int)<((60+3*k:Nat):Int);omega⟩
  ·simp at hb
theorem zow {W:Nat->Nat->Int} {f:Int}:∀ {n:Nat},(csL W f n).Pairwise ltM
 | 0=>by simp [csL]
 | n+1=>by rw [csL,List.pairwise_append];refine ⟨zow,zoy,fun a ha b hb=>?_⟩;obtain ⟨s,q,h1,_,rfl,_⟩:=zj6.1 ha;obtain ⟨q',_,rfl,_⟩:=zhN.1 hb;unfold ltM;simp only;omega
theorem TbI.list {T:List Tb} {F:Nat->Nat->Int} {nx:Nat} (h:TbI 8 T F nx) {f:Nat}:ofT T (f:Int)=csL F (f:Int) 8:=zb4 h.asc zow fun x=>by rw [h.of (by omega),zj6]
theorem zsz {c:Cw} (h:zk c) (h4:c.1=4) {f:Nat} {s:Nat}:(cqL (wnt c) (f:Int) s 4).length=zbn (gsp c.2.1 s).2 (f:Int):=by
 have hlen:(gsp c.2.1 s).1=true->(gsp c.2.1 s).2.length=4:=fun e=>by
  by_cases hs:s<c.2.1.length
  ·have:=(h.live _ (zaT hs)).1 e;omega
  ·rw [show gsp c.2.1 s=(false,[]) by unfold gsp;rw [List.getD_eq_getElem?_getD,List.getElem?_eq_none (by omega)];rfl] at e;simp at e
 have hdead:(gsp c.2.1 s).1=false->(gsp c.2.1 s).2=[]:=fun e=>by
  by_cases hs:s<c.2.1.length
  ·exact (h.live _ (zaT hs)).2 e
  ·rw [show gsp c.2.1 s=(false,[]) by unfold gsp;rw [List.getD_eq_getElem?_getD,List.getElem?_eq_none (by omega)];rfl]
 cases e:(gsp c.2.1 s).1 with
 | true =>
  have hl:=hlen e;have key:∀ k,k<=4->(cqL (wnt c) (f:Int) s k).length=zbn ((gsp c.2.1 s).2.take k) (f:Int):=fun k=>by
   induction k with
   | zero=>intro _;simp [cqL,zbn]
   | succ k ih =>
    intro hk;have hkl:k<(gsp c.2.1 s).2.length:=by omega
    have hw:wnt c s k=(gpg (gsp c.2.1 s).2 k).1:=by unfold wnt;rw [if_pos ⟨e,hkl⟩]
    rw [cqL,List.length_append,ih (by omega),zpR hkl,zbh,zbg,zft,hw];by_cases hh:(gpg (gsp c.2.1 s).2 k).1=(f:Int)<;>simp [hh]
  rw [key 4 (Nat.le_refl _),tkL (by omega)]
 | false =>
  rw [hdead e];have key:∀ k,(cqL (wnt c) (f:Int) s k).length=0:=fun k=>by
   induction k with
   | zero=>simp [cqL]
   | succ k ih =>
    have hw:wnt c s k=-1:=by unfold wnt;rw [if_neg (fun hh=>by rw [e] at hh;simp at hh)]
    rw [cqL,List.length_append,ih,hw,if_neg (by omega)];rfl
  rw [key];rfl
theorem zov {c:Cw} (h:zk c) (h4:c.1=4) {f:Nat}:∀ {n:Nat},(csL (wnt c) (f:Int) n).length=zbn (pgs (c.2.1.take n)) (f:Int)
 | 0=>by simp [csL,pgs,zbn]
 | n+1=>by
  rw [csL,List.length_append,zov h h4 (n:=n),zsz h h4];by_cases hn:n<c.2.1.length
  ·rw [zui hn,zbh]
  ·rw [tkL (by omega),tkL (show c.2.1.length<=n+1 by omega),show gsp c.2.1 n=(false,[]) by unfold gsp;rw [List.getD_eq_getElem?_getD,List.getElem?_eq_none (by omega)];rfl];simp [zbn]
theorem TbI.count {T:List Tb} {nx:Nat} {c:Cw} (h:TbI 8 T (wnt c) nx) (hc:zk c) (h4:c.1=4) {f:Nat} (hf:f<c.2.2.1.length):((ofT T (f:Int)).length:Int)=(gp c.2.2.1 f).1:=by rw [h.list,zov hc h4,tkL hc.sp.2,(hc.cnt f hf).1]
theorem TbI.follow {T:List Tb} {nx:Nat} {c d:Cw} (h:TbI 8 T (wnt c) nx) (hd:zk d) (hf:d.2.2.1.length<=32) (hl:c.2.1.length<=d.2.1.length) (hnx:nx<=2000000000) :
  TbI 8 (foA d (T,nx) d.2.1.length).1 (wnt d) (foA d (T,nx) d.2.1.length).2∧(foA d (T,nx) d.2.1.length).2<=nx+64:=by
 have h8:=hd.sp.2;obtain ⟨i1,i2,i3⟩:=zom hd hf (x:=(T,nx)) h hnx h8;refine ⟨i1.congr (fun s q=>zjL hd hf s q) fun s q hs hq=>?_,by simp only at i3;omega⟩;unfold foF;by_cases e:s<d.2.1.length
 ·rw [if_pos ⟨hq,.inl e⟩]
 ·rw [if_neg (by omega)];have e1:gsp c.2.1 s=(false,[]):=by unfold gsp;rw [List.getD_eq_getElem?_getD,List.getElem?_eq_none (by omega)];rfl
  have e2:gsp d.2.1 s=(false,[]):=by unfold gsp;rw [List.getD_eq_getElem?_getD,List.getElem?_eq_none (by omega)];rfl
  unfold wnt;rw [e1,e2]
theorem zmn {n:Nat} {s:List (Nat×AV)} {m:List (Nat×AO)} {nx b v:Nat} {f:Bool} {xs:List (List AV)} (z:Nat) (hm:zb m b=.vec v 1 f xs) (hx:∀ e∈xs,e=[AV.v (.slice none 0 0)]) :
  Le n ⟨s,m,nx⟩ ⟨s,(b,.vec v 1 f (xs.map fun _=>[.rd z []]))::m,nx⟩:=zen (by rw [hm];simp) fun E w h=>by
 rw [hm] at h;simp only [ObR] at h ⊢;obtain ⟨h1,h2,h3⟩:=h;refine ⟨h1,h2,?_⟩;cases hl:E.loc b with
 | none =>
  rw [hl] at h3;simp only at h3 ⊢;rw [h3];rfl
 | some L =>
  obtain ⟨blk,base,sz'⟩:=L;rw [hl] at h3;simp only at h3 ⊢;obtain ⟨c,t,k4,k5,k5',k6,k6',k7⟩:=h3;refine ⟨c,t,k4,k5,k5',by simpa using k6,by simpa using k6',CRows.of_get fun i e he=>?_⟩;rw [List.getElem?_map] at he;cases hxi:xs[i]? with
  | none=>rw [hxi] at he;simp at he
  | some r =>rw [hxi] at he;simp at he;subst he;obtain ⟨l1,l2⟩:=k7.get hxi;rw [hx r (List.mem_of_getElem? hxi)] at l2;simp only [CCs,zd,and_true] at l2 ⊢;obtain ⟨x,c1,c2,rfl⟩:=l2;exact ⟨rfl,_,c1,c2,none,0,rfl,by simp,fun _=>rfl,.inl trivial⟩
def bM0:List (List Dp):=List.replicate 32 []
def zgi (i:Nat):Tb:=(((100+i:Nat):Int),[(((100+i:Nat):Int),zs8)],[])
def zd9 (n:Nat):List Tb:=(List.range n).map zgi
theorem zvK {n:Nat}:zc (zd9 n)++[[I (zgi n).1,.rd 9 (nrw (zgi n).2.1),.rd 2 (prw (zgi n).2.2)]]=zc (zd9 (n+1)):=by simp [zd9,List.range_succ,zc,tbR]
@[simp] theorem zh7 {n:Nat}:(zd9 n).length=n:=by simp [zd9]
theorem zrZ {i:Nat} (h:i<=100):zmk (100+(i:Int))=(zgi i,0):=by unfold zmk zgi;rw [if_pos (by omega),show ((100+i:Nat):Int)=100+(i:Int) by omega]
noncomputable def beS:List AV->List AO->Option (AV×List AO):=za1 (ι:={n:Nat // n<=8}) (fun x=>[I x.1]) (fun _=>[]) (fun _=>rtO [.bp 0 0,B true]) fun x=>btM (zd9 x.1,bM0,((100+x.1:Nat):Int))
set_option maxHeartbeats 8000000 in
theorem s18 (X:AX) (hX:XOK prog X) (hw:X.W wT) (hn:∀ (x:Int) M n,X.call 49 [I x] M n=some (.tup [TbV (zmk x).1,I (zmk x).2],[])):GSd prog 18 beS:=by
 unfold beS;refine gsS func18 rfl X fun ⟨n,hn8⟩ w0 L' E=>⟨by show 1<=43;decide,?_⟩
 simp only at hn8 ⊢;simp only [btM];show AW ⟨prog,X,43,w0,⟨L',E,0⟩⟩ _ _ _;have hc:Cx.OK ⟨prog,X,43,w0,⟨L',E,0⟩⟩:=⟨hX,mixed⟩
 repeat' ((fail_if_success (with_reducible refine zb3 (id:=2) ?_));first
  | (apply aSk;intro K hK)
  | (refine zae hc (by exact zau) ?_;simp [List.zipIdx,eSt,idx,-zb,gMh,gMm,gMn];(repeat (simp (disch:=first|omega|assumption|fail) only [if_pos,if_neg,zm];try simp [List.zipIdx,eSt,idx,-zb,gMh,gMm,gMn]));try (repeat' (refine gQs (fun h=>?_) (fun h=>?_)<;>simp at h<;>(simp [List.zipIdx,eSt,idx,-zb,gMh,gMm,gMn];(repeat (simp (disch:=first|omega|assumption|fail) only [if_pos,if_neg,zm];try simp [List.zipIdx,eSt,idx,-zb,gMh,gMm,gMn]))))))
  | (refine za6 hc ?_;simp [List.zipIdx,eSt,idx,-zb,gMh,gMm,gMn];(repeat (simp (disch:=first|omega|assumption|fail) only [if_pos,if_neg,zm];try simp [List.zipIdx,eSt,idx,-zb,gMh,gMm,gMn]));refine ⟨by kernel_rfl,?_⟩)
  | (refine zae hc (by first|(intro _;rw [zat hw];kernel_rfl)|(intro _;rw [ordB_w0 hw0];kernel_rfl)|(intro _;kernel_rfl)) ?_;simp [List.zipIdx,eSt,idx,-zb,gMh,gMm,gMn];(repeat (simp (disch:=first|omega|assumption|fail) only [if_pos,if_neg,zm];try simp [List.zipIdx,eSt,idx,-zb,gMh,gMm,gMn]));try (repeat' (refine gQs (fun h=>?_) (fun h=>?_)<;>simp at h<;>(simp [List.zipIdx,eSt,idx,-zb,gMh,gMm,gMn];(repeat (simp (disch:=first|omega|assumption|fail) only [if_pos,if_neg,zm];try simp [List.zipIdx,eSt,idx,-zb,gMh,gMm,gMn]))))))
  | (refine eC (fun h=>?_) (fun h=>?_)<;>(try simp at h))
  | (refine aBl ?_)
  | (refine zaf ?_;simp only [ze,bkQ,if_true])
  | (refine zag ?_;simp [ze,bkQ])
  | (refine zar ?_;simp only [ze,bkQ])
  | (refine aRd ?_)
  | (refine hK _ ?_;clear hK)
  | (clear hK;refine hK _ ?_;clear hK)
  | (clear hK;clear hK;refine hK _ ?_;clear hK)
  | (clear hK;clear hK;clear hK;refine hK _ ?_;clear hK))
 obtain ⟨xs,hxs⟩:∃ xs:List (List AV),xs=List.replicate 32 [AV.v (.slice none 0 0)]:=⟨_,rfl⟩
 have hxe:∀ e∈xs,e=[AV.v (.slice none 0 0)]:=fun e he=>by rw [hxs] at he;exact List.eq_of_mem_replicate he
 have hxm:(xs.map fun _=>[AV.rd 2 []])=zg bM0:=by rw [hxs];rfl
 refine zad (zmn (b:=32) (v:=1) (f:=false) (xs:=xs) 2 (by rw [hxs];simp) hxe) ?_;rw [hxm];clear hxs hxe hxm;refine zad (zeO (b:=64) (i:=0) (sz:=3) (cs:=[AV.v (.slice none 0 0),.sl 32 1 1 0 32,AV.v (.int .i64 100)]) (by simp) (by simp)) ?_;have hm0:bM0.length=32:=by simp [bM0]
 have hap:=fun i=>@zvK i;have htk:∀ i,List.take i (zc (zd9 i))=zc (zd9 i):=fun i=>tkL (by simp [zc]);repeat' (first|(refine aSk fun K hK=>?_)|(refine zd2 ?_)|(refine eC (fun h=>?_) (fun h=>?_)<;>(try simp at h))|(refine hK _ ?_;clear hK)|(clear hK;refine hK _ ?_;clear hK))
 refine aLK (s0:=?lps1) (m0:=?lpm1) (ι:={i:Nat // i<=n}) [4,10] (fun i=>[(11,I i.1)]) (fun i=>[(64,.box [.sl 96 1 3 0 i.1,.sl 32 1 1 0 32,I (100+(i.1:Int))]),(96,.vec 1 3 false (zc (zd9 i.1))),(32,.vec 1 1 false (zg bM0))]) (fun i=>n - i.1) ⟨0,by omega⟩ ?lhs1 ?lhm1 ?_ ?_
 case lhs1=>first|(simp [kpS];done)|(simp [kpS];rfl)
 case lhm1=>first|rfl|(simp;done)|(simp;rfl)
 ·simp only [show zd9 0=[] from rfl,Int.natCast_zero,Int.add_zero];exact zaN (by simp) (by simp [zdT,AV.under,AV.underL,zc]<;>omega) (by simp [zeE,AO.under,AV.underL,AV.under,zc]<;>omega)
 ·rintro ⟨i,hi⟩;simp only;rcases dE (i<n) with hil|hil
  ·have hilI:(i:Int)<(n:Int):=by omega
   have hni:=hn (100+(i:Int));rw [zrZ (by omega)] at hni;have hapi:=hap i;have htki:=htk i;obtain ⟨⟨r,ns,ds⟩,hb⟩:∃ x,x=zgi i:=⟨_,rfl⟩
   rw [<- hb] at hni hapi;simp only [TbV] at hni hapi;have zS:=jj hilI<|jj hni<|jj hapi<|htki;repeat' (first|(refine aSk fun K hK=>?_)|(refine zp ?_)|(refine eC (fun h=>?_) (fun h=>?_)<;>(try simp at h))|(refine hK _ ?_;clear hK)|clear hK)
   all_goals clear zS
   refine ⟨i+1,?_,by omega,by omega⟩;simp only [show (100:Int)+((i+1:Nat):Int)=100+(i:Int)+1 by omega];refine zaI (s1:=?tus2) (m1:=?tum2) [] [4,10,11] [64,96,32] ?tua2 ?tub2 ?tuc2 ?tud2 ?tue2 ?tuf2 ?tug2
   case tua2=>first|(simp [kpS];done)|(simp [kpS];rfl)
   case tub2=>first|(simp;done)|(simp;rfl)
   case tuc2=>simp
   case tud2=>simp
   case tue2=>simp
   case tuf2=>simp
   case tug2 =>simp [swp,vr];exact dle
  ·obtain rfl:i=n:=by omega
   repeat' (first|(refine aSk fun K hK=>?_)|(refine zd2 ?_)|(refine eC (fun h=>?_) (fun h=>?_)<;>(try simp at h))|(refine hK _ ?_;clear hK)|clear hK)
   refine ⟨by simp,_,by simp [aRs,aRt,f18];rfl,?_⟩;simp only [idx,zh7,hm0,show ((100+i:Nat):Int)=100+(i:Int) by omega];refine zaI (s1:=?tus3) (m1:=?tum3) [(64,0),(96,1),(32,2)] [0] [64,96,32] ?tua3 ?tub3 ?tuc3 ?tud3 ?tue3 ?tuf3 ?tug3
   case tua3=>first|(simp [kpS];done)|(simp [kpS];rfl)
   case tub3=>first|(simp;done)|(simp;rfl)
   case tuc3=>simp
   case tud3=>simp
   case tue3=>simp
   case tuf3=>simp
   case tug3 =>simp [swp,vr];exact dle
theorem zvL (i:Nat):zf (zgi i):=by refine ⟨fun n hn=>?_,by simp [zgi],by simp [zgi]⟩;simp [zgi] at hn;subst hn;exact ⟨rfl,fun w hw=>by simp [zs8] at hw;omega⟩
theorem zvT:zmS (zgi 0)=true:=by kernel_rfl
theorem zvS:zmS (zgi 1)=true:=by kernel_rfl
theorem zvR:zmS (zgi 2)=true:=by kernel_rfl
theorem zvQ:zmS (zgi 3)=true:=by kernel_rfl
theorem zvP:zmS (zgi 4)=true:=by kernel_rfl
theorem zvO:zmS (zgi 5)=true:=by kernel_rfl
theorem zvN:zmS (zgi 6)=true:=by kernel_rfl
theorem zvM:zmS (zgi 7)=true:=by kernel_rfl
theorem zsO:∀ i,i<8->zmS (zgi i)=true:=by
 intro i hi;match i,hi with
 | 0,_=>exact zvT
 | 1,_=>exact zvS
 | 2,_=>exact zvR
 | 3,_=>exact zvQ
 | 4,_=>exact zvP
 | 5,_=>exact zvO
 | 6,_=>exact zvN
 | 7,_=>exact zvM
 | n+8,h=>exact absurd h (by omega)
theorem zuM {i N:Nat} (hi:i<8) (hN:i<N):ziw ((100+i:Nat):Int) [(((100+i:Nat):Int),zs8)] m0 (100+N):=by
 have hok:=zvL i;have hv:Vt (zgi i):=(zcH hok).1 (zsC (zsO i hi));obtain ⟨r,hr⟩:∃ r:Int,r=((100+i:Nat):Int):=⟨_,rfl⟩
 unfold zgi at hok hv;rw [<- hr] at hok hv ⊢;have hM:Mof [(r,zs8)] r=some zs8:=(mMo hv.num.asc).1 (by simp);have hz:∀ i,wM (Mof [(r,zs8)]) r i=0:=fun i=>by unfold wM;rw [hM];exact zcr i
 have h1:∀ q,frP WA (Mof [(r,zs8)]) r 1 q=none:=fun q=>by simp only [frP,Option.bind_some];rw [hz];exact zm7
 refine ⟨hv,hok,zuF,fun p hp=>?_,fun d q hq hd x hx=>?_,fun n hn=>?_,fun w hw=>?_⟩
 ·rw [zdK (M:=Mof [(r,zs8)]) (root:=r) hp (l:=2) (by omega) (f:=r) rfl (.inl (by rw [hz];exact zm7)),znK];exact hz _
 ·exfalso;have hd2:d<=2:=by have:=za0.1 hq;simp only at this;omega
  rcases (by omega:d=1∨d=2) with rfl|rfl
  ·rw [h1] at hx;simp at hx
  ·simp only [frP] at hx;have:=h1 (q/8);simp only [frP] at this;rw [this] at hx;simp at hx
 ·simp at hn;subst hn;simp only;omega
 ·have:=List.eq_of_mem_replicate hw;omega
theorem zrv {N:Nat} (hN:N<=8):TbI N (zd9 N) (fun _ _=>-1) (100+N):=by refine ⟨hN,by simp,fun _ _=>by omega,fun s hs=>⟨[(((100+s:Nat):Int),zs8)],m0,?_,zuM (by omega) hs,fun p hp=>.inr ⟨fun _ _ _=>rfl,znK⟩⟩⟩;rw [zkT (by simpa using hs)];simp [zd9,zgi]
theorem zqM {N:Nat} (hN:N<=8):zh (zd9 N) 32=bM0:=by
 apply List.ext_getElem
 ·simp [zh,bM0]
 ·intro i a b;have hi:i<32:=by simpa [bM0] using b
  have:ofT (zd9 N) (i:Int)=[]:=by rw [List.eq_nil_iff_forall_not_mem];intro x hx;obtain ⟨s,q,_,_,_,hF⟩:=((zrv hN).of (by omega)).1 hx;omega
  have e:bM0[i]'b=[]:=List.eq_of_mem_replicate (List.getElem_mem b);refine Eq.trans ?_ e.symm;simp [zh,this]
abbrev FoI:={x:(List Tb×Nat)×Cw // (∃ F,TbI 8 x.1.1 F x.1.2)∧zk x.2∧x.2.2.2.1.length<=32∧x.1.2<=2000000000}
noncomputable def btS (x:List Tb×Nat):BtD:=(x.1,zh x.1 32,(x.2:Int))
noncomputable def foS:List AV->List AO->Option (AV×List AO):=za1 (ι:=FoI) (fun x=>[.bp 0 0,CwV x.1.2]) (fun x=>btM (btS x.1.1)) (fun _=>rtO [B true]) fun x=>btM (btS (foA x.1.2 x.1.1 x.1.2.2.1.length))
set_option maxHeartbeats 16000000 in
theorem s24 (X:AX) (L:FoX X):GSd prog 24 foS:=by
 have hX:=L.ok;have hw:=L.w;unfold foS;refine gsS func24 rfl X fun ⟨⟨⟨T,nx⟩,c⟩,⟨F,hT⟩,h,hfr,hnx⟩ w0 L' E=>⟨by show 2<=99;decide,?_⟩
 simp only at hT h hfr hnx ⊢;have hA:=fun s hs=>@zom c h hfr F (T,nx) hT hnx s hs;obtain ⟨XA,hXA⟩:∃ XA:Nat->List Tb×Nat,∀ i,XA i=foA c (T,nx) i:=⟨_,fun _=>rfl⟩
 have hX0:XA 0=(T,nx):=hXA 0;have hXs:∀ i,XA (i+1)=foQ c (XA i) i 4:=fun i=>by rw [hXA,hXA];rfl
 have hA2:∀ i,i<=8->TbI 8 (XA i).1 (foF c F i 0) (XA i).2∧(XA i).2<=2000000100:=fun i hi=>by obtain ⟨a1,a2,a3⟩:=hA i hi;rw [hXA];exact ⟨a1,by simp only at a3;omega⟩
 rw [<- hXA];have hl0:=hT.len;have hl8:=(hA2 c.2.1.length (by have:=h.sp;omega)).1.len;simp only [btM,btS,zal];rw [hl0,hl8];have hr0:=fun s q=>@zjL c h hfr s q;have hwn:=fun s q=>@wnt.eq_1 c s q;have hww:=fun s q=>@wnw.eq_1 c s q;obtain ⟨sz,ss,fr,cp⟩:=c;have hsp:=h.sp;simp only at hsp hwn hww hfr ⊢;show AW ⟨prog,X,99,w0,⟨L',E,3⟩⟩ _ _ _;have hc:Cx.OK ⟨prog,X,99,w0,⟨L',E,3⟩⟩:=⟨hX,mixed⟩
 unfold CwV;simp only;have hlen:∀ s∈ss,s.2.length<=512:=fun s hs=>by
  have h1:=h.live s hs;have h2:=h.sz;simp only at h1 h2;cases e:s.1 with
  | true=>have:=h1.1 e;omega
  | false=>rw [h1.2 e];simp
 repeat' (first|(refine aSk fun K hK=>?_)|(refine zd2 ?_)|(refine eC (fun h=>?_) (fun h=>?_)<;>(try simp at h))|(refine hK _ ?_;clear hK)|(clear hK;refine hK _ ?_;clear hK))
 refine aLK (s0:=?lps1) (m0:=?lpm1) (ι:={i:Nat // i<=ss.length}) [0,3,11] (fun i=>[(12,I i.1)]) (fun i=>[(0,.box [.sl 1 1 3 0 8,.sl 2 1 1 0 32,I (XA i.1).2]),(1,.vec 1 3 false (zc (XA i.1).1)),(2,.vec 1 1 false (zg (zh (XA i.1).1 32)))]) (fun i=>ss.length - i.1) ⟨0,by omega⟩ ?lhs1 ?lhm1 ?_ ?_
 case lhs1=>first|(simp [kpS];done)|(simp [kpS];rfl)
 case lhm1=>first|rfl|(simp;done)|(simp;rfl)
 ·simp only [hX0];exact zaN (by simp) (by simp [zdT,AV.under,AV.underL,zbC]<;>omega) (by simp [zeE,AO.under,AV.underL,AV.under,zbC]<;>omega)
 ·rintro ⟨i,hi⟩;simp only;rcases dE (i<ss.length) with hil|hil
  ·have hilI:(i:Int)<(ss.length:Int):=by omega
   have hg:=ziF hil;have hgE:=ziG hil;have hll:=hlen _ (zaT hil);obtain ⟨a1,a2⟩:=hA2 i (by omega);have hQ:=fun q hq=>@zol (sz,ss,fr,cp) h hfr F (XA i) i (by omega) a1 (by omega) q hq;obtain ⟨XQ,hXQ⟩:∃ XQ:Nat->List Tb×Nat,∀ q,XQ q=foQ (sz,ss,fr,cp) (XA i) i q:=⟨_,fun _=>rfl⟩
   have hQ0:XQ 0=XA i:=hXQ 0;have hQs:∀ q,XQ (q+1)=fo1 ((XQ q).1,(XQ q).2) i q (wnt (sz,ss,fr,cp) i q) (wnw (sz,ss,fr,cp) i q):=fun q=>by rw [hXQ,hXQ];rfl
   have hQe:XA (i+1)=XQ 4:=by rw [hXs,hXQ]
   have hQ2:∀ q,q<=4->TbI 8 (XQ q).1 (foF (sz,ss,fr,cp) F i q) (XQ q).2∧(XQ q).2<=2000001000:=fun q hq=>by obtain ⟨b1,b2,b3⟩:=hQ q hq;rw [hXQ];exact ⟨b1,by omega⟩
   rw [<- hQ0];have hwn:=hwn i;have hww:=hww i;obtain ⟨⟨lv,l⟩,hx⟩:∃ x,x=gsp ss i:=⟨_,rfl⟩
   rw [<- hx] at hg hgE hll hwn hww;simp only at hg hgE hll hwn hww;have zS:=jj hilI<|hil;repeat' (first|(refine aSk fun K hK=>?_)|(refine zp ?_)|(refine eC (fun h=>?_) (fun h=>?_)<;>(try simp at h))|(refine hK _ ?_;clear hK)|(clear hK;refine hK _ ?_;clear hK))
   all_goals clear zS
   refine aLK (s0:=?lps2) (m0:=?lpm2) (ι:={q:Nat // q<=4}) [0,3,5,11,12] (fun q=>[(15,I q.1)]) (fun q=>[(0,.box [.sl 1 1 3 0 8,.sl 2 1 1 0 32,I (XQ q.1).2]),(1,.vec 1 3 false (zc (XQ q.1).1)),(2,.vec 1 1 false (zg (zh (XQ q.1).1 32)))]) (fun q=>4 - q.1) ⟨0,by omega⟩ ?lhs2 ?lhm2 ?_ ?_
   case lhs2=>first|(simp [kpS];done)|(simp [kpS];rfl)
   case lhm2=>first|rfl|(simp;done)|(simp;rfl)
   ·exact zaN (by simp) (by simp [zdT,AV.under,AV.underL,zbC]<;>omega) (by simp [zeE,AO.under,AV.underL,AV.under,zbC]<;>omega)
   ·rintro ⟨q,hq⟩;simp only;rcases dE (q<4) with hq4|hq4
    ·have hqI:(q:Int)<4:=by omega
     obtain ⟨b1,b2⟩:=hQ2 q hq;have hpq:(60:Int)+3*(q:Int)=pgN q:=by unfold pgN;omega
     have hQn:=hQs q;have hwq:=hwn q;have hwwq:=hww q;have hrq:=hr0 i q;obtain ⟨v,hv⟩:∃ v,v=wnt (sz,ss,fr,cp) i q:=⟨_,rfl⟩
     obtain ⟨wv,hwv⟩:∃ v,v=wnw (sz,ss,fr,cp) i q:=⟨_,rfl⟩
     rw [<- hv] at hQn hwq hrq;rw [<- hwv] at hQn hwwq;obtain ⟨⟨T0,n0⟩,hT0⟩:∃ x,x=XQ q:=⟨_,rfl⟩
     rw [<- hT0] at b1 b2 hQn ⊢;simp only at b1 b2 hQn ⊢;have hat:=fun M nid=>@zxz X L 8 T0 (foF (sz,ss,fr,cp) F i q) n0 b1 i q (by omega) hq4 0 1 2 M nid;obtain ⟨u,hu⟩:∃ u,u=foF (sz,ss,fr,cp) F i q i q:=⟨_,rfl⟩
     rw [<- hu] at hat;have hat0:atT (T0,n0).1 i (pgN q)=u:=by rw [hu];exact (b1.at (show i<8 by omega) hq4).1
     have h1:=b1.rm0 (show i<8 by omega) hq4 v;have hur:-1<=u∧u<32:=by rw [hu];exact b1.rng i q
     have hv32:¬ (32:Int)<=v:=by omega
     obtain ⟨T1,hT1⟩:∃ T1,T1=fo0 (T0,n0) i q v:=⟨_,rfl⟩
     rw [<- hT1] at h1
     have hrm:∀ g:Nat,u=(g:Int)->∀ (M:Nat->AO) (nid:Nat),M 0=.box [.sl 1 1 3 0 8,.sl 2 1 1 0 32,I n0]->M 1=.vec 1 3 false (zc T0)->M 2=.vec 1 1 false (zg (zh T0 32)) ->
       X.call 75 [.bp 0 0,I i,I (pgN q),I g] M nid=some (B true,[(0,.box [.sl 1 1 3 0 8,.sl 2 1 1 0 32,I n0]),(1,.vec 1 3 false (zc T1)),(2,.vec 1 1 false (zg (zh T1 32)))]):=fun g hg M nid m1 m2 m3=>by rw [hT1];exact zu4 L b1 (show i<8 by omega) hq4 (by rw [<- hu];exact hg) v (by decide) (by decide) (by decide) M nid m1 m2 m3
     have hT10:u<0->T1=T0:=fun hh=>by rw [hT1];unfold fo0;rw [if_neg (by rw [hat0];omega)]
     obtain ⟨⟨T2,n2⟩,hX2⟩:∃ x,x=XQ (q+1):=⟨_,rfl⟩
     rw [<- hX2] at hQn;have hQ1:u=v->T2=T0∧n2=n0:=fun hh=>by unfold fo1 at hQn;rw [if_pos (by rw [hat0];exact hh)] at hQn;simpa using hQn
     have hQ3:u≠v->v<0->T2=T1∧n2=n0:=fun hh h2=>by unfold fo1 at hQn;rw [if_neg (by rw [hat0];exact hh),if_neg (by omega),<- hT1] at hQn;simpa using hQn
     have hin:u≠v->∀ g:Nat,v=(g:Int)->∀ (M:Nat->AO) (nid:Nat),M 0=.box [.sl 1 1 3 0 8,.sl 2 1 1 0 32,I n0]->M 1=.vec 1 3 false (zc T1)->M 2=.vec 1 1 false (zg (zh T1 32)) ->
       X.call 74 [.bp 0 0,I i,I (pgN q),I g,B wv] M nid=some (B true,[(0,.box [.sl 1 1 3 0 8,.sl 2 1 1 0 32,I n2]),(1,.vec 1 3 false (zc T2)),(2,.vec 1 1 false (zg (zh T2 32)))]):=fun hh g hg M nid m1 m2 m3=>by unfold fo1 at hQn;rw [if_neg (by rw [hat0];exact hh),if_pos (by omega),<- hT1,hg,Int.toNat_natCast] at hQn;simp only [pJ] at hQn;exact zu5 L h1 (show i<8 by omega) hq4 (by unfold zr;rw [if_pos ⟨rfl,rfl⟩]) (by omega) wv (by omega) hQn.1.symm hQn.2.symm (by decide) (by decide) (by decide) M nid m1 m2 m3
     have hfin:∃ i',i'=XQ (q+1):=⟨_,rfl⟩
     have hmul:IntKind.i64.wrap (3*(q:Int))=3*(q:Int):=zm ⟨by omega,by omega⟩;clear hfin hQn hu hat0 hT1;cases lv with
     | true =>
      rcases dE (q<l.length) with hql|hql
      ·have hqlI:(q:Int)<(l.length:Int):=by omega
       rw [if_pos ⟨rfl,hql⟩] at hwq;have hpg:=ze3 hql;have hpgE:=ze4 hql;rw [<- hwq,<- hwwq] at hpg hpgE;rcases dE (0<=v) with hv0|hv0
       ·obtain ⟨w,rfl⟩:=Int.eq_ofNat_of_zero_le hv0;rcases dE (u=(w:Int)) with huv|huv
        ·obtain ⟨rfl,rfl⟩:=hQ1 huv;have zS:=jj hqI<|jj hilI<|jj hil<|jj hg<|jj hgE<|jj hql<|jj hqlI<|jj hpg<|jj hpgE<|jj hpq<|jj hat<|huv;repeat' (first|(refine aSk fun K hK=>?_)|(refine zp ?_)|(refine eC (fun h=>?_) (fun h=>?_)<;>(try simp at h))|(refine hK _ ?_;clear hK)|clear hK)
         all_goals clear zS
         refine ⟨q+1,?_,by omega,by omega⟩;rw [<- hX2];exact dle
        ·rcases dE (0<=u) with hu0|hu0
         ·obtain ⟨g,rfl⟩:=Int.eq_ofNat_of_zero_le hu0;have hrm:=hrm g rfl;have hin:=hin huv w rfl;have zS:=jj hqI<|jj hilI<|jj hil<|jj hg<|jj hgE<|jj hql<|jj hqlI<|jj hpg<|jj hpgE<|jj hpq<|jj hat<|jj huv<|jj hv32<|jj hrm<|hin;repeat' (first|(refine aSk fun K hK=>?_)|(refine zp ?_)|(refine eC (fun h=>?_) (fun h=>?_)<;>(try simp at h))|(refine hK _ ?_;clear hK)|clear hK)
          all_goals clear zS
          refine ⟨q+1,?_,by omega,by omega⟩;rw [<- hX2];exact dle
         ·have hun:¬ 0<=u:=hu0;have e10:=hT10 (by omega);rw [e10] at hin hQ3;have hin:=hin huv w rfl;have zS:=jj hqI<|jj hilI<|jj hil<|jj hg<|jj hgE<|jj hql<|jj hqlI<|jj hpg<|jj hpgE<|jj hpq<|jj hat<|jj huv<|jj hv32<|jj hun<|hin;repeat' (first|(refine aSk fun K hK=>?_)|(refine zp ?_)|(refine eC (fun h=>?_) (fun h=>?_)<;>(try simp at h))|(refine hK _ ?_;clear hK)|clear hK)
          all_goals clear zS
          refine ⟨q+1,?_,by omega,by omega⟩;rw [<- hX2];exact dle
       ·have hvn:v=-1:=by omega
        subst hvn;rcases dE (u=-1) with huv|huv
        ·obtain ⟨rfl,rfl⟩:=hQ1 huv;have zS:=jj hqI<|jj hilI<|jj hil<|jj hg<|jj hgE<|jj hql<|jj hqlI<|jj hpg<|jj hpgE<|jj hpq<|jj hat<|huv;repeat' (first|(refine aSk fun K hK=>?_)|(refine zp ?_)|(refine eC (fun h=>?_) (fun h=>?_)<;>(try simp at h))|(refine hK _ ?_;clear hK)|clear hK)
         all_goals clear zS
         refine ⟨q+1,?_,by omega,by omega⟩;rw [<- hX2];exact dle
        ·rcases dE (0<=u) with hu0|hu0
         ·obtain ⟨g,rfl⟩:=Int.eq_ofNat_of_zero_le hu0;have hrm:=hrm g rfl;obtain ⟨rfl,rfl⟩:=hQ3 huv (by omega);have zS:=jj hqI<|jj hilI<|jj hil<|jj hg<|jj hgE<|jj hql<|jj hqlI<|jj hpg<|jj hpgE<|jj hpq<|jj hat<|jj huv<|jj hv32<|hrm;repeat' (first|(refine aSk fun K hK=>?_)|(refine zp ?_)|(refine eC (fun h=>?_) (fun h=>?_)<;>(try simp at h))|(refine hK _ ?_;clear hK)|clear hK)
          all_goals clear zS
          refine ⟨q+1,?_,by omega,by omega⟩;rw [<- hX2];exact dle
         ·have hun:¬ 0<=u:=hu0;have e10:=hT10 (by omega);rw [e10] at hin hQ3;obtain ⟨rfl,rfl⟩:=hQ3 huv (by omega);have zS:=jj hqI<|jj hilI<|jj hil<|jj hg<|jj hgE<|jj hql<|jj hqlI<|jj hpg<|jj hpgE<|jj hpq<|jj hat<|jj huv<|jj hv32<|hun;repeat' (first|(refine aSk fun K hK=>?_)|(refine zp ?_)|(refine eC (fun h=>?_) (fun h=>?_)<;>(try simp at h))|(refine hK _ ?_;clear hK)|clear hK)
          all_goals clear zS
          refine ⟨q+1,?_,by omega,by omega⟩;rw [<- hX2];exact dle
      ·have hqlI:¬ (q:Int)<(l.length:Int):=by omega
       rw [if_neg (fun hh=>hql hh.2)] at hwq;subst hwq;rcases dE (u=-1) with huv|huv
       ·obtain ⟨rfl,rfl⟩:=hQ1 huv;have zS:=jj hqI<|jj hilI<|jj hil<|jj hg<|jj hgE<|jj hql<|jj hqlI<|jj hpq<|jj hat<|huv;repeat' (first|(refine aSk fun K hK=>?_)|(refine zp ?_)|(refine eC (fun h=>?_) (fun h=>?_)<;>(try simp at h))|(refine hK _ ?_;clear hK)|clear hK)
        all_goals clear zS
        refine ⟨q+1,?_,by omega,by omega⟩;rw [<- hX2];exact dle
       ·rcases dE (0<=u) with hu0|hu0
        ·obtain ⟨g,rfl⟩:=Int.eq_ofNat_of_zero_le hu0;have hrm:=hrm g rfl;obtain ⟨rfl,rfl⟩:=hQ3 huv (by omega);have zS:=jj hqI<|jj hilI<|jj hil<|jj hg<|jj hgE<|jj hql<|jj hqlI<|jj hpq<|jj hat<|jj huv<|jj hv32<|hrm;repeat' (first|(refine aSk fun K hK=>?_)|(refine zp ?_)|(refine eC (fun h=>?_) (fun h=>?_)<;>(try simp at h))|(refine hK _ ?_;clear hK)|clear hK)
         all_goals clear zS
         refine ⟨q+1,?_,by omega,by omega⟩;rw [<- hX2];exact dle
        ·have hun:¬ 0<=u:=hu0;have e10:=hT10 (by omega);rw [e10] at hin hQ3;obtain ⟨rfl,rfl⟩:=hQ3 huv (by omega);have zS:=jj hqI<|jj hilI<|jj hil<|jj hg<|jj hgE<|jj hql<|jj hqlI<|jj hpq<|jj hat<|jj huv<|jj hv32<|hun;repeat' (first|(refine aSk fun K hK=>?_)|(refine zp ?_)|(refine eC (fun h=>?_) (fun h=>?_)<;>(try simp at h))|(refine hK _ ?_;clear hK)|clear hK)
         all_goals clear zS
         refine ⟨q+1,?_,by omega,by omega⟩;rw [<- hX2];exact dle
     | false =>
      rw [if_neg (fun hh=>by simp at hh)] at hwq;subst hwq;rcases dE (u=-1) with huv|huv
      ·obtain ⟨rfl,rfl⟩:=hQ1 huv;have zS:=jj hqI<|jj hilI<|jj hil<|jj hg<|jj hgE<|jj hmul<|jj hpq<|jj hat<|huv;repeat' (first|(refine aSk fun K hK=>?_)|(refine zp ?_)|(refine eC (fun h=>?_) (fun h=>?_)<;>(try simp at h))|(refine hK _ ?_;clear hK)|clear hK)
       all_goals clear zS
       refine ⟨q+1,?_,by omega,by omega⟩;rw [<- hX2];exact dle
      ·rcases dE (0<=u) with hu0|hu0
       ·obtain ⟨g,rfl⟩:=Int.eq_ofNat_of_zero_le hu0;have hrm:=hrm g rfl;obtain ⟨rfl,rfl⟩:=hQ3 huv (by omega);have zS:=jj hqI<|jj hilI<|jj hil<|jj hg<|jj hgE<|jj hmul<|jj hpq<|jj hat<|jj huv<|jj hv32<|hrm;repeat' (first|(refine aSk fun K hK=>?_)|(refine zp ?_)|(refine eC (fun h=>?_) (fun h=>?_)<;>(try simp at h))|(refine hK _ ?_;clear hK)|clear hK)
        all_goals clear zS
        refine ⟨q+1,?_,by omega,by omega⟩;rw [<- hX2];exact dle
       ·have hun:¬ 0<=u:=hu0;have e10:=hT10 (by omega);rw [e10] at hin hQ3;obtain ⟨rfl,rfl⟩:=hQ3 huv (by omega);have zS:=jj hqI<|jj hilI<|jj hil<|jj hg<|jj hgE<|jj hmul<|jj hpq<|jj hat<|jj huv<|jj hv32<|hun;repeat' (first|(refine aSk fun K hK=>?_)|(refine zp ?_)|(refine eC (fun h=>?_) (fun h=>?_)<;>(try simp at h))|(refine hK _ ?_;clear hK)|clear hK)
        all_goals clear zS
        refine ⟨q+1,?_,by omega,by omega⟩;rw [<- hX2];exact dle
    ·obtain rfl:q=4:=by omega
     repeat' (first|(refine aSk fun K hK=>?_)|(refine zd2 ?_)|(refine eC (fun h=>?_) (fun h=>?_)<;>(try simp at h))|(refine hK _ ?_;clear hK)|clear hK)
     refine ⟨i+1,?_,by omega,by omega⟩;rw [hQe];exact dle
  ·obtain rfl:i=ss.length:=by omega
   repeat' (first|(refine aSk fun K hK=>?_)|(refine zd2 ?_)|(refine eC (fun h=>?_) (fun h=>?_)<;>(try simp at h))|(refine hK _ ?_;clear hK)|clear hK)
   refine ⟨by simp,_,by simp [aRs,aRt,f24];rfl,?_⟩;simp only [idx];exact dle
set_option maxHeartbeats 2000000
def liC (c:Cw) (s:Int):Int:=if 0<=s∧s<(c.2.1.length:Int)∧(gsp c.2.1 s.toNat).1=true then 0 else 6
def atC (c:Cw) (s p:Int):Int:=if liC c s=0 then (if 0<=p∧p<c.1 then 0 else 2) else 6
theorem zgC {c:Cw} {s:Int} (h:liC c s=0):0<=s∧s<(c.2.1.length:Int)∧(gsp c.2.1 s.toNat).1=true:=by
 unfold liC at h;split at h
 ·assumption
 ·simp at h
theorem zoN {c:Cw} {s p:Int} (h:atC c s p=0):liC c s=0∧0<=p∧p<c.1:=by
 unfold atC at h;split at h
 ·split at h
  ·rename_i h1 h2;exact ⟨h1,h2⟩
  ·simp at h
 ·simp at h
noncomputable def zwS:List AV->Option AV:=spF (ι:={x:Cw×Int // zk x.1}) (fun x=>[CwV x.1.1,I x.1.2]) fun x=>rtO [I (liC x.1.1 x.1.2)]
theorem s80 (X:AX) (hX:XOK prog X) (hw:X.W wT) (hck:∀ c,zk c->∀ M n,X.call 162 [CwV c] M n=some (I 0,[])):PSd prog 80 zwS:=by
 unfold zwS;refine psS hX mixed func80 rfl fun ⟨⟨⟨sz,ss,fr,cp⟩,s⟩,h⟩ w0 G=>⟨by show 2<=29;decide,rfl,?_⟩
 show AW ⟨prog,X,29,w0,.pure G⟩ _ _ _;have hc:=okc hX 29 w0 G;have ck:=hck _ h;have hsp:=h.sp;simp only at hsp ck ⊢;unfold CwV at ck ⊢;simp only at ck ⊢;rcases dE (0<=s) with h1|h1
 ·rcases dE (s<(ss.length:Int)) with h2|h2
  ·obtain ⟨i,rfl⟩:=Int.eq_ofNat_of_zero_le h1;have hil:i<ss.length:=by omega
   have hg:=ziF hil;have hgE:=ziG hil;have h5:¬ (i:Int)<0:=by omega
   have h6:¬ (ss.length:Int)<=(i:Int):=by omega
   have e:liC (sz,ss,fr,cp) (i:Int)=if (gsp ss i).1=true then 0 else 6:=by
    unfold liC;simp only [Int.toNat_natCast];rcases dE ((gsp ss i).1=true) with h3|h3
    ·rw [if_pos ⟨h1,h2,h3⟩,if_pos h3]
    ·rw [if_neg (fun h=>h3 h.2.2),if_neg h3]
   rw [e];obtain ⟨⟨b,l⟩,hx⟩:∃ x,x=gsp ss i:=⟨_,rfl⟩
   rw [<- hx] at hg hgE ⊢;simp only at hg hgE ⊢;cases b with
   | true =>
    have zS:=jj ck<|jj h5<|jj h6<|jj hil<|jj hg<|hgE;refine zl ?_;repeat (intro K hK)
    clear zS;refine ⟨by simp,?_⟩;simp [lvI,f80];try exact dt
   | false =>
    have zS:=jj ck<|jj h5<|jj h6<|jj hil<|jj hg<|hgE;refine zl ?_;repeat (intro K hK)
    clear zS;refine ⟨by simp,?_⟩;simp [lvI,f80];try exact dt
  ·have e:liC (sz,ss,fr,cp) s=6:=by unfold liC;rw [if_neg fun h=>h2 h.2.1]
   rw [e];have h3:(ss.length:Int)<=s:=by omega
   have h4:¬ s<0:=by omega
   have zS:=jj ck<|jj h3<|h4;refine zl ?_;repeat (intro K hK)
   clear zS;refine ⟨by simp,?_⟩;simp [lvI,f80];try exact dt
 ·have e:liC (sz,ss,fr,cp) s=6:=by unfold liC;rw [if_neg fun h=>h1 h.1]
  rw [e];have h4:s<0:=by omega
  have zS:=jj ck<|h4;refine zl ?_;repeat (intro K hK)
  clear zS;refine ⟨by simp,?_⟩;simp [lvI,f80];try exact dt
noncomputable def zwV:List AV->Option AV:=spF (ι:={x:Cw×Int×Int // zk x.1}) (fun x=>[CwV x.1.1,I x.1.2.1,I x.1.2.2]) fun x=>rtO [I (atC x.1.1 x.1.2.1 x.1.2.2)]
theorem s76 (X:AX) (hX:XOK prog X) (hw:X.W wT) (hli:∀ c s,zk c->∀ M n,X.call 80 [CwV c,I s] M n=some (I (liC c s),[])):PSd prog 76 zwV:=by
 unfold zwV;refine psS hX mixed func76 rfl fun ⟨⟨⟨sz,ss,fr,cp⟩,s,p⟩,h⟩ w0 G=>⟨by show 3<=22;decide,rfl,?_⟩
 show AW ⟨prog,X,22,w0,.pure G⟩ _ _ _;have hc:=okc hX 22 w0 G;have li:=hli _ s h;simp only at li ⊢;unfold atC;have hor:liC (sz,ss,fr,cp) s=0∨liC (sz,ss,fr,cp) s=6:=by unfold liC;split<;>simp
 obtain ⟨e,he⟩:∃ e,e=liC (sz,ss,fr,cp) s:=⟨_,rfl⟩
 rw [<- he] at li hor ⊢;unfold CwV at li ⊢;simp only at li ⊢;rcases hor with rfl|rfl
 ·rcases dE (0<=p) with h1|h1
  ·have h1':¬ p<0:=by omega
   rcases dE (p<sz) with h2|h2
   ·have h2':¬ sz<=p:=by omega
    have zS:=jj li<|jj h1<|jj h1'<|jj h2<|h2';refine zl ?_;repeat (intro K hK)
    clear zS;refine ⟨by simp,?_⟩;simp [lvI,f76,h1,h2];try exact dt
   ·have h2':sz<=p:=by omega
    have zS:=jj li<|jj h1<|jj h1'<|jj h2<|h2';refine zl ?_;repeat (intro K hK)
    clear zS;refine ⟨by simp,?_⟩;simp [lvI,f76,h1,h2];try exact dt
  ·have h1':p<0:=by omega
   have zS:=jj li<|jj h1<|h1';refine zl ?_;repeat (intro K hK)
   clear zS;refine ⟨by simp,?_⟩;simp [lvI,f76,h1];try exact dt
 ·have zS:=li;refine zl ?_;repeat (intro K hK)
  clear zS;refine ⟨by simp,?_⟩;simp [lvI,f76];try exact dt
noncomputable def zup (k:Nat):List AV->List AO->Option (AV×List AO):=za1 (ι:={c:Cw // zk c∧k<c.2.1.length}) (fun x=>[CwV x.1]) (fun _=>[])
 (fun x=>rtO [.agg [I x.1.1,.sl 0 1 2 0 x.1.2.1.length,.sl 2 1 2 0 x.1.2.2.1.length,I x.1.2.2.2]])
 fun x=>[.vo 1 2 (spr x.1.2.1) k [B (gsp x.1.2.1 k).1,.sl 1 1 2 0 (gsp x.1.2.1 k).2.length],.vec 1 2 false (pgr (gsp x.1.2.1 k).2),.vec 1 2 false (prw x.1.2.2.1)]
structure OwX (X:AX) (nm:Nat):Prop where
 s:∀ l:List CwS,l.length<=1000000->∀ M n,X.call 160 [.rd 2 (spr l)] M n=some (.sl n 1 2 0 l.length,[(n,.vec 1 2 false (spr l))])
 f:∀ l:List Dp,l.length<=1000000->∀ M n,X.call 161 [.rd 2 (prw l)] M n=some (.sl n 1 2 0 l.length,[(n,.vec 1 2 false (prw l))])
 p0:∀ l:List CwP,l.length<=1000000->∀ (M:Nat->AO) n v s f xs,M nm=.vec v s f xs->X.call 81 [.rd 2 (pgr l)] M n=some (.rd 2 (pgr l),[])
 p1:∀ l:List CwP,l.length<=1000000->∀ (M:Nat->AO) n v s xs k b r,M nm=.vo v s xs k [B b,.rd 2 r]->X.call 81 [.rd 2 (pgr l)] M n=some (.sl n 1 2 0 l.length,[(n,.vec 1 2 false (pgr l))])
 p2:∀ l:List CwP,l.length<=1000000->∀ (M:Nat->AO) n v s xs k b c w m o q,M nm=.vo v s xs k [B b,.sl c w m o q]->X.call 81 [.rd 2 (pgr l)] M n=some (.rd 2 (pgr l),[])
set_option maxHeartbeats 8000000 in
theorem s77 (k:Nat) (X:AX) (hX:XOK prog X) (hw:X.W wT) (H:OwX X 64):GSd prog 77 (zup k):=by
 unfold zup;refine gsS func77 rfl X fun ⟨⟨sz,ss,fr,cp⟩,h,hk⟩ w0 L E=>⟨by show 1<=32;decide,?_⟩
 have hsp:=h.sp;have hfr:=h.fr;simp only at hk hsp hfr ⊢;show AW ⟨prog,X,32,w0,⟨L,E,0⟩⟩ _ _ _;have hc:Cx.OK ⟨prog,X,32,w0,⟨L,E,0⟩⟩:=⟨hX,mixed⟩
 have hlen:∀ s∈ss,s.2.length<=512:=fun s hs=>by
  have h1:=h.live s hs;have h2:=h.sz;simp only at h1 h2;cases e:s.1 with
  | true=>have:=h1.1 e;omega
  | false=>rw [h1.2 e];simp
 have c1:=H.s ss (by omega);have c2:=H.f fr (by omega);unfold CwV;simp only;have zS:=jj c1<|c2;repeat' (first|(refine aSk fun K hK=>?_)|(refine zp ?_)|(refine eC (fun h=>?_) (fun h=>?_)<;>(try simp at h))|(refine hK _ ?_;clear hK)|(clear hK;refine hK _ ?_;clear hK))
 all_goals clear zS
 obtain ⟨⟨kb,kl⟩,hkx⟩:∃ x,x=gsp ss k:=⟨_,rfl⟩
 rw [<- hkx];simp only;refine aLK (s0:=?lps1) (m0:=?lpm1) (ι:={i:Nat // i<=ss.length}) [1,2,14] (fun i=>[(15,I i.1)]) (fun i=>[(64,if i.1<=k then .vec 1 2 false (spr ss) else .vo 1 2 (spr ss) k [B kb,.sl 200 1 2 0 kl.length]),(200,if i.1<=k then .dead else .vec 1 2 false (pgr kl))]) (fun i=>ss.length - i.1) ⟨0,by omega⟩ ?lhs1 ?lhm1 ?_ ?_
 case lhs1=>first|(simp [kpS];done)|(simp [kpS];rfl)
 case lhm1=>first|rfl|(simp;done)|(simp;rfl)
 ·simp only [Nat.zero_le,if_true];exact zaN (by simp) (by simp [zdT,AV.under,AV.underL,zbC]<;>omega) (by simp [zeE,AO.under,AV.underL,AV.under,zbC]<;>omega)
 ·rintro ⟨i,hi⟩;simp only;rcases dE (i<ss.length) with hil|hil
  ·have hilI:(i:Int)<(ss.length:Int):=by omega
   have hg:=ziF hil;have hgE:=ziG hil;have hll:=hlen _ (zaT hil);have hst:(spr ss).set i [B (gsp ss i).1,.rd 2 (pgr (gsp ss i).2)]=spr ss:=by rw [zdU];congr 1;rw [zf6 hil];exact List.set_getElem_self hil
   rcases Nat.lt_trichotomy i k with hik|hik|hik
   ·obtain ⟨⟨b,l⟩,hx⟩:∃ x,x=gsp ss i:=⟨_,rfl⟩
    rw [<- hx] at hg hgE hll hst;simp only at hg hgE hll hst;have hcl:=fun M n (hM:M 64=.vec 1 2 false (spr ss))=>H.p0 l (by omega) M n _ _ _ _ hM;have e1:i<=k:=by omega
    have e2:i+1<=k:=by omega
    simp only [if_pos e1];have zS:=jj hilI<|jj hil<|jj hg<|jj hgE<|jj hst<|hcl;repeat' (first|(refine aSk fun K hK=>?_)|(refine zp ?_)|(refine eC (fun h=>?_) (fun h=>?_)<;>(try simp at h))|(refine hK _ ?_;clear hK)|clear hK)
    all_goals clear zS
    refine ⟨i+1,⟨by omega,?_⟩,by omega⟩;simp only [if_pos e2];exact dle
   ·subst hik;rw [<- hkx] at hg hgE hll hst;simp only at hg hgE hll hst;have hcl:=fun M n (hM:M 64=.vo 1 2 (spr ss) i [B kb,.rd 2 (pgr kl)])=>H.p1 kl (by omega) M n _ _ _ _ _ _ hM;have e2:¬ i+1<=i:=by omega
    simp only [Nat.le_refl,if_true];refine zad (zr7 (b:=64) (v:=1) (sz:=2) (f:=false) (xs:=spr ss) (e:=[B kb,.rd 2 (pgr kl)]) i (by simp) hg) ?_;have zS:=jj hilI<|jj hil<|jj hg<|jj hgE<|jj hst<|hcl;repeat' (first|(refine aSk fun K hK=>?_)|(refine zp ?_)|(refine eC (fun h=>?_) (fun h=>?_)<;>(try simp at h))|(refine hK _ ?_;clear hK)|clear hK)
    all_goals clear zS
    refine ⟨i+1,⟨by omega,?_⟩,by omega⟩;simp only [if_neg e2];refine zaI (s1:=?tus2) (m1:=?tum2) [(448,200)] [0,1,2,14,15] [64,448,0,16,112] ?tua2 ?tub2 ?tuc2 ?tud2 ?tue2 ?tuf2 ?tug2
    case tua2=>first|(simp [kpS];done)|(simp [kpS];rfl)
    case tub2=>first|(simp;done)|(simp;rfl)
    case tuc2=>simp
    case tud2=>simp
    case tue2=>simp
    case tuf2=>simp
    case tug2 =>simp [swp,vr];exact dle
   ·obtain ⟨⟨b,l⟩,hx⟩:∃ x,x=gsp ss i:=⟨_,rfl⟩
    rw [<- hx] at hg hgE hll hst;simp only at hg hgE hll hst;have hcl:=fun M n (hM:M 64=.vo 1 2 (spr ss) k [B kb,.sl 200 1 2 0 kl.length])=>H.p2 l (by omega) M n _ _ _ _ _ _ _ _ _ _ hM;have e1:¬ i<=k:=by omega
    have e2:¬ i+1<=k:=by omega
    have e3:¬ i=k:=by omega
    simp only [if_neg e1];have zS:=jj hilI<|jj hil<|jj hg<|jj hgE<|jj hst<|jj hcl<|e3;repeat' (first|(refine aSk fun K hK=>?_)|(refine zp ?_)|(refine eC (fun h=>?_) (fun h=>?_)<;>(try simp at h))|(refine hK _ ?_;clear hK)|clear hK)
    all_goals clear zS
    refine ⟨i+1,⟨by omega,?_⟩,by omega⟩;simp only [if_neg e2];exact dle
  ·obtain rfl:i=ss.length:=by omega
   have e1:¬ ss.length<=k:=by omega
   simp only [if_neg e1];repeat' (first|(refine aSk fun K hK=>?_)|(refine zd2 ?_)|(refine eC (fun h=>?_) (fun h=>?_)<;>(try simp at h))|(refine hK _ ?_;clear hK)|clear hK)
   refine ⟨by simp,_,by simp [aRs,aRt,f77];rfl,?_⟩;simp only [idx,<- hkx];refine zaI (s1:=?tus3) (m1:=?tum3) [(64,0),(200,1),(112,2)] [0] [64,200,112] ?tua3 ?tub3 ?tuc3 ?tud3 ?tue3 ?tuf3 ?tug3
   case tua3=>first|(simp [kpS];done)|(simp [kpS];rfl)
   case tub3=>first|(simp;done)|(simp;rfl)
   case tuc3=>simp
   case tud3=>simp
   case tue3=>simp
   case tuf3=>simp
   case tug3 =>simp [swp,vr];exact dle
theorem zrK {k:Nat} {c:Cw} (h:zk c) (hk:k<c.2.1.length):zup k [CwV c] []=some (.agg [I c.1,.sl 0 1 2 0 c.2.1.length,.sl 2 1 2 0 c.2.2.1.length,I c.2.2.2],[.vo 1 2 (spr c.2.1) k [B (gsp c.2.1 k).1,.sl 1 1 2 0 (gsp c.2.1 k).2.length],.vec 1 2 false (pgr (gsp c.2.1 k).2),.vec 1 2 false (prw c.2.2.1)]) :=sGe (ι:={c:Cw // zk c∧k<c.2.1.length}) (A:=fun x=>[CwV x.1]) (M:=fun _=>[]) (R:=fun x=>rtO [.agg [I x.1.1,.sl 0 1 2 0 x.1.2.1.length,.sl 2 1 2 0 x.1.2.2.1.length,I x.1.2.2.2]])
  (O:=fun x=>[.vo 1 2 (spr x.1.2.1) k [B (gsp x.1.2.1 k).1,.sl 1 1 2 0 (gsp x.1.2.1 k).2.length],.vec 1 2 false (pgr (gsp x.1.2.1 k).2),.vec 1 2 false (prw x.1.2.2.1)]) ⟨c,h,hk⟩ fun j hA _=>by obtain ⟨c',h'⟩:=j;simp only [cJ,zaJ,and_true] at hA;subst hA;exact ⟨rfl,rfl⟩
open Classical in
noncomputable def cOw (k:Nat) (avs:List AV) (M:Nat->AO) (nid:Nat):Option (AV×List (Nat×AO)) :=if h:∃ c:Cw,(zk c∧k<c.2.1.length)∧avs=[CwV c] then
  some (.agg [I h.choose.1,.sl nid 1 2 0 h.choose.2.1.length,.sl (nid+2) 1 2 0 h.choose.2.2.1.length,I h.choose.2.2.2],[(nid,.vo 1 2 (spr h.choose.2.1) k [B (gsp h.choose.2.1 k).1,.sl (nid+1) 1 2 0 (gsp h.choose.2.1 k).2.length]),(nid+1,.vec 1 2 false (pgr (gsp h.choose.2.1 k).2)),(nid+2,.vec 1 2 false (prw h.choose.2.2.1))])
 else none
theorem zjv {k:Nat} {c:Cw} (h:zk c) (hk:k<c.2.1.length) (M:Nat->AO) (nid:Nat):cOw k [CwV c] M nid=some (.agg [I c.1,.sl nid 1 2 0 c.2.1.length,.sl (nid+2) 1 2 0 c.2.2.1.length,I c.2.2.2],[(nid,.vo 1 2 (spr c.2.1) k [B (gsp c.2.1 k).1,.sl (nid+1) 1 2 0 (gsp c.2.1 k).2.length]),(nid+1,.vec 1 2 false (pgr (gsp c.2.1 k).2)),(nid+2,.vec 1 2 false (prw c.2.2.1))]):=by
 have hex:∃ d:Cw,(zk d∧k<d.2.1.length)∧[CwV c]=[CwV d]:=⟨c,⟨h,hk⟩,rfl⟩
 unfold cOw;rw [dif_pos hex];have e:c=hex.choose:=zaJ.1 (List.cons.inj hex.choose_spec.2).1;generalize hex.choose=d at e ⊢;subst e;rfl
theorem zvH {k:Nat} {avs:List AV} {M:Nat->AO} {nid:Nat} {r:AV×List (Nat×AO)} (h:cOw k avs M nid=some r):caG (zup k) avs M nid=some r:=by
 by_cases hex:∃ c:Cw,(zk c∧k<c.2.1.length)∧avs=[CwV c]
 ·obtain ⟨c,⟨h1,h2⟩,rfl⟩:=hex;rw [zjv h1 h2] at h;rw [<- h];have hF:=zrK h1 h2;obtain ⟨sz,ss,fr,cp⟩:=c;simp only [CwV] at hF ⊢;unfold caG;simp [gat,nmsL,AV.nms,zbp,Led,curBL,AV.curB,renL,AV.ren,hF,zeZ,zcc,AO.nms,zdC,nmN,shN,rng,AO.ren,zdP,I,B]
 ·unfold cOw at h;rw [dif_neg hex] at h;cases h
theorem zqb {k:Nat} {avs:List AV} {M:Nat->AO} {nid:Nat} {r:AV×List (Nat×AO)} (h:cOw k avs M nid=some r):∀ b∈r.2.map (·.1),nid<=b∧b<nid+16:=by
 unfold cOw at h;split at h
 ·simp only [oJ] at h;subst h;intro b hb;simp at hb;omega
 ·cases h
abbrev ClI:={x:Cw×Nat×List CwP×Nat // x.2.2.2<x.2.2.1.length∧-1<=(gpg x.2.2.1 x.2.2.2).1∧(gpg x.2.2.1 x.2.2.2).1<(x.1.2.2.1.length:Int)∧x.1.2.2.1.length<=256∧(∀ i,i<x.1.2.2.1.length->-1000000<=(gp x.1.2.2.1 i).1∧(gp x.1.2.2.1 i).1<=1000000)}
def clA (x:Cw×Nat×List CwP×Nat):List AV:=[.agg [I x.1.1,.sl 0 1 2 0 x.1.2.1.length,.sl 2 1 2 0 x.1.2.2.1.length,I x.1.2.2.2],.ep 1 1 2 x.2.2.2 0]
def clM (x:Cw×Nat×List CwP×Nat):List AO:=[.vo 1 2 (spr x.1.2.1) x.2.1 [B (gsp x.1.2.1 x.2.1).1,.sl 1 1 2 0 x.2.2.1.length],.vec 1 2 false (pgr x.2.2.1),.vec 1 2 false (prw x.1.2.2.1)]
def clO (x:Cw×Nat×List CwP×Nat):List AO:=[.vo 1 2 (spr x.1.2.1) x.2.1 [B (gsp x.1.2.1 x.2.1).1,.sl 1 1 2 0 x.2.2.1.length],.vec 1 2 false (pgr (x.2.2.1.set x.2.2.2 (-1,false))),.vec 1 2 false (prw (unF x.1.2.2.1 (gpg x.2.2.1 x.2.2.2).1))]
noncomputable def zmu:List AV->List AO->Option (AV×List AO):=za1 (ι:=ClI) (fun x=>clA x.1) (fun x=>clM x.1) (fun _=>rtO []) fun x=>clO x.1
theorem zqE {l:List Dp} {i:Nat} {a b:Int}:(prw l).set i [AV.v (.int .i64 a),AV.v (.int .i64 b)]=prw (l.set i (a,b)):=by simp [prw,List.map_set,I]
set_option maxHeartbeats 8000000 in
theorem s82 (X:AX) (hX:XOK prog X) (hw:X.W wT):GSd prog 82 zmu:=by
 unfold zmu;refine gsS func82 rfl X fun ⟨⟨⟨sz,ss,fr,cp⟩,k,l,j⟩,hj,hf0,hf1,hf2,hcn⟩ w0 L E=>⟨by show 2<=35;decide,?_⟩
 simp only at hj hf0 hf1 hf2 hcn ⊢;simp only [clA,clM,clO];show AW ⟨prog,X,35,w0,⟨L,E,3⟩⟩ _ _ _;have hc:Cx.OK ⟨prog,X,35,w0,⟨L,E,3⟩⟩:=⟨hX,mixed⟩
 have hg:=ze3 hj;have hgE:=ze4 hj;have hps:=@zfL l j (-1,false);obtain ⟨⟨f,b⟩,hx⟩:∃ x,x=gpg l j:=⟨_,rfl⟩
 rw [<- hx] at hg hgE hf0 hf1 ⊢;simp only [B,I] at hg hgE hf0 hf1 hps ⊢;rcases dE (0<=f) with h0|h0
 ·obtain ⟨f,rfl⟩:=Int.eq_ofNat_of_zero_le h0;have hfl:f<fr.length:=by omega
  have hflI:(f:Int)<(fr.length:Int):=by omega
  have hg1:=zab hfl;have hgE1:=zac hfl;have hcf:=hcn f hfl;have eU:unF fr (f:Int)=fr.set f ((gp fr f).1 - 1,if (gp fr f).1 - 1=0 then 0 else (gp fr f).2):=by unfold unF;rw [if_pos h0];simp only [Int.toNat_natCast]
  rw [eU];obtain ⟨⟨a,w⟩,hy⟩:∃ x,x=gp fr f:=⟨_,rfl⟩
  rw [<- hy] at hg1 hgE1 hcf ⊢;simp only [I] at hg1 hgE1 hcf ⊢;rcases dE (a - 1=0) with h1|h1
  ·have zS:=jj hj<|jj hg<|jj hgE<|jj hfl<|jj hflI<|jj hg1<|jj hgE1<|jj h1<|hps;refine zhd ?_;repeat (intro K hK)
   clear zS;refine ⟨_,by simp [aRs,f82];rfl,?_⟩;simp only [idx,zqE];refine zaI (s1:=?tus1) (m1:=?tum1) [] [0] [0,1,2] ?tua1 ?tub1 ?tuc1 ?tud1 ?tue1 ?tuf1 ?tug1
   case tua1=>first|(simp [kpS];done)|(simp [kpS];rfl)
   case tub1=>first|(simp;done)|(simp;rfl)
   case tuc1=>simp
   case tud1=>simp
   case tue1=>simp
   case tuf1=>simp
   case tug1 =>simp [swp,vr];exact dle
  ·have zS:=jj hj<|jj hg<|jj hgE<|jj hfl<|jj hflI<|jj hg1<|jj hgE1<|jj h1<|hps;refine zhd ?_;repeat (intro K hK)
   clear zS;refine ⟨_,by simp [aRs,f82];rfl,?_⟩;simp only [idx,zqE];refine zaI (s1:=?tus2) (m1:=?tum2) [] [0] [0,1,2] ?tua2 ?tub2 ?tuc2 ?tud2 ?tue2 ?tuf2 ?tug2
   case tua2=>first|(simp [kpS];done)|(simp [kpS];rfl)
   case tub2=>first|(simp;done)|(simp;rfl)
   case tuc2=>simp
   case tud2=>simp
   case tue2=>simp
   case tuf2=>simp
   case tug2 =>simp [swp,vr];exact dle
 ·have eU:unF fr f=fr:=by unfold unF;rw [if_neg h0]
  rw [eU];have zS:=jj hj<|jj hg<|jj hgE<|jj h0<|hps;refine zhd ?_;repeat (intro K hK)
  clear zS;refine ⟨_,by simp [aRs,f82];rfl,?_⟩;simp only [idx];refine zaI (s1:=?tus3) (m1:=?tum3) [] [0] [0,1,2] ?tua3 ?tub3 ?tuc3 ?tud3 ?tue3 ?tuf3 ?tug3
  case tua3=>first|(simp [kpS];done)|(simp [kpS];rfl)
  case tub3=>first|(simp;done)|(simp;rfl)
  case tuc3=>simp
  case tud3=>simp
  case tue3=>simp
  case tuf3=>simp
  case tug3 =>simp [swp,vr];exact dle
theorem zp6 {x y:Cw×Nat×List CwP×Nat} (hA:clA x=clA y) (hM:clM x=clM y):x=y:=by obtain ⟨⟨sz,ss,fr,cp⟩,k,l,j⟩:=x;obtain ⟨⟨sz',ss',fr',cp'⟩,k',l',j'⟩:=y;simp [clA,clM,I,B,zaC,zaE,zaa] at hA hM;obtain ⟨⟨rfl,_,_,rfl⟩,rfl⟩:=hA;obtain ⟨⟨rfl,rfl,_⟩,rfl,rfl⟩:=hM;rfl
theorem zp7 {x:Cw×Nat×List CwP×Nat} (h:x.2.2.2<x.2.2.1.length∧-1<=(gpg x.2.2.1 x.2.2.2).1∧(gpg x.2.2.1 x.2.2.2).1<(x.1.2.2.1.length:Int)∧x.1.2.2.1.length<=256∧(∀ i,i<x.1.2.2.1.length->-1000000<=(gp x.1.2.2.1 i).1∧(gp x.1.2.2.1 i).1<=1000000)) :
  zmu (clA x) (clM x)=some (.tup [],clO x) :=sGe (ι:=ClI) (A:=fun x=>clA x.1) (M:=fun x=>clM x.1) (R:=fun _=>rtO []) (O:=fun x=>clO x.1) ⟨x,h⟩ fun j hA hM=>by obtain ⟨y,hy⟩:=j;have:=zp6 hA hM;subst this;exact ⟨rfl,rfl⟩
theorem zoF {sz cp:Int} {ss:List CwS} {fr:List Dp} {k:Nat} {l:List CwP} {j:Nat} (h1:j<l.length) (h2:-1<=(gpg l j).1) (h3:(gpg l j).1<(fr.length:Int)) (h4:fr.length<=256) (h5:∀ i,i<fr.length->-1000000<=(gp fr i).1∧(gp fr i).1<=1000000)
  {a p f:Nat} (hap:a≠p) (haf:a≠f) (hpf:p≠f) (M:Nat->AO) (nid:Nat) (hMa:M a=.vo 1 2 (spr ss) k [B (gsp ss k).1,.sl p 1 2 0 l.length]) (hMp:M p=.vec 1 2 false (pgr l)) (hMf:M f=.vec 1 2 false (prw fr)) :
  caG zmu [.agg [I sz,.sl a 1 2 0 ss.length,.sl f 1 2 0 fr.length,I cp],.ep p 1 2 j 0] M nid=some (.tup [],[(a,.vo 1 2 (spr ss) k [B (gsp ss k).1,.sl p 1 2 0 l.length]),(p,.vec 1 2 false (pgr (l.set j (-1,false)))),(f,.vec 1 2 false (prw (unF fr (gpg l j).1)))]):=by have hF:=zp7 (x:=((sz,ss,fr,cp),k,l,j)) ⟨h1,h2,h3,h4,h5⟩;simp only [clA,clM,clO] at hF;have hpa:¬ p=a:=fun e=>hap e.symm;have hfa:¬ f=a:=fun e=>haf e.symm;have hfp:¬ f=p:=fun e=>hpf e.symm;unfold caG;simp [gat,nmsL,AV.nms,zbp,Led,curBL,AV.curB,renL,AV.ren,hF,zeZ,zcc,AO.nms,zdC,nmN,shN,rng,AO.ren,zdP,I,B,hMa,hMp,hMf,hap,haf,hpf,hpa,hfa,hfp,zbL,nDd,AO.curB,zaj]
def CwO (c:Cw):AV:=.agg [I c.1,.ow 2 (spr c.2.1),.ow 2 (prw c.2.2.1),I c.2.2.2]
structure OpX (X:AX) (k:Nat):Prop where
 ok:XOK prog X
 w:X.W wT
 at':∀ (c:Cw) (s p:Int),zk c->∀ M n,X.call 76 [CwV c,I s,I p] M n=some (I (atC c s p),[])
 li:∀ (c:Cw) (s:Int),zk c->∀ M n,X.call 80 [CwV c,I s] M n=some (I (liC c s),[])
 ow:∀ c:Cw,zk c->k<c.2.1.length->∀ M n,X.call 77 [CwV c] M n=cOw k [CwV c] M n
 cl:X.call 82=caG zmu
 ix:X.call 78=caP zv7
 cp:∀ l:List CwP,l.length<=1000000->∀ M n,X.call 81 [.rd 2 (pgr l)] M n=some (.rd 2 (pgr l),[])
noncomputable def unR (c:Cw) (s p:Int):Cw×Int:=if atC c s p=0 then (unC c s.toNat p.toNat,0) else (cw0,atC c s p)
noncomputable def FUn (k:Nat):List AV->Option AV:=spF (ι:={x:Cw×Int×Int // zk x.1∧(atC x.1 x.2.1 x.2.2=0->x.2.1=(k:Int))}) (fun x=>[CwV x.1.1,I x.1.2.1,I x.1.2.2]) fun x=>rtO [CwO (unR x.1.1 x.1.2.1 x.1.2.2).1,I (unR x.1.1 x.1.2.1 x.1.2.2).2]
theorem zp8 {c:Cw} (h:zk c):∀ i,i<c.2.2.1.length->-1000000<=(gp c.2.2.1 i).1∧(gp c.2.2.1 i).1<=1000000:=fun i hi=>by
 have h1:=(h.cnt i hi).1;have h2:zbn (pgs c.2.1) (i:Int)<=(pgs c.2.1).length:=by unfold zbn;exact List.length_filter_le _ _
 have h3:=@znn c.2.1 fun s hs=>by
  have h4:=h.live s hs;have h5:=h.sz;cases e:s.1 with
  | true=>have:=h4.1 e;omega
  | false=>rw [h4.2 e];simp
 have h6:=h.sp;omega
set_option maxHeartbeats 8000000 in
theorem s22 (k:Nat) (X:AX) (L:OpX X k):PSd prog 22 (FUn k):=by
 have hX:=L.ok;have hw:=L.w;unfold FUn;refine psS hX mixed func22 rfl fun ⟨⟨⟨sz,ss,fr,cp⟩,s,p⟩,h,hsk⟩ w0 G=>⟨by show 3<=30;decide,rfl,?_⟩
 show AW ⟨prog,X,30,w0,.pure G⟩ _ _ _;have hc:=okc hX 30 w0 G;have ha:=L.at' _ s p h;simp only at h hsk ha ⊢;unfold unR;rcases dE (atC (sz,ss,fr,cp) s p=0) with h0|h0
 ·rw [if_pos h0];have hs:=hsk h0;obtain ⟨h1,h2,h3⟩:=zoN h0;obtain ⟨h4,h5,h6⟩:=zgC h1;subst hs;obtain ⟨j,rfl⟩:=Int.eq_ofNat_of_zero_le h2;simp only at h3 h5 h6;have hk:k<ss.length:=by omega
  have hlv:=h.live _ (zaT hk);simp only [Int.toNat_natCast] at h6 hlv ⊢;have hll:=hlv.1 h6;have ow:=L.ow _ h hk;have owE:=fun M n=>(ow M n).trans (zjv h hk M n);have hsz:=h.sz;have hfr:=h.fr;simp only at hsz hfr;have hpg:=h.pg _ (zb8 hk (p:=j) (by simp only;omega));have hcb:=zp8 h;rw [h0] at ha;simp only at hpg hcb owE;unfold unC;simp only;obtain ⟨⟨kb,l⟩,hx⟩:∃ x,x=gsp ss k:=⟨_,rfl⟩
  unfold CwV at ha owE ⊢;simp only at ha owE ⊢;have hjl:j<l.length:=by rw [<- hx] at hll;simp only at hll;omega
  have hjI:(j:Int)<(l.length:Int):=by omega
  have hkI:(k:Int)<(ss.length:Int):=by omega
  have e2:(gsp ss k).2=l:=by rw [<- hx]
  have e1:(gsp ss k).1=kb:=by rw [<- hx]
  rw [e2] at hpg
  have hcl:∀ (M:Nat->AO) (nid:Nat),M 176=.vo 1 2 (spr ss) k [B kb,.sl 177 1 2 0 l.length]->M 177=.vec 1 2 false (pgr l)->M 178=.vec 1 2 false (prw fr) ->
    X.call 82 [.agg [I sz,.sl 176 1 2 0 ss.length,.sl 178 1 2 0 fr.length,I cp],.ep 177 1 2 j 0] M nid=some (.tup [],[(176,.vo 1 2 (spr ss) k [B kb,.sl 177 1 2 0 l.length]),(177,.vec 1 2 false (pgr (l.set j (-1,false)))),(178,.vec 1 2 false (prw (unF fr (gpg l j).1)))]):=fun M nid m1 m2 m3=>by rw [<- e1] at m1 ⊢;rw [L.cl];exact zoF hjl hpg.1 hpg.2.1 hfr.2 hcb (by decide) (by decide) (by decide) M nid m1 m2 m3
  repeat' ((fail_if_success (with_reducible refine zb3 (id:=6) ?_));first
   | (apply aSk;intro K hK)
   | (refine zae hc (by exact zau) ?_;simp [List.zipIdx,ha,owE,e1,e2,hkI,hk,hjl,hjI,hcl,-zb,gMh,gMm,gMn];(repeat (simp (disch:=first|omega|assumption|fail) only [if_pos,if_neg,zm];try simp [List.zipIdx,ha,owE,e1,e2,hkI,hk,hjl,hjI,hcl,-zb,gMh,gMm,gMn]));try (repeat' (refine gQs (fun h=>?_) (fun h=>?_)<;>simp at h<;>(simp [List.zipIdx,ha,owE,e1,e2,hkI,hk,hjl,hjI,hcl,-zb,gMh,gMm,gMn];(repeat (simp (disch:=first|omega|assumption|fail) only [if_pos,if_neg,zm];try simp [List.zipIdx,ha,owE,e1,e2,hkI,hk,hjl,hjI,hcl,-zb,gMh,gMm,gMn]))))))
   | (refine za6 hc ?_;simp [List.zipIdx,ha,owE,e1,e2,hkI,hk,hjl,hjI,hcl,-zb,gMh,gMm,gMn];(repeat (simp (disch:=first|omega|assumption|fail) only [if_pos,if_neg,zm];try simp [List.zipIdx,ha,owE,e1,e2,hkI,hk,hjl,hjI,hcl,-zb,gMh,gMm,gMn]));refine ⟨by kernel_rfl,?_⟩)
   | (refine zae hc (by first|(intro _;rw [zat hw];kernel_rfl)|(intro _;rw [ordB_w0 hw0];kernel_rfl)|(intro _;kernel_rfl)) ?_;simp [List.zipIdx,ha,owE,e1,e2,hkI,hk,hjl,hjI,hcl,-zb,gMh,gMm,gMn];(repeat (simp (disch:=first|omega|assumption|fail) only [if_pos,if_neg,zm];try simp [List.zipIdx,ha,owE,e1,e2,hkI,hk,hjl,hjI,hcl,-zb,gMh,gMm,gMn]));try (repeat' (refine gQs (fun h=>?_) (fun h=>?_)<;>simp at h<;>(simp [List.zipIdx,ha,owE,e1,e2,hkI,hk,hjl,hjI,hcl,-zb,gMh,gMm,gMn];(repeat (simp (disch:=first|omega|assumption|fail) only [if_pos,if_neg,zm];try simp [List.zipIdx,ha,owE,e1,e2,hkI,hk,hjl,hjI,hcl,-zb,gMh,gMm,gMn]))))))
   | (refine eC (fun h=>?_) (fun h=>?_)<;>(try simp at h))
   | (refine aBl ?_)
   | (refine zaf ?_;simp only [ze,bkQ,if_true])
   | (refine zag ?_;simp [ze,bkQ])
   | (refine zar ?_;simp only [ze,bkQ])
   | (refine aRd ?_)
   | (refine hK _ ?_;clear hK)
   | (clear hK;refine hK _ ?_;clear hK)
   | (clear hK;clear hK;refine hK _ ?_;clear hK)
   | (clear hK;clear hK;clear hK;refine hK _ ?_;clear hK))
  refine zad (zem (c:=176) (i:=1) (b:=177) (v:=1) (v':=1) (sz:=2) (s':=2) (cs:=[B kb,.sl 177 1 2 0 l.length]) (xs:=pgr (l.set j (-1,false))) (ys:=spr ss) (k:=k) (f:=false) (by simp) (by simp) (by simp)) ?_;refine zad (zdl (b:=176) (v:=1) (sz:=2) (k:=k) (xs:=spr ss) (e:=[B kb,.rd 2 (pgr (l.set j (-1,false)))]) (by simp) (by simp [AV.isClosed,B])) ?_;have hst:=@zdU ss k kb (l.set j (-1,false));have zS:=hst;repeat' (first|(refine aSk fun K hK=>?_)|(refine zp ?_)|(refine eC (fun h=>?_) (fun h=>?_)<;>(try simp at h))|(refine hK _ ?_;clear hK)|clear hK)
  all_goals clear zS
  rw [e1,e2];have tk1:List.take ss.length (spr (ss.set k (kb,l.set j (-1,false))))=spr (ss.set k (kb,l.set j (-1,false))):=tkL (by simp);have tk2:List.take fr.length (prw (unF fr (gpg l j).1))=prw (unF fr (gpg l j).1):=tkL (by simp [zeI]);refine ⟨by simp,?_⟩;simp [lvI,f22,CwO,tk1,tk2,zeI];try exact dt
 ·rw [if_neg h0];obtain ⟨e,he⟩:∃ e,e=atC (sz,ss,fr,cp) s p:=⟨_,rfl⟩
  rw [<- he] at h0 ha ⊢;unfold CwV at ha ⊢;simp only at ha ⊢;have zS:=jj ha<|h0;refine zhd ?_;repeat (intro K hK)
  clear zS;refine ⟨by simp,?_⟩;simp [lvI,f22,CwO,cw0,spr,prw];try exact dt
noncomputable def exR (c:Cw) (s:Int):Cw×Int:=if liC c s=0 then (exC c s.toNat,0) else (cw0,liC c s)
noncomputable def FEx (k:Nat):List AV->Option AV:=spF (ι:={x:Cw×Int // zk x.1∧(liC x.1 x.2=0->x.2=(k:Int))}) (fun x=>[CwV x.1.1,I x.1.2]) fun x=>rtO [CwO (exR x.1.1 x.1.2).1,I (exR x.1.1 x.1.2).2]
theorem zqY {c:Cw} {s:Nat}:∀ {n:Nat},(exI c s n).1=c.1∧(exI c s n).2.2.2=c.2.2.2∧∀ x,(exI c s n).2.1.set s x=c.2.1.set s x
 | 0=>⟨rfl,rfl,fun _=>rfl⟩
 | n+1=>by obtain ⟨h1,h2,h3⟩:=@zqY c s n;refine ⟨h1,h2,fun x=>?_⟩;show (unC (exI c s n) s n).2.1.set s x=_;unfold unC;simp only [List.set_set];exact h3 x
theorem zlB {c:Cw} {s:Nat}:exC c s=(c.1,c.2.1.set s (false,[]),(exI c s (gsp c.2.1 s).2.length).2.2.1,c.2.2.2):=by obtain ⟨h1,h2,h3⟩:=@zqY c s (gsp c.2.1 s).2.length;unfold exC;simp only;rw [h1,h2,h3]
theorem zva {c:Cw} {s n:Nat} (hs:s<(exI c s n).2.1.length):(gsp (exI c s (n+1)).2.1 s).2=(gsp (exI c s n).2.1 s).2.set n (-1,false):=by show (gsp (unC (exI c s n) s n).2.1 s).2=_;unfold unC;simp only;rw [zoa hs,if_pos rfl]
set_option maxHeartbeats 8000000 in
theorem s23 (k:Nat) (X:AX) (L:OpX X k):PSd prog 23 (FEx k):=by
 have hX:=L.ok;have hw:=L.w;unfold FEx;refine psS hX mixed func23 rfl fun ⟨⟨⟨sz,ss,fr,cp⟩,s⟩,h,hsk⟩ w0 G=>⟨by show 2<=44;decide,rfl,?_⟩
 show AW ⟨prog,X,44,w0,.pure G⟩ _ _ _;have hc:=okc hX 44 w0 G;have ha:=L.li _ s h;simp only at h hsk ha ⊢;unfold exR;rcases dE (liC (sz,ss,fr,cp) s=0) with h0|h0
 ·rw [if_pos h0];have hs:=hsk h0;obtain ⟨h4,h5,h6⟩:=zgC h0;subst hs;simp only at h5 h6;have hk:k<ss.length:=by omega
  have hlv:=h.live _ (zaT hk);simp only [Int.toNat_natCast] at h6 hlv ⊢;have hll:=hlv.1 h6;have ow:=L.ow _ h hk;have owE:=fun M n=>(ow M n).trans (zjv h hk M n);have hsz:=h.sz;have hfr:=h.fr;have hEx:=fun n hn=>@zk.exI _ h k hk n hn;simp only at hsz hfr;rw [h0] at ha;simp only at owE hEx;rw [zlB];simp only;obtain ⟨Pg,hPg⟩:∃ Pg:Nat->List CwP,∀ n,Pg n=(gsp (exI (sz,ss,fr,cp) k n).2.1 k).2:=⟨_,fun _=>rfl⟩
  obtain ⟨Fr,hFr⟩:∃ Fr:Nat->List Dp,∀ n,Fr n=(exI (sz,ss,fr,cp) k n).2.2.1:=⟨_,fun _=>rfl⟩
  rw [<- hFr];have hP0:Pg 0=(gsp ss k).2:=hPg 0;have hF0:Fr 0=fr:=hFr 0;obtain ⟨⟨kb,l⟩,hx⟩:∃ x,x=gsp ss k:=⟨_,rfl⟩
  unfold CwV at ha owE ⊢;simp only at ha owE ⊢;have e2:(gsp ss k).2=l:=by rw [<- hx]
  have e1:(gsp ss k).1=kb:=by rw [<- hx]
  rw [e2] at hEx hP0 hll ⊢;have hPs:∀ n,n<l.length->Pg (n+1)=(Pg n).set n (-1,false):=fun n hn=>by rw [hPg,hPg];exact zva (by rw [(hEx n (by omega)).len];exact hk)
  have hFs:∀ n,Fr (n+1)=unF (Fr n) (gpg (Pg n) n).1:=fun n=>by rw [hFr,hFr,hPg];rfl
  have hPl:∀ n,n<=l.length->(Pg n).length=l.length:=fun n hn=>by rw [hPg,(hEx n hn).pl,e2]
  have hFl:∀ n,n<=l.length->(Fr n).length=fr.length:=fun n hn=>by rw [hFr,(hEx n hn).fl]
  have hcl0:∀ n,n<l.length->-1<=(gpg (Pg n) n).1∧(gpg (Pg n) n).1<((Fr n).length:Int)∧∀ i,i<(Fr n).length->-1000000<=(gp (Fr n) i).1∧(gp (Fr n) i).1<=1000000:=fun n hn=>by
   have E:=hEx n (by omega);have hk2:k<(exI (sz,ss,fr,cp) k n).2.1.length:=by rw [E.len];exact hk
   have:=E.ok.pg _ (zb8 hk2 (p:=n) (by rw [E.pl,e2];exact hn));rw [hPg,hFr];exact ⟨this.1,this.2.1,zp8 E.ok⟩
  have hkI:(k:Int)<(ss.length:Int):=by omega
  have zS:=jj ha<|jj owE<|jj e1<|jj e2<|jj hkI<|hk;repeat' (first|(refine aSk fun K hK=>?_)|(refine zp ?_)|(refine eC (fun h=>?_) (fun h=>?_)<;>(try simp at h))|(refine hK _ ?_;clear hK)|(clear hK;refine hK _ ?_;clear hK))
  all_goals clear zS
  refine aLK (s0:=?lps1) (m0:=?lpm1) (ι:={i:Nat // i<=l.length}) [1,2,4,23] (fun i=>[(24,I i.1)]) (fun i=>[(161,.vec 1 2 false (pgr (Pg i.1))),(162,.vec 1 2 false (prw (Fr i.1)))]) (fun i=>l.length - i.1) ⟨0,by omega⟩ ?lhs1 ?lhm1 ?_ ?_
  case lhs1=>first|(simp [kpS];done)|(simp [kpS];rfl)
  case lhm1=>first|rfl|(simp;done)|(simp;rfl)
  ·simp only [hP0,hF0];exact zaN (by simp) (by simp [zdT,AV.under,AV.underL,zbC]<;>omega) (by simp [zeE,AO.under,AV.underL,AV.under,zbC]<;>omega)
  ·rintro ⟨i,hi⟩;simp only;rcases dE (i<l.length) with hil|hil
   ·have hilI:(i:Int)<(l.length:Int):=by omega
    have hpl:=hPl i hi;have hfl:=hFl i hi;obtain ⟨c1,c2,c3⟩:=hcl0 i hil;have hps:=hPs i hil;have hfs:=hFs i;obtain ⟨P,hP⟩:∃ P,P=Pg i:=⟨_,rfl⟩
    obtain ⟨F,hF⟩:∃ F,F=Fr i:=⟨_,rfl⟩
    rw [<- hP] at hpl c1 c2 hps hfs ⊢;rw [<- hF] at hfl c2 c3 hfs ⊢
    have hcl:∀ (M:Nat->AO) (nid:Nat),M 160=.vo 1 2 (spr ss) k [B kb,.sl 161 1 2 0 l.length]->M 161=.vec 1 2 false (pgr P)->M 162=.vec 1 2 false (prw F) ->
      X.call 82 [.agg [I sz,.sl 160 1 2 0 ss.length,.sl 162 1 2 0 fr.length,I cp],.ep 161 1 2 i 0] M nid=some (.tup [],[(160,.vo 1 2 (spr ss) k [B kb,.sl 161 1 2 0 l.length]),(161,.vec 1 2 false (pgr (Pg (i+1)))),(162,.vec 1 2 false (prw (Fr (i+1))))]):=fun M nid m1 m2 m3=>by rw [<- e1,<- hpl] at m1 ⊢;rw [L.cl,hps,hfs,<- hfl];exact zoF (by omega) c1 c2 (by omega) c3 (by decide) (by decide) (by decide) M nid m1 m2 m3
    have zS:=jj hilI<|jj hil<|jj hkI<|jj hk<|jj hpl<|hcl;repeat' (first|(refine aSk fun K hK=>?_)|(refine zp ?_)|(refine eC (fun h=>?_) (fun h=>?_)<;>(try simp at h))|(refine hK _ ?_;clear hK)|clear hK)
    all_goals clear zS
    refine ⟨i+1,?_,by omega,by omega⟩;exact dle
   ·obtain rfl:i=l.length:=by omega
    obtain ⟨F,hF⟩:∃ F,F=Fr l.length:=⟨_,rfl⟩
    have hfl:=hFl l.length hi;rw [<- hF] at hfl ⊢;repeat' ((fail_if_success (with_reducible refine zb3 (id:=11) ?_));first
     | (apply aSk;intro K hK)
     | (refine zae hc (by exact zau) ?_;simp [List.zipIdx,hkI,hk,-zb,gMh,gMm,gMn];(repeat (simp (disch:=first|omega|assumption|fail) only [if_pos,if_neg,zm];try simp [List.zipIdx,hkI,hk,-zb,gMh,gMm,gMn]));try (repeat' (refine gQs (fun h=>?_) (fun h=>?_)<;>simp at h<;>(simp [List.zipIdx,hkI,hk,-zb,gMh,gMm,gMn];(repeat (simp (disch:=first|omega|assumption|fail) only [if_pos,if_neg,zm];try simp [List.zipIdx,hkI,hk,-zb,gMh,gMm,gMn]))))))
     | (refine za6 hc ?_;simp [List.zipIdx,hkI,hk,-zb,gMh,gMm,gMn];(repeat (simp (disch:=first|omega|assumption|fail) only [if_pos,if_neg,zm];try simp [List.zipIdx,hkI,hk,-zb,gMh,gMm,gMn]));refine ⟨by kernel_rfl,?_⟩)
     | (refine zae hc (by first|(intro _;rw [zat hw];kernel_rfl)|(intro _;rw [ordB_w0 hw0];kernel_rfl)|(intro _;kernel_rfl)) ?_;simp [List.zipIdx,hkI,hk,-zb,gMh,gMm,gMn];(repeat (simp (disch:=first|omega|assumption|fail) only [if_pos,if_neg,zm];try simp [List.zipIdx,hkI,hk,-zb,gMh,gMm,gMn]));try (repeat' (refine gQs (fun h=>?_) (fun h=>?_)<;>simp at h<;>(simp [List.zipIdx,hkI,hk,-zb,gMh,gMm,gMn];(repeat (simp (disch:=first|omega|assumption|fail) only [if_pos,if_neg,zm];try simp [List.zipIdx,hkI,hk,-zb,gMh,gMm,gMn]))))))
     | (refine eC (fun h=>?_) (fun h=>?_)<;>(try simp at h))
     | (refine aBl ?_)
     | (refine zaf ?_;simp only [ze,bkQ,if_true])
     | (refine zag ?_;simp [ze,bkQ])
     | (refine zar ?_;simp only [ze,bkQ])
     | (refine aRd ?_)
     | (refine hK _ ?_;clear hK)
     | (clear hK;refine hK _ ?_;clear hK)
     | (clear hK;clear hK;refine hK _ ?_;clear hK)
     | (clear hK;clear hK;clear hK;refine hK _ ?_;clear hK))
    refine zad (zpF (b:=160) (v:=1) (sz:=2) (k:=k) (i:=1) (xs:=spr ss) (e:=[AV.v (.bool false),AV.v (.slice none 0 0)]) 2 (by simp) (by simp)) ?_;refine zad (zdl (b:=160) (v:=1) (sz:=2) (k:=k) (xs:=spr ss) (e:=[AV.v (.bool false),.rd 2 []]) (by simp) (by simp [AV.isClosed])) ?_;have hst:(spr ss).set k [AV.v (.bool false),.rd 2 []]=spr (ss.set k (false,[])):=@zdU ss k false [];have zS:=hst;repeat' (first|(refine aSk fun K hK=>?_)|(refine zp ?_)|(refine eC (fun h=>?_) (fun h=>?_)<;>(try simp at h))|(refine hK _ ?_;clear hK)|clear hK)
    all_goals clear zS
    have tk1:List.take ss.length (spr (ss.set k (false,[])))=spr (ss.set k (false,[])):=tkL (by simp);have tk2:List.take fr.length (prw F)=prw F:=tkL (by simp [hfl]);rw [<- hF];refine ⟨by simp,?_⟩;simp [lvI,f23,CwO,tk1,tk2,hfl];try exact dt
 ·rw [if_neg h0];obtain ⟨e,he⟩:∃ e,e=liC (sz,ss,fr,cp) s:=⟨_,rfl⟩
  rw [<- he] at h0 ha ⊢;unfold CwV at ha ⊢;simp only at ha ⊢;have zS:=jj ha<|h0;refine zhd ?_;repeat (intro K hK)
  clear zS;refine ⟨by simp,?_⟩;simp [lvI,f23,CwO,cw0,spr,prw];try exact dt
end Go.AM
