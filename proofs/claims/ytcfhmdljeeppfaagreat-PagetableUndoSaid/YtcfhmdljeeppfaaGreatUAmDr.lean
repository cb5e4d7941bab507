/- A part of the proof: what functions of the program compute, by abstract execution of their code. Its theorems hold without further condition. -/
import Derived.Test.YtcfhmdljeeppfaaGreatUAmT
import Derived.Test.YtcfhmdljeeppfaaGreatUAmZ
import Derived.Test.YtcfhmdljeeppfaaGreatProg
import Derived.ProofKit
import Derived.Laws.StructEq
import Derived.ChangeKeysEq
set_option linter.all false
namespace Go.AM
open Go
def restr (S:List Nat) (M:Nat→AO):Nat→AO:=fun b=>if b∈S then M b else .dead
abbrev RecF:=List Nat×Rec
def RecsF (T:TypeId→Option TD) (X:AX) (ops:Array Oper) (N base:Nat):List Oper→Nat→(Nat→AV)→(Nat→AO)→List RecF→(Nat→AV)→(Nat→AO)→Prop
 | [],_,g,m,[],g',m'=>g'=g∧m'=m
 | o::ol,i,g,m,r::rs,g',m'=>stepRel T X ops N o g (restr r.1 m) (base+16*i) r.2∧RecsF T X ops N base ol (i+1) (putF g o.dst r.2.1) (updM m r.2.2) rs g' m'
 | _,_,_,_,_,_,_=>False
theorem recsF_at {T:TypeId→Option TD} {X:AX} {ops:Array Oper} {N base:Nat}:∀ {ol:List Oper} {i:Nat} {g g':Nat→AV} {m m':Nat→AO} {rs:List RecF},RecsF T X ops N base ol i g m rs g' m' →
  rs.length=ol.length∧g'=gF (ol.zip (rs.map (·.2))) i (fun _=>true) g∧m'=mF (ol.zip (rs.map (·.2))) i (fun _=>true) m ∧
  ∀ k o S r,ol[k]?=some o→rs[k]?=some (S,r)→stepRel T X ops N o (gF (ol.zip (rs.map (·.2))) i (fun j=>decide (j<i+k)) g) (restr S (mF (ol.zip (rs.map (·.2))) i (fun j=>decide (j<i+k)) m)) (base+16*(i+k)) r
 | [],i,g,g',m,m',[],h=>by
  obtain ⟨rfl,rfl⟩:=h
  exact ⟨rfl,rfl,rfl,fun k o S r hk=>by simp at hk⟩
 | o::ol,i,g,g',m,m',r::rs,h=>by
  obtain ⟨h1,h2⟩:=h
  obtain ⟨k1,k2,k3,k4⟩:=recsF_at h2
  refine ⟨by simp [k1],by simpa [gF] using k2,by simpa [mF] using k3,fun k o' S r' hk hr=>?_⟩
  cases k with
  | zero =>
   simp only [List.getElem?_cons_zero,Option.some.injEq] at hk hr
   subst hk
   subst hr
   rw [gF_none (fun j hj=>by simp;omega),mF_none (fun j hj=>by simp;omega)]
   exact h1
  | succ k =>
   simp only [List.getElem?_cons_succ] at hk hr
   have:=k4 k o' S r' hk hr
   simp only [List.map_cons,List.zip_cons_cons,gF,mF]
   rw [if_pos (by simp),if_pos (by simp)]
   rwa [show i+(k+1)=i+1+k from by omega]
 | [],_,_,_,_,_,_::_,h=>by simp [RecsF] at h
 | _::_,_,_,_,_,_,[],h=>by simp [RecsF] at h
structure OrdF (ops:Array Oper) (rs:List RecF):Prop where
 back:∀ j o,ops[j]?=some o→∀ e∈o.after,Region.binds .any e=true→e.on<j
 slot:∀ i j x y,ops[i]?=some x→ops[j]?=some y→i<j→Oper.apart ops x y=false→Anc ops i j
 mem:∀ i j p q,rs[i]?=some p→rs[j]?=some q→i<j→(∃ b,(b∈p.2.2.map (·.1)∧(b∈q.1∨b∈q.2.2.map (·.1)))∨(b∈q.2.2.map (·.1)∧b∈p.1))→Anc ops i j
section
variable {P:Program} {X:AX} {ops:Array Oper} {N base:Nat} {rs:List RecF} {g0 g':Nat→AV} {m0 m':Nat→AO}
theorem live_ofF (hX:XOK P X) (hz:∀ k o S r,ops.toList[k]?=some o→rs[k]?=some (S,r)→stepRel (Types P) X ops N o (gF (ops.toList.zip (rs.map (·.2))) 0 (fun j=>decide (j<0+k)) g0) (restr S (mF (ops.toList.zip (rs.map (·.2))) 0 (fun j=>decide (j<0+k)) m0)) (base+16*(0+k)) r)
  (hm0:∀ b,m0 b≠.dead→b<base):∀ k b,mF (ops.toList.zip (rs.map (·.2))) 0 (fun j=>decide (j<k)) m0 b≠.dead→b<base∨∃ j,j<k∧base+16*j≤b∧b<base+16*j+16∧∃ p,rs[j]?=some p∧b∈p.2.2.map (·.1):=by
 intro k
 induction k with
 | zero =>
  intro b hb
  rw [mF_none (fun j _=>by simp)] at hb
  exact .inl (hm0 b hb)
 | succ k ih =>
  intro b hb
  cases hk:(ops.toList.zip (rs.map (·.2)))[k]? with
  | none =>
   have:mF (ops.toList.zip (rs.map (·.2))) 0 (fun j=>decide (j<k+1)) m0 b=mF (ops.toList.zip (rs.map (·.2))) 0 (fun j=>decide (j<k)) m0 b:=mF_at rfl fun j o r hj _=>by
    have h1:=(List.getElem?_eq_some_iff.1 hj).1
    have h2:=List.getElem?_eq_none_iff.1 hk
    simp only [Nat.zero_add,decide_eq_decide]
    omega
   rw [this] at hb
   rcases ih b hb with h1|⟨j,h1,h2⟩
   ·exact .inl h1
   ·exact .inr ⟨j,by omega,h2⟩
  | some p =>
   obtain ⟨o,r⟩:=p
   obtain ⟨S,hS⟩:∃ S,rs[k]?=some (S,r)∧ops.toList[k]?=some o:=by
    rw [List.getElem?_zip_eq_some] at hk
    obtain ⟨h1,h2⟩:=hk
    rw [List.getElem?_map] at h2
    cases hr:rs[k]? with
    | none=>rw [hr] at h2;simp at h2
    | some q=>rw [hr] at h2;simp at h2;exact ⟨q.1,by rw [← h2],h1⟩
   by_cases hd:b∈r.2.map (·.1)
   ·rcases stepRel_dom hX (hz k o S r hS.2 hS.1) b hd with h1|⟨_,h1⟩
    ·exact .inr ⟨k,by omega,by omega,by omega,(S,r),hS.1,hd⟩
    ·simp only [Nat.zero_add] at h1
     have h1':mF (ops.toList.zip (rs.map (·.2))) 0 (fun j=>decide (j<k)) m0 b≠.dead:=fun e=>h1 (by unfold restr;split;exact e;rfl)
     rcases ih b h1' with h2|⟨j,h2,h3⟩
     ·exact .inl h2
     ·exact .inr ⟨j,by omega,h3⟩
   ·have:mF (ops.toList.zip (rs.map (·.2))) 0 (fun j=>decide (j<k+1)) m0 b=mF (ops.toList.zip (rs.map (·.2))) 0 (fun j=>decide (j<k)) m0 b:=mF_at rfl fun j o' r' hj hb'=>by
     have:j≠k:=fun e=>by subst e;rw [hk] at hj;simp at hj;rw [hj.2] at hd;exact hd hb'
     simp only [Nat.zero_add,decide_eq_decide]
     omega
    rw [this] at hb
    rcases ih b hb with h1|⟨j,h1,h2⟩
    ·exact .inl h1
    ·exact .inr ⟨j,by omega,h2⟩
theorem run_anyF {w0:World} {bl:Bk} {Q:Exit→Act→World→Prop} (hX:XOK P X) (hO:OrdF ops rs) (hrecs:RecsF (Types P) X ops N base ops.toList 0 g0 m0 rs g' m') (hm0:∀ b,m0 b≠.dead→b<base)
  (hq:∀ E a w,SatF N w0 bl E a w g' m'→(∀ b,E.alive b→b<base+16*ops.size)→Q .normal a w) :
  ∀ (fuel:Nat) (listed:Array Bool) (E:Env) (a:Act) (w:World),listed.size=ops.size→(List.range ops.size).countP (fun j=>!(listed.getD j false))≤fuel →
   (∀ j o,ops[j]?=some o→listed.getD j false=true→∀ e∈o.after,Region.binds .any e=true→listed.getD e.on false=true) →
   SatF N w0 bl E a w (gF (ops.toList.zip (rs.map (·.2))) 0 (fun j=>listed.getD j false) g0) (mF (ops.toList.zip (rs.map (·.2))) 0 (fun j=>listed.getD j false) m0) →
   (∀ b,E.alive b→b<base∨∃ j,listed.getD j false=true∧base+16*j≤b∧b<base+16*j+16)→wpAny P .any ops Q fuel listed a w:=by
 obtain ⟨hlen,hg',hm',hz⟩:=recsF_at hrecs
 have hzl:(ops.toList.zip (rs.map (·.2))).length=ops.size:=by simp [hlen]
 have hzget:∀ j o,ops[j]?=some o→∃ r,(ops.toList.zip (rs.map (·.2)))[j]?=some (o,r):=fun j o ho=>by
  have hj:j<ops.size:=(Array.getElem?_eq_some_iff.1 ho).1
  have:j<(ops.toList.zip (rs.map (·.2))).length:=by omega
  refine ⟨(rs[j]'(by rw [hlen];simpa using hj)).2,?_⟩
  rw [List.getElem?_eq_getElem this,List.getElem_zip,List.getElem_map]
  congr 2
  have:=(Array.getElem?_eq_some_iff.1 ho).2
  simpa using this
 have hzop:∀ {j o r},(ops.toList.zip (rs.map (·.2)))[j]?=some (o,r)→ops[j]?=some o:=fun {j o r} h=>by
  have h1:=(List.getElem?_eq_some_iff.1 h).2
  have hj:=(List.getElem?_eq_some_iff.1 h).1
  rw [List.getElem_zip] at h1
  simp only [Prod.mk.injEq] at h1
  have hj':j<ops.size:=by omega
  rw [Array.getElem?_eq_getElem hj']
  congr 1
  simpa using h1.1
 have done:∀ (listed:Array Bool) (E:Env) (a:Act) (w:World),(∀ j,j<ops.size→listed.getD j false=true)→SatF N w0 bl E a w (gF (ops.toList.zip (rs.map (·.2))) 0 (fun j=>listed.getD j false) g0) (mF (ops.toList.zip (rs.map (·.2))) 0 (fun j=>listed.getD j false) m0) →
   (∀ b,E.alive b→b<base∨∃ j,listed.getD j false=true∧base+16*j≤b∧b<base+16*j+16)→listed.size=ops.size→Q .normal a w:=fun listed E a w hall hs hal hsz=>by
  have e1:gF (ops.toList.zip (rs.map (·.2))) 0 (fun j=>listed.getD j false) g0=g':=by
   rw [hg']
   funext t
   exact gF_at rfl fun j o r hj _=>by
    simp only [Nat.zero_add]
    exact hall j (by have:=(List.getElem?_eq_some_iff.1 hj).1;omega)
  have e2:mF (ops.toList.zip (rs.map (·.2))) 0 (fun j=>listed.getD j false) m0=m':=by
   rw [hm']
   funext t
   exact mF_at rfl fun j o r hj _=>by
    simp only [Nat.zero_add]
    exact hall j (by have:=(List.getElem?_eq_some_iff.1 hj).1;omega)
  rw [e1,e2] at hs
  refine hq E a w hs fun b hb=>?_
  rcases hal b hb with h1|⟨j,h1,h2,h3⟩
  ·omega
  ·have:j<ops.size:=by
    rw [← hsz]
    by_cases hj:j<listed.size
    ·exact hj
    ·rw [Array.getD_eq_getD_getElem?,Array.getElem?_eq_none (by omega)] at h1;simp at h1
   omega
 intro fuel
 induction fuel with
 | zero =>
  intro listed E a w hsz hcnt hdown hs hal
  have hall:∀ j,j<ops.size→listed.getD j false=true:=fun j hj=>by
   have h0:(List.range ops.size).countP (fun j=>!(listed.getD j false))=0:=by omega
   have:=List.countP_eq_zero.1 h0 j (List.mem_range.2 hj)
   simpa using this
  refine ⟨?_,done listed E a w hall hs hal hsz⟩
  apply List.eq_nil_iff_forall_not_mem.2
  intro j hj
  obtain ⟨h1,o,ho,_⟩:=mem_ready.1 hj
  have hj':j<ops.size:=(Array.getElem?_eq_some_iff.1 ho).1
  have h2:=hall j hj'
  rw [Array.getD_eq_getD_getElem?,Array.getElem?_eq_getElem (by omega)] at h1 h2
  simp at h1 h2
  rw [h1] at h2
  simp at h2
 | succ fuel ih =>
  intro listed E a w hsz hcnt hdown hs hal
  refine ⟨fun hnil=>?_,fun i hi=>?_⟩
  ·refine done listed E a w ?_ hs hal hsz
   intro j
   induction j using Nat.strongRecOn with
   | _ j ihj =>
    intro hj
    cases hl:listed.getD j false with
    | true=>rfl
    | false =>
     exfalso
     have ho:ops[j]?=some ops[j]:=Array.getElem?_eq_getElem hj
     have:j∈Region.ready .any ops listed:=mem_ready.2 ⟨?_,_,ho,fun e he hb=>?_⟩
     ·rw [hnil] at this;simp at this
     ·rw [Array.getD_eq_getD_getElem?,Array.getElem?_eq_getElem (by omega)] at hl ⊢
      simpa using hl
     ·have hlt:=hO.back j _ ho e he hb
      exact ihj e.on hlt (by omega)
  ·obtain ⟨hi0,o,ho,hdeps⟩:=mem_ready.1 hi
   have hilt:i<ops.size:=(Array.getElem?_eq_some_iff.1 ho).1
   have hLi:listed.getD i false=false:=by
    rw [Array.getD_eq_getD_getElem?,Array.getElem?_eq_getElem (by omega)] at hi0 ⊢
    simpa using hi0
   obtain ⟨r,hzi⟩:=hzget i o ho
   have hzS:∀ {j y ry},(ops.toList.zip (rs.map (·.2)))[j]?=some (y,ry)→∃ S,rs[j]?=some (S,ry):=fun {j y ry} h=>by
    rw [List.getElem?_zip_eq_some] at h
    obtain ⟨h1,h2⟩:=h
    rw [List.getElem?_map] at h2
    cases hr:rs[j]? with
    | none=>rw [hr] at h2;simp at h2
    | some q=>rw [hr] at h2;simp at h2;exact ⟨q.1,by rw [← h2];exact hr⟩
   obtain ⟨S,hSi⟩:=hzS hzi
   have hstep:=hz i o S r (by simpa using ho) hSi
   simp only [Nat.zero_add] at hstep
   have before:∀ {j},Anc ops j i→listed.getD j false=true:=fun h=>anc_listed hdown h (.inr ⟨o,ho,hdeps⟩)
   have behind:∀ {j},Anc ops i j→listed.getD j false=false:=fun {j} h=>by
    cases hj:listed.getD j false with
    | false=>rfl
    | true=>have:=anc_listed hdown h (.inl hj);rw [hLi] at this;simp at this
   have conf:∀ {j y},ops[j]?=some y→j≠i→(Oper.apart ops y o=false∧Oper.apart ops o y=false)→listed.getD j false=decide (j<i):=fun {j y} hy hne hc=>by
    rcases Nat.lt_or_gt_of_ne hne with hlt|hgt
    ·rw [before (hO.slot j i y o hy ho hlt hc.1)];simp [hlt]
    ·rw [behind (hO.slot i j o y ho hy hgt hc.2)];simp;omega
   have confM:∀ {j b} {p:RecF},rs[j]?=some p→j≠i→(b∈p.2.2.map (·.1))→(b∈S∨b∈r.2.map (·.1))→listed.getD j false=decide (j<i):=fun {j b p} hp hne hb hc=>by
    rcases Nat.lt_or_gt_of_ne hne with hlt|hgt
    ·rw [before (hO.mem j i p (S,r) hp hSi hlt ⟨b,.inl ⟨hb,hc⟩⟩)];simp [hlt]
    ·rw [behind (hO.mem i j (S,r) p hSi hp hgt ⟨b,hc.elim (fun h=>.inr ⟨hb,h⟩) fun h=>.inl ⟨h,.inr hb⟩⟩)];simp;omega
   have slotc:∀ {y:Oper} {t:Nat},y.dst=some t→(t∈o.looksAt ops∨o.dst=some t)→Oper.apart ops y o=false∧Oper.apart ops o y=false:=fun {y t} hy ht=>by
    have h1:Oper.apart ops y o=false:=by
     cases hap:Oper.apart ops y o with
     | false=>rfl
     | true =>
      obtain ⟨p1,p2,p3⟩:=Oper.apart_spec hap
      rcases ht with ht|ht
      ·exact absurd ht (p1 t hy)
      ·exact absurd ht (p2 t hy)
    have h2:Oper.apart ops o y=false:=by
     cases hap:Oper.apart ops o y with
     | false=>rfl
     | true =>
      obtain ⟨p1,p2,p3⟩:=Oper.apart_spec hap
      rcases ht with ht|ht
      ·exact absurd ht (p3 t hy)
      ·exact absurd hy (p2 t ht)
    exact ⟨h1,h2⟩
   have hgeq:∀ t∈o.looksAt ops,gF (ops.toList.zip (rs.map (·.2))) 0 (fun j=>decide (j<i)) g0 t=gF (ops.toList.zip (rs.map (·.2))) 0 (fun j=>listed.getD j false) g0 t:=fun t ht=>gF_at rfl fun j y ry hj hd=>by
    simp only [Nat.zero_add]
    by_cases hji:j=i
    ·subst hji;rw [hLi];simp
    ·exact (conf (hzop hj) hji (slotc hd (.inl ht))).symm
   have hlive:=live_ofF hX hz hm0 i
   have hmeq:∀ b∈S,mF (ops.toList.zip (rs.map (·.2))) 0 (fun j=>decide (j<i)) m0 b=mF (ops.toList.zip (rs.map (·.2))) 0 (fun j=>listed.getD j false) m0 b:=fun b hb=>mF_at rfl fun j y ry hj hd=>by
    simp only [Nat.zero_add]
    by_cases hji:j=i
    ·subst hji;rw [hLi];simp
    ·obtain ⟨Sj,hSj⟩:=hzS hj
     exact (confM hSj hji hd (.inl hb)).symm
   have hst:∃ mm,stepRel (Types P) X ops N o (gF (ops.toList.zip (rs.map (·.2))) 0 (fun j=>listed.getD j false) g0) mm (base+16*i) r∧MemOK E w mm:=by
    refine ⟨_,stepRel_congr hstep hgeq (.inl rfl),fun b hb=>?_⟩
    unfold restr
    split
    ·rename_i hbS
     rw [hmeq b hbS];exact hs.mem b hb
    ·trivial
   obtain ⟨mm,hst1,hst2⟩:=hst
   have hs':SatF N w0 bl E a w (gF (ops.toList.zip (rs.map (·.2))) 0 (fun j=>listed.getD j false) g0) mm:=⟨hs.defers,hs.size,hs.inv,hst2,hs.slots⟩
   have hfree:∀ k,base+16*i≤k→k<base+16*i+16→¬ E.alive k:=fun k h1 h2 h3=>by
    rcases hal k h3 with h4|⟨j,h4,h5,h6⟩
    ·omega
    ·have:j=i:=by omega
     subst this;rw [hLi] at h4;simp at h4
   have hset:∀ j,(listed.setIfInBounds i true).getD j false=if i=j then true else listed.getD j false:=fun j=>by
    by_cases e:i=j
    ·subst e;simp [Array.getD_eq_getD_getElem?,hsz,hilt]
    ·simp [Array.getD_eq_getD_getElem?,Array.getElem?_setIfInBounds_ne e,e]
   have hgnew:gF (ops.toList.zip (rs.map (·.2))) 0 (fun j=>(listed.setIfInBounds i true).getD j false) g0=putF (gF (ops.toList.zip (rs.map (·.2))) 0 (fun j=>listed.getD j false) g0) o.dst r.1:=by
    funext t
    by_cases hd:o.dst=some t
    ·rw [putF,if_pos hd]
     refine gF_last hzi (by simp [hset]) hd fun j y ry hij hj hyd=>?_
     simp only [Nat.zero_add,hset]
     rw [if_neg (by omega)]
     have:=conf (hzop hj) (by omega) (slotc hyd (.inr hd))
     rw [this];simp;omega
    ·rw [putF,if_neg hd]
     refine gF_at rfl fun j y ry hj hyd=>?_
     simp only [Nat.zero_add,hset]
     rw [if_neg fun e=>?_]
     subst e
     rw [hzi] at hj
     simp only [Option.some.injEq,Prod.mk.injEq] at hj
     rw [hj.1] at hd
     exact hd hyd
   have hmnew:mF (ops.toList.zip (rs.map (·.2))) 0 (fun j=>(listed.setIfInBounds i true).getD j false) m0=updM (mF (ops.toList.zip (rs.map (·.2))) 0 (fun j=>listed.getD j false) m0) r.2:=by
    funext b
    by_cases hd:b∈r.2.map (·.1)
    ·refine mF_last hzi (by simp [hset]) hd (fun j y ry hij hj hyd=>?_) _
     simp only [Nat.zero_add,hset]
     rw [if_neg (by omega)]
     obtain ⟨Sj,hSj⟩:=hzS hj
     rw [confM hSj (by omega) hyd (.inr hd)];simp;omega
    ·rw [updM_not hd]
     refine mF_at rfl fun j y ry hj hyd=>?_
     simp only [Nat.zero_add,hset]
     rw [if_neg fun e=>?_]
     subst e
     rw [hzi] at hj
     simp only [Option.some.injEq,Prod.mk.injEq] at hj
     rw [hj.2] at hd
     exact hd hyd
   have key:=step_wp hX (Q:=Q) (next:=wpAny P .any ops Q fuel (listed.setIfInBounds i true)) hs' hst1 hfree fun E' a' w' st hs2=>by
    refine ih _ E' a' w' (by simp [hsz]) ?_ ?_ ?_ ?_
    ·have:(List.range ops.size).countP (fun j=>!((listed.setIfInBounds i true).getD j false))<(List.range ops.size).countP (fun j=>!(listed.getD j false)):=by
      refine countP_lt (fun x hx=>?_) ⟨i,List.mem_range.2 hilt,by simp [hLi],by simp [hset]⟩
      rw [hset] at hx
      split at hx
      ·simp at hx
      ·exact hx
     omega
    ·intro j y hy hj e he hb
     rw [hset] at hj ⊢
     split
     ·rfl
     ·split at hj
      ·rename_i hij;subst hij;rw [ho] at hy;simp at hy;subst hy;exact hdeps e he hb
      ·exact hdown j y hy hj e he hb
    ·rw [hgnew,hmnew]
     exact ⟨hs2.defers,hs2.size,hs2.inv,st.mem hs.inv hs.mem,hs2.slots⟩
    ·intro b hb
     rcases st.alive b hb with h1|h1
     ·rcases hal b h1 with h2|⟨j,h2,h3⟩
      ·exact .inl h2
      ·exact .inr ⟨j,by rw [hset,h2];simp,h3⟩
     ·rcases stepRel_dom hX hstep b h1 with h2|⟨h2,h3⟩
      ·exact .inr ⟨i,by simp [hset],h2.1,h2.2⟩
      ·have hbS:b∈S:=by
        by_cases hbS:b∈S
        ·exact hbS
        ·exact absurd (by unfold restr;rw [if_neg hbS]) h3
       have h3':mF (ops.toList.zip (rs.map (·.2))) 0 (fun j=>decide (j<i)) m0 b≠.dead:=fun e=>h3 (by unfold restr;rw [if_pos hbS];exact e)
       rcases hlive b h3' with h4|⟨j,h4,h5,h6,p,h7,h8⟩
       ·exact .inl h4
       ·refine .inr ⟨j,?_,h5,h6⟩
        rw [hset,before (hO.mem j i p (S,r) h7 hSi h4 ⟨b,.inl ⟨h8,.inl hbS⟩⟩)]
        simp
   unfold wpOp
   simp only [ho]
   split
   ·rename_i hw;rw [if_pos hw] at key;exact .inl key
   ·rename_i hw;rw [if_neg hw] at key;exact key
end
end Go.AM
namespace Go.AM
open Go
def opFoot (op:Op) (ev:Operand→AV) (M:Nat→AO):List Nat:=match op with
 | .load _ x=>(ev x).nms
 | .store _ x _=>(ev x).nms
 | .call c=>match c.callee with
  | .builtin b=>match b with
   | .len=>match c.args.toList.map ev with
    | [.mp b _]=>[b]
    | _=>[]
   | .min|.max|.cap=>[]
   | _=>nmsL (c.args.toList.map ev)
  | .value f=>gat M 64 (nmsL (ev f::c.args.toList.map ev)) []
  | _=>[]
 | .lookup _ x _ _=>(ev x).nms
 | .mapUpdate _ x _ _=>(ev x).nms
 | _=>[]
abbrev Foot:=List Nat×List Nat
def arunFt (T:TypeId→Option TD) (X:AX) (ops:Array Oper) (N base:Nat):List Oper→Nat→List (Nat×AV)→List (Nat×AO)→List Foot→Option (List (Nat×AV)×List (Nat×AO)×List Foot)
 | [],_,l,M,fs=>some (l,M,fs)
 | o::r,i,l,M,fs =>
  if dstOK N o=true then
   match o.guard with
   | none=>match astep T X o.op (aEv l) (restr (opFoot o.op (aEv l) (getM M)) (getM M)) (base+16*i) with
    | some (av,u)=>arunFt T X ops N base r (i+1) (putS l o.dst av) (updL M u) ((opFoot o.op (aEv l) (getM M),u.map (·.1))::fs)
    | none=>none
   | some (j,want)=>match (ops[j]?).bind (·.dst) with
    | some d=>match yV (getS l d) with
     | some (some b) =>
      if b=want then
       match astep T X o.op (aEv ((d,.v (.bool want))::l)) (restr (opFoot o.op (aEv ((d,.v (.bool want))::l)) (getM M)) (getM M)) (base+16*i) with
       | some (av,u)=>arunFt T X ops N base r (i+1) (putS ((d,.v (.bool want))::l) o.dst av) (updL M u) ((opFoot o.op (aEv ((d,.v (.bool want))::l)) (getM M),u.map (·.1))::fs)
       | none=>none
      else arunFt T X ops N base r (i+1) (putS ((d,.v (.bool (!want)))::l) o.dst .u) M (([],[])::fs)
     | some none=>arunFt T X ops N base r (i+1) (putS l o.dst .u) M (([],[])::fs)
     | none=>none
    | none=>none
  else none
def footOf (r:RecF):Foot:=(r.1,r.2.2.map (·.1))
theorem recsF_of_run {T:TypeId→Option TD} {X:AX} {ops:Array Oper} {N base:Nat}:∀ {ol:List Oper} {i:Nat} {l l':List (Nat×AV)} {M M':List (Nat×AO)} {fs fs':List Foot},arunFt T X ops N base ol i l M fs=some (l',M',fs') →
  ∃ rs,RecsF T X ops N base ol i (getS l) (getM M) rs (getS l') (getM M')∧fs'=(rs.map footOf).reverse++fs
 | [],i,l,l',M,M',fs,fs',h=>by
  simp only [arunFt,Option.some.injEq,Prod.mk.injEq] at h
  obtain ⟨rfl,rfl,rfl⟩:=h
  exact ⟨[],⟨rfl,rfl⟩,rfl⟩
 | o::ol,i,l,l',M,M',fs,fs',h=>by
  simp only [arunFt] at h
  split at h
  case isFalse=>simp at h
  rename_i hd
  cases hg:o.guard with
  | none =>
   simp only [hg] at h
   cases hs:astep T X o.op (aEv l) (restr (opFoot o.op (aEv l) (getM M)) (getM M)) (base+16*i)<;>simp only [hs,reduceCtorEq] at h
   rename_i r
   obtain ⟨av,u⟩:=r
   obtain ⟨rs,hrs,hfs⟩:=recsF_of_run h
   refine ⟨(opFoot o.op (aEv l) (getM M),av,u)::rs,?_,by rw [hfs];simp [footOf]⟩
   simp only [RecsF,stepRel,hg,hd,true_and]
   rw [getS_putS,getM_updL] at hrs
   exact ⟨by rw [← aEv_eq];exact hs,hrs⟩
  | some jw =>
   obtain ⟨j,want⟩:=jw
   simp only [hg] at h
   cases hdj:(ops[j]?).bind (·.dst)<;>simp only [hdj,reduceCtorEq] at h
   rename_i d
   cases hy:yV (getS l d)<;>simp only [hy,reduceCtorEq] at h
   rename_i y
   cases y with
   | none =>
    simp only at h
    obtain ⟨rs,hrs,hfs⟩:=recsF_of_run h
    refine ⟨([],.u,[])::rs,?_,by rw [hfs];simp [footOf]⟩
    simp only [RecsF,stepRel,hg,hd,true_and]
    rw [getS_putS] at hrs
    exact ⟨⟨d,none,hdj,hy,by simp⟩,hrs⟩
   | some b =>
   simp only at h
   have hgd:=yV_bool hy
   split at h
   ·rename_i hb
    subst hb
    have hsame:=getS_same l d _ hgd
    cases hs:astep T X o.op (aEv ((d,.v (.bool b))::l)) (restr (opFoot o.op (aEv ((d,.v (.bool b))::l)) (getM M)) (getM M)) (base+16*i)<;>simp only [hs,reduceCtorEq] at h
    rename_i r
    obtain ⟨av,u⟩:=r
    obtain ⟨rs,hrs,hfs⟩:=recsF_of_run h
    refine ⟨(opFoot o.op (aEv ((d,.v (.bool b))::l)) (getM M),av,u)::rs,?_,by rw [hfs];simp [footOf]⟩
    simp only [RecsF,stepRel,hg,hd,true_and]
    rw [getS_putS,getM_updL,hsame] at hrs
    have e1:aEv ((d,.v (.bool b))::l)=aEvF (getS l):=by rw [aEv_eq,hsame]
    rw [e1] at hs ⊢
    exact ⟨⟨d,some b,hdj,hy,by rw [if_pos rfl];exact hs⟩,hrs⟩
   ·rename_i hb
    have hnb:(!want)=b:=by cases b<;>cases want<;>simp at hb ⊢
    rw [hnb] at h
    have hsame:=getS_same l d _ hgd
    obtain ⟨rs,hrs,hfs⟩:=recsF_of_run h
    refine ⟨([],.u,[])::rs,?_,by rw [hfs];simp [footOf]⟩
    simp only [RecsF,stepRel,hg,hd,true_and]
    rw [getS_putS,hsame] at hrs
    exact ⟨⟨d,some b,hdj,hy,by rw [if_neg (by simpa using hb)];trivial⟩,hrs⟩
def memB (l:List Nat) (b:Nat):Bool:=l.any fun c=>Nat.beq c b
theorem memB_iff {l:List Nat} {b:Nat}:memB l b=true↔b∈l:=by
 unfold memB
 rw [List.any_eq_true]
 constructor
 ·rintro ⟨c,hc,e⟩
  rw [← Nat.eq_of_beq_eq_true e];exact hc
 ·exact fun h=>⟨b,h,Nat.beq_refl b⟩
def clashB (p q:Foot):Bool:=p.2.any (fun b=>memB q.1 b||memB q.2 b)||q.2.any fun b=>memB p.1 b
theorem clashB_iff {p q:Foot} (h:clashB p q=false):¬ ∃ b,(b∈p.2∧(b∈q.1∨b∈q.2))∨(b∈q.2∧b∈p.1):=by
 rintro ⟨b,hb⟩
 simp only [clashB,Bool.or_eq_false_iff,List.any_eq_false,Bool.or_eq_true,memB_iff] at h
 rcases hb with ⟨h1,h2⟩|⟨h1,h2⟩
 ·exact h.1 b h1 h2
 ·exact h.2 b h1 h2
def okD (ops:Array Oper) (fsr:List Foot):Bool :=
 ops.toList.zipIdx.all (fun p=>p.1.after.all fun e=>!Region.binds .any e||decide (e.on<p.2)) &&
 (ops.toList.zip fsr.reverse).zipIdx.all (fun p=>(ops.toList.zip fsr.reverse).zipIdx.all fun q=>!(decide (p.2<q.2))||(Oper.apart ops p.1.1 q.1.1&&!clashB p.1.2 q.1.2)||((ancAll ops.toList []).getD q.2 0).testBit p.2)
theorem ordF_of {ops:Array Oper} {rs:List RecF} (hl:rs.length=ops.toList.length) (h:okD ops (rs.map footOf).reverse=true):OrdF ops rs:=by
 simp only [okD,List.reverse_reverse,Bool.and_eq_true] at h
 obtain ⟨h1,h2⟩:=h
 have hz:∀ j o,ops[j]?=some o→(o,j)∈ops.toList.zipIdx:=fun j o ho=>by
  rw [List.mem_zipIdx_iff_getElem?]
  simpa using ho
 have hz2:∀ j o r,ops[j]?=some o→rs[j]?=some r→((o,footOf r),j)∈(ops.toList.zip (rs.map footOf)).zipIdx:=fun j o r ho hr=>by
  rw [List.mem_zipIdx_iff_getElem?,List.getElem?_zip_eq_some]
  exact ⟨by simpa using ho,by rw [List.getElem?_map,hr];rfl⟩
 have hanc:∀ i j x y p q,ops[i]?=some x→ops[j]?=some y→rs[i]?=some p→rs[j]?=some q→i<j→(Oper.apart ops x y&&!clashB (footOf p) (footOf q))=false→Anc ops i j:=fun i j x y p q hx hy hp hq hij hc=>by
  have h3:=List.all_eq_true.1 (List.all_eq_true.1 h2 _ (hz2 i x p hx hp)) _ (hz2 j y q hy hq)
  simp only [hij,decide_true,Bool.not_true,hc,Bool.false_or] at h3
  exact ancAll_spec ops.toList [] (fun j=>by simp) (fun j i hb=>by simp at hb) j i h3
 have hrs:∀ j o,ops[j]?=some o→∃ r,rs[j]?=some r:=fun j o ho=>by
  have hj:j<ops.size:=(Array.getElem?_eq_some_iff.1 ho).1
  exact ⟨rs[j]'(by rw [hl];simpa using hj),List.getElem?_eq_getElem _⟩
 have hos:∀ j (r:RecF),rs[j]?=some r→∃ o,ops[j]?=some o:=fun j r hr=>by
  have hj:j<rs.length:=(List.getElem?_eq_some_iff.1 hr).1
  rw [hl] at hj
  have hj:j<ops.size:=by simpa using hj
  exact ⟨_,Array.getElem?_eq_getElem hj⟩
 refine ⟨fun j o ho e he hb=>?_,fun i j x y hx hy hij hc=>?_,fun i j p q hp hq hij hc=>?_⟩
 ·have:=List.all_eq_true.1 h1 _ (hz j o ho)
  simp only [Array.all_eq_true'] at this
  have:=this e he
  simpa [hb] using this
 ·obtain ⟨p,hp⟩:=hrs i x hx
  obtain ⟨q,hq⟩:=hrs j y hy
  exact hanc i j x y p q hx hy hp hq hij (by rw [hc];rfl)
 ·obtain ⟨x,hx⟩:=hos i p hp
  obtain ⟨y,hy⟩:=hos j q hq
  refine hanc i j x y p q hx hy hp hq hij ?_
  cases hcl:clashB (footOf p) (footOf q) with
  | true=>simp
  | false=>exact absurd hc (clashB_iff hcl)
theorem region_drawnF {P:Program} {X:AX} (hX:XOK P X) (hmix:P.follows .mixedOrders=true) {id N:Nat} {ops:Array Oper} {w0:World} {bl:Bk} {a:Act} {w:World} {st:St} {s:List (Nat×AV)} {m:List (Nat×AO)} {fs:List Foot} {Q:Exit→Act→World→Prop}
  (hs:Sat N w0 bl a w st) (hh:arunFt (Types P) X ops N st.nx ops.toList 0 st.s st.m []=some (s,m,fs)) (hO:okD ops fs=true) (hq:∀ a' w',Sat N w0 bl a' w' ⟨s,m,st.nx+16*ops.size⟩→Q .normal a' w'):(Code.region id ops true).wp P Q a w:=by
 obtain ⟨rs,hrs,hfs⟩:=recsF_of_run hh
 rw [List.append_nil] at hfs
 subst hfs
 obtain ⟨E,h1,h2,h3⟩:=hs
 have hinv:Inv w0 bl E { w with drawn:=w.drawn+1 }:=(StepTo.refl (w':={ w with drawn:=w.drawn+1 }) h1.inv rfl rfl rfl).inv
 have hs1:SatF N w0 bl E a { w with drawn:=w.drawn+1 } (getS st.s) (getM st.m) :=
  ⟨h1.defers,h1.size,hinv,fun b hb=>ObjRep.mono (w:=w) (w':={ w with drawn:=w.drawn+1 }) (Env.Le.refl E) (fun _ _=>rfl) rfl rfl (fun _ _ _ _=>rfl) (h1.mem b hb),fun t=>Rep.mono (w:=w) (w':={ w with drawn:=w.drawn+1 }) (Env.Le.refl E) (fun _ _=>rfl) (h1.slots t)⟩
 have hlist:∀ j,(Array.replicate ops.size false).getD j false=false:=fun j=>by
  rw [Array.getD_eq_getD_getElem?,Array.getElem?_replicate]
  split<;>rfl
 obtain ⟨hlen,hg',hm',hz⟩:=recsF_at hrs
 have hord:=ordF_of hlen hO
 have hfin:∀ k,getM m k≠.dead→k<st.nx+16*ops.size:=fun k hk=>by
  rw [hm'] at hk
  have hk':mF (ops.toList.zip (rs.map (·.2))) 0 (fun j=>decide (j<ops.size)) (getM st.m) k≠.dead:=by
   rwa [mF_at (L':=fun _=>true) rfl fun j o r hj _=>by
    have:=(List.getElem?_eq_some_iff.1 hj).1
    simp at this
    simp;omega]
  rcases live_ofF hX hz h3 ops.size k hk' with h4|⟨j,h4,h5,h6,_⟩
  ·omega
  ·omega
 refine wp_region_any hmix (run_anyF hX hord hrs h3 (fun E' a' w' k1 k2=>hq a' w' ⟨E',k1,k2,hfin⟩) ops.size _ E a _ (by simp) ?_ (fun j o _ hj=>by rw [hlist] at hj;simp at hj) ?_ (fun b hb=>.inl (h2 b hb)))
 ·refine Nat.le_trans List.countP_le_length ?_
  simp
 ·rw [gF_none (fun j _=>hlist j),mF_none (fun j _=>hlist j)]
  exact hs1
def RunFt (T:TypeId→Option TD) (X:AX) (ops:Array Oper) (N base:Nat) (l:List Oper) (i:Nat) (s:List (Nat×AV)) (m:List (Nat×AO)) (fs:List Foot) (Q:List (Nat×AV)→List (Nat×AO)→Prop):Prop :=
 ∃ s' m' fs',arunFt T X ops N base l i s m fs=some (s',m',fs')∧okD ops fs'=true∧Q s' m'
def StepFt (T:TypeId→Option TD) (X:AX) (ops:Array Oper) (N base:Nat) (r:List Oper) (i:Nat) (s:List (Nat×AV)) (m:List (Nat×AO)) (fs:List Foot) (dst:Option Nat) (Q:List (Nat×AV)→List (Nat×AO)→Prop) (S:List Nat) (a:Option (AV×List (Nat×AO))):Prop :=
 ∃ av u,a=some (av,u)∧RunFt T X ops N base r (i+1) (putS s dst av) (updL m u) ((S,u.map (·.1))::fs) Q
def StepSt (T:TypeId→Option TD) (X:AX) (ops:Array Oper) (N base:Nat) (r:List Oper) (i:Nat) (s:List (Nat×AV)) (m:List (Nat×AO)) (fs:List Foot) (dst:Option Nat) (op:Op) (Q:List (Nat×AV)→List (Nat×AO)→Prop) (S:List Nat):Prop :=
 StepFt T X ops N base r i s m fs dst Q S (astep T X op (aEv s) (restr S (getM m)) (base+16*i))
section
variable {T:TypeId→Option TD} {X:AX} {ops:Array Oper} {N base:Nat} {l r:List Oper} {i:Nat} {s:List (Nat×AV)} {m:List (Nat×AO)} {fs:List Foot} {Q:List (Nat×AV)→List (Nat×AO)→Prop} {dst:Option Nat} {op:Op} {ty:TypeId} {pos:String} {aft:Array Edge}
@[simp] theorem runFt_nil:RunFt T X ops N base [] i s m fs Q↔okD ops fs=true∧Q s m:=by
 simp only [RunFt,arunFt,Option.some.injEq,Prod.mk.injEq]
 constructor
 ·rintro ⟨_,_,_,⟨rfl,rfl,rfl⟩,h⟩;exact h
 ·exact fun h=>⟨_,_,_,⟨rfl,rfl,rfl⟩,h⟩
@[simp] theorem stepFt_some {av:AV} {u:List (Nat×AO)} {S:List Nat}:StepFt T X ops N base r i s m fs dst Q S (some (av,u))↔RunFt T X ops N base r (i+1) (putS s dst av) (updL m u) ((S,u.map (·.1))::fs) Q:=by
 constructor
 ·rintro ⟨_,_,h,k⟩
  simp only [Option.some.injEq,Prod.mk.injEq] at h
  obtain ⟨rfl,rfl⟩:=h
  exact k
 ·exact fun k=>⟨_,_,rfl,k⟩
@[simp] theorem stepSt_cons {b:Nat} {S:List Nat}:StepSt T X ops N base r i s m fs dst op Q (b::S)↔StepFt T X ops N base r i s m fs dst Q (b::S) (astep T X op (aEv s) (restr (b::S) (getM m)) (base+16*i)):=Iff.rfl
@[simp] theorem stepSt_nil:StepSt T X ops N base r i s m fs dst op Q []↔StepFt T X ops N base r i s m fs dst Q [] (astep T X op (aEv s) (restr [] (getM m)) (base+16*i)):=Iff.rfl
@[simp] theorem runFt_plain:RunFt T X ops N base (⟨dst,op,ty,pos,aft,.none⟩::r) i s m fs Q↔dstOK N ⟨dst,op,ty,pos,aft,.none⟩=true∧StepSt T X ops N base r i s m fs dst op Q (opFoot op (aEv s) (getM m)):=by
 simp only [RunFt,arunFt,StepSt,StepFt]
 by_cases hd:dstOK N ⟨dst,op,ty,pos,aft,.none⟩=true
 ·simp only [hd,if_true,true_and]
  cases astep T X op (aEv s) (restr (opFoot op (aEv s) (getM m)) (getM m)) (base+16*i) with
  | none=>simp
  | some p =>
   obtain ⟨av,u⟩:=p
   simp only [Option.some.injEq,Prod.mk.injEq]
   constructor
   ·rintro ⟨s',m',fs',h,k⟩;exact ⟨av,u,⟨rfl,rfl⟩,s',m',fs',h,k⟩
   ·rintro ⟨av',u',⟨rfl,rfl⟩,s',m',fs',h,k⟩;exact ⟨s',m',fs',h,k⟩
 ·simp only [hd]
  simp
theorem aw_runFt {c:Cx} {st:St} {Q:Exit→St→Prop} {id:Nat} {ops:Array Oper} (hc:c.OK)
  (h:RunFt (Types c.P) c.X ops c.N st.nx ops.toList 0 st.s st.m [] fun s m=>Q .normal ⟨s,m,st.nx+16*ops.size⟩):AW c (.region id ops true) st Q:=fun a w hs=>by
 obtain ⟨s,m,fs,h1,h2,h3⟩:=h
 exact region_drawnF hc.x hc.mixed hs h1 h2 fun a' w' hs'=>⟨_,h3,hs'⟩
end
@[simp] theorem restr_at {S:List Nat} {M:Nat→AO} {b:Nat}:restr S M b=if b∈S then M b else .dead:=rfl
attribute [simp] opFoot AV.nms nmsL AO.nms gat
end Go.AM
namespace Go.AM
open Go
structure Hold (p:Prop):Prop where
 out:p
theorem jj {A B:Prop} (a:A) (b:B):A∧B:=⟨a,b⟩
theorem dM64 {G G':Prop} (h:G') (k:Hold G'→G:=by
 intro hEnd
 repeat' (first|(apply aw_seq_k;intro K hK)|(refine aw_run hc (by first|exact aw_nod|(intro _;rw [ordB_w hw];kernel_rfl)|(intro _;rw [ordB_w0 hw0];kernel_rfl)|(intro _;kernel_rfl)) ?_;simp [List.zipIdx,enterS,idx,zS,-getM,getM_hit,getM_miss,getM_none];(repeat (simp (disch:=first|omega|assumption|fail) only [if_pos,if_neg,wrap64];try simp [List.zipIdx,enterS,idx,zS,-getM,getM_hit,getM_miss,getM_none]));try (repeat' (refine guardQ_split (fun h=>?_) (fun h=>?_)<;>simp at h<;>(simp [List.zipIdx,enterS,idx,zS,-getM,getM_hit,getM_miss,getM_none];(repeat (simp (disch:=first|omega|assumption|fail) only [if_pos,if_neg,wrap64];try simp [List.zipIdx,enterS,idx,zS,-getM,getM_hit,getM_miss,getM_none]))))))|(refine aw_cond (b:=_) (by exact rfl) (fun h=>?_) (fun h=>?_)<;>(try simp at h))|(refine aw_block ?_)|(refine aw_skip ?_;simp only [thenQ,blockQ,if_true])|(refine aw_exit ?_;simp [thenQ,blockQ])|(refine aw_ret ?_;simp only [thenQ,blockQ])|(refine aw_round ?_)|(refine hK _ ?_;clear hK)|(clear hK;refine hK _ ?_;clear hK)|(clear hK;clear hK;refine hK _ ?_;clear hK)|(clear hK;clear hK;clear hK;refine hK _ ?_;clear hK))
 repeat (first|(rename St→Prop=>K;clear K)|(rename St→Prop=>K;revert K))
 exact hEnd.out):G:=k ⟨h⟩
theorem dM64o {G G':Prop} (h:G') (k:Hold G'→G:=by
 intro hEnd
 repeat' (first|(apply aw_seq_k;intro K hK)|(refine aw_run hc (by first|exact aw_nod|(intro _;rw [ordB_w hw];kernel_rfl)|(intro _;rw [ordB_w0 hw0];kernel_rfl)|(intro _;kernel_rfl)) ?_;simp [List.zipIdx,enterS,idx,-getM,getM_hit,getM_miss,getM_none];(repeat (simp (disch:=first|omega|assumption|fail) only [if_pos,if_neg,wrap64];try simp [List.zipIdx,enterS,idx,-getM,getM_hit,getM_miss,getM_none]));try (repeat' (refine guardQ_split (fun h=>?_) (fun h=>?_)<;>simp at h<;>(simp [List.zipIdx,enterS,idx,-getM,getM_hit,getM_miss,getM_none];(repeat (simp (disch:=first|omega|assumption|fail) only [if_pos,if_neg,wrap64];try simp [List.zipIdx,enterS,idx,-getM,getM_hit,getM_miss,getM_none]))))))|(refine aw_cond (b:=_) (by exact rfl) (fun h=>?_) (fun h=>?_)<;>(try simp at h))|(refine aw_block ?_)|(refine aw_skip ?_;simp only [thenQ,blockQ,if_true])|(refine aw_exit ?_;simp [thenQ,blockQ])|(refine aw_ret ?_;simp only [thenQ,blockQ])|(refine aw_round ?_)|(refine hK _ ?_;clear hK)|(clear hK;refine hK _ ?_;clear hK)|(clear hK;clear hK;refine hK _ ?_;clear hK)|(clear hK;clear hK;clear hK;refine hK _ ?_;clear hK))
 repeat (first|(rename St→Prop=>K;clear K)|(rename St→Prop=>K;revert K))
 exact hEnd.out):G:=k ⟨h⟩
theorem dM8 {G G':Prop} (h:G') (k:Hold G'→G:=by
 intro hEnd
 repeat' (first|(apply aw_seq_k;intro K hK)|(refine aw_run hc (by first|exact aw_nod|(intro _;rw [ordB_w hw];kernel_rfl)|(intro _;rw [ordB_w0 hw0];kernel_rfl)|(intro _;kernel_rfl)) ?_;simp [List.zipIdx,enterS,idx,zS,-getM,getM_hit,getM_miss,getM_none];(repeat (simp (disch:=first|omega|assumption|fail) only [if_pos,if_neg,wrap8];try simp [List.zipIdx,enterS,idx,zS,-getM,getM_hit,getM_miss,getM_none]));try (repeat' (refine guardQ_split (fun h=>?_) (fun h=>?_)<;>simp at h<;>(simp [List.zipIdx,enterS,idx,zS,-getM,getM_hit,getM_miss,getM_none];(repeat (simp (disch:=first|omega|assumption|fail) only [if_pos,if_neg,wrap8];try simp [List.zipIdx,enterS,idx,zS,-getM,getM_hit,getM_miss,getM_none]))))))|(refine aw_cond (b:=_) (by exact rfl) (fun h=>?_) (fun h=>?_)<;>(try simp at h))|(refine aw_block ?_)|(refine aw_skip ?_;simp only [thenQ,blockQ,if_true])|(refine aw_exit ?_;simp [thenQ,blockQ])|(refine aw_ret ?_;simp only [thenQ,blockQ])|(refine aw_round ?_)|(refine hK _ ?_;clear hK)|(clear hK;refine hK _ ?_;clear hK)|(clear hK;clear hK;refine hK _ ?_;clear hK)|(clear hK;clear hK;clear hK;refine hK _ ?_;clear hK))
 repeat (first|(rename St→Prop=>K;clear K)|(rename St→Prop=>K;revert K))
 exact hEnd.out):G:=k ⟨h⟩
theorem dM8o {G G':Prop} (h:G') (k:Hold G'→G:=by
 intro hEnd
 repeat' (first|(apply aw_seq_k;intro K hK)|(refine aw_run hc (by first|exact aw_nod|(intro _;rw [ordB_w hw];kernel_rfl)|(intro _;rw [ordB_w0 hw0];kernel_rfl)|(intro _;kernel_rfl)) ?_;simp [List.zipIdx,enterS,idx,-getM,getM_hit,getM_miss,getM_none];(repeat (simp (disch:=first|omega|assumption|fail) only [if_pos,if_neg,wrap8];try simp [List.zipIdx,enterS,idx,-getM,getM_hit,getM_miss,getM_none]));try (repeat' (refine guardQ_split (fun h=>?_) (fun h=>?_)<;>simp at h<;>(simp [List.zipIdx,enterS,idx,-getM,getM_hit,getM_miss,getM_none];(repeat (simp (disch:=first|omega|assumption|fail) only [if_pos,if_neg,wrap8];try simp [List.zipIdx,enterS,idx,-getM,getM_hit,getM_miss,getM_none]))))))|(refine aw_cond (b:=_) (by exact rfl) (fun h=>?_) (fun h=>?_)<;>(try simp at h))|(refine aw_block ?_)|(refine aw_skip ?_;simp only [thenQ,blockQ,if_true])|(refine aw_exit ?_;simp [thenQ,blockQ])|(refine aw_ret ?_;simp only [thenQ,blockQ])|(refine aw_round ?_)|(refine hK _ ?_;clear hK)|(clear hK;refine hK _ ?_;clear hK)|(clear hK;clear hK;refine hK _ ?_;clear hK)|(clear hK;clear hK;clear hK;refine hK _ ?_;clear hK))
 repeat (first|(rename St→Prop=>K;clear K)|(rename St→Prop=>K;revert K))
 exact hEnd.out):G:=k ⟨h⟩
theorem dF64 {G G':Prop} (h:G') (k:Hold G'→G:=by
 intro hEnd
 repeat' (first|(apply aw_seq_k;intro K hK)|(refine aw_run hc (by exact aw_nod) ?_;simp [List.zipIdx,enterS,idx,zS,-getM,getM_hit,getM_miss,getM_none];(repeat (simp (disch:=first|omega|assumption|fail) only [if_pos,if_neg,wrap64];try simp [List.zipIdx,enterS,idx,zS,-getM,getM_hit,getM_miss,getM_none]));try (repeat' (refine guardQ_split (fun h=>?_) (fun h=>?_)<;>simp at h<;>(simp [List.zipIdx,enterS,idx,zS,-getM,getM_hit,getM_miss,getM_none];(repeat (simp (disch:=first|omega|assumption|fail) only [if_pos,if_neg,wrap64];try simp [List.zipIdx,enterS,idx,zS,-getM,getM_hit,getM_miss,getM_none]))))))|(refine aw_runFt hc ?_;simp [List.zipIdx,enterS,idx,zS,-getM,getM_hit,getM_miss,getM_none];(repeat (simp (disch:=first|omega|assumption|fail) only [if_pos,if_neg,wrap64];try simp [List.zipIdx,enterS,idx,zS,-getM,getM_hit,getM_miss,getM_none]));refine ⟨by kernel_rfl,?_⟩)|(refine aw_run hc (by first|(intro _;rw [ordB_w hw];kernel_rfl)|(intro _;rw [ordB_w0 hw0];kernel_rfl)|(intro _;kernel_rfl)) ?_;simp [List.zipIdx,enterS,idx,zS,-getM,getM_hit,getM_miss,getM_none];(repeat (simp (disch:=first|omega|assumption|fail) only [if_pos,if_neg,wrap64];try simp [List.zipIdx,enterS,idx,zS,-getM,getM_hit,getM_miss,getM_none]));try (repeat' (refine guardQ_split (fun h=>?_) (fun h=>?_)<;>simp at h<;>(simp [List.zipIdx,enterS,idx,zS,-getM,getM_hit,getM_miss,getM_none];(repeat (simp (disch:=first|omega|assumption|fail) only [if_pos,if_neg,wrap64];try simp [List.zipIdx,enterS,idx,zS,-getM,getM_hit,getM_miss,getM_none]))))))|(refine aw_cond (b:=_) (by exact rfl) (fun h=>?_) (fun h=>?_)<;>(try simp at h))|(refine aw_block ?_)|(refine aw_skip ?_;simp only [thenQ,blockQ,if_true])|(refine aw_exit ?_;simp [thenQ,blockQ])|(refine aw_ret ?_;simp only [thenQ,blockQ])|(refine aw_round ?_)|(refine hK _ ?_;clear hK)|(clear hK;refine hK _ ?_;clear hK)|(clear hK;clear hK;refine hK _ ?_;clear hK)|(clear hK;clear hK;clear hK;refine hK _ ?_;clear hK))
 repeat (first|(rename St→Prop=>K;clear K)|(rename St→Prop=>K;revert K))
 exact hEnd.out):G:=k ⟨h⟩
theorem eM64 {G G':Prop} (h:G') (k:Hold G'→G:=by
 intro hEnd
 first
  | (refine aw_run hc (by first|exact aw_nod|(intro _;rw [ordB_w hw];kernel_rfl)|(intro _;rw [ordB_w0 hw0];kernel_rfl)|(intro _;kernel_rfl)) ?_;simp [List.zipIdx,enterS,idx,zS,-getM,getM_hit,getM_miss,getM_none];(repeat (simp (disch:=first|omega|assumption|fail) only [if_pos,if_neg,wrap64];try simp [List.zipIdx,enterS,idx,zS,-getM,getM_hit,getM_miss,getM_none]));try (repeat' (refine guardQ_split (fun h=>?_) (fun h=>?_)<;>simp at h<;>(simp [List.zipIdx,enterS,idx,zS,-getM,getM_hit,getM_miss,getM_none];(repeat (simp (disch:=first|omega|assumption|fail) only [if_pos,if_neg,wrap64];try simp [List.zipIdx,enterS,idx,zS,-getM,getM_hit,getM_miss,getM_none]))))))
 exact hEnd.out):G:=k ⟨h⟩
theorem eM64o {G G':Prop} (h:G') (k:Hold G'→G:=by
 intro hEnd
 first
  | (refine aw_run hc (by first|exact aw_nod|(intro _;rw [ordB_w hw];kernel_rfl)|(intro _;rw [ordB_w0 hw0];kernel_rfl)|(intro _;kernel_rfl)) ?_;simp [List.zipIdx,enterS,idx,-getM,getM_hit,getM_miss,getM_none];(repeat (simp (disch:=first|omega|assumption|fail) only [if_pos,if_neg,wrap64];try simp [List.zipIdx,enterS,idx,-getM,getM_hit,getM_miss,getM_none]));try (repeat' (refine guardQ_split (fun h=>?_) (fun h=>?_)<;>simp at h<;>(simp [List.zipIdx,enterS,idx,-getM,getM_hit,getM_miss,getM_none];(repeat (simp (disch:=first|omega|assumption|fail) only [if_pos,if_neg,wrap64];try simp [List.zipIdx,enterS,idx,-getM,getM_hit,getM_miss,getM_none]))))))
 exact hEnd.out):G:=k ⟨h⟩
theorem eF64 {G G':Prop} (h:G') (k:Hold G'→G:=by
 intro hEnd
 first
  | (refine aw_run hc (by exact aw_nod) ?_;simp [List.zipIdx,enterS,idx,zS,-getM,getM_hit,getM_miss,getM_none];(repeat (simp (disch:=first|omega|assumption|fail) only [if_pos,if_neg,wrap64];try simp [List.zipIdx,enterS,idx,zS,-getM,getM_hit,getM_miss,getM_none]));try (repeat' (refine guardQ_split (fun h=>?_) (fun h=>?_)<;>simp at h<;>(simp [List.zipIdx,enterS,idx,zS,-getM,getM_hit,getM_miss,getM_none];(repeat (simp (disch:=first|omega|assumption|fail) only [if_pos,if_neg,wrap64];try simp [List.zipIdx,enterS,idx,zS,-getM,getM_hit,getM_miss,getM_none]))))))
  | (refine aw_runFt hc ?_;simp [List.zipIdx,enterS,idx,zS,-getM,getM_hit,getM_miss,getM_none];(repeat (simp (disch:=first|omega|assumption|fail) only [if_pos,if_neg,wrap64];try simp [List.zipIdx,enterS,idx,zS,-getM,getM_hit,getM_miss,getM_none]));refine ⟨by kernel_rfl,?_⟩)
  | (refine aw_run hc (by first|(intro _;rw [ordB_w hw];kernel_rfl)|(intro _;rw [ordB_w0 hw0];kernel_rfl)|(intro _;kernel_rfl)) ?_;simp [List.zipIdx,enterS,idx,zS,-getM,getM_hit,getM_miss,getM_none];(repeat (simp (disch:=first|omega|assumption|fail) only [if_pos,if_neg,wrap64];try simp [List.zipIdx,enterS,idx,zS,-getM,getM_hit,getM_miss,getM_none]));try (repeat' (refine guardQ_split (fun h=>?_) (fun h=>?_)<;>simp at h<;>(simp [List.zipIdx,enterS,idx,zS,-getM,getM_hit,getM_miss,getM_none];(repeat (simp (disch:=first|omega|assumption|fail) only [if_pos,if_neg,wrap64];try simp [List.zipIdx,enterS,idx,zS,-getM,getM_hit,getM_miss,getM_none]))))))
 exact hEnd.out):G:=k ⟨h⟩
theorem eF64o {G G':Prop} (h:G') (k:Hold G'→G:=by
 intro hEnd
 first
  | (refine aw_run hc (by exact aw_nod) ?_;simp [List.zipIdx,enterS,idx,-getM,getM_hit,getM_miss,getM_none];(repeat (simp (disch:=first|omega|assumption|fail) only [if_pos,if_neg,wrap64];try simp [List.zipIdx,enterS,idx,-getM,getM_hit,getM_miss,getM_none]));try (repeat' (refine guardQ_split (fun h=>?_) (fun h=>?_)<;>simp at h<;>(simp [List.zipIdx,enterS,idx,-getM,getM_hit,getM_miss,getM_none];(repeat (simp (disch:=first|omega|assumption|fail) only [if_pos,if_neg,wrap64];try simp [List.zipIdx,enterS,idx,-getM,getM_hit,getM_miss,getM_none]))))))
  | (refine aw_runFt hc ?_;simp [List.zipIdx,enterS,idx,-getM,getM_hit,getM_miss,getM_none];(repeat (simp (disch:=first|omega|assumption|fail) only [if_pos,if_neg,wrap64];try simp [List.zipIdx,enterS,idx,-getM,getM_hit,getM_miss,getM_none]));refine ⟨by kernel_rfl,?_⟩)
  | (refine aw_run hc (by first|(intro _;rw [ordB_w hw];kernel_rfl)|(intro _;rw [ordB_w0 hw0];kernel_rfl)|(intro _;kernel_rfl)) ?_;simp [List.zipIdx,enterS,idx,-getM,getM_hit,getM_miss,getM_none];(repeat (simp (disch:=first|omega|assumption|fail) only [if_pos,if_neg,wrap64];try simp [List.zipIdx,enterS,idx,-getM,getM_hit,getM_miss,getM_none]));try (repeat' (refine guardQ_split (fun h=>?_) (fun h=>?_)<;>simp at h<;>(simp [List.zipIdx,enterS,idx,-getM,getM_hit,getM_miss,getM_none];(repeat (simp (disch:=first|omega|assumption|fail) only [if_pos,if_neg,wrap64];try simp [List.zipIdx,enterS,idx,-getM,getM_hit,getM_miss,getM_none]))))))
 exact hEnd.out):G:=k ⟨h⟩
theorem eB {G G':Prop} (h:G') (k:Hold G'→G:=by
 intro hEnd
 first
  | (refine aw_block ?_)
  | (refine aw_skip ?_;simp only [thenQ,blockQ,if_true])
  | (refine aw_exit ?_;simp [thenQ,blockQ])
  | (refine aw_ret ?_;simp only [thenQ,blockQ])
  | (refine aw_round ?_)
 exact hEnd.out):G:=k ⟨h⟩
theorem eqLs:eqL [] []=some true∧(∀ k a xs k' b ys,eqL (.v (.int k a)::xs) (.v (.int k' b)::ys)=if k=k' then (eqL xs ys).map (decide (a=b)&&·) else none)∧∀ a xs b ys,eqL (.v (.bool a)::xs) (.v (.bool b)::ys)=(eqL xs ys).map ((a == b)&&·):=⟨rfl,fun _ _ _ _ _ _=>rfl,fun _ _ _ _=>rfl⟩
theorem sameKs:sameK [] []=true∧(∀ k z r k' x s,sameK (.int k z::r) (.v (.int k' x)::s)=(decide (k=k')&&sameK r s))∧∀ z r x s,sameK (.bool z::r) (.v (.bool x)::s)=sameK r s:=⟨rfl,fun _ _ _ _ _ _=>rfl,fun _ _ _ _=>rfl⟩
theorem dt {G:Prop} (h:G:=by first|omega|(refine decide_eq_decide.2 ?_;omega)|(refine decide_eq_false ?_;omega)|(refine decide_eq_true ?_;omega)):G:=h
theorem dle {G:Prop} (h:G:=by exact le_of2 (by simp) (by simp [AVle,AV.under,AV.underL]<;>omega) (by simp [AOle,AO.under,AV.underL,AV.under]<;>omega)):G:=h
end Go.AM
namespace Go.AM
open Go Go.Proofs
@[simp] theorem ty3:Types Tryz.prog 3=some ⟨.int .i64,1,8,[.int .i64 0]⟩:=by kernel_rfl
@[simp] theorem ty4:Types Tryz.prog 4=some ⟨.bool,1,1,[.bool false]⟩:=by kernel_rfl
@[simp] theorem tyU:Types Tryz.prog 76=some ⟨.int .u64,1,8,[.int .u64 0]⟩:=by kernel_rfl
@[simp] theorem tyE:Types Tryz.prog 103=some ⟨.struct [(0,3,1),(1,3,1),(2,4,1),(3,4,1),(4,4,1),(5,4,1)],6,24,[.int .i64 0,.int .i64 0,.bool false,.bool false,.bool false,.bool false]⟩:=by kernel_rfl
@[simp] theorem tyTab:Types Tryz.prog 63=some ⟨.struct [(0,3,1),(1,60,1),(2,61,1)],3,56,[.int .i64 0,.slice none 0 0,.slice none 0 0]⟩:=by kernel_rfl
@[simp] theorem tyNs:Types Tryz.prog 60=some ⟨.slice 150,1,24,[.slice none 0 0]⟩:=by kernel_rfl
@[simp] theorem tyDs:Types Tryz.prog 61=some ⟨.slice 170,1,24,[.slice none 0 0]⟩:=by kernel_rfl
@[simp] theorem tyN:Types Tryz.prog 150=some ⟨.struct [(0,3,1),(1,148,8)],9,72,.int .i64 0::List.replicate 8 (.int .u64 0)⟩:=by kernel_rfl
@[simp] theorem tyW8:Types Tryz.prog 148=some ⟨.array 8 76,8,64,List.replicate 8 (.int .u64 0)⟩:=by kernel_rfl
@[simp] theorem tyD:Types Tryz.prog 170=some ⟨.struct [(0,3,1),(1,3,1)],2,16,[.int .i64 0,.int .i64 0]⟩:=by kernel_rfl
@[simp] theorem tyIs:Types Tryz.prog 89=some ⟨.slice 3,1,24,[.slice none 0 0]⟩:=by kernel_rfl
@[simp] theorem tyBs:Types Tryz.prog 177=some ⟨.slice 4,1,24,[.slice none 0 0]⟩:=by kernel_rfl
@[simp] theorem tySt:Types Tryz.prog 173=some ⟨.struct [(0,3,1),(1,3,1),(2,76,1)],3,24,[.int .i64 0,.int .i64 0,.int .u64 0]⟩:=by kernel_rfl
theorem mixed:Tryz.prog.follows .mixedOrders=true:=by kernel_rfl
theorem und3:Tryz.prog.underlying 3=some (.int .i64):=by kernel_rfl
end Go.AM
namespace Go.AM
open Go Go.Proofs
set_option maxRecDepth 20000
noncomputable def FitV (t:TypeId):Value→Prop
 | .int q _=>Tryz.prog.underlying t=some (.int q)
 | .bool _=>Tryz.prog.underlying t=some .bool
 | _=>False
noncomputable def fitB (t:TypeId):Value→Bool
 | .int q _=>match Tryz.prog.underlying t with
  | some (.int q')=>decide (q'=q)
  | _=>false
 | .bool _=>match Tryz.prog.underlying t with
  | some .bool=>true
  | _=>false
 | _=>false
theorem fitB_ok {t:TypeId} {v:Value} (h:fitB t v=true):FitV t v:=by
 cases v<;>simp only [fitB,Bool.false_eq_true] at h
 all_goals (split at h<;>simp only [Bool.false_eq_true,decide_eq_true_eq] at h)
 ·assumption
 ·subst h;assumption
noncomputable def plB:List Field→Nat→List Value→Bool
 | [],_,[]=>true
 | f :: fs, k, z :: Z => (f.name != "_" && decide (f.offset = k) && Tryz.prog.plainKey f.type && fitB f.type z) && plB fs (k + 1) Z
 | _,_,_=>false
noncomputable def PlF:List Field→Nat→List Value→Prop
 | [],_,[]=>True
 | f :: fs, k, z :: Z => (f.name ≠ "_" ∧ f.offset = k ∧ Tryz.prog.plainKey f.type = true ∧ FitV f.type z) ∧ PlF fs (k + 1) Z
 | _,_,_=>False
theorem plB_ok:∀ {fs:List Field} {k:Nat} {Z:List Value},plB fs k Z=true→PlF fs k Z
 | [],_,[],_=>trivial
 | f::fs,k,z::Z,h=>by
  simp only [plB,Bool.and_eq_true,bne_iff_ne,decide_eq_true_eq] at h
  obtain ⟨⟨⟨⟨h1,h2⟩,h3⟩,h4⟩,h5⟩:=h
  exact ⟨⟨h1,h2,h3,fitB_ok h4⟩,plB_ok h5⟩
 | [],_,_::_,h=>by simp [plB] at h
 | _::_,_,[],h=>by simp [plB] at h
theorem eqG (w:World):∀ {Z:List Value} {fs:List Field} {k:Nat},PlF fs k Z→∀ {px py xs ys:List Value} {b:Bool},px.length=k→py.length=k→sameKV Z xs=true→eqV xs ys=some b →
  (Op.eqFields 9999 (px++xs).toArray (py++ys).toArray fs).run Tryz.prog w=.ok b w
 | [],[],k,_,px,py,xs,ys,b,_,_,hs,he=>by
  cases xs with
  | nil =>
   cases ys with
   | nil=>simp [eqV] at he;subst he;rfl
   | cons y ys=>simp [eqV] at he
  | cons x xs=>simp [sameKV] at hs
 | z::Z,f::fs,k,h,px,py,xs,ys,b,hp,hq,hs,he=>by
  simp only [PlF] at h
  obtain ⟨⟨n1,o1,p1,t1⟩,h⟩:=h
  cases xs with
  | nil=>cases z<;>simp [sameKV] at hs
  | cons x xs =>
   cases ys with
   | nil=>cases x<;>simp [eqV] at he
   | cons y ys =>
    have hx:(px++x::xs).toArray[k]?=some x:=by simp [← hp]
    have hy:(py++y::ys).toArray[k]?=some y:=by simp [← hq]
    have ex:px++x::xs=(px++[x])++xs:=by simp
    have ey:py++y::ys=(py++[y])++ys:=by simp
    simp only [Op.eqFields]
    rw [if_pos n1,o1]
    simp only [Sem.run_bind]
    rw [run_part_plain w p1 hx]
    simp only [Result.andThen_ok]
    rw [run_part_plain w p1 hy]
    simp only [Result.andThen_ok]
    cases z<;>simp only [FitV] at t1<;>cases x<;>simp only [sameKV,Bool.and_eq_true,decide_eq_true_eq,Bool.false_eq_true] at hs<;>cases y<;>simp only [eqV,reduceCtorEq] at he
    ·rename_i b1 b2 b3
     cases hr:eqV xs ys with
     | none=>simp [hr] at he
     | some r =>
      simp only [hr,Option.map_some,Option.some.injEq] at he
      have ih:=eqG w h (px:=px++[.bool b2]) (py:=py++[.bool b3]) (by simp [hp]) (by simp [hq]) hs hr
      rw [← ex,← ey] at ih
      rw [run_equalIn_bool' w _ f.type _ _ t1]
      simp only [Result.andThen_ok]
      by_cases e:(b2 == b3)=true
      ·simp only [e,Bool.not_true,Bool.false_eq_true,if_false,ih,Bool.true_and] at he ⊢
       rw [he]
      ·simp only [Bool.not_eq_true] at e
       simp only [e,Bool.false_and] at he ⊢
       simp [← he]
    ·rename_i q0 n0 q1 n1' q2 n2
     split at he
     case isFalse=>simp at he
     rename_i hk
     subst hk
     obtain ⟨rfl,hs⟩:=hs
     cases hr:eqV xs ys with
     | none=>simp [hr] at he
     | some r =>
      simp only [hr,Option.map_some,Option.some.injEq] at he
      have ih:=eqG w h (px:=px++[.int q0 n1']) (py:=py++[.int q0 n2]) (by simp [hp]) (by simp [hq]) hs hr
      rw [← ex,← ey] at ih
      rw [run_equalIn_int w _ f.type q0 q0 _ _ t1]
      simp only [Result.andThen_ok]
      by_cases e:n1'=n2
      ·subst e
       simp only [beq_self_eq_true,Bool.not_true,Bool.false_eq_true,if_false,ih,decide_true,Bool.true_and] at he ⊢
       rw [he]
      ·have hb:(n1' == n2)=false:=by simpa using e
       simp only [hb,Bool.not_false,if_true,Sem.run_pure]
       simp only [e,decide_false,Bool.false_and] at he
       rw [← he]
 | [],_::_,_,h,_,_,_,_,_,_,_,_,_=>by simp [PlF] at h
 | _::_,[],_,h,_,_,_,_,_,_,_,_,_=>by simp [PlF] at h
theorem ckP {w:World} {t:TypeId} {v:Value} {b:Bool} {d:Nat} (h:Tryz.prog.plainKey t=true) (hv:FitV t v):(Instr.checkKey b (d+1) t v).run Tryz.prog w=.ok () w:=by
 cases v<;>simp only [FitV] at hv<;>(rw [Instr.checkKey];simp [run_underlying hv])
theorem ckG (w:World) (em:Bool) (d:Nat):∀ {Z:List Value} {fs:List Field} {k:Nat},PlF fs k Z→∀ {px xs:List Value},px.length=k→sameKV Z xs=true →
  (forIn fs PUnit.unit fun f (_ : PUnit) => (if f.name ≠ "_" then do
    let a ← part f.type (px++xs).toArray f.offset
    Instr.checkKey em (d+1) f.type a
    pure (ForInStep.yield PUnit.unit)
   else pure (ForInStep.yield PUnit.unit):Sem (ForInStep PUnit))).run Tryz.prog w=.ok PUnit.unit w
 | [],[],k,_,px,xs,_,_=>rfl
 | z::Z,f::fs,k,h,px,xs,hp,hs=>by
  simp only [PlF] at h
  obtain ⟨⟨n1,o1,p1,t1⟩,h⟩:=h
  cases xs with
  | nil=>cases z<;>simp [sameKV] at hs
  | cons x xs =>
   have hx:(px++x::xs).toArray[k]?=some x:=by simp [← hp]
   have ex:px++x::xs=(px++[x])++xs:=by simp
   have key:sameKV Z xs=true∧FitV f.type x:=by
    clear hx ex
    cases z<;>simp only [FitV] at t1<;>cases x<;>simp only [sameKV,Bool.and_eq_true,decide_eq_true_eq,Bool.false_eq_true] at hs
    ·exact ⟨hs,t1⟩
    ·obtain ⟨rfl,hs⟩:=hs
     exact ⟨hs,t1⟩
   have ih:=ckG w em d h (px:=px++[x]) (xs:=xs) (by simp [hp]) key.1
   rw [← ex] at ih
   simp only [List.forIn_cons,Sem.run_bind]
   rw [if_pos n1,o1]
   simp only [Sem.run_bind]
   rw [run_part_plain w p1 hx]
   simp only [Result.andThen_ok,ckP p1 key.2,Sem.run_pure]
   exact ih
 | [],_::_,_,h,_,_,_,_=>by simp [PlF] at h
 | _::_,[],_,h,_,_,_,_=>by simp [PlF] at h
theorem eqok_plain {t:TypeId} (hu:Tryz.prog.underlying t=some (.struct (Tryz.prog.fieldsOf t))) (hf:∀ d,Types Tryz.prog t=some d→PlF (Tryz.prog.fieldsOf t).toList 0 d.zero) (hp:Tryz.prog.stoodInHeld t=false) (hg:Tryz.prog.eqGuardType Tryz.prog.depth t=false):EqOK Tryz.prog t:=by
 intro d hd
 refine ⟨fun w xs b hk=>?_,fun w xs ys b hk he=>⟨?_,hg⟩⟩
 ·rw [show (10000:Nat)=9998+1+1 from rfl,Instr.checkKey]
  simp only [Sem.run_bind,run_underlying hu,Result.andThen_ok]
  rw [← Array.forIn_toList]
  have:=ckG w b 9998 (hf d hd) (px:=[]) rfl hk
  rw [List.nil_append] at this
  rw [this]
  rfl
 ·unfold Op.equal
  rw [show Op.maxDepth=9999+1 from rfl,run_equalIn_agg w _ t _ _ hu hp]
  have:=eqG w (hf d hd) (px:=[]) (py:=[]) rfl rfl hk he
  simpa using this
theorem eqE:EqOK Tryz.prog 103:=eqok_plain (by kernel_rfl) (fun d hd=>by
 rw [tyE,Option.some.injEq] at hd
 subst hd
 exact plB_ok (by kernel_rfl)) (by kernel_rfl) (by kernel_rfl)
theorem eqD:EqOK Tryz.prog 170:=eqok_plain (by kernel_rfl) (fun d hd=>by
 rw [tyD,Option.some.injEq] at hd
 subst hd
 exact plB_ok (by kernel_rfl)) (by kernel_rfl) (by kernel_rfl)
theorem eqPE:EqOK Tryz.prog 86:=eqok_plain (by kernel_rfl) (fun d hd=>by
 have h:Types Tryz.prog 86=some ⟨.struct [(0,3,1),(1,76,1)],2,16,[.int .i64 0,.int .u64 0]⟩:=by kernel_rfl
 rw [h,Option.some.injEq] at hd
 subst hd
 exact plB_ok (by kernel_rfl)) (by kernel_rfl) (by kernel_rfl)
end Go.AM
