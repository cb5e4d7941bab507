/- A part of the proof: what functions of the program compute, by abstract execution of their code. Its theorems hold without further condition. -/
import Derived.Test.YtcfhmdljeeppfaaAmM
import Derived.Laws.BitsLemmas
set_option linter.all false
namespace Go.AM
open Go
theorem StepTo.adopt {w0:World} {bl:Bk} {E:Env} {w:World} (h:Inv w0 bl E w) (b:Nat) (o:AO) (v':Nat) (l':Option (Nat×Nat×Nat)) (hb:¬ E.alive b)
  (hl:∀ blk base sz,l'=some (blk,base,sz)→blk<w.heap.size∧¬ E.G blk∧(w0.heap.size≤blk∨blk∈bl.l)∧∀ b' base' sz',E.alive b'→E.loc b'≠some (blk,base',sz'))
  (hobj:ObjRep (E.upd b v' l') w b o):StepTo w0 bl E w [(b,o)] (E.upd b v' l') w:=by
 have hle:E.Le (E.upd b v' l'):=Env.le_upd fun hh=>absurd hh hb
 refine ⟨hle,⟨h.frame,h.gin.trans hle,h.low,h.gout,h.good,?_,?_⟩,Nat.le_refl _,fun _ _ _=>rfl,?_,?_,?_⟩
 ·intro k blk base sz hk hlk
  by_cases e:k=b
  ·subst e
   simp only [Env.upd,if_true] at hlk
   have:=hl blk base sz hlk
   exact ⟨this.1,this.2.1,this.2.2.1⟩
  ·simp only [Env.upd,e,if_false,or_false] at hlk hk
   exact h.locs k blk base sz hk hlk
 ·intro k k' blk base sz base' sz' hk hk' hlk hlk'
  by_cases e:k=b<;>by_cases e':k'=b
  ·rw [e,e']
  ·subst e
   simp only [Env.upd,if_true,e',if_false,or_false] at hlk hlk' hk'
   exact ((hl blk base sz hlk).2.2.2 k' base' sz' hk' hlk').elim
  ·subst e'
   simp only [Env.upd,if_true,e,if_false,or_false] at hlk hlk' hk
   exact ((hl blk base' sz' hlk').2.2.2 k base sz hk hlk).elim
  ·simp only [Env.upd,e,e',if_false,or_false] at hlk hlk' hk hk'
   exact h.apart k k' blk base sz base' sz' hk hk' hlk hlk'
 ·intro k hk
  rcases hk with hk|hk
  ·exact .inl hk
  ·exact .inr (by simp [hk])
 ·intro k hk hn
  have:k≠b:=by simpa using hn
  simp [Env.upd,this]
 ·intro k p hkp
  simp only [List.mem_singleton,Prod.mk.injEq] at hkp
  obtain ⟨rfl,rfl⟩:=hkp
  exact ⟨.inr rfl,hobj⟩
theorem StepTo.trans {w0:World} {bl:Bk} {E E1 E2:Env} {w w1 w2:World} {u u':List (Nat×AO)} (s:StepTo w0 bl E w u E1 w1) (t:StepTo w0 bl E1 w1 u' E2 w2) (hd:∀ b∈u.map (·.1),b ∉ u'.map (·.1)):StepTo w0 bl E w (u++u') E2 w2 where
 le:=s.le.trans t.le
 inv:=t.inv
 size:=Nat.le_trans s.size t.size
 keep:=fun k hk hn=>by
  rw [t.keep k (Nat.lt_of_lt_of_le hk s.size) fun b base sz hb hm hl=>?_]
  ·exact s.keep k hk fun b base sz hb hm=>hn b base sz hb (by simp only [List.map_append,List.mem_append];exact .inl hm)
  ·rcases s.alive b hb with h1|h1
   ·by_cases h2:b∈u.map (·.1)
    ·exact hd b h2 hm
    ·rw [(s.same b h1 h2).2] at hl
     exact hn b base sz h1 (by simp only [List.map_append,List.mem_append];exact .inr hm) hl
   ·exact hd b h1 hm
 alive:=fun b hb=>by
  simp only [List.map_append,List.mem_append]
  rcases t.alive b hb with h1|h1
  ·rcases s.alive b h1 with h2|h2
   ·exact .inl h2
   ·exact .inr (.inl h2)
  ·exact .inr (.inr h1)
 same:=fun b hb hn=>by
  simp only [List.map_append,List.mem_append,not_or] at hn
  have h1:=s.same b hb hn.1
  have h2:=t.same b (s.le.alive b hb) hn.2
  exact ⟨h2.1.trans h1.1,h2.2.trans h1.2⟩
 objs:=fun b o ho=>by
  rcases List.mem_append.1 ho with ho|ho
  ·have h1:=s.objs b o ho
   exact ⟨t.le.alive b h1.1,t.obj s.inv h1.1 (hd b (List.mem_map.2 ⟨_,ho,rfl⟩)) h1.2⟩
  ·exact t.objs b o ho
theorem StepTo.pure {w0:World} {bl:Bk} {E:Env} {w w':World} (h:Inv w0 bl E w) (hf:Frame w [] w') (G:Nat→Prop) (hG:∀ k,E.G k→G k) (hG':∀ k,G k→k<w'.heap.size∧(E.G k∨w.heap.size≤k)):StepTo w0 bl E w [] { E with G:=G } w' where
 le:=⟨hG,fun _ hb=>hb,fun _ _=>.inl ⟨rfl,rfl⟩⟩
 inv:=by
  refine ⟨⟨hf.os.trans h.frame.os,hf.out.trans h.frame.out,Nat.le_trans h.frame.size hf.size,fun k h1 h2=>?_⟩,h.gin.trans ⟨hG,fun _ hb=>hb,fun _ _=>.inl ⟨rfl,rfl⟩⟩,h.low,fun k hk=>?_,fun k hk=>(hG' k hk).1,fun b blk base sz hb hl=>?_,h.apart⟩
  ·rw [hf.old k (Nat.lt_of_lt_of_le h1 h.frame.size) (by simp)];exact h.frame.old k h1 h2
  ·rcases (hG' k hk).2 with h1|h1
   ·exact h.gout k h1
   ·exact .inr (.inl (Nat.le_trans h.frame.size h1))
  ·have h1:=h.locs b blk base sz hb hl
   refine ⟨Nat.lt_of_lt_of_le h1.1 hf.size,fun hg=>?_,h1.2.2⟩
   rcases (hG' blk hg).2 with h2|h2
   ·exact h1.2.1 h2
   ·omega
 size:=hf.size
 keep:=fun k hk _=>hf.old k hk (by simp)
 alive:=fun _ hb=>.inl hb
 same:=fun _ _ _=>⟨rfl,rfl⟩
 objs:=fun b o h=>by simp at h
def openLeaf (nid:Nat):AV→AV×List (Nat×AO)×Nat
 | .ow s xs=>(.sl nid 1 s 0 xs.length,[(nid,.vec 1 s false xs)],nid+1)
 | .om n es=>(.mp nid 1,[(nid,.map 1 n es)],nid+1)
 | a=>(a,[],nid)
def openLeaves (nid:Nat):List AV→List AV×List (Nat×AO)×Nat
 | []=>([],[],nid)
 | a::r=>((openLeaf nid a).1::(openLeaves (openLeaf nid a).2.2 r).1,(openLeaf nid a).2.1++(openLeaves (openLeaf nid a).2.2 r).2.1,(openLeaves (openLeaf nid a).2.2 r).2.2)
def openVal (nid:Nat):AV→AV×List (Nat×AO)×Nat
 | .agg cs=>(.agg (openLeaves nid cs).1,(openLeaves nid cs).2)
 | a=>openLeaf nid a
def openVals (nid:Nat):List AV→List AV×List (Nat×AO)×Nat
 | []=>([],[],nid)
 | a::r=>((openVal nid a).1::(openVals (openVal nid a).2.2 r).1,(openVal nid a).2.1++(openVals (openVal nid a).2.2 r).2.1,(openVals (openVal nid a).2.2 r).2.2)
def openRet (nid:Nat):AV→AV×List (Nat×AO)×Nat
 | .tup as=>(.tup (openVals nid as).1,(openVals nid as).2)
 | a=>openVal nid a
structure Opens (w0:World) (bl:Bk) (E:Env) (w:World) (nid n:Nat) (u:List (Nat×AO)) (bs:List Nat) (E':Env):Prop where
 step:StepTo w0 bl E w u E' w
 le:nid≤n
 keys:∀ b∈u.map (·.1),nid≤b∧b<n
 G:E'.G=E.G
 locs:∀ b base sz k,E'.alive b→E'.loc b=some (k,base,sz)→(E.alive b∧E.loc b=some (k,base,sz))∨k∈bs
def Spare (w0:World) (bl:Bk) (E:Env) (w:World) (bs:List Nat):Prop :=
 ∀ k∈bs,k<w.heap.size∧¬ E.G k∧(w0.heap.size≤k∨k∈bl.l)∧∀ b base sz,E.alive b→E.loc b≠some (k,base,sz)
theorem Opens.refl {w0:World} {bl:Bk} {E:Env} {w:World} (hI:Inv w0 bl E w) (nid:Nat):Opens w0 bl E w nid nid [] [] E :=
 ⟨StepTo.refl hI rfl rfl rfl,Nat.le_refl _,by simp,rfl,fun _ _ _ _ h k=>.inl ⟨h,k⟩⟩
theorem Opens.trans {w0:World} {bl:Bk} {E E1 E2:Env} {w:World} {nid n1 n2:Nat} {u u':List (Nat×AO)} {bs bs':List Nat} (s:Opens w0 bl E w nid n1 u bs E1) (t:Opens w0 bl E1 w n1 n2 u' bs' E2):Opens w0 bl E w nid n2 (u++u') (bs++bs') E2 where
 step:=s.step.trans t.step fun b h1 h2=>by have:=s.keys b h1;have:=t.keys b h2;omega
 le:=Nat.le_trans s.le t.le
 keys:=fun b hb=>by
  simp only [List.map_append,List.mem_append] at hb
  rcases hb with hb|hb
  ·have:=s.keys b hb;have:=t.le;omega
  ·have:=t.keys b hb;have:=s.le;omega
 G:=t.G.trans s.G
 locs:=fun b base sz k hb hl=>by
  rw [List.mem_append]
  rcases t.locs b base sz k hb hl with ⟨h1,h2⟩|h1
  ·exact (s.locs b base sz k h1 h2).imp id .inl
  ·exact .inr (.inr h1)
theorem Opens.spare {w0:World} {bl:Bk} {E E1:Env} {w:World} {nid n:Nat} {u:List (Nat×AO)} {bs bs':List Nat} (s:Opens w0 bl E w nid n u bs E1) (h:Spare w0 bl E w bs') (hd:∀ k∈bs,k ∉ bs'):Spare w0 bl E1 w bs':=fun k hk=>by
 have h1:=h k hk
 refine ⟨h1.1,by rw [s.G];exact h1.2.1,h1.2.2.1,fun b base sz hb hl=>?_⟩
 rcases s.locs b base sz k hb hl with ⟨k1,k2⟩|k1
 ·exact h1.2.2.2 b base sz k1 k2
 ·exact hd k k1 hk
theorem Opens.fresh {w0:World} {bl:Bk} {E E1:Env} {w:World} {nid n:Nat} {u:List (Nat×AO)} {bs:List Nat} (s:Opens w0 bl E w nid n u bs E1) {top:Nat} (hn:∀ k,nid≤k→k<top→¬ E.alive k):∀ k,n≤k→k<top→¬ E1.alive k:=fun k h1 h2 h3=>by
 rcases s.step.alive k h3 with h4|h4
 ·exact hn k (Nat.le_trans s.le h1) h2 h4
 ·have:=s.keys k h4;omega
theorem openLeaf_ok {w0:World} {bl:Bk} {E:Env} {w:World} (hI:Inv w0 bl E w) {nid:Nat} {a:AV} (hn:∀ k,nid≤k→k<(openLeaf nid a).2.2→¬ E.alive k) {x:Value} {bs:List Nat} (h:OLeaf w E.G a x bs) (hs:Spare w0 bl E w bs) :
  ∃ E',Opens w0 bl E w nid (openLeaf nid a).2.2 (openLeaf nid a).2.1 bs E'∧Rep E' w (openLeaf nid a).1 x:=by
 by_cases ha:∃ s xs,a=.ow s xs
 ·obtain ⟨s,xs,rfl⟩:=ha
  simp only [OLeaf] at h
  obtain ⟨p,c,rfl,h2,h3,h4⟩:=h
  have hna:¬ E.alive nid:=hn nid (Nat.le_refl _) (by simp [openLeaf])
  simp only [openLeaf]
  rcases h4 with ⟨rfl,rfl⟩|⟨blk,base,arr,t,rfl,rfl,k3,k4,k4',k5⟩
  ·have hx:xs=[]:=List.length_eq_zero_iff.1 (by omega)
   subst hx
   refine ⟨_,⟨StepTo.none hI nid s hna false,by omega,fun b hb=>?_,rfl,fun b base sz k hb hl=>?_⟩,?_⟩
   ·simp only [List.map_cons,List.map_nil,List.mem_singleton] at hb;omega
   ·by_cases e:b=nid
    ·subst e;simp [Env.upd] at hl
    ·simp only [Env.upd,e,if_false,or_false] at hb hl
     exact .inl ⟨hb,hl⟩
   ·simp only [Rep]
    exact ⟨.inr rfl,Nat.le_refl _,by simp [Env.upd],p,0,rfl,by simp,h3,fun _=>by simp [Env.upd,SlAt]⟩
  ·have hsp:=hs blk (by simp)
   have hsz:base+xs.length*s≤base+c*s:=by
    have:xs.length*s≤c*s:=Nat.mul_le_mul_right s h2
    omega
   refine ⟨E.upd nid 1 (some (blk,base,base+c*s)),⟨StepTo.adopt hI nid _ 1 _ hna (fun blk' base' sz' e=>?_) ?_,by omega,fun b hb=>?_,rfl,fun b base' sz k hb hl=>?_⟩,?_⟩
   ·simp only [Option.some.injEq,Prod.mk.injEq] at e
    rw [← e.1];exact hsp
   ·simp only [ObjRep,Env.upd,if_true]
    exact ⟨trivial,Nat.le_refl _,arr,t,k3,k4,k4',hsz,by simp,k5⟩
   ·simp only [List.map_cons,List.map_nil,List.mem_singleton] at hb;omega
   ·by_cases e:b=nid
    ·subst e;simp only [Env.upd,if_true,Option.some.injEq,Prod.mk.injEq] at hl;exact .inr (by simp [hl.1])
    ·simp only [Env.upd,e,if_false,or_false] at hb hl
     exact .inl ⟨hb,hl⟩
   ·simp only [Rep]
    exact ⟨.inr rfl,Nat.le_refl _,by simp [Env.upd],_,c,rfl,h2,fun e=>by simp at e,fun _=>by simp [Env.upd,SlAt]⟩
 ·by_cases hb:∃ n es,a=.om n es
  ·obtain ⟨n,es,rfl⟩:=hb
   simp only [OLeaf] at h
   obtain ⟨blk,ents,clk,rfl,rfl,k3,k4⟩:=h
   have hna:¬ E.alive nid:=hn nid (Nat.le_refl _) (by simp [openLeaf])
   have hsp:=hs blk (by simp)
   simp only [openLeaf]
   refine ⟨E.upd nid 1 (some (blk,0,0)),⟨StepTo.adopt hI nid _ 1 _ hna (fun blk' base' sz' e=>?_) ?_,by omega,fun b hb=>?_,rfl,fun b base' sz k hb hl=>?_⟩,?_⟩
   ·simp only [Option.some.injEq,Prod.mk.injEq] at e
    rw [← e.1];exact hsp
   ·simp only [ObjRep,Env.upd,if_true]
    exact ⟨trivial,Nat.le_refl _,blk,ents,clk,rfl,k3,k4⟩
   ·simp only [List.map_cons,List.map_nil,List.mem_singleton] at hb;omega
   ·by_cases e:b=nid
    ·subst e;simp only [Env.upd,if_true,Option.some.injEq,Prod.mk.injEq] at hl;exact .inr (by simp [hl.1])
    ·simp only [Env.upd,e,if_false,or_false] at hb hl
     exact .inl ⟨hb,hl⟩
   ·simp only [Rep]
    exact ⟨.inr rfl,Nat.le_refl _,by simp [Env.upd],blk,rfl,fun _=>by simp [Env.upd]⟩
  have hne:∀ s xs,a≠.ow s xs:=fun s xs e=>ha ⟨s,xs,e⟩
  have hne2:∀ n es,a≠.om n es:=fun n es e=>hb ⟨n,es,e⟩
  obtain ⟨rfl,h2⟩:=h.crep hne hne2
  have e:openLeaf nid a=(a,[],nid):=by cases a<;>first|rfl|exact absurd rfl (hne _ _)|exact absurd rfl (hne2 _ _)
  rw [e]
  exact ⟨E,Opens.refl hI nid,Rep.of_c h2⟩
theorem openLeaf_le {nid:Nat} {a:AV}:nid≤(openLeaf nid a).2.2:=by cases a<;>simp [openLeaf]
theorem openLeaves_le:∀ {as:List AV} {nid:Nat},nid≤(openLeaves nid as).2.2
 | [],_=>Nat.le_refl _
 | _::_,_=>Nat.le_trans openLeaf_le openLeaves_le
theorem openVal_le {nid:Nat} {a:AV}:nid≤(openVal nid a).2.2:=by
 cases a<;>first|exact openLeaves_le|exact openLeaf_le
theorem openVals_le:∀ {as:List AV} {nid:Nat},nid≤(openVals nid as).2.2
 | [],_=>Nat.le_refl _
 | _::_,_=>Nat.le_trans openVal_le openVals_le
theorem openRet_le {nid:Nat} {a:AV}:nid≤(openRet nid a).2.2:=by
 cases a<;>first|exact openVals_le|exact openVal_le
theorem openLeaves_ok {w0:World} {bl:Bk} {w:World}:∀ {as:List AV} {E:Env} (_:Inv w0 bl E w) {nid:Nat} (_:∀ k,nid≤k→k<(openLeaves nid as).2.2→¬ E.alive k) {xs:List Value} {bs:List Nat} (_:OLeaves w E.G as xs bs) (_:Spare w0 bl E w bs) (_:bs.Nodup),
  ∃ E',Opens w0 bl E w nid (openLeaves nid as).2.2 (openLeaves nid as).2.1 bs E'∧RepL E' w (openLeaves nid as).1 xs
 | [],E,hI,nid,hn,[],bs,h,hs,hnd=>by
  simp only [OLeaves] at h
  subst h
  exact ⟨E,Opens.refl hI nid,by simp [openLeaves,RepL]⟩
 | a::as,E,hI,nid,hn,x::xs,bs,h,hs,hnd=>by
  simp only [OLeaves] at h
  obtain ⟨b1,b2,rfl,h1,h2⟩:=h
  obtain ⟨n1,n2,n3⟩:=List.nodup_append.1 hnd
  obtain ⟨E1,o1,r1⟩:=openLeaf_ok hI (fun k p q=>hn k p (Nat.lt_of_lt_of_le q openLeaves_le)) h1 fun k hk=>hs k (by simp [hk])
  obtain ⟨E2,o2,r2⟩:=openLeaves_ok (as:=as) o1.step.inv (nid:=(openLeaf nid a).2.2) (o1.fresh hn) (by rw [o1.G];exact h2) (o1.spare (fun k hk=>hs k (by simp [hk])) fun k p q=>n3 k p k q rfl) n2
  refine ⟨E2,o1.trans o2,?_⟩
  simp only [openLeaves,RepL]
  exact ⟨o2.step.rep o1.step.inv r1,r2⟩
 | [],_,_,_,_,_::_,_,h,_,_=>by simp [OLeaves] at h
 | _::_,_,_,_,_,[],_,h,_,_=>by simp [OLeaves] at h
theorem openVal_ok {w0:World} {bl:Bk} {E:Env} {w:World} (hI:Inv w0 bl E w) {nid:Nat} {a:AV} (hn:∀ k,nid≤k→k<(openVal nid a).2.2→¬ E.alive k) {x:Value} {bs:List Nat} (h:OVal w E.G a x bs) (hs:Spare w0 bl E w bs) (hnd:bs.Nodup) :
  ∃ E',Opens w0 bl E w nid (openVal nid a).2.2 (openVal nid a).2.1 bs E'∧Rep E' w (openVal nid a).1 x:=by
 by_cases ha:∃ cs,a=.agg cs
 ·obtain ⟨cs,rfl⟩:=ha
  simp only [OVal] at h
  obtain ⟨vs,rfl,h1,h2⟩:=h
  obtain ⟨E',o,r⟩:=openLeaves_ok hI hn h2 hs hnd
  exact ⟨E',o,by simp only [openVal,Rep];exact ⟨vs,rfl,h1,r⟩⟩
 ·have e:openVal nid a=openLeaf nid a:=by cases a<;>first|rfl|exact absurd ⟨_,rfl⟩ ha
  have h2:OLeaf w E.G a x bs:=by cases a<;>first|exact h|exact absurd ⟨_,rfl⟩ ha
  rw [e] at hn ⊢
  exact openLeaf_ok hI hn h2 hs
theorem openVals_ok {w0:World} {bl:Bk} {w:World}:∀ {as:List AV} {E:Env} (_:Inv w0 bl E w) {nid:Nat} (_:∀ k,nid≤k→k<(openVals nid as).2.2→¬ E.alive k) {xs:List Value} {bs:List Nat} (_:OVals w E.G as xs bs) (_:Spare w0 bl E w bs) (_:bs.Nodup),
  ∃ E',Opens w0 bl E w nid (openVals nid as).2.2 (openVals nid as).2.1 bs E'∧RepL E' w (openVals nid as).1 xs
 | [],E,hI,nid,hn,[],bs,h,hs,hnd=>by
  simp only [OVals] at h
  subst h
  exact ⟨E,Opens.refl hI nid,by simp [openVals,RepL]⟩
 | a::as,E,hI,nid,hn,x::xs,bs,h,hs,hnd=>by
  simp only [OVals] at h
  obtain ⟨b1,b2,rfl,h1,h2⟩:=h
  obtain ⟨n1,n2,n3⟩:=List.nodup_append.1 hnd
  obtain ⟨E1,o1,r1⟩:=openVal_ok hI (fun k p q=>hn k p (Nat.lt_of_lt_of_le q openVals_le)) h1 (fun k hk=>hs k (by simp [hk])) n1
  obtain ⟨E2,o2,r2⟩:=openVals_ok (as:=as) o1.step.inv (nid:=(openVal nid a).2.2) (o1.fresh hn) (by rw [o1.G];exact h2) (o1.spare (fun k hk=>hs k (by simp [hk])) fun k p q=>n3 k p k q rfl) n2
  refine ⟨E2,o1.trans o2,?_⟩
  simp only [openVals,RepL]
  exact ⟨o2.step.rep o1.step.inv r1,r2⟩
 | [],_,_,_,_,_::_,_,h,_,_=>by simp [OVals] at h
 | _::_,_,_,_,_,[],_,h,_,_=>by simp [OVals] at h
theorem openRet_ok {w0:World} {bl:Bk} {E:Env} {w:World} (hI:Inv w0 bl E w) {nid:Nat} {a:AV} (hn:∀ k,nid≤k→k<(openRet nid a).2.2→¬ E.alive k) {x:Value} {bs:List Nat} (h:ORet w E.G a x bs) (hs:Spare w0 bl E w bs) (hnd:bs.Nodup) :
  ∃ E',Opens w0 bl E w nid (openRet nid a).2.2 (openRet nid a).2.1 bs E'∧Rep E' w (openRet nid a).1 x:=by
 by_cases ha:∃ cs,a=.tup cs
 ·obtain ⟨cs,rfl⟩:=ha
  simp only [ORet] at h
  obtain ⟨vs,rfl,h2⟩:=h
  obtain ⟨E',o,r⟩:=openVals_ok hI hn h2 hs hnd
  exact ⟨E',o,by simp only [openRet,Rep];exact ⟨vs,rfl,r⟩⟩
 ·have e:openRet nid a=openVal nid a:=by cases a<;>first|rfl|exact absurd ⟨_,rfl⟩ ha
  have h2:OVal w E.G a x bs:=by cases a<;>first|exact h|exact absurd ⟨_,rfl⟩ ha
  rw [e] at hn ⊢
  exact openVal_ok hI hn h2 hs hnd
def callC (F:List AV→Option AV) (avs:List AV) (_M:Nat→AO) (nid:Nat):Option (AV×List (Nat×AO)) :=
 if avs.all AV.isClosed=true then match F avs with
  | some r=>if (openRet nid r).2.2≤nid+16 then some ((openRet nid r).1,(openRet nid r).2.1) else none
  | none=>none
 else none
theorem PSound.callC {P:Program} {f:FuncId} {F:List AV→Option AV} (h:PSound P f F):CallOK P f (callC F):=by
 intro avs M nid av u hc w0 bl E w args hr hM hI hnid
 unfold AM.callC at hc
 split at hc
 case isFalse=>simp at hc
 rename_i hcl
 cases hF:F avs<;>simp only [hF,reduceCtorEq] at hc
 rename_i r
 split at hc
 case isFalse=>simp at hc
 rename_i hle
 simp only [Option.some.injEq,Prod.mk.injEq] at hc
 obtain ⟨rfl,rfl⟩:=hc
 refine (h w E.G args avs r hF hI.good (hr.to_c hcl)).mono fun e w' ⟨x,G',bs,he,hf,hG,hG',ho,hnd,hb⟩=>?_
 have st:=StepTo.pure hI hf G' hG hG'
 have hsp:Spare w0 bl { E with G:=G' } w' bs:=fun k hk=>by
  have h1:=hb k hk
  refine ⟨h1.1,h1.2.1,.inl (Nat.le_trans hI.frame.size h1.2.2),fun b base sz hb' hl=>?_⟩
  have:=(hI.locs b k base sz hb' hl).1
  omega
 obtain ⟨E',o,hx⟩:=openRet_ok st.inv (nid:=nid) (a:=r) (fun k p q=>hnid k p (by omega)) ho hsp hnd
 exact ⟨x,E',he,st.trans o.step (by simp),hx⟩
def peekLeaf (M:Nat→AO):AV→Option AV
 | .sl b m s o n=>match M b with
  | .vec m' s' _ xs=>if m=m'∧s=s'∧o+n≤xs.length then some (.rd s ((xs.drop o).take n)) else none
  | _=>none
 | .v x=>some (.v x)
 | .any=>some .any
 | .rd s xs=>some (.rd s xs)
 | .rp cs=>some (.rp cs)
 | .mp b m=>match M b with
  | .map m' n es=>if m=m' then some (.rm n es) else none
  | _=>none
 | .rm n es=>some (.rm n es)
 | _=>none
def peekLeaves (M:Nat→AO):List AV→Option (List AV)
 | []=>some []
 | a::r=>match peekLeaf M a,peekLeaves M r with
  | some x,some xs=>some (x::xs)
  | _,_=>none
def chunk (s:Nat):Nat→List AV→List (List AV)
 | 0,_=>[]
 | n+1,cs=>cs.take s::chunk s n (cs.drop s)
def peekPtr (M:Nat→AO):AV→Option AV
 | .bp b 0=>match M b with
  | .box cs=>match peekLeaves M cs with
   | some xs=>some (.rp xs)
   | none=>none
  | _=>none
 | .ep b m s i 0=>match M b with
  | .vec m' s' _ xs=>if m=m'∧s=s' then (match xs[i]? with|some e=>some (.rp e)|none=>none) else none
  | _=>none
 | a=>peekLeaf M a
def peekPtrs (M:Nat→AO):List AV→Option (List AV)
 | []=>some []
 | a::r=>match peekPtr M a,peekPtrs M r with
  | some x,some xs=>some (x::xs)
  | _,_=>none
def peekFn (M:Nat→AO):AV→Option AV
 | .fn f cs=>match peekPtrs M cs with
  | some xs=>some (.fn f xs)
  | none=>none
 | a=>peekLeaf M a
def peekFns (M:Nat→AO):List AV→Option (List AV)
 | []=>some []
 | a::r=>match peekFn M a,peekFns M r with
  | some x,some xs=>some (x::xs)
  | _,_=>none
def peekCap (M:Nat→AO):AV→Option AV
 | .bp b 0=>match M b with
  | .box cs=>match peekFns M cs with
   | some xs=>some (.rp xs)
   | none=>none
  | _=>none
 | a=>peekPtr M a
def peekCaps (M:Nat→AO):List AV→Option (List AV)
 | []=>some []
 | a::r=>match peekCap M a,peekCaps M r with
  | some x,some xs=>some (x::xs)
  | _,_=>none
def peekVal (M:Nat→AO):AV→Option AV
 | .agg cs=>match peekLeaves M cs with
  | some xs=>some (.agg xs)
  | none=>none
 | .fn f cs=>match peekCaps M cs with
  | some xs=>some (.fn f xs)
  | none=>none
 | .bs b o s n=>match M b with
  | .box cs=>if o+n*s≤cs.length then (match peekLeaves M ((cs.drop o).take (n*s)) with
   | some xs=>some (.rd s (chunk s n xs))
   | none=>none) else none
  | _=>none
 | a=>peekPtr M a
def peekVals (M:Nat→AO):List AV→Option (List AV)
 | []=>some []
 | a::r=>match peekVal M a,peekVals M r with
  | some x,some xs=>some (x::xs)
  | _,_=>none
def allG (w:World):Nat→Prop:=fun k=>k<w.heap.size
theorem peekLeaf_ok {E:Env} {w:World} {M:Nat→AO} {G:Nat→Prop} (hG:∀ k,E.G k→G k) (hL:∀ b blk base sz,E.alive b→M b≠.dead→E.loc b=some (blk,base,sz)→G blk) (hM:MemOK E w M) {a a':AV} {x:Value} (h:peekLeaf M a=some a') (hr:Rep E w a x):CRep w G a' x:=by
 unfold peekLeaf at h
 cases a<;>simp only [reduceCtorEq] at h
 case sl b m s o n =>
  simp only [Rep] at hr
  obtain ⟨h1,h2,h3,p,c,rfl,h4,h4',h5⟩:=hr
  have ho:=hM b h1
  cases hb:M b<;>simp only [hb,reduceCtorEq] at h ho
  rename_i m' s' f xs
  split at h
  case isFalse=>simp at h
  rename_i hm
  obtain ⟨rfl,rfl,hle⟩:=hm
  simp only [Option.some.injEq] at h
  subst h
  simp only [ObjRep] at ho
  obtain ⟨k1,k2,k3⟩:=ho
  have hsl:=h5 k1.symm
  have hlen:((xs.drop o).take n).length=n:=by simp;omega
  simp only [CRep]
  refine ⟨p,c,by rw [hlen],by omega,h4',?_⟩
  by_cases hn:n=0
  ·left;subst hn;simp
  ·right
   cases hl:E.loc b with
   | none=>simp only [hl,SlAt] at hsl;omega
   | some l =>
    obtain ⟨blk,base,sz⟩:=l
    simp only [hl,SlAt] at hsl k3
    obtain ⟨a,rfl,q1,q2⟩:=hsl
    obtain ⟨arr,t,k4,k5,k5',k6,k6',k7⟩:=k3
    have q1:=q1.resolve_left (by omega)
    subst q1
    exact ⟨blk,base+o*s,rfl,hL b _ _ _ h1 (by simp [hb]) hl,(k7.sub o n).mono hG (fun _ _=>rfl) (.inl rfl)⟩
 case mp b m =>
  simp only [Rep] at hr
  obtain ⟨h1,h2,_,blk,rfl,h3⟩:=hr
  have ho:=hM b h1
  cases hb:M b<;>simp only [hb,reduceCtorEq] at h ho
  split at h
  case isFalse=>simp at h
  rename_i hm
  subst hm
  simp only [Option.some.injEq] at h
  subst h
  simp only [ObjRep] at ho
  obtain ⟨hv,_,blk',ents,clk,k1,k2,k3⟩:=ho
  have h3:=h3 hv.symm
  rw [h3] at k1
  simp only [Option.some.injEq,Prod.mk.injEq,and_true] at k1
  subst k1
  simp only [CRep]
  exact ⟨blk,ents,clk,rfl,hL b _ _ _ h1 (by simp [hb]) h3,k2,k3.1.mono hG fun _ _=>rfl⟩
 all_goals
  simp only [Option.some.injEq] at h
  subst h
  simp only [Rep] at hr
  exact hr.mono hG fun _ _=>rfl
theorem peekLeaves_ok {E:Env} {w:World} {M:Nat→AO} {G:Nat→Prop} (hG:∀ k,E.G k→G k) (hL:∀ b blk base sz,E.alive b→M b≠.dead→E.loc b=some (blk,base,sz)→G blk) (hM:MemOK E w M):∀ {as as':List AV} {xs:List Value},peekLeaves M as=some as'→RepL E w as xs→CRepL w G as' xs
 | [],as',[],h,_=>by
  simp only [peekLeaves,Option.some.injEq] at h
  subst h
  simp [CRepL]
 | a::as,as',x::xs,h,hr=>by
  simp only [RepL] at hr
  simp only [peekLeaves] at h
  cases h1:peekLeaf M a<;>simp only [h1,reduceCtorEq] at h
  cases h2:peekLeaves M as<;>simp only [h2,reduceCtorEq] at h
  simp only [Option.some.injEq] at h
  subst h
  simp only [CRepL]
  exact ⟨peekLeaf_ok hG hL hM h1 hr.1,peekLeaves_ok hG hL hM h2 hr.2⟩
 | [],_,_::_,_,hr=>by simp [RepL] at hr
 | _::_,_,[],_,hr=>by simp [RepL] at hr
theorem CCells.of_list {w:World} {G:Nat→Prop} {blk off:Nat} {cs:List AV} {vs:List Value} (h:CRepL w G cs vs) (ho:∀ y∈vs,y.oneCell'=true) (hc:∀ j v,vs[j]?=some v→w.cell? ⟨blk,off+j,none⟩=some v):CCells w G blk off cs :=
 CCells.of_get fun j a e=>by
  obtain ⟨x,h1,h2⟩:=h.get e
  exact ⟨x,hc j x h1,ho x (List.mem_of_getElem? h1),h2⟩
theorem chunk_length {s:Nat}:∀ {n:Nat} {cs:List AV},(chunk s n cs).length=n
 | 0,_=>rfl
 | n+1,cs=>by simp [chunk,chunk_length]
theorem CCells.take {w:World} {G:Nat→Prop} {blk off:Nat} {cs:List AV} (h:CCells w G blk off cs) (n:Nat):CCells w G blk off (cs.take n) :=
 CCells.of_get fun j a e=>by
  rw [List.getElem?_take] at e
  split at e
  ·exact h.get e
  ·simp at e
theorem chunk_rows {w:World} {G:Nat→Prop} {s blk:Nat}:∀ {n off:Nat} {cs:List AV},n*s≤cs.length→CCells w G blk off cs→CRows w G s blk off (chunk s n cs)
 | 0,_,_,_,_=>by simp [chunk,CRows]
 | n+1,off,cs,hl,h=>by
  have:(n+1)*s=n*s+s:=by rw [Nat.add_mul];omega
  simp only [chunk,CRows]
  exact ⟨by simp;omega,h.take s,chunk_rows (by simp;omega) (h.drop s)⟩
theorem peekLeaves_length {M:Nat→AO}:∀ {as as':List AV},peekLeaves M as=some as'→as'.length=as.length
 | [],as',h=>by simp only [peekLeaves,Option.some.injEq] at h;simp [← h]
 | a::as,as',h=>by
  simp only [peekLeaves] at h
  cases h1:peekLeaf M a<;>simp only [h1,reduceCtorEq] at h
  cases h2:peekLeaves M as<;>simp only [h2,reduceCtorEq] at h
  simp only [Option.some.injEq] at h
  subst h
  simp [peekLeaves_length h2]
theorem peekPtr_ok {E:Env} {w:World} {M:Nat→AO} {G:Nat→Prop} (hG:∀ k,E.G k→G k) (hL:∀ b blk base sz,E.alive b→M b≠.dead→E.loc b=some (blk,base,sz)→G blk) (hM:MemOK E w M) {a a':AV} {x:Value} (h:peekPtr M a=some a') (hr:Rep E w a x):CRep w G a' x:=by
 unfold peekPtr at h
 split at h
 ·rename_i b
  simp only [Rep] at hr
  obtain ⟨k1,k2,blk,sz,k3,rfl⟩:=hr
  have ho:=hM b k1
  cases hb:M b<;>simp only [hb,reduceCtorEq] at h ho
  rename_i cs
  cases h2:peekLeaves M cs<;>simp only [h2,reduceCtorEq] at h
  simp only [Option.some.injEq] at h
  subst h
  obtain ⟨blk',sz',vs,q1,q2,q3,q4⟩:=box_cells ho
  rw [k3] at q1
  simp only [Option.some.injEq,Prod.mk.injEq] at q1
  obtain ⟨rfl,_,_⟩:=q1
  simp only [CRep]
  exact ⟨blk,0,rfl,hL b _ _ _ k1 (by simp [hb]) k3,CCells.of_list (peekLeaves_ok hG hL hM h2 q2) q3 fun j v e=>by simpa using q4 j v e⟩
 ·rename_i b m s i
  simp only [Rep] at hr
  obtain ⟨k1,k2,k2',a,rfl,k3⟩:=hr
  have ho:=hM b k1
  cases hb:M b<;>simp only [hb,reduceCtorEq] at h ho
  rename_i m' s' f xs
  split at h
  case isFalse=>simp at h
  rename_i hm
  obtain ⟨rfl,rfl⟩:=hm
  cases he:xs[i]?<;>simp only [he,reduceCtorEq,Option.some.injEq] at h
  rename_i e
  subst h
  simp only [ObjRep] at ho
  obtain ⟨p1,p2,p3⟩:=ho
  obtain ⟨blk,base,sz,hl,rfl⟩:=k3 p1.symm
  simp only [hl] at p3
  obtain ⟨c,t,p4,p5,p5',p6,p6',p7⟩:=p3
  obtain ⟨_,g2⟩:=p7.get he
  simp only [CRep]
  exact ⟨blk,base+i*s+0,rfl,hL b _ _ _ k1 (by simp [hb]) hl,by rw [Nat.add_zero];exact g2.mono hG (fun _ _=>rfl) (.inl rfl)⟩
 ·exact peekLeaf_ok hG hL hM h hr
theorem peekPtrs_ok {E:Env} {w:World} {M:Nat→AO} {G:Nat→Prop} (hG:∀ k,E.G k→G k) (hL:∀ b blk base sz,E.alive b→M b≠.dead→E.loc b=some (blk,base,sz)→G blk) (hM:MemOK E w M):∀ {as as':List AV} {xs:List Value},peekPtrs M as=some as'→RepL E w as xs→CRepL w G as' xs
 | [],as',[],h,_=>by
  simp only [peekPtrs,Option.some.injEq] at h
  subst h
  simp [CRepL]
 | a::as,as',x::xs,h,hr=>by
  simp only [RepL] at hr
  simp only [peekPtrs] at h
  cases h1:peekPtr M a<;>simp only [h1,reduceCtorEq] at h
  cases h2:peekPtrs M as<;>simp only [h2,reduceCtorEq] at h
  simp only [Option.some.injEq] at h
  subst h
  simp only [CRepL]
  exact ⟨peekPtr_ok hG hL hM h1 hr.1,peekPtrs_ok hG hL hM h2 hr.2⟩
 | [],_,_::_,_,hr=>by simp [RepL] at hr
 | _::_,_,[],_,hr=>by simp [RepL] at hr
theorem peekFn_ok {E:Env} {w:World} {M:Nat→AO} {G:Nat→Prop} (hG:∀ k,E.G k→G k) (hL:∀ b blk base sz,E.alive b→M b≠.dead→E.loc b=some (blk,base,sz)→G blk) (hM:MemOK E w M) {a a':AV} {x:Value} (h:peekFn M a=some a') (hr:Rep E w a x):CRep w G a' x:=by
 unfold peekFn at h
 split at h
 ·rename_i f cs
  cases h2:peekPtrs M cs<;>simp only [h2,reduceCtorEq] at h
  simp only [Option.some.injEq] at h
  subst h
  simp only [Rep] at hr
  obtain ⟨vs,rfl,q2⟩:=hr
  simp only [CRep]
  exact ⟨vs,rfl,peekPtrs_ok hG hL hM h2 q2⟩
 ·exact peekLeaf_ok hG hL hM h hr
theorem peekFns_ok {E:Env} {w:World} {M:Nat→AO} {G:Nat→Prop} (hG:∀ k,E.G k→G k) (hL:∀ b blk base sz,E.alive b→M b≠.dead→E.loc b=some (blk,base,sz)→G blk) (hM:MemOK E w M):∀ {as as':List AV} {xs:List Value},peekFns M as=some as'→RepL E w as xs→CRepL w G as' xs
 | [],as',[],h,_=>by
  simp only [peekFns,Option.some.injEq] at h
  subst h
  simp [CRepL]
 | a::as,as',x::xs,h,hr=>by
  simp only [RepL] at hr
  simp only [peekFns] at h
  cases h1:peekFn M a<;>simp only [h1,reduceCtorEq] at h
  cases h2:peekFns M as<;>simp only [h2,reduceCtorEq] at h
  simp only [Option.some.injEq] at h
  subst h
  simp only [CRepL]
  exact ⟨peekFn_ok hG hL hM h1 hr.1,peekFns_ok hG hL hM h2 hr.2⟩
 | [],_,_::_,_,hr=>by simp [RepL] at hr
 | _::_,_,[],_,hr=>by simp [RepL] at hr
theorem peekCap_ok {E:Env} {w:World} {M:Nat→AO} {G:Nat→Prop} (hG:∀ k,E.G k→G k) (hL:∀ b blk base sz,E.alive b→M b≠.dead→E.loc b=some (blk,base,sz)→G blk) (hM:MemOK E w M) {a a':AV} {x:Value} (h:peekCap M a=some a') (hr:Rep E w a x):CRep w G a' x:=by
 unfold peekCap at h
 split at h
 ·rename_i b
  simp only [Rep] at hr
  obtain ⟨k1,k2,blk,sz,k3,rfl⟩:=hr
  have ho:=hM b k1
  cases hb:M b<;>simp only [hb,reduceCtorEq] at h ho
  rename_i cs
  cases h2:peekFns M cs<;>simp only [h2,reduceCtorEq] at h
  simp only [Option.some.injEq] at h
  subst h
  obtain ⟨blk',sz',vs,q1,q2,q3,q4⟩:=box_cells ho
  rw [k3] at q1
  simp only [Option.some.injEq,Prod.mk.injEq] at q1
  obtain ⟨rfl,_,_⟩:=q1
  simp only [CRep]
  exact ⟨blk,0,rfl,hL b _ _ _ k1 (by simp [hb]) k3,CCells.of_list (peekFns_ok hG hL hM h2 q2) q3 fun j v e=>by simpa using q4 j v e⟩
 ·exact peekPtr_ok hG hL hM h hr
theorem peekCaps_ok {E:Env} {w:World} {M:Nat→AO} {G:Nat→Prop} (hG:∀ k,E.G k→G k) (hL:∀ b blk base sz,E.alive b→M b≠.dead→E.loc b=some (blk,base,sz)→G blk) (hM:MemOK E w M):∀ {as as':List AV} {xs:List Value},peekCaps M as=some as'→RepL E w as xs→CRepL w G as' xs
 | [],as',[],h,_=>by
  simp only [peekCaps,Option.some.injEq] at h
  subst h
  simp [CRepL]
 | a::as,as',x::xs,h,hr=>by
  simp only [RepL] at hr
  simp only [peekCaps] at h
  cases h1:peekCap M a<;>simp only [h1,reduceCtorEq] at h
  cases h2:peekCaps M as<;>simp only [h2,reduceCtorEq] at h
  simp only [Option.some.injEq] at h
  subst h
  simp only [CRepL]
  exact ⟨peekCap_ok hG hL hM h1 hr.1,peekCaps_ok hG hL hM h2 hr.2⟩
 | [],_,_::_,_,hr=>by simp [RepL] at hr
 | _::_,_,[],_,hr=>by simp [RepL] at hr
theorem peekVal_ok {E:Env} {w:World} {M:Nat→AO} {G:Nat→Prop} (hG:∀ k,E.G k→G k) (hL:∀ b blk base sz,E.alive b→M b≠.dead→E.loc b=some (blk,base,sz)→G blk) (hM:MemOK E w M) {a a':AV} {x:Value} (h:peekVal M a=some a') (hr:Rep E w a x):CRep w G a' x:=by
 unfold peekVal at h
 split at h
 ·rename_i cs
  cases h2:peekLeaves M cs<;>simp only [h2,reduceCtorEq] at h
  simp only [Option.some.injEq] at h
  subst h
  simp only [Rep] at hr
  obtain ⟨vs,rfl,q1,q2⟩:=hr
  simp only [CRep]
  exact ⟨vs,rfl,q1,peekLeaves_ok hG hL hM h2 q2⟩
 ·rename_i f cs
  cases h2:peekCaps M cs<;>simp only [h2,reduceCtorEq] at h
  simp only [Option.some.injEq] at h
  subst h
  simp only [Rep] at hr
  obtain ⟨vs,rfl,q2⟩:=hr
  simp only [CRep]
  exact ⟨vs,rfl,peekCaps_ok hG hL hM h2 q2⟩
 ·rename_i b o s n
  simp only [Rep] at hr
  obtain ⟨k1,k2,blk,sz,p,c,k3,rfl,k4,k5⟩:=hr
  have ho:=hM b k1
  cases hb:M b<;>simp only [hb,reduceCtorEq] at h ho
  rename_i cs
  split at h
  case isFalse=>simp at h
  rename_i hle
  cases h2:peekLeaves M ((cs.drop o).take (n*s))<;>simp only [h2,reduceCtorEq] at h
  rename_i xs
  simp only [Option.some.injEq] at h
  subst h
  obtain ⟨blk',sz',vs,q1,q2,q3,q4⟩:=box_cells ho
  rw [k3] at q1
  simp only [Option.some.injEq,Prod.mk.injEq] at q1
  obtain ⟨rfl,_,_⟩:=q1
  simp only [CRep]
  refine ⟨some p,c,by rw [chunk_length],by rw [chunk_length];exact k4,fun e=>by simp at e,?_⟩
  rcases k5 with rfl|rfl
  ·left;rfl
  ·right
   refine ⟨blk,o,rfl,hL b _ _ _ k1 (by simp [hb]) k3,chunk_rows (by rw [peekLeaves_length h2];simp;omega) ?_⟩
   refine CCells.of_list (peekLeaves_ok hG hL hM h2 ((q2.drop o).take (n*s))) (fun y hy=>q3 y (List.mem_of_mem_drop (List.mem_of_mem_take hy))) fun j v e=>?_
   rw [List.getElem?_take] at e
   split at e
   ·rw [List.getElem?_drop] at e
    exact q4 _ v e
   ·simp at e
 ·exact peekPtr_ok hG hL hM h hr
theorem peekVals_ok {E:Env} {w:World} {M:Nat→AO} {G:Nat→Prop} (hG:∀ k,E.G k→G k) (hL:∀ b blk base sz,E.alive b→M b≠.dead→E.loc b=some (blk,base,sz)→G blk) (hM:MemOK E w M):∀ {as as':List AV} {xs:List Value},peekVals M as=some as'→RepL E w as xs→CRepL w G as' xs
 | [],as',[],h,_=>by
  simp only [peekVals,Option.some.injEq] at h
  subst h
  simp [CRepL]
 | a::as,as',x::xs,h,hr=>by
  simp only [RepL] at hr
  simp only [peekVals] at h
  cases h1:peekVal M a<;>simp only [h1,reduceCtorEq] at h
  cases h2:peekVals M as<;>simp only [h2,reduceCtorEq] at h
  simp only [Option.some.injEq] at h
  subst h
  simp only [CRepL]
  exact ⟨peekVal_ok hG hL hM h1 hr.1,peekVals_ok hG hL hM h2 hr.2⟩
 | [],_,_::_,_,hr=>by simp [RepL] at hr
 | _::_,_,[],_,hr=>by simp [RepL] at hr
def AV.plain:AV→Prop
 | .any|.v _=>True
 | _=>False
def AV.flat1:AV→Prop
 | .any|.v _=>True
 | .ow _ xs=>∀ e∈xs,∀ a∈e,a.plain
 | .om _ es=>∀ p∈es,p.2.plain
 | _=>False
def AV.flatV:AV→Prop
 | .agg cs=>∀ a∈cs,a.flat1
 | a=>a.flat1
def AV.flat:AV→Prop
 | .tup cs=>∀ a∈cs,a.flatV
 | a=>a.flatV
theorem AV.plain.crep {w:World} {G G':Nat→Prop} {a:AV} {x:Value} (ha:a.plain) (h:CRep w G a x):CRep w G' a x:=by
 cases a<;>simp only [AV.plain] at ha
 ·simp [CRep]
 ·simpa only [CRep] using h
theorem plain_cells {w:World} {G G':Nat→Prop} {blk:Nat}:∀ {cs:List AV} {off:Nat},(∀ a∈cs,a.plain)→CCells w G blk off cs→CCells w G' blk off cs
 | [],_,_,_=>by simp [CCells]
 | a::r,off,ha,h=>by
  simp only [CCells] at h ⊢
  obtain ⟨⟨x,h1,h2,h3⟩,h4⟩:=h
  exact ⟨⟨x,h1,h2,(ha a (by simp)).crep h3⟩,plain_cells (fun b hb=>ha b (by simp [hb])) h4⟩
theorem plain_rows {w:World} {G G':Nat→Prop} {s blk:Nat}:∀ {xs:List (List AV)} {off:Nat},(∀ e∈xs,∀ a∈e,a.plain)→CRows w G s blk off xs→CRows w G' s blk off xs
 | [],_,_,_=>by simp [CRows]
 | e::r,off,ha,h=>by
  simp only [CRows] at h ⊢
  exact ⟨h.1,plain_cells (ha e (by simp)) h.2.1,plain_rows (fun b hb=>ha b (by simp [hb])) h.2.2⟩
theorem plain_ents {w:World} {G G':Nat→Prop} {n:Nat}:∀ {es:List (List Int×AV)} {xs:List MapEntry},(∀ p∈es,p.2.plain)→CEnts w G n es xs→CEnts w G' n es xs
 | [],[],_,_=>by simp [CEnts]
 | (k,a)::r,e::s,ha,h=>by
  simp only [CEnts] at h ⊢
  exact ⟨h.1,(ha (k,a) (by simp)).crep h.2.1,plain_ents (fun b hb=>ha b (by simp [hb])) h.2.2⟩
 | [],_::_,_,h=>by simp [CEnts] at h
 | _::_,[],_,h=>by simp [CEnts] at h
theorem AV.flat1.oleaf {w:World} {G G':Nat→Prop} {a:AV} {x:Value} {bl:List Nat} (ha:a.flat1) (h:OLeaf w G a x bl):OLeaf w G' a x bl:=by
 cases a<;>simp only [AV.flat1] at ha
 ·simp only [OLeaf,CRep] at h ⊢;exact h
 ·simp only [OLeaf,CRep] at h ⊢;exact h
 ·simp only [OLeaf] at h ⊢
  obtain ⟨p,c,h1,h2,h3,h4⟩:=h
  exact ⟨p,c,h1,h2,h3,h4.imp id fun ⟨blk,base,arr,t,k1,k2,k3,k4,k4',k5⟩=>⟨blk,base,arr,t,k1,k2,k3,k4,k4',plain_rows ha k5⟩⟩
 ·simp only [OLeaf] at h ⊢
  obtain ⟨blk,ents,clk,h1,h2,h3,h4⟩:=h
  exact ⟨blk,ents,clk,h1,h2,h3,plain_ents ha h4.1,h4.2⟩
theorem flat_leaves {w:World} {G G':Nat→Prop}:∀ {as:List AV} {xs:List Value} {bl:List Nat},(∀ a∈as,a.flat1)→OLeaves w G as xs bl→OLeaves w G' as xs bl
 | [],[],_,_,h=>by simpa only [OLeaves] using h
 | a::as,x::xs,bl,ha,h=>by
  simp only [OLeaves] at h ⊢
  obtain ⟨b1,b2,e,h1,h2⟩:=h
  exact ⟨b1,b2,e,(ha a (by simp)).oleaf h1,flat_leaves (fun b hb=>ha b (by simp [hb])) h2⟩
 | [],_::_,_,_,h=>by simp [OLeaves] at h
 | _::_,[],_,_,h=>by simp [OLeaves] at h
theorem AV.flatV.oval {w:World} {G G':Nat→Prop} {a:AV} {x:Value} {bl:List Nat} (ha:a.flatV) (h:OVal w G a x bl):OVal w G' a x bl:=by
  cases a<;>first
    | (simp only [AV.flatV,AV.flat1] at ha;done)
    | (simp only [OVal] at h ⊢
       first
       | exact AV.flat1.oleaf ha h
       | (obtain ⟨vs,h1,h2,h3⟩:=h
          exact ⟨vs,h1,h2,flat_leaves ha h3⟩))
theorem flat_vals {w:World} {G G':Nat→Prop}:∀ {as:List AV} {xs:List Value} {bl:List Nat},(∀ a∈as,a.flatV)→OVals w G as xs bl→OVals w G' as xs bl
 | [],[],_,_,h=>by simpa only [OVals] using h
 | a::as,x::xs,bl,ha,h=>by
  simp only [OVals] at h ⊢
  obtain ⟨b1,b2,e,h1,h2⟩:=h
  exact ⟨b1,b2,e,(ha a (by simp)).oval h1,flat_vals (fun b hb=>ha b (by simp [hb])) h2⟩
 | [],_::_,_,_,h=>by simp [OVals] at h
 | _::_,[],_,_,h=>by simp [OVals] at h
theorem AV.flat.oret {w:World} {G G':Nat→Prop} {a:AV} {x:Value} {bl:List Nat} (ha:a.flat) (h:ORet w G a x bl):ORet w G' a x bl:=by
 by_cases hc:∃ cs,a=.tup cs
 ·obtain ⟨cs,rfl⟩:=hc
  simp only [ORet] at h ⊢
  obtain ⟨vs,h1,h2⟩:=h
  exact ⟨vs,h1,flat_vals ha h2⟩
 ·have h1:a.flatV:=by cases a<;>first|exact ha|exact absurd ⟨_,rfl⟩ hc
  have h2:OVal w G a x bl:=by cases a<;>first|exact h|exact absurd ⟨_,rfl⟩ hc
  have h3:=h1.oval (G':=G') h2
  cases a<;>first|exact h3|exact absurd ⟨_,rfl⟩ hc
def callP (F:List AV→Option AV) (avs:List AV) (M:Nat→AO) (nid:Nat):Option (AV×List (Nat×AO)) :=
 match peekVals M avs with
 | some as=>match F as with
  | some r=>if (openRet nid r).2.2≤nid+16 then some ((openRet nid r).1,(openRet nid r).2.1) else none
  | none=>none
 | none=>none
theorem PSound.callP {P:Program} {f:FuncId} {F:List AV→Option AV} (h:PSound P f F) (hfl:∀ avs r,F avs=some r→r.flat):CallOK P f (callP F):=by
 intro avs M nid av u hc w0 bl E w args hr hM hI hnid
 unfold AM.callP at hc
 cases hp:peekVals M avs<;>simp only [hp,reduceCtorEq] at hc
 rename_i as
 cases hF:F as<;>simp only [hF,reduceCtorEq] at hc
 rename_i r
 split at hc
 case isFalse=>simp at hc
 rename_i hle
 simp only [Option.some.injEq,Prod.mk.injEq] at hc
 obtain ⟨rfl,rfl⟩:=hc
 refine (h w (allG w) args as r hF (fun _ hk=>hk) (peekVals_ok (G:=allG w) hI.good (fun b blk base sz hb _ hl=>(hI.locs b blk base sz hb hl).1) hM hp hr)).mono fun e w' ⟨x,G',bs,he,hf,hG,hG',ho,hnd,hb⟩=>?_
 have st:=StepTo.pure hI hf E.G (fun _ hk=>hk) fun k hk=>⟨Nat.lt_of_lt_of_le (hI.good k hk) hf.size,.inl hk⟩
 have hsp:Spare w0 bl { E with G:=E.G } w' bs:=fun k hk=>by
  have h1:=hb k hk
  refine ⟨h1.1,fun hg=>?_,.inl (Nat.le_trans hI.frame.size h1.2.2),fun b base sz hb' hl=>?_⟩
  ·have:=hI.good k hg;omega
  ·have:=(hI.locs b k base sz hb' hl).1
   omega
 obtain ⟨E',o,hx⟩:=openRet_ok st.inv (nid:=nid) (a:=r) (fun k p q=>hnid k p (by omega)) ((hfl as r hF).oret ho) hsp hnd
 exact ⟨x,E',he,st.trans o.step (by simp),hx⟩
noncomputable def specF {ι:Type} (A:ι→List AV) (R:ι→AV) (avs:List AV):Option AV :=
 open Classical in if h:∃ i,A i=avs then some (R h.choose) else none
theorem specF_eq {ι:Type} {A:ι→List AV} {R:ι→AV} (i:ι) (h:∀ j,A j=A i→R j=R i):specF A R (A i)=some (R i):=by
 unfold specF
 have hex:∃ j,A j=A i:=⟨i,rfl⟩
 rw [dif_pos hex]
 exact congrArg some (h _ hex.choose_spec)
theorem specF_some {ι:Type} {A:ι→List AV} {R:ι→AV} {avs:List AV} {r:AV} (h:specF A R avs=some r):∃ i,A i=avs∧R i=r:=by
 unfold specF at h
 split at h
 ·rename_i hh
  simp only [Option.some.injEq] at h
  exact ⟨_,hh.choose_spec,h⟩
 ·simp at h
end Go.AM
namespace Go.AM
open Go
def RunQ (T:TypeId→Option TD) (X:AX) (ops:Array Oper) (N base:Nat) (l:List Oper) (i:Nat) (s:List (Nat×AV)) (m:List (Nat×AO)) (Q:List (Nat×AV)→List (Nat×AO)→Prop):Prop :=
 ∃ s' m',arun T X ops N base l i s m=some (s',m')∧Q s' m'
def StepQ (T:TypeId→Option TD) (X:AX) (ops:Array Oper) (N base:Nat) (r:List Oper) (i:Nat) (s:List (Nat×AV)) (m:List (Nat×AO)) (dst:Option Nat) (Q:List (Nat×AV)→List (Nat×AO)→Prop) (a:Option (AV×List (Nat×AO))):Prop :=
 ∃ av u,a=some (av,u)∧RunQ T X ops N base r (i+1) (putS s dst av) (updL m u) Q
def GuardQ (T:TypeId→Option TD) (X:AX) (ops:Array Oper) (N base:Nat) (r:List Oper) (i:Nat) (s:List (Nat×AV)) (m:List (Nat×AO)) (dst:Option Nat) (op:Op) (d:Option Nat) (want:Bool) (Q:List (Nat×AV)→List (Nat×AO)→Prop) (g:AV):Prop :=
 ∃ k b,d=some k∧yV g=some b ∧
  (b=some want→StepQ T X ops N base r i ((k,.v (.bool want))::s) m dst Q (astep T X op (aEv ((k,.v (.bool want))::s)) (getM m) (base+16*i))) ∧
  (b=some (!want)→RunQ T X ops N base r (i+1) (putS ((k,.v (.bool (!want)))::s) dst .u) m Q) ∧
  (b=none→RunQ T X ops N base r (i+1) (putS s dst .u) m Q)
section
variable {T:TypeId→Option TD} {X:AX} {ops:Array Oper} {N base:Nat} {l r:List Oper} {i:Nat} {s:List (Nat×AV)} {m:List (Nat×AO)} {Q:List (Nat×AV)→List (Nat×AO)→Prop} {dst:Option Nat} {op:Op} {ty:TypeId} {pos:String} {aft:Array Edge}
@[simp] theorem runQ_nil:RunQ T X ops N base [] i s m Q↔Q s m:=by
 simp only [RunQ,arun,Option.some.injEq,Prod.mk.injEq]
 constructor
 ·rintro ⟨_,_,⟨rfl,rfl⟩,h⟩;exact h
 ·exact fun h=>⟨_,_,⟨rfl,rfl⟩,h⟩
@[simp] theorem stepQ_some {av:AV} {u:List (Nat×AO)}:StepQ T X ops N base r i s m dst Q (some (av,u))↔RunQ T X ops N base r (i+1) (putS s dst av) (updL m u) Q:=by
 constructor
 ·rintro ⟨_,_,h,k⟩
  simp only [Option.some.injEq,Prod.mk.injEq] at h
  obtain ⟨rfl,rfl⟩:=h
  exact k
 ·exact fun k=>⟨_,_,rfl,k⟩
theorem stepQ_eq {a:Option (AV×List (Nat×AO))}:StepQ T X ops N base r i s m dst Q a↔∃ s' m',(match (generalizing:=false) a with|some (av,u)=>arun T X ops N base r (i+1) (putS s dst av) (updL m u)|none=>none)=some (s',m')∧Q s' m':=by
 cases a with
 | none=>simp [StepQ]
 | some p=>obtain ⟨av,u⟩:=p;exact stepQ_some
theorem runQ_plain' (hd:dstOK N ⟨dst,op,ty,pos,aft,.none⟩=true):RunQ T X ops N base (⟨dst,op,ty,pos,aft,.none⟩::r) i s m Q↔StepQ T X ops N base r i s m dst Q (astep T X op (aEv s) (getM m) (base+16*i)):=by
 rw [stepQ_eq]
 simp only [RunQ,arun,hd,if_true]
 cases astep T X op (aEv s) (getM m) (base+16*i)<;>exact Iff.rfl
def dstAt (ops:Array Oper) (j:Nat):Option Nat:=(ops[j]?).bind (·.dst)
def slotAt (s:List (Nat×AV)):Option Nat→AV
 | some k=>getS s k
 | none=>.any
theorem runQ_guard' {j:Nat} {want:Bool} (hd:dstOK N ⟨dst,op,ty,pos,aft,.some (j,want)⟩=true):RunQ T X ops N base (⟨dst,op,ty,pos,aft,.some (j,want)⟩::r) i s m Q↔GuardQ T X ops N base r i s m dst op (dstAt ops j) want Q (slotAt s (dstAt ops j)):=by
 simp only [RunQ,arun,hd,if_true,GuardQ,dstAt]
 cases h1:(ops[j]?).bind (·.dst) with
 | none=>simp
 | some k =>
  simp only [slotAt]
  cases hy:yV (getS s k) with
  | none=>simp [hy]
  | some y =>
   skip
   cases y with
   | none =>
    constructor
    ·rintro ⟨s',m',h,q⟩
     exact ⟨k,none,rfl,rfl,by simp,by simp,fun _=>⟨s',m',h,q⟩⟩
    ·rintro ⟨k',b,hk,hb,_,_,h3⟩
     simp only [Option.some.injEq] at hk hb
     subst hk hb
     exact h3 rfl
   | some b =>
    constructor
    ·rintro ⟨s',m',h,q⟩
     refine ⟨k,some b,rfl,rfl,fun e=>?_,fun e=>?_,by simp⟩
     ·simp only [Option.some.injEq] at e
      subst e
      simp only [if_true] at h
      exact stepQ_eq.2 ⟨s',m',h,q⟩
     ·simp only [Option.some.injEq] at e
      simp only at h
      rw [if_neg (by rw [e];cases want<;>simp)] at h
      exact ⟨s',m',h,q⟩
    ·rintro ⟨k',b',hk,hb,h2,h3,_⟩
     simp only [Option.some.injEq] at hk hb
     subst hk hb
     by_cases e:b=want
     ·subst e
      simp only [if_true]
      exact stepQ_eq.1 (h2 rfl)
     ·simp only [if_neg e]
      exact h3 (by cases b<;>cases want<;>simp at e ⊢)
theorem runQ_dst {o:Oper} (h:RunQ T X ops N base (o::r) i s m Q):dstOK N o=true:=by
 obtain ⟨s',m',h,_⟩:=h
 simp only [arun] at h
 split at h
 ·rename_i hd;exact hd
 ·simp at h
@[simp] theorem runQ_plain:RunQ T X ops N base (⟨dst,op,ty,pos,aft,.none⟩::r) i s m Q↔dstOK N ⟨dst,op,ty,pos,aft,.none⟩=true∧StepQ T X ops N base r i s m dst Q (astep T X op (aEv s) (getM m) (base+16*i)) :=
 ⟨fun h=>⟨runQ_dst h,(runQ_plain' (runQ_dst h)).1 h⟩,fun h=>(runQ_plain' h.1).2 h.2⟩
@[simp] theorem runQ_guard {j:Nat} {want:Bool}:RunQ T X ops N base (⟨dst,op,ty,pos,aft,.some (j,want)⟩::r) i s m Q↔dstOK N ⟨dst,op,ty,pos,aft,.some (j,want)⟩=true∧GuardQ T X ops N base r i s m dst op (dstAt ops j) want Q (slotAt s (dstAt ops j)) :=
 ⟨fun h=>⟨runQ_dst h,(runQ_guard' (runQ_dst h)).1 h⟩,fun h=>(runQ_guard' h.1).2 h.2⟩
theorem guardQ_split {d:Nat} {want b:Bool} (h1:b=want→StepQ T X ops N base r i ((d,.v (.bool want))::s) m dst Q (astep T X op (aEv ((d,.v (.bool want))::s)) (getM m) (base+16*i)))
  (h2:b=!want→RunQ T X ops N base r (i+1) (putS ((d,.v (.bool (!want)))::s) dst .u) m Q):GuardQ T X ops N base r i s m dst op (some d) want Q (.v (.bool b)) :=
 ⟨d,some b,rfl,rfl,fun e=>h1 (by simpa using e),fun e=>h2 (by simpa using e),by simp⟩
@[simp] theorem guardQ_tt {d:Nat}:GuardQ T X ops N base r i s m dst op (some d) true Q (.v (.bool true))↔StepQ T X ops N base r i ((d,.v (.bool true))::s) m dst Q (astep T X op (aEv ((d,.v (.bool true))::s)) (getM m) (base+16*i)):=by simp [GuardQ,yV]
@[simp] theorem guardQ_ff {d:Nat}:GuardQ T X ops N base r i s m dst op (some d) false Q (.v (.bool false))↔StepQ T X ops N base r i ((d,.v (.bool false))::s) m dst Q (astep T X op (aEv ((d,.v (.bool false))::s)) (getM m) (base+16*i)):=by simp [GuardQ,yV]
@[simp] theorem guardQ_tf {d:Nat}:GuardQ T X ops N base r i s m dst op (some d) true Q (.v (.bool false))↔RunQ T X ops N base r (i+1) (putS ((d,.v (.bool false))::s) dst .u) m Q:=by simp [GuardQ,yV]
@[simp] theorem guardQ_ft {d:Nat}:GuardQ T X ops N base r i s m dst op (some d) false Q (.v (.bool true))↔RunQ T X ops N base r (i+1) (putS ((d,.v (.bool true))::s) dst .u) m Q:=by simp [GuardQ,yV]
@[simp] theorem guardQ_u {d:Nat} {want:Bool}:GuardQ T X ops N base r i s m dst op (some d) want Q .u↔RunQ T X ops N base r (i+1) (putS s dst .u) m Q:=by simp [GuardQ,yV]
end
theorem aw_run {c:Cx} {st:St} {Q:Exit→St→Prop} {id:Nat} {ops:Array Oper} {d:Bool} (hc:c.OK) (hO:d=true→ordB c.X ops=true)
  (h:RunQ (Types c.P) c.X ops c.N st.nx ops.toList 0 st.s st.m fun s m=>Q .normal ⟨s,m,st.nx+16*ops.size⟩):AW c (.region id ops d) st Q :=
 aw_region hc hO (by
  obtain ⟨s,m,h1,h2⟩:=h
  exact ⟨⟨s,m,_⟩,by simp [aregion,h1],h2⟩)
theorem aw_nod {p:Prop} (h:false=true):p:=absurd h (by simp)
attribute [simp] dstAt slotAt
attribute [simp] mapT mapK keyA keyB intsOf zA isI64 aLenX aLenM entsOf aMakeMap okTup mgetZ aLookup aMapSet aMapDel
attribute [simp] astep sameK enterS aEv getS putS updL setM getM updM aBox aAlloc aNew AV.cells dstOK pureR aBin binI aUn aConv aLen aMinMax aLoad loadA aStore aFieldAddr aField aPart aIndex aIndexAddr aInt aSlice aBounds aAppend aRows aBuild aFill aBuildSlice aParts aMakeSlice aCallOp TK.isOther TK.agg setL putL AV.isClosed AV.leaf callP callC openRet openVal openVals openLeaf openLeaves peekVal peekVals peekLeaf peekLeaves peekPtr peekPtrs peekFn peekFns peekCap peekCaps chunk capOf aSlice3 aCap aCopy aClear aApp aAppendZ aResult aResults retOf leaveVal leaveVals leaveLeaf leaveLeaves SLeVs SLeV SLeL SLe thenQ blockQ keepS
@[simp] theorem one_int {k:IntKind} {n:Int}:(Value.int k n).oneCell'=true:=rfl
@[simp] theorem one_bool {b:Bool}:(Value.bool b).oneCell'=true:=rfl
@[simp] theorem one_slice {p:Option Addr} {n c:Nat}:(Value.slice p n c).oneCell'=true:=rfl
@[simp] theorem one_ptr {p:Option Addr}:(Value.pointer p).oneCell'=true:=rfl
abbrev I (n:Int):AV:=.v (.int .i64 n)
abbrev B (b:Bool):AV:=.v (.bool b)
theorem wrap64 {n:Int} (h:-9223372036854775808≤n∧n≤9223372036854775807):IntKind.i64.wrap n=n:=by
 rw [IntKind.wrap_i64];omega
def irows (l:List Int):List (List AV):=l.map fun x=>[I x]
@[simp] theorem irows_length (l:List Int):(irows l).length=l.length:=by simp [irows]
theorem irows_get {l:List Int} {n:Nat} (h:n<l.length):(irows l)[n]?=some [I (l.getD n 0)]:=by
 simp [irows,List.getD_eq_getElem?_getD,List.getElem?_eq_getElem h]
theorem irows_append (l m:List Int):irows l++irows m=irows (l++m):=by simp [irows]
theorem irows_inj {l m:List Int}:irows l=irows m↔l=m:=by
 constructor
 ·intro h
  have:Function.Injective fun x:Int=>[I x]:=fun a b e=>by simpa [I] using e
  exact List.map_inj_right (f:=fun x:Int=>[I x]) (fun a b e=>this e) |>.1 h
 ·rintro rfl;rfl
theorem leaves_iff {T:TypeId→Option TD} {rv:List ResultVar} {st:St} {r:List AV}:Leaves T rv st r↔(match (generalizing:=false) aResults T st rv with
  | some as=>(match (generalizing:=false) leaveVals (getM st.m) as with|some (rs,ids)=>ids.Nodup∧SLeVs rs r|none=>False)
  | none=>False):=by
 unfold Leaves
 cases aResults T st rv with
 | none=>simp only [reduceCtorEq,false_and,exists_const]
 | some as =>
  simp only
  cases h:leaveVals (getM st.m) as with
  | none =>
   simp only [iff_false]
   rintro ⟨_,_,_,e,h2,_⟩
   simp only [Option.some.injEq] at e
   subst e
   rw [h] at h2
   simp at h2
  | some p =>
   obtain ⟨rs,ids⟩:=p
   simp only
   constructor
   ·rintro ⟨_,_,_,e,h2,h3⟩
    simp only [Option.some.injEq] at e
    subst e
    rw [h] at h2
    simp only [Option.some.injEq,Prod.mk.injEq] at h2
    obtain ⟨rfl,rfl⟩:=h2
    exact h3
   ·exact fun h3=>⟨as,rs,ids,rfl,h,h3⟩
def AX.none:AX:=⟨fun _ _ _ _=>.none,fun _=>false,false,fun _=>false⟩
def AX.add (X:AX) (f:FuncId) (g:List AV→(Nat→AO)→Nat→Option (AV×List (Nat×AO))):AX:={ X with call:=fun k=>if k=f then g else X.call k }
def AX.eqAt (X:AX) (t:TypeId):AX:={ X with eqs:=fun k=>k=t||X.eqs k }
theorem xok_add {P:Program} {X:AX} (h:XOK P X) {f:FuncId} {g:List AV→(Nat→AO)→Nat→Option (AV×List (Nat×AO))} (hg:(CallOK P f g∧BodyOK P f)∨ExtOK P f g)
  (hd:∀ avs M nid r,g avs M nid=some r→∀ b∈r.2.map (·.1),nid≤b∧b<nid+16):XOK P (X.add f g) where
 calls:=fun k avs M nid r hr=>by
  simp only [AX.add] at hr ⊢
  split
  ·rename_i e;subst e;exact hg
  ·rename_i e
   rw [if_neg e] at hr
   exact h.calls k avs M nid r hr
 eqs:=h.eqs
 dom:=fun k avs M nid r hr b hb=>by
  simp only [AX.add] at hr ⊢
  split at hr
  ·exact .inl (hd avs M nid r hr b hb)
  ·exact h.dom k avs M nid r hr b hb
 anyW:=h.anyW
theorem xok_eq {P:Program} {X:AX} (h:XOK P X) {t:TypeId} (ht:EqOK P t):XOK P (X.eqAt t) where
 calls:=h.calls
 eqs:=fun k hk=>by
  simp only [AX.eqAt,Bool.or_eq_true,decide_eq_true_eq] at hk
  rcases hk with rfl|hk
  ·exact ht
  ·exact h.eqs k hk
 dom:=h.dom
 anyW:=h.anyW
theorem openLeaf_keys {nid:Nat} {a:AV}:∀ b∈(openLeaf nid a).2.1.map (·.1),nid≤b∧b<(openLeaf nid a).2.2:=by
 intro b hb
 cases a<;>simp [openLeaf] at hb ⊢
 all_goals omega
theorem openLeaves_keys:∀ {as:List AV} {nid:Nat},∀ b∈(openLeaves nid as).2.1.map (·.1),nid≤b∧b<(openLeaves nid as).2.2
 | [],nid=>by simp [openLeaves]
 | a::as,nid=>fun b hb=>by
  simp only [openLeaves,List.map_append,List.mem_append] at hb ⊢
  rcases hb with hb|hb
  ·exact ⟨(openLeaf_keys b hb).1,Nat.lt_of_lt_of_le (openLeaf_keys b hb).2 openLeaves_le⟩
  ·exact ⟨Nat.le_trans openLeaf_le (openLeaves_keys b hb).1,(openLeaves_keys b hb).2⟩
theorem openVal_keys {nid:Nat} {a:AV}:∀ b∈(openVal nid a).2.1.map (·.1),nid≤b∧b<(openVal nid a).2.2:=by
 intro b hb
 cases a<;>first|exact openLeaves_keys b hb|exact openLeaf_keys b hb
theorem openVals_keys:∀ {as:List AV} {nid:Nat},∀ b∈(openVals nid as).2.1.map (·.1),nid≤b∧b<(openVals nid as).2.2
 | [],nid=>by simp [openVals]
 | a::as,nid=>fun b hb=>by
  simp only [openVals,List.map_append,List.mem_append] at hb ⊢
  rcases hb with hb|hb
  ·exact ⟨(openVal_keys b hb).1,Nat.lt_of_lt_of_le (openVal_keys b hb).2 openVals_le⟩
  ·exact ⟨Nat.le_trans openVal_le (openVals_keys b hb).1,(openVals_keys b hb).2⟩
theorem openRet_keys {nid:Nat} {a:AV}:∀ b∈(openRet nid a).2.1.map (·.1),nid≤b∧b<(openRet nid a).2.2:=by
 intro b hb
 cases a<;>first|exact openVals_keys b hb|exact openVal_keys b hb
theorem callC_keys {F:List AV→Option AV} {avs:List AV} {M:Nat→AO} {nid:Nat} {r:AV×List (Nat×AO)} (h:callC F avs M nid=some r):∀ b∈r.2.map (·.1),nid≤b∧b<nid+16:=by
 simp only [callC] at h
 split at h
 case isFalse=>simp at h
 split at h
 case h_2=>simp at h
 split at h
 case isFalse=>simp at h
 rename_i hle
 simp only [Option.some.injEq] at h
 subst h
 intro b hb
 have:=openRet_keys b hb
 omega
theorem callP_keys {F:List AV→Option AV} {avs:List AV} {M:Nat→AO} {nid:Nat} {r:AV×List (Nat×AO)} (h:callP F avs M nid=some r):∀ b∈r.2.map (·.1),nid≤b∧b<nid+16:=by
 simp only [callP] at h
 split at h
 case h_2=>simp at h
 split at h
 case h_2=>simp at h
 split at h
 case isFalse=>simp at h
 rename_i hle
 simp only [Option.some.injEq] at h
 subst h
 intro b hb
 have:=openRet_keys b hb
 omega
theorem psound_spec {ι:Type} {A:ι→List AV} {rl:ι→List AV} {P:Program} {X:AX} {f:FuncId} {fn:Func} {c:Code} (hX:XOK P X) (hmix:P.follows .mixedOrders=true) (hf:P.funcs[f]?=some fn) (hb:fn.body=some c)
  (h:∀ (i:ι) (w0:World) (G:Nat→Prop),(A i).length≤fn.ntmps∧(rl i).length=fn.results.size∧AW ⟨P,X,fn.ntmps,w0,.pure G⟩ c ⟨enterS (A i),[],0⟩ (fun e st=>(e=.normal∨e=.ret)∧Leaves (Types P) fn.results.toList st (rl i))) :
  PSound P f (specF A fun i=>retOf (rl i)) :=
 psound_of hX hmix hf hb rfl fun w0 G avs r hr=>by
  obtain ⟨i,rfl,rfl⟩:=specF_some hr
  have:=h i w0 G
  exact ⟨this.1,rl i,rfl,this.2.1,this.2.2⟩
end Go.AM
