/- A part of the proof. -/
import Derived.Test.YtcfhmdljeeppfaaGreatGAmJ
import Derived.Laws.BitsLemmas
import Derived.Laws.Externs
set_option linter.all false
namespace Go.AM
open Go
theorem StT.adopt {w0:World} {bl:Bk} {E:Env} {w:World} (h:Inv w0 bl E w) (b:Nat) (o:AO) (v':Nat) (l':Option (Nat×Nat×Nat)) (hb:¬ E.alive b)
  (hl:∀ blk base sz,l'=some (blk,base,sz)->blk<w.heap.size∧¬ E.G blk∧(w0.heap.size<=blk∨blk∈bl.l)∧∀ b' base' sz',E.alive b'->E.loc b'≠some (blk,base',sz'))
  (hobj:ObR (E.upd b v' l') w b o):StT w0 bl E w [(b,o)] (E.upd b v' l') w:=by
 have hle:E.Le (E.upd b v' l'):=Env.le_upd fun hh=>absurd hh hb;refine ⟨hle,⟨h.frame,h.gin.trans hle,h.low,h.gout,h.good,?_,?_⟩,Nat.le_refl _,fun _ _ _=>rfl,?_,?_,?_⟩
 ·intro k blk base sz hk hlk;by_cases e:k=b
  ·subst e;simp only [Env.upd,if_true] at hlk;have:=hl blk base sz hlk;exact ⟨this.1,this.2.1,this.2.2.1⟩
  ·simp only [Env.upd,e,if_false,or_false] at hlk hk;exact h.locs k blk base sz hk hlk
 ·intro k k' blk base sz base' sz' hk hk' hlk hlk';by_cases e:k=b<;>by_cases e':k'=b
  ·rw [e,e']
  ·subst e;simp only [Env.upd,if_true,e',if_false,or_false] at hlk hlk' hk';exact ((hl blk base sz hlk).2.2.2 k' base' sz' hk' hlk').elim
  ·subst e';simp only [Env.upd,if_true,e,if_false,or_false] at hlk hlk' hk;exact ((hl blk base' sz' hlk').2.2.2 k base sz hk hlk).elim
  ·simp only [Env.upd,e,e',if_false,or_false] at hlk hlk' hk hk';exact h.apart k k' blk base sz base' sz' hk hk' hlk hlk'
 ·intro k hk;rcases hk with hk|hk
  ·exact .inl hk
  ·exact .inr (by simp [hk])
 ·intro k hk hn;have:k≠b:=by simpa using hn
  simp [Env.upd,this]
 ·intro k p hkp;simp only [List.mem_singleton,pJ] at hkp;obtain ⟨rfl,rfl⟩:=hkp;exact ⟨.inr rfl,hobj⟩
theorem StT.trans {w0:World} {bl:Bk} {E E1 E2:Env} {w w1 w2:World} {u u':List (Nat×AO)} (s:StT w0 bl E w u E1 w1) (t:StT w0 bl E1 w1 u' E2 w2) (hd:∀ b∈u.map (·.1),b ∉ u'.map (·.1)):StT w0 bl E w (u++u') E2 w2 where
 le:=s.le.trans t.le
 inv:=t.inv
 size:=Nat.le_trans s.size t.size
 keep:=fun k hk hn=>by
  rw [t.keep k (Nat.lt_of_lt_of_le hk s.size) fun b base sz hb hm hl=>?_]
  ·exact s.keep k hk fun b base sz hb hm=>hn b base sz hb (by simp only [List.map_append,List.mem_append];exact .inl hm)
  ·rcases s.alive b hb with h1|h1
   ·by_cases h2:b∈u.map (·.1)
    ·exact hd b h2 hm
    ·rw [(s.same b h1 h2).2] at hl;exact hn b base sz h1 (by simp only [List.map_append,List.mem_append];exact .inr hm) hl
   ·exact hd b h1 hm
 alive:=fun b hb=>by
  simp only [List.map_append,List.mem_append];rcases t.alive b hb with h1|h1
  ·rcases s.alive b h1 with h2|h2
   ·exact .inl h2
   ·exact .inr (.inl h2)
  ·exact .inr (.inr h1)
 same:=fun b hb hn=>by simp only [List.map_append,List.mem_append,not_or] at hn;have h1:=s.same b hb hn.1;have h2:=t.same b (s.le.alive b hb) hn.2;exact ⟨h2.1.trans h1.1,h2.2.trans h1.2⟩
 objs:=fun b o ho=>by
  rcases List.mem_append.1 ho with ho|ho
  ·have h1:=s.objs b o ho;exact ⟨t.le.alive b h1.1,t.obj s.inv h1.1 (hd b (List.mem_map.2 ⟨_,ho,rfl⟩)) h1.2⟩
  ·exact t.objs b o ho
theorem StT.pure {w0:World} {bl:Bk} {E:Env} {w w':World} (h:Inv w0 bl E w) (hf:zaV w [] w') (G:Nat->Prop) (hG:∀ k,E.G k->G k) (hG':∀ k,G k->k<w'.heap.size∧(E.G k∨w.heap.size<=k)):StT w0 bl E w [] { E with G:=G } w' where
 le:=⟨hG,fun _ hb=>hb,fun _ _=>.inl ⟨rfl,rfl⟩⟩
 inv:=by
  refine ⟨⟨hf.os.trans h.frame.os,hf.out.trans h.frame.out,Nat.le_trans h.frame.size hf.size,fun k h1 h2=>?_⟩,h.gin.trans ⟨hG,fun _ hb=>hb,fun _ _=>.inl ⟨rfl,rfl⟩⟩,h.low,fun k hk=>?_,fun k hk=>(hG' k hk).1,fun b blk base sz hb hl=>?_,h.apart⟩
  ·rw [hf.old k (Nat.lt_of_lt_of_le h1 h.frame.size) (by simp)];exact h.frame.old k h1 h2
  ·rcases (hG' k hk).2 with h1|h1
   ·exact h.gout k h1
   ·exact .inr (.inl (Nat.le_trans h.frame.size h1))
  ·have h1:=h.locs b blk base sz hb hl;refine ⟨Nat.lt_of_lt_of_le h1.1 hf.size,fun hg=>?_,h1.2.2⟩;rcases (hG' blk hg).2 with h2|h2
   ·exact h1.2.1 h2
   ·omega
 size:=hf.size
 keep:=fun k hk _=>hf.old k hk (by simp)
 alive:=fun _ hb=>.inl hb
 same:=fun _ _ _=>⟨rfl,rfl⟩
 objs:=fun b o h=>by simp at h
def oLf (nid:Nat):AV->AV×List (Nat×AO)×Nat
 | .ow s xs=>(.sl nid 1 s 0 xs.length,[(nid,.vec 1 s false xs)],nid+1)
 | .om n es=>(.mp nid 1,[(nid,.map 1 n es)],nid+1)
 | a=>(a,[],nid)
def oLs (nid:Nat):List AV->List AV×List (Nat×AO)×Nat
 | []=>([],[],nid)
 | a::r=>((oLf nid a).1::(oLs (oLf nid a).2.2 r).1,(oLf nid a).2.1++(oLs (oLf nid a).2.2 r).2.1,(oLs (oLf nid a).2.2 r).2.2)
def oVl (nid:Nat):AV->AV×List (Nat×AO)×Nat
 | .agg cs=>(.agg (oLs nid cs).1,(oLs nid cs).2)
 | a=>oLf nid a
def oVs (nid:Nat):List AV->List AV×List (Nat×AO)×Nat
 | []=>([],[],nid)
 | a::r=>((oVl nid a).1::(oVs (oVl nid a).2.2 r).1,(oVl nid a).2.1++(oVs (oVl nid a).2.2 r).2.1,(oVs (oVl nid a).2.2 r).2.2)
def oRt (nid:Nat):AV->AV×List (Nat×AO)×Nat
 | .tup as=>(.tup (oVs nid as).1,(oVs nid as).2)
 | a=>oVl nid a
structure zbJ (w0:World) (bl:Bk) (E:Env) (w:World) (nid n:Nat) (u:List (Nat×AO)) (bs:List Nat) (E':Env):Prop where
 step:StT w0 bl E w u E' w
 le:nid<=n
 keys:∀ b∈u.map (·.1),nid<=b∧b<n
 G:E'.G=E.G
 locs:∀ b base sz k,E'.alive b->E'.loc b=some (k,base,sz)->(E.alive b∧E.loc b=some (k,base,sz))∨k∈bs
def zgr (w0:World) (bl:Bk) (E:Env) (w:World) (bs:List Nat):Prop :=∀ k∈bs,k<w.heap.size∧¬ E.G k∧(w0.heap.size<=k∨k∈bl.l)∧∀ b base sz,E.alive b->E.loc b≠some (k,base,sz)
theorem zbJ.refl {w0:World} {bl:Bk} {E:Env} {w:World} (hI:Inv w0 bl E w) (nid:Nat):zbJ w0 bl E w nid nid [] [] E :=⟨StT.refl hI rfl rfl rfl,Nat.le_refl _,by simp,rfl,fun _ _ _ _ h k=>.inl ⟨h,k⟩⟩
theorem zbJ.trans {w0:World} {bl:Bk} {E E1 E2:Env} {w:World} {nid n1 n2:Nat} {u u':List (Nat×AO)} {bs bs':List Nat} (s:zbJ w0 bl E w nid n1 u bs E1) (t:zbJ w0 bl E1 w n1 n2 u' bs' E2):zbJ w0 bl E w nid n2 (u++u') (bs++bs') E2 where
 step:=s.step.trans t.step fun b h1 h2=>by have:=s.keys b h1;have:=t.keys b h2;omega
 le:=Nat.le_trans s.le t.le
 keys:=fun b hb=>by
  simp only [List.map_append,List.mem_append] at hb;rcases hb with hb|hb
  ·have:=s.keys b hb;have:=t.le;omega
  ·have:=t.keys b hb;have:=s.le;omega
 G:=t.G.trans s.G
 locs:=fun b base sz k hb hl=>by
  rw [List.mem_append];rcases t.locs b base sz k hb hl with ⟨h1,h2⟩|h1
  ·exact (s.locs b base sz k h1 h2).imp id .inl
  ·exact .inr (.inr h1)
theorem zbJ.spare {w0:World} {bl:Bk} {E E1:Env} {w:World} {nid n:Nat} {u:List (Nat×AO)} {bs bs':List Nat} (s:zbJ w0 bl E w nid n u bs E1) (h:zgr w0 bl E w bs') (hd:∀ k∈bs,k ∉ bs'):zgr w0 bl E1 w bs':=fun k hk=>by
 have h1:=h k hk;refine ⟨h1.1,by rw [s.G];exact h1.2.1,h1.2.2.1,fun b base sz hb hl=>?_⟩;rcases s.locs b base sz k hb hl with ⟨k1,k2⟩|k1
 ·exact h1.2.2.2 b base sz k1 k2
 ·exact hd k k1 hk
theorem zbJ.fresh {w0:World} {bl:Bk} {E E1:Env} {w:World} {nid n:Nat} {u:List (Nat×AO)} {bs:List Nat} (s:zbJ w0 bl E w nid n u bs E1) {top:Nat} (hn:∀ k,nid<=k->k<top->¬ E.alive k):∀ k,n<=k->k<top->¬ E1.alive k:=fun k h1 h2 h3=>by
 rcases s.step.alive k h3 with h4|h4
 ·exact hn k (Nat.le_trans s.le h1) h2 h4
 ·have:=s.keys k h4;omega
theorem zfR {w0:World} {bl:Bk} {E:Env} {w:World} (hI:Inv w0 bl E w) {nid:Nat} {a:AV} (hn:∀ k,nid<=k->k<(oLf nid a).2.2->¬ E.alive k) {x:Value} {bs:List Nat} (h:zas w E.G a x bs) (hs:zgr w0 bl E w bs) :
  ∃ E',zbJ w0 bl E w nid (oLf nid a).2.2 (oLf nid a).2.1 bs E'∧Rep E' w (oLf nid a).1 x:=by
 by_cases ha:∃ s xs,a=.ow s xs
 ·obtain ⟨s,xs,rfl⟩:=ha;simp only [zas] at h;obtain ⟨p,c,rfl,h2,h3,h4⟩:=h;have hna:¬ E.alive nid:=hn nid (Nat.le_refl _) (by simp [oLf]);simp only [oLf];rcases h4 with ⟨rfl,rfl⟩|⟨blk,base,arr,t,rfl,rfl,k3,k4,k4',k5⟩
  ·have hx:xs=[]:=List.length_eq_zero_iff.1 (by omega);subst hx;refine ⟨_,⟨StT.none hI nid s hna false,by omega,fun b hb=>?_,rfl,fun b base sz k hb hl=>?_⟩,?_⟩
   ·simp only [List.map_cons,List.map_nil,List.mem_singleton] at hb;omega
   ·by_cases e:b=nid
    ·subst e;simp [Env.upd] at hl
    ·simp only [Env.upd,e,if_false,or_false] at hb hl;exact .inl ⟨hb,hl⟩
   ·simp only [Rep];exact ⟨.inr rfl,Nat.le_refl _,by simp [Env.upd],p,0,rfl,by simp,h3,fun _=>by simp [Env.upd,zcd]⟩
  ·have hsp:=hs blk (by simp);have hsz:base+xs.length*s<=base+c*s:=by have:xs.length*s<=c*s:=Nat.mul_le_mul_right s h2;omega
   refine ⟨E.upd nid 1 (some (blk,base,base+c*s)),⟨StT.adopt hI nid _ 1 _ hna (fun blk' base' sz' e=>?_) ?_,by omega,fun b hb=>?_,rfl,fun b base' sz k hb hl=>?_⟩,?_⟩
   ·simp only [oJ,pJ] at e;rw [<- e.1];exact hsp
   ·simp only [ObR,Env.upd,if_true];exact ⟨trivial,Nat.le_refl _,arr,t,k3,k4,k4',hsz,by simp,k5⟩
   ·simp only [List.map_cons,List.map_nil,List.mem_singleton] at hb;omega
   ·by_cases e:b=nid
    ·subst e;simp only [Env.upd,if_true,oJ,pJ] at hl;exact .inr (by simp [hl.1])
    ·simp only [Env.upd,e,if_false,or_false] at hb hl;exact .inl ⟨hb,hl⟩
   ·simp only [Rep];exact ⟨.inr rfl,Nat.le_refl _,by simp [Env.upd],_,c,rfl,h2,fun e=>by simp at e,fun _=>by simp [Env.upd,zcd]⟩
 ·by_cases hb:∃ n es,a=.om n es
  ·obtain ⟨n,es,rfl⟩:=hb;simp only [zas] at h;obtain ⟨blk,ents,clk,rfl,rfl,k3,k4⟩:=h;have hna:¬ E.alive nid:=hn nid (Nat.le_refl _) (by simp [oLf]);have hsp:=hs blk (by simp);simp only [oLf];refine ⟨E.upd nid 1 (some (blk,0,0)),⟨StT.adopt hI nid _ 1 _ hna (fun blk' base' sz' e=>?_) ?_,by omega,fun b hb=>?_,rfl,fun b base' sz k hb hl=>?_⟩,?_⟩
   ·simp only [oJ,pJ] at e;rw [<- e.1];exact hsp
   ·simp only [ObR,Env.upd,if_true];exact ⟨trivial,Nat.le_refl _,blk,ents,clk,rfl,k3,k4⟩
   ·simp only [List.map_cons,List.map_nil,List.mem_singleton] at hb;omega
   ·by_cases e:b=nid
    ·subst e;simp only [Env.upd,if_true,oJ,pJ] at hl;exact .inr (by simp [hl.1])
    ·simp only [Env.upd,e,if_false,or_false] at hb hl;exact .inl ⟨hb,hl⟩
   ·simp only [Rep];exact ⟨.inr rfl,Nat.le_refl _,by simp [Env.upd],blk,rfl,fun _=>by simp [Env.upd]⟩
  have hne:∀ s xs,a≠.ow s xs:=fun s xs e=>ha ⟨s,xs,e⟩;have hne2:∀ n es,a≠.om n es:=fun n es e=>hb ⟨n,es,e⟩;obtain ⟨rfl,h2⟩:=h.crep hne hne2;have e:oLf nid a=(a,[],nid):=by cases a<;>first|rfl|exact absurd rfl (hne _ _)|exact absurd rfl (hne2 _ _)
  rw [e];exact ⟨E,zbJ.refl hI nid,Rep.of_c h2⟩
theorem zdY {nid:Nat} {a:AV}:nid<=(oLf nid a).2.2:=by cases a<;>simp [oLf]
theorem zbd:∀ {as:List AV} {nid:Nat},nid<=(oLs nid as).2.2
 | [],_=>Nat.le_refl _
 | _::_,_=>Nat.le_trans zdY zbd
theorem zeM {nid:Nat} {a:AV}:nid<=(oVl nid a).2.2:=by cases a<;>first|exact zbd|exact zdY
theorem zcx:∀ {as:List AV} {nid:Nat},nid<=(oVs nid as).2.2
 | [],_=>Nat.le_refl _
 | _::_,_=>Nat.le_trans zeM zcx
theorem zgZ {nid:Nat} {a:AV}:nid<=(oRt nid a).2.2:=by cases a<;>first|exact zcx|exact zeM
theorem zbF {w0:World} {bl:Bk} {w:World}:∀ {as:List AV} {E:Env} (_:Inv w0 bl E w) {nid:Nat} (_:∀ k,nid<=k->k<(oLs nid as).2.2->¬ E.alive k) {xs:List Value} {bs:List Nat} (_:OLv w E.G as xs bs) (_:zgr w0 bl E w bs) (_:bs.Nodup),∃ E',zbJ w0 bl E w nid (oLs nid as).2.2 (oLs nid as).2.1 bs E'∧RepL E' w (oLs nid as).1 xs
 | [],E,hI,nid,hn,[],bs,h,hs,hnd=>by
  simp only [OLv] at h;subst h;exact ⟨E,zbJ.refl hI nid,by simp [oLs,RepL]⟩
 | a::as,E,hI,nid,hn,x::xs,bs,h,hs,hnd=>by
  simp only [OLv] at h;obtain ⟨b1,b2,rfl,h1,h2⟩:=h;obtain ⟨n1,n2,n3⟩:=List.nodup_append.1 hnd;obtain ⟨E1,o1,r1⟩:=zfR hI (fun k p q=>hn k p (Nat.lt_of_lt_of_le q zbd)) h1 fun k hk=>hs k (by simp [hk]);obtain ⟨E2,o2,r2⟩:=zbF (as:=as) o1.step.inv (nid:=(oLf nid a).2.2) (o1.fresh hn) (by rw [o1.G];exact h2) (o1.spare (fun k hk=>hs k (by simp [hk])) fun k p q=>n3 k p k q rfl) n2;refine ⟨E2,o1.trans o2,?_⟩;simp only [oLs,RepL];exact ⟨o2.step.rep o1.step.inv r1,r2⟩
 | [],_,_,_,_,_::_,_,h,_,_=>by simp [OLv] at h
 | _::_,_,_,_,_,[],_,h,_,_=>by simp [OLv] at h
theorem zeL {w0:World} {bl:Bk} {E:Env} {w:World} (hI:Inv w0 bl E w) {nid:Nat} {a:AV} (hn:∀ k,nid<=k->k<(oVl nid a).2.2->¬ E.alive k) {x:Value} {bs:List Nat} (h:zdB w E.G a x bs) (hs:zgr w0 bl E w bs) (hnd:bs.Nodup) :
  ∃ E',zbJ w0 bl E w nid (oVl nid a).2.2 (oVl nid a).2.1 bs E'∧Rep E' w (oVl nid a).1 x:=by
 by_cases ha:∃ cs,a=.agg cs
 ·obtain ⟨cs,rfl⟩:=ha;simp only [zdB] at h;obtain ⟨vs,rfl,h1,h2⟩:=h;obtain ⟨E',o,r⟩:=zbF hI hn h2 hs hnd;exact ⟨E',o,by simp only [oVl,Rep];exact ⟨vs,rfl,h1,r⟩⟩
 ·have e:oVl nid a=oLf nid a:=by cases a<;>first|rfl|exact absurd ⟨_,rfl⟩ ha
  have h2:zas w E.G a x bs:=by cases a<;>first|exact h|exact absurd ⟨_,rfl⟩ ha
  rw [e] at hn ⊢;exact zfR hI hn h2 hs
theorem zfQ {w0:World} {bl:Bk} {w:World}:∀ {as:List AV} {E:Env} (_:Inv w0 bl E w) {nid:Nat} (_:∀ k,nid<=k->k<(oVs nid as).2.2->¬ E.alive k) {xs:List Value} {bs:List Nat} (_:zaY w E.G as xs bs) (_:zgr w0 bl E w bs) (_:bs.Nodup),∃ E',zbJ w0 bl E w nid (oVs nid as).2.2 (oVs nid as).2.1 bs E'∧RepL E' w (oVs nid as).1 xs
 | [],E,hI,nid,hn,[],bs,h,hs,hnd=>by
  simp only [zaY] at h;subst h;exact ⟨E,zbJ.refl hI nid,by simp [oVs,RepL]⟩
 | a::as,E,hI,nid,hn,x::xs,bs,h,hs,hnd=>by
  simp only [zaY] at h;obtain ⟨b1,b2,rfl,h1,h2⟩:=h;obtain ⟨n1,n2,n3⟩:=List.nodup_append.1 hnd;obtain ⟨E1,o1,r1⟩:=zeL hI (fun k p q=>hn k p (Nat.lt_of_lt_of_le q zcx)) h1 (fun k hk=>hs k (by simp [hk])) n1;obtain ⟨E2,o2,r2⟩:=zfQ (as:=as) o1.step.inv (nid:=(oVl nid a).2.2) (o1.fresh hn) (by rw [o1.G];exact h2) (o1.spare (fun k hk=>hs k (by simp [hk])) fun k p q=>n3 k p k q rfl) n2;refine ⟨E2,o1.trans o2,?_⟩;simp only [oVs,RepL];exact ⟨o2.step.rep o1.step.inv r1,r2⟩
 | [],_,_,_,_,_::_,_,h,_,_=>by simp [zaY] at h
 | _::_,_,_,_,_,[],_,h,_,_=>by simp [zaY] at h
theorem zci {w0:World} {bl:Bk} {E:Env} {w:World} (hI:Inv w0 bl E w) {nid:Nat} {a:AV} (hn:∀ k,nid<=k->k<(oRt nid a).2.2->¬ E.alive k) {x:Value} {bs:List Nat} (h:zjF w E.G a x bs) (hs:zgr w0 bl E w bs) (hnd:bs.Nodup) :
  ∃ E',zbJ w0 bl E w nid (oRt nid a).2.2 (oRt nid a).2.1 bs E'∧Rep E' w (oRt nid a).1 x:=by
 by_cases ha:∃ cs,a=.tup cs
 ·obtain ⟨cs,rfl⟩:=ha;simp only [zjF] at h;obtain ⟨vs,rfl,h2⟩:=h;obtain ⟨E',o,r⟩:=zfQ hI hn h2 hs hnd;exact ⟨E',o,by simp only [oRt,Rep];exact ⟨vs,rfl,r⟩⟩
 ·have e:oRt nid a=oVl nid a:=by cases a<;>first|rfl|exact absurd ⟨_,rfl⟩ ha
  have h2:zdB w E.G a x bs:=by cases a<;>first|exact h|exact absurd ⟨_,rfl⟩ ha
  rw [e] at hn ⊢;exact zeL hI hn h2 hs hnd
def callC (F:List AV->Option AV) (avs:List AV) (_M:Nat->AO) (nid:Nat):Option (AV×List (Nat×AO)) :=if avs.all AV.isClosed=true then match F avs with
  | some r=>if (oRt nid r).2.2<=nid+16 then some ((oRt nid r).1,(oRt nid r).2.1) else none
  | none=>none
 else none
theorem PSd.callC {P:Program} {f:FuncId} {F:List AV->Option AV} (h:PSd P f F):zbb P f (callC F):=by
 intro avs M nid av u hc w0 bl E w args hr hM hI hnid;unfold AM.callC at hc;split at hc
 case isFalse=>simp at hc
 rename_i hcl;cases hF:F avs<;>simp only [hF,reduceCtorEq] at hc;rename_i r;split at hc
 case isFalse=>simp at hc
 rename_i hle;simp only [oJ,pJ] at hc;obtain ⟨rfl,rfl⟩:=hc;refine (h w E.G args avs r hF hI.good (hr.to_c hcl)).mono fun e w' ⟨x,G',bs,he,hf,hG,hG',ho,hnd,hb⟩=>?_;have st:=StT.pure hI hf G' hG hG';have hsp:zgr w0 bl { E with G:=G' } w' bs:=fun k hk=>by have h1:=hb k hk;refine ⟨h1.1,h1.2.1,.inl (Nat.le_trans hI.frame.size h1.2.2),fun b base sz hb' hl=>?_⟩;have:=(hI.locs b k base sz hb' hl).1;omega
 obtain ⟨E',o,hx⟩:=zci st.inv (nid:=nid) (a:=r) (fun k p q=>hnid k p (by omega)) ho hsp hnd;exact ⟨x,E',he,st.trans o.step (by simp),hx⟩
def zaH (M:Nat->AO):AV->Option AV
 | .sl b m s o n=>match M b with
  | .vec m' s' _ xs=>if m=m'∧s=s'∧o+n<=xs.length then some (.rd s ((xs.drop o).take n)) else none
  | _=>none
 | .v x=>some (.v x)
 | .any=>some .any
 | .rd s xs=>some (.rd s xs)
 | .rp cs=>some (.rp cs)
 | .mp b m=>match M b with
  | .map m' n es=>if m=m' then some (.rm n es) else none
  | _=>none
 | .rm n es=>some (.rm n es)
 | _=>none
def pLs (M:Nat->AO):List AV->Option (List AV)
 | []=>some []
 | a::r=>match zaH M a,pLs M r with
  | some x,some xs=>some (x::xs)
  | _,_=>none
def zjr (s:Nat):Nat->List AV->List (List AV)
 | 0,_=>[]
 | n+1,cs=>cs.take s::zjr s n (cs.drop s)
def zbm (M:Nat->AO):AV->Option AV
 | .bp b 0=>match M b with
  | .box cs=>match pLs M cs with
   | some xs=>some (.rp xs)
   | none=>none
  | _=>none
 | .ep b m s i 0=>match M b with
  | .vec m' s' _ xs=>if m=m'∧s=s' then (match xs[i]? with|some e=>some (.rp e)|none=>none) else none
  | _=>none
 | a=>zaH M a
def zbV (M:Nat->AO):List AV->Option (List AV)
 | []=>some []
 | a::r=>match zbm M a,zbV M r with
  | some x,some xs=>some (x::xs)
  | _,_=>none
def ziP (M:Nat->AO):AV->Option AV
 | .fn f cs=>match zbV M cs with
  | some xs=>some (.fn f xs)
  | none=>none
 | a=>zaH M a
def zcX (M:Nat->AO):List AV->Option (List AV)
 | []=>some []
 | a::r=>match ziP M a,zcX M r with
  | some x,some xs=>some (x::xs)
  | _,_=>none
def zfP (M:Nat->AO):AV->Option AV
 | .bp b 0=>match M b with
  | .box cs=>match zcX M cs with
   | some xs=>some (.rp xs)
   | none=>none
  | _=>none
 | a=>zbm M a
def zbE (M:Nat->AO):List AV->Option (List AV)
 | []=>some []
 | a::r=>match zfP M a,zbE M r with
  | some x,some xs=>some (x::xs)
  | _,_=>none
def zbl (M:Nat->AO):AV->Option AV
 | .agg cs=>match pLs M cs with
  | some xs=>some (.agg xs)
  | none=>none
 | .fn f cs=>match zbE M cs with
  | some xs=>some (.fn f xs)
  | none=>none
 | .bs b o s n=>match M b with
  | .box cs=>if o+n*s<=cs.length then (match pLs M ((cs.drop o).take (n*s)) with
   | some xs=>some (.rd s (zjr s n xs))
   | none=>none) else none
  | _=>none
 | a=>zbm M a
def zah (M:Nat->AO):List AV->Option (List AV)
 | []=>some []
 | a::r=>match zbl M a,zah M r with
  | some x,some xs=>some (x::xs)
  | _,_=>none
def zsT (w:World):Nat->Prop:=fun k=>k<w.heap.size
theorem zdX {E:Env} {w:World} {M:Nat->AO} {G:Nat->Prop} (hG:∀ k,E.G k->G k) (hL:∀ b blk base sz,E.alive b->M b≠.dead->E.loc b=some (blk,base,sz)->G blk) (hM:zai E w M) {a a':AV} {x:Value} (h:zaH M a=some a') (hr:Rep E w a x):zd w G a' x:=by
 unfold zaH at h;cases a<;>simp only [reduceCtorEq] at h
 case sl b m s o n =>
  simp only [Rep] at hr;obtain ⟨h1,h2,h3,p,c,rfl,h4,h4',h5⟩:=hr;have ho:=hM b h1;cases hb:M b<;>simp only [hb,reduceCtorEq] at h ho;rename_i m' s' f xs;split at h
  case isFalse=>simp at h
  rename_i hm;obtain ⟨rfl,rfl,hle⟩:=hm;simp only [oJ] at h;subst h;simp only [ObR] at ho;obtain ⟨k1,k2,k3⟩:=ho;have hsl:=h5 k1.symm;have hlen:((xs.drop o).take n).length=n:=by simp;omega
  simp only [zd];refine ⟨p,c,by rw [hlen],by omega,h4',?_⟩;by_cases hn:n=0
  ·left;subst hn;simp
  ·right;cases hl:E.loc b with
   | none=>simp only [hl,zcd] at hsl;omega
   | some l =>obtain ⟨blk,base,sz⟩:=l;simp only [hl,zcd] at hsl k3;obtain ⟨a,rfl,q1,q2⟩:=hsl;obtain ⟨arr,t,k4,k5,k5',k6,k6',k7⟩:=k3;have q1:=q1.resolve_left (by omega);subst q1;exact ⟨blk,base+o*s,rfl,hL b _ _ _ h1 (by simp [hb]) hl,(k7.sub o n).mono hG (fun _ _=>rfl) (.inl rfl)⟩
 case mp b m =>
  simp only [Rep] at hr;obtain ⟨h1,h2,_,blk,rfl,h3⟩:=hr;have ho:=hM b h1;cases hb:M b<;>simp only [hb,reduceCtorEq] at h ho;split at h
  case isFalse=>simp at h
  rename_i hm;subst hm;simp only [oJ] at h;subst h;simp only [ObR] at ho;obtain ⟨hv,_,blk',ents,clk,k1,k2,k3⟩:=ho;have h3:=h3 hv.symm;rw [h3] at k1;simp only [oJ,pJ,and_true] at k1;subst k1;simp only [zd];exact ⟨blk,ents,clk,rfl,hL b _ _ _ h1 (by simp [hb]) h3,k2,k3.1.mono hG fun _ _=>rfl⟩
 all_goals
  simp only [oJ] at h;subst h;simp only [Rep] at hr;exact hr.mono hG fun _ _=>rfl
theorem zbD {E:Env} {w:World} {M:Nat->AO} {G:Nat->Prop} (hG:∀ k,E.G k->G k) (hL:∀ b blk base sz,E.alive b->M b≠.dead->E.loc b=some (blk,base,sz)->G blk) (hM:zai E w M):∀ {as as':List AV} {xs:List Value},pLs M as=some as'->RepL E w as xs->CRL w G as' xs
 | [],as',[],h,_=>by
  simp only [pLs,oJ] at h;subst h;simp [CRL]
 | a::as,as',x::xs,h,hr=>by
  simp only [RepL] at hr;simp only [pLs] at h;cases h1:zaH M a<;>simp only [h1,reduceCtorEq] at h;cases h2:pLs M as<;>simp only [h2,reduceCtorEq] at h;simp only [oJ] at h;subst h;simp only [CRL];exact ⟨zdX hG hL hM h1 hr.1,zbD hG hL hM h2 hr.2⟩
 | [],_,_::_,_,hr=>by simp [RepL] at hr
 | _::_,_,[],_,hr=>by simp [RepL] at hr
theorem CCs.of_list {w:World} {G:Nat->Prop} {blk off:Nat} {cs:List AV} {vs:List Value} (h:CRL w G cs vs) (ho:∀ y∈vs,y.oneCell'=true) (hc:∀ j v,vs[j]?=some v->w.cell? ⟨blk,off+j,none⟩=some v):CCs w G blk off cs :=CCs.of_get fun j a e=>by obtain ⟨x,h1,h2⟩:=h.get e;exact ⟨x,hc j x h1,ho x (List.mem_of_getElem? h1),h2⟩
theorem zc5 {s:Nat}:∀ {n:Nat} {cs:List AV},(zjr s n cs).length=n
 | 0,_=>rfl
 | n+1,cs=>by simp [zjr,zc5]
theorem CCs.take {w:World} {G:Nat->Prop} {blk off:Nat} {cs:List AV} (h:CCs w G blk off cs) (n:Nat):CCs w G blk off (cs.take n) :=CCs.of_get fun j a e=>by
  rw [List.getElem?_take] at e;split at e
  ·exact h.get e
  ·simp at e
theorem zhe {w:World} {G:Nat->Prop} {s blk:Nat}:∀ {n off:Nat} {cs:List AV},n*s<=cs.length->CCs w G blk off cs->CRows w G s blk off (zjr s n cs)
 | 0,_,_,_,_=>by simp [zjr,CRows]
 | n+1,off,cs,hl,h=>by
  have:(n+1)*s=n*s+s:=by rw [Nat.add_mul];omega
  simp only [zjr,CRows];exact ⟨by simp;omega,h.take s,zhe (by simp;omega) (h.drop s)⟩
theorem zch {M:Nat->AO}:∀ {as as':List AV},pLs M as=some as'->as'.length=as.length
 | [],as',h=>by simp only [pLs,oJ] at h;simp [<- h]
 | a::as,as',h=>by simp only [pLs] at h;cases h1:zaH M a<;>simp only [h1,reduceCtorEq] at h;cases h2:pLs M as<;>simp only [h2,reduceCtorEq] at h;simp only [oJ] at h;subst h;simp [zch h2]
theorem zeK {E:Env} {w:World} {M:Nat->AO} {G:Nat->Prop} (hG:∀ k,E.G k->G k) (hL:∀ b blk base sz,E.alive b->M b≠.dead->E.loc b=some (blk,base,sz)->G blk) (hM:zai E w M) {a a':AV} {x:Value} (h:zbm M a=some a') (hr:Rep E w a x):zd w G a' x:=by
 unfold zbm at h;split at h
 ·rename_i b;simp only [Rep] at hr;obtain ⟨k1,k2,blk,sz,k3,rfl⟩:=hr;have ho:=hM b k1;cases hb:M b<;>simp only [hb,reduceCtorEq] at h ho;rename_i cs;cases h2:pLs M cs<;>simp only [h2,reduceCtorEq] at h;simp only [oJ] at h;subst h;obtain ⟨blk',sz',vs,q1,q2,q3,q4⟩:=zc7 ho;rw [k3] at q1;simp only [oJ,pJ] at q1;obtain ⟨rfl,_,_⟩:=q1;simp only [zd];exact ⟨blk,0,rfl,hL b _ _ _ k1 (by simp [hb]) k3,CCs.of_list (zbD hG hL hM h2 q2) q3 fun j v e=>by simpa using q4 j v e⟩
 ·rename_i b m s i;simp only [Rep] at hr;obtain ⟨k1,k2,k2',a,rfl,k3⟩:=hr;have ho:=hM b k1;cases hb:M b<;>simp only [hb,reduceCtorEq] at h ho;rename_i m' s' f xs;split at h
  case isFalse=>simp at h
  rename_i hm;obtain ⟨rfl,rfl⟩:=hm;cases he:xs[i]?<;>simp only [he,reduceCtorEq,oJ] at h;rename_i e;subst h;simp only [ObR] at ho;obtain ⟨p1,p2,p3⟩:=ho;obtain ⟨blk,base,sz,hl,rfl⟩:=k3 p1.symm;simp only [hl] at p3;obtain ⟨c,t,p4,p5,p5',p6,p6',p7⟩:=p3;obtain ⟨_,g2⟩:=p7.get he;simp only [zd];exact ⟨blk,base+i*s+0,rfl,hL b _ _ _ k1 (by simp [hb]) hl,by rw [Nat.add_zero];exact g2.mono hG (fun _ _=>rfl) (.inl rfl)⟩
 ·exact zdX hG hL hM h hr
theorem zfN {E:Env} {w:World} {M:Nat->AO} {G:Nat->Prop} (hG:∀ k,E.G k->G k) (hL:∀ b blk base sz,E.alive b->M b≠.dead->E.loc b=some (blk,base,sz)->G blk) (hM:zai E w M):∀ {as as':List AV} {xs:List Value},zbV M as=some as'->RepL E w as xs->CRL w G as' xs
 | [],as',[],h,_=>by
  simp only [zbV,oJ] at h;subst h;simp [CRL]
 | a::as,as',x::xs,h,hr=>by
  simp only [RepL] at hr;simp only [zbV] at h;cases h1:zbm M a<;>simp only [h1,reduceCtorEq] at h;cases h2:zbV M as<;>simp only [h2,reduceCtorEq] at h;simp only [oJ] at h;subst h;simp only [CRL];exact ⟨zeK hG hL hM h1 hr.1,zfN hG hL hM h2 hr.2⟩
 | [],_,_::_,_,hr=>by simp [RepL] at hr
 | _::_,_,[],_,hr=>by simp [RepL] at hr
theorem znq {E:Env} {w:World} {M:Nat->AO} {G:Nat->Prop} (hG:∀ k,E.G k->G k) (hL:∀ b blk base sz,E.alive b->M b≠.dead->E.loc b=some (blk,base,sz)->G blk) (hM:zai E w M) {a a':AV} {x:Value} (h:ziP M a=some a') (hr:Rep E w a x):zd w G a' x:=by
 unfold ziP at h;split at h
 ·rename_i f cs;cases h2:zbV M cs<;>simp only [h2,reduceCtorEq] at h;simp only [oJ] at h;subst h;simp only [Rep] at hr;obtain ⟨vs,rfl,q2⟩:=hr;simp only [zd];exact ⟨vs,rfl,zfN hG hL hM h2 q2⟩
 ·exact zdX hG hL hM h hr
theorem zgY {E:Env} {w:World} {M:Nat->AO} {G:Nat->Prop} (hG:∀ k,E.G k->G k) (hL:∀ b blk base sz,E.alive b->M b≠.dead->E.loc b=some (blk,base,sz)->G blk) (hM:zai E w M):∀ {as as':List AV} {xs:List Value},zcX M as=some as'->RepL E w as xs->CRL w G as' xs
 | [],as',[],h,_=>by
  simp only [zcX,oJ] at h;subst h;simp [CRL]
 | a::as,as',x::xs,h,hr=>by
  simp only [RepL] at hr;simp only [zcX] at h;cases h1:ziP M a<;>simp only [h1,reduceCtorEq] at h;cases h2:zcX M as<;>simp only [h2,reduceCtorEq] at h;simp only [oJ] at h;subst h;simp only [CRL];exact ⟨znq hG hL hM h1 hr.1,zgY hG hL hM h2 hr.2⟩
 | [],_,_::_,_,hr=>by simp [RepL] at hr
 | _::_,_,[],_,hr=>by simp [RepL] at hr
theorem zmg {E:Env} {w:World} {M:Nat->AO} {G:Nat->Prop} (hG:∀ k,E.G k->G k) (hL:∀ b blk base sz,E.alive b->M b≠.dead->E.loc b=some (blk,base,sz)->G blk) (hM:zai E w M) {a a':AV} {x:Value} (h:zfP M a=some a') (hr:Rep E w a x):zd w G a' x:=by
 unfold zfP at h;split at h
 ·rename_i b;simp only [Rep] at hr;obtain ⟨k1,k2,blk,sz,k3,rfl⟩:=hr;have ho:=hM b k1;cases hb:M b<;>simp only [hb,reduceCtorEq] at h ho;rename_i cs;cases h2:zcX M cs<;>simp only [h2,reduceCtorEq] at h;simp only [oJ] at h;subst h;obtain ⟨blk',sz',vs,q1,q2,q3,q4⟩:=zc7 ho;rw [k3] at q1;simp only [oJ,pJ] at q1;obtain ⟨rfl,_,_⟩:=q1;simp only [zd];exact ⟨blk,0,rfl,hL b _ _ _ k1 (by simp [hb]) k3,CCs.of_list (zgY hG hL hM h2 q2) q3 fun j v e=>by simpa using q4 j v e⟩
 ·exact zeK hG hL hM h hr
theorem zfO {E:Env} {w:World} {M:Nat->AO} {G:Nat->Prop} (hG:∀ k,E.G k->G k) (hL:∀ b blk base sz,E.alive b->M b≠.dead->E.loc b=some (blk,base,sz)->G blk) (hM:zai E w M):∀ {as as':List AV} {xs:List Value},zbE M as=some as'->RepL E w as xs->CRL w G as' xs
 | [],as',[],h,_=>by
  simp only [zbE,oJ] at h;subst h;simp [CRL]
 | a::as,as',x::xs,h,hr=>by
  simp only [RepL] at hr;simp only [zbE] at h;cases h1:zfP M a<;>simp only [h1,reduceCtorEq] at h;cases h2:zbE M as<;>simp only [h2,reduceCtorEq] at h;simp only [oJ] at h;subst h;simp only [CRL];exact ⟨zmg hG hL hM h1 hr.1,zfO hG hL hM h2 hr.2⟩
 | [],_,_::_,_,hr=>by simp [RepL] at hr
 | _::_,_,[],_,hr=>by simp [RepL] at hr
theorem zmf {E:Env} {w:World} {M:Nat->AO} {G:Nat->Prop} (hG:∀ k,E.G k->G k) (hL:∀ b blk base sz,E.alive b->M b≠.dead->E.loc b=some (blk,base,sz)->G blk) (hM:zai E w M) {a a':AV} {x:Value} (h:zbl M a=some a') (hr:Rep E w a x):zd w G a' x:=by
 unfold zbl at h;split at h
 ·rename_i cs;cases h2:pLs M cs<;>simp only [h2,reduceCtorEq] at h;simp only [oJ] at h;subst h;simp only [Rep] at hr;obtain ⟨vs,rfl,q1,q2⟩:=hr;simp only [zd];exact ⟨vs,rfl,q1,zbD hG hL hM h2 q2⟩
 ·rename_i f cs;cases h2:zbE M cs<;>simp only [h2,reduceCtorEq] at h;simp only [oJ] at h;subst h;simp only [Rep] at hr;obtain ⟨vs,rfl,q2⟩:=hr;simp only [zd];exact ⟨vs,rfl,zfO hG hL hM h2 q2⟩
 ·rename_i b o s n;simp only [Rep] at hr;obtain ⟨k1,k2,blk,sz,p,c,k3,rfl,k4,k5⟩:=hr;have ho:=hM b k1;cases hb:M b<;>simp only [hb,reduceCtorEq] at h ho;rename_i cs;split at h
  case isFalse=>simp at h
  rename_i hle;cases h2:pLs M ((cs.drop o).take (n*s))<;>simp only [h2,reduceCtorEq] at h;rename_i xs;simp only [oJ] at h;subst h;obtain ⟨blk',sz',vs,q1,q2,q3,q4⟩:=zc7 ho;rw [k3] at q1;simp only [oJ,pJ] at q1;obtain ⟨rfl,_,_⟩:=q1;simp only [zd];refine ⟨some p,c,by rw [zc5],by rw [zc5];exact k4,fun e=>by simp at e,?_⟩;rcases k5 with rfl|rfl
  ·left;rfl
  ·right;refine ⟨blk,o,rfl,hL b _ _ _ k1 (by simp [hb]) k3,zhe (by rw [zch h2];simp;omega) ?_⟩;refine CCs.of_list (zbD hG hL hM h2 ((q2.drop o).take (n*s))) (fun y hy=>q3 y (List.mem_of_mem_drop (List.mem_of_mem_take hy))) fun j v e=>?_;rw [List.getElem?_take] at e;split at e
   ·rw [List.getElem?_drop] at e;exact q4 _ v e
   ·simp at e
 ·exact zeK hG hL hM h hr
theorem zdW {E:Env} {w:World} {M:Nat->AO} {G:Nat->Prop} (hG:∀ k,E.G k->G k) (hL:∀ b blk base sz,E.alive b->M b≠.dead->E.loc b=some (blk,base,sz)->G blk) (hM:zai E w M):∀ {as as':List AV} {xs:List Value},zah M as=some as'->RepL E w as xs->CRL w G as' xs
 | [],as',[],h,_=>by
  simp only [zah,oJ] at h;subst h;simp [CRL]
 | a::as,as',x::xs,h,hr=>by
  simp only [RepL] at hr;simp only [zah] at h;cases h1:zbl M a<;>simp only [h1,reduceCtorEq] at h;cases h2:zah M as<;>simp only [h2,reduceCtorEq] at h;simp only [oJ] at h;subst h;simp only [CRL];exact ⟨zmf hG hL hM h1 hr.1,zdW hG hL hM h2 hr.2⟩
 | [],_,_::_,_,hr=>by simp [RepL] at hr
 | _::_,_,[],_,hr=>by simp [RepL] at hr
def AV.plain:AV->Prop
 | .any|.v _=>True
 | _=>False
def AV.flat1:AV->Prop
 | .any|.v _=>True
 | .ow _ xs=>∀ e∈xs,∀ a∈e,a.plain
 | .om _ es=>∀ p∈es,p.2.plain
 | _=>False
def AV.flatV:AV->Prop
 | .agg cs=>∀ a∈cs,a.flat1
 | a=>a.flat1
def AV.flat:AV->Prop
 | .tup cs=>∀ a∈cs,a.flatV
 | a=>a.flatV
theorem AV.plain.crep {w:World} {G G':Nat->Prop} {a:AV} {x:Value} (ha:a.plain) (h:zd w G a x):zd w G' a x:=by
 cases a<;>simp only [AV.plain] at ha
 ·simp [zd]
 ·simpa only [zd] using h
theorem zfK {w:World} {G G':Nat->Prop} {blk:Nat}:∀ {cs:List AV} {off:Nat},(∀ a∈cs,a.plain)->CCs w G blk off cs->CCs w G' blk off cs
 | [],_,_,_=>by simp [CCs]
 | a::r,off,ha,h=>by simp only [CCs] at h ⊢;obtain ⟨⟨x,h1,h2,h3⟩,h4⟩:=h;exact ⟨⟨x,h1,h2,(ha a (by simp)).crep h3⟩,zfK (fun b hb=>ha b (by simp [hb])) h4⟩
theorem zgW {w:World} {G G':Nat->Prop} {s blk:Nat}:∀ {xs:List (List AV)} {off:Nat},(∀ e∈xs,∀ a∈e,a.plain)->CRows w G s blk off xs->CRows w G' s blk off xs
 | [],_,_,_=>by simp [CRows]
 | e::r,off,ha,h=>by simp only [CRows] at h ⊢;exact ⟨h.1,zfK (ha e (by simp)) h.2.1,zgW (fun b hb=>ha b (by simp [hb])) h.2.2⟩
theorem zgX {w:World} {G G':Nat->Prop} {n:Nat}:∀ {es:List (List Int×AV)} {xs:List MapEntry},(∀ p∈es,p.2.plain)->CEnts w G n es xs->CEnts w G' n es xs
 | [],[],_,_=>by simp [CEnts]
 | (k,a)::r,e::s,ha,h=>by
  simp only [CEnts] at h ⊢;exact ⟨h.1,(ha (k,a) (by simp)).crep h.2.1,zgX (fun b hb=>ha b (by simp [hb])) h.2.2⟩
 | [],_::_,_,h=>by simp [CEnts] at h
 | _::_,[],_,h=>by simp [CEnts] at h
theorem AV.flat1.oleaf {w:World} {G G':Nat->Prop} {a:AV} {x:Value} {bl:List Nat} (ha:a.flat1) (h:zas w G a x bl):zas w G' a x bl:=by
 cases a<;>simp only [AV.flat1] at ha
 ·simp only [zas,zd] at h ⊢;exact h
 ·simp only [zas,zd] at h ⊢;exact h
 ·simp only [zas] at h ⊢;obtain ⟨p,c,h1,h2,h3,h4⟩:=h;exact ⟨p,c,h1,h2,h3,h4.imp id fun ⟨blk,base,arr,t,k1,k2,k3,k4,k4',k5⟩=>⟨blk,base,arr,t,k1,k2,k3,k4,k4',zgW ha k5⟩⟩
 ·simp only [zas] at h ⊢;obtain ⟨blk,ents,clk,h1,h2,h3,h4⟩:=h;exact ⟨blk,ents,clk,h1,h2,h3,zgX ha h4.1,h4.2⟩
theorem zd1 {w:World} {G G':Nat->Prop}:∀ {as:List AV} {xs:List Value} {bl:List Nat},(∀ a∈as,a.flat1)->OLv w G as xs bl->OLv w G' as xs bl
 | [],[],_,_,h=>by simpa only [OLv] using h
 | a::as,x::xs,bl,ha,h=>by
  simp only [OLv] at h ⊢;obtain ⟨b1,b2,e,h1,h2⟩:=h;exact ⟨b1,b2,e,(ha a (by simp)).oleaf h1,zd1 (fun b hb=>ha b (by simp [hb])) h2⟩
 | [],_::_,_,_,h=>by simp [OLv] at h
 | _::_,[],_,_,h=>by simp [OLv] at h
theorem AV.flatV.oval {w:World} {G G':Nat->Prop} {a:AV} {x:Value} {bl:List Nat} (ha:a.flatV) (h:zdB w G a x bl):zdB w G' a x bl:=by
  cases a<;>first
    | (simp only [AV.flatV,AV.flat1] at ha;done)
    | (simp only [zdB] at h ⊢
       first
       | exact AV.flat1.oleaf ha h
       | (obtain ⟨vs,h1,h2,h3⟩:=h
          exact ⟨vs,h1,h2,zd1 ha h3⟩))
theorem zjd {w:World} {G G':Nat->Prop}:∀ {as:List AV} {xs:List Value} {bl:List Nat},(∀ a∈as,a.flatV)->zaY w G as xs bl->zaY w G' as xs bl
 | [],[],_,_,h=>by simpa only [zaY] using h
 | a::as,x::xs,bl,ha,h=>by
  simp only [zaY] at h ⊢;obtain ⟨b1,b2,e,h1,h2⟩:=h;exact ⟨b1,b2,e,(ha a (by simp)).oval h1,zjd (fun b hb=>ha b (by simp [hb])) h2⟩
 | [],_::_,_,_,h=>by simp [zaY] at h
 | _::_,[],_,_,h=>by simp [zaY] at h
theorem AV.flat.oret {w:World} {G G':Nat->Prop} {a:AV} {x:Value} {bl:List Nat} (ha:a.flat) (h:zjF w G a x bl):zjF w G' a x bl:=by
 by_cases hc:∃ cs,a=.tup cs
 ·obtain ⟨cs,rfl⟩:=hc;simp only [zjF] at h ⊢;obtain ⟨vs,h1,h2⟩:=h;exact ⟨vs,h1,zjd ha h2⟩
 ·have h1:a.flatV:=by cases a<;>first|exact ha|exact absurd ⟨_,rfl⟩ hc
  have h2:zdB w G a x bl:=by cases a<;>first|exact h|exact absurd ⟨_,rfl⟩ hc
  have h3:=h1.oval (G':=G') h2;cases a<;>first|exact h3|exact absurd ⟨_,rfl⟩ hc
def caP (F:List AV->Option AV) (avs:List AV) (M:Nat->AO) (nid:Nat):Option (AV×List (Nat×AO)) :=
 match zah M avs with
 | some as=>match F as with
  | some r=>if (oRt nid r).2.2<=nid+16 then some ((oRt nid r).1,(oRt nid r).2.1) else none
  | none=>none
 | none=>none
theorem PSd.caP {P:Program} {f:FuncId} {F:List AV->Option AV} (h:PSd P f F) (hfl:∀ avs r,F avs=some r->r.flat):zbb P f (caP F):=by
 intro avs M nid av u hc w0 bl E w args hr hM hI hnid;unfold AM.caP at hc;cases hp:zah M avs<;>simp only [hp,reduceCtorEq] at hc;rename_i as;cases hF:F as<;>simp only [hF,reduceCtorEq] at hc;rename_i r;split at hc
 case isFalse=>simp at hc
 rename_i hle;simp only [oJ,pJ] at hc;obtain ⟨rfl,rfl⟩:=hc;refine (h w (zsT w) args as r hF (fun _ hk=>hk) (zdW (G:=zsT w) hI.good (fun b blk base sz hb _ hl=>(hI.locs b blk base sz hb hl).1) hM hp hr)).mono fun e w' ⟨x,G',bs,he,hf,hG,hG',ho,hnd,hb⟩=>?_;have st:=StT.pure hI hf E.G (fun _ hk=>hk) fun k hk=>⟨Nat.lt_of_lt_of_le (hI.good k hk) hf.size,.inl hk⟩
 have hsp:zgr w0 bl { E with G:=E.G } w' bs:=fun k hk=>by
  have h1:=hb k hk;refine ⟨h1.1,fun hg=>?_,.inl (Nat.le_trans hI.frame.size h1.2.2),fun b base sz hb' hl=>?_⟩
  ·have:=hI.good k hg;omega
  ·have:=(hI.locs b k base sz hb' hl).1;omega
 obtain ⟨E',o,hx⟩:=zci st.inv (nid:=nid) (a:=r) (fun k p q=>hnid k p (by omega)) ((hfl as r hF).oret ho) hsp hnd;exact ⟨x,E',he,st.trans o.step (by simp),hx⟩
noncomputable def spF {ι:Type} (A:ι->List AV) (R:ι->AV) (avs:List AV):Option AV :=open Classical in if h:∃ i,A i=avs then some (R h.choose) else none
theorem sFe {ι:Type} {A:ι->List AV} {R:ι->AV} (i:ι) (h:∀ j,A j=A i->R j=R i):spF A R (A i)=some (R i):=by
 unfold spF;have hex:∃ j,A j=A i:=⟨i,rfl⟩
 rw [dif_pos hex];exact congrArg some (h _ hex.choose_spec)
theorem zeJ {ι:Type} {A:ι->List AV} {R:ι->AV} {avs:List AV} {r:AV} (h:spF A R avs=some r):∃ i,A i=avs∧R i=r:=by
 unfold spF at h;split at h
 ·rename_i hh;simp only [oJ] at h;exact ⟨_,hh.choose_spec,h⟩
 ·simp at h
def zfy (T:TypeId->Option TD) (X:AX) (ops:Array Oper) (N base:Nat) (l:List Oper) (i:Nat) (s:List (Nat×AV)) (m:List (Nat×AO)) (Q:List (Nat×AV)->List (Nat×AO)->Prop):Prop :=∃ s' m',zjw T X ops N base l i s m=some (s',m')∧Q s' m'
def zin (T:TypeId->Option TD) (X:AX) (ops:Array Oper) (N base:Nat) (r:List Oper) (i:Nat) (s:List (Nat×AV)) (m:List (Nat×AO)) (dst:Option Nat) (Q:List (Nat×AV)->List (Nat×AO)->Prop) (a:Option (AV×List (Nat×AO))):Prop :=∃ av u,a=some (av,u)∧zfy T X ops N base r (i+1) (zfG s dst av) (zl5 m u) Q
def zb5 (T:TypeId->Option TD) (X:AX) (ops:Array Oper) (N base:Nat) (r:List Oper) (i:Nat) (s:List (Nat×AV)) (m:List (Nat×AO)) (dst:Option Nat) (op:Op) (d:Option Nat) (want:Bool) (Q:List (Nat×AV)->List (Nat×AO)->Prop) (g:AV):Prop :=∃ k b,d=some k∧yV g=some b ∧
  (b=some want->zin T X ops N base r i ((k,.v (.bool want))::s) m dst Q (zav T X op (aEv ((k,.v (.bool want))::s)) (zb m) (base+16*i))) ∧
  (b=some (!want)->zfy T X ops N base r (i+1) (zfG ((k,.v (.bool (!want)))::s) dst .u) m Q) ∧
  (b=none->zfy T X ops N base r (i+1) (zfG s dst .u) m Q)
section
variable {T:TypeId->Option TD} {X:AX} {ops:Array Oper} {N base:Nat} {l r:List Oper} {i:Nat} {s:List (Nat×AV)} {m:List (Nat×AO)} {Q:List (Nat×AV)->List (Nat×AO)->Prop} {dst:Option Nat} {op:Op} {ty:TypeId} {pos:String} {aft:Array Edge}
@[simp] theorem zwl:zfy T X ops N base [] i s m Q↔Q s m:=by
 simp only [zfy,zjw,oJ,pJ];constructor
 ·rintro ⟨_,_,⟨rfl,rfl⟩,h⟩;exact h
 ·exact fun h=>⟨_,_,⟨rfl,rfl⟩,h⟩
@[simp] theorem zl8 {av:AV} {u:List (Nat×AO)}:zin T X ops N base r i s m dst Q (some (av,u))↔zfy T X ops N base r (i+1) (zfG s dst av) (zl5 m u) Q:=by
 constructor
 ·rintro ⟨_,_,h,k⟩;simp only [oJ,pJ] at h;obtain ⟨rfl,rfl⟩:=h;exact k
 ·exact fun k=>⟨_,_,rfl,k⟩
theorem zhv {a:Option (AV×List (Nat×AO))}:zin T X ops N base r i s m dst Q a↔∃ s' m',(match (generalizing:=false) a with|some (av,u)=>zjw T X ops N base r (i+1) (zfG s dst av) (zl5 m u)|none=>none)=some (s',m')∧Q s' m':=by
 cases a with
 | none=>simp [zin]
 | some p=>obtain ⟨av,u⟩:=p;exact zl8
theorem zfE (hd:zeu N ⟨dst,op,ty,pos,aft,.none⟩=true):zfy T X ops N base (⟨dst,op,ty,pos,aft,.none⟩::r) i s m Q↔zin T X ops N base r i s m dst Q (zav T X op (aEv s) (zb m) (base+16*i)):=by rw [zhv];simp only [zfy,zjw,hd,if_true];cases zav T X op (aEv s) (zb m) (base+16*i)<;>exact Iff.rfl
def zmt (ops:Array Oper) (j:Nat):Option Nat:=(ops[j]?).bind (·.dst)
def zkU (s:List (Nat×AV)):Option Nat->AV
 | some k=>zn s k
 | none=>.any
theorem zfF {j:Nat} {want:Bool} (hd:zeu N ⟨dst,op,ty,pos,aft,.some (j,want)⟩=true):zfy T X ops N base (⟨dst,op,ty,pos,aft,.some (j,want)⟩::r) i s m Q↔zb5 T X ops N base r i s m dst op (zmt ops j) want Q (zkU s (zmt ops j)):=by
 simp only [zfy,zjw,hd,if_true,zb5,zmt];cases h1:(ops[j]?).bind (·.dst) with
 | none=>simp
 | some k =>
  simp only [zkU];cases hy:yV (zn s k) with
  | none=>simp [hy]
  | some y =>
   skip
   cases y with
   | none =>
    constructor
    ·rintro ⟨s',m',h,q⟩;exact ⟨k,none,rfl,rfl,by simp,by simp,fun _=>⟨s',m',h,q⟩⟩
    ·rintro ⟨k',b,hk,hb,_,_,h3⟩;simp only [oJ] at hk hb;subst hk hb;exact h3 rfl
   | some b =>
    constructor
    ·rintro ⟨s',m',h,q⟩;refine ⟨k,some b,rfl,rfl,fun e=>?_,fun e=>?_,by simp⟩
     ·simp only [oJ] at e;subst e;simp only [if_true] at h;exact zhv.2 ⟨s',m',h,q⟩
     ·simp only [oJ] at e;simp only at h;rw [if_neg (by rw [e];cases want<;>simp)] at h;exact ⟨s',m',h,q⟩
    ·rintro ⟨k',b',hk,hb,h2,h3,_⟩;simp only [oJ] at hk hb;subst hk hb;by_cases e:b=want
     ·subst e;simp only [if_true];exact zhv.1 (h2 rfl)
     ·simp only [if_neg e];exact h3 (by cases b<;>cases want<;>simp at e ⊢)
theorem zfj {o:Oper} (h:zfy T X ops N base (o::r) i s m Q):zeu N o=true:=by
 obtain ⟨s',m',h,_⟩:=h;simp only [zjw] at h;split at h
 ·rename_i hd;exact hd
 ·simp at h
@[simp] theorem ztz:zfy T X ops N base (⟨dst,op,ty,pos,aft,.none⟩::r) i s m Q↔zeu N ⟨dst,op,ty,pos,aft,.none⟩=true∧zin T X ops N base r i s m dst Q (zav T X op (aEv s) (zb m) (base+16*i)) :=⟨fun h=>⟨zfj h,(zfE (zfj h)).1 h⟩,fun h=>(zfE h.1).2 h.2⟩
@[simp] theorem ztA {j:Nat} {want:Bool}:zfy T X ops N base (⟨dst,op,ty,pos,aft,.some (j,want)⟩::r) i s m Q↔zeu N ⟨dst,op,ty,pos,aft,.some (j,want)⟩=true∧zb5 T X ops N base r i s m dst op (zmt ops j) want Q (zkU s (zmt ops j)) :=⟨fun h=>⟨zfj h,(zfF (zfj h)).1 h⟩,fun h=>(zfF h.1).2 h.2⟩
theorem gQs {d:Nat} {want b:Bool} (h1:b=want->zin T X ops N base r i ((d,.v (.bool want))::s) m dst Q (zav T X op (aEv ((d,.v (.bool want))::s)) (zb m) (base+16*i)))
  (h2:b=!want->zfy T X ops N base r (i+1) (zfG ((d,.v (.bool (!want)))::s) dst .u) m Q):zb5 T X ops N base r i s m dst op (some d) want Q (.v (.bool b)) :=⟨d,some b,rfl,rfl,fun e=>h1 (by simpa using e),fun e=>h2 (by simpa using e),by simp⟩
@[simp] theorem zuT {d:Nat}:zb5 T X ops N base r i s m dst op (some d) true Q (.v (.bool true))↔zin T X ops N base r i ((d,.v (.bool true))::s) m dst Q (zav T X op (aEv ((d,.v (.bool true))::s)) (zb m) (base+16*i)):=by simp [zb5,yV]
@[simp] theorem zuW {d:Nat}:zb5 T X ops N base r i s m dst op (some d) false Q (.v (.bool false))↔zin T X ops N base r i ((d,.v (.bool false))::s) m dst Q (zav T X op (aEv ((d,.v (.bool false))::s)) (zb m) (base+16*i)):=by simp [zb5,yV]
@[simp] theorem zuU {d:Nat}:zb5 T X ops N base r i s m dst op (some d) true Q (.v (.bool false))↔zfy T X ops N base r (i+1) (zfG ((d,.v (.bool false))::s) dst .u) m Q:=by simp [zb5,yV]
@[simp] theorem zuV {d:Nat}:zb5 T X ops N base r i s m dst op (some d) false Q (.v (.bool true))↔zfy T X ops N base r (i+1) (zfG ((d,.v (.bool true))::s) dst .u) m Q:=by simp [zb5,yV]
@[simp] theorem zwr {d:Nat} {want:Bool}:zb5 T X ops N base r i s m dst op (some d) want Q .u↔zfy T X ops N base r (i+1) (zfG s dst .u) m Q:=by simp [zb5,yV]
end
theorem zae {c:Cx} {st:St} {Q:Exit->St->Prop} {id:Nat} {ops:Array Oper} {d:Bool} (hc:c.OK) (hO:d=true->zrM c.X ops=true)
  (h:zfy (za c.P) c.X ops c.N st.nx ops.toList 0 st.s st.m fun s m=>Q .normal ⟨s,m,st.nx+16*ops.size⟩):AW c (.region id ops d) st Q :=zoL hc hO (by obtain ⟨s,m,h1,h2⟩:=h;exact ⟨⟨s,m,_⟩,by simp [zeW,h1],h2⟩)
theorem zau {p:Prop} (h:false=true):p:=absurd h (by simp)
attribute [simp] zmt zkU
attribute [simp] zr4 zqN zqQ zuK zf4 zA zn1 zii zqk zji zbI zjZ zmm zih zda zdb
attribute [simp] zav zcU eSt aEv zn zfG zl5 zty zb zbP zvZ zjB ztE AV.cells zeu zbQ zwC zvU aUn zqn zwA zd6 zoU zgB zgn zdy zlY zoS zlX zdx zlW zgo zbo zeX zc9 zlZ zil zbO ze7 zco zdc TK.isOther TK.agg setL zqD AV.isClosed AV.leaf caP callC oRt oVl oVs oLf oLs zbl zah zaH pLs zbm zbV ziP zcX zfP zbE zjr zkv zie zwB zmH zhk ztF zdA aRt aRs rtO zbY lVs lLf lLs zbx zio zgJ SLe ze bkQ kpS
@[simp] theorem zxp {k:IntKind} {n:Int}:(Value.int k n).oneCell'=true:=rfl
@[simp] theorem zwo {b:Bool}:(Value.bool b).oneCell'=true:=rfl
@[simp] theorem zus {p:Option Addr} {n c:Nat}:(Value.slice p n c).oneCell'=true:=rfl
@[simp] theorem zxn {p:Option Addr}:(Value.pointer p).oneCell'=true:=rfl
@[simp] theorem ztv (a b:Nat):((a:Int)+(b:Int)).toNat=a+b:=by omega
abbrev I (n:Int):AV:=.v (.int .i64 n)
abbrev B (b:Bool):AV:=.v (.bool b)
theorem zm {n:Int} (h:-9223372036854775808<=n∧n<=9223372036854775807):IntKind.i64.wrap n=n:=by rw [IntKind.wrap_i64];omega
def irw (l:List Int):List (List AV):=l.map fun x=>[I x]
@[simp] theorem zqR (l:List Int):(irw l).length=l.length:=by simp [irw]
theorem zn2 {l:List Int} {n:Nat} (h:n<l.length):(irw l)[n]?=some [I (l.getD n 0)]:=by simp [irw,List.getD_eq_getElem?_getD,List.getElem?_eq_getElem h]
theorem zi2 (l m:List Int):irw l++irw m=irw (l++m):=by simp [irw]
theorem irI {l m:List Int}:irw l=irw m↔l=m:=by
 constructor
 ·intro h;have:Function.Injective fun x:Int=>[I x]:=fun a b e=>by simpa [I] using e
  exact List.map_inj_right (f:=fun x:Int=>[I x]) (fun a b e=>this e) |>.1 h
 ·rintro rfl;rfl
theorem lvI {T:TypeId->Option TD} {rv:List ResultVar} {st:St} {r:List AV}:zjG T rv st r↔(match (generalizing:=false) aRs T st rv with
  | some as=>(match (generalizing:=false) lVs (zb st.m) as with|some (rs,ids)=>ids.Nodup∧zbx rs r|none=>False)
  | none=>False):=by
 unfold zjG;cases aRs T st rv with
 | none=>simp only [reduceCtorEq,false_and,exists_const]
 | some as =>
  simp only;cases h:lVs (zb st.m) as with
  | none =>
   simp only [iff_false];rintro ⟨_,_,_,e,h2,_⟩;simp only [oJ] at e;subst e;rw [h] at h2;simp at h2
  | some p =>
   obtain ⟨rs,ids⟩:=p;simp only;constructor
   ·rintro ⟨_,_,_,e,h2,h3⟩;simp only [oJ] at e;subst e;rw [h] at h2;simp only [oJ,pJ] at h2;obtain ⟨rfl,rfl⟩:=h2;exact h3
   ·exact fun h3=>⟨as,rs,ids,rfl,h,h3⟩
def AX.none:AX:=⟨fun _ _ _ _=>.none,fun _=>false,false,fun _=>false⟩
def AX.add (X:AX) (f:FuncId) (g:List AV->(Nat->AO)->Nat->Option (AV×List (Nat×AO))):AX:={ X with call:=fun k=>if k=f then g else X.call k }
def AX.eqAt (X:AX) (t:TypeId):AX:={ X with eqs:=fun k=>k=t||X.eqs k }
theorem zb6 {P:Program} {X:AX} (h:XOK P X) {f:FuncId} {g:List AV->(Nat->AO)->Nat->Option (AV×List (Nat×AO))} (hg:(zbb P f g∧ze9 P f)∨zmO P f g)
  (hd:∀ avs M nid r,g avs M nid=some r->∀ b∈r.2.map (·.1),nid<=b∧b<nid+16):XOK P (X.add f g) where
 calls:=fun k avs M nid r hr=>by
  simp only [AX.add] at hr ⊢;split
  ·rename_i e;subst e;exact hg
  ·rename_i e;rw [if_neg e] at hr;exact h.calls k avs M nid r hr
 eqs:=h.eqs
 dom:=fun k avs M nid r hr b hb=>by
  simp only [AX.add] at hr ⊢;split at hr
  ·exact .inl (hd avs M nid r hr b hb)
  ·exact h.dom k avs M nid r hr b hb
 anyW:=h.anyW
theorem zgN {P:Program} {X:AX} (h:XOK P X) {t:TypeId} (ht:zqt P t):XOK P (X.eqAt t) where
 calls:=h.calls
 eqs:=fun k hk=>by
  simp only [AX.eqAt,Bool.or_eq_true,decide_eq_true_eq] at hk;rcases hk with rfl|hk
  ·exact ht
  ·exact h.eqs k hk
 dom:=h.dom
 anyW:=h.anyW
theorem zcz {nid:Nat} {a:AV}:∀ b∈(oLf nid a).2.1.map (·.1),nid<=b∧b<(oLf nid a).2.2:=by intro b hb;cases a<;>simp [oLf] at hb ⊢;all_goals omega
theorem zbe:∀ {as:List AV} {nid:Nat},∀ b∈(oLs nid as).2.1.map (·.1),nid<=b∧b<(oLs nid as).2.2
 | [],nid=>by simp [oLs]
 | a::as,nid=>fun b hb=>by
  simp only [oLs,List.map_append,List.mem_append] at hb ⊢;rcases hb with hb|hb
  ·exact ⟨(zcz b hb).1,Nat.lt_of_lt_of_le (zcz b hb).2 zbd⟩
  ·exact ⟨Nat.le_trans zdY (zbe b hb).1,(zbe b hb).2⟩
theorem zcY {nid:Nat} {a:AV}:∀ b∈(oVl nid a).2.1.map (·.1),nid<=b∧b<(oVl nid a).2.2:=by intro b hb;cases a<;>first|exact zbe b hb|exact zcz b hb
theorem zcy:∀ {as:List AV} {nid:Nat},∀ b∈(oVs nid as).2.1.map (·.1),nid<=b∧b<(oVs nid as).2.2
 | [],nid=>by simp [oVs]
 | a::as,nid=>fun b hb=>by
  simp only [oVs,List.map_append,List.mem_append] at hb ⊢;rcases hb with hb|hb
  ·exact ⟨(zcY b hb).1,Nat.lt_of_lt_of_le (zcY b hb).2 zcx⟩
  ·exact ⟨Nat.le_trans zeM (zcy b hb).1,(zcy b hb).2⟩
theorem zaS {nid:Nat} {a:AV}:∀ b∈(oRt nid a).2.1.map (·.1),nid<=b∧b<(oRt nid a).2.2:=by intro b hb;cases a<;>first|exact zcy b hb|exact zcY b hb
theorem zhh {F:List AV->Option AV} {avs:List AV} {M:Nat->AO} {nid:Nat} {r:AV×List (Nat×AO)} (h:callC F avs M nid=some r):∀ b∈r.2.map (·.1),nid<=b∧b<nid+16:=by
 simp only [callC] at h;split at h
 case isFalse=>simp at h
 split at h
 case h_2=>simp at h
 split at h
 case isFalse=>simp at h
 rename_i hle;simp only [oJ] at h;subst h;intro b hb;have:=zaS b hb;omega
theorem zhg {F:List AV->Option AV} {avs:List AV} {M:Nat->AO} {nid:Nat} {r:AV×List (Nat×AO)} (h:caP F avs M nid=some r):∀ b∈r.2.map (·.1),nid<=b∧b<nid+16:=by
 simp only [caP] at h;split at h
 case h_2=>simp at h
 split at h
 case h_2=>simp at h
 split at h
 case isFalse=>simp at h
 rename_i hle;simp only [oJ] at h;subst h;intro b hb;have:=zaS b hb;omega
theorem psS {ι:Type} {A:ι->List AV} {rl:ι->List AV} {P:Program} {X:AX} {f:FuncId} {fn:Func} {c:Code} (hX:XOK P X) (hmix:P.follows .mixedOrders=true) (hf:P.funcs[f]?=some fn) (hb:fn.body=some c)
  (h:∀ (i:ι) (w0:World) (G:Nat->Prop),(A i).length<=fn.ntmps∧(rl i).length=fn.results.size∧AW ⟨P,X,fn.ntmps,w0,.pure G⟩ c ⟨eSt (A i),[],0⟩ (fun e st=>(e=.normal∨e=.ret)∧zjG (za P) fn.results.toList st (rl i))) :
  PSd P f (spF A fun i=>rtO (rl i)) :=zni hX hmix hf hb rfl fun w0 G avs r hr=>by obtain ⟨i,rfl,rfl⟩:=zeJ hr;have:=h i w0 G;exact ⟨this.1,rl i,rfl,this.2.1,this.2.2⟩
end Go.AM
namespace Go.AM
open Go
def ze0 (w:World) (G:Nat->Prop):AV->Value->List Nat->Prop
 | .rf cs,x,bl=>∃ blk t vs b1,x=.pointer (some ⟨blk,0,none⟩)∧bl=blk::b1∧w.heap[blk]?=some (.cells (List.toArray vs) t (0,0))∧(∀ y∈vs,y.oneCell'=true)∧OLv w G cs vs b1
 | a,x,bl=>zdB w G a x bl
def zdS (P:Program) (f:FuncId) (F:AV->List AV->Option (AV×AV)):Prop :=∀ (w:World) (G:Nat->Prop) (x0:Value) (args:List Value) (a0:AV) (avs:List AV) (bl:List Nat) (r out:AV),F a0 avs=some (r,out)->(∀ k,G k->k<w.heap.size)->ze0 w G a0 x0 bl->CRL w G avs args ->
  bl.Nodup->(∀ k∈bl,k<w.heap.size∧¬ G k) ->
  Calls P f (x0::args).toArray w fun e w'=>∃ x G' b1 b2,e=.returned x∧zaV w bl w'∧ze0 w' G' out x0 b1∧zjF w' G' r x b2∧(b1++b2).Nodup∧∀ k∈b1++b2,k<w'.heap.size∧(w.heap.size<=k∨k∈bl)
def zaA (nid:Nat):AV->AV×List (Nat×AO)×Nat
 | .rf cs=>(.bp (oLs nid cs).2.2 0,(oLs nid cs).2.1++[((oLs nid cs).2.2,.box (oLs nid cs).1)],(oLs nid cs).2.2+1)
 | a=>oVl nid a
theorem zbJ.congr {w0:World} {bl:Bk} {E E':Env} {w:World} {nid n:Nat} {u:List (Nat×AO)} {bs bs':List Nat} (o:zbJ w0 bl E w nid n u bs E') (h:∀ k,k∈bs↔k∈bs'):zbJ w0 bl E w nid n u bs' E' :=⟨o.step,o.le,o.keys,o.G,fun b base sz k hb hl=>(o.locs b base sz k hb hl).imp id (h k).1⟩
theorem zmh {w0:World} {bl:Bk} {E:Env} {w:World} (hI:Inv w0 bl E w) {nid:Nat} {a:AV} (hn:∀ k,nid<=k->k<(zaA nid a).2.2->¬ E.alive k) {x:Value} {bs:List Nat} (h:ze0 w E.G a x bs) (hs:zgr w0 bl E w bs) (hnd:bs.Nodup) :
  ∃ E',zbJ w0 bl E w nid (zaA nid a).2.2 (zaA nid a).2.1 bs E'∧Rep E' w (zaA nid a).1 x:=by
 by_cases ha:∃ cs,a=.rf cs
 ·obtain ⟨cs,rfl⟩:=ha;simp only [ze0] at h;obtain ⟨blk,t,vs,b1,rfl,rfl,h1,h2,h3⟩:=h;have hnd':=List.nodup_cons.1 hnd;simp only [zaA] at hn ⊢;obtain ⟨E1,o,r⟩:=zbF hI (nid:=nid) (as:=cs) (fun k p q=>hn k p (by omega)) h3 (fun k hk=>hs k (by simp [hk])) hnd'.2;have hna:=o.fresh hn (oLs nid cs).2.2 (Nat.le_refl _) (by omega);have hsp:=o.spare (bs':=[blk]) (fun k hk=>hs k (by simp at hk;simp [hk])) (fun k p q=>by simp at q;subst q;exact hnd'.1 p) blk (by simp);have ho:ObR (E1.upd (oLs nid cs).2.2 0 (some (blk,0,vs.length))) w (oLs nid cs).2.2 (.box (oLs nid cs).1):=by simp only [ObR];refine ⟨by simp [Env.upd],blk,t,vs,by simp [Env.upd],h1,h2,?_⟩;exact r.mono (Env.le_upd fun hh=>absurd hh hna) fun _ _=>rfl
  have st:=StT.adopt o.step.inv (oLs nid cs).2.2 _ 0 (some (blk,0,vs.length)) hna (fun blk' base' sz' e=>by simp only [oJ,pJ] at e;rw [<- e.1];exact hsp) ho;refine ⟨_,(o.trans (n2:=(oLs nid cs).2.2+1) (bs':=[blk]) ⟨st,by omega,fun b hb=>?_,rfl,fun b base sz k hb hl=>?_⟩).congr (by intro k;simp [or_comm]),?_⟩
  ·simp only [List.map_cons,List.map_nil,List.mem_singleton] at hb;omega
  ·by_cases e:b=(oLs nid cs).2.2
   ·subst e;simp only [Env.upd,if_true,oJ,pJ] at hl;exact .inr (by simp [hl.1])
   ·simp only [Env.upd,e,if_false,or_false] at hb hl;exact .inl ⟨hb,hl⟩
  ·simp only [Rep];exact ⟨.inr rfl,by simp [Env.upd],blk,vs.length,by simp [Env.upd],rfl⟩
 ·have e:zaA nid a=oVl nid a:=by cases a<;>first|rfl|exact absurd ⟨_,rfl⟩ ha
  have h2:zdB w E.G a x bs:=by cases a<;>first|exact h|exact absurd ⟨_,rfl⟩ ha
  rw [e] at hn ⊢;exact zeL hI hn h2 hs hnd
def zel (M:Nat->AO):AV->Option (AV×List Nat)
 | .bp b 0=>match M b with
  | .box cs=>match lLs M cs with
   | some (rs,is)=>some (.rf rs,b::is)
   | none=>none
  | _=>none
 | .sl b m s o n=>match lLf M (.sl b m s o n) with
  | some r=>some r
  | none=>some (.any,[])
 | _=>some (.any,[])
theorem zkb {M:Nat->AO} {a r:AV} {ids:List Nat} {E:Env} {w:World} {x:Value} (h:zel M a=some (r,ids)) (hr:Rep E w a x) (hM:zai E w M):∃ bl,ze0 w E.G r x bl∧Cov E ids bl:=by
 have hany:some (AV.any,([]:List Nat))=some (r,ids)->∃ bl,ze0 w E.G r x bl∧Cov E ids bl:=fun e=>by simp only [oJ,pJ] at e;obtain ⟨rfl,rfl⟩:=e;exact ⟨[],by simp only [ze0,zdB,zas,zd];exact ⟨trivial,trivial⟩,Cov.nil⟩
 unfold zel at h;split at h
 ·rename_i b;have ho:=hM b (by simp only [Rep] at hr;exact hr.1);cases hb:M b<;>simp only [hb,reduceCtorEq] at h ho;rename_i cs;cases h2:lLs M cs<;>simp only [h2,reduceCtorEq] at h;rename_i p;obtain ⟨rs,is⟩:=p;simp only [oJ,pJ] at h;obtain ⟨rfl,rfl⟩:=h;simp only [Rep] at hr;obtain ⟨k1,k2,blk,sz,k3,rfl⟩:=hr;simp only [ObR] at ho;obtain ⟨_,blk',t,vs,q1,q2,q3,q4⟩:=ho;rw [k3] at q1;simp only [oJ,pJ] at q1;obtain ⟨rfl,_,rfl⟩:=q1;obtain ⟨b1,p1,p2⟩:=za4 hM h2 q4;refine ⟨blk::b1,by simp only [ze0];exact ⟨blk,t,vs,b1,rfl,rfl,q2,q3,p1⟩,?_⟩;have:Cov E [b] [blk]:=⟨[b],by simp,by simp [k3],by simpa using k1⟩
  exact this.append p2
 ·rename_i b m s o n;cases h2:lLf M (.sl b m s o n)<;>simp only [h2] at h
  ·exact hany h
  ·simp only [oJ] at h;subst h;obtain ⟨bl,p1,p2⟩:=zbZ h2 hr hM;refine ⟨bl,?_,p2⟩;unfold lLf at h2;simp only at h2;split at h2
   ·split at h2
    ·simp only [oJ,pJ] at h2;obtain ⟨rfl,_⟩:=h2;exact p1
    ·simp at h2
   ·simp at h2
 ·exact hany h
theorem OLv.mono {w:World} {G G':Nat->Prop} (hG:∀ k,G k->G' k):∀ {as:List AV} {xs:List Value} {bl:List Nat},OLv w G as xs bl->OLv w G' as xs bl
 | [],[],_,h=>by simpa only [OLv] using h
 | a::as,x::xs,bl,h=>by
  simp only [OLv] at h ⊢;obtain ⟨b1,b2,e,h1,h2⟩:=h;exact ⟨b1,b2,e,h1.mono hG,OLv.mono hG h2⟩
 | [],_::_,_,h=>by simp [OLv] at h
 | _::_,[],_,h=>by simp [OLv] at h
theorem zdB.mono {w:World} {G G':Nat->Prop} (hG:∀ k,G k->G' k) {a:AV} {x:Value} {bl:List Nat} (h:zdB w G a x bl):zdB w G' a x bl:=by
 by_cases hc:∃ cs,a=.agg cs
 ·obtain ⟨cs,rfl⟩:=hc;simp only [zdB] at h ⊢;obtain ⟨vs,h1,h2,h3⟩:=h;exact ⟨vs,h1,h2,OLv.mono hG h3⟩
 ·have h1:zas w G a x bl:=by cases a<;>first|exact h|exact absurd ⟨_,rfl⟩ hc
  have h2:=zas.mono hG h1;cases a<;>first|exact h2|exact absurd ⟨_,rfl⟩ hc
theorem ze0.mono {w:World} {G G':Nat->Prop} (hG:∀ k,G k->G' k) {a:AV} {x:Value} {bl:List Nat} (h:ze0 w G a x bl):ze0 w G' a x bl:=by
 by_cases hc:∃ cs,a=.rf cs
 ·obtain ⟨cs,rfl⟩:=hc;simp only [ze0] at h ⊢;obtain ⟨blk,t,vs,b1,h1,h2,h3,h4,h5⟩:=h;exact ⟨blk,t,vs,b1,h1,h2,h3,h4,OLv.mono hG h5⟩
 ·have h1:zdB w G a x bl:=by cases a<;>first|exact h|exact absurd ⟨_,rfl⟩ hc
  have h2:=zdB.mono hG h1;cases a<;>first|exact h2|exact absurd ⟨_,rfl⟩ hc
theorem ze0.of_le {w:World} {G:Nat->Prop} {a a':AV} {x:Value} {bl:List Nat} (h:ze0 w G a x bl) (he:a'=a∨a'=.any):∃ bl',bl'.Sublist bl∧ze0 w G a' x bl':=by
 rcases he with rfl|rfl
 ·exact ⟨bl,List.Sublist.refl _,h⟩
 ·exact ⟨[],by simp,by simp only [ze0,zdB,zas,zd];exact ⟨trivial,trivial⟩⟩
def ze1 (T:TypeId->Option TD) (rv:List ResultVar) (st:St) (a0:AV) (r:List AV) (out:AV):Prop :=∃ as rs ids o is,aRs T st rv=some as∧lVs (zb st.m) as=some (rs,ids)∧(zel (zb st.m) a0=some (o,is)∨(o=.any∧is=[]))∧(is++ids).Nodup∧zbx rs r∧(out=o∨out=.any)
theorem zog {u:List (Nat×AO)} {b:Nat}:zbP (fun _=>.dead) u b=zb u b:=by
 induction u with
 | nil=>rfl
 | cons p r ih=>obtain ⟨k,o⟩:=p;simp only [zbP,zb,ih]
theorem zkk {a:AV} {avs:List AV} {t:Nat}:zn (eSt (a::avs)) t=((a::avs)[t]?).getD .any:=by rw [eSt,zdn];simp
theorem zfX {P:Program} {X:AX} {f:FuncId} {fn:Func} {c:Code} {N:Nat} (hf:P.funcs[f]?=some fn) (hb:fn.body=some c) (hN:fn.ntmps=N) {w:World} {G:Nat->Prop} {x0:Value} {args:List Value} {avs:List AV} {bl:List Nat} {r out:AV} (hargs:CRL w G avs args)
  (hbl:∀ k∈bl,k<w.heap.size∧¬ G k) {E1:Env} {a1:AV} {u1:List (Nat×AO)} {n1:Nat} (hI:Inv w ⟨bl,Env.start G,0⟩ (Env.start G) w) (o:zbJ w ⟨bl,Env.start G,0⟩ (Env.start G) w 0 n1 u1 bl E1) (r1:Rep E1 w a1 x0) (hlen:avs.length+1<=N) {rl:List AV} (hrl:rtO rl=r)
  (haw:AW ⟨P,X,N,w,⟨bl,E1,n1⟩⟩ c ⟨eSt (a1::avs),u1,n1⟩ (fun e st=>(e=.normal∨e=.ret)∧ze1 (za P) fn.results.toList st a1 rl out)) :
  Calls P f (x0::args).toArray w fun e w'=>∃ x G' b1 b2,e=.returned x∧zaV w bl w'∧ze0 w' G' out x0 b1∧zjF w' G' r x b2∧(b1++b2).Nodup∧∀ k∈b1++b2,k<w'.heap.size∧(w.heap.size<=k∨k∈bl):=by
 have hal:args.length=avs.length:=by
  have:∀ {as:List AV} {xs:List Value},CRL w G as xs->xs.length=as.length:=by
   intro as;induction as with
   | nil=>intro xs h;cases xs<;>simp [CRL] at h ⊢
   | cons a r ih=>intro xs h;cases xs<;>simp only [CRL] at h ⊢;simp [ih h.2]
  exact this hargs
 have hM1:zai E1 w (zb u1):=fun b hb=>by have:=o.step.mem hI (M:=fun _=>.dead) (fun b hb=>hb.elim) b hb;rwa [zog] at this
 have hlow:∀ k,E1.alive k->k<n1:=fun k hk=>by
  rcases o.step.alive k hk with h1|h1
  ·exact h1.elim
  ·exact (o.keys k h1).2
 have hI1:Inv w ⟨bl,E1,n1⟩ E1 w:=⟨o.step.inv.frame,Env.Le.refl _,hlow,fun k hk=>.inl hk,o.step.inv.good,o.step.inv.locs,o.step.inv.apart⟩
 have hsat:Sat N w ⟨bl,E1,n1⟩ { tmps:=(x0::args).toArray++Array.replicate (fn.ntmps - (x0::args).toArray.size) undef,defers:=[] } w ⟨eSt (a1::avs),u1,n1⟩:=by
  refine ⟨E1,⟨rfl,by simp [hN];omega,hI1,hM1,fun t=>?_⟩,hlow,fun k hk=>?_⟩
  ·rw [zkk];cases t with
   | zero =>
    have:((x0::args).toArray++Array.replicate (fn.ntmps - (x0::args).toArray.size) undef).getD 0 undef=x0:=by rw [Array.getD_eq_getD_getElem?,Array.getElem?_append_left (by simp)];simp
    simp only [this];exact r1
   | succ t =>
    simp only [List.getElem?_cons_succ];cases ht:avs[t]? with
    | none=>simp [Rep,zd]
    | some a =>
     obtain ⟨x,h1,h2⟩:=hargs.get ht;have hlt:=(List.getElem?_eq_some_iff.1 ht).1;rw [Array.getD_eq_getD_getElem?,Array.getElem?_append_left (by simp;omega)];have:(x0::args).toArray[t+1]?=some x:=by simpa using h1
     rw [this];exact Rep.of_c (E:=E1) (by rw [o.G];exact h2)
  ·have:k∈u1.map (·.1):=by
    rcases zfr (m:=u1) (t:=k) with e|⟨p,hp,e,_⟩
    ·exact absurd e hk
    ·exact List.mem_map.2 ⟨p,hp,e⟩
   exact (o.keys k this).2
 refine calls_of_wp hf hb (wp_mono (haw _ _ hsat) fun e a w' ⟨st,⟨he,as,rs,ids,oa,is,h1,h2,h2',h3,h4,h5⟩,E',hs,_,_⟩=>?_);obtain ⟨vs,k1,k2⟩:=zcJ hs h1;have hrep0:Rep E' w' a1 x0:=r1.mono hs.inv.gin fun k hk=>hs.inv.frame.old k (o.step.inv.good k hk) fun hkb=>(hbl k hkb).2 (by rw [o.G] at hk;exact hk);obtain ⟨bl1,j1,j2⟩:∃ bl,ze0 w' E'.G oa x0 bl∧Cov E' is bl:=by
  rcases h2' with h2'|⟨rfl,rfl⟩
  ·exact zkb h2' hrep0 hs.mem
  ·exact ⟨[],by simp only [ze0,zdB,zas,zd];exact ⟨trivial,trivial⟩,Cov.nil⟩
 obtain ⟨bl2,k3,k4⟩:=zc3 hs.mem h2 k2;have hnd2:(bl1++bl2).Nodup:=(j2.append k4).nodup hs.inv h3;obtain ⟨n1,n2,n3⟩:=List.nodup_append.1 hnd2;obtain ⟨bl1',q3,q4⟩:=j1.of_le h5;obtain ⟨bl2',q1,q2⟩:=h4.vals k3 n2;have hblk:∀ k∈bl1++bl2,k<w'.heap.size∧(w.heap.size<=k∨k∈bl):=fun k hk=>by obtain ⟨b,_,base,sz,hb1,hb2⟩:=(j2.append k4).mem hk;have:=hs.inv.locs b k base sz hb1 hb2;exact ⟨this.1,this.2.2⟩
 let G':Nat->Prop:=fun k=>E'.G k∨(k∈bl2∧k ∉ bl2')
 have hret:zaY w' G' rl vs bl2':=q2 G' (fun k hk=>.inl hk) fun k hk hk'=>.inr ⟨hk,hk'⟩;have hvl:vs.length=rl.length:=by
  have:∀ {as:List AV} {xs:List Value} {b:List Nat},zaY w' G' as xs b->xs.length=as.length:=by
   intro as;induction as with
   | nil=>intro xs b h;cases xs<;>simp [zaY] at h ⊢
   | cons a r ih=>intro xs b h;cases xs<;>simp only [zaY] at h<;>first|exact h.elim|(obtain ⟨_,b2,_,_,h2⟩:=h;simp [ih h2])
  exact this hret
 have hrun:(results fn a.tmps).run P w'=.ok (if h:vs.toArray.size=1 then vs.toArray[0] else .tuple vs.toArray) w':=by
  unfold results;rw [Sem.run_bind,<- Array.toArray_toList (xs:=fn.results),List.mapM_toArray];simp only [Sem.run_map];have:(List.mapM (fun x=>match x with|.tmp t=>pure (a.tmps.getD t undef)|.cell b t=>do loadVar t (<- asAddr (a.tmps.getD b undef))) fn.results.toList:Sem (List Value)).run P w'=.ok vs w':=k1
  erw [this]
  rfl
 have hnt:=zcC h2 h4;have hfin:∃ x G' b1 b2,Ending.returned (if h:vs.toArray.size=1 then vs.toArray[0] else .tuple vs.toArray)=Ending.returned x∧zaV w bl w'∧ze0 w' G' out x0 b1∧zjF w' G' r x b2∧(b1++b2).Nodup∧∀ k∈b1++b2,k<w'.heap.size∧(w.heap.size<=k∨k∈bl):=by
  refine ⟨_,G',bl1',bl2',rfl,hs.inv.frame,ze0.mono (fun k hk=>.inl hk) q4,?_,?_,fun k hk=>hblk k ?_⟩
  ·subst hrl;match rl,vs,hvl,hret,hnt with
   | [],[],_,hret,_=>exact ⟨[],by simp,hret⟩
   | [r],[v],_,hret,hnt =>
    simp only [zaY] at hret;obtain ⟨b1,b2,e,h5,rfl⟩:=hret;simp only [List.append_nil] at e;subst e;simp only [List.size_toArray,List.length_cons,List.length_nil,Nat.zero_add,dite_true,List.getElem_toArray,List.getElem_cons_zero,rtO];have hn':=hnt r (by simp);cases r<;>first|exact h5|exact absurd rfl (hn' _)
   | r1::r2::rl,v1::v2::vs,_,hret,_ =>simp only [rtO,zjF];exact ⟨v1::v2::vs,by simp,hret⟩
  ·exact List.nodup_append.2 ⟨q3.nodup n1,q1.nodup n2,fun x hx y hy=>n3 x (q3.subset hx) y (q1.subset hy)⟩
  ·rcases List.mem_append.1 hk with hk|hk
   ·exact List.mem_append.2 (.inl (q3.subset hk))
   ·exact List.mem_append.2 (.inr (q1.subset hk))
 rcases he with rfl|rfl
 ·exact ⟨hs.defers,_,hrun,hfin⟩
 ·exact ⟨hs.defers,_,hrun,hfin⟩
theorem znE {P:Program} {f:FuncId} {fn:Func} {c:Code} {N:Nat} {F:AV->List AV->Option (AV×AV)} (hf:P.funcs[f]?=some fn) (hb:fn.body=some c) (hN:fn.ntmps=N)
  (h:∀ (w0:World) (bl:List Nat) (E:Env) (a0:AV) (avs:List AV) (r out:AV),F a0 avs=some (r,out)->avs.length+1<=N∧∃ rl,rtO rl=r∧rl.length=fn.results.size∧∃ X,AW ⟨P,X,N,w0,⟨bl,E,(zaA 0 a0).2.2⟩⟩ c ⟨eSt ((zaA 0 a0).1::avs),(zaA 0 a0).2.1,(zaA 0 a0).2.2⟩ (fun e st=>(e=.normal∨e=.ret)∧ze1 (za P) fn.results.toList st (zaA 0 a0).1 rl out)) :
  zdS P f F:=by
 intro w G x0 args a0 avs bl r out hF hG h0 hargs hnd hbl;have hI:Inv w ⟨bl,Env.start G,0⟩ (Env.start G) w:=⟨⟨rfl,rfl,Nat.le_refl _,fun _ _ _=>rfl⟩,Env.Le.refl _,fun _ hb=>hb.elim,fun _ h=>.inl h,hG,fun b _ _ _ hb=>hb.elim,fun b _ _ _ _ _ _ hb=>hb.elim⟩
 obtain ⟨E1,o,r1⟩:=zmh hI (nid:=0) (a:=a0) (fun k _ _ hk=>hk.elim) h0 (fun k hk=>⟨(hbl k hk).1,(hbl k hk).2,.inr hk,fun b _ _ hb=>hb.elim⟩) hnd;obtain ⟨hlen,rl,hrl,hrlen,X,haw⟩:=h w bl E1 a0 avs r out hF;exact zfX hf hb hN hargs hbl hI o r1 hlen hrl haw
def zca (s n:Nat):List (List AV):=List.replicate n (List.replicate s .any)
theorem zml {P:Program} {f:FuncId} {fn:Func} {c:Code} {N:Nat} {F:AV->List AV->Option (AV×AV)} (hf:P.funcs[f]?=some fn) (hb:fn.body=some c) (hN:fn.ntmps=N)
  (h:∀ (w0:World) (bl:List Nat) (E:Env) (a0:AV) (avs:List AV) (r out:AV),F a0 avs=some (r,out)->avs.length+1<=N∧∃ s xs,a0=.ow s xs∧∃ rl,rtO rl=r∧rl.length=fn.results.size∧∃ X,∀ m,AW ⟨P,X,N,w0,⟨bl,E,1⟩⟩ c ⟨eSt (.sl 0 1 s 0 xs.length::avs),[(0,.vec 1 s true (xs++zca s m))],1⟩ (fun e st=>(e=.normal∨e=.ret)∧ze1 (za P) fn.results.toList st (.sl 0 1 s 0 xs.length) rl out)) :
  zdS P f F:=by
 intro w G x0 args a0 avs bl r out hF hG h0 hargs hnd hbl;have hI:Inv w ⟨bl,Env.start G,0⟩ (Env.start G) w:=⟨⟨rfl,rfl,Nat.le_refl _,fun _ _ _=>rfl⟩,Env.Le.refl _,fun _ hb=>hb.elim,fun _ h=>.inl h,hG,fun b _ _ _ hb=>hb.elim,fun b _ _ _ _ _ _ hb=>hb.elim⟩
 have hop:∀ s xs,a0=.ow s xs->∃ E1 m,zbJ w ⟨bl,Env.start G,0⟩ (Env.start G) w 0 1 [(0,.vec 1 s true (xs++zca s m))] bl E1∧Rep E1 w (.sl 0 1 s 0 xs.length) x0:=by
  rintro s xs rfl;simp only [ze0,zdB,zas] at h0;obtain ⟨p,cc,rfl,h2,h3,h4⟩:=h0;have hna:¬ (Env.start G).alive 0:=fun hh=>hh.elim;rcases h4 with ⟨rfl,rfl⟩|⟨blk,base,arr,t,rfl,rfl,k3,k4,k4',k5⟩
  ·have hx:xs=[]:=List.length_eq_zero_iff.1 (by omega);subst hx;refine ⟨(Env.start G).upd 0 1 none,0,⟨by simpa [zca] using StT.none hI 0 s hna true,by omega,by simp,rfl,fun b base sz k hb hl=>?_⟩,?_⟩
   ·by_cases e:b=0
    ·subst e;simp [Env.upd] at hl
    ·simp only [Env.upd,e,if_false,or_false] at hb hl;exact .inl ⟨hb,hl⟩
   ·simp only [Rep];exact ⟨.inr rfl,Nat.le_refl _,by simp [Env.upd],p,0,rfl,by simp,h3,fun _=>by simp [Env.upd,zcd]⟩
  ·have hlen:(xs++zca s (cc - xs.length)).length=cc:=by simp [zca];omega
   have hb0:=hbl blk (by simp);refine ⟨(Env.start G).upd 0 1 (some (blk,base,base+cc*s)),cc - xs.length,⟨StT.adopt hI 0 _ 1 _ hna (fun blk' base' sz' e=>?_) ?_,by omega,by simp,rfl,fun b base' sz k hb hl=>?_⟩,?_⟩
   ·simp only [oJ,pJ] at e;obtain ⟨rfl,_,_⟩:=e;exact ⟨hb0.1,hb0.2,.inr (by simp),fun b _ _ hb=>hb.elim⟩
   ·simp only [ObR,Env.upd,if_true];refine ⟨trivial,Nat.le_refl _,arr,t,k3,k4,k4',by rw [hlen];exact Nat.le_refl _,by rw [hlen];simp,CRows.cons_left k5 (CRows.of_get fun i e he=>?_)⟩;have hi:i<cc - xs.length:=by have:=(List.getElem?_eq_some_iff.1 he).1;simpa [zca] using this
    have he':e=List.replicate s .any:=by rw [zca,List.getElem?_replicate,if_pos hi] at he;simpa using he.symm
    subst he';refine ⟨by simp,CCs.of_get fun j a ha=>?_⟩;have hj:j<s:=by have:=(List.getElem?_eq_some_iff.1 ha).1;simpa using this
    have ha':a=.any:=by rw [List.getElem?_replicate,if_pos hj] at ha;simpa using ha.symm
    subst ha';have h5:(xs.length+i+1)*s<=cc*s:=Nat.mul_le_mul_right s (by omega);have h6:(xs.length+i+1)*s=xs.length*s+i*s+s:=by rw [Nat.add_mul,Nat.add_mul];omega
    have hk:base+xs.length*s+i*s+j<arr.size:=by omega
    refine ⟨arr[base+xs.length*s+i*s+j],?_,k4' _ (Array.mem_toList_iff.2 (Array.getElem_mem _)),by simp [zd]⟩;rw [cell_of_row _ _ _ arr t _ k3,Array.getElem?_eq_getElem hk]
   ·by_cases e:b=0
    ·subst e;simp only [Env.upd,if_true,oJ,pJ] at hl;exact .inr (by simp [hl.1])
    ·simp only [Env.upd,e,if_false,or_false] at hb hl;exact .inl ⟨hb,hl⟩
   ·simp only [Rep];exact ⟨.inr rfl,Nat.le_refl _,by simp [Env.upd],_,cc,rfl,h2,fun e=>by simp at e,fun _=>by simp [Env.upd,zcd]⟩
 obtain ⟨E',m',_⟩:∃ E':Env,∃ m':Nat,True:=⟨Env.start G,0,trivial⟩
 have h1:=h w bl E' a0 avs r out hF;obtain ⟨hlen,s,xs,rfl,_⟩:=h1;obtain ⟨E1,m,o,r1⟩:=hop s xs rfl;obtain ⟨hlen,s',xs',e,rl,hrl,hrlen,X,haw⟩:=h w bl E1 _ avs r out hF;simp only [AV.ow.injEq] at e;obtain ⟨rfl,rfl⟩:=e;exact zfX hf hb hN hargs hbl hI o r1 hlen hrl (haw m)
theorem StT.over {w0:World} {bl:Bk} {E E1 E2:Env} {w w1 w2:World} {u u':List (Nat×AO)} (s:StT w0 bl E w u E1 w1) (t:StT w0 bl E1 w1 u' E2 w2)
  (hd:∀ b o,(b,o)∈u->b∈u'.map (·.1)->o=.dead∧E.alive b∧E1.loc b=E.loc b):StT w0 bl E w (u'++u) E2 w2 where
 le:=s.le.trans t.le
 inv:=t.inv
 size:=Nat.le_trans s.size t.size
 keep:=fun k hk hn=>by
  rw [t.keep k (Nat.lt_of_lt_of_le hk s.size) fun b base sz hb hm hl=>?_]
  ·exact s.keep k hk fun b base sz hb hm=>hn b base sz hb (by simp only [List.map_append,List.mem_append];exact .inr hm)
  ·by_cases h2:b∈u.map (·.1)
   ·obtain ⟨⟨b',o⟩,h3,h4⟩:=List.mem_map.1 h2;simp only at h4;subst h4;obtain ⟨_,h5,h6⟩:=hd _ _ h3 hm;rw [h6] at hl;exact hn _ base sz h5 (by simp only [List.map_append,List.mem_append];exact .inl hm) hl
   ·rcases s.alive b hb with h1|h1
    ·rw [(s.same b h1 h2).2] at hl;exact hn b base sz h1 (by simp only [List.map_append,List.mem_append];exact .inl hm) hl
    ·exact h2 h1
 alive:=fun b hb=>by
  simp only [List.map_append,List.mem_append];rcases t.alive b hb with h1|h1
  ·rcases s.alive b h1 with h2|h2
   ·exact .inl h2
   ·exact .inr (.inr h2)
  ·exact .inr (.inl h1)
 same:=fun b hb hn=>by simp only [List.map_append,List.mem_append,not_or] at hn;have h1:=s.same b hb hn.2;have h2:=t.same b (s.le.alive b hb) hn.1;exact ⟨h2.1.trans h1.1,h2.2.trans h1.2⟩
 objs:=fun b o ho=>by
  rcases List.mem_append.1 ho with ho|ho
  ·exact t.objs b o ho
  ·have h1:=s.objs b o ho;refine ⟨t.le.alive b h1.1,?_⟩;by_cases h2:b∈u'.map (·.1)
   ·rw [(hd b o ho h2).1];trivial
   ·exact t.obj s.inv h1.1 h2 h1.2
def Env.lose (E:Env) (lost:List Nat):Env:={ E with ver:=fun b=>if b∈lost then E.ver b+1 else E.ver b,loc:=fun b=>if b∈lost then none else E.loc b }
theorem StT.lose {w0:World} {bl:Bk} {E:Env} {w w':World} (h:Inv w0 bl E w) {bs lost kept:List Nat} (hf:zaV w bs w') (hal:∀ b∈kept++lost,E.alive b) (hv:∀ b∈lost,1<=E.ver b)
  (hb:∀ k∈bs,∃ b∈kept++lost,∃ base sz,E.loc b=some (k,base,sz)):StT w0 bl E w ((kept++lost).map fun b=>(b,.dead)) (E.lose lost) w':=by
 have hkeys:((kept++lost).map fun b=>((b,.dead):Nat×AO)).map (·.1)=kept++lost:=by simp [Function.comp_def]
 have hbs:∀ k∈bs,k<w.heap.size∧¬ E.G k∧(w0.heap.size<=k∨k∈bl.l):=fun k hk=>by obtain ⟨b,h1,base,sz,h2⟩:=hb k hk;exact h.locs b k base sz (hal b h1) h2
 have hle:E.Le (E.lose lost):=⟨fun _ hk=>hk,fun _ hb=>hb,fun b _=>by
  by_cases e:b∈lost
  ·exact .inr ⟨hv b e,by simp [Env.lose,e]⟩
  ·exact .inl (by simp [Env.lose,e])⟩
 refine ⟨hle,⟨⟨hf.os.trans h.frame.os,hf.out.trans h.frame.out,Nat.le_trans h.frame.size hf.size,fun k h1 h2=>?_⟩,h.gin.trans hle,h.low,h.gout,fun k hk=>Nat.lt_of_lt_of_le (h.good k hk) hf.size,fun b blk base sz h1 h2=>?_,fun b b' blk base sz base' sz' h1 h2 h3 h4=>?_⟩,hf.size,fun k hk hn=>?_,fun _ hb=>.inl hb,fun b _ hn=>?_,fun b o ho=>?_⟩
 ·rw [hf.old k (Nat.lt_of_lt_of_le h1 h.frame.size) fun hk=>?_]
  ·exact h.frame.old k h1 h2
  ·rcases (hbs k hk).2.2 with h3|h3
   ·omega
   ·exact h2 h3
 ·simp only [Env.lose] at h2;split at h2
  ·simp at h2
  ·have:=h.locs b blk base sz h1 h2;exact ⟨Nat.lt_of_lt_of_le this.1 hf.size,this.2⟩
 ·simp only [Env.lose] at h3 h4;split at h3
  ·simp at h3
  ·split at h4
   ·simp at h4
   ·exact h.apart b b' blk base sz base' sz' h1 h2 h3 h4
 ·refine hf.old k hk fun hkb=>?_;obtain ⟨b,h1,base,sz,h2⟩:=hb k hkb;exact hn b base sz (hal b h1) (by rw [hkeys];exact h1) h2
 ·rw [hkeys] at hn;have:b ∉ lost:=fun hh=>hn (by simp [hh]);simp [Env.lose,this]
 ·simp only [List.mem_map,pJ] at ho;obtain ⟨b',h1,rfl,rfl⟩:=ho;exact ⟨hal _ h1,trivial⟩
def zpJ:AV->Bool
 | .v (.slice none 0 0)=>true
 | _=>false
theorem zpI {a:AV} (h:zpJ a=true):a=.v (.slice none 0 0):=by
 unfold zpJ at h;split at h
 ·rfl
 ·simp at h
def nrm (sz:Nat->Nat):Nat->List AV->List AV
 | _,[]=>[]
 | i,a::r=>(if zpJ a=true then .ow (sz i) [] else a)::nrm sz (i+1) r
theorem znA {w:World} {G:Nat->Prop} {sz:Nat->Nat}:∀ {as:List AV} {i:Nat} {xs:List Value} {bl:List Nat},OLv w G as xs bl->OLv w G (nrm sz i as) xs bl
 | [],_,[],_,h=>by simpa only [OLv,nrm] using h
 | a::as,i,x::xs,bl,h=>by
  simp only [OLv,nrm] at h ⊢;obtain ⟨b1,b2,rfl,h1,h2⟩:=h;refine ⟨b1,b2,rfl,?_,znA h2⟩;split
  ·rename_i hn;have:=zpI hn;subst this;simp only [zas,zd] at h1 ⊢;obtain ⟨rfl,rfl⟩:=h1;exact ⟨none,0,rfl,by simp,fun _=>rfl,.inl ⟨rfl,rfl⟩⟩
  ·exact h1
 | [],_,_::_,_,h=>by simp [OLv] at h
 | _::_,_,[],_,h=>by simp [OLv] at h
def zaM (keep:Bool) (sz:Nat->Nat) (M:Nat->AO):AV->Option (AV×List Nat×List Nat)
 | .bp b 0=>match M b with
  | .box cs=>match lLs M cs with
   | some (rs,is)=>some (.rf (nrm sz 0 rs),[b],is)
   | none=>none
  | _=>none
 | .sl b m s o n=>match M b with
  | .vec m' s' _ xs=>if m=m'∧s=s'∧o+n<=xs.length then some (.ow s ((xs.drop o).take n),if keep then ([b],[]) else ([],[b])) else none
  | _=>none
 | .v (.slice none 0 0)=>some (.ow (sz 0) [],[],[])
 | .agg cs=>match lLs M cs with
  | some (rs,is)=>some (.agg (nrm sz 0 rs),[],is)
  | none=>none
 | _=>none
def zct (keep:Bool) (M:Nat->AO) (nid:Nat):AV->AV->Option (List (Nat×AO)×Nat)
 | .bp b 0,.rf cs=>match M b with
  | .box cs0=>if cs.length=cs0.length then some ((b,.box (oLs nid cs).1)::(oLs nid cs).2.1,(oLs nid cs).2.2) else none
  | _=>none
 | .sl _ _ _ _ _,.any=>if keep=false then some ([],nid) else none
 | .v _,_=>some ([],nid)
 | .agg _,.any=>some ([],nid)
 | _,_=>none
def callM (keep:Bool) (sz:Nat->Nat) (F:AV->List AV->Option (AV×AV)) (avs:List AV) (M:Nat->AO) (nid:Nat):Option (AV×List (Nat×AO)) :=
 match avs with
 | []=>none
 | a0::rest=>match zaM keep sz M a0 with
  | none=>none
  | some (h0,kept,lost)=>match zah (fun b=>if b∈kept++lost then .dead else M b) rest with
   | none=>none
   | some rs=>match F h0 rs with
    | none=>none
    | some (r,out)=>match zct keep M nid a0 out with
     | none=>none
     | some (u,n1)=>if (kept++lost).Nodup∧(oRt n1 r).2.2<=nid+16 then
       some ((oRt n1 r).1,(oRt n1 r).2.1++(u++(kept++lost).map fun b=>(b,.dead))) else none
theorem zek {M:Nat->AO} {a r:AV} {ids:List Nat} {E:Env} {w:World} {x:Value} (h:lLf M a=some (r,ids)) (hr:Rep E w a x):∀ b∈ids,E.alive b∧1<=E.ver b:=by
 unfold lLf at h;cases a<;>simp only [reduceCtorEq] at h
 case sl b m s o n =>
  simp only [Rep] at hr;split at h
  ·split at h
   ·simp only [oJ,pJ] at h;obtain ⟨_,rfl⟩:=h;intro b' hb';simp only [List.mem_singleton] at hb';subst hb';exact ⟨hr.1,by have:=hr.2.1;have:=hr.2.2.1;omega⟩
   ·simp at h
  ·simp at h
 case mp b m =>
  simp only [Rep] at hr;split at h
  ·split at h
   ·simp only [oJ,pJ] at h;obtain ⟨_,rfl⟩:=h;intro b' hb';simp only [List.mem_singleton] at hb';subst hb';exact ⟨hr.1,by have:=hr.2.1;have:=hr.2.2.1;omega⟩
   ·simp at h
  ·simp at h
 all_goals
  simp only [oJ,pJ] at h;obtain ⟨_,rfl⟩:=h;simp
theorem zbN {M:Nat->AO} {E:Env} {w:World}:∀ {as rs:List AV} {ids:List Nat} {xs:List Value},lLs M as=some (rs,ids)->RepL E w as xs->∀ b∈ids,E.alive b∧1<=E.ver b
 | [],rs,ids,[],h,_=>by
  simp only [lLs,oJ,pJ] at h;obtain ⟨_,rfl⟩:=h;simp
 | a::as,rs,ids,x::xs,h,hr=>by
  simp only [RepL] at hr;simp only [lLs] at h;cases h1:lLf M a<;>simp only [h1,reduceCtorEq] at h;rename_i p;obtain ⟨r,i⟩:=p;cases h2:lLs M as<;>simp only [h2,reduceCtorEq] at h;rename_i p;obtain ⟨rs',is⟩:=p;simp only [oJ,pJ] at h;obtain ⟨_,rfl⟩:=h;intro b hb;rcases List.mem_append.1 hb with hb|hb
  ·exact zek h1 hr.1 b hb
  ·exact zbN h2 hr.2 b hb
 | [],_,_,_::_,_,hr=>by simp [RepL] at hr
 | _::_,_,_,[],_,hr=>by simp [RepL] at hr
theorem zmq {keep:Bool} {sz:Nat->Nat} {M:Nat->AO} {a r:AV} {kept lost:List Nat} {E:Env} {w:World} {x:Value} (h:zaM keep sz M a=some (r,kept,lost)) (hr:Rep E w a x) (hM:zai E w M) :
  ∃ bl,ze0 w E.G r x bl∧Cov E (kept++lost) bl∧(∀ b∈kept++lost,E.alive b)∧∀ b∈lost,1<=E.ver b:=by
 unfold zaM at h;split at h
 ·rename_i b;have ho:=hM b (by simp only [Rep] at hr;exact hr.1);cases hb:M b<;>simp only [hb,reduceCtorEq] at h ho;rename_i cs;cases h2:lLs M cs<;>simp only [h2,reduceCtorEq] at h;rename_i p;obtain ⟨rs,is⟩:=p;simp only [oJ,pJ] at h;obtain ⟨rfl,rfl,rfl⟩:=h;simp only [Rep] at hr;obtain ⟨k1,k2,blk,sz,k3,rfl⟩:=hr;simp only [ObR] at ho;obtain ⟨_,blk',t,vs,q1,q2,q3,q4⟩:=ho;rw [k3] at q1;simp only [oJ,pJ] at q1;obtain ⟨rfl,_,rfl⟩:=q1;obtain ⟨b1,p1,p2⟩:=za4 hM h2 q4;have hv:=zbN h2 q4;refine ⟨blk::b1,by simp only [ze0];exact ⟨blk,t,vs,b1,rfl,rfl,q2,q3,znA p1⟩,?_,fun c hc=>?_,fun c hc=>(hv c hc).2⟩
  ·have:Cov E [b] [blk]:=⟨[b],by simp,by simp [k3],by simpa using k1⟩
   exact this.append p2
  ·rcases List.mem_append.1 hc with hc|hc
   ·simp at hc;subst hc;exact k1
   ·exact (hv c hc).1
 ·rename_i b m s o n;cases h2:lLf M (.sl b m s o n) with
  | none =>
   exfalso;simp only [lLf] at h2;split at h
   ·rename_i hb;simp only [hb] at h2;split at h
    ·rename_i hm;rw [if_pos hm] at h2;simp at h2
    ·simp at h
   ·simp at h
  | some p =>
   obtain ⟨r',ids⟩:=p;have hids:r'=r∧ids=[b]∧((kept=[b]∧lost=[])∨(kept=[]∧lost=[b])):=by
    simp only [lLf] at h2;split at h
    ·rename_i hb;simp only [hb] at h2;split at h
     ·rename_i hm;rw [if_pos hm] at h2;simp only [oJ,pJ] at h h2;refine ⟨h2.1.symm.trans h.1,h2.2.symm,?_⟩;cases keep
      ·right;simpa [eq_comm] using h.2
      ·left;simpa [eq_comm] using h.2
     ·simp at h
    ·simp at h
   obtain ⟨rfl,rfl,hkl⟩:=hids;obtain ⟨bl,p1,p2⟩:=zbZ h2 hr hM;have hv:=zek h2 hr b (by simp);have hrow:∃ xs,r'=.ow s xs:=by
    simp only [lLf] at h2;split at h2
    ·split at h2
     ·simp only [oJ,pJ] at h2;exact ⟨_,h2.1.symm⟩
     ·simp at h2
    ·simp at h2
   obtain ⟨xs,rfl⟩:=hrow;refine ⟨bl,p1,?_,?_,?_⟩
   ·rcases hkl with ⟨rfl,rfl⟩|⟨rfl,rfl⟩<;>simpa using p2
   ·rcases hkl with ⟨rfl,rfl⟩|⟨rfl,rfl⟩<;>simpa using hv.1
   ·rcases hkl with ⟨rfl,rfl⟩|⟨rfl,rfl⟩<;>simp [hv.2]
 ·simp only [oJ,pJ] at h;obtain ⟨rfl,rfl,rfl⟩:=h;simp only [Rep,zd] at hr;subst hr;exact ⟨[],by simp only [ze0,zdB,zas];exact ⟨none,0,rfl,by simp,fun _=>rfl,.inl ⟨rfl,trivial⟩⟩,Cov.nil,by simp,by simp⟩
 ·rename_i cs;cases h2:lLs M cs<;>simp only [h2,reduceCtorEq] at h;rename_i p;obtain ⟨rs,is⟩:=p;simp only [oJ,pJ] at h;obtain ⟨rfl,rfl,rfl⟩:=h;simp only [Rep] at hr;obtain ⟨vs,rfl,q1,q2⟩:=hr;obtain ⟨b1,p1,p2⟩:=za4 hM h2 q2;have hv:=zbN h2 q2;exact ⟨b1,by simp only [ze0,zdB];exact ⟨vs,rfl,q1,znA p1⟩,by simpa using p2,fun c hc=>(hv c (by simpa using hc)).1,fun c hc=>(hv c hc).2⟩
 ·simp at h
def AV.flatO:AV->Prop
 | .rf cs=>∀ a∈cs,a.flat1
 | _=>True
theorem OLv.length {w:World} {G:Nat->Prop}:∀ {as:List AV} {xs:List Value} {bl:List Nat},OLv w G as xs bl->as.length=xs.length
 | [],[],_,_=>rfl
 | a::as,x::xs,bl,h=>by
  simp only [OLv] at h;obtain ⟨_,_,_,_,h2⟩:=h;simp [OLv.length h2]
 | [],_::_,_,h=>by simp [OLv] at h
 | _::_,[],_,h=>by simp [OLv] at h
theorem zof {keep:Bool} {sz:Nat->Nat} {M:Nat->AO} {y:Value} {r:AV} {kept lost:List Nat} (h:zaM keep sz M (.v y)=some (r,kept,lost)):kept=[]∧lost=[]:=by
 unfold zaM at h;split at h
 ·rename_i e;simp at e
 ·rename_i e;simp at e
 ·simp only [oJ,pJ] at h;exact ⟨h.2.1.symm,h.2.2.symm⟩
 ·rename_i e;simp at e
 ·simp at h
theorem zkj {keep:Bool} {sz:Nat->Nat} {M:Nat->AO} {cs:List AV} {r:AV} {kept lost:List Nat} (h:zaM keep sz M (.agg cs)=some (r,kept,lost)):kept=[]:=by
 simp only [zaM] at h;split at h
 ·simp only [oJ,pJ] at h;exact h.2.1.symm
 ·simp at h
theorem zmp {sz:Nat->Nat} {M:Nat->AO} {b m s o n:Nat} {r:AV} {kept lost:List Nat} (h:zaM false sz M (.sl b m s o n)=some (r,kept,lost)):kept=[]:=by
 simp only [zaM] at h;split at h
 ·split at h
  ·simp at h;exact h.2.1
  ·simp at h
 ·simp at h
theorem zmr {keep:Bool} {sz:Nat->Nat} {M:Nat->AO} {b:Nat} {r:AV} {kept lost:List Nat} (h:zaM keep sz M (.bp b 0)=some (r,kept,lost)):kept=[b]:=by
 simp only [zaM] at h;split at h
 ·split at h
  ·simp at h;exact h.2.1.symm
  ·simp at h
 ·simp at h
theorem zdS.callM {P:Program} {f:FuncId} {F:AV->List AV->Option (AV×AV)} (h:zdS P f F) (hfl:∀ a0 avs r out,F a0 avs=some (r,out)->r.flat∧out.flatO) {keep:Bool} {sz:Nat->Nat}:zbb P f (callM keep sz F):=by
 intro avs M nid av u hc w0 bl E w args hr hM hI hnid;obtain ⟨args⟩:=args;cases avs with
 | nil=>simp [AM.callM] at hc
 | cons a0 rest =>
 cases args with
 | nil=>simp [RepL] at hr
 | cons x0 xs =>
 simp only [RepL] at hr;obtain ⟨hr0,hrr⟩:=hr;simp only [AM.callM] at hc;cases hg:zaM keep sz M a0<;>simp only [hg,reduceCtorEq] at hc;rename_i p;obtain ⟨h0,kept,lost⟩:=p;simp only at hc;cases hp:zah (fun b=>if b∈kept++lost then .dead else M b) rest<;>simp only [hp,reduceCtorEq] at hc;rename_i rs;cases hF:F h0 rs<;>simp only [hF,reduceCtorEq] at hc;rename_i p;obtain ⟨r,out⟩:=p;simp only at hc;cases ht:zct keep M nid a0 out<;>simp only [ht,reduceCtorEq] at hc;rename_i p;obtain ⟨ut,n1⟩:=p;simp only at hc;split at hc
 case isFalse=>simp at hc
 rename_i hcond;obtain ⟨hidn,hle⟩:=hcond;simp only [oJ,pJ] at hc;obtain ⟨rfl,rfl⟩:=hc;obtain ⟨bs,g1,g2,g3,g4⟩:=zmq hg hr0 hM;have hbn:=g2.nodup hI hidn;have hbs:∀ k∈bs,k<w.heap.size∧¬ E.G k∧(w0.heap.size<=k∨k∈bl.l):=fun k hk=>by obtain ⟨b,_,base,sz,h1,h2⟩:=g2.mem hk;exact hI.locs b k base sz h1 h2
 have hM0:zai E w (fun b=>if b∈kept++lost then .dead else M b):=fun b hb=>by
  show ObR E w b (if b∈kept++lost then AO.dead else M b);split
  ·trivial
  ·exact hM b hb
 have hown:∀ b blk base sz,E.alive b->E.loc b=some (blk,base,sz)->blk∈bs->b∈kept++lost:=fun b blk base sz hb hl hk=>by obtain ⟨b',h1,base',sz',h2,h3⟩:=g2.mem hk;rw [hI.apart b b' blk base sz base' sz' hb h2 hl h3];exact h1
 have hpk:=zdW (G:=fun k=>k<w.heap.size∧k ∉ bs) (fun k hk=>⟨hI.good k hk,fun hkb=>(hbs k hkb).2.1 hk⟩) (fun b blk base sz hb hd hl=>⟨(hI.locs b blk base sz hb hl).1,fun hk=>by have:=hown b blk base sz hb hl hk;exact hd (by simp only [this,if_true])⟩) hM0 hp hrr;refine (h w _ x0 xs h0 rs bs r out hF (fun k hk=>hk.1) (g1.mono fun k hk=>⟨hI.good k hk,fun hkb=>(hbs k hkb).2.1 hk⟩) hpk hbn (fun k hk=>⟨(hbs k hk).1,fun hh=>hh.2 hk⟩)).mono fun e w' ⟨x,G',b1,b2,he,hf,ho1,ho2,hnd,hb⟩=>?_;obtain ⟨hflr,hflo⟩:=hfl h0 rs r out hF;have ho2:=hflr.oret (G':=E.G) ho2;obtain ⟨nd1,nd2,nd3⟩:=List.nodup_append.1 hnd;have stA:=StT.lose hI hf (lost:=lost) (kept:=kept) g3 g4 fun k hk=>by obtain ⟨b,h1,base,sz,_,h2⟩:=g2.mem hk;exact ⟨b,h1,base,sz,h2⟩
 have hkA:((kept++lost).map fun b=>((b,.dead):Nat×AO)).map (·.1)=kept++lost:=by simp [Function.comp_def]
 have hspare:∀ k∈b1++b2,(∀ b∈kept,∀ base sz,E.loc b≠some (k,base,sz))->k<w'.heap.size∧¬ (E.lose lost).G k∧(w0.heap.size<=k∨k∈bl.l)∧∀ b base sz,(E.lose lost).alive b->(E.lose lost).loc b≠some (k,base,sz):=fun k hk hkept=>by
  have h1:=hb k hk;refine ⟨h1.1,fun hg=>?_,?_,fun b base sz hb' hl=>?_⟩
  ·rcases h1.2 with h2|h2
   ·have:=hI.good k hg;omega
   ·exact (hbs k h2).2.1 hg
  ·rcases h1.2 with h2|h2
   ·exact .inl (Nat.le_trans hI.frame.size h2)
   ·exact (hbs k h2).2.2
  ·simp only [Env.lose] at hl;split at hl
   ·simp at hl
   ·rename_i hnl;rcases h1.2 with h2|h2
    ·have:=(hI.locs b k base sz hb' hl).1;omega
    ·rcases List.mem_append.1 (hown b k base sz hb' hl h2) with h3|h3
     ·exact hkept b h3 base sz hl
     ·exact hnl h3
 have hfresh:∀ k,nid<=k->k<nid+16->¬ (E.lose lost).alive k:=fun k h1 h2=>hnid k h1 h2;have hidlt:∀ b∈kept++lost,¬ (nid<=b∧b<nid+16):=fun b hb hh=>hnid b hh.1 hh.2 (g3 b hb);have easy:kept=[]->ut=[]->n1=nid->∃ x E',e=.returned x∧StT w0 bl E w ((oRt n1 r).2.1++(ut++(kept++lost).map fun b=>(b,.dead))) E' w'∧Rep E' w' (oRt n1 r).1 x:=fun hk hu hn=>by
  subst hk hu hn;obtain ⟨E',o,hx⟩:=zci stA.inv (nid:=n1) (a:=r) (fun k p q=>hfresh k p (by omega)) ho2 (fun k hk=>hspare k (by simp [hk]) (by simp)) nd2;refine ⟨x,E',he,?_,hx⟩;have:=stA.over o.step fun b p hbp hbk=>by
   have h1:b∈([]:List Nat)++lost:=by rw [<- hkA];exact List.mem_map.2 ⟨_,hbp,rfl⟩
   have:=o.keys b hbk;exact absurd ⟨this.1,by omega⟩ (hidlt b h1)
  simpa using this
 unfold zct at ht;split at ht
 ·rename_i b cs _x;split at ht
  case h_2=>simp at ht
  rename_i cs0 hMb;split at ht
  case isFalse=>simp at ht
  rename_i hcl;simp only [oJ,pJ] at ht;obtain ⟨rfl,rfl⟩:=ht;have hkb:=zmr hg;subst hkb;simp only [Rep] at hr0;obtain ⟨q1,q2,blk,sz',q3,rfl⟩:=hr0;have hob:=hM b q1;rw [hMb] at hob;simp only [ObR] at hob;obtain ⟨_,blk0,t0,us,p1,p2,p3,p4⟩:=hob;rw [q3] at p1;simp only [oJ,pJ,true_and] at p1;obtain ⟨rfl,rfl⟩:=p1;simp only [ze0] at ho1;obtain ⟨blk',t,vs,b1',e1,rfl,j1,j2,j3⟩:=ho1;simp only [Value.pointer.injEq,oJ,Addr.mk.injEq,and_true] at e1;subst e1;have j3:=zd1 (G':=E.G) hflo j3;have hlen:vs.length=us.length:=by rw [<- j3.length,hcl,p4.length]
  have nd1':=List.nodup_cons.1 nd1;have hnb:∀ k,k≠blk->∀ c∈[b],∀ base sz,E.loc c≠some (k,base,sz):=fun k hk c hc base sz hl=>by simp only [List.mem_singleton] at hc;subst hc;rw [q3] at hl;simp only [oJ,pJ] at hl;exact hk hl.1.symm
  have hle1:(oLs nid cs).2.2<=nid+16:=by have:=zaS (nid:=(oLs nid cs).2.2) (a:=r);exact Nat.le_trans (zgZ) hle
  obtain ⟨E2,oL,rL⟩:=zbF (as:=cs) stA.inv (nid:=nid) (fun k p q=>hfresh k p (by omega)) j3 (fun k hk=>hspare k (by simp [hk]) (hnb k fun e=>by subst e;exact nd1'.1 hk)) nd1'.2;have hbl:b ∉ lost:=fun hh=>by simp at hidn;exact hidn.1 hh
  have hbk:b ∉ (oLs nid cs).2.1.map (·.1):=fun hh=>by have:=oL.keys b hh;exact hidlt b (by simp) ⟨this.1,by omega⟩
  have hsame:=oL.step.same b q1 hbk;have hloc:E2.loc b=some (blk,0,us.length):=by rw [hsame.2];simp only [Env.lose,hbl,if_false];exact q3
  have hver:E2.ver b=0:=by rw [hsame.1];simp only [Env.lose,hbl,if_false];exact q2
  have stR:=StT.retell oL.step.inv (b:=b) (o:=.box (oLs nid cs).1) (oL.step.le.alive b q1) (by simp only [ObR];exact ⟨hver,blk,t,vs,by rw [hlen];exact hloc,j1,j2,rL⟩);obtain ⟨E3,oR,hx⟩:=zci stR.inv (nid:=(oLs nid cs).2.2) (a:=r) (oL.fresh fun k p q=>hfresh k p (by omega)) (by rw [oL.G];exact ho2) (fun k hk=>by
   have h1:=hspare k (by simp [hk]) (hnb k fun e=>by subst e;exact nd3 k (by simp) k hk rfl);refine ⟨h1.1,by rw [oL.G];exact h1.2.1,h1.2.2.1,fun b' base sz hb' hl=>?_⟩;rcases oL.locs b' base sz k hb' hl with ⟨h2,h3⟩|h2
   ·exact h1.2.2.2 b' base sz h2 h3
   ·exact nd3 k (by simp [h2]) k hk rfl) nd2
  refine ⟨x,E3,he,?_,hx⟩;have s1:=stA.over oL.step fun c p hcp hck=>by
   have h1:c∈[b]++lost:=by rw [<- hkA];exact List.mem_map.2 ⟨_,hcp,rfl⟩
   have:=oL.keys c hck;exact absurd ⟨this.1,by omega⟩ (hidlt c h1)
  have s2:=s1.over stR fun c p hcp hck=>by
   simp only [List.map_cons,List.map_nil,List.mem_singleton] at hck;subst hck;refine ⟨?_,q1,by rw [hloc,q3]⟩;rcases List.mem_append.1 hcp with h1|h1
   ·exact absurd (List.mem_map.2 ⟨_,h1,rfl⟩) hbk
   ·simp only [List.mem_map,pJ] at h1;obtain ⟨_,_,_,e⟩:=h1;exact e.symm
  have s3:=s2.over oR.step fun c p hcp hck=>by
   have h2:=oR.keys c hck;have h3:c∈([(b,AO.box (oLs nid cs).1)]++((oLs nid cs).2.1++([b]++lost).map fun b=>((b,.dead):Nat×AO))).map (·.1):=List.mem_map.2 ⟨_,hcp,rfl⟩;simp only [List.map_append,List.mem_append,List.map_cons,List.map_nil,List.mem_singleton] at h3;exfalso;rcases h3 with h3|h3|h3
   ·subst h3;exact hidlt c (by simp) ⟨by have:=oL.le;omega,by have:=zaS c hck;omega⟩
   ·have:=oL.keys c h3;omega
   ·have h4:c∈[b]++lost:=by simpa [Function.comp_def] using h3
    exact hidlt c h4 ⟨by have:=oL.le;omega,by have:=zaS c hck;omega⟩
  simpa using s3
 ·rename_i b m s o n;split at ht
  case isFalse=>simp at ht
  rename_i hk;subst hk;simp only [oJ,pJ] at ht;obtain ⟨rfl,rfl⟩:=ht;exact easy (zmp hg) rfl rfl
 ·simp only [oJ,pJ] at ht;obtain ⟨rfl,rfl⟩:=ht;exact easy (zof hg).1 rfl rfl
 ·simp only [oJ,pJ] at ht;obtain ⟨rfl,rfl⟩:=ht;exact easy (zkj hg) rfl rfl
 ·simp at ht
attribute [simp] zaM zct callM nrm zpJ zaA zel
theorem zgD {M:Nat->AO} {a r:AV} {ids:List Nat} (h:lLf M a=some (r,ids)):∀ b∈ids,M b≠.dead:=by
  unfold lLf at h;split at h
  · split at h
    · rename_i hMb
      split at h
      · simp only [oJ,pJ] at h
        obtain ⟨_,rfl⟩:=h;intro k hk;simp at hk;subst hk;rw [hMb];simp
      · simp at h
    · simp at h
  all_goals first
    | (simp only [oJ,pJ] at h
       obtain ⟨_,rfl⟩:=h;simp;done)
    | (simp at h;done)
    | skip
  split at h
  · rename_i hMb
    split at h
    · simp only [oJ,pJ] at h
      obtain ⟨_,rfl⟩:=h;intro k hk;simp at hk;subst hk;rw [hMb];simp
    · simp at h
  · simp at h
theorem zbz {M:Nat->AO}:∀ {as rs:List AV} {ids:List Nat},lLs M as=some (rs,ids)->∀ b∈ids,M b≠.dead
 | [],rs,ids,h=>by
  simp only [lLs,oJ,pJ] at h;obtain ⟨_,rfl⟩:=h;simp
 | a::as,rs,ids,h=>by
  simp only [lLs] at h;cases h1:lLf M a<;>simp only [h1,reduceCtorEq] at h;rename_i p;obtain ⟨r,i⟩:=p;cases h2:lLs M as<;>simp only [h2,reduceCtorEq] at h;rename_i p;obtain ⟨rs',is⟩:=p;simp only [oJ,pJ] at h;obtain ⟨_,rfl⟩:=h;intro b hb;rcases List.mem_append.1 hb with hb|hb
  ·exact zgD h1 b hb
  ·exact zbz h2 b hb
theorem zi9 {keep:Bool} {sz:Nat->Nat} {M:Nat->AO} {a r:AV} {kept lost:List Nat} (h:zaM keep sz M a=some (r,kept,lost)):∀ b∈kept++lost,M b≠.dead:=by
 unfold zaM at h;split at h
 ·split at h
  ·rename_i hMb;split at h
   ·rename_i h2;simp only [oJ,pJ] at h;obtain ⟨_,rfl,rfl⟩:=h;intro k hk;rcases List.mem_append.1 hk with hk|hk
    ·simp at hk;subst hk;rw [hMb];simp
    ·exact zbz h2 k hk
   ·simp at h
  ·simp at h
 ·split at h
  ·rename_i hMb;split at h
   ·simp only [oJ,pJ] at h;intro k hk;cases keep
    all_goals
     simp at h;obtain ⟨_,rfl,rfl⟩:=h;simp at hk;subst hk;rw [hMb];simp
   ·simp at h
  ·simp at h
 ·simp only [oJ,pJ] at h;obtain ⟨_,rfl,rfl⟩:=h;simp
 ·split at h
  ·rename_i h2;simp only [oJ,pJ] at h;obtain ⟨_,rfl,rfl⟩:=h;intro k hk;exact zbz h2 k (by simpa using hk)
  ·simp at h
 ·simp at h
theorem ziC {keep:Bool} {M:Nat->AO} {nid n:Nat} {a o:AV} {u:List (Nat×AO)} (h:zct keep M nid a o=some (u,n)):nid<=n∧∀ b∈u.map (·.1),(nid<=b∧b<n)∨M b≠.dead:=by
 unfold zct at h;split at h
 ·split at h
  ·rename_i hMb;split at h
   ·simp only [oJ,pJ] at h;obtain ⟨rfl,rfl⟩:=h;refine ⟨zbd,fun k hk=>?_⟩;simp only [List.map_cons,List.mem_cons] at hk;rcases hk with rfl|hk
    ·right;rw [hMb];simp
    ·exact .inl (zbe k hk)
   ·simp at h
  ·simp at h
 ·split at h
  ·simp only [oJ,pJ] at h;obtain ⟨rfl,rfl⟩:=h;simp
  ·simp at h
 ·simp only [oJ,pJ] at h;obtain ⟨rfl,rfl⟩:=h;simp
 ·simp only [oJ,pJ] at h;obtain ⟨rfl,rfl⟩:=h;simp
 ·simp at h
theorem zdt {keep:Bool} {sz:Nat->Nat} {F:AV->List AV->Option (AV×AV)} {avs:List AV} {M:Nat->AO} {nid:Nat} {r:AV×List (Nat×AO)} (h:callM keep sz F avs M nid=some r):∀ b∈r.2.map (·.1),(nid<=b∧b<nid+16)∨M b≠.dead:=by
 cases avs with
 | nil=>simp [AM.callM] at h
 | cons a0 rest =>
 simp only [AM.callM] at h;cases hg:zaM keep sz M a0<;>simp only [hg,reduceCtorEq] at h;rename_i p;obtain ⟨h0,kept,lost⟩:=p;simp only at h;cases hp:zah (fun b=>if b∈kept++lost then .dead else M b) rest<;>simp only [hp,reduceCtorEq] at h;rename_i rs;cases hF:F h0 rs<;>simp only [hF,reduceCtorEq] at h;rename_i p;obtain ⟨q,out⟩:=p;simp only at h;cases ht:zct keep M nid a0 out<;>simp only [ht,reduceCtorEq] at h;rename_i p;obtain ⟨ut,n1⟩:=p;simp only at h;split at h
 case isFalse=>simp at h
 rename_i hcond;simp only [oJ] at h;subst h;obtain ⟨ht1,ht2⟩:=ziC ht;intro b hb;simp only [List.map_append,List.mem_append] at hb;rcases hb with hb|hb|hb
 ·have:=zaS b hb;exact .inl (by omega)
 ·rcases ht2 b hb with h1|h1
  ·have:n1<=(oRt n1 q).2.2:=zgZ;exact .inl (by omega)
  ·exact .inr h1
 ·have:b∈kept++lost:=by simpa [Function.comp_def] using hb
  exact .inr (zi9 hg b this)
noncomputable def zed {ι:Type} (A0:ι->AV) (A:ι->List AV) (R O:ι->AV) (a0:AV) (avs:List AV):Option (AV×AV) :=open Classical in if h:∃ i,A0 i=a0∧A i=avs then some (R h.choose,O h.choose) else none
theorem zfh {ι:Type} {A0:ι->AV} {A:ι->List AV} {R O:ι->AV} (i:ι) (h:∀ j,A0 j=A0 i->A j=A i->R j=R i∧O j=O i):zed A0 A R O (A0 i) (A i)=some (R i,O i):=by
 unfold zed;have hex:∃ j,A0 j=A0 i∧A j=A i:=⟨i,rfl,rfl⟩
 rw [dif_pos hex];have:=h _ hex.choose_spec.1 hex.choose_spec.2;rw [this.1,this.2]
theorem zbK {ι:Type} {A0:ι->AV} {A:ι->List AV} {R O:ι->AV} {a0:AV} {avs:List AV} {r o:AV} (h:zed A0 A R O a0 avs=some (r,o)):∃ i,A0 i=a0∧A i=avs∧R i=r∧O i=o:=by
 unfold zed at h;split at h
 ·rename_i hh;simp only [oJ,pJ] at h;exact ⟨_,hh.choose_spec.1,hh.choose_spec.2,h.1,h.2⟩
 ·simp at h
theorem zfW {ι:Type} {A0:ι->AV} {A:ι->List AV} {rl:ι->List AV} {O:ι->AV} {P:Program} {f:FuncId} {fn:Func} {c:Code} (hf:P.funcs[f]?=some fn) (hb:fn.body=some c) (X:AX)
  (h:∀ (i:ι) (w0:World) (bl:List Nat) (E:Env),(A i).length+1<=fn.ntmps∧(rl i).length=fn.results.size ∧
   AW ⟨P,X,fn.ntmps,w0,⟨bl,E,(zaA 0 (A0 i)).2.2⟩⟩ c ⟨eSt ((zaA 0 (A0 i)).1::A i),(zaA 0 (A0 i)).2.1,(zaA 0 (A0 i)).2.2⟩ (fun e st=>(e=.normal∨e=.ret)∧ze1 (za P) fn.results.toList st (zaA 0 (A0 i)).1 (rl i) (O i))) :
  zdS P f (zed A0 A (fun i=>rtO (rl i)) O) :=znE hf hb rfl fun w0 bl E a0 avs r out hr=>by obtain ⟨i,rfl,rfl,rfl,rfl⟩:=zbK hr;have:=h i w0 bl E;exact ⟨this.1,rl i,rfl,this.2.1,X,this.2.2⟩
theorem lMa {T:TypeId->Option TD} {rv:List ResultVar} {st:St} {a0:AV} {r:List AV} (h:zjG T rv st r):ze1 T rv st a0 r .any:=by obtain ⟨as,rs,ids,h1,h2,h3,h4⟩:=h;exact ⟨as,rs,ids,.any,[],h1,h2,.inr ⟨rfl,rfl⟩,by simpa using h3,h4,.inl rfl⟩
def zir (avs:List AV) (M:Nat->AO) (_nid:Nat):Option (AV×List (Nat×AO)) :=
 match avs with
 | [.rd s _,.sl b m s' _ _]=>match M b with
  | .vec m' _ _ _=>if m=m'∧1<=s∧1<=s' then some (B false,[]) else none
  | _=>none
 | _=>none
theorem zee {P:Program} (w:World) {tS tR e:TypeId} {d de:TD} (ht:za P tS=some d) (hk:d.k=.slice e) (he:za P e=some de)
  (a b:Option Addr) (la ca lb cb:Nat) (h:la=0∨lb=0∨∃ a' b' tA kA tB kB,a=some a'∧b=some b'∧a'.block≠b'.block∧w.shape? a'.block=some (tA,kA)∧w.shape? b'.block=some (tB,kB)∧kA≠0∧kB≠0∧∀ x:Addr,x.block=b'.block->w.frozen? x=false) :
  (Extern.SlicesOverlaps.overlaps #[tS,tS] #[tR] #[.slice a la ca,.slice b lb cb]).run P w=.ok (.bool false) w:=by
 change Sem.run P (α:=Value) (do
  let some t := (#[tS, tS] : Array TypeId)[0]? | stuck "slices.overlaps: no parameter types"
  let .slice elem <- underlying t | stuck "slices.overlaps: slice type expected"
  let size <- sizeOf elem
  match a,b with
  | some a,some b =>
   if la=0∨lb=0∨size=0 then pure (Value.bool false)
   else if a.block != b.block&&(<- frozen a)&&(<- frozen b) then unsupported .addressObserved
   else do
    if a.block != b.block then do
     noView a;noView b
     if <- mayBeOne a b then return Value.bool ((<- choose (.extern "sameAddr.stringBytes" 2)) == 1)
    pure (Value.bool (a.block == b.block&&a.off<b.off+lb*size&&b.off<a.off+la*size))
  | _,_=>pure (Value.bool false)) w=_
 cases a with
 | none=>simp [uSl ht hk,rSz he]
 | some a =>
 cases b with
 | none=>simp [uSl ht hk,rSz he]
 | some b =>
 by_cases h0:la=0∨lb=0∨de.size=0
 ·simp [uSl ht hk,rSz he,h0]
 ·obtain ⟨a',b',tA,kA,tB,kB,e1,e2,hne,hsa,hsb,hkA,hkB,hfb⟩:=(h.resolve_left fun h=>h0 (.inl h)).resolve_left fun h=>h0 (.inr (.inl h));simp only [oJ] at e1 e2;subst e1 e2;have hnb:(a.block != b.block)=true:=by simpa using hne
  have hnb':(a.block == b.block)=false:=by simpa using hne
  have f1:w.frozen? b=false:=hfb b rfl;have f2:w.frozen? { block:=b.block,off:=kB }=false:=hfb _ rfl;cases kB with
  | zero=>exact absurd rfl hkB
  | succ kB =>
  cases kA with
  | zero=>exact absurd rfl hkA
  | succ kA =>
   cases hfa:w.frozen? a<;>cases hfa2:w.frozen? { block:=a.block,off:=kA+1 } <;>
   simp [uSl ht hk,rSz he,h0,hnb,hnb',frozen,noView,viewAt,mayBeOne,stringish,shape,Sem.run,hsa,hsb,f1,f2,hfa,hfa2]
theorem zqG {P : Program} {f : FuncId} {fn : Func} {tS tR e : TypeId} {d de : TD} (hf : P.funcs[f]? = some fn) (hname : (fn.name == "runtime.NumGoroutine") = false) (hb : fn.body.isNone = true) (hn : Extern.findNext fn = none) (hx : Extern.find fn = some (Extern.SlicesOverlaps.overlaps #[tS, tS] #[tR]))
  (ht:za P tS=some d) (hk:d.k=.slice e) (he:za P e=some de):zmO P f zir:=by
 intro avs M nid av u h;unfold zir at h;split at h
 case h_2=>simp at h
 rename_i s xs b m s' o n;split at h
 case h_2=>simp at h
 rename_i m' z ff ys hMb;split at h
 case isFalse=>simp at h
 rename_i hc;obtain ⟨rfl,hs,hs'⟩:=hc;simp only [oJ,pJ] at h;obtain ⟨rfl,rfl⟩:=h;refine ⟨rfl,fun w0 bl E w args hr hM hI=>?_⟩;obtain ⟨args⟩:=args;match args,hr with
 | [x,y],hr =>
  simp only [RepL,and_true] at hr;obtain ⟨hr1,hr2⟩:=hr;simp only [Rep,zd] at hr1 hr2;obtain ⟨p,c,rfl,h2,h3,h4⟩:=hr1;obtain ⟨k1,k2,k3,q,c',rfl,k4,k4',k5⟩:=hr2;have hob:=hM b k1;simp only [hMb,ObR] at hob;obtain ⟨l1,l2,l3⟩:=hob;have h5:=k5 l1.symm;refine ⟨.bool false,w,?_,rfl,rfl,rfl,by simp [Rep,zd]⟩;rw [run_callFunc_extern hf hname hb hn hx,zee w ht hk he]
  ·rfl
  ·by_cases hx0:xs.length=0
   ·exact .inl hx0
   by_cases hn0:n=0
   ·exact .inr (.inl hn0)
   right;right;rcases h4 with h4|⟨blk,off,rfl,hg,hrows⟩
   ·subst h4;simp at hx0
   ·cases hl:E.loc b with
    | none=>simp only [hl,zcd] at h5;omega
    | some l =>
     obtain ⟨blk',base,sz⟩:=l;simp only [hl,zcd] at h5 l3;obtain ⟨a,rfl,q1,q2⟩:=h5;obtain ⟨arr,t,m1,m2,_,_,_,_⟩:=l3;have q1:=q1.resolve_left (by omega);subst q1;have hloc:=hI.locs b blk' base sz k1 hl;obtain ⟨e0,r0,rfl⟩:∃ e0 r0,xs=e0::r0:=by cases xs with|nil=>simp at hx0|cons a b=>exact ⟨a,b,rfl⟩
     simp only [CRows] at hrows;obtain ⟨a0,r1,rfl⟩:∃ a0 r1,e0=a0::r1:=by cases e0 with|nil=>simp at hrows;omega|cons a b=>exact ⟨a,b,rfl⟩
     simp only [CCs] at hrows;obtain ⟨_,⟨⟨v,hv,_,_⟩,_⟩,_⟩:=hrows;have hsh:∃ t k,w.shape? blk=some (t,k)∧k≠0:=by
      unfold World.cell? at hv;unfold World.shape?;simp only at hv;split at hv
      ·refine ⟨_,_,rfl,fun e=>?_⟩;simp only [Option.isSome_none,Bool.false_eq_true,if_false] at hv;rw [Array.getElem?_eq_none (by omega)] at hv;simp at hv
      ·simp at hv
     obtain ⟨tA,kA,hsa,hkA⟩:=hsh;have hpos:1<=(o+c')*s':=Nat.mul_pos (by omega) hs';refine ⟨_,_,tA,kA,t,arr.size,rfl,rfl,fun e=>hloc.2.1 (by simp only at e;rw [<- e];exact hg),hsa,by simp only [World.shape?,m1],hkA,by omega,fun x hx=>?_⟩;unfold World.frozen?;rw [hx,m1];simp
 | [],hr=>simp [RepL] at hr
 | [_],hr=>simp [RepL] at hr
 | _::_::_::_,hr=>simp [RepL] at hr
theorem zc0 {ι:Type} {sz:Nat} {A0:ι->List (List AV)} {A:ι->List AV} {rl:ι->List AV} {O:ι->AV} {P:Program} {f:FuncId} {fn:Func} {c:Code} (hf:P.funcs[f]?=some fn) (hb:fn.body=some c) (X:AX)
  (h:∀ (i:ι) (w0:World) (bl:List Nat) (E:Env) (m:Nat),(A i).length+1<=fn.ntmps∧(rl i).length=fn.results.size ∧
   AW ⟨P,X,fn.ntmps,w0,⟨bl,E,1⟩⟩ c ⟨eSt (.sl 0 1 sz 0 (A0 i).length::A i),[(0,.vec 1 sz true (A0 i++zca sz m))],1⟩ (fun e st=>(e=.normal∨e=.ret)∧ze1 (za P) fn.results.toList st (.sl 0 1 sz 0 (A0 i).length) (rl i) (O i))) :
  zdS P f (zed (fun i=>.ow sz (A0 i)) A (fun i=>rtO (rl i)) O) :=zml hf hb rfl fun w0 bl E a0 avs r out hr=>by obtain ⟨i,rfl,rfl,rfl,rfl⟩:=zbK hr;have:=h i w0 bl E 0;exact ⟨this.1,sz,A0 i,rfl,rl i,rfl,this.2.1,X,fun m=>(h i w0 bl E m).2.2⟩
@[simp] theorem zpf (s n:Nat):(zca s n).length=n:=by simp [zca]
def zqC {α:Type} (k:Nat) (l:List (Nat×α)):List (Nat×α):=l.filter fun p=>!(Nat.beq p.1 k)
def zw6 (l:List (Nat×AV)):List (Nat×AV):=l.foldr (fun p acc=>match p.2 with
 | .any=>zqC p.1 acc
 | a=>(p.1,a)::zqC p.1 acc) []
def zbC (l:List (Nat×AO)):List (Nat×AO):=l.foldr (fun p acc=>match p.2 with
 | .dead=>zqC p.1 acc
 | a=>(p.1,a)::zqC p.1 acc) []
theorem zfq {k t:Nat}:∀ {l:List (Nat×AO)},zb (zqC k l) t=if t=k then .dead else zb l t
 | []=>by simp [zqC,zb]
 | p::r=>by
  obtain ⟨j,a⟩:=p;have ih:=zfq (k:=k) (t:=t) (l:=r);simp only [zqC] at ih ⊢;by_cases h:j=k
  ·subst h;rw [List.filter_cons_of_neg (by simp),ih];simp only [zb];by_cases e:t=j
   ·simp [e]
   ·simp [e,Ne.symm e]
  ·rw [List.filter_cons_of_pos (by rw [Bool.not_eq_true',Bool.eq_false_iff];exact fun hh=>h (Nat.eq_of_beq_eq_true hh))];simp only [zb,ih];by_cases e:t=k
   ·subst e;simp [h]
   ·simp [e]
theorem zja {t:Nat}:∀ {l:List (Nat×AO)},zb (zbC l) t=zb l t
 | []=>rfl
 | p::r=>by
  obtain ⟨j,a⟩:=p;have ih:=zja (t:=t) (l:=r);simp only [zbC] at ih;simp only [zbC,List.foldr_cons,zb];by_cases e:j=t
  ·subst e;rw [if_pos rfl];cases a<;>first|(simp only [zfq,if_true];done)|simp [zb]
  ·rw [if_neg e,<- ih];cases a<;>first|(rw [zfq,if_neg (Ne.symm e)];done)|(simp only [zb,if_neg e];rw [zfq,if_neg (Ne.symm e)])
section
variable {β:Type}
def foN (n:Nat) (k:Nat->β):β:=match n with
 | 0=>k 0
 | m+1=>k (m+1)
def zqW (n:Int) (k:Int->β):β:=match n with
 | .ofNat m=>foN m fun m=>k (.ofNat m)
 | .negSucc m=>foN m fun m=>k (.negSucc m)
def zqX (b:Bool) (k:Bool->β):β:=match b with
 | true=>k true
 | false=>k false
def zu3 (x:Value) (k:Value->β):β:=match x with
 | .int t n=>zqW n fun n=>k (.int t n)
 | .bool b=>zqX b fun b=>k (.bool b)
 | x=>k x
def zqV:List Int->(List Int->β)->β
 | [],k=>k []
 | a::r,k=>zqW a fun a=>zqV r fun r=>k (a::r)
mutual
def AV.force:AV->(AV->β)->β
 | .any,k=>k .any
 | .v x,k=>zu3 x fun x=>k (.v x)
 | .agg cs,k=>forceL cs fun cs=>k (.agg cs)
 | .tup cs,k=>forceL cs fun cs=>k (.tup cs)
 | .rd s xs,k=>foN s fun s=>forceLL xs fun xs=>k (.rd s xs)
 | .ow s xs,k=>foN s fun s=>forceLL xs fun xs=>k (.ow s xs)
 | .rp cs,k=>forceL cs fun cs=>k (.rp cs)
 | .rf cs,k=>forceL cs fun cs=>k (.rf cs)
 | .bp b o,k=>foN b fun b=>foN o fun o=>k (.bp b o)
 | .sl b m s o n,k=>foN b fun b=>foN m fun m=>foN s fun s=>foN o fun o=>foN n fun n=>k (.sl b m s o n)
 | .ep b m s i j,k=>foN b fun b=>foN m fun m=>foN s fun s=>foN i fun i=>foN j fun j=>k (.ep b m s i j)
 | .bs b o s n,k=>foN b fun b=>foN o fun o=>foN s fun s=>foN n fun n=>k (.bs b o s n)
 | .fn f cs,k=>forceL cs fun cs=>k (.fn f cs)
 | .ifc f cs,k=>forceL cs fun cs=>k (.ifc f cs)
 | .mp b m,k=>foN b fun b=>foN m fun m=>k (.mp b m)
 | .rm n es,k=>foN n fun n=>forceE es fun es=>k (.rm n es)
 | .om n es,k=>foN n fun n=>forceE es fun es=>k (.om n es)
def forceE:List (List Int×AV)->(List (List Int×AV)->β)->β
 | [],k=>k []
 | (q,a)::r,k=>zqV q fun q=>a.force fun a=>forceE r fun r=>k ((q,a)::r)
def forceL:List AV->(List AV->β)->β
 | [],k=>k []
 | a::r,k=>a.force fun a=>forceL r fun r=>k (a::r)
def forceLL:List (List AV)->(List (List AV)->β)->β
 | [],k=>k []
 | a::r,k=>forceL a fun a=>forceLL r fun r=>k (a::r)
end
def AO.force (o:AO) (k:AO->β):β:=match o with
 | .dead=>k .dead
 | .box cs=>forceL cs fun cs=>k (.box cs)
 | .vec m s f xs=>foN m fun m=>foN s fun s=>zqX f fun f=>forceLL xs fun xs=>k (.vec m s f xs)
 | .map m n es=>foN m fun m=>foN n fun n=>forceE es fun es=>k (.map m n es)
 | .vo m s xs i e=>foN m fun m=>foN s fun s=>foN i fun i=>forceLL xs fun xs=>forceL e fun e=>k (.vo m s xs i e)
def zlw:List (Nat×AO)->(List (Nat×AO)->β)->β
 | [],k=>k []
 | (n,o)::r,k=>foN n fun n=>o.force fun o=>zlw r fun r=>k ((n,o)::r)
def zok:List (Nat×AV)->(List (Nat×AV)->β)->β
 | [],k=>k []
 | (n,o)::r,k=>foN n fun n=>o.force fun o=>zok r fun r=>k ((n,o)::r)
def zt4:List (Nat×AO)->Nat->AO->(List (Nat×AO)->β)->β
 | [],b,o,k=>k [(b,o)]
 | (j,p)::r,b,o,k=>match Nat.beq j b with
  | true=>k ((j,o)::r)
  | false=>zt4 r b o fun r=>k ((j,p)::r)
def zsA:List (Nat×AO)->List (Nat×AO)->(List (Nat×AO)->β)->β
 | [],M,k=>k M
 | (b,o)::r,M,k=>zsA r M fun M=>zt4 M b o k
def AV.sh (a:AV) (k:AV->β):β:=match a with
 | .any=>k .any
 | .v x=>k (.v x)
 | .agg cs=>k (.agg cs)
 | .tup cs=>k (.tup cs)
 | .rd s xs=>k (.rd s xs)
 | .ow s xs=>k (.ow s xs)
 | .rp cs=>k (.rp cs)
 | .rf cs=>k (.rf cs)
 | .bp b o=>k (.bp b o)
 | .sl b m s o n=>k (.sl b m s o n)
 | .ep b m s i j=>k (.ep b m s i j)
 | .bs b o s n=>k (.bs b o s n)
 | .fn f cs=>k (.fn f cs)
 | .ifc f cs=>k (.ifc f cs)
 | .mp b m=>k (.mp b m)
 | .rm n es=>k (.rm n es)
 | .om n es=>k (.om n es)
def AO.sh (o:AO) (k:AO->β):β:=match o with
 | .dead=>k .dead
 | .box cs=>k (.box cs)
 | .vec m s f xs=>k (.vec m s f xs)
 | .map m n es=>k (.map m n es)
 | .vo m s xs i e=>k (.vo m s xs i e)
def shM:List (Nat×AO)->(List (Nat×AO)->β)->β
 | [],k=>k []
 | (n,o)::r,k=>foN n fun n=>o.sh fun o=>shM r fun r=>k ((n,o)::r)
def shS:List (Nat×AV)->(List (Nat×AV)->β)->β
 | [],k=>k []
 | (n,o)::r,k=>foN n fun n=>o.sh fun o=>shS r fun r=>k ((n,o)::r)
end
def zsk (l:List (Nat×AV)) (t:Nat):AV :=
 match l with
 | []=>.any
 | (k,a)::r=>match Nat.beq k t with
  | true=>a
  | false=>zsk r t
def zsl (l:List (Nat×AO)) (t:Nat):AO :=
 match l with
 | []=>.dead
 | (k,a)::r=>match Nat.beq k t with
  | true=>a
  | false=>zsl r t
def zxL (l:List (Nat×AV)):Operand->AV
 | .tmp t=>zsk l t
 | .const v=>.v v
 | .func f=>.fn f []
 | .global _=>.any
def zvc (N:Nat) (o:Oper):Bool:=match o.dst with|some d=>Nat.blt d N|none=>true
def zic (T:TypeId->Option TD) (X:AX) (ops:Array Oper) (N base:Nat):List Oper->Nat->List (Nat×AV)->List (Nat×AO)->Option (List (Nat×AV)×List (Nat×AO))
 | [],_,l,M=>some (l,M)
 | o::r,i,l,M=>match zvc N o with
  | false=>none
  | true=>match o.guard with
   | none=>match zav T X o.op (zxL l) (zsl M) (base+16*i) with
    | some (av,u)=>av.force fun av=>zlw u fun u=>zsA u M fun M=>match o.dst with
     | some d=>zic T X ops N base r (i+1) ((d,av)::l) M
     | none=>zic T X ops N base r (i+1) l M
    | none=>none
   | some (j,want)=>match (ops[j]?).bind (·.dst) with
    | some d=>match yV (zsk l d) with
     | some (some b)=>match b == want with
      | true=>match zav T X o.op (zxL ((d,.v (.bool want))::l)) (zsl M) (base+16*i) with
       | some (av,u)=>av.force fun av=>zlw u fun u=>zsA u M fun M=>match o.dst with
        | some d'=>zic T X ops N base r (i+1) ((d',av)::(d,.v (.bool want))::l) M
        | none=>zic T X ops N base r (i+1) ((d,.v (.bool want))::l) M
       | none=>none
      | false=>match o.dst with
       | some d'=>zic T X ops N base r (i+1) ((d',.u)::(d,.v (.bool (!want)))::l) M
       | none=>zic T X ops N base r (i+1) ((d,.v (.bool (!want)))::l) M
     | some none=>match o.dst with
      | some d'=>zic T X ops N base r (i+1) ((d',.u)::l) M
      | none=>zic T X ops N base r (i+1) l M
     | none=>none
    | none=>none
def zqh (T:TypeId->Option TD) (X:AX) (N:Nat) (ops:Array Oper) (st:St):Option St :=
 match zic T X ops N st.nx ops.toList 0 st.s st.m with
 | some (s,m)=>foN (st.nx+16*ops.size) fun n=>some ⟨s,m,n⟩
 | none=>none
def zid (T:TypeId->Option TD) (X:AX) (N:Nat):Nat->Code->St->Option (Exit×St)
 | 0,_,_=>none
 | n+1,k,st=>match k with
  | .skip=>some (.normal,st)
  | .exit id=>some (.exit id,st)
  | .ret=>some (.ret,st)
  | .seq x y=>match zid T X N n x st with
   | some (.normal,st')=>zid T X N n y st'
   | r=>r
  | .region _ ops _=>match zqh T X N ops st with
   | some st'=>some (.normal,st')
   | none=>none
  | .cond o x y=>match zxL st.s o with
   | .v (.bool true)=>zid T X N n x st
   | .v (.bool false)=>zid T X N n y st
   | _=>none
  | .block id x=>match zid T X N n x st with
   | some (.exit id',st')=>if id'=id then some (.normal,st') else some (.exit id',st')
   | r=>r
  | .loop x=>shS (zw6 st.s) fun s=>shM (zbC st.m) fun m=>match zid T X N n x ⟨s,m,st.nx⟩ with
   | some (.normal,st')=>zid T X N n (.loop x) st'
   | r=>r
  | _=>none
def AV.plainB:AV->Bool
 | .any|.v _=>true
 | _=>false
def AV.flat1B:AV->Bool
 | .any|.v _=>true
 | .ow _ xs=>xs.all fun e=>e.all AV.plainB
 | _=>false
def AV.flatVB:AV->Bool
 | .agg cs=>cs.all AV.flat1B
 | a=>a.flat1B
def AV.flatB:AV->Bool
 | .tup cs=>cs.all AV.flatVB
 | a=>a.flatVB
def AV.flatOB:AV->Bool
 | .rf cs=>cs.all AV.flat1B
 | _=>true
def znB:List Nat->Bool
 | []=>true
 | a::r=>!(r.any fun b=>Nat.beq b a)&&znB r
def zuN:Exit->Bool
 | .normal|.ret=>true
 | _=>false
def zxE (T:TypeId->Option TD) (X:AX) (fn:Func) (c:Code) (n:Nat) (avs:List AV):Option AV :=
 match Nat.ble avs.length fn.ntmps,(forceL avs fun avs=>zok (eSt avs) fun s=>zid T X fn.ntmps n c ⟨s,[],0⟩) with
 | true,some (e,st)=>match zuN e,aRs T st fn.results.toList with
  | true,some as=>match lVs (zb st.m) as with
   | some (rs,ids)=>match znB ids&&Nat.beq rs.length fn.results.toList.length&&(rtO rs).flatB with
    | true=>some (rtO rs)
    | false=>none
   | none=>none
  | _,_=>none
 | _,_=>none
def zCl:AV->Bool
 | .rf _=>true
 | _=>false
def zxF (T:TypeId->Option TD) (X:AX) (fn:Func) (c:Code) (n:Nat) (a0:AV) (avs:List AV):Option (AV×AV) :=
 match Nat.ble (avs.length+1) fn.ntmps,(forceL avs fun avs=>a0.force fun a0=>zok (eSt ((zaA 0 a0).1::avs)) fun s=>zlw (zaA 0 a0).2.1 fun m=>zid T X fn.ntmps n c ⟨s,m,(zaA 0 a0).2.2⟩) with
 | true,some (e,st)=>match zuN e,aRs T st fn.results.toList with
  | true,some as=>match lVs (zb st.m) as with
   | some (rs,ids)=>match (if zCl a0 then zel (zb st.m) (zaA 0 a0).1 else some (.any,[])) with
    | some (o,is)=>match znB (is++ids)&&Nat.beq rs.length fn.results.toList.length&&(rtO rs).flatB&&o.flatOB with
     | true=>some (rtO rs,o)
     | false=>none
    | none=>none
   | none=>none
  | _,_=>none
 | _,_=>none
structure Ev where
 T:TypeId->Option TD
 base:AX
 isBase:FuncId->Bool
 isM:FuncId->Bool
 skip:FuncId->Bool
 sz:FuncId->Nat->Nat
def Ev.w (v:Ev) (f:FuncId):Bool:=if v.isBase f then v.base.writes f else v.isM f
def Ev.call (P:Program) (v:Ev):Nat->FuncId->List AV->(Nat->AO)->Nat->Option (AV×List (Nat×AO))
 | 0,f=>fun avs M nid=>match v.isBase f with
  | true=>v.base.call f avs M nid
  | false=>none
 | n+1,f=>fun avs M nid=>match v.isBase f with
  | true=>v.base.call f avs M nid
  | false=>match v.skip f with
   | true=>none
   | false=>match P.funcs[f]? with
    | none=>none
    | some fn=>match fn.body with
     | none=>none
     | some c=>match v.isM f with
      | true=>callM false (v.sz f) (zxF v.T ⟨Ev.call P v n,v.w,true,v.base.eqs⟩ fn c n) avs M nid
      | false=>caP (zxE v.T ⟨Ev.call P v n,v.w,true,v.base.eqs⟩ fn c n) avs M nid
end Go.AM
namespace Go.AM
open Go
theorem zba {c:Cx} {k:Code} {st:St} {Q:Exit->St->Prop} (t s:Nat) (h:zn st.s t=.rd s []) (h1:AW c k ⟨(t,.v (.slice none 0 0))::st.s,st.m,st.nx⟩ Q) (h2:∀ p n,AW c k ⟨(t,.v (.slice (some p) 0 n))::st.s,st.m,st.nx⟩ Q):AW c k st Q:=fun a w hs=>by
 obtain ⟨E,hs0,hn,hm⟩:=hs;have ht:=hs0.slots t;rw [h] at ht;simp only [Rep,zd] at ht;obtain ⟨p,n,hx,_,hp,_⟩:=ht;have key:∀ v,a.tmps.getD t undef=v->Sat c.N c.w0 c.bl a w ⟨(t,.v v)::st.s,st.m,st.nx⟩:=fun v hv=>by
  refine ⟨E,⟨hs0.defers,hs0.size,hs0.inv,hs0.mem,fun t'=>?_⟩,hn,hm⟩;simp only [zn];split
  ·rename_i e;subst e;simp only [Rep,zd];exact hv
  ·exact hs0.slots t'
 cases p with
 | none=>obtain rfl:=hp rfl;exact h1 a w (key _ hx)
 | some p=>exact h2 p n a w (key _ hx)
theorem zne {N:Nat} {w0:World} {bl:Bk} {a:Act} {w:World} {s:List (Nat×AV)} {m:List (Nat×AO)} {nx:Nat}:Sat N w0 bl a w ⟨s,zbC m,nx⟩↔Sat N w0 bl a w ⟨s,m,nx⟩:=by unfold Sat;have e2:zb (zbC m)=zb m:=funext fun t=>zja;simp only [e2]
theorem zaN {n:Nat} {s s':List (Nat×AV)} {m m':List (Nat×AO)} {nx nx':Nat} (hn:n<=nx') (hs:∀ p∈s',zdT (zn s p.1) p.2∧p.2.under nx') (hm:∀ p∈zbC m',zeE (zb m p.1) p.2∧p.2.under nx'∧p.1<nx') :
  Le n ⟨s,m,nx⟩ ⟨s',m',nx'⟩:=fun N w0 bl a w hb h=>zne.1 (zxu hn hs hm N w0 bl a w hb h)
theorem zAI {n:Nat} {s s':List (Nat×AV)} {m m':List (Nat×AO)} {nx nx':Nat} (hn:n<=nx':=by simp) (hs:∀ p∈s',zdT (zn s p.1) p.2∧p.2.under nx':=by simp [zdT,AV.under,AV.underL,hcu]<;>omega) (hm:∀ p∈zbC m',zeE (zb m p.1) p.2∧p.2.under nx'∧p.1<nx':=by simp [zeE,AO.under,AV.underL,AV.under,hcu]<;>omega) :
  Le n ⟨s,m,nx⟩ ⟨s',m',nx'⟩:=zaN hn hs hm
theorem aLK {c:Cx} {st:St} {Q:Exit->St->Prop} {ι:Type} (ks:List Nat) (V:ι->List (Nat×AV)) (W:ι->List (Nat×AO)) (μ:ι->Nat) (i0:ι) {x:Code} {s0:List (Nat×AV)} {m0:List (Nat×AO)}
  (_hs:kpS ks st.s=s0) (_hm:zbC st.m=m0) (h0:Le c.bl.n st ⟨V i0++s0,W i0++m0,st.nx⟩)
  (round:∀ i,AW c x ⟨V i++s0,W i++m0,st.nx⟩ (ze (fun st'=>∃ i',Le c.bl.n st' ⟨V i'++s0,W i'++m0,st.nx⟩∧μ i'<μ i) Q)):AW c (.loop x) st Q :=zoM (fun i=>⟨V i++s0,W i++m0,st.nx⟩) μ i0 h0 round
@[simp] theorem zxs (n m:Nat):Nat.beq n m=decide (n=m):=by rw [Bool.eq_iff_iff,decide_eq_true_iff];exact ⟨Nat.eq_of_beq_eq_true,fun h=>by subst h;exact Nat.beq_refl n⟩
attribute [simp] zbC zqC
theorem boK {P : Program} {f : FuncId} (fn : Func) (h : P.funcs[f]? = some fn) (h2 : (fn.body.isSome && !(fn.name == "runtime.NumGoroutine")) = true) : ze9 P f := by
 simp only [Bool.and_eq_true,Bool.not_eq_true'] at h2;exact ⟨fn,h,h2.1,h2.2⟩
def gi (l:List Int) (n:Nat):Int:=l.getD n 0
theorem zb1 {l:List Int} {n:Nat} (h:n<l.length):(irw l)[n]?=some [I (gi l n)]:=zn2 h
theorem zgG {l:List Int} {n:Nat} (h:n<l.length):gi l n=l[n]:=by unfold gi;rw [List.getD_eq_getElem?_getD,List.getElem?_eq_getElem h];rfl
theorem zbj {n:Int} (h:0<=n∧n<=18446744073709551615):IntKind.u64.wrap n=n:=by have:IntKind.u64.wrap n=n%18446744073709551616:=rfl;rw [this];omega
def AX.start (w:FuncId->Bool):AX:=⟨fun _ _ _ _=>.none,w,true,fun _=>false⟩
theorem zmV (P:Program) (w:FuncId->Bool):XOK P (AX.start w) where
 calls:=fun f avs M nid r h=>by simp [AX.start] at h
 eqs:=fun t h=>by simp [AX.start] at h
 dom:=fun f avs M nid r h=>by simp [AX.start] at h
 anyW:=fun f _=>rfl
theorem xpM {P:Program} {X:AX} (h:XOK P X) {f:FuncId} {g:List AV->(Nat->AO)->Nat->Option (AV×List (Nat×AO))} (hw:X.writes f=true) (hg:(zbb P f g∧ze9 P f)∨zmO P f g)
  (hd:∀ avs M nid r,g avs M nid=some r->∀ b∈r.2.map (·.1),(nid<=b∧b<nid+16)∨M b≠.dead):XOK P (X.add f g) where
 calls:=fun k avs M nid r hr=>by
  simp only [AX.add] at hr ⊢;split
  ·rename_i e;subst e;exact hg
  ·rename_i e;rw [if_neg e] at hr;exact h.calls k avs M nid r hr
 eqs:=h.eqs
 dom:=fun k avs M nid r hr b hb=>by
  simp only [AX.add] at hr ⊢;split at hr
  ·rename_i e;subst e;exact (hd avs M nid r hr b hb).imp id fun h=>⟨hw,h⟩
  ·exact h.dom k avs M nid r hr b hb
 anyW:=h.anyW
def AX.W (X:AX) (w:FuncId->Bool):Prop:=X.writes=w∧X.anyW=true
theorem AX.W.add {X:AX} {w:FuncId->Bool} (h:X.W w) (f:FuncId) (g:List AV->(Nat->AO)->Nat->Option (AV×List (Nat×AO))):(X.add f g).W w:=h
theorem zat {X:AX} {w:FuncId->Bool} (h:X.W w) {ops:Array Oper}:zrM X ops=zrM (AX.start w) ops:=by obtain ⟨a,b,c,d⟩:=X;obtain ⟨h1,h2⟩:=h;simp only at h1 h2;subst h1 h2;rfl
end Go.AM
