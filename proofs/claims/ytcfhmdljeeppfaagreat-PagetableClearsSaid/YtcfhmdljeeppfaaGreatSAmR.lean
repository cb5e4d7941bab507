/- A part of the proof: what functions of the program compute, by abstract execution of their code. Its theorems hold without further condition. -/
import Derived.Test.YtcfhmdljeeppfaaGreatSAmP
set_option linter.all false
namespace Go.AM
open Go
theorem StepTo.over {w0:World} {bl:Bk} {E E1 E2:Env} {w w1 w2:World} {u u':List (Nat×AO)} (s:StepTo w0 bl E w u E1 w1) (t:StepTo w0 bl E1 w1 u' E2 w2)
  (hd:∀ b o,(b,o)∈u→b∈u'.map (·.1)→o=.dead∧E.alive b∧E1.loc b=E.loc b):StepTo w0 bl E w (u'++u) E2 w2 where
 le:=s.le.trans t.le
 inv:=t.inv
 size:=Nat.le_trans s.size t.size
 keep:=fun k hk hn=>by
  rw [t.keep k (Nat.lt_of_lt_of_le hk s.size) fun b base sz hb hm hl=>?_]
  ·exact s.keep k hk fun b base sz hb hm=>hn b base sz hb (by simp only [List.map_append,List.mem_append];exact .inr hm)
  ·by_cases h2:b∈u.map (·.1)
   ·obtain ⟨⟨b',o⟩,h3,h4⟩:=List.mem_map.1 h2
    simp only at h4
    subst h4
    obtain ⟨_,h5,h6⟩:=hd _ _ h3 hm
    rw [h6] at hl
    exact hn _ base sz h5 (by simp only [List.map_append,List.mem_append];exact .inl hm) hl
   ·rcases s.alive b hb with h1|h1
    ·rw [(s.same b h1 h2).2] at hl
     exact hn b base sz h1 (by simp only [List.map_append,List.mem_append];exact .inl hm) hl
    ·exact h2 h1
 alive:=fun b hb=>by
  simp only [List.map_append,List.mem_append]
  rcases t.alive b hb with h1|h1
  ·rcases s.alive b h1 with h2|h2
   ·exact .inl h2
   ·exact .inr (.inr h2)
  ·exact .inr (.inl h1)
 same:=fun b hb hn=>by
  simp only [List.map_append,List.mem_append,not_or] at hn
  have h1:=s.same b hb hn.2
  have h2:=t.same b (s.le.alive b hb) hn.1
  exact ⟨h2.1.trans h1.1,h2.2.trans h1.2⟩
 objs:=fun b o ho=>by
  rcases List.mem_append.1 ho with ho|ho
  ·exact t.objs b o ho
  ·have h1:=s.objs b o ho
   refine ⟨t.le.alive b h1.1,?_⟩
   by_cases h2:b∈u'.map (·.1)
   ·rw [(hd b o ho h2).1];trivial
   ·exact t.obj s.inv h1.1 h2 h1.2
def Env.lose (E:Env) (lost:List Nat):Env:={ E with ver:=fun b=>if b∈lost then E.ver b+1 else E.ver b,loc:=fun b=>if b∈lost then none else E.loc b }
theorem StepTo.lose {w0:World} {bl:Bk} {E:Env} {w w':World} (h:Inv w0 bl E w) {bs lost kept:List Nat} (hf:Frame w bs w') (hal:∀ b∈kept++lost,E.alive b) (hv:∀ b∈lost,1≤E.ver b)
  (hb:∀ k∈bs,∃ b∈kept++lost,∃ base sz,E.loc b=some (k,base,sz)):StepTo w0 bl E w ((kept++lost).map fun b=>(b,.dead)) (E.lose lost) w':=by
 have hkeys:((kept++lost).map fun b=>((b,.dead):Nat×AO)).map (·.1)=kept++lost:=by simp [Function.comp_def]
 have hbs:∀ k∈bs,k<w.heap.size∧¬ E.G k∧(w0.heap.size≤k∨k∈bl.l):=fun k hk=>by
  obtain ⟨b,h1,base,sz,h2⟩:=hb k hk
  exact h.locs b k base sz (hal b h1) h2
 have hle:E.Le (E.lose lost):=⟨fun _ hk=>hk,fun _ hb=>hb,fun b _=>by
  by_cases e:b∈lost
  ·exact .inr ⟨hv b e,by simp [Env.lose,e]⟩
  ·exact .inl (by simp [Env.lose,e])⟩
 refine ⟨hle,⟨⟨hf.os.trans h.frame.os,hf.out.trans h.frame.out,Nat.le_trans h.frame.size hf.size,fun k h1 h2=>?_⟩,h.gin.trans hle,h.low,h.gout,fun k hk=>Nat.lt_of_lt_of_le (h.good k hk) hf.size,fun b blk base sz h1 h2=>?_,fun b b' blk base sz base' sz' h1 h2 h3 h4=>?_⟩,hf.size,fun k hk hn=>?_,fun _ hb=>.inl hb,fun b _ hn=>?_,fun b o ho=>?_⟩
 ·rw [hf.old k (Nat.lt_of_lt_of_le h1 h.frame.size) fun hk=>?_]
  ·exact h.frame.old k h1 h2
  ·rcases (hbs k hk).2.2 with h3|h3
   ·omega
   ·exact h2 h3
 ·simp only [Env.lose] at h2
  split at h2
  ·simp at h2
  ·have:=h.locs b blk base sz h1 h2
   exact ⟨Nat.lt_of_lt_of_le this.1 hf.size,this.2⟩
 ·simp only [Env.lose] at h3 h4
  split at h3
  ·simp at h3
  ·split at h4
   ·simp at h4
   ·exact h.apart b b' blk base sz base' sz' h1 h2 h3 h4
 ·refine hf.old k hk fun hkb=>?_
  obtain ⟨b,h1,base,sz,h2⟩:=hb k hkb
  exact hn b base sz (hal b h1) (by rw [hkeys];exact h1) h2
 ·rw [hkeys] at hn
  have:b ∉ lost:=fun hh=>hn (by simp [hh])
  simp [Env.lose,this]
 ·simp only [List.mem_map,Prod.mk.injEq] at ho
  obtain ⟨b',h1,rfl,rfl⟩:=ho
  exact ⟨hal _ h1,trivial⟩
def isNil:AV→Bool
 | .v (.slice none 0 0)=>true
 | _=>false
theorem isNil_eq {a:AV} (h:isNil a=true):a=.v (.slice none 0 0):=by
 unfold isNil at h
 split at h
 ·rfl
 ·simp at h
def nrm (sz:Nat→Nat):Nat→List AV→List AV
 | _,[]=>[]
 | i,a::r=>(if isNil a=true then .ow (sz i) [] else a)::nrm sz (i+1) r
theorem nrm_ok {w:World} {G:Nat→Prop} {sz:Nat→Nat}:∀ {as:List AV} {i:Nat} {xs:List Value} {bl:List Nat},OLeaves w G as xs bl→OLeaves w G (nrm sz i as) xs bl
 | [],_,[],_,h=>by simpa only [OLeaves,nrm] using h
 | a::as,i,x::xs,bl,h=>by
  simp only [OLeaves,nrm] at h ⊢
  obtain ⟨b1,b2,rfl,h1,h2⟩:=h
  refine ⟨b1,b2,rfl,?_,nrm_ok h2⟩
  split
  ·rename_i hn
   have:=isNil_eq hn
   subst this
   simp only [OLeaf,CRep] at h1 ⊢
   obtain ⟨rfl,rfl⟩:=h1
   exact ⟨none,0,rfl,by simp,fun _=>rfl,.inl ⟨rfl,rfl⟩⟩
  ·exact h1
 | [],_,_::_,_,h=>by simp [OLeaves] at h
 | _::_,_,[],_,h=>by simp [OLeaves] at h
def giveArg (keep:Bool) (sz:Nat→Nat) (M:Nat→AO):AV→Option (AV×List Nat×List Nat)
 | .bp b 0=>match M b with
  | .box cs=>match leaveLeaves M cs with
   | some (rs,is)=>some (.rf (nrm sz 0 rs),[b],is)
   | none=>none
  | _=>none
 | .sl b m s o n=>match M b with
  | .vec m' s' _ xs=>if m=m'∧s=s'∧o+n≤xs.length then some (.ow s ((xs.drop o).take n),if keep then ([b],[]) else ([],[b])) else none
  | _=>none
 | .v (.slice none 0 0)=>some (.ow (sz 0) [],[],[])
 | .agg cs=>match leaveLeaves M cs with
  | some (rs,is)=>some (.agg (nrm sz 0 rs),[],is)
  | none=>none
 | _=>none
def takeArg (keep:Bool) (M:Nat→AO) (nid:Nat):AV→AV→Option (List (Nat×AO)×Nat)
 | .bp b 0,.rf cs=>match M b with
  | .box cs0=>if cs.length=cs0.length then some ((b,.box (openLeaves nid cs).1)::(openLeaves nid cs).2.1,(openLeaves nid cs).2.2) else none
  | _=>none
 | .sl _ _ _ _ _,.any=>if keep=false then some ([],nid) else none
 | .v _,_=>some ([],nid)
 | .agg _,.any=>some ([],nid)
 | _,_=>none
def callM (keep:Bool) (sz:Nat→Nat) (F:AV→List AV→Option (AV×AV)) (avs:List AV) (M:Nat→AO) (nid:Nat):Option (AV×List (Nat×AO)) :=
 match avs with
 | []=>none
 | a0::rest=>match giveArg keep sz M a0 with
  | none=>none
  | some (h0,kept,lost)=>match peekVals (fun b=>if b∈kept++lost then .dead else M b) rest with
   | none=>none
   | some rs=>match F h0 rs with
    | none=>none
    | some (r,out)=>match takeArg keep M nid a0 out with
     | none=>none
     | some (u,n1)=>if (kept++lost).Nodup∧(openRet n1 r).2.2≤nid+16 then
       some ((openRet n1 r).1,(openRet n1 r).2.1++(u++(kept++lost).map fun b=>(b,.dead))) else none
theorem leaveLeaf_ver {M:Nat→AO} {a r:AV} {ids:List Nat} {E:Env} {w:World} {x:Value} (h:leaveLeaf M a=some (r,ids)) (hr:Rep E w a x):∀ b∈ids,E.alive b∧1≤E.ver b:=by
 unfold leaveLeaf at h
 cases a<;>simp only [reduceCtorEq] at h
 case sl b m s o n =>
  simp only [Rep] at hr
  split at h
  ·split at h
   ·simp only [Option.some.injEq,Prod.mk.injEq] at h
    obtain ⟨_,rfl⟩:=h
    intro b' hb'
    simp only [List.mem_singleton] at hb'
    subst hb'
    exact ⟨hr.1,by have:=hr.2.1;have:=hr.2.2.1;omega⟩
   ·simp at h
  ·simp at h
 case mp b m =>
  simp only [Rep] at hr
  split at h
  ·split at h
   ·simp only [Option.some.injEq,Prod.mk.injEq] at h
    obtain ⟨_,rfl⟩:=h
    intro b' hb'
    simp only [List.mem_singleton] at hb'
    subst hb'
    exact ⟨hr.1,by have:=hr.2.1;have:=hr.2.2.1;omega⟩
   ·simp at h
  ·simp at h
 all_goals
  simp only [Option.some.injEq,Prod.mk.injEq] at h
  obtain ⟨_,rfl⟩:=h
  simp
theorem leaveLeaves_ver {M:Nat→AO} {E:Env} {w:World}:∀ {as rs:List AV} {ids:List Nat} {xs:List Value},leaveLeaves M as=some (rs,ids)→RepL E w as xs→∀ b∈ids,E.alive b∧1≤E.ver b
 | [],rs,ids,[],h,_=>by
  simp only [leaveLeaves,Option.some.injEq,Prod.mk.injEq] at h
  obtain ⟨_,rfl⟩:=h
  simp
 | a::as,rs,ids,x::xs,h,hr=>by
  simp only [RepL] at hr
  simp only [leaveLeaves] at h
  cases h1:leaveLeaf M a<;>simp only [h1,reduceCtorEq] at h
  rename_i p
  obtain ⟨r,i⟩:=p
  cases h2:leaveLeaves M as<;>simp only [h2,reduceCtorEq] at h
  rename_i p
  obtain ⟨rs',is⟩:=p
  simp only [Option.some.injEq,Prod.mk.injEq] at h
  obtain ⟨_,rfl⟩:=h
  intro b hb
  rcases List.mem_append.1 hb with hb|hb
  ·exact leaveLeaf_ver h1 hr.1 b hb
  ·exact leaveLeaves_ver h2 hr.2 b hb
 | [],_,_,_::_,_,hr=>by simp [RepL] at hr
 | _::_,_,_,[],_,hr=>by simp [RepL] at hr
theorem giveArg_ok {keep:Bool} {sz:Nat→Nat} {M:Nat→AO} {a r:AV} {kept lost:List Nat} {E:Env} {w:World} {x:Value} (h:giveArg keep sz M a=some (r,kept,lost)) (hr:Rep E w a x) (hM:MemOK E w M) :
  ∃ bl,OArg w E.G r x bl∧Cov E (kept++lost) bl∧(∀ b∈kept++lost,E.alive b)∧∀ b∈lost,1≤E.ver b:=by
 unfold giveArg at h
 split at h
 ·rename_i b
  have ho:=hM b (by simp only [Rep] at hr;exact hr.1)
  cases hb:M b<;>simp only [hb,reduceCtorEq] at h ho
  rename_i cs
  cases h2:leaveLeaves M cs<;>simp only [h2,reduceCtorEq] at h
  rename_i p
  obtain ⟨rs,is⟩:=p
  simp only [Option.some.injEq,Prod.mk.injEq] at h
  obtain ⟨rfl,rfl,rfl⟩:=h
  simp only [Rep] at hr
  obtain ⟨k1,k2,blk,sz,k3,rfl⟩:=hr
  simp only [ObjRep] at ho
  obtain ⟨_,blk',t,vs,q1,q2,q3,q4⟩:=ho
  rw [k3] at q1
  simp only [Option.some.injEq,Prod.mk.injEq] at q1
  obtain ⟨rfl,_,rfl⟩:=q1
  obtain ⟨b1,p1,p2⟩:=leaveLeaves_ok hM h2 q4
  have hv:=leaveLeaves_ver h2 q4
  refine ⟨blk::b1,by simp only [OArg];exact ⟨blk,t,vs,b1,rfl,rfl,q2,q3,nrm_ok p1⟩,?_,fun c hc=>?_,fun c hc=>(hv c hc).2⟩
  ·have:Cov E [b] [blk]:=⟨[b],by simp,by simp [k3],by simpa using k1⟩
   exact this.append p2
  ·rcases List.mem_append.1 hc with hc|hc
   ·simp at hc;subst hc;exact k1
   ·exact (hv c hc).1
 ·rename_i b m s o n
  cases h2:leaveLeaf M (.sl b m s o n) with
  | none =>
   exfalso
   simp only [leaveLeaf] at h2
   split at h
   ·rename_i hb
    simp only [hb] at h2
    split at h
    ·rename_i hm;rw [if_pos hm] at h2;simp at h2
    ·simp at h
   ·simp at h
  | some p =>
   obtain ⟨r',ids⟩:=p
   have hids:r'=r∧ids=[b]∧((kept=[b]∧lost=[])∨(kept=[]∧lost=[b])):=by
    simp only [leaveLeaf] at h2
    split at h
    ·rename_i hb
     simp only [hb] at h2
     split at h
     ·rename_i hm
      rw [if_pos hm] at h2
      simp only [Option.some.injEq,Prod.mk.injEq] at h h2
      refine ⟨h2.1.symm.trans h.1,h2.2.symm,?_⟩
      cases keep
      ·right;simpa [eq_comm] using h.2
      ·left;simpa [eq_comm] using h.2
     ·simp at h
    ·simp at h
   obtain ⟨rfl,rfl,hkl⟩:=hids
   obtain ⟨bl,p1,p2⟩:=leaveLeaf_ok h2 hr hM
   have hv:=leaveLeaf_ver h2 hr b (by simp)
   have hrow:∃ xs,r'=.ow s xs:=by
    simp only [leaveLeaf] at h2
    split at h2
    ·split at h2
     ·simp only [Option.some.injEq,Prod.mk.injEq] at h2;exact ⟨_,h2.1.symm⟩
     ·simp at h2
    ·simp at h2
   obtain ⟨xs,rfl⟩:=hrow
   refine ⟨bl,p1,?_,?_,?_⟩
   ·rcases hkl with ⟨rfl,rfl⟩|⟨rfl,rfl⟩<;>simpa using p2
   ·rcases hkl with ⟨rfl,rfl⟩|⟨rfl,rfl⟩<;>simpa using hv.1
   ·rcases hkl with ⟨rfl,rfl⟩|⟨rfl,rfl⟩<;>simp [hv.2]
 ·simp only [Option.some.injEq,Prod.mk.injEq] at h
  obtain ⟨rfl,rfl,rfl⟩:=h
  simp only [Rep,CRep] at hr
  subst hr
  exact ⟨[],by simp only [OArg,OVal,OLeaf];exact ⟨none,0,rfl,by simp,fun _=>rfl,.inl ⟨rfl,trivial⟩⟩,Cov.nil,by simp,by simp⟩
 ·rename_i cs
  cases h2:leaveLeaves M cs<;>simp only [h2,reduceCtorEq] at h
  rename_i p
  obtain ⟨rs,is⟩:=p
  simp only [Option.some.injEq,Prod.mk.injEq] at h
  obtain ⟨rfl,rfl,rfl⟩:=h
  simp only [Rep] at hr
  obtain ⟨vs,rfl,q1,q2⟩:=hr
  obtain ⟨b1,p1,p2⟩:=leaveLeaves_ok hM h2 q2
  have hv:=leaveLeaves_ver h2 q2
  exact ⟨b1,by simp only [OArg,OVal];exact ⟨vs,rfl,q1,nrm_ok p1⟩,by simpa using p2,fun c hc=>(hv c (by simpa using hc)).1,fun c hc=>(hv c hc).2⟩
 ·simp at h
def AV.flatO:AV→Prop
 | .rf cs=>∀ a∈cs,a.flat1
 | _=>True
theorem OLeaves.length {w:World} {G:Nat→Prop}:∀ {as:List AV} {xs:List Value} {bl:List Nat},OLeaves w G as xs bl→as.length=xs.length
 | [],[],_,_=>rfl
 | a::as,x::xs,bl,h=>by
  simp only [OLeaves] at h
  obtain ⟨_,_,_,_,h2⟩:=h
  simp [OLeaves.length h2]
 | [],_::_,_,h=>by simp [OLeaves] at h
 | _::_,[],_,h=>by simp [OLeaves] at h
theorem giveArg_v {keep:Bool} {sz:Nat→Nat} {M:Nat→AO} {y:Value} {r:AV} {kept lost:List Nat} (h:giveArg keep sz M (.v y)=some (r,kept,lost)):kept=[]∧lost=[]:=by
 unfold giveArg at h
 split at h
 ·rename_i e;simp at e
 ·rename_i e;simp at e
 ·simp only [Option.some.injEq,Prod.mk.injEq] at h;exact ⟨h.2.1.symm,h.2.2.symm⟩
 ·rename_i e;simp at e
 ·simp at h
theorem giveArg_agg {keep:Bool} {sz:Nat→Nat} {M:Nat→AO} {cs:List AV} {r:AV} {kept lost:List Nat} (h:giveArg keep sz M (.agg cs)=some (r,kept,lost)):kept=[]:=by
 simp only [giveArg] at h
 split at h
 ·simp only [Option.some.injEq,Prod.mk.injEq] at h;exact h.2.1.symm
 ·simp at h
theorem giveArg_sl {sz:Nat→Nat} {M:Nat→AO} {b m s o n:Nat} {r:AV} {kept lost:List Nat} (h:giveArg false sz M (.sl b m s o n)=some (r,kept,lost)):kept=[]:=by
 simp only [giveArg] at h
 split at h
 ·split at h
  ·simp at h;exact h.2.1
  ·simp at h
 ·simp at h
theorem giveArg_bp {keep:Bool} {sz:Nat→Nat} {M:Nat→AO} {b:Nat} {r:AV} {kept lost:List Nat} (h:giveArg keep sz M (.bp b 0)=some (r,kept,lost)):kept=[b]:=by
 simp only [giveArg] at h
 split at h
 ·split at h
  ·simp at h;exact h.2.1.symm
  ·simp at h
 ·simp at h
theorem MSound.callM {P:Program} {f:FuncId} {F:AV→List AV→Option (AV×AV)} (h:MSound P f F) (hfl:∀ a0 avs r out,F a0 avs=some (r,out)→r.flat∧out.flatO) {keep:Bool} {sz:Nat→Nat}:CallOK P f (callM keep sz F):=by
 intro avs M nid av u hc w0 bl E w args hr hM hI hnid
 obtain ⟨args⟩:=args
 cases avs with
 | nil=>simp [AM.callM] at hc
 | cons a0 rest =>
 cases args with
 | nil=>simp [RepL] at hr
 | cons x0 xs =>
 simp only [RepL] at hr
 obtain ⟨hr0,hrr⟩:=hr
 simp only [AM.callM] at hc
 cases hg:giveArg keep sz M a0<;>simp only [hg,reduceCtorEq] at hc
 rename_i p
 obtain ⟨h0,kept,lost⟩:=p
 simp only at hc
 cases hp:peekVals (fun b=>if b∈kept++lost then .dead else M b) rest<;>simp only [hp,reduceCtorEq] at hc
 rename_i rs
 cases hF:F h0 rs<;>simp only [hF,reduceCtorEq] at hc
 rename_i p
 obtain ⟨r,out⟩:=p
 simp only at hc
 cases ht:takeArg keep M nid a0 out<;>simp only [ht,reduceCtorEq] at hc
 rename_i p
 obtain ⟨ut,n1⟩:=p
 simp only at hc
 split at hc
 case isFalse=>simp at hc
 rename_i hcond
 obtain ⟨hidn,hle⟩:=hcond
 simp only [Option.some.injEq,Prod.mk.injEq] at hc
 obtain ⟨rfl,rfl⟩:=hc
 obtain ⟨bs,g1,g2,g3,g4⟩:=giveArg_ok hg hr0 hM
 have hbn:=g2.nodup hI hidn
 have hbs:∀ k∈bs,k<w.heap.size∧¬ E.G k∧(w0.heap.size≤k∨k∈bl.l):=fun k hk=>by
  obtain ⟨b,_,base,sz,h1,h2⟩:=g2.mem hk
  exact hI.locs b k base sz h1 h2
 have hM0:MemOK E w (fun b=>if b∈kept++lost then .dead else M b):=fun b hb=>by
  show ObjRep E w b (if b∈kept++lost then AO.dead else M b)
  split
  ·trivial
  ·exact hM b hb
 have hown:∀ b blk base sz,E.alive b→E.loc b=some (blk,base,sz)→blk∈bs→b∈kept++lost:=fun b blk base sz hb hl hk=>by
  obtain ⟨b',h1,base',sz',h2,h3⟩:=g2.mem hk
  rw [hI.apart b b' blk base sz base' sz' hb h2 hl h3]
  exact h1
 have hpk:=peekVals_ok (G:=fun k=>k<w.heap.size∧k ∉ bs) (fun k hk=>⟨hI.good k hk,fun hkb=>(hbs k hkb).2.1 hk⟩) (fun b blk base sz hb hd hl=>⟨(hI.locs b blk base sz hb hl).1,fun hk=>by
  have:=hown b blk base sz hb hl hk
  exact hd (by simp only [this,if_true])⟩) hM0 hp hrr
 refine (h w _ x0 xs h0 rs bs r out hF (fun k hk=>hk.1) (g1.mono fun k hk=>⟨hI.good k hk,fun hkb=>(hbs k hkb).2.1 hk⟩) hpk hbn (fun k hk=>⟨(hbs k hk).1,fun hh=>hh.2 hk⟩)).mono fun e w' ⟨x,G',b1,b2,he,hf,ho1,ho2,hnd,hb⟩=>?_
 obtain ⟨hflr,hflo⟩:=hfl h0 rs r out hF
 have ho2:=hflr.oret (G':=E.G) ho2
 obtain ⟨nd1,nd2,nd3⟩:=List.nodup_append.1 hnd
 have stA:=StepTo.lose hI hf (lost:=lost) (kept:=kept) g3 g4 fun k hk=>by
  obtain ⟨b,h1,base,sz,_,h2⟩:=g2.mem hk
  exact ⟨b,h1,base,sz,h2⟩
 have hkA:((kept++lost).map fun b=>((b,.dead):Nat×AO)).map (·.1)=kept++lost:=by simp [Function.comp_def]
 have hspare:∀ k∈b1++b2,(∀ b∈kept,∀ base sz,E.loc b≠some (k,base,sz))→k<w'.heap.size∧¬ (E.lose lost).G k∧(w0.heap.size≤k∨k∈bl.l)∧∀ b base sz,(E.lose lost).alive b→(E.lose lost).loc b≠some (k,base,sz):=fun k hk hkept=>by
  have h1:=hb k hk
  refine ⟨h1.1,fun hg=>?_,?_,fun b base sz hb' hl=>?_⟩
  ·rcases h1.2 with h2|h2
   ·have:=hI.good k hg;omega
   ·exact (hbs k h2).2.1 hg
  ·rcases h1.2 with h2|h2
   ·exact .inl (Nat.le_trans hI.frame.size h2)
   ·exact (hbs k h2).2.2
  ·simp only [Env.lose] at hl
   split at hl
   ·simp at hl
   ·rename_i hnl
    rcases h1.2 with h2|h2
    ·have:=(hI.locs b k base sz hb' hl).1;omega
    ·rcases List.mem_append.1 (hown b k base sz hb' hl h2) with h3|h3
     ·exact hkept b h3 base sz hl
     ·exact hnl h3
 have hfresh:∀ k,nid≤k→k<nid+16→¬ (E.lose lost).alive k:=fun k h1 h2=>hnid k h1 h2
 have hidlt:∀ b∈kept++lost,¬ (nid≤b∧b<nid+16):=fun b hb hh=>hnid b hh.1 hh.2 (g3 b hb)
 have easy:kept=[]→ut=[]→n1=nid→∃ x E',e=.returned x∧StepTo w0 bl E w ((openRet n1 r).2.1++(ut++(kept++lost).map fun b=>(b,.dead))) E' w'∧Rep E' w' (openRet n1 r).1 x:=fun hk hu hn=>by
  subst hk hu hn
  obtain ⟨E',o,hx⟩:=openRet_ok stA.inv (nid:=n1) (a:=r) (fun k p q=>hfresh k p (by omega)) ho2 (fun k hk=>hspare k (by simp [hk]) (by simp)) nd2
  refine ⟨x,E',he,?_,hx⟩
  have:=stA.over o.step fun b p hbp hbk=>by
   have h1:b∈([]:List Nat)++lost:=by rw [← hkA];exact List.mem_map.2 ⟨_,hbp,rfl⟩
   have:=o.keys b hbk
   exact absurd ⟨this.1,by omega⟩ (hidlt b h1)
  simpa using this
 unfold takeArg at ht
 split at ht
 ·rename_i b cs _x
  split at ht
  case h_2=>simp at ht
  rename_i cs0 hMb
  split at ht
  case isFalse=>simp at ht
  rename_i hcl
  simp only [Option.some.injEq,Prod.mk.injEq] at ht
  obtain ⟨rfl,rfl⟩:=ht
  have hkb:=giveArg_bp hg
  subst hkb
  simp only [Rep] at hr0
  obtain ⟨q1,q2,blk,sz',q3,rfl⟩:=hr0
  have hob:=hM b q1
  rw [hMb] at hob
  simp only [ObjRep] at hob
  obtain ⟨_,blk0,t0,us,p1,p2,p3,p4⟩:=hob
  rw [q3] at p1
  simp only [Option.some.injEq,Prod.mk.injEq,true_and] at p1
  obtain ⟨rfl,rfl⟩:=p1
  simp only [OArg] at ho1
  obtain ⟨blk',t,vs,b1',e1,rfl,j1,j2,j3⟩:=ho1
  simp only [Value.pointer.injEq,Option.some.injEq,Addr.mk.injEq,and_true] at e1
  subst e1
  have j3:=flat_leaves (G':=E.G) hflo j3
  have hlen:vs.length=us.length:=by rw [← j3.length,hcl,p4.length]
  have nd1':=List.nodup_cons.1 nd1
  have hnb:∀ k,k≠blk→∀ c∈[b],∀ base sz,E.loc c≠some (k,base,sz):=fun k hk c hc base sz hl=>by
   simp only [List.mem_singleton] at hc
   subst hc
   rw [q3] at hl
   simp only [Option.some.injEq,Prod.mk.injEq] at hl
   exact hk hl.1.symm
  have hle1:(openLeaves nid cs).2.2≤nid+16:=by have:=openRet_keys (nid:=(openLeaves nid cs).2.2) (a:=r);exact Nat.le_trans (openRet_le) hle
  obtain ⟨E2,oL,rL⟩:=openLeaves_ok (as:=cs) stA.inv (nid:=nid) (fun k p q=>hfresh k p (by omega)) j3 (fun k hk=>hspare k (by simp [hk]) (hnb k fun e=>by subst e;exact nd1'.1 hk)) nd1'.2
  have hbl:b ∉ lost:=fun hh=>by simp at hidn;exact hidn.1 hh
  have hbk:b ∉ (openLeaves nid cs).2.1.map (·.1):=fun hh=>by
   have:=oL.keys b hh
   exact hidlt b (by simp) ⟨this.1,by omega⟩
  have hsame:=oL.step.same b q1 hbk
  have hloc:E2.loc b=some (blk,0,us.length):=by rw [hsame.2];simp only [Env.lose,hbl,if_false];exact q3
  have hver:E2.ver b=0:=by rw [hsame.1];simp only [Env.lose,hbl,if_false];exact q2
  have stR:=StepTo.retell oL.step.inv (b:=b) (o:=.box (openLeaves nid cs).1) (oL.step.le.alive b q1) (by
   simp only [ObjRep]
   exact ⟨hver,blk,t,vs,by rw [hlen];exact hloc,j1,j2,rL⟩)
  obtain ⟨E3,oR,hx⟩:=openRet_ok stR.inv (nid:=(openLeaves nid cs).2.2) (a:=r) (oL.fresh fun k p q=>hfresh k p (by omega)) (by rw [oL.G];exact ho2) (fun k hk=>by
   have h1:=hspare k (by simp [hk]) (hnb k fun e=>by subst e;exact nd3 k (by simp) k hk rfl)
   refine ⟨h1.1,by rw [oL.G];exact h1.2.1,h1.2.2.1,fun b' base sz hb' hl=>?_⟩
   rcases oL.locs b' base sz k hb' hl with ⟨h2,h3⟩|h2
   ·exact h1.2.2.2 b' base sz h2 h3
   ·exact nd3 k (by simp [h2]) k hk rfl) nd2
  refine ⟨x,E3,he,?_,hx⟩
  have s1:=stA.over oL.step fun c p hcp hck=>by
   have h1:c∈[b]++lost:=by rw [← hkA];exact List.mem_map.2 ⟨_,hcp,rfl⟩
   have:=oL.keys c hck
   exact absurd ⟨this.1,by omega⟩ (hidlt c h1)
  have s2:=s1.over stR fun c p hcp hck=>by
   simp only [List.map_cons,List.map_nil,List.mem_singleton] at hck
   subst hck
   refine ⟨?_,q1,by rw [hloc,q3]⟩
   rcases List.mem_append.1 hcp with h1|h1
   ·exact absurd (List.mem_map.2 ⟨_,h1,rfl⟩) hbk
   ·simp only [List.mem_map,Prod.mk.injEq] at h1
    obtain ⟨_,_,_,e⟩:=h1
    exact e.symm
  have s3:=s2.over oR.step fun c p hcp hck=>by
   have h2:=oR.keys c hck
   have h3:c∈([(b,AO.box (openLeaves nid cs).1)]++((openLeaves nid cs).2.1++([b]++lost).map fun b=>((b,.dead):Nat×AO))).map (·.1):=List.mem_map.2 ⟨_,hcp,rfl⟩
   simp only [List.map_append,List.mem_append,List.map_cons,List.map_nil,List.mem_singleton] at h3
   exfalso
   rcases h3 with h3|h3|h3
   ·subst h3;exact hidlt c (by simp) ⟨by have:=oL.le;omega,by have:=openRet_keys c hck;omega⟩
   ·have:=oL.keys c h3;omega
   ·have h4:c∈[b]++lost:=by simpa [Function.comp_def] using h3
    exact hidlt c h4 ⟨by have:=oL.le;omega,by have:=openRet_keys c hck;omega⟩
  simpa using s3
 ·rename_i b m s o n
  split at ht
  case isFalse=>simp at ht
  rename_i hk
  subst hk
  simp only [Option.some.injEq,Prod.mk.injEq] at ht
  obtain ⟨rfl,rfl⟩:=ht
  exact easy (giveArg_sl hg) rfl rfl
 ·simp only [Option.some.injEq,Prod.mk.injEq] at ht
  obtain ⟨rfl,rfl⟩:=ht
  exact easy (giveArg_v hg).1 rfl rfl
 ·simp only [Option.some.injEq,Prod.mk.injEq] at ht
  obtain ⟨rfl,rfl⟩:=ht
  exact easy (giveArg_agg hg) rfl rfl
 ·simp at ht
attribute [simp] giveArg takeArg callM nrm isNil openArg leaveArg
theorem leaveLeaf_keys {M:Nat→AO} {a r:AV} {ids:List Nat} (h:leaveLeaf M a=some (r,ids)):∀ b∈ids,M b≠.dead:=by
  unfold leaveLeaf at h
  split at h
  · split at h
    · rename_i hMb
      split at h
      · simp only [Option.some.injEq,Prod.mk.injEq] at h
        obtain ⟨_,rfl⟩:=h
        intro k hk
        simp at hk
        subst hk
        rw [hMb];simp
      · simp at h
    · simp at h
  all_goals first
    | (simp only [Option.some.injEq,Prod.mk.injEq] at h
       obtain ⟨_,rfl⟩:=h
       simp;done)
    | (simp at h;done)
    | skip
  split at h
  · rename_i hMb
    split at h
    · simp only [Option.some.injEq,Prod.mk.injEq] at h
      obtain ⟨_,rfl⟩:=h
      intro k hk
      simp at hk
      subst hk
      rw [hMb];simp
    · simp at h
  · simp at h
theorem leaveLeaves_keys {M:Nat→AO}:∀ {as rs:List AV} {ids:List Nat},leaveLeaves M as=some (rs,ids)→∀ b∈ids,M b≠.dead
 | [],rs,ids,h=>by
  simp only [leaveLeaves,Option.some.injEq,Prod.mk.injEq] at h
  obtain ⟨_,rfl⟩:=h
  simp
 | a::as,rs,ids,h=>by
  simp only [leaveLeaves] at h
  cases h1:leaveLeaf M a<;>simp only [h1,reduceCtorEq] at h
  rename_i p
  obtain ⟨r,i⟩:=p
  cases h2:leaveLeaves M as<;>simp only [h2,reduceCtorEq] at h
  rename_i p
  obtain ⟨rs',is⟩:=p
  simp only [Option.some.injEq,Prod.mk.injEq] at h
  obtain ⟨_,rfl⟩:=h
  intro b hb
  rcases List.mem_append.1 hb with hb|hb
  ·exact leaveLeaf_keys h1 b hb
  ·exact leaveLeaves_keys h2 b hb
theorem giveArg_keys {keep:Bool} {sz:Nat→Nat} {M:Nat→AO} {a r:AV} {kept lost:List Nat} (h:giveArg keep sz M a=some (r,kept,lost)):∀ b∈kept++lost,M b≠.dead:=by
 unfold giveArg at h
 split at h
 ·split at h
  ·rename_i hMb
   split at h
   ·rename_i h2
    simp only [Option.some.injEq,Prod.mk.injEq] at h
    obtain ⟨_,rfl,rfl⟩:=h
    intro k hk
    rcases List.mem_append.1 hk with hk|hk
    ·simp at hk;subst hk;rw [hMb];simp
    ·exact leaveLeaves_keys h2 k hk
   ·simp at h
  ·simp at h
 ·split at h
  ·rename_i hMb
   split at h
   ·simp only [Option.some.injEq,Prod.mk.injEq] at h
    intro k hk
    cases keep
    all_goals
     simp at h
     obtain ⟨_,rfl,rfl⟩:=h
     simp at hk
     subst hk
     rw [hMb];simp
   ·simp at h
  ·simp at h
 ·simp only [Option.some.injEq,Prod.mk.injEq] at h
  obtain ⟨_,rfl,rfl⟩:=h
  simp
 ·split at h
  ·rename_i h2
   simp only [Option.some.injEq,Prod.mk.injEq] at h
   obtain ⟨_,rfl,rfl⟩:=h
   intro k hk
   exact leaveLeaves_keys h2 k (by simpa using hk)
  ·simp at h
 ·simp at h
theorem takeArg_keys {keep:Bool} {M:Nat→AO} {nid n:Nat} {a o:AV} {u:List (Nat×AO)} (h:takeArg keep M nid a o=some (u,n)):nid≤n∧∀ b∈u.map (·.1),(nid≤b∧b<n)∨M b≠.dead:=by
 unfold takeArg at h
 split at h
 ·split at h
  ·rename_i hMb
   split at h
   ·simp only [Option.some.injEq,Prod.mk.injEq] at h
    obtain ⟨rfl,rfl⟩:=h
    refine ⟨openLeaves_le,fun k hk=>?_⟩
    simp only [List.map_cons,List.mem_cons] at hk
    rcases hk with rfl|hk
    ·right;rw [hMb];simp
    ·exact .inl (openLeaves_keys k hk)
   ·simp at h
  ·simp at h
 ·split at h
  ·simp only [Option.some.injEq,Prod.mk.injEq] at h;obtain ⟨rfl,rfl⟩:=h;simp
  ·simp at h
 ·simp only [Option.some.injEq,Prod.mk.injEq] at h;obtain ⟨rfl,rfl⟩:=h;simp
 ·simp only [Option.some.injEq,Prod.mk.injEq] at h;obtain ⟨rfl,rfl⟩:=h;simp
 ·simp at h
theorem callM_keys {keep:Bool} {sz:Nat→Nat} {F:AV→List AV→Option (AV×AV)} {avs:List AV} {M:Nat→AO} {nid:Nat} {r:AV×List (Nat×AO)} (h:callM keep sz F avs M nid=some r):∀ b∈r.2.map (·.1),(nid≤b∧b<nid+16)∨M b≠.dead:=by
 cases avs with
 | nil=>simp [AM.callM] at h
 | cons a0 rest =>
 simp only [AM.callM] at h
 cases hg:giveArg keep sz M a0<;>simp only [hg,reduceCtorEq] at h
 rename_i p
 obtain ⟨h0,kept,lost⟩:=p
 simp only at h
 cases hp:peekVals (fun b=>if b∈kept++lost then .dead else M b) rest<;>simp only [hp,reduceCtorEq] at h
 rename_i rs
 cases hF:F h0 rs<;>simp only [hF,reduceCtorEq] at h
 rename_i p
 obtain ⟨q,out⟩:=p
 simp only at h
 cases ht:takeArg keep M nid a0 out<;>simp only [ht,reduceCtorEq] at h
 rename_i p
 obtain ⟨ut,n1⟩:=p
 simp only at h
 split at h
 case isFalse=>simp at h
 rename_i hcond
 simp only [Option.some.injEq] at h
 subst h
 obtain ⟨ht1,ht2⟩:=takeArg_keys ht
 intro b hb
 simp only [List.map_append,List.mem_append] at hb
 rcases hb with hb|hb|hb
 ·have:=openRet_keys b hb;exact .inl (by omega)
 ·rcases ht2 b hb with h1|h1
  ·have:n1≤(openRet n1 q).2.2:=openRet_le
   exact .inl (by omega)
  ·exact .inr h1
 ·have:b∈kept++lost:=by simpa [Function.comp_def] using hb
  exact .inr (giveArg_keys hg b this)
noncomputable def specM {ι:Type} (A0:ι→AV) (A:ι→List AV) (R O:ι→AV) (a0:AV) (avs:List AV):Option (AV×AV) :=
 open Classical in if h:∃ i,A0 i=a0∧A i=avs then some (R h.choose,O h.choose) else none
theorem specM_eq {ι:Type} {A0:ι→AV} {A:ι→List AV} {R O:ι→AV} (i:ι) (h:∀ j,A0 j=A0 i→A j=A i→R j=R i∧O j=O i):specM A0 A R O (A0 i) (A i)=some (R i,O i):=by
 unfold specM
 have hex:∃ j,A0 j=A0 i∧A j=A i:=⟨i,rfl,rfl⟩
 rw [dif_pos hex]
 have:=h _ hex.choose_spec.1 hex.choose_spec.2
 rw [this.1,this.2]
theorem specM_some {ι:Type} {A0:ι→AV} {A:ι→List AV} {R O:ι→AV} {a0:AV} {avs:List AV} {r o:AV} (h:specM A0 A R O a0 avs=some (r,o)):∃ i,A0 i=a0∧A i=avs∧R i=r∧O i=o:=by
 unfold specM at h
 split at h
 ·rename_i hh
  simp only [Option.some.injEq,Prod.mk.injEq] at h
  exact ⟨_,hh.choose_spec.1,hh.choose_spec.2,h.1,h.2⟩
 ·simp at h
theorem msound_spec {ι:Type} {A0:ι→AV} {A:ι→List AV} {rl:ι→List AV} {O:ι→AV} {P:Program} {f:FuncId} {fn:Func} {c:Code} (hf:P.funcs[f]?=some fn) (hb:fn.body=some c) (X:AX)
  (h:∀ (i:ι) (w0:World) (bl:List Nat) (E:Env),(A i).length+1≤fn.ntmps∧(rl i).length=fn.results.size ∧
   AW ⟨P,X,fn.ntmps,w0,⟨bl,E,(openArg 0 (A0 i)).2.2⟩⟩ c ⟨enterS ((openArg 0 (A0 i)).1::A i),(openArg 0 (A0 i)).2.1,(openArg 0 (A0 i)).2.2⟩ (fun e st=>(e=.normal∨e=.ret)∧LeavesM (Types P) fn.results.toList st (openArg 0 (A0 i)).1 (rl i) (O i))) :
  MSound P f (specM A0 A (fun i=>retOf (rl i)) O) :=
 msound_of hf hb rfl fun w0 bl E a0 avs r out hr=>by
  obtain ⟨i,rfl,rfl,rfl,rfl⟩:=specM_some hr
  have:=h i w0 bl E
  exact ⟨this.1,rl i,rfl,this.2.1,X,this.2.2⟩
theorem leavesM_any {T:TypeId→Option TD} {rv:List ResultVar} {st:St} {a0:AV} {r:List AV} (h:Leaves T rv st r):LeavesM T rv st a0 r .any:=by
 obtain ⟨as,rs,ids,h1,h2,h3,h4⟩:=h
 exact ⟨as,rs,ids,.any,[],h1,h2,.inr ⟨rfl,rfl⟩,by simpa using h3,h4,.inl rfl⟩
end Go.AM
