/- A part of the proof: what functions of the program compute, by abstract execution of their code. Its theorems hold without further condition. -/
import Derived.Test.YtcfhmdljeeppfaaGreatAAmO
import Derived.Laws.Externs
set_option linter.all false
namespace Go.AM
open Go
def OArg (w:World) (G:Nat→Prop):AV→Value→List Nat→Prop
 | .rf cs,x,bl=>∃ blk t vs b1,x=.pointer (some ⟨blk,0,none⟩)∧bl=blk::b1∧w.heap[blk]?=some (.cells (List.toArray vs) t (0,0))∧(∀ y∈vs,y.oneCell'=true)∧OLeaves w G cs vs b1
 | a,x,bl=>OVal w G a x bl
def MSound (P:Program) (f:FuncId) (F:AV→List AV→Option (AV×AV)):Prop :=
 ∀ (w:World) (G:Nat→Prop) (x0:Value) (args:List Value) (a0:AV) (avs:List AV) (bl:List Nat) (r out:AV),F a0 avs=some (r,out)→(∀ k,G k→k<w.heap.size)→OArg w G a0 x0 bl→CRepL w G avs args →
  bl.Nodup→(∀ k∈bl,k<w.heap.size∧¬ G k) →
  Calls P f (x0::args).toArray w fun e w'=>∃ x G' b1 b2,e=.returned x∧Frame w bl w'∧OArg w' G' out x0 b1∧ORet w' G' r x b2∧(b1++b2).Nodup∧∀ k∈b1++b2,k<w'.heap.size∧(w.heap.size≤k∨k∈bl)
def openArg (nid:Nat):AV→AV×List (Nat×AO)×Nat
 | .rf cs=>(.bp (openLeaves nid cs).2.2 0,(openLeaves nid cs).2.1++[((openLeaves nid cs).2.2,.box (openLeaves nid cs).1)],(openLeaves nid cs).2.2+1)
 | a=>openVal nid a
theorem Opens.congr {w0:World} {bl:Bk} {E E':Env} {w:World} {nid n:Nat} {u:List (Nat×AO)} {bs bs':List Nat} (o:Opens w0 bl E w nid n u bs E') (h:∀ k,k∈bs↔k∈bs'):Opens w0 bl E w nid n u bs' E' :=
 ⟨o.step,o.le,o.keys,o.G,fun b base sz k hb hl=>(o.locs b base sz k hb hl).imp id (h k).1⟩
theorem openArg_ok {w0:World} {bl:Bk} {E:Env} {w:World} (hI:Inv w0 bl E w) {nid:Nat} {a:AV} (hn:∀ k,nid≤k→k<(openArg nid a).2.2→¬ E.alive k) {x:Value} {bs:List Nat} (h:OArg w E.G a x bs) (hs:Spare w0 bl E w bs) (hnd:bs.Nodup) :
  ∃ E',Opens w0 bl E w nid (openArg nid a).2.2 (openArg nid a).2.1 bs E'∧Rep E' w (openArg nid a).1 x:=by
 by_cases ha:∃ cs,a=.rf cs
 ·obtain ⟨cs,rfl⟩:=ha
  simp only [OArg] at h
  obtain ⟨blk,t,vs,b1,rfl,rfl,h1,h2,h3⟩:=h
  have hnd':=List.nodup_cons.1 hnd
  simp only [openArg] at hn ⊢
  obtain ⟨E1,o,r⟩:=openLeaves_ok hI (nid:=nid) (as:=cs) (fun k p q=>hn k p (by omega)) h3 (fun k hk=>hs k (by simp [hk])) hnd'.2
  have hna:=o.fresh hn (openLeaves nid cs).2.2 (Nat.le_refl _) (by omega)
  have hsp:=o.spare (bs':=[blk]) (fun k hk=>hs k (by simp at hk;simp [hk])) (fun k p q=>by simp at q;subst q;exact hnd'.1 p) blk (by simp)
  have ho:ObjRep (E1.upd (openLeaves nid cs).2.2 0 (some (blk,0,vs.length))) w (openLeaves nid cs).2.2 (.box (openLeaves nid cs).1):=by
   simp only [ObjRep]
   refine ⟨by simp [Env.upd],blk,t,vs,by simp [Env.upd],h1,h2,?_⟩
   exact r.mono (Env.le_upd fun hh=>absurd hh hna) fun _ _=>rfl
  have st:=StepTo.adopt o.step.inv (openLeaves nid cs).2.2 _ 0 (some (blk,0,vs.length)) hna (fun blk' base' sz' e=>by
   simp only [Option.some.injEq,Prod.mk.injEq] at e
   rw [← e.1];exact hsp) ho
  refine ⟨_,(o.trans (n2:=(openLeaves nid cs).2.2+1) (bs':=[blk]) ⟨st,by omega,fun b hb=>?_,rfl,fun b base sz k hb hl=>?_⟩).congr (by intro k;simp [or_comm]),?_⟩
  ·simp only [List.map_cons,List.map_nil,List.mem_singleton] at hb;omega
  ·by_cases e:b=(openLeaves nid cs).2.2
   ·subst e;simp only [Env.upd,if_true,Option.some.injEq,Prod.mk.injEq] at hl;exact .inr (by simp [hl.1])
   ·simp only [Env.upd,e,if_false,or_false] at hb hl
    exact .inl ⟨hb,hl⟩
  ·simp only [Rep]
   exact ⟨.inr rfl,by simp [Env.upd],blk,vs.length,by simp [Env.upd],rfl⟩
 ·have e:openArg nid a=openVal nid a:=by cases a<;>first|rfl|exact absurd ⟨_,rfl⟩ ha
  have h2:OVal w E.G a x bs:=by cases a<;>first|exact h|exact absurd ⟨_,rfl⟩ ha
  rw [e] at hn ⊢
  exact openVal_ok hI hn h2 hs hnd
def leaveArg (M:Nat→AO):AV→Option (AV×List Nat)
 | .bp b 0=>match M b with
  | .box cs=>match leaveLeaves M cs with
   | some (rs,is)=>some (.rf rs,b::is)
   | none=>none
  | _=>none
 | .sl b m s o n=>match leaveLeaf M (.sl b m s o n) with
  | some r=>some r
  | none=>some (.any,[])
 | _=>some (.any,[])
theorem leaveArg_ok {M:Nat→AO} {a r:AV} {ids:List Nat} {E:Env} {w:World} {x:Value} (h:leaveArg M a=some (r,ids)) (hr:Rep E w a x) (hM:MemOK E w M):∃ bl,OArg w E.G r x bl∧Cov E ids bl:=by
 have hany:some (AV.any,([]:List Nat))=some (r,ids)→∃ bl,OArg w E.G r x bl∧Cov E ids bl:=fun e=>by
  simp only [Option.some.injEq,Prod.mk.injEq] at e
  obtain ⟨rfl,rfl⟩:=e
  exact ⟨[],by simp only [OArg,OVal,OLeaf,CRep];exact ⟨trivial,trivial⟩,Cov.nil⟩
 unfold leaveArg at h
 split at h
 ·rename_i b
  have ho:=hM b (by simp only [Rep] at hr;exact hr.1)
  cases hb:M b<;>simp only [hb,reduceCtorEq] at h ho
  rename_i cs
  cases h2:leaveLeaves M cs<;>simp only [h2,reduceCtorEq] at h
  rename_i p
  obtain ⟨rs,is⟩:=p
  simp only [Option.some.injEq,Prod.mk.injEq] at h
  obtain ⟨rfl,rfl⟩:=h
  simp only [Rep] at hr
  obtain ⟨k1,k2,blk,sz,k3,rfl⟩:=hr
  simp only [ObjRep] at ho
  obtain ⟨_,blk',t,vs,q1,q2,q3,q4⟩:=ho
  rw [k3] at q1
  simp only [Option.some.injEq,Prod.mk.injEq] at q1
  obtain ⟨rfl,_,rfl⟩:=q1
  obtain ⟨b1,p1,p2⟩:=leaveLeaves_ok hM h2 q4
  refine ⟨blk::b1,by simp only [OArg];exact ⟨blk,t,vs,b1,rfl,rfl,q2,q3,p1⟩,?_⟩
  have:Cov E [b] [blk]:=⟨[b],by simp,by simp [k3],by simpa using k1⟩
  exact this.append p2
 ·rename_i b m s o n
  cases h2:leaveLeaf M (.sl b m s o n)<;>simp only [h2] at h
  ·exact hany h
  ·simp only [Option.some.injEq] at h
   subst h
   obtain ⟨bl,p1,p2⟩:=leaveLeaf_ok h2 hr hM
   refine ⟨bl,?_,p2⟩
   unfold leaveLeaf at h2
   simp only at h2
   split at h2
   ·split at h2
    ·simp only [Option.some.injEq,Prod.mk.injEq] at h2
     obtain ⟨rfl,_⟩:=h2
     exact p1
    ·simp at h2
   ·simp at h2
 ·exact hany h
theorem OLeaves.mono {w:World} {G G':Nat→Prop} (hG:∀ k,G k→G' k):∀ {as:List AV} {xs:List Value} {bl:List Nat},OLeaves w G as xs bl→OLeaves w G' as xs bl
 | [],[],_,h=>by simpa only [OLeaves] using h
 | a::as,x::xs,bl,h=>by
  simp only [OLeaves] at h ⊢
  obtain ⟨b1,b2,e,h1,h2⟩:=h
  exact ⟨b1,b2,e,h1.mono hG,OLeaves.mono hG h2⟩
 | [],_::_,_,h=>by simp [OLeaves] at h
 | _::_,[],_,h=>by simp [OLeaves] at h
theorem OVal.mono {w:World} {G G':Nat→Prop} (hG:∀ k,G k→G' k) {a:AV} {x:Value} {bl:List Nat} (h:OVal w G a x bl):OVal w G' a x bl:=by
 by_cases hc:∃ cs,a=.agg cs
 ·obtain ⟨cs,rfl⟩:=hc
  simp only [OVal] at h ⊢
  obtain ⟨vs,h1,h2,h3⟩:=h
  exact ⟨vs,h1,h2,OLeaves.mono hG h3⟩
 ·have h1:OLeaf w G a x bl:=by cases a<;>first|exact h|exact absurd ⟨_,rfl⟩ hc
  have h2:=OLeaf.mono hG h1
  cases a<;>first|exact h2|exact absurd ⟨_,rfl⟩ hc
theorem OArg.mono {w:World} {G G':Nat→Prop} (hG:∀ k,G k→G' k) {a:AV} {x:Value} {bl:List Nat} (h:OArg w G a x bl):OArg w G' a x bl:=by
 by_cases hc:∃ cs,a=.rf cs
 ·obtain ⟨cs,rfl⟩:=hc
  simp only [OArg] at h ⊢
  obtain ⟨blk,t,vs,b1,h1,h2,h3,h4,h5⟩:=h
  exact ⟨blk,t,vs,b1,h1,h2,h3,h4,OLeaves.mono hG h5⟩
 ·have h1:OVal w G a x bl:=by cases a<;>first|exact h|exact absurd ⟨_,rfl⟩ hc
  have h2:=OVal.mono hG h1
  cases a<;>first|exact h2|exact absurd ⟨_,rfl⟩ hc
theorem OArg.of_le {w:World} {G:Nat→Prop} {a a':AV} {x:Value} {bl:List Nat} (h:OArg w G a x bl) (he:a'=a∨a'=.any):∃ bl',bl'.Sublist bl∧OArg w G a' x bl':=by
 rcases he with rfl|rfl
 ·exact ⟨bl,List.Sublist.refl _,h⟩
 ·exact ⟨[],by simp,by simp only [OArg,OVal,OLeaf,CRep];exact ⟨trivial,trivial⟩⟩
def LeavesM (T:TypeId→Option TD) (rv:List ResultVar) (st:St) (a0:AV) (r:List AV) (out:AV):Prop :=
 ∃ as rs ids o is,aResults T st rv=some as∧leaveVals (getM st.m) as=some (rs,ids)∧(leaveArg (getM st.m) a0=some (o,is)∨(o=.any∧is=[]))∧(is++ids).Nodup∧SLeVs rs r∧(out=o∨out=.any)
theorem getM_updM {u:List (Nat×AO)} {b:Nat}:updM (fun _=>.dead) u b=getM u b:=by
 induction u with
 | nil=>rfl
 | cons p r ih=>obtain ⟨k,o⟩:=p;simp only [updM,getM,ih]
theorem getS_enter0 {a:AV} {avs:List AV} {t:Nat}:getS (enterS (a::avs)) t=((a::avs)[t]?).getD .any:=by
 rw [enterS,getS_enter]
 simp
theorem msound_body {P:Program} {X:AX} {f:FuncId} {fn:Func} {c:Code} {N:Nat} (hf:P.funcs[f]?=some fn) (hb:fn.body=some c) (hN:fn.ntmps=N) {w:World} {G:Nat→Prop} {x0:Value} {args:List Value} {avs:List AV} {bl:List Nat} {r out:AV} (hargs:CRepL w G avs args)
  (hbl:∀ k∈bl,k<w.heap.size∧¬ G k) {E1:Env} {a1:AV} {u1:List (Nat×AO)} {n1:Nat} (hI:Inv w ⟨bl,Env.start G,0⟩ (Env.start G) w) (o:Opens w ⟨bl,Env.start G,0⟩ (Env.start G) w 0 n1 u1 bl E1) (r1:Rep E1 w a1 x0) (hlen:avs.length+1≤N) {rl:List AV} (hrl:retOf rl=r)
  (haw:AW ⟨P,X,N,w,⟨bl,E1,n1⟩⟩ c ⟨enterS (a1::avs),u1,n1⟩ (fun e st=>(e=.normal∨e=.ret)∧LeavesM (Types P) fn.results.toList st a1 rl out)) :
  Calls P f (x0::args).toArray w fun e w'=>∃ x G' b1 b2,e=.returned x∧Frame w bl w'∧OArg w' G' out x0 b1∧ORet w' G' r x b2∧(b1++b2).Nodup∧∀ k∈b1++b2,k<w'.heap.size∧(w.heap.size≤k∨k∈bl):=by
 have hal:args.length=avs.length:=by
  have:∀ {as:List AV} {xs:List Value},CRepL w G as xs→xs.length=as.length:=by
   intro as
   induction as with
   | nil=>intro xs h;cases xs<;>simp [CRepL] at h ⊢
   | cons a r ih=>intro xs h;cases xs<;>simp only [CRepL] at h ⊢;simp [ih h.2]
  exact this hargs
 have hM1:MemOK E1 w (getM u1):=fun b hb=>by
  have:=o.step.mem hI (M:=fun _=>.dead) (fun b hb=>hb.elim) b hb
  rwa [getM_updM] at this
 have hlow:∀ k,E1.alive k→k<n1:=fun k hk=>by
  rcases o.step.alive k hk with h1|h1
  ·exact h1.elim
  ·exact (o.keys k h1).2
 have hI1:Inv w ⟨bl,E1,n1⟩ E1 w:=⟨o.step.inv.frame,Env.Le.refl _,hlow,fun k hk=>.inl hk,o.step.inv.good,o.step.inv.locs,o.step.inv.apart⟩
 have hsat:Sat N w ⟨bl,E1,n1⟩ { tmps:=(x0::args).toArray++Array.replicate (fn.ntmps - (x0::args).toArray.size) undef,defers:=[] } w ⟨enterS (a1::avs),u1,n1⟩:=by
  refine ⟨E1,⟨rfl,by simp [hN];omega,hI1,hM1,fun t=>?_⟩,hlow,fun k hk=>?_⟩
  ·rw [getS_enter0]
   cases t with
   | zero =>
    have:((x0::args).toArray++Array.replicate (fn.ntmps - (x0::args).toArray.size) undef).getD 0 undef=x0:=by
     rw [Array.getD_eq_getD_getElem?,Array.getElem?_append_left (by simp)];simp
    simp only [this]
    exact r1
   | succ t =>
    simp only [List.getElem?_cons_succ]
    cases ht:avs[t]? with
    | none=>simp [Rep,CRep]
    | some a =>
     obtain ⟨x,h1,h2⟩:=hargs.get ht
     have hlt:=(List.getElem?_eq_some_iff.1 ht).1
     rw [Array.getD_eq_getD_getElem?,Array.getElem?_append_left (by simp;omega)]
     have:(x0::args).toArray[t+1]?=some x:=by simpa using h1
     rw [this]
     exact Rep.of_c (E:=E1) (by rw [o.G];exact h2)
  ·have:k∈u1.map (·.1):=by
    rcases getM_mem (m:=u1) (t:=k) with e|⟨p,hp,e,_⟩
    ·exact absurd e hk
    ·exact List.mem_map.2 ⟨p,hp,e⟩
   exact (o.keys k this).2
 refine calls_of_wp hf hb (wp_mono (haw _ _ hsat) fun e a w' ⟨st,⟨he,as,rs,ids,oa,is,h1,h2,h2',h3,h4,h5⟩,E',hs,_,_⟩=>?_)
 obtain ⟨vs,k1,k2⟩:=aResults_ok hs h1
 have hrep0:Rep E' w' a1 x0:=r1.mono hs.inv.gin fun k hk=>hs.inv.frame.old k (o.step.inv.good k hk) fun hkb=>(hbl k hkb).2 (by rw [o.G] at hk;exact hk)
 obtain ⟨bl1,j1,j2⟩:∃ bl,OArg w' E'.G oa x0 bl∧Cov E' is bl:=by
  rcases h2' with h2'|⟨rfl,rfl⟩
  ·exact leaveArg_ok h2' hrep0 hs.mem
  ·exact ⟨[],by simp only [OArg,OVal,OLeaf,CRep];exact ⟨trivial,trivial⟩,Cov.nil⟩
 obtain ⟨bl2,k3,k4⟩:=leaveVals_ok hs.mem h2 k2
 have hnd2:(bl1++bl2).Nodup:=(j2.append k4).nodup hs.inv h3
 obtain ⟨n1,n2,n3⟩:=List.nodup_append.1 hnd2
 obtain ⟨bl1',q3,q4⟩:=j1.of_le h5
 obtain ⟨bl2',q1,q2⟩:=h4.vals k3 n2
 have hblk:∀ k∈bl1++bl2,k<w'.heap.size∧(w.heap.size≤k∨k∈bl):=fun k hk=>by
  obtain ⟨b,_,base,sz,hb1,hb2⟩:=(j2.append k4).mem hk
  have:=hs.inv.locs b k base sz hb1 hb2
  exact ⟨this.1,this.2.2⟩
 let G':Nat→Prop:=fun k=>E'.G k∨(k∈bl2∧k ∉ bl2')
 have hret:OVals w' G' rl vs bl2':=q2 G' (fun k hk=>.inl hk) fun k hk hk'=>.inr ⟨hk,hk'⟩
 have hvl:vs.length=rl.length:=by
  have:∀ {as:List AV} {xs:List Value} {b:List Nat},OVals w' G' as xs b→xs.length=as.length:=by
   intro as
   induction as with
   | nil=>intro xs b h;cases xs<;>simp [OVals] at h ⊢
   | cons a r ih=>intro xs b h;cases xs<;>simp only [OVals] at h<;>first|exact h.elim|(obtain ⟨_,b2,_,_,h2⟩:=h;simp [ih h2])
  exact this hret
 have hrun:(results fn a.tmps).run P w'=.ok (if h:vs.toArray.size=1 then vs.toArray[0] else .tuple vs.toArray) w':=by
  unfold results
  rw [Sem.run_bind,← Array.toArray_toList (xs:=fn.results),List.mapM_toArray]
  simp only [Sem.run_map]
  have:(List.mapM (fun x=>match x with|.tmp t=>pure (a.tmps.getD t undef)|.cell b t=>do loadVar t (← asAddr (a.tmps.getD b undef))) fn.results.toList:Sem (List Value)).run P w'=.ok vs w':=k1
  erw [this]
  rfl
 have hnt:=leaveVals_tup h2 h4
 have hfin:∃ x G' b1 b2,Ending.returned (if h:vs.toArray.size=1 then vs.toArray[0] else .tuple vs.toArray)=Ending.returned x∧Frame w bl w'∧OArg w' G' out x0 b1∧ORet w' G' r x b2∧(b1++b2).Nodup∧∀ k∈b1++b2,k<w'.heap.size∧(w.heap.size≤k∨k∈bl):=by
  refine ⟨_,G',bl1',bl2',rfl,hs.inv.frame,OArg.mono (fun k hk=>.inl hk) q4,?_,?_,fun k hk=>hblk k ?_⟩
  ·subst hrl
   match rl,vs,hvl,hret,hnt with
   | [],[],_,hret,_=>exact ⟨[],by simp,hret⟩
   | [r],[v],_,hret,hnt =>
    simp only [OVals] at hret
    obtain ⟨b1,b2,e,h5,rfl⟩:=hret
    simp only [List.append_nil] at e
    subst e
    simp only [List.size_toArray,List.length_cons,List.length_nil,Nat.zero_add,dite_true,List.getElem_toArray,List.getElem_cons_zero,retOf]
    have hn':=hnt r (by simp)
    cases r<;>first|exact h5|exact absurd rfl (hn' _)
   | r1::r2::rl,v1::v2::vs,_,hret,_ =>
    simp only [retOf,ORet]
    exact ⟨v1::v2::vs,by simp,hret⟩
  ·exact List.nodup_append.2 ⟨q3.nodup n1,q1.nodup n2,fun x hx y hy=>n3 x (q3.subset hx) y (q1.subset hy)⟩
  ·rcases List.mem_append.1 hk with hk|hk
   ·exact List.mem_append.2 (.inl (q3.subset hk))
   ·exact List.mem_append.2 (.inr (q1.subset hk))
 rcases he with rfl|rfl
 ·exact ⟨hs.defers,_,hrun,hfin⟩
 ·exact ⟨hs.defers,_,hrun,hfin⟩
theorem msound_of {P:Program} {f:FuncId} {fn:Func} {c:Code} {N:Nat} {F:AV→List AV→Option (AV×AV)} (hf:P.funcs[f]?=some fn) (hb:fn.body=some c) (hN:fn.ntmps=N)
  (h:∀ (w0:World) (bl:List Nat) (E:Env) (a0:AV) (avs:List AV) (r out:AV),F a0 avs=some (r,out)→avs.length+1≤N∧∃ rl,retOf rl=r∧rl.length=fn.results.size∧∃ X,
   AW ⟨P,X,N,w0,⟨bl,E,(openArg 0 a0).2.2⟩⟩ c ⟨enterS ((openArg 0 a0).1::avs),(openArg 0 a0).2.1,(openArg 0 a0).2.2⟩ (fun e st=>(e=.normal∨e=.ret)∧LeavesM (Types P) fn.results.toList st (openArg 0 a0).1 rl out)) :
  MSound P f F:=by
 intro w G x0 args a0 avs bl r out hF hG h0 hargs hnd hbl
 have hI:Inv w ⟨bl,Env.start G,0⟩ (Env.start G) w:=⟨⟨rfl,rfl,Nat.le_refl _,fun _ _ _=>rfl⟩,Env.Le.refl _,fun _ hb=>hb.elim,fun _ h=>.inl h,hG,fun b _ _ _ hb=>hb.elim,fun b _ _ _ _ _ _ hb=>hb.elim⟩
 obtain ⟨E1,o,r1⟩:=openArg_ok hI (nid:=0) (a:=a0) (fun k _ _ hk=>hk.elim) h0 (fun k hk=>⟨(hbl k hk).1,(hbl k hk).2,.inr hk,fun b _ _ hb=>hb.elim⟩) hnd
 obtain ⟨hlen,rl,hrl,hrlen,X,haw⟩:=h w bl E1 a0 avs r out hF
 exact msound_body hf hb hN hargs hbl hI o r1 hlen hrl haw
end Go.AM
namespace Go.AM
open Go
theorem StepTo.over {w0:World} {bl:Bk} {E E1 E2:Env} {w w1 w2:World} {u u':List (Nat×AO)} (s:StepTo w0 bl E w u E1 w1) (t:StepTo w0 bl E1 w1 u' E2 w2)
  (hd:∀ b o,(b,o)∈u→b∈u'.map (·.1)→o=.dead∧E.alive b∧E1.loc b=E.loc b):StepTo w0 bl E w (u'++u) E2 w2 where
 le:=s.le.trans t.le
 inv:=t.inv
 size:=Nat.le_trans s.size t.size
 keep:=fun k hk hn=>by
  rw [t.keep k (Nat.lt_of_lt_of_le hk s.size) fun b base sz hb hm hl=>?_]
  ·exact s.keep k hk fun b base sz hb hm=>hn b base sz hb (by simp only [List.map_append,List.mem_append];exact .inr hm)
  ·by_cases h2:b∈u.map (·.1)
   ·obtain ⟨⟨b',o⟩,h3,h4⟩:=List.mem_map.1 h2
    simp only at h4
    subst h4
    obtain ⟨_,h5,h6⟩:=hd _ _ h3 hm
    rw [h6] at hl
    exact hn _ base sz h5 (by simp only [List.map_append,List.mem_append];exact .inl hm) hl
   ·rcases s.alive b hb with h1|h1
    ·rw [(s.same b h1 h2).2] at hl
     exact hn b base sz h1 (by simp only [List.map_append,List.mem_append];exact .inl hm) hl
    ·exact h2 h1
 alive:=fun b hb=>by
  simp only [List.map_append,List.mem_append]
  rcases t.alive b hb with h1|h1
  ·rcases s.alive b h1 with h2|h2
   ·exact .inl h2
   ·exact .inr (.inr h2)
  ·exact .inr (.inl h1)
 same:=fun b hb hn=>by
  simp only [List.map_append,List.mem_append,not_or] at hn
  have h1:=s.same b hb hn.2
  have h2:=t.same b (s.le.alive b hb) hn.1
  exact ⟨h2.1.trans h1.1,h2.2.trans h1.2⟩
 objs:=fun b o ho=>by
  rcases List.mem_append.1 ho with ho|ho
  ·exact t.objs b o ho
  ·have h1:=s.objs b o ho
   refine ⟨t.le.alive b h1.1,?_⟩
   by_cases h2:b∈u'.map (·.1)
   ·rw [(hd b o ho h2).1];trivial
   ·exact t.obj s.inv h1.1 h2 h1.2
def Env.lose (E:Env) (lost:List Nat):Env:={ E with ver:=fun b=>if b∈lost then E.ver b+1 else E.ver b,loc:=fun b=>if b∈lost then none else E.loc b }
theorem StepTo.lose {w0:World} {bl:Bk} {E:Env} {w w':World} (h:Inv w0 bl E w) {bs lost kept:List Nat} (hf:Frame w bs w') (hal:∀ b∈kept++lost,E.alive b) (hv:∀ b∈lost,1≤E.ver b)
  (hb:∀ k∈bs,∃ b∈kept++lost,∃ base sz,E.loc b=some (k,base,sz)):StepTo w0 bl E w ((kept++lost).map fun b=>(b,.dead)) (E.lose lost) w':=by
 have hkeys:((kept++lost).map fun b=>((b,.dead):Nat×AO)).map (·.1)=kept++lost:=by simp [Function.comp_def]
 have hbs:∀ k∈bs,k<w.heap.size∧¬ E.G k∧(w0.heap.size≤k∨k∈bl.l):=fun k hk=>by
  obtain ⟨b,h1,base,sz,h2⟩:=hb k hk
  exact h.locs b k base sz (hal b h1) h2
 have hle:E.Le (E.lose lost):=⟨fun _ hk=>hk,fun _ hb=>hb,fun b _=>by
  by_cases e:b∈lost
  ·exact .inr ⟨hv b e,by simp [Env.lose,e]⟩
  ·exact .inl (by simp [Env.lose,e])⟩
 refine ⟨hle,⟨⟨hf.os.trans h.frame.os,hf.out.trans h.frame.out,Nat.le_trans h.frame.size hf.size,fun k h1 h2=>?_⟩,h.gin.trans hle,h.low,h.gout,fun k hk=>Nat.lt_of_lt_of_le (h.good k hk) hf.size,fun b blk base sz h1 h2=>?_,fun b b' blk base sz base' sz' h1 h2 h3 h4=>?_⟩,hf.size,fun k hk hn=>?_,fun _ hb=>.inl hb,fun b _ hn=>?_,fun b o ho=>?_⟩
 ·rw [hf.old k (Nat.lt_of_lt_of_le h1 h.frame.size) fun hk=>?_]
  ·exact h.frame.old k h1 h2
  ·rcases (hbs k hk).2.2 with h3|h3
   ·omega
   ·exact h2 h3
 ·simp only [Env.lose] at h2
  split at h2
  ·simp at h2
  ·have:=h.locs b blk base sz h1 h2
   exact ⟨Nat.lt_of_lt_of_le this.1 hf.size,this.2⟩
 ·simp only [Env.lose] at h3 h4
  split at h3
  ·simp at h3
  ·split at h4
   ·simp at h4
   ·exact h.apart b b' blk base sz base' sz' h1 h2 h3 h4
 ·refine hf.old k hk fun hkb=>?_
  obtain ⟨b,h1,base,sz,h2⟩:=hb k hkb
  exact hn b base sz (hal b h1) (by rw [hkeys];exact h1) h2
 ·rw [hkeys] at hn
  have:b ∉ lost:=fun hh=>hn (by simp [hh])
  simp [Env.lose,this]
 ·simp only [List.mem_map,Prod.mk.injEq] at ho
  obtain ⟨b',h1,rfl,rfl⟩:=ho
  exact ⟨hal _ h1,trivial⟩
def isNil:AV→Bool
 | .v (.slice none 0 0)=>true
 | _=>false
theorem isNil_eq {a:AV} (h:isNil a=true):a=.v (.slice none 0 0):=by
 unfold isNil at h
 split at h
 ·rfl
 ·simp at h
def nrm (sz:Nat→Nat):Nat→List AV→List AV
 | _,[]=>[]
 | i,a::r=>(if isNil a=true then .ow (sz i) [] else a)::nrm sz (i+1) r
theorem nrm_ok {w:World} {G:Nat→Prop} {sz:Nat→Nat}:∀ {as:List AV} {i:Nat} {xs:List Value} {bl:List Nat},OLeaves w G as xs bl→OLeaves w G (nrm sz i as) xs bl
 | [],_,[],_,h=>by simpa only [OLeaves,nrm] using h
 | a::as,i,x::xs,bl,h=>by
  simp only [OLeaves,nrm] at h ⊢
  obtain ⟨b1,b2,rfl,h1,h2⟩:=h
  refine ⟨b1,b2,rfl,?_,nrm_ok h2⟩
  split
  ·rename_i hn
   have:=isNil_eq hn
   subst this
   simp only [OLeaf,CRep] at h1 ⊢
   obtain ⟨rfl,rfl⟩:=h1
   exact ⟨none,0,rfl,by simp,fun _=>rfl,.inl ⟨rfl,rfl⟩⟩
  ·exact h1
 | [],_,_::_,_,h=>by simp [OLeaves] at h
 | _::_,_,[],_,h=>by simp [OLeaves] at h
def giveArg (keep:Bool) (sz:Nat→Nat) (M:Nat→AO):AV→Option (AV×List Nat×List Nat)
 | .bp b 0=>match M b with
  | .box cs=>match leaveLeaves M cs with
   | some (rs,is)=>some (.rf (nrm sz 0 rs),[b],is)
   | none=>none
  | _=>none
 | .sl b m s o n=>match M b with
  | .vec m' s' _ xs=>if m=m'∧s=s'∧o+n≤xs.length then some (.ow s ((xs.drop o).take n),if keep then ([b],[]) else ([],[b])) else none
  | _=>none
 | .v (.slice none 0 0)=>some (.ow (sz 0) [],[],[])
 | .agg cs=>match leaveLeaves M cs with
  | some (rs,is)=>some (.agg (nrm sz 0 rs),[],is)
  | none=>none
 | _=>none
def takeArg (keep:Bool) (M:Nat→AO) (nid:Nat):AV→AV→Option (List (Nat×AO)×Nat)
 | .bp b 0,.rf cs=>match M b with
  | .box cs0=>if cs.length=cs0.length then some ((b,.box (openLeaves nid cs).1)::(openLeaves nid cs).2.1,(openLeaves nid cs).2.2) else none
  | _=>none
 | .sl _ _ _ _ _,.any=>if keep=false then some ([],nid) else none
 | .v _,_=>some ([],nid)
 | .agg _,.any=>some ([],nid)
 | _,_=>none
def callM (keep:Bool) (sz:Nat→Nat) (F:AV→List AV→Option (AV×AV)) (avs:List AV) (M:Nat→AO) (nid:Nat):Option (AV×List (Nat×AO)) :=
 match avs with
 | []=>none
 | a0::rest=>match giveArg keep sz M a0 with
  | none=>none
  | some (h0,kept,lost)=>match peekVals (fun b=>if b∈kept++lost then .dead else M b) rest with
   | none=>none
   | some rs=>match F h0 rs with
    | none=>none
    | some (r,out)=>match takeArg keep M nid a0 out with
     | none=>none
     | some (u,n1)=>if (kept++lost).Nodup∧(openRet n1 r).2.2≤nid+16 then
       some ((openRet n1 r).1,(openRet n1 r).2.1++(u++(kept++lost).map fun b=>(b,.dead))) else none
theorem leaveLeaf_ver {M:Nat→AO} {a r:AV} {ids:List Nat} {E:Env} {w:World} {x:Value} (h:leaveLeaf M a=some (r,ids)) (hr:Rep E w a x):∀ b∈ids,E.alive b∧1≤E.ver b:=by
 unfold leaveLeaf at h
 cases a<;>simp only [reduceCtorEq] at h
 case sl b m s o n =>
  simp only [Rep] at hr
  split at h
  ·split at h
   ·simp only [Option.some.injEq,Prod.mk.injEq] at h
    obtain ⟨_,rfl⟩:=h
    intro b' hb'
    simp only [List.mem_singleton] at hb'
    subst hb'
    exact ⟨hr.1,by have:=hr.2.1;have:=hr.2.2.1;omega⟩
   ·simp at h
  ·simp at h
 case mp b m =>
  simp only [Rep] at hr
  split at h
  ·split at h
   ·simp only [Option.some.injEq,Prod.mk.injEq] at h
    obtain ⟨_,rfl⟩:=h
    intro b' hb'
    simp only [List.mem_singleton] at hb'
    subst hb'
    exact ⟨hr.1,by have:=hr.2.1;have:=hr.2.2.1;omega⟩
   ·simp at h
  ·simp at h
 all_goals
  simp only [Option.some.injEq,Prod.mk.injEq] at h
  obtain ⟨_,rfl⟩:=h
  simp
theorem leaveLeaves_ver {M:Nat→AO} {E:Env} {w:World}:∀ {as rs:List AV} {ids:List Nat} {xs:List Value},leaveLeaves M as=some (rs,ids)→RepL E w as xs→∀ b∈ids,E.alive b∧1≤E.ver b
 | [],rs,ids,[],h,_=>by
  simp only [leaveLeaves,Option.some.injEq,Prod.mk.injEq] at h
  obtain ⟨_,rfl⟩:=h
  simp
 | a::as,rs,ids,x::xs,h,hr=>by
  simp only [RepL] at hr
  simp only [leaveLeaves] at h
  cases h1:leaveLeaf M a<;>simp only [h1,reduceCtorEq] at h
  rename_i p
  obtain ⟨r,i⟩:=p
  cases h2:leaveLeaves M as<;>simp only [h2,reduceCtorEq] at h
  rename_i p
  obtain ⟨rs',is⟩:=p
  simp only [Option.some.injEq,Prod.mk.injEq] at h
  obtain ⟨_,rfl⟩:=h
  intro b hb
  rcases List.mem_append.1 hb with hb|hb
  ·exact leaveLeaf_ver h1 hr.1 b hb
  ·exact leaveLeaves_ver h2 hr.2 b hb
 | [],_,_,_::_,_,hr=>by simp [RepL] at hr
 | _::_,_,_,[],_,hr=>by simp [RepL] at hr
theorem giveArg_ok {keep:Bool} {sz:Nat→Nat} {M:Nat→AO} {a r:AV} {kept lost:List Nat} {E:Env} {w:World} {x:Value} (h:giveArg keep sz M a=some (r,kept,lost)) (hr:Rep E w a x) (hM:MemOK E w M) :
  ∃ bl,OArg w E.G r x bl∧Cov E (kept++lost) bl∧(∀ b∈kept++lost,E.alive b)∧∀ b∈lost,1≤E.ver b:=by
 unfold giveArg at h
 split at h
 ·rename_i b
  have ho:=hM b (by simp only [Rep] at hr;exact hr.1)
  cases hb:M b<;>simp only [hb,reduceCtorEq] at h ho
  rename_i cs
  cases h2:leaveLeaves M cs<;>simp only [h2,reduceCtorEq] at h
  rename_i p
  obtain ⟨rs,is⟩:=p
  simp only [Option.some.injEq,Prod.mk.injEq] at h
  obtain ⟨rfl,rfl,rfl⟩:=h
  simp only [Rep] at hr
  obtain ⟨k1,k2,blk,sz,k3,rfl⟩:=hr
  simp only [ObjRep] at ho
  obtain ⟨_,blk',t,vs,q1,q2,q3,q4⟩:=ho
  rw [k3] at q1
  simp only [Option.some.injEq,Prod.mk.injEq] at q1
  obtain ⟨rfl,_,rfl⟩:=q1
  obtain ⟨b1,p1,p2⟩:=leaveLeaves_ok hM h2 q4
  have hv:=leaveLeaves_ver h2 q4
  refine ⟨blk::b1,by simp only [OArg];exact ⟨blk,t,vs,b1,rfl,rfl,q2,q3,nrm_ok p1⟩,?_,fun c hc=>?_,fun c hc=>(hv c hc).2⟩
  ·have:Cov E [b] [blk]:=⟨[b],by simp,by simp [k3],by simpa using k1⟩
   exact this.append p2
  ·rcases List.mem_append.1 hc with hc|hc
   ·simp at hc;subst hc;exact k1
   ·exact (hv c hc).1
 ·rename_i b m s o n
  cases h2:leaveLeaf M (.sl b m s o n) with
  | none =>
   exfalso
   simp only [leaveLeaf] at h2
   split at h
   ·rename_i hb
    simp only [hb] at h2
    split at h
    ·rename_i hm;rw [if_pos hm] at h2;simp at h2
    ·simp at h
   ·simp at h
  | some p =>
   obtain ⟨r',ids⟩:=p
   have hids:r'=r∧ids=[b]∧((kept=[b]∧lost=[])∨(kept=[]∧lost=[b])):=by
    simp only [leaveLeaf] at h2
    split at h
    ·rename_i hb
     simp only [hb] at h2
     split at h
     ·rename_i hm
      rw [if_pos hm] at h2
      simp only [Option.some.injEq,Prod.mk.injEq] at h h2
      refine ⟨h2.1.symm.trans h.1,h2.2.symm,?_⟩
      cases keep
      ·right;simpa [eq_comm] using h.2
      ·left;simpa [eq_comm] using h.2
     ·simp at h
    ·simp at h
   obtain ⟨rfl,rfl,hkl⟩:=hids
   obtain ⟨bl,p1,p2⟩:=leaveLeaf_ok h2 hr hM
   have hv:=leaveLeaf_ver h2 hr b (by simp)
   have hrow:∃ xs,r'=.ow s xs:=by
    simp only [leaveLeaf] at h2
    split at h2
    ·split at h2
     ·simp only [Option.some.injEq,Prod.mk.injEq] at h2;exact ⟨_,h2.1.symm⟩
     ·simp at h2
    ·simp at h2
   obtain ⟨xs,rfl⟩:=hrow
   refine ⟨bl,p1,?_,?_,?_⟩
   ·rcases hkl with ⟨rfl,rfl⟩|⟨rfl,rfl⟩<;>simpa using p2
   ·rcases hkl with ⟨rfl,rfl⟩|⟨rfl,rfl⟩<;>simpa using hv.1
   ·rcases hkl with ⟨rfl,rfl⟩|⟨rfl,rfl⟩<;>simp [hv.2]
 ·simp only [Option.some.injEq,Prod.mk.injEq] at h
  obtain ⟨rfl,rfl,rfl⟩:=h
  simp only [Rep,CRep] at hr
  subst hr
  exact ⟨[],by simp only [OArg,OVal,OLeaf];exact ⟨none,0,rfl,by simp,fun _=>rfl,.inl ⟨rfl,trivial⟩⟩,Cov.nil,by simp,by simp⟩
 ·rename_i cs
  cases h2:leaveLeaves M cs<;>simp only [h2,reduceCtorEq] at h
  rename_i p
  obtain ⟨rs,is⟩:=p
  simp only [Option.some.injEq,Prod.mk.injEq] at h
  obtain ⟨rfl,rfl,rfl⟩:=h
  simp only [Rep] at hr
  obtain ⟨vs,rfl,q1,q2⟩:=hr
  obtain ⟨b1,p1,p2⟩:=leaveLeaves_ok hM h2 q2
  have hv:=leaveLeaves_ver h2 q2
  exact ⟨b1,by simp only [OArg,OVal];exact ⟨vs,rfl,q1,nrm_ok p1⟩,by simpa using p2,fun c hc=>(hv c (by simpa using hc)).1,fun c hc=>(hv c hc).2⟩
 ·simp at h
def AV.flatO:AV→Prop
 | .rf cs=>∀ a∈cs,a.flat1
 | _=>True
theorem OLeaves.length {w:World} {G:Nat→Prop}:∀ {as:List AV} {xs:List Value} {bl:List Nat},OLeaves w G as xs bl→as.length=xs.length
 | [],[],_,_=>rfl
 | a::as,x::xs,bl,h=>by
  simp only [OLeaves] at h
  obtain ⟨_,_,_,_,h2⟩:=h
  simp [OLeaves.length h2]
 | [],_::_,_,h=>by simp [OLeaves] at h
 | _::_,[],_,h=>by simp [OLeaves] at h
theorem giveArg_v {keep:Bool} {sz:Nat→Nat} {M:Nat→AO} {y:Value} {r:AV} {kept lost:List Nat} (h:giveArg keep sz M (.v y)=some (r,kept,lost)):kept=[]∧lost=[]:=by
 unfold giveArg at h
 split at h
 ·rename_i e;simp at e
 ·rename_i e;simp at e
 ·simp only [Option.some.injEq,Prod.mk.injEq] at h;exact ⟨h.2.1.symm,h.2.2.symm⟩
 ·rename_i e;simp at e
 ·simp at h
theorem giveArg_agg {keep:Bool} {sz:Nat→Nat} {M:Nat→AO} {cs:List AV} {r:AV} {kept lost:List Nat} (h:giveArg keep sz M (.agg cs)=some (r,kept,lost)):kept=[]:=by
 simp only [giveArg] at h
 split at h
 ·simp only [Option.some.injEq,Prod.mk.injEq] at h;exact h.2.1.symm
 ·simp at h
theorem giveArg_sl {sz:Nat→Nat} {M:Nat→AO} {b m s o n:Nat} {r:AV} {kept lost:List Nat} (h:giveArg false sz M (.sl b m s o n)=some (r,kept,lost)):kept=[]:=by
 simp only [giveArg] at h
 split at h
 ·split at h
  ·simp at h;exact h.2.1
  ·simp at h
 ·simp at h
theorem giveArg_bp {keep:Bool} {sz:Nat→Nat} {M:Nat→AO} {b:Nat} {r:AV} {kept lost:List Nat} (h:giveArg keep sz M (.bp b 0)=some (r,kept,lost)):kept=[b]:=by
 simp only [giveArg] at h
 split at h
 ·split at h
  ·simp at h;exact h.2.1.symm
  ·simp at h
 ·simp at h
theorem MSound.callM {P:Program} {f:FuncId} {F:AV→List AV→Option (AV×AV)} (h:MSound P f F) (hfl:∀ a0 avs r out,F a0 avs=some (r,out)→r.flat∧out.flatO) {keep:Bool} {sz:Nat→Nat}:CallOK P f (callM keep sz F):=by
 intro avs M nid av u hc w0 bl E w args hr hM hI hnid
 obtain ⟨args⟩:=args
 cases avs with
 | nil=>simp [AM.callM] at hc
 | cons a0 rest =>
 cases args with
 | nil=>simp [RepL] at hr
 | cons x0 xs =>
 simp only [RepL] at hr
 obtain ⟨hr0,hrr⟩:=hr
 simp only [AM.callM] at hc
 cases hg:giveArg keep sz M a0<;>simp only [hg,reduceCtorEq] at hc
 rename_i p
 obtain ⟨h0,kept,lost⟩:=p
 simp only at hc
 cases hp:peekVals (fun b=>if b∈kept++lost then .dead else M b) rest<;>simp only [hp,reduceCtorEq] at hc
 rename_i rs
 cases hF:F h0 rs<;>simp only [hF,reduceCtorEq] at hc
 rename_i p
 obtain ⟨r,out⟩:=p
 simp only at hc
 cases ht:takeArg keep M nid a0 out<;>simp only [ht,reduceCtorEq] at hc
 rename_i p
 obtain ⟨ut,n1⟩:=p
 simp only at hc
 split at hc
 case isFalse=>simp at hc
 rename_i hcond
 obtain ⟨hidn,hle⟩:=hcond
 simp only [Option.some.injEq,Prod.mk.injEq] at hc
 obtain ⟨rfl,rfl⟩:=hc
 obtain ⟨bs,g1,g2,g3,g4⟩:=giveArg_ok hg hr0 hM
 have hbn:=g2.nodup hI hidn
 have hbs:∀ k∈bs,k<w.heap.size∧¬ E.G k∧(w0.heap.size≤k∨k∈bl.l):=fun k hk=>by
  obtain ⟨b,_,base,sz,h1,h2⟩:=g2.mem hk
  exact hI.locs b k base sz h1 h2
 have hM0:MemOK E w (fun b=>if b∈kept++lost then .dead else M b):=fun b hb=>by
  show ObjRep E w b (if b∈kept++lost then AO.dead else M b)
  split
  ·trivial
  ·exact hM b hb
 have hown:∀ b blk base sz,E.alive b→E.loc b=some (blk,base,sz)→blk∈bs→b∈kept++lost:=fun b blk base sz hb hl hk=>by
  obtain ⟨b',h1,base',sz',h2,h3⟩:=g2.mem hk
  rw [hI.apart b b' blk base sz base' sz' hb h2 hl h3]
  exact h1
 have hpk:=peekVals_ok (G:=fun k=>k<w.heap.size∧k ∉ bs) (fun k hk=>⟨hI.good k hk,fun hkb=>(hbs k hkb).2.1 hk⟩) (fun b blk base sz hb hd hl=>⟨(hI.locs b blk base sz hb hl).1,fun hk=>by
  have:=hown b blk base sz hb hl hk
  exact hd (by simp only [this,if_true])⟩) hM0 hp hrr
 refine (h w _ x0 xs h0 rs bs r out hF (fun k hk=>hk.1) (g1.mono fun k hk=>⟨hI.good k hk,fun hkb=>(hbs k hkb).2.1 hk⟩) hpk hbn (fun k hk=>⟨(hbs k hk).1,fun hh=>hh.2 hk⟩)).mono fun e w' ⟨x,G',b1,b2,he,hf,ho1,ho2,hnd,hb⟩=>?_
 obtain ⟨hflr,hflo⟩:=hfl h0 rs r out hF
 have ho2:=hflr.oret (G':=E.G) ho2
 obtain ⟨nd1,nd2,nd3⟩:=List.nodup_append.1 hnd
 have stA:=StepTo.lose hI hf (lost:=lost) (kept:=kept) g3 g4 fun k hk=>by
  obtain ⟨b,h1,base,sz,_,h2⟩:=g2.mem hk
  exact ⟨b,h1,base,sz,h2⟩
 have hkA:((kept++lost).map fun b=>((b,.dead):Nat×AO)).map (·.1)=kept++lost:=by simp [Function.comp_def]
 have hspare:∀ k∈b1++b2,(∀ b∈kept,∀ base sz,E.loc b≠some (k,base,sz))→k<w'.heap.size∧¬ (E.lose lost).G k∧(w0.heap.size≤k∨k∈bl.l)∧∀ b base sz,(E.lose lost).alive b→(E.lose lost).loc b≠some (k,base,sz):=fun k hk hkept=>by
  have h1:=hb k hk
  refine ⟨h1.1,fun hg=>?_,?_,fun b base sz hb' hl=>?_⟩
  ·rcases h1.2 with h2|h2
   ·have:=hI.good k hg;omega
   ·exact (hbs k h2).2.1 hg
  ·rcases h1.2 with h2|h2
   ·exact .inl (Nat.le_trans hI.frame.size h2)
   ·exact (hbs k h2).2.2
  ·simp only [Env.lose] at hl
   split at hl
   ·simp at hl
   ·rename_i hnl
    rcases h1.2 with h2|h2
    ·have:=(hI.locs b k base sz hb' hl).1;omega
    ·rcases List.mem_append.1 (hown b k base sz hb' hl h2) with h3|h3
     ·exact hkept b h3 base sz hl
     ·exact hnl h3
 have hfresh:∀ k,nid≤k→k<nid+16→¬ (E.lose lost).alive k:=fun k h1 h2=>hnid k h1 h2
 have hidlt:∀ b∈kept++lost,¬ (nid≤b∧b<nid+16):=fun b hb hh=>hnid b hh.1 hh.2 (g3 b hb)
 have easy:kept=[]→ut=[]→n1=nid→∃ x E',e=.returned x∧StepTo w0 bl E w ((openRet n1 r).2.1++(ut++(kept++lost).map fun b=>(b,.dead))) E' w'∧Rep E' w' (openRet n1 r).1 x:=fun hk hu hn=>by
  subst hk hu hn
  obtain ⟨E',o,hx⟩:=openRet_ok stA.inv (nid:=n1) (a:=r) (fun k p q=>hfresh k p (by omega)) ho2 (fun k hk=>hspare k (by simp [hk]) (by simp)) nd2
  refine ⟨x,E',he,?_,hx⟩
  have:=stA.over o.step fun b p hbp hbk=>by
   have h1:b∈([]:List Nat)++lost:=by rw [← hkA];exact List.mem_map.2 ⟨_,hbp,rfl⟩
   have:=o.keys b hbk
   exact absurd ⟨this.1,by omega⟩ (hidlt b h1)
  simpa using this
 unfold takeArg at ht
 split at ht
 ·rename_i b cs _x
  split at ht
  case h_2=>simp at ht
  rename_i cs0 hMb
  split at ht
  case isFalse=>simp at ht
  rename_i hcl
  simp only [Option.some.injEq,Prod.mk.injEq] at ht
  obtain ⟨rfl,rfl⟩:=ht
  have hkb:=giveArg_bp hg
  subst hkb
  simp only [Rep] at hr0
  obtain ⟨q1,q2,blk,sz',q3,rfl⟩:=hr0
  have hob:=hM b q1
  rw [hMb] at hob
  simp only [ObjRep] at hob
  obtain ⟨_,blk0,t0,us,p1,p2,p3,p4⟩:=hob
  rw [q3] at p1
  simp only [Option.some.injEq,Prod.mk.injEq,true_and] at p1
  obtain ⟨rfl,rfl⟩:=p1
  simp only [OArg] at ho1
  obtain ⟨blk',t,vs,b1',e1,rfl,j1,j2,j3⟩:=ho1
  simp only [Value.pointer.injEq,Option.some.injEq,Addr.mk.injEq,and_true] at e1
  subst e1
  have j3:=flat_leaves (G':=E.G) hflo j3
  have hlen:vs.length=us.length:=by rw [← j3.length,hcl,p4.length]
  have nd1':=List.nodup_cons.1 nd1
  have hnb:∀ k,k≠blk→∀ c∈[b],∀ base sz,E.loc c≠some (k,base,sz):=fun k hk c hc base sz hl=>by
   simp only [List.mem_singleton] at hc
   subst hc
   rw [q3] at hl
   simp only [Option.some.injEq,Prod.mk.injEq] at hl
   exact hk hl.1.symm
  have hle1:(openLeaves nid cs).2.2≤nid+16:=by have:=openRet_keys (nid:=(openLeaves nid cs).2.2) (a:=r);exact Nat.le_trans (openRet_le) hle
  obtain ⟨E2,oL,rL⟩:=openLeaves_ok (as:=cs) stA.inv (nid:=nid) (fun k p q=>hfresh k p (by omega)) j3 (fun k hk=>hspare k (by simp [hk]) (hnb k fun e=>by subst e;exact nd1'.1 hk)) nd1'.2
  have hbl:b ∉ lost:=fun hh=>by simp at hidn;exact hidn.1 hh
  have hbk:b ∉ (openLeaves nid cs).2.1.map (·.1):=fun hh=>by
   have:=oL.keys b hh
   exact hidlt b (by simp) ⟨this.1,by omega⟩
  have hsame:=oL.step.same b q1 hbk
  have hloc:E2.loc b=some (blk,0,us.length):=by rw [hsame.2];simp only [Env.lose,hbl,if_false];exact q3
  have hver:E2.ver b=0:=by rw [hsame.1];simp only [Env.lose,hbl,if_false];exact q2
  have stR:=StepTo.retell oL.step.inv (b:=b) (o:=.box (openLeaves nid cs).1) (oL.step.le.alive b q1) (by
   simp only [ObjRep]
   exact ⟨hver,blk,t,vs,by rw [hlen];exact hloc,j1,j2,rL⟩)
  obtain ⟨E3,oR,hx⟩:=openRet_ok stR.inv (nid:=(openLeaves nid cs).2.2) (a:=r) (oL.fresh fun k p q=>hfresh k p (by omega)) (by rw [oL.G];exact ho2) (fun k hk=>by
   have h1:=hspare k (by simp [hk]) (hnb k fun e=>by subst e;exact nd3 k (by simp) k hk rfl)
   refine ⟨h1.1,by rw [oL.G];exact h1.2.1,h1.2.2.1,fun b' base sz hb' hl=>?_⟩
   rcases oL.locs b' base sz k hb' hl with ⟨h2,h3⟩|h2
   ·exact h1.2.2.2 b' base sz h2 h3
   ·exact nd3 k (by simp [h2]) k hk rfl) nd2
  refine ⟨x,E3,he,?_,hx⟩
  have s1:=stA.over oL.step fun c p hcp hck=>by
   have h1:c∈[b]++lost:=by rw [← hkA];exact List.mem_map.2 ⟨_,hcp,rfl⟩
   have:=oL.keys c hck
   exact absurd ⟨this.1,by omega⟩ (hidlt c h1)
  have s2:=s1.over stR fun c p hcp hck=>by
   simp only [List.map_cons,List.map_nil,List.mem_singleton] at hck
   subst hck
   refine ⟨?_,q1,by rw [hloc,q3]⟩
   rcases List.mem_append.1 hcp with h1|h1
   ·exact absurd (List.mem_map.2 ⟨_,h1,rfl⟩) hbk
   ·simp only [List.mem_map,Prod.mk.injEq] at h1
    obtain ⟨_,_,_,e⟩:=h1
    exact e.symm
  have s3:=s2.over oR.step fun c p hcp hck=>by
   have h2:=oR.keys c hck
   have h3:c∈([(b,AO.box (openLeaves nid cs).1)]++((openLeaves nid cs).2.1++([b]++lost).map fun b=>((b,.dead):Nat×AO))).map (·.1):=List.mem_map.2 ⟨_,hcp,rfl⟩
   simp only [List.map_append,List.mem_append,List.map_cons,List.map_nil,List.mem_singleton] at h3
   exfalso
   rcases h3 with h3|h3|h3
   ·subst h3;exact hidlt c (by simp) ⟨by have:=oL.le;omega,by have:=openRet_keys c hck;omega⟩
   ·have:=oL.keys c h3;omega
   ·have h4:c∈[b]++lost:=by simpa [Function.comp_def] using h3
    exact hidlt c h4 ⟨by have:=oL.le;omega,by have:=openRet_keys c hck;omega⟩
  simpa using s3
 ·rename_i b m s o n
  split at ht
  case isFalse=>simp at ht
  rename_i hk
  subst hk
  simp only [Option.some.injEq,Prod.mk.injEq] at ht
  obtain ⟨rfl,rfl⟩:=ht
  exact easy (giveArg_sl hg) rfl rfl
 ·simp only [Option.some.injEq,Prod.mk.injEq] at ht
  obtain ⟨rfl,rfl⟩:=ht
  exact easy (giveArg_v hg).1 rfl rfl
 ·simp only [Option.some.injEq,Prod.mk.injEq] at ht
  obtain ⟨rfl,rfl⟩:=ht
  exact easy (giveArg_agg hg) rfl rfl
 ·simp at ht
attribute [simp] giveArg takeArg callM nrm isNil openArg leaveArg
theorem leaveLeaf_keys {M:Nat→AO} {a r:AV} {ids:List Nat} (h:leaveLeaf M a=some (r,ids)):∀ b∈ids,M b≠.dead:=by
  unfold leaveLeaf at h
  split at h
  · split at h
    · rename_i hMb
      split at h
      · simp only [Option.some.injEq,Prod.mk.injEq] at h
        obtain ⟨_,rfl⟩:=h
        intro k hk
        simp at hk
        subst hk
        rw [hMb];simp
      · simp at h
    · simp at h
  all_goals first
    | (simp only [Option.some.injEq,Prod.mk.injEq] at h
       obtain ⟨_,rfl⟩:=h
       simp;done)
    | (simp at h;done)
    | skip
  split at h
  · rename_i hMb
    split at h
    · simp only [Option.some.injEq,Prod.mk.injEq] at h
      obtain ⟨_,rfl⟩:=h
      intro k hk
      simp at hk
      subst hk
      rw [hMb];simp
    · simp at h
  · simp at h
theorem leaveLeaves_keys {M:Nat→AO}:∀ {as rs:List AV} {ids:List Nat},leaveLeaves M as=some (rs,ids)→∀ b∈ids,M b≠.dead
 | [],rs,ids,h=>by
  simp only [leaveLeaves,Option.some.injEq,Prod.mk.injEq] at h
  obtain ⟨_,rfl⟩:=h
  simp
 | a::as,rs,ids,h=>by
  simp only [leaveLeaves] at h
  cases h1:leaveLeaf M a<;>simp only [h1,reduceCtorEq] at h
  rename_i p
  obtain ⟨r,i⟩:=p
  cases h2:leaveLeaves M as<;>simp only [h2,reduceCtorEq] at h
  rename_i p
  obtain ⟨rs',is⟩:=p
  simp only [Option.some.injEq,Prod.mk.injEq] at h
  obtain ⟨_,rfl⟩:=h
  intro b hb
  rcases List.mem_append.1 hb with hb|hb
  ·exact leaveLeaf_keys h1 b hb
  ·exact leaveLeaves_keys h2 b hb
theorem giveArg_keys {keep:Bool} {sz:Nat→Nat} {M:Nat→AO} {a r:AV} {kept lost:List Nat} (h:giveArg keep sz M a=some (r,kept,lost)):∀ b∈kept++lost,M b≠.dead:=by
 unfold giveArg at h
 split at h
 ·split at h
  ·rename_i hMb
   split at h
   ·rename_i h2
    simp only [Option.some.injEq,Prod.mk.injEq] at h
    obtain ⟨_,rfl,rfl⟩:=h
    intro k hk
    rcases List.mem_append.1 hk with hk|hk
    ·simp at hk;subst hk;rw [hMb];simp
    ·exact leaveLeaves_keys h2 k hk
   ·simp at h
  ·simp at h
 ·split at h
  ·rename_i hMb
   split at h
   ·simp only [Option.some.injEq,Prod.mk.injEq] at h
    intro k hk
    cases keep
    all_goals
     simp at h
     obtain ⟨_,rfl,rfl⟩:=h
     simp at hk
     subst hk
     rw [hMb];simp
   ·simp at h
  ·simp at h
 ·simp only [Option.some.injEq,Prod.mk.injEq] at h
  obtain ⟨_,rfl,rfl⟩:=h
  simp
 ·split at h
  ·rename_i h2
   simp only [Option.some.injEq,Prod.mk.injEq] at h
   obtain ⟨_,rfl,rfl⟩:=h
   intro k hk
   exact leaveLeaves_keys h2 k (by simpa using hk)
  ·simp at h
 ·simp at h
theorem takeArg_keys {keep:Bool} {M:Nat→AO} {nid n:Nat} {a o:AV} {u:List (Nat×AO)} (h:takeArg keep M nid a o=some (u,n)):nid≤n∧∀ b∈u.map (·.1),(nid≤b∧b<n)∨M b≠.dead:=by
 unfold takeArg at h
 split at h
 ·split at h
  ·rename_i hMb
   split at h
   ·simp only [Option.some.injEq,Prod.mk.injEq] at h
    obtain ⟨rfl,rfl⟩:=h
    refine ⟨openLeaves_le,fun k hk=>?_⟩
    simp only [List.map_cons,List.mem_cons] at hk
    rcases hk with rfl|hk
    ·right;rw [hMb];simp
    ·exact .inl (openLeaves_keys k hk)
   ·simp at h
  ·simp at h
 ·split at h
  ·simp only [Option.some.injEq,Prod.mk.injEq] at h;obtain ⟨rfl,rfl⟩:=h;simp
  ·simp at h
 ·simp only [Option.some.injEq,Prod.mk.injEq] at h;obtain ⟨rfl,rfl⟩:=h;simp
 ·simp only [Option.some.injEq,Prod.mk.injEq] at h;obtain ⟨rfl,rfl⟩:=h;simp
 ·simp at h
theorem callM_keys {keep:Bool} {sz:Nat→Nat} {F:AV→List AV→Option (AV×AV)} {avs:List AV} {M:Nat→AO} {nid:Nat} {r:AV×List (Nat×AO)} (h:callM keep sz F avs M nid=some r):∀ b∈r.2.map (·.1),(nid≤b∧b<nid+16)∨M b≠.dead:=by
 cases avs with
 | nil=>simp [AM.callM] at h
 | cons a0 rest =>
 simp only [AM.callM] at h
 cases hg:giveArg keep sz M a0<;>simp only [hg,reduceCtorEq] at h
 rename_i p
 obtain ⟨h0,kept,lost⟩:=p
 simp only at h
 cases hp:peekVals (fun b=>if b∈kept++lost then .dead else M b) rest<;>simp only [hp,reduceCtorEq] at h
 rename_i rs
 cases hF:F h0 rs<;>simp only [hF,reduceCtorEq] at h
 rename_i p
 obtain ⟨q,out⟩:=p
 simp only at h
 cases ht:takeArg keep M nid a0 out<;>simp only [ht,reduceCtorEq] at h
 rename_i p
 obtain ⟨ut,n1⟩:=p
 simp only at h
 split at h
 case isFalse=>simp at h
 rename_i hcond
 simp only [Option.some.injEq] at h
 subst h
 obtain ⟨ht1,ht2⟩:=takeArg_keys ht
 intro b hb
 simp only [List.map_append,List.mem_append] at hb
 rcases hb with hb|hb|hb
 ·have:=openRet_keys b hb;exact .inl (by omega)
 ·rcases ht2 b hb with h1|h1
  ·have:n1≤(openRet n1 q).2.2:=openRet_le
   exact .inl (by omega)
  ·exact .inr h1
 ·have:b∈kept++lost:=by simpa [Function.comp_def] using hb
  exact .inr (giveArg_keys hg b this)
noncomputable def specM {ι:Type} (A0:ι→AV) (A:ι→List AV) (R O:ι→AV) (a0:AV) (avs:List AV):Option (AV×AV) :=
 open Classical in if h:∃ i,A0 i=a0∧A i=avs then some (R h.choose,O h.choose) else none
theorem specM_eq {ι:Type} {A0:ι→AV} {A:ι→List AV} {R O:ι→AV} (i:ι) (h:∀ j,A0 j=A0 i→A j=A i→R j=R i∧O j=O i):specM A0 A R O (A0 i) (A i)=some (R i,O i):=by
 unfold specM
 have hex:∃ j,A0 j=A0 i∧A j=A i:=⟨i,rfl,rfl⟩
 rw [dif_pos hex]
 have:=h _ hex.choose_spec.1 hex.choose_spec.2
 rw [this.1,this.2]
theorem specM_some {ι:Type} {A0:ι→AV} {A:ι→List AV} {R O:ι→AV} {a0:AV} {avs:List AV} {r o:AV} (h:specM A0 A R O a0 avs=some (r,o)):∃ i,A0 i=a0∧A i=avs∧R i=r∧O i=o:=by
 unfold specM at h
 split at h
 ·rename_i hh
  simp only [Option.some.injEq,Prod.mk.injEq] at h
  exact ⟨_,hh.choose_spec.1,hh.choose_spec.2,h.1,h.2⟩
 ·simp at h
theorem msound_spec {ι:Type} {A0:ι→AV} {A:ι→List AV} {rl:ι→List AV} {O:ι→AV} {P:Program} {f:FuncId} {fn:Func} {c:Code} (hf:P.funcs[f]?=some fn) (hb:fn.body=some c) (X:AX)
  (h:∀ (i:ι) (w0:World) (bl:List Nat) (E:Env),(A i).length+1≤fn.ntmps∧(rl i).length=fn.results.size ∧
   AW ⟨P,X,fn.ntmps,w0,⟨bl,E,(openArg 0 (A0 i)).2.2⟩⟩ c ⟨enterS ((openArg 0 (A0 i)).1::A i),(openArg 0 (A0 i)).2.1,(openArg 0 (A0 i)).2.2⟩ (fun e st=>(e=.normal∨e=.ret)∧LeavesM (Types P) fn.results.toList st (openArg 0 (A0 i)).1 (rl i) (O i))) :
  MSound P f (specM A0 A (fun i=>retOf (rl i)) O) :=
 msound_of hf hb rfl fun w0 bl E a0 avs r out hr=>by
  obtain ⟨i,rfl,rfl,rfl,rfl⟩:=specM_some hr
  have:=h i w0 bl E
  exact ⟨this.1,rl i,rfl,this.2.1,X,this.2.2⟩
theorem leavesM_any {T:TypeId→Option TD} {rv:List ResultVar} {st:St} {a0:AV} {r:List AV} (h:Leaves T rv st r):LeavesM T rv st a0 r .any:=by
 obtain ⟨as,rs,ids,h1,h2,h3,h4⟩:=h
 exact ⟨as,rs,ids,.any,[],h1,h2,.inr ⟨rfl,rfl⟩,by simpa using h3,h4,.inl rfl⟩
end Go.AM
namespace Go.AM
open Go
def remK {α:Type} (k:Nat) (l:List (Nat×α)):List (Nat×α):=l.filter fun p=>!(Nat.beq p.1 k)
def tidyS (l:List (Nat×AV)):List (Nat×AV):=l.foldr (fun p acc=>match p.2 with
 | .any=>remK p.1 acc
 | a=>(p.1,a)::remK p.1 acc) []
def tidyM (l:List (Nat×AO)):List (Nat×AO):=l.foldr (fun p acc=>match p.2 with
 | .dead=>remK p.1 acc
 | a=>(p.1,a)::remK p.1 acc) []
theorem getM_rem {k t:Nat}:∀ {l:List (Nat×AO)},getM (remK k l) t=if t=k then .dead else getM l t
 | []=>by simp [remK,getM]
 | p::r=>by
  obtain ⟨j,a⟩:=p
  have ih:=getM_rem (k:=k) (t:=t) (l:=r)
  simp only [remK] at ih ⊢
  by_cases h:j=k
  ·subst h
   rw [List.filter_cons_of_neg (by simp),ih]
   simp only [getM]
   by_cases e:t=j
   ·simp [e]
   ·simp [e,Ne.symm e]
  ·rw [List.filter_cons_of_pos (by rw [Bool.not_eq_true',Bool.eq_false_iff];exact fun hh=>h (Nat.eq_of_beq_eq_true hh))]
   simp only [getM,ih]
   by_cases e:t=k
   ·subst e;simp [h]
   ·simp [e]
theorem getM_tidy {t:Nat}:∀ {l:List (Nat×AO)},getM (tidyM l) t=getM l t
 | []=>rfl
 | p::r=>by
  obtain ⟨j,a⟩:=p
  have ih:=getM_tidy (t:=t) (l:=r)
  simp only [tidyM] at ih
  simp only [tidyM,List.foldr_cons,getM]
  by_cases e:j=t
  ·subst e
   rw [if_pos rfl]
   cases a<;>first|(simp only [getM_rem,if_true];done)|simp [getM]
  ·rw [if_neg e,← ih]
   cases a<;>first|(rw [getM_rem,if_neg (Ne.symm e)];done)|(simp only [getM,if_neg e];rw [getM_rem,if_neg (Ne.symm e)])
section
variable {β:Type}
def forceN (n:Nat) (k:Nat→β):β:=match n with
 | 0=>k 0
 | m+1=>k (m+1)
def forceI (n:Int) (k:Int→β):β:=match n with
 | .ofNat m=>forceN m fun m=>k (.ofNat m)
 | .negSucc m=>forceN m fun m=>k (.negSucc m)
def forceB (b:Bool) (k:Bool→β):β:=match b with
 | true=>k true
 | false=>k false
def forceV (x:Value) (k:Value→β):β:=match x with
 | .int t n=>forceI n fun n=>k (.int t n)
 | .bool b=>forceB b fun b=>k (.bool b)
 | x=>k x
def forceK:List Int→(List Int→β)→β
 | [],k=>k []
 | a::r,k=>forceI a fun a=>forceK r fun r=>k (a::r)
mutual
def AV.force:AV→(AV→β)→β
 | .any,k=>k .any
 | .v x,k=>forceV x fun x=>k (.v x)
 | .agg cs,k=>forceL cs fun cs=>k (.agg cs)
 | .tup cs,k=>forceL cs fun cs=>k (.tup cs)
 | .rd s xs,k=>forceN s fun s=>forceLL xs fun xs=>k (.rd s xs)
 | .ow s xs,k=>forceN s fun s=>forceLL xs fun xs=>k (.ow s xs)
 | .rp cs,k=>forceL cs fun cs=>k (.rp cs)
 | .rf cs,k=>forceL cs fun cs=>k (.rf cs)
 | .bp b o,k=>forceN b fun b=>forceN o fun o=>k (.bp b o)
 | .sl b m s o n,k=>forceN b fun b=>forceN m fun m=>forceN s fun s=>forceN o fun o=>forceN n fun n=>k (.sl b m s o n)
 | .ep b m s i j,k=>forceN b fun b=>forceN m fun m=>forceN s fun s=>forceN i fun i=>forceN j fun j=>k (.ep b m s i j)
 | .bs b o s n,k=>forceN b fun b=>forceN o fun o=>forceN s fun s=>forceN n fun n=>k (.bs b o s n)
 | .fn f cs,k=>forceL cs fun cs=>k (.fn f cs)
 | .ifc f cs,k=>forceL cs fun cs=>k (.ifc f cs)
 | .mp b m,k=>forceN b fun b=>forceN m fun m=>k (.mp b m)
 | .rm n es,k=>forceN n fun n=>forceE es fun es=>k (.rm n es)
 | .om n es,k=>forceN n fun n=>forceE es fun es=>k (.om n es)
def forceE:List (List Int×AV)→(List (List Int×AV)→β)→β
 | [],k=>k []
 | (q,a)::r,k=>forceK q fun q=>a.force fun a=>forceE r fun r=>k ((q,a)::r)
def forceL:List AV→(List AV→β)→β
 | [],k=>k []
 | a::r,k=>a.force fun a=>forceL r fun r=>k (a::r)
def forceLL:List (List AV)→(List (List AV)→β)→β
 | [],k=>k []
 | a::r,k=>forceL a fun a=>forceLL r fun r=>k (a::r)
end
def AO.force (o:AO) (k:AO→β):β:=match o with
 | .dead=>k .dead
 | .box cs=>forceL cs fun cs=>k (.box cs)
 | .vec m s f xs=>forceN m fun m=>forceN s fun s=>forceB f fun f=>forceLL xs fun xs=>k (.vec m s f xs)
 | .map m n es=>forceN m fun m=>forceN n fun n=>forceE es fun es=>k (.map m n es)
def forceM:List (Nat×AO)→(List (Nat×AO)→β)→β
 | [],k=>k []
 | (n,o)::r,k=>forceN n fun n=>o.force fun o=>forceM r fun r=>k ((n,o)::r)
def forceS:List (Nat×AV)→(List (Nat×AV)→β)→β
 | [],k=>k []
 | (n,o)::r,k=>forceN n fun n=>o.force fun o=>forceS r fun r=>k ((n,o)::r)
def setMf:List (Nat×AO)→Nat→AO→(List (Nat×AO)→β)→β
 | [],b,o,k=>k [(b,o)]
 | (j,p)::r,b,o,k=>match Nat.beq j b with
  | true=>k ((j,o)::r)
  | false=>setMf r b o fun r=>k ((j,p)::r)
def consU:List (Nat×AO)→List (Nat×AO)→(List (Nat×AO)→β)→β
 | [],M,k=>k M
 | (b,o)::r,M,k=>consU r M fun M=>setMf M b o k
def AV.sh (a:AV) (k:AV→β):β:=match a with
 | .any=>k .any
 | .v x=>k (.v x)
 | .agg cs=>k (.agg cs)
 | .tup cs=>k (.tup cs)
 | .rd s xs=>k (.rd s xs)
 | .ow s xs=>k (.ow s xs)
 | .rp cs=>k (.rp cs)
 | .rf cs=>k (.rf cs)
 | .bp b o=>k (.bp b o)
 | .sl b m s o n=>k (.sl b m s o n)
 | .ep b m s i j=>k (.ep b m s i j)
 | .bs b o s n=>k (.bs b o s n)
 | .fn f cs=>k (.fn f cs)
 | .ifc f cs=>k (.ifc f cs)
 | .mp b m=>k (.mp b m)
 | .rm n es=>k (.rm n es)
 | .om n es=>k (.om n es)
def AO.sh (o:AO) (k:AO→β):β:=match o with
 | .dead=>k .dead
 | .box cs=>k (.box cs)
 | .vec m s f xs=>k (.vec m s f xs)
 | .map m n es=>k (.map m n es)
def shM:List (Nat×AO)→(List (Nat×AO)→β)→β
 | [],k=>k []
 | (n,o)::r,k=>forceN n fun n=>o.sh fun o=>shM r fun r=>k ((n,o)::r)
def shS:List (Nat×AV)→(List (Nat×AV)→β)→β
 | [],k=>k []
 | (n,o)::r,k=>forceN n fun n=>o.sh fun o=>shS r fun r=>k ((n,o)::r)
end
def getSf (l:List (Nat×AV)) (t:Nat):AV :=
 match l with
 | []=>.any
 | (k,a)::r=>match Nat.beq k t with
  | true=>a
  | false=>getSf r t
def getMf (l:List (Nat×AO)) (t:Nat):AO :=
 match l with
 | []=>.dead
 | (k,a)::r=>match Nat.beq k t with
  | true=>a
  | false=>getMf r t
def aEvf (l:List (Nat×AV)):Operand→AV
 | .tmp t=>getSf l t
 | .const v=>.v v
 | .func f=>.fn f []
 | .global _=>.any
def dstOKf (N:Nat) (o:Oper):Bool:=match o.dst with|some d=>Nat.blt d N|none=>true
def arunF (T:TypeId→Option TD) (X:AX) (ops:Array Oper) (N base:Nat):List Oper→Nat→List (Nat×AV)→List (Nat×AO)→Option (List (Nat×AV)×List (Nat×AO))
 | [],_,l,M=>some (l,M)
 | o::r,i,l,M=>match dstOKf N o with
  | false=>none
  | true=>match o.guard with
   | none=>match astep T X o.op (aEvf l) (getMf M) (base+16*i) with
    | some (av,u)=>av.force fun av=>forceM u fun u=>consU u M fun M=>match o.dst with
     | some d=>arunF T X ops N base r (i+1) ((d,av)::l) M
     | none=>arunF T X ops N base r (i+1) l M
    | none=>none
   | some (j,want)=>match (ops[j]?).bind (·.dst) with
    | some d=>match yV (getSf l d) with
     | some (some b)=>match b == want with
      | true=>match astep T X o.op (aEvf ((d,.v (.bool want))::l)) (getMf M) (base+16*i) with
       | some (av,u)=>av.force fun av=>forceM u fun u=>consU u M fun M=>match o.dst with
        | some d'=>arunF T X ops N base r (i+1) ((d',av)::(d,.v (.bool want))::l) M
        | none=>arunF T X ops N base r (i+1) ((d,.v (.bool want))::l) M
       | none=>none
      | false=>match o.dst with
       | some d'=>arunF T X ops N base r (i+1) ((d',.u)::(d,.v (.bool (!want)))::l) M
       | none=>arunF T X ops N base r (i+1) ((d,.v (.bool (!want)))::l) M
     | some none=>match o.dst with
      | some d'=>arunF T X ops N base r (i+1) ((d',.u)::l) M
      | none=>arunF T X ops N base r (i+1) l M
     | none=>none
    | none=>none
def aregionF (T:TypeId→Option TD) (X:AX) (N:Nat) (ops:Array Oper) (st:St):Option St :=
 match arunF T X ops N st.nx ops.toList 0 st.s st.m with
 | some (s,m)=>forceN (st.nx+16*ops.size) fun n=>some ⟨s,m,n⟩
 | none=>none
def aexec (T:TypeId→Option TD) (X:AX) (N:Nat):Nat→Code→St→Option (Exit×St)
 | 0,_,_=>none
 | n+1,k,st=>match k with
  | .skip=>some (.normal,st)
  | .exit id=>some (.exit id,st)
  | .ret=>some (.ret,st)
  | .seq x y=>match aexec T X N n x st with
   | some (.normal,st')=>aexec T X N n y st'
   | r=>r
  | .region _ ops _=>match aregionF T X N ops st with
   | some st'=>some (.normal,st')
   | none=>none
  | .cond o x y=>match aEvf st.s o with
   | .v (.bool true)=>aexec T X N n x st
   | .v (.bool false)=>aexec T X N n y st
   | _=>none
  | .block id x=>match aexec T X N n x st with
   | some (.exit id',st')=>if id'=id then some (.normal,st') else some (.exit id',st')
   | r=>r
  | .loop x=>shS (tidyS st.s) fun s=>shM (tidyM st.m) fun m=>match aexec T X N n x ⟨s,m,st.nx⟩ with
   | some (.normal,st')=>aexec T X N n (.loop x) st'
   | r=>r
  | _=>none
def AV.plainB:AV→Bool
 | .any|.v _=>true
 | _=>false
def AV.flat1B:AV→Bool
 | .any|.v _=>true
 | .ow _ xs=>xs.all fun e=>e.all AV.plainB
 | _=>false
def AV.flatVB:AV→Bool
 | .agg cs=>cs.all AV.flat1B
 | a=>a.flat1B
def AV.flatB:AV→Bool
 | .tup cs=>cs.all AV.flatVB
 | a=>a.flatVB
def AV.flatOB:AV→Bool
 | .rf cs=>cs.all AV.flat1B
 | _=>true
def nodupB:List Nat→Bool
 | []=>true
 | a::r=>!(r.any fun b=>Nat.beq b a)&&nodupB r
def isEnd:Exit→Bool
 | .normal|.ret=>true
 | _=>false
def evalP (T:TypeId→Option TD) (X:AX) (fn:Func) (c:Code) (n:Nat) (avs:List AV):Option AV :=
 match Nat.ble avs.length fn.ntmps,(forceL avs fun avs=>forceS (enterS avs) fun s=>aexec T X fn.ntmps n c ⟨s,[],0⟩) with
 | true,some (e,st)=>match isEnd e,aResults T st fn.results.toList with
  | true,some as=>match leaveVals (getM st.m) as with
   | some (rs,ids)=>match nodupB ids&&Nat.beq rs.length fn.results.toList.length&&(retOf rs).flatB with
    | true=>some (retOf rs)
    | false=>none
   | none=>none
  | _,_=>none
 | _,_=>none
def isRf:AV→Bool
 | .rf _=>true
 | _=>false
def evalM (T:TypeId→Option TD) (X:AX) (fn:Func) (c:Code) (n:Nat) (a0:AV) (avs:List AV):Option (AV×AV) :=
 match Nat.ble (avs.length+1) fn.ntmps,(forceL avs fun avs=>a0.force fun a0=>forceS (enterS ((openArg 0 a0).1::avs)) fun s=>forceM (openArg 0 a0).2.1 fun m=>aexec T X fn.ntmps n c ⟨s,m,(openArg 0 a0).2.2⟩) with
 | true,some (e,st)=>match isEnd e,aResults T st fn.results.toList with
  | true,some as=>match leaveVals (getM st.m) as with
   | some (rs,ids)=>match (if isRf a0 then leaveArg (getM st.m) (openArg 0 a0).1 else some (.any,[])) with
    | some (o,is)=>match nodupB (is++ids)&&Nat.beq rs.length fn.results.toList.length&&(retOf rs).flatB&&o.flatOB with
     | true=>some (retOf rs,o)
     | false=>none
    | none=>none
   | none=>none
  | _,_=>none
 | _,_=>none
structure Ev where
 T:TypeId→Option TD
 base:AX
 isBase:FuncId→Bool
 isM:FuncId→Bool
 skip:FuncId→Bool
 sz:FuncId→Nat→Nat
def Ev.w (v:Ev) (f:FuncId):Bool:=if v.isBase f then v.base.writes f else v.isM f
def Ev.call (P:Program) (v:Ev):Nat→FuncId→List AV→(Nat→AO)→Nat→Option (AV×List (Nat×AO))
 | 0,f=>fun avs M nid=>match v.isBase f with
  | true=>v.base.call f avs M nid
  | false=>none
 | n+1,f=>fun avs M nid=>match v.isBase f with
  | true=>v.base.call f avs M nid
  | false=>match v.skip f with
   | true=>none
   | false=>match P.funcs[f]? with
    | none=>none
    | some fn=>match fn.body with
     | none=>none
     | some c=>match v.isM f with
      | true=>callM false (v.sz f) (evalM v.T ⟨Ev.call P v n,v.w,true,v.base.eqs⟩ fn c n) avs M nid
      | false=>callP (evalP v.T ⟨Ev.call P v n,v.w,true,v.base.eqs⟩ fn c n) avs M nid
end Go.AM
namespace Go.AM
open Go
theorem aw_cases_nil {c:Cx} {k:Code} {st:St} {Q:Exit→St→Prop} (t s:Nat) (h:getS st.s t=.rd s []) (h1:AW c k ⟨(t,.v (.slice none 0 0))::st.s,st.m,st.nx⟩ Q) (h2:∀ p n,AW c k ⟨(t,.v (.slice (some p) 0 n))::st.s,st.m,st.nx⟩ Q):AW c k st Q:=fun a w hs=>by
 obtain ⟨E,hs0,hn,hm⟩:=hs
 have ht:=hs0.slots t
 rw [h] at ht
 simp only [Rep,CRep] at ht
 obtain ⟨p,n,hx,_,hp,_⟩:=ht
 have key:∀ v,a.tmps.getD t undef=v→Sat c.N c.w0 c.bl a w ⟨(t,.v v)::st.s,st.m,st.nx⟩:=fun v hv=>by
  refine ⟨E,⟨hs0.defers,hs0.size,hs0.inv,hs0.mem,fun t'=>?_⟩,hn,hm⟩
  simp only [getS]
  split
  ·rename_i e;subst e;simp only [Rep,CRep];exact hv
  ·exact hs0.slots t'
 cases p with
 | none=>obtain rfl:=hp rfl;exact h1 a w (key _ hx)
 | some p=>exact h2 p n a w (key _ hx)
theorem sat_tidyM {N:Nat} {w0:World} {bl:Bk} {a:Act} {w:World} {s:List (Nat×AV)} {m:List (Nat×AO)} {nx:Nat}:Sat N w0 bl a w ⟨s,tidyM m,nx⟩↔Sat N w0 bl a w ⟨s,m,nx⟩:=by
 unfold Sat
 have e2:getM (tidyM m)=getM m:=funext fun t=>getM_tidy
 simp only [e2]
theorem le_of2 {n:Nat} {s s':List (Nat×AV)} {m m':List (Nat×AO)} {nx nx':Nat} (hn:n≤nx') (hs:∀ p∈s',AVle (getS s p.1) p.2∧p.2.under nx') (hm:∀ p∈tidyM m',AOle (getM m p.1) p.2∧p.2.under nx'∧p.1<nx') :
  Le n ⟨s,m,nx⟩ ⟨s',m',nx'⟩:=fun N w0 bl a w hb h=>sat_tidyM.1 (le_of hn hs hm N w0 bl a w hb h)
theorem aw_loopK {c:Cx} {st:St} {Q:Exit→St→Prop} {ι:Type} (ks:List Nat) (V:ι→List (Nat×AV)) (W:ι→List (Nat×AO)) (μ:ι→Nat) (i0:ι) {x:Code} {s0:List (Nat×AV)} {m0:List (Nat×AO)}
  (_hs:keepS ks st.s=s0) (_hm:tidyM st.m=m0) (h0:Le c.bl.n st ⟨V i0++s0,W i0++m0,st.nx⟩)
  (round:∀ i,AW c x ⟨V i++s0,W i++m0,st.nx⟩ (thenQ (fun st'=>∃ i',Le c.bl.n st' ⟨V i'++s0,W i'++m0,st.nx⟩∧μ i'<μ i) Q)):AW c (.loop x) st Q :=
 aw_loop (fun i=>⟨V i++s0,W i++m0,st.nx⟩) μ i0 h0 round
@[simp] theorem nat_beq (n m:Nat):Nat.beq n m=decide (n=m):=by
 rw [Bool.eq_iff_iff,decide_eq_true_iff]
 exact ⟨Nat.eq_of_beq_eq_true,fun h=>by subst h;exact Nat.beq_refl n⟩
attribute [simp] tidyM remK
def unI:List (List AV)→Option (List Int)
 | []=>some []
 | [.v (.int .i64 x)]::r=>match unI r with
  | some l=>some (x::l)
  | none=>none
 | _=>none
theorem unI_eq:∀ {xs:List (List AV)} {l:List Int},unI xs=some l→xs=irows l
 | [],l,h=>by simp only [unI,Option.some.injEq] at h;subst h;rfl
 | e::r,l,h=>by
  unfold unI at h
  split at h
  ·simp at *
  ·rename_i x r' heq
   simp only [List.cons.injEq] at heq
   obtain ⟨rfl,rfl⟩:=heq
   cases hr:unI r<;>simp only [hr,reduceCtorEq,Option.some.injEq] at h
   subst h
   rw [unI_eq hr];rfl
  ·simp at h
theorem body_ok {P : Program} {f : FuncId} (fn : Func) (h : P.funcs[f]? = some fn) (h2 : (fn.body.isSome && !(fn.name == "runtime.NumGoroutine")) = true) : BodyOK P f := by
 simp only [Bool.and_eq_true,Bool.not_eq_true'] at h2
 exact ⟨fn,h,h2.1,h2.2⟩
def gi (l:List Int) (n:Nat):Int:=l.getD n 0
theorem irows_gi {l:List Int} {n:Nat} (h:n<l.length):(irows l)[n]?=some [I (gi l n)]:=irows_get h
theorem gi_eq {l:List Int} {n:Nat} (h:n<l.length):gi l n=l[n]:=by
 unfold gi
 rw [List.getD_eq_getElem?_getD,List.getElem?_eq_getElem h];rfl
theorem wrapU64 {n:Int} (h:0≤n∧n≤18446744073709551615):IntKind.u64.wrap n=n:=by
 have:IntKind.u64.wrap n=n%18446744073709551616:=rfl
 rw [this];omega
end Go.AM
namespace Go.AM
open Go
def AX.start (w:FuncId→Bool):AX:=⟨fun _ _ _ _=>.none,w,true,fun _=>false⟩
theorem xok_start (P:Program) (w:FuncId→Bool):XOK P (AX.start w) where
 calls:=fun f avs M nid r h=>by simp [AX.start] at h
 eqs:=fun t h=>by simp [AX.start] at h
 dom:=fun f avs M nid r h=>by simp [AX.start] at h
 anyW:=fun f _=>rfl
theorem xok_putM {P:Program} {X:AX} (h:XOK P X) {f:FuncId} {g:List AV→(Nat→AO)→Nat→Option (AV×List (Nat×AO))} (hw:X.writes f=true) (hg:(CallOK P f g∧BodyOK P f)∨ExtOK P f g)
  (hd:∀ avs M nid r,g avs M nid=some r→∀ b∈r.2.map (·.1),(nid≤b∧b<nid+16)∨M b≠.dead):XOK P (X.add f g) where
 calls:=fun k avs M nid r hr=>by
  simp only [AX.add] at hr ⊢
  split
  ·rename_i e;subst e;exact hg
  ·rename_i e
   rw [if_neg e] at hr
   exact h.calls k avs M nid r hr
 eqs:=h.eqs
 dom:=fun k avs M nid r hr b hb=>by
  simp only [AX.add] at hr ⊢
  split at hr
  ·rename_i e;subst e
   exact (hd avs M nid r hr b hb).imp id fun h=>⟨hw,h⟩
  ·exact h.dom k avs M nid r hr b hb
 anyW:=h.anyW
def AX.W (X:AX) (w:FuncId→Bool):Prop:=X.writes=w∧X.anyW=true
theorem AX.W.add {X:AX} {w:FuncId→Bool} (h:X.W w) (f:FuncId) (g:List AV→(Nat→AO)→Nat→Option (AV×List (Nat×AO))):(X.add f g).W w:=h
theorem ordB_w {X:AX} {w:FuncId→Bool} (h:X.W w) {ops:Array Oper}:ordB X ops=ordB (AX.start w) ops:=by
 obtain ⟨a,b,c,d⟩:=X
 obtain ⟨h1,h2⟩:=h
 simp only at h1 h2
 subst h1 h2
 rfl
end Go.AM
