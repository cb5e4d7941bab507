/- A part of the proof: what functions of the program compute, by abstract execution of their code. Its theorems hold without further condition. -/
import Derived.Test.YtcfhmdljeeppfaaAmO
import Derived.Laws.Externs
set_option linter.all false
namespace Go.AM
open Go
def OArg (w:World) (G:Nat→Prop):AV→Value→List Nat→Prop
 | .rf cs,x,bl=>∃ blk t vs b1,x=.pointer (some ⟨blk,0,none⟩)∧bl=blk::b1∧w.heap[blk]?=some (.cells (List.toArray vs) t (0,0))∧(∀ y∈vs,y.oneCell'=true)∧OLeaves w G cs vs b1
 | a,x,bl=>OVal w G a x bl
def MSound (P:Program) (f:FuncId) (F:AV→List AV→Option (AV×AV)):Prop :=
 ∀ (w:World) (G:Nat→Prop) (x0:Value) (args:List Value) (a0:AV) (avs:List AV) (bl:List Nat) (r out:AV),F a0 avs=some (r,out)→(∀ k,G k→k<w.heap.size)→OArg w G a0 x0 bl→CRepL w G avs args →
  bl.Nodup→(∀ k∈bl,k<w.heap.size∧¬ G k) →
  Calls P f (x0::args).toArray w fun e w'=>∃ x G' b1 b2,e=.returned x∧Frame w bl w'∧OArg w' G' out x0 b1∧ORet w' G' r x b2∧(b1++b2).Nodup∧∀ k∈b1++b2,k<w'.heap.size∧(w.heap.size≤k∨k∈bl)
def openArg (nid:Nat):AV→AV×List (Nat×AO)×Nat
 | .rf cs=>(.bp (openLeaves nid cs).2.2 0,(openLeaves nid cs).2.1++[((openLeaves nid cs).2.2,.box (openLeaves nid cs).1)],(openLeaves nid cs).2.2+1)
 | a=>openVal nid a
theorem Opens.congr {w0:World} {bl:Bk} {E E':Env} {w:World} {nid n:Nat} {u:List (Nat×AO)} {bs bs':List Nat} (o:Opens w0 bl E w nid n u bs E') (h:∀ k,k∈bs↔k∈bs'):Opens w0 bl E w nid n u bs' E' :=
 ⟨o.step,o.le,o.keys,o.G,fun b base sz k hb hl=>(o.locs b base sz k hb hl).imp id (h k).1⟩
theorem openArg_ok {w0:World} {bl:Bk} {E:Env} {w:World} (hI:Inv w0 bl E w) {nid:Nat} {a:AV} (hn:∀ k,nid≤k→k<(openArg nid a).2.2→¬ E.alive k) {x:Value} {bs:List Nat} (h:OArg w E.G a x bs) (hs:Spare w0 bl E w bs) (hnd:bs.Nodup) :
  ∃ E',Opens w0 bl E w nid (openArg nid a).2.2 (openArg nid a).2.1 bs E'∧Rep E' w (openArg nid a).1 x:=by
 by_cases ha:∃ cs,a=.rf cs
 ·obtain ⟨cs,rfl⟩:=ha
  simp only [OArg] at h
  obtain ⟨blk,t,vs,b1,rfl,rfl,h1,h2,h3⟩:=h
  have hnd':=List.nodup_cons.1 hnd
  simp only [openArg] at hn ⊢
  obtain ⟨E1,o,r⟩:=openLeaves_ok hI (nid:=nid) (as:=cs) (fun k p q=>hn k p (by omega)) h3 (fun k hk=>hs k (by simp [hk])) hnd'.2
  have hna:=o.fresh hn (openLeaves nid cs).2.2 (Nat.le_refl _) (by omega)
  have hsp:=o.spare (bs':=[blk]) (fun k hk=>hs k (by simp at hk;simp [hk])) (fun k p q=>by simp at q;subst q;exact hnd'.1 p) blk (by simp)
  have ho:ObjRep (E1.upd (openLeaves nid cs).2.2 0 (some (blk,0,vs.length))) w (openLeaves nid cs).2.2 (.box (openLeaves nid cs).1):=by
   simp only [ObjRep]
   refine ⟨by simp [Env.upd],blk,t,vs,by simp [Env.upd],h1,h2,?_⟩
   exact r.mono (Env.le_upd fun hh=>absurd hh hna) fun _ _=>rfl
  have st:=StepTo.adopt o.step.inv (openLeaves nid cs).2.2 _ 0 (some (blk,0,vs.length)) hna (fun blk' base' sz' e=>by
   simp only [Option.some.injEq,Prod.mk.injEq] at e
   rw [← e.1];exact hsp) ho
  refine ⟨_,(o.trans (n2:=(openLeaves nid cs).2.2+1) (bs':=[blk]) ⟨st,by omega,fun b hb=>?_,rfl,fun b base sz k hb hl=>?_⟩).congr (by intro k;simp [or_comm]),?_⟩
  ·simp only [List.map_cons,List.map_nil,List.mem_singleton] at hb;omega
  ·by_cases e:b=(openLeaves nid cs).2.2
   ·subst e;simp only [Env.upd,if_true,Option.some.injEq,Prod.mk.injEq] at hl;exact .inr (by simp [hl.1])
   ·simp only [Env.upd,e,if_false,or_false] at hb hl
    exact .inl ⟨hb,hl⟩
  ·simp only [Rep]
   exact ⟨.inr rfl,by simp [Env.upd],blk,vs.length,by simp [Env.upd],rfl⟩
 ·have e:openArg nid a=openVal nid a:=by cases a<;>first|rfl|exact absurd ⟨_,rfl⟩ ha
  have h2:OVal w E.G a x bs:=by cases a<;>first|exact h|exact absurd ⟨_,rfl⟩ ha
  rw [e] at hn ⊢
  exact openVal_ok hI hn h2 hs hnd
def leaveArg (M:Nat→AO):AV→Option (AV×List Nat)
 | .bp b 0=>match M b with
  | .box cs=>match leaveLeaves M cs with
   | some (rs,is)=>some (.rf rs,b::is)
   | none=>none
  | _=>none
 | .sl b m s o n=>match leaveLeaf M (.sl b m s o n) with
  | some r=>some r
  | none=>some (.any,[])
 | _=>some (.any,[])
theorem leaveArg_ok {M:Nat→AO} {a r:AV} {ids:List Nat} {E:Env} {w:World} {x:Value} (h:leaveArg M a=some (r,ids)) (hr:Rep E w a x) (hM:MemOK E w M):∃ bl,OArg w E.G r x bl∧Cov E ids bl:=by
 have hany:some (AV.any,([]:List Nat))=some (r,ids)→∃ bl,OArg w E.G r x bl∧Cov E ids bl:=fun e=>by
  simp only [Option.some.injEq,Prod.mk.injEq] at e
  obtain ⟨rfl,rfl⟩:=e
  exact ⟨[],by simp only [OArg,OVal,OLeaf,CRep];exact ⟨trivial,trivial⟩,Cov.nil⟩
 unfold leaveArg at h
 split at h
 ·rename_i b
  have ho:=hM b (by simp only [Rep] at hr;exact hr.1)
  cases hb:M b<;>simp only [hb,reduceCtorEq] at h ho
  rename_i cs
  cases h2:leaveLeaves M cs<;>simp only [h2,reduceCtorEq] at h
  rename_i p
  obtain ⟨rs,is⟩:=p
  simp only [Option.some.injEq,Prod.mk.injEq] at h
  obtain ⟨rfl,rfl⟩:=h
  simp only [Rep] at hr
  obtain ⟨k1,k2,blk,sz,k3,rfl⟩:=hr
  simp only [ObjRep] at ho
  obtain ⟨_,blk',t,vs,q1,q2,q3,q4⟩:=ho
  rw [k3] at q1
  simp only [Option.some.injEq,Prod.mk.injEq] at q1
  obtain ⟨rfl,_,rfl⟩:=q1
  obtain ⟨b1,p1,p2⟩:=leaveLeaves_ok hM h2 q4
  refine ⟨blk::b1,by simp only [OArg];exact ⟨blk,t,vs,b1,rfl,rfl,q2,q3,p1⟩,?_⟩
  have:Cov E [b] [blk]:=⟨[b],by simp,by simp [k3],by simpa using k1⟩
  exact this.append p2
 ·rename_i b m s o n
  cases h2:leaveLeaf M (.sl b m s o n)<;>simp only [h2] at h
  ·exact hany h
  ·simp only [Option.some.injEq] at h
   subst h
   obtain ⟨bl,p1,p2⟩:=leaveLeaf_ok h2 hr hM
   refine ⟨bl,?_,p2⟩
   unfold leaveLeaf at h2
   simp only at h2
   split at h2
   ·split at h2
    ·simp only [Option.some.injEq,Prod.mk.injEq] at h2
     obtain ⟨rfl,_⟩:=h2
     exact p1
    ·simp at h2
   ·simp at h2
 ·exact hany h
theorem OLeaves.mono {w:World} {G G':Nat→Prop} (hG:∀ k,G k→G' k):∀ {as:List AV} {xs:List Value} {bl:List Nat},OLeaves w G as xs bl→OLeaves w G' as xs bl
 | [],[],_,h=>by simpa only [OLeaves] using h
 | a::as,x::xs,bl,h=>by
  simp only [OLeaves] at h ⊢
  obtain ⟨b1,b2,e,h1,h2⟩:=h
  exact ⟨b1,b2,e,h1.mono hG,OLeaves.mono hG h2⟩
 | [],_::_,_,h=>by simp [OLeaves] at h
 | _::_,[],_,h=>by simp [OLeaves] at h
theorem OVal.mono {w:World} {G G':Nat→Prop} (hG:∀ k,G k→G' k) {a:AV} {x:Value} {bl:List Nat} (h:OVal w G a x bl):OVal w G' a x bl:=by
 by_cases hc:∃ cs,a=.agg cs
 ·obtain ⟨cs,rfl⟩:=hc
  simp only [OVal] at h ⊢
  obtain ⟨vs,h1,h2,h3⟩:=h
  exact ⟨vs,h1,h2,OLeaves.mono hG h3⟩
 ·have h1:OLeaf w G a x bl:=by cases a<;>first|exact h|exact absurd ⟨_,rfl⟩ hc
  have h2:=OLeaf.mono hG h1
  cases a<;>first|exact h2|exact absurd ⟨_,rfl⟩ hc
theorem OArg.mono {w:World} {G G':Nat→Prop} (hG:∀ k,G k→G' k) {a:AV} {x:Value} {bl:List Nat} (h:OArg w G a x bl):OArg w G' a x bl:=by
 by_cases hc:∃ cs,a=.rf cs
 ·obtain ⟨cs,rfl⟩:=hc
  simp only [OArg] at h ⊢
  obtain ⟨blk,t,vs,b1,h1,h2,h3,h4,h5⟩:=h
  exact ⟨blk,t,vs,b1,h1,h2,h3,h4,OLeaves.mono hG h5⟩
 ·have h1:OVal w G a x bl:=by cases a<;>first|exact h|exact absurd ⟨_,rfl⟩ hc
  have h2:=OVal.mono hG h1
  cases a<;>first|exact h2|exact absurd ⟨_,rfl⟩ hc
theorem OArg.of_le {w:World} {G:Nat→Prop} {a a':AV} {x:Value} {bl:List Nat} (h:OArg w G a x bl) (he:a'=a∨a'=.any):∃ bl',bl'.Sublist bl∧OArg w G a' x bl':=by
 rcases he with rfl|rfl
 ·exact ⟨bl,List.Sublist.refl _,h⟩
 ·exact ⟨[],by simp,by simp only [OArg,OVal,OLeaf,CRep];exact ⟨trivial,trivial⟩⟩
def LeavesM (T:TypeId→Option TD) (rv:List ResultVar) (st:St) (a0:AV) (r:List AV) (out:AV):Prop :=
 ∃ as rs ids o is,aResults T st rv=some as∧leaveVals (getM st.m) as=some (rs,ids)∧(leaveArg (getM st.m) a0=some (o,is)∨(o=.any∧is=[]))∧(is++ids).Nodup∧SLeVs rs r∧(out=o∨out=.any)
theorem getM_updM {u:List (Nat×AO)} {b:Nat}:updM (fun _=>.dead) u b=getM u b:=by
 induction u with
 | nil=>rfl
 | cons p r ih=>obtain ⟨k,o⟩:=p;simp only [updM,getM,ih]
theorem getS_enter0 {a:AV} {avs:List AV} {t:Nat}:getS (enterS (a::avs)) t=((a::avs)[t]?).getD .any:=by
 rw [enterS,getS_enter]
 simp
theorem msound_body {P:Program} {X:AX} {f:FuncId} {fn:Func} {c:Code} {N:Nat} (hf:P.funcs[f]?=some fn) (hb:fn.body=some c) (hN:fn.ntmps=N) {w:World} {G:Nat→Prop} {x0:Value} {args:List Value} {avs:List AV} {bl:List Nat} {r out:AV} (hargs:CRepL w G avs args)
  (hbl:∀ k∈bl,k<w.heap.size∧¬ G k) {E1:Env} {a1:AV} {u1:List (Nat×AO)} {n1:Nat} (hI:Inv w ⟨bl,Env.start G,0⟩ (Env.start G) w) (o:Opens w ⟨bl,Env.start G,0⟩ (Env.start G) w 0 n1 u1 bl E1) (r1:Rep E1 w a1 x0) (hlen:avs.length+1≤N) {rl:List AV} (hrl:retOf rl=r)
  (haw:AW ⟨P,X,N,w,⟨bl,E1,n1⟩⟩ c ⟨enterS (a1::avs),u1,n1⟩ (fun e st=>(e=.normal∨e=.ret)∧LeavesM (Types P) fn.results.toList st a1 rl out)) :
  Calls P f (x0::args).toArray w fun e w'=>∃ x G' b1 b2,e=.returned x∧Frame w bl w'∧OArg w' G' out x0 b1∧ORet w' G' r x b2∧(b1++b2).Nodup∧∀ k∈b1++b2,k<w'.heap.size∧(w.heap.size≤k∨k∈bl):=by
 have hal:args.length=avs.length:=by
  have:∀ {as:List AV} {xs:List Value},CRepL w G as xs→xs.length=as.length:=by
   intro as
   induction as with
   | nil=>intro xs h;cases xs<;>simp [CRepL] at h ⊢
   | cons a r ih=>intro xs h;cases xs<;>simp only [CRepL] at h ⊢;simp [ih h.2]
  exact this hargs
 have hM1:MemOK E1 w (getM u1):=fun b hb=>by
  have:=o.step.mem hI (M:=fun _=>.dead) (fun b hb=>hb.elim) b hb
  rwa [getM_updM] at this
 have hlow:∀ k,E1.alive k→k<n1:=fun k hk=>by
  rcases o.step.alive k hk with h1|h1
  ·exact h1.elim
  ·exact (o.keys k h1).2
 have hI1:Inv w ⟨bl,E1,n1⟩ E1 w:=⟨o.step.inv.frame,Env.Le.refl _,hlow,fun k hk=>.inl hk,o.step.inv.good,o.step.inv.locs,o.step.inv.apart⟩
 have hsat:Sat N w ⟨bl,E1,n1⟩ { tmps:=(x0::args).toArray++Array.replicate (fn.ntmps - (x0::args).toArray.size) undef,defers:=[] } w ⟨enterS (a1::avs),u1,n1⟩:=by
  refine ⟨E1,⟨rfl,by simp [hN];omega,hI1,hM1,fun t=>?_⟩,hlow,fun k hk=>?_⟩
  ·rw [getS_enter0]
   cases t with
   | zero =>
    have:((x0::args).toArray++Array.replicate (fn.ntmps - (x0::args).toArray.size) undef).getD 0 undef=x0:=by
     rw [Array.getD_eq_getD_getElem?,Array.getElem?_append_left (by simp)];simp
    simp only [this]
    exact r1
   | succ t =>
    simp only [List.getElem?_cons_succ]
    cases ht:avs[t]? with
    | none=>simp [Rep,CRep]
    | some a =>
     obtain ⟨x,h1,h2⟩:=hargs.get ht
     have hlt:=(List.getElem?_eq_some_iff.1 ht).1
     rw [Array.getD_eq_getD_getElem?,Array.getElem?_append_left (by simp;omega)]
     have:(x0::args).toArray[t+1]?=some x:=by simpa using h1
     rw [this]
     exact Rep.of_c (E:=E1) (by rw [o.G];exact h2)
  ·have:k∈u1.map (·.1):=by
    rcases getM_mem (m:=u1) (t:=k) with e|⟨p,hp,e,_⟩
    ·exact absurd e hk
    ·exact List.mem_map.2 ⟨p,hp,e⟩
   exact (o.keys k this).2
 refine calls_of_wp hf hb (wp_mono (haw _ _ hsat) fun e a w' ⟨st,⟨he,as,rs,ids,oa,is,h1,h2,h2',h3,h4,h5⟩,E',hs,_,_⟩=>?_)
 obtain ⟨vs,k1,k2⟩:=aResults_ok hs h1
 have hrep0:Rep E' w' a1 x0:=r1.mono hs.inv.gin fun k hk=>hs.inv.frame.old k (o.step.inv.good k hk) fun hkb=>(hbl k hkb).2 (by rw [o.G] at hk;exact hk)
 obtain ⟨bl1,j1,j2⟩:∃ bl,OArg w' E'.G oa x0 bl∧Cov E' is bl:=by
  rcases h2' with h2'|⟨rfl,rfl⟩
  ·exact leaveArg_ok h2' hrep0 hs.mem
  ·exact ⟨[],by simp only [OArg,OVal,OLeaf,CRep];exact ⟨trivial,trivial⟩,Cov.nil⟩
 obtain ⟨bl2,k3,k4⟩:=leaveVals_ok hs.mem h2 k2
 have hnd2:(bl1++bl2).Nodup:=(j2.append k4).nodup hs.inv h3
 obtain ⟨n1,n2,n3⟩:=List.nodup_append.1 hnd2
 obtain ⟨bl1',q3,q4⟩:=j1.of_le h5
 obtain ⟨bl2',q1,q2⟩:=h4.vals k3 n2
 have hblk:∀ k∈bl1++bl2,k<w'.heap.size∧(w.heap.size≤k∨k∈bl):=fun k hk=>by
  obtain ⟨b,_,base,sz,hb1,hb2⟩:=(j2.append k4).mem hk
  have:=hs.inv.locs b k base sz hb1 hb2
  exact ⟨this.1,this.2.2⟩
 let G':Nat→Prop:=fun k=>E'.G k∨(k∈bl2∧k ∉ bl2')
 have hret:OVals w' G' rl vs bl2':=q2 G' (fun k hk=>.inl hk) fun k hk hk'=>.inr ⟨hk,hk'⟩
 have hvl:vs.length=rl.length:=by
  have:∀ {as:List AV} {xs:List Value} {b:List Nat},OVals w' G' as xs b→xs.length=as.length:=by
   intro as
   induction as with
   | nil=>intro xs b h;cases xs<;>simp [OVals] at h ⊢
   | cons a r ih=>intro xs b h;cases xs<;>simp only [OVals] at h<;>first|exact h.elim|(obtain ⟨_,b2,_,_,h2⟩:=h;simp [ih h2])
  exact this hret
 have hrun:(results fn a.tmps).run P w'=.ok (if h:vs.toArray.size=1 then vs.toArray[0] else .tuple vs.toArray) w':=by
  unfold results
  rw [Sem.run_bind,← Array.toArray_toList (xs:=fn.results),List.mapM_toArray]
  simp only [Sem.run_map]
  have:(List.mapM (fun x=>match x with|.tmp t=>pure (a.tmps.getD t undef)|.cell b t=>do loadVar t (← asAddr (a.tmps.getD b undef))) fn.results.toList:Sem (List Value)).run P w'=.ok vs w':=k1
  erw [this]
  rfl
 have hnt:=leaveVals_tup h2 h4
 have hfin:∃ x G' b1 b2,Ending.returned (if h:vs.toArray.size=1 then vs.toArray[0] else .tuple vs.toArray)=Ending.returned x∧Frame w bl w'∧OArg w' G' out x0 b1∧ORet w' G' r x b2∧(b1++b2).Nodup∧∀ k∈b1++b2,k<w'.heap.size∧(w.heap.size≤k∨k∈bl):=by
  refine ⟨_,G',bl1',bl2',rfl,hs.inv.frame,OArg.mono (fun k hk=>.inl hk) q4,?_,?_,fun k hk=>hblk k ?_⟩
  ·subst hrl
   match rl,vs,hvl,hret,hnt with
   | [],[],_,hret,_=>exact ⟨[],by simp,hret⟩
   | [r],[v],_,hret,hnt =>
    simp only [OVals] at hret
    obtain ⟨b1,b2,e,h5,rfl⟩:=hret
    simp only [List.append_nil] at e
    subst e
    simp only [List.size_toArray,List.length_cons,List.length_nil,Nat.zero_add,dite_true,List.getElem_toArray,List.getElem_cons_zero,retOf]
    have hn':=hnt r (by simp)
    cases r<;>first|exact h5|exact absurd rfl (hn' _)
   | r1::r2::rl,v1::v2::vs,_,hret,_ =>
    simp only [retOf,ORet]
    exact ⟨v1::v2::vs,by simp,hret⟩
  ·exact List.nodup_append.2 ⟨q3.nodup n1,q1.nodup n2,fun x hx y hy=>n3 x (q3.subset hx) y (q1.subset hy)⟩
  ·rcases List.mem_append.1 hk with hk|hk
   ·exact List.mem_append.2 (.inl (q3.subset hk))
   ·exact List.mem_append.2 (.inr (q1.subset hk))
 rcases he with rfl|rfl
 ·exact ⟨hs.defers,_,hrun,hfin⟩
 ·exact ⟨hs.defers,_,hrun,hfin⟩
theorem msound_of {P:Program} {f:FuncId} {fn:Func} {c:Code} {N:Nat} {F:AV→List AV→Option (AV×AV)} (hf:P.funcs[f]?=some fn) (hb:fn.body=some c) (hN:fn.ntmps=N)
  (h:∀ (w0:World) (bl:List Nat) (E:Env) (a0:AV) (avs:List AV) (r out:AV),F a0 avs=some (r,out)→avs.length+1≤N∧∃ rl,retOf rl=r∧rl.length=fn.results.size∧∃ X,
   AW ⟨P,X,N,w0,⟨bl,E,(openArg 0 a0).2.2⟩⟩ c ⟨enterS ((openArg 0 a0).1::avs),(openArg 0 a0).2.1,(openArg 0 a0).2.2⟩ (fun e st=>(e=.normal∨e=.ret)∧LeavesM (Types P) fn.results.toList st (openArg 0 a0).1 rl out)) :
  MSound P f F:=by
 intro w G x0 args a0 avs bl r out hF hG h0 hargs hnd hbl
 have hI:Inv w ⟨bl,Env.start G,0⟩ (Env.start G) w:=⟨⟨rfl,rfl,Nat.le_refl _,fun _ _ _=>rfl⟩,Env.Le.refl _,fun _ hb=>hb.elim,fun _ h=>.inl h,hG,fun b _ _ _ hb=>hb.elim,fun b _ _ _ _ _ _ hb=>hb.elim⟩
 obtain ⟨E1,o,r1⟩:=openArg_ok hI (nid:=0) (a:=a0) (fun k _ _ hk=>hk.elim) h0 (fun k hk=>⟨(hbl k hk).1,(hbl k hk).2,.inr hk,fun b _ _ hb=>hb.elim⟩) hnd
 obtain ⟨hlen,rl,hrl,hrlen,X,haw⟩:=h w bl E1 a0 avs r out hF
 exact msound_body hf hb hN hargs hbl hI o r1 hlen hrl haw
def anyRows (s n:Nat):List (List AV):=List.replicate n (List.replicate s .any)
theorem msound_cap {P:Program} {f:FuncId} {fn:Func} {c:Code} {N:Nat} {F:AV→List AV→Option (AV×AV)} (hf:P.funcs[f]?=some fn) (hb:fn.body=some c) (hN:fn.ntmps=N)
  (h:∀ (w0:World) (bl:List Nat) (E:Env) (a0:AV) (avs:List AV) (r out:AV),F a0 avs=some (r,out)→avs.length+1≤N∧∃ s xs,a0=.ow s xs∧∃ rl,retOf rl=r∧rl.length=fn.results.size∧∃ X,∀ m,
   AW ⟨P,X,N,w0,⟨bl,E,1⟩⟩ c ⟨enterS (.sl 0 1 s 0 xs.length::avs),[(0,.vec 1 s true (xs++anyRows s m))],1⟩ (fun e st=>(e=.normal∨e=.ret)∧LeavesM (Types P) fn.results.toList st (.sl 0 1 s 0 xs.length) rl out)) :
  MSound P f F:=by
 intro w G x0 args a0 avs bl r out hF hG h0 hargs hnd hbl
 have hI:Inv w ⟨bl,Env.start G,0⟩ (Env.start G) w:=⟨⟨rfl,rfl,Nat.le_refl _,fun _ _ _=>rfl⟩,Env.Le.refl _,fun _ hb=>hb.elim,fun _ h=>.inl h,hG,fun b _ _ _ hb=>hb.elim,fun b _ _ _ _ _ _ hb=>hb.elim⟩
 have hop:∀ s xs,a0=.ow s xs→∃ E1 m,Opens w ⟨bl,Env.start G,0⟩ (Env.start G) w 0 1 [(0,.vec 1 s true (xs++anyRows s m))] bl E1∧Rep E1 w (.sl 0 1 s 0 xs.length) x0:=by
  rintro s xs rfl
  simp only [OArg,OVal,OLeaf] at h0
  obtain ⟨p,cc,rfl,h2,h3,h4⟩:=h0
  have hna:¬ (Env.start G).alive 0:=fun hh=>hh.elim
  rcases h4 with ⟨rfl,rfl⟩|⟨blk,base,arr,t,rfl,rfl,k3,k4,k4',k5⟩
  ·have hx:xs=[]:=List.length_eq_zero_iff.1 (by omega)
   subst hx
   refine ⟨(Env.start G).upd 0 1 none,0,⟨by simpa [anyRows] using StepTo.none hI 0 s hna true,by omega,by simp,rfl,fun b base sz k hb hl=>?_⟩,?_⟩
   ·by_cases e:b=0
    ·subst e;simp [Env.upd] at hl
    ·simp only [Env.upd,e,if_false,or_false] at hb hl
     exact .inl ⟨hb,hl⟩
   ·simp only [Rep]
    exact ⟨.inr rfl,Nat.le_refl _,by simp [Env.upd],p,0,rfl,by simp,h3,fun _=>by simp [Env.upd,SlAt]⟩
  ·have hlen:(xs++anyRows s (cc - xs.length)).length=cc:=by simp [anyRows];omega
   have hb0:=hbl blk (by simp)
   refine ⟨(Env.start G).upd 0 1 (some (blk,base,base+cc*s)),cc - xs.length,⟨StepTo.adopt hI 0 _ 1 _ hna (fun blk' base' sz' e=>?_) ?_,by omega,by simp,rfl,fun b base' sz k hb hl=>?_⟩,?_⟩
   ·simp only [Option.some.injEq,Prod.mk.injEq] at e
    obtain ⟨rfl,_,_⟩:=e
    exact ⟨hb0.1,hb0.2,.inr (by simp),fun b _ _ hb=>hb.elim⟩
   ·simp only [ObjRep,Env.upd,if_true]
    refine ⟨trivial,Nat.le_refl _,arr,t,k3,k4,k4',by rw [hlen];exact Nat.le_refl _,by rw [hlen];simp,CRows.cons_left k5 (CRows.of_get fun i e he=>?_)⟩
    have hi:i<cc - xs.length:=by
     have:=(List.getElem?_eq_some_iff.1 he).1
     simpa [anyRows] using this
    have he':e=List.replicate s .any:=by
     rw [anyRows,List.getElem?_replicate,if_pos hi] at he
     simpa using he.symm
    subst he'
    refine ⟨by simp,CCells.of_get fun j a ha=>?_⟩
    have hj:j<s:=by
     have:=(List.getElem?_eq_some_iff.1 ha).1
     simpa using this
    have ha':a=.any:=by
     rw [List.getElem?_replicate,if_pos hj] at ha
     simpa using ha.symm
    subst ha'
    have h5:(xs.length+i+1)*s≤cc*s:=Nat.mul_le_mul_right s (by omega)
    have h6:(xs.length+i+1)*s=xs.length*s+i*s+s:=by rw [Nat.add_mul,Nat.add_mul];omega
    have hk:base+xs.length*s+i*s+j<arr.size:=by omega
    refine ⟨arr[base+xs.length*s+i*s+j],?_,k4' _ (Array.mem_toList_iff.2 (Array.getElem_mem _)),by simp [CRep]⟩
    rw [cell_of_row _ _ _ arr t _ k3,Array.getElem?_eq_getElem hk]
   ·by_cases e:b=0
    ·subst e;simp only [Env.upd,if_true,Option.some.injEq,Prod.mk.injEq] at hl;exact .inr (by simp [hl.1])
    ·simp only [Env.upd,e,if_false,or_false] at hb hl
     exact .inl ⟨hb,hl⟩
   ·simp only [Rep]
    exact ⟨.inr rfl,Nat.le_refl _,by simp [Env.upd],_,cc,rfl,h2,fun e=>by simp at e,fun _=>by simp [Env.upd,SlAt]⟩
 obtain ⟨E',m',_⟩:∃ E':Env,∃ m':Nat,True:=⟨Env.start G,0,trivial⟩
 have h1:=h w bl E' a0 avs r out hF
 obtain ⟨hlen,s,xs,rfl,_⟩:=h1
 obtain ⟨E1,m,o,r1⟩:=hop s xs rfl
 obtain ⟨hlen,s',xs',e,rl,hrl,hrlen,X,haw⟩:=h w bl E1 _ avs r out hF
 simp only [AV.ow.injEq] at e
 obtain ⟨rfl,rfl⟩:=e
 exact msound_body hf hb hN hargs hbl hI o r1 hlen hrl (haw m)
end Go.AM
namespace Go.AM
open Go
theorem StepTo.over {w0:World} {bl:Bk} {E E1 E2:Env} {w w1 w2:World} {u u':List (Nat×AO)} (s:StepTo w0 bl E w u E1 w1) (t:StepTo w0 bl E1 w1 u' E2 w2)
  (hd:∀ b o,(b,o)∈u→b∈u'.map (·.1)→o=.dead∧E.alive b∧E1.loc b=E.loc b):StepTo w0 bl E w (u'++u) E2 w2 where
 le:=s.le.trans t.le
 inv:=t.inv
 size:=Nat.le_trans s.size t.size
 keep:=fun k hk hn=>by
  rw [t.keep k (Nat.lt_of_lt_of_le hk s.size) fun b base sz hb hm hl=>?_]
  ·exact s.keep k hk fun b base sz hb hm=>hn b base sz hb (by simp only [List.map_append,List.mem_append];exact .inr hm)
  ·by_cases h2:b∈u.map (·.1)
   ·obtain ⟨⟨b',o⟩,h3,h4⟩:=List.mem_map.1 h2
    simp only at h4
    subst h4
    obtain ⟨_,h5,h6⟩:=hd _ _ h3 hm
    rw [h6] at hl
    exact hn _ base sz h5 (by simp only [List.map_append,List.mem_append];exact .inl hm) hl
   ·rcases s.alive b hb with h1|h1
    ·rw [(s.same b h1 h2).2] at hl
     exact hn b base sz h1 (by simp only [List.map_append,List.mem_append];exact .inl hm) hl
    ·exact h2 h1
 alive:=fun b hb=>by
  simp only [List.map_append,List.mem_append]
  rcases t.alive b hb with h1|h1
  ·rcases s.alive b h1 with h2|h2
   ·exact .inl h2
   ·exact .inr (.inr h2)
  ·exact .inr (.inl h1)
 same:=fun b hb hn=>by
  simp only [List.map_append,List.mem_append,not_or] at hn
  have h1:=s.same b hb hn.2
  have h2:=t.same b (s.le.alive b hb) hn.1
  exact ⟨h2.1.trans h1.1,h2.2.trans h1.2⟩
 objs:=fun b o ho=>by
  rcases List.mem_append.1 ho with ho|ho
  ·exact t.objs b o ho
  ·have h1:=s.objs b o ho
   refine ⟨t.le.alive b h1.1,?_⟩
   by_cases h2:b∈u'.map (·.1)
   ·rw [(hd b o ho h2).1];trivial
   ·exact t.obj s.inv h1.1 h2 h1.2
def Env.lose (E:Env) (lost:List Nat):Env:={ E with ver:=fun b=>if b∈lost then E.ver b+1 else E.ver b,loc:=fun b=>if b∈lost then none else E.loc b }
theorem StepTo.lose {w0:World} {bl:Bk} {E:Env} {w w':World} (h:Inv w0 bl E w) {bs lost kept:List Nat} (hf:Frame w bs w') (hal:∀ b∈kept++lost,E.alive b) (hv:∀ b∈lost,1≤E.ver b)
  (hb:∀ k∈bs,∃ b∈kept++lost,∃ base sz,E.loc b=some (k,base,sz)):StepTo w0 bl E w ((kept++lost).map fun b=>(b,.dead)) (E.lose lost) w':=by
 have hkeys:((kept++lost).map fun b=>((b,.dead):Nat×AO)).map (·.1)=kept++lost:=by simp [Function.comp_def]
 have hbs:∀ k∈bs,k<w.heap.size∧¬ E.G k∧(w0.heap.size≤k∨k∈bl.l):=fun k hk=>by
  obtain ⟨b,h1,base,sz,h2⟩:=hb k hk
  exact h.locs b k base sz (hal b h1) h2
 have hle:E.Le (E.lose lost):=⟨fun _ hk=>hk,fun _ hb=>hb,fun b _=>by
  by_cases e:b∈lost
  ·exact .inr ⟨hv b e,by simp [Env.lose,e]⟩
  ·exact .inl (by simp [Env.lose,e])⟩
 refine ⟨hle,⟨⟨hf.os.trans h.frame.os,hf.out.trans h.frame.out,Nat.le_trans h.frame.size hf.size,fun k h1 h2=>?_⟩,h.gin.trans hle,h.low,h.gout,fun k hk=>Nat.lt_of_lt_of_le (h.good k hk) hf.size,fun b blk base sz h1 h2=>?_,fun b b' blk base sz base' sz' h1 h2 h3 h4=>?_⟩,hf.size,fun k hk hn=>?_,fun _ hb=>.inl hb,fun b _ hn=>?_,fun b o ho=>?_⟩
 ·rw [hf.old k (Nat.lt_of_lt_of_le h1 h.frame.size) fun hk=>?_]
  ·exact h.frame.old k h1 h2
  ·rcases (hbs k hk).2.2 with h3|h3
   ·omega
   ·exact h2 h3
 ·simp only [Env.lose] at h2
  split at h2
  ·simp at h2
  ·have:=h.locs b blk base sz h1 h2
   exact ⟨Nat.lt_of_lt_of_le this.1 hf.size,this.2⟩
 ·simp only [Env.lose] at h3 h4
  split at h3
  ·simp at h3
  ·split at h4
   ·simp at h4
   ·exact h.apart b b' blk base sz base' sz' h1 h2 h3 h4
 ·refine hf.old k hk fun hkb=>?_
  obtain ⟨b,h1,base,sz,h2⟩:=hb k hkb
  exact hn b base sz (hal b h1) (by rw [hkeys];exact h1) h2
 ·rw [hkeys] at hn
  have:b ∉ lost:=fun hh=>hn (by simp [hh])
  simp [Env.lose,this]
 ·simp only [List.mem_map,Prod.mk.injEq] at ho
  obtain ⟨b',h1,rfl,rfl⟩:=ho
  exact ⟨hal _ h1,trivial⟩
def isNil:AV→Bool
 | .v (.slice none 0 0)=>true
 | _=>false
theorem isNil_eq {a:AV} (h:isNil a=true):a=.v (.slice none 0 0):=by
 unfold isNil at h
 split at h
 ·rfl
 ·simp at h
def nrm (sz:Nat→Nat):Nat→List AV→List AV
 | _,[]=>[]
 | i,a::r=>(if isNil a=true then .ow (sz i) [] else a)::nrm sz (i+1) r
theorem nrm_ok {w:World} {G:Nat→Prop} {sz:Nat→Nat}:∀ {as:List AV} {i:Nat} {xs:List Value} {bl:List Nat},OLeaves w G as xs bl→OLeaves w G (nrm sz i as) xs bl
 | [],_,[],_,h=>by simpa only [OLeaves,nrm] using h
 | a::as,i,x::xs,bl,h=>by
  simp only [OLeaves,nrm] at h ⊢
  obtain ⟨b1,b2,rfl,h1,h2⟩:=h
  refine ⟨b1,b2,rfl,?_,nrm_ok h2⟩
  split
  ·rename_i hn
   have:=isNil_eq hn
   subst this
   simp only [OLeaf,CRep] at h1 ⊢
   obtain ⟨rfl,rfl⟩:=h1
   exact ⟨none,0,rfl,by simp,fun _=>rfl,.inl ⟨rfl,rfl⟩⟩
  ·exact h1
 | [],_,_::_,_,h=>by simp [OLeaves] at h
 | _::_,_,[],_,h=>by simp [OLeaves] at h
def giveArg (keep:Bool) (sz:Nat→Nat) (M:Nat→AO):AV→Option (AV×List Nat×List Nat)
 | .bp b 0=>match M b with
  | .box cs=>match leaveLeaves M cs with
   | some (rs,is)=>some (.rf (nrm sz 0 rs),[b],is)
   | none=>none
  | _=>none
 | .sl b m s o n=>match M b with
  | .vec m' s' _ xs=>if m=m'∧s=s'∧o+n≤xs.length then some (.ow s ((xs.drop o).take n),if keep then ([b],[]) else ([],[b])) else none
  | _=>none
 | .v (.slice none 0 0)=>some (.ow (sz 0) [],[],[])
 | .agg cs=>match leaveLeaves M cs with
  | some (rs,is)=>some (.agg (nrm sz 0 rs),[],is)
  | none=>none
 | _=>none
def takeArg (keep:Bool) (M:Nat→AO) (nid:Nat):AV→AV→Option (List (Nat×AO)×Nat)
 | .bp b 0,.rf cs=>match M b with
  | .box cs0=>if cs.length=cs0.length then some ((b,.box (openLeaves nid cs).1)::(openLeaves nid cs).2.1,(openLeaves nid cs).2.2) else none
  | _=>none
 | .sl _ _ _ _ _,.any=>if keep=false then some ([],nid) else none
 | .v _,_=>some ([],nid)
 | .agg _,.any=>some ([],nid)
 | _,_=>none
def callM (keep:Bool) (sz:Nat→Nat) (F:AV→List AV→Option (AV×AV)) (avs:List AV) (M:Nat→AO) (nid:Nat):Option (AV×List (Nat×AO)) :=
 match avs with
 | []=>none
 | a0::rest=>match giveArg keep sz M a0 with
  | none=>none
  | some (h0,kept,lost)=>match peekVals (fun b=>if b∈kept++lost then .dead else M b) rest with
   | none=>none
   | some rs=>match F h0 rs with
    | none=>none
    | some (r,out)=>match takeArg keep M nid a0 out with
     | none=>none
     | some (u,n1)=>if (kept++lost).Nodup∧(openRet n1 r).2.2≤nid+16 then
       some ((openRet n1 r).1,(openRet n1 r).2.1++(u++(kept++lost).map fun b=>(b,.dead))) else none
theorem leaveLeaf_ver {M:Nat→AO} {a r:AV} {ids:List Nat} {E:Env} {w:World} {x:Value} (h:leaveLeaf M a=some (r,ids)) (hr:Rep E w a x):∀ b∈ids,E.alive b∧1≤E.ver b:=by
 unfold leaveLeaf at h
 cases a<;>simp only [reduceCtorEq] at h
 case sl b m s o n =>
  simp only [Rep] at hr
  split at h
  ·split at h
   ·simp only [Option.some.injEq,Prod.mk.injEq] at h
    obtain ⟨_,rfl⟩:=h
    intro b' hb'
    simp only [List.mem_singleton] at hb'
    subst hb'
    exact ⟨hr.1,by have:=hr.2.1;have:=hr.2.2.1;omega⟩
   ·simp at h
  ·simp at h
 case mp b m =>
  simp only [Rep] at hr
  split at h
  ·split at h
   ·simp only [Option.some.injEq,Prod.mk.injEq] at h
    obtain ⟨_,rfl⟩:=h
    intro b' hb'
    simp only [List.mem_singleton] at hb'
    subst hb'
    exact ⟨hr.1,by have:=hr.2.1;have:=hr.2.2.1;omega⟩
   ·simp at h
  ·simp at h
 all_goals
  simp only [Option.some.injEq,Prod.mk.injEq] at h
  obtain ⟨_,rfl⟩:=h
  simp
theorem leaveLeaves_ver {M:Nat→AO} {E:Env} {w:World}:∀ {as rs:List AV} {ids:List Nat} {xs:List Value},leaveLeaves M as=some (rs,ids)→RepL E w as xs→∀ b∈ids,E.alive b∧1≤E.ver b
 | [],rs,ids,[],h,_=>by
  simp only [leaveLeaves,Option.some.injEq,Prod.mk.injEq] at h
  obtain ⟨_,rfl⟩:=h
  simp
 | a::as,rs,ids,x::xs,h,hr=>by
  simp only [RepL] at hr
  simp only [leaveLeaves] at h
  cases h1:leaveLeaf M a<;>simp only [h1,reduceCtorEq] at h
  rename_i p
  obtain ⟨r,i⟩:=p
  cases h2:leaveLeaves M as<;>simp only [h2,reduceCtorEq] at h
  rename_i p
  obtain ⟨rs',is⟩:=p
  simp only [Option.some.injEq,Prod.mk.injEq] at h
  obtain ⟨_,rfl⟩:=h
  intro b hb
  rcases List.mem_append.1 hb with hb|hb
  ·exact leaveLeaf_ver h1 hr.1 b hb
  ·exact leaveLeaves_ver h2 hr.2 b hb
 | [],_,_,_::_,_,hr=>by simp [RepL] at hr
 | _::_,_,_,[],_,hr=>by simp [RepL] at hr
theorem giveArg_ok {keep:Bool} {sz:Nat→Nat} {M:Nat→AO} {a r:AV} {kept lost:List Nat} {E:Env} {w:World} {x:Value} (h:giveArg keep sz M a=some (r,kept,lost)) (hr:Rep E w a x) (hM:MemOK E w M) :
  ∃ bl,OArg w E.G r x bl∧Cov E (kept++lost) bl∧(∀ b∈kept++lost,E.alive b)∧∀ b∈lost,1≤E.ver b:=by
 unfold giveArg at h
 split at h
 ·rename_i b
  have ho:=hM b (by simp only [Rep] at hr;exact hr.1)
  cases hb:M b<;>simp only [hb,reduceCtorEq] at h ho
  rename_i cs
  cases h2:leaveLeaves M cs<;>simp only [h2,reduceCtorEq] at h
  rename_i p
  obtain ⟨rs,is⟩:=p
  simp only [Option.some.injEq,Prod.mk.injEq] at h
  obtain ⟨rfl,rfl,rfl⟩:=h
  simp only [Rep] at hr
  obtain ⟨k1,k2,blk,sz,k3,rfl⟩:=hr
  simp only [ObjRep] at ho
  obtain ⟨_,blk',t,vs,q1,q2,q3,q4⟩:=ho
  rw [k3] at q1
  simp only [Option.some.injEq,Prod.mk.injEq] at q1
  obtain ⟨rfl,_,rfl⟩:=q1
  obtain ⟨b1,p1,p2⟩:=leaveLeaves_ok hM h2 q4
  have hv:=leaveLeaves_ver h2 q4
  refine ⟨blk::b1,by simp only [OArg];exact ⟨blk,t,vs,b1,rfl,rfl,q2,q3,nrm_ok p1⟩,?_,fun c hc=>?_,fun c hc=>(hv c hc).2⟩
  ·have:Cov E [b] [blk]:=⟨[b],by simp,by simp [k3],by simpa using k1⟩
   exact this.append p2
  ·rcases List.mem_append.1 hc with hc|hc
   ·simp at hc;subst hc;exact k1
   ·exact (hv c hc).1
 ·rename_i b m s o n
  cases h2:leaveLeaf M (.sl b m s o n) with
  | none =>
   exfalso
   simp only [leaveLeaf] at h2
   split at h
   ·rename_i hb
    simp only [hb] at h2
    split at h
    ·rename_i hm;rw [if_pos hm] at h2;simp at h2
    ·simp at h
   ·simp at h
  | some p =>
   obtain ⟨r',ids⟩:=p
   have hids:r'=r∧ids=[b]∧((kept=[b]∧lost=[])∨(kept=[]∧lost=[b])):=by
    simp only [leaveLeaf] at h2
    split at h
    ·rename_i hb
     simp only [hb] at h2
     split at h
     ·rename_i hm
      rw [if_pos hm] at h2
      simp only [Option.some.injEq,Prod.mk.injEq] at h h2
      refine ⟨h2.1.symm.trans h.1,h2.2.symm,?_⟩
      cases keep
      ·right;simpa [eq_comm] using h.2
      ·left;simpa [eq_comm] using h.2
     ·simp at h
    ·simp at h
   obtain ⟨rfl,rfl,hkl⟩:=hids
   obtain ⟨bl,p1,p2⟩:=leaveLeaf_ok h2 hr hM
   have hv:=leaveLeaf_ver h2 hr b (by simp)
   have hrow:∃ xs,r'=.ow s xs:=by
    simp only [leaveLeaf] at h2
    split at h2
    ·split at h2
     ·simp only [Option.some.injEq,Prod.mk.injEq] at h2;exact ⟨_,h2.1.symm⟩
     ·simp at h2
    ·simp at h2
   obtain ⟨xs,rfl⟩:=hrow
   refine ⟨bl,p1,?_,?_,?_⟩
   ·rcases hkl with ⟨rfl,rfl⟩|⟨rfl,rfl⟩<;>simpa using p2
   ·rcases hkl with ⟨rfl,rfl⟩|⟨rfl,rfl⟩<;>simpa using hv.1
   ·rcases hkl with ⟨rfl,rfl⟩|⟨rfl,rfl⟩<;>simp [hv.2]
 ·simp only [Option.some.injEq,Prod.mk.injEq] at h
  obtain ⟨rfl,rfl,rfl⟩:=h
  simp only [Rep,CRep] at hr
  subst hr
  exact ⟨[],by simp only [OArg,OVal,OLeaf];exact ⟨none,0,rfl,by simp,fun _=>rfl,.inl ⟨rfl,trivial⟩⟩,Cov.nil,by simp,by simp⟩
 ·rename_i cs
  cases h2:leaveLeaves M cs<;>simp only [h2,reduceCtorEq] at h
  rename_i p
  obtain ⟨rs,is⟩:=p
  simp only [Option.some.injEq,Prod.mk.injEq] at h
  obtain ⟨rfl,rfl,rfl⟩:=h
  simp only [Rep] at hr
  obtain ⟨vs,rfl,q1,q2⟩:=hr
  obtain ⟨b1,p1,p2⟩:=leaveLeaves_ok hM h2 q2
  have hv:=leaveLeaves_ver h2 q2
  exact ⟨b1,by simp only [OArg,OVal];exact ⟨vs,rfl,q1,nrm_ok p1⟩,by simpa using p2,fun c hc=>(hv c (by simpa using hc)).1,fun c hc=>(hv c hc).2⟩
 ·simp at h
def AV.flatO:AV→Prop
 | .rf cs=>∀ a∈cs,a.flat1
 | _=>True
theorem OLeaves.length {w:World} {G:Nat→Prop}:∀ {as:List AV} {xs:List Value} {bl:List Nat},OLeaves w G as xs bl→as.length=xs.length
 | [],[],_,_=>rfl
 | a::as,x::xs,bl,h=>by
  simp only [OLeaves] at h
  obtain ⟨_,_,_,_,h2⟩:=h
  simp [OLeaves.length h2]
 | [],_::_,_,h=>by simp [OLeaves] at h
 | _::_,[],_,h=>by simp [OLeaves] at h
theorem giveArg_v {keep:Bool} {sz:Nat→Nat} {M:Nat→AO} {y:Value} {r:AV} {kept lost:List Nat} (h:giveArg keep sz M (.v y)=some (r,kept,lost)):kept=[]∧lost=[]:=by
 unfold giveArg at h
 split at h
 ·rename_i e;simp at e
 ·rename_i e;simp at e
 ·simp only [Option.some.injEq,Prod.mk.injEq] at h;exact ⟨h.2.1.symm,h.2.2.symm⟩
 ·rename_i e;simp at e
 ·simp at h
theorem giveArg_agg {keep:Bool} {sz:Nat→Nat} {M:Nat→AO} {cs:List AV} {r:AV} {kept lost:List Nat} (h:giveArg keep sz M (.agg cs)=some (r,kept,lost)):kept=[]:=by
 simp only [giveArg] at h
 split at h
 ·simp only [Option.some.injEq,Prod.mk.injEq] at h;exact h.2.1.symm
 ·simp at h
theorem giveArg_sl {sz:Nat→Nat} {M:Nat→AO} {b m s o n:Nat} {r:AV} {kept lost:List Nat} (h:giveArg false sz M (.sl b m s o n)=some (r,kept,lost)):kept=[]:=by
 simp only [giveArg] at h
 split at h
 ·split at h
  ·simp at h;exact h.2.1
  ·simp at h
 ·simp at h
theorem giveArg_bp {keep:Bool} {sz:Nat→Nat} {M:Nat→AO} {b:Nat} {r:AV} {kept lost:List Nat} (h:giveArg keep sz M (.bp b 0)=some (r,kept,lost)):kept=[b]:=by
 simp only [giveArg] at h
 split at h
 ·split at h
  ·simp at h;exact h.2.1.symm
  ·simp at h
 ·simp at h
theorem MSound.callM {P:Program} {f:FuncId} {F:AV→List AV→Option (AV×AV)} (h:MSound P f F) (hfl:∀ a0 avs r out,F a0 avs=some (r,out)→r.flat∧out.flatO) {keep:Bool} {sz:Nat→Nat}:CallOK P f (callM keep sz F):=by
 intro avs M nid av u hc w0 bl E w args hr hM hI hnid
 obtain ⟨args⟩:=args
 cases avs with
 | nil=>simp [AM.callM] at hc
 | cons a0 rest =>
 cases args with
 | nil=>simp [RepL] at hr
 | cons x0 xs =>
 simp only [RepL] at hr
 obtain ⟨hr0,hrr⟩:=hr
 simp only [AM.callM] at hc
 cases hg:giveArg keep sz M a0<;>simp only [hg,reduceCtorEq] at hc
 rename_i p
 obtain ⟨h0,kept,lost⟩:=p
 simp only at hc
 cases hp:peekVals (fun b=>if b∈kept++lost then .dead else M b) rest<;>simp only [hp,reduceCtorEq] at hc
 rename_i rs
 cases hF:F h0 rs<;>simp only [hF,reduceCtorEq] at hc
 rename_i p
 obtain ⟨r,out⟩:=p
 simp only at hc
 cases ht:takeArg keep M nid a0 out<;>simp only [ht,reduceCtorEq] at hc
 rename_i p
 obtain ⟨ut,n1⟩:=p
 simp only at hc
 split at hc
 case isFalse=>simp at hc
 rename_i hcond
 obtain ⟨hidn,hle⟩:=hcond
 simp only [Option.some.injEq,Prod.mk.injEq] at hc
 obtain ⟨rfl,rfl⟩:=hc
 obtain ⟨bs,g1,g2,g3,g4⟩:=giveArg_ok hg hr0 hM
 have hbn:=g2.nodup hI hidn
 have hbs:∀ k∈bs,k<w.heap.size∧¬ E.G k∧(w0.heap.size≤k∨k∈bl.l):=fun k hk=>by
  obtain ⟨b,_,base,sz,h1,h2⟩:=g2.mem hk
  exact hI.locs b k base sz h1 h2
 have hM0:MemOK E w (fun b=>if b∈kept++lost then .dead else M b):=fun b hb=>by
  show ObjRep E w b (if b∈kept++lost then AO.dead else M b)
  split
  ·trivial
  ·exact hM b hb
 have hown:∀ b blk base sz,E.alive b→E.loc b=some (blk,base,sz)→blk∈bs→b∈kept++lost:=fun b blk base sz hb hl hk=>by
  obtain ⟨b',h1,base',sz',h2,h3⟩:=g2.mem hk
  rw [hI.apart b b' blk base sz base' sz' hb h2 hl h3]
  exact h1
 have hpk:=peekVals_ok (G:=fun k=>k<w.heap.size∧k ∉ bs) (fun k hk=>⟨hI.good k hk,fun hkb=>(hbs k hkb).2.1 hk⟩) (fun b blk base sz hb hd hl=>⟨(hI.locs b blk base sz hb hl).1,fun hk=>by
  have:=hown b blk base sz hb hl hk
  exact hd (by simp only [this,if_true])⟩) hM0 hp hrr
 refine (h w _ x0 xs h0 rs bs r out hF (fun k hk=>hk.1) (g1.mono fun k hk=>⟨hI.good k hk,fun hkb=>(hbs k hkb).2.1 hk⟩) hpk hbn (fun k hk=>⟨(hbs k hk).1,fun hh=>hh.2 hk⟩)).mono fun e w' ⟨x,G',b1,b2,he,hf,ho1,ho2,hnd,hb⟩=>?_
 obtain ⟨hflr,hflo⟩:=hfl h0 rs r out hF
 have ho2:=hflr.oret (G':=E.G) ho2
 obtain ⟨nd1,nd2,nd3⟩:=List.nodup_append.1 hnd
 have stA:=StepTo.lose hI hf (lost:=lost) (kept:=kept) g3 g4 fun k hk=>by
  obtain ⟨b,h1,base,sz,_,h2⟩:=g2.mem hk
  exact ⟨b,h1,base,sz,h2⟩
 have hkA:((kept++lost).map fun b=>((b,.dead):Nat×AO)).map (·.1)=kept++lost:=by simp [Function.comp_def]
 have hspare:∀ k∈b1++b2,(∀ b∈kept,∀ base sz,E.loc b≠some (k,base,sz))→k<w'.heap.size∧¬ (E.lose lost).G k∧(w0.heap.size≤k∨k∈bl.l)∧∀ b base sz,(E.lose lost).alive b→(E.lose lost).loc b≠some (k,base,sz):=fun k hk hkept=>by
  have h1:=hb k hk
  refine ⟨h1.1,fun hg=>?_,?_,fun b base sz hb' hl=>?_⟩
  ·rcases h1.2 with h2|h2
   ·have:=hI.good k hg;omega
   ·exact (hbs k h2).2.1 hg
  ·rcases h1.2 with h2|h2
   ·exact .inl (Nat.le_trans hI.frame.size h2)
   ·exact (hbs k h2).2.2
  ·simp only [Env.lose] at hl
   split at hl
   ·simp at hl
   ·rename_i hnl
    rcases h1.2 with h2|h2
    ·have:=(hI.locs b k base sz hb' hl).1;omega
    ·rcases List.mem_append.1 (hown b k base sz hb' hl h2) with h3|h3
     ·exact hkept b h3 base sz hl
     ·exact hnl h3
 have hfresh:∀ k,nid≤k→k<nid+16→¬ (E.lose lost).alive k:=fun k h1 h2=>hnid k h1 h2
 have hidlt:∀ b∈kept++lost,¬ (nid≤b∧b<nid+16):=fun b hb hh=>hnid b hh.1 hh.2 (g3 b hb)
 have easy:kept=[]→ut=[]→n1=nid→∃ x E',e=.returned x∧StepTo w0 bl E w ((openRet n1 r).2.1++(ut++(kept++lost).map fun b=>(b,.dead))) E' w'∧Rep E' w' (openRet n1 r).1 x:=fun hk hu hn=>by
  subst hk hu hn
  obtain ⟨E',o,hx⟩:=openRet_ok stA.inv (nid:=n1) (a:=r) (fun k p q=>hfresh k p (by omega)) ho2 (fun k hk=>hspare k (by simp [hk]) (by simp)) nd2
  refine ⟨x,E',he,?_,hx⟩
  have:=stA.over o.step fun b p hbp hbk=>by
   have h1:b∈([]:List Nat)++lost:=by rw [← hkA];exact List.mem_map.2 ⟨_,hbp,rfl⟩
   have:=o.keys b hbk
   exact absurd ⟨this.1,by omega⟩ (hidlt b h1)
  simpa using this
 unfold takeArg at ht
 split at ht
 ·rename_i b cs _x
  split at ht
  case h_2=>simp at ht
  rename_i cs0 hMb
  split at ht
  case isFalse=>simp at ht
  rename_i hcl
  simp only [Option.some.injEq,Prod.mk.injEq] at ht
  obtain ⟨rfl,rfl⟩:=ht
  have hkb:=giveArg_bp hg
  subst hkb
  simp only [Rep] at hr0
  obtain ⟨q1,q2,blk,sz',q3,rfl⟩:=hr0
  have hob:=hM b q1
  rw [hMb] at hob
  simp only [ObjRep] at hob
  obtain ⟨_,blk0,t0,us,p1,p2,p3,p4⟩:=hob
  rw [q3] at p1
  simp only [Option.some.injEq,Prod.mk.injEq,true_and] at p1
  obtain ⟨rfl,rfl⟩:=p1
  simp only [OArg] at ho1
  obtain ⟨blk',t,vs,b1',e1,rfl,j1,j2,j3⟩:=ho1
  simp only [Value.pointer.injEq,Option.some.injEq,Addr.mk.injEq,and_true] at e1
  subst e1
  have j3:=flat_leaves (G':=E.G) hflo j3
  have hlen:vs.length=us.length:=by rw [← j3.length,hcl,p4.length]
  have nd1':=List.nodup_cons.1 nd1
  have hnb:∀ k,k≠blk→∀ c∈[b],∀ base sz,E.loc c≠some (k,base,sz):=fun k hk c hc base sz hl=>by
   simp only [List.mem_singleton] at hc
   subst hc
   rw [q3] at hl
   simp only [Option.some.injEq,Prod.mk.injEq] at hl
   exact hk hl.1.symm
  have hle1:(openLeaves nid cs).2.2≤nid+16:=by have:=openRet_keys (nid:=(openLeaves nid cs).2.2) (a:=r);exact Nat.le_trans (openRet_le) hle
  obtain ⟨E2,oL,rL⟩:=openLeaves_ok (as:=cs) stA.inv (nid:=nid) (fun k p q=>hfresh k p (by omega)) j3 (fun k hk=>hspare k (by simp [hk]) (hnb k fun e=>by subst e;exact nd1'.1 hk)) nd1'.2
  have hbl:b ∉ lost:=fun hh=>by simp at hidn;exact hidn.1 hh
  have hbk:b ∉ (openLeaves nid cs).2.1.map (·.1):=fun hh=>by
   have:=oL.keys b hh
   exact hidlt b (by simp) ⟨this.1,by omega⟩
  have hsame:=oL.step.same b q1 hbk
  have hloc:E2.loc b=some (blk,0,us.length):=by rw [hsame.2];simp only [Env.lose,hbl,if_false];exact q3
  have hver:E2.ver b=0:=by rw [hsame.1];simp only [Env.lose,hbl,if_false];exact q2
  have stR:=StepTo.retell oL.step.inv (b:=b) (o:=.box (openLeaves nid cs).1) (oL.step.le.alive b q1) (by
   simp only [ObjRep]
   exact ⟨hver,blk,t,vs,by rw [hlen];exact hloc,j1,j2,rL⟩)
  obtain ⟨E3,oR,hx⟩:=openRet_ok stR.inv (nid:=(openLeaves nid cs).2.2) (a:=r) (oL.fresh fun k p q=>hfresh k p (by omega)) (by rw [oL.G];exact ho2) (fun k hk=>by
   have h1:=hspare k (by simp [hk]) (hnb k fun e=>by subst e;exact nd3 k (by simp) k hk rfl)
   refine ⟨h1.1,by rw [oL.G];exact h1.2.1,h1.2.2.1,fun b' base sz hb' hl=>?_⟩
   rcases oL.locs b' base sz k hb' hl with ⟨h2,h3⟩|h2
   ·exact h1.2.2.2 b' base sz h2 h3
   ·exact nd3 k (by simp [h2]) k hk rfl) nd2
  refine ⟨x,E3,he,?_,hx⟩
  have s1:=stA.over oL.step fun c p hcp hck=>by
   have h1:c∈[b]++lost:=by rw [← hkA];exact List.mem_map.2 ⟨_,hcp,rfl⟩
   have:=oL.keys c hck
   exact absurd ⟨this.1,by omega⟩ (hidlt c h1)
  have s2:=s1.over stR fun c p hcp hck=>by
   simp only [List.map_cons,List.map_nil,List.mem_singleton] at hck
   subst hck
   refine ⟨?_,q1,by rw [hloc,q3]⟩
   rcases List.mem_append.1 hcp with h1|h1
   ·exact absurd (List.mem_map.2 ⟨_,h1,rfl⟩) hbk
   ·simp only [List.mem_map,Prod.mk.injEq] at h1
    obtain ⟨_,_,_,e⟩:=h1
    exact e.symm
  have s3:=s2.over oR.step fun c p hcp hck=>by
   have h2:=oR.keys c hck
   have h3:c∈([(b,AO.box (openLeaves nid cs).1)]++((openLeaves nid cs).2.1++([b]++lost).map fun b=>((b,.dead):Nat×AO))).map (·.1):=List.mem_map.2 ⟨_,hcp,rfl⟩
   simp only [List.map_append,List.mem_append,List.map_cons,List.map_nil,List.mem_singleton] at h3
   exfalso
   rcases h3 with h3|h3|h3
   ·subst h3;exact hidlt c (by simp) ⟨by have:=oL.le;omega,by have:=openRet_keys c hck;omega⟩
   ·have:=oL.keys c h3;omega
   ·have h4:c∈[b]++lost:=by simpa [Function.comp_def] using h3
    exact hidlt c h4 ⟨by have:=oL.le;omega,by have:=openRet_keys c hck;omega⟩
  simpa using s3
 ·rename_i b m s o n
  split at ht
  case isFalse=>simp at ht
  rename_i hk
  subst hk
  simp only [Option.some.injEq,Prod.mk.injEq] at ht
  obtain ⟨rfl,rfl⟩:=ht
  exact easy (giveArg_sl hg) rfl rfl
 ·simp only [Option.some.injEq,Prod.mk.injEq] at ht
  obtain ⟨rfl,rfl⟩:=ht
  exact easy (giveArg_v hg).1 rfl rfl
 ·simp only [Option.some.injEq,Prod.mk.injEq] at ht
  obtain ⟨rfl,rfl⟩:=ht
  exact easy (giveArg_agg hg) rfl rfl
 ·simp at ht
attribute [simp] giveArg takeArg callM nrm isNil openArg leaveArg
theorem leaveLeaf_keys {M:Nat→AO} {a r:AV} {ids:List Nat} (h:leaveLeaf M a=some (r,ids)):∀ b∈ids,M b≠.dead:=by
  unfold leaveLeaf at h
  split at h
  · split at h
    · rename_i hMb
      split at h
      · simp only [Option.some.injEq,Prod.mk.injEq] at h
        obtain ⟨_,rfl⟩:=h
        intro k hk
        simp at hk
        subst hk
        rw [hMb];simp
      · simp at h
    · simp at h
  all_goals first
    | (simp only [Option.some.injEq,Prod.mk.injEq] at h
       obtain ⟨_,rfl⟩:=h
       simp;done)
    | (simp at h;done)
    | skip
  split at h
  · rename_i hMb
    split at h
    · simp only [Option.some.injEq,Prod.mk.injEq] at h
      obtain ⟨_,rfl⟩:=h
      intro k hk
      simp at hk
      subst hk
      rw [hMb];simp
    · simp at h
  · simp at h
theorem leaveLeaves_keys {M:Nat→AO}:∀ {as rs:List AV} {ids:List Nat},leaveLeaves M as=some (rs,ids)→∀ b∈ids,M b≠.dead
 | [],rs,ids,h=>by
  simp only [leaveLeaves,Option.some.injEq,Prod.mk.injEq] at h
  obtain ⟨_,rfl⟩:=h
  simp
 | a::as,rs,ids,h=>by
  simp only [leaveLeaves] at h
  cases h1:leaveLeaf M a<;>simp only [h1,reduceCtorEq] at h
  rename_i p
  obtain ⟨r,i⟩:=p
  cases h2:leaveLeaves M as<;>simp only [h2,reduceCtorEq] at h
  rename_i p
  obtain ⟨rs',is⟩:=p
  simp only [Option.some.injEq,Prod.mk.injEq] at h
  obtain ⟨_,rfl⟩:=h
  intro b hb
  rcases List.mem_append.1 hb with hb|hb
  ·exact leaveLeaf_keys h1 b hb
  ·exact leaveLeaves_keys h2 b hb
theorem giveArg_keys {keep:Bool} {sz:Nat→Nat} {M:Nat→AO} {a r:AV} {kept lost:List Nat} (h:giveArg keep sz M a=some (r,kept,lost)):∀ b∈kept++lost,M b≠.dead:=by
 unfold giveArg at h
 split at h
 ·split at h
  ·rename_i hMb
   split at h
   ·rename_i h2
    simp only [Option.some.injEq,Prod.mk.injEq] at h
    obtain ⟨_,rfl,rfl⟩:=h
    intro k hk
    rcases List.mem_append.1 hk with hk|hk
    ·simp at hk;subst hk;rw [hMb];simp
    ·exact leaveLeaves_keys h2 k hk
   ·simp at h
  ·simp at h
 ·split at h
  ·rename_i hMb
   split at h
   ·simp only [Option.some.injEq,Prod.mk.injEq] at h
    intro k hk
    cases keep
    all_goals
     simp at h
     obtain ⟨_,rfl,rfl⟩:=h
     simp at hk
     subst hk
     rw [hMb];simp
   ·simp at h
  ·simp at h
 ·simp only [Option.some.injEq,Prod.mk.injEq] at h
  obtain ⟨_,rfl,rfl⟩:=h
  simp
 ·split at h
  ·rename_i h2
   simp only [Option.some.injEq,Prod.mk.injEq] at h
   obtain ⟨_,rfl,rfl⟩:=h
   intro k hk
   exact leaveLeaves_keys h2 k (by simpa using hk)
  ·simp at h
 ·simp at h
theorem takeArg_keys {keep:Bool} {M:Nat→AO} {nid n:Nat} {a o:AV} {u:List (Nat×AO)} (h:takeArg keep M nid a o=some (u,n)):nid≤n∧∀ b∈u.map (·.1),(nid≤b∧b<n)∨M b≠.dead:=by
 unfold takeArg at h
 split at h
 ·split at h
  ·rename_i hMb
   split at h
   ·simp only [Option.some.injEq,Prod.mk.injEq] at h
    obtain ⟨rfl,rfl⟩:=h
    refine ⟨openLeaves_le,fun k hk=>?_⟩
    simp only [List.map_cons,List.mem_cons] at hk
    rcases hk with rfl|hk
    ·right;rw [hMb];simp
    ·exact .inl (openLeaves_keys k hk)
   ·simp at h
  ·simp at h
 ·split at h
  ·simp only [Option.some.injEq,Prod.mk.injEq] at h;obtain ⟨rfl,rfl⟩:=h;simp
  ·simp at h
 ·simp only [Option.some.injEq,Prod.mk.injEq] at h;obtain ⟨rfl,rfl⟩:=h;simp
 ·simp only [Option.some.injEq,Prod.mk.injEq] at h;obtain ⟨rfl,rfl⟩:=h;simp
 ·simp at h
theorem callM_keys {keep:Bool} {sz:Nat→Nat} {F:AV→List AV→Option (AV×AV)} {avs:List AV} {M:Nat→AO} {nid:Nat} {r:AV×List (Nat×AO)} (h:callM keep sz F avs M nid=some r):∀ b∈r.2.map (·.1),(nid≤b∧b<nid+16)∨M b≠.dead:=by
 cases avs with
 | nil=>simp [AM.callM] at h
 | cons a0 rest =>
 simp only [AM.callM] at h
 cases hg:giveArg keep sz M a0<;>simp only [hg,reduceCtorEq] at h
 rename_i p
 obtain ⟨h0,kept,lost⟩:=p
 simp only at h
 cases hp:peekVals (fun b=>if b∈kept++lost then .dead else M b) rest<;>simp only [hp,reduceCtorEq] at h
 rename_i rs
 cases hF:F h0 rs<;>simp only [hF,reduceCtorEq] at h
 rename_i p
 obtain ⟨q,out⟩:=p
 simp only at h
 cases ht:takeArg keep M nid a0 out<;>simp only [ht,reduceCtorEq] at h
 rename_i p
 obtain ⟨ut,n1⟩:=p
 simp only at h
 split at h
 case isFalse=>simp at h
 rename_i hcond
 simp only [Option.some.injEq] at h
 subst h
 obtain ⟨ht1,ht2⟩:=takeArg_keys ht
 intro b hb
 simp only [List.map_append,List.mem_append] at hb
 rcases hb with hb|hb|hb
 ·have:=openRet_keys b hb;exact .inl (by omega)
 ·rcases ht2 b hb with h1|h1
  ·have:n1≤(openRet n1 q).2.2:=openRet_le
   exact .inl (by omega)
  ·exact .inr h1
 ·have:b∈kept++lost:=by simpa [Function.comp_def] using hb
  exact .inr (giveArg_keys hg b this)
noncomputable def specM {ι:Type} (A0:ι→AV) (A:ι→List AV) (R O:ι→AV) (a0:AV) (avs:List AV):Option (AV×AV) :=
 open Classical in if h:∃ i,A0 i=a0∧A i=avs then some (R h.choose,O h.choose) else none
theorem specM_eq {ι:Type} {A0:ι→AV} {A:ι→List AV} {R O:ι→AV} (i:ι) (h:∀ j,A0 j=A0 i→A j=A i→R j=R i∧O j=O i):specM A0 A R O (A0 i) (A i)=some (R i,O i):=by
 unfold specM
 have hex:∃ j,A0 j=A0 i∧A j=A i:=⟨i,rfl,rfl⟩
 rw [dif_pos hex]
 have:=h _ hex.choose_spec.1 hex.choose_spec.2
 rw [this.1,this.2]
theorem specM_some {ι:Type} {A0:ι→AV} {A:ι→List AV} {R O:ι→AV} {a0:AV} {avs:List AV} {r o:AV} (h:specM A0 A R O a0 avs=some (r,o)):∃ i,A0 i=a0∧A i=avs∧R i=r∧O i=o:=by
 unfold specM at h
 split at h
 ·rename_i hh
  simp only [Option.some.injEq,Prod.mk.injEq] at h
  exact ⟨_,hh.choose_spec.1,hh.choose_spec.2,h.1,h.2⟩
 ·simp at h
theorem leavesM_any {T:TypeId→Option TD} {rv:List ResultVar} {st:St} {a0:AV} {r:List AV} (h:Leaves T rv st r):LeavesM T rv st a0 r .any:=by
 obtain ⟨as,rs,ids,h1,h2,h3,h4⟩:=h
 exact ⟨as,rs,ids,.any,[],h1,h2,.inr ⟨rfl,rfl⟩,by simpa using h3,h4,.inl rfl⟩
end Go.AM
namespace Go.AM
open Go
def ovlF (avs:List AV) (M:Nat→AO) (_nid:Nat):Option (AV×List (Nat×AO)) :=
 match avs with
 | [.rd s _,.sl b m s' _ _]=>match M b with
  | .vec m' _ _ _=>if m=m'∧1≤s∧1≤s' then some (B false,[]) else none
  | _=>none
 | _=>none
theorem run_overlaps_apart {P:Program} (w:World) {tS tR e:TypeId} {d de:TD} (ht:Types P tS=some d) (hk:d.k=.slice e) (he:Types P e=some de)
  (a b:Option Addr) (la ca lb cb:Nat) (h:la=0∨lb=0∨∃ a' b' tA kA tB kB,a=some a'∧b=some b'∧a'.block≠b'.block∧w.shape? a'.block=some (tA,kA)∧w.shape? b'.block=some (tB,kB)∧kA≠0∧kB≠0∧∀ x:Addr,x.block=b'.block→w.frozen? x=false) :
  (Extern.SlicesOverlaps.overlaps #[tS,tS] #[tR] #[.slice a la ca,.slice b lb cb]).run P w=.ok (.bool false) w:=by
 change Sem.run P (α:=Value) (do
  let some t := (#[tS, tS] : Array TypeId)[0]? | stuck "slices.overlaps: no parameter types"
  let .slice elem ← underlying t | stuck "slices.overlaps: slice type expected"
  let size ← sizeOf elem
  match a,b with
  | some a,some b =>
   if la=0∨lb=0∨size=0 then pure (Value.bool false)
   else if a.block != b.block&&(← frozen a)&&(← frozen b) then unsupported .addressObserved
   else do
    if a.block != b.block then do
     noView a;noView b
     if ← mayBeOne a b then return Value.bool ((← choose (.extern "sameAddr.stringBytes" 2)) == 1)
    pure (Value.bool (a.block == b.block&&a.off<b.off+lb*size&&b.off<a.off+la*size))
  | _,_=>pure (Value.bool false)) w=_
 cases a with
 | none=>simp [und_slice ht hk,run_size he]
 | some a =>
 cases b with
 | none=>simp [und_slice ht hk,run_size he]
 | some b =>
 by_cases h0:la=0∨lb=0∨de.size=0
 ·simp [und_slice ht hk,run_size he,h0]
 ·obtain ⟨a',b',tA,kA,tB,kB,e1,e2,hne,hsa,hsb,hkA,hkB,hfb⟩:=(h.resolve_left fun h=>h0 (.inl h)).resolve_left fun h=>h0 (.inr (.inl h))
  simp only [Option.some.injEq] at e1 e2
  subst e1 e2
  have hnb:(a.block != b.block)=true:=by simpa using hne
  have hnb':(a.block == b.block)=false:=by simpa using hne
  have f1:w.frozen? b=false:=hfb b rfl
  have f2:w.frozen? { block:=b.block,off:=kB }=false:=hfb _ rfl
  cases kB with
  | zero=>exact absurd rfl hkB
  | succ kB =>
  cases kA with
  | zero=>exact absurd rfl hkA
  | succ kA =>
   cases hfa:w.frozen? a<;>cases hfa2:w.frozen? { block:=a.block,off:=kA+1 } <;>
   simp [und_slice ht hk,run_size he,h0,hnb,hnb',frozen,noView,viewAt,mayBeOne,stringish,shape,Sem.run,hsa,hsb,f1,f2,hfa,hfa2]
theorem ovl_ok {P : Program} {f : FuncId} {fn : Func} {tS tR e : TypeId} {d de : TD} (hf : P.funcs[f]? = some fn) (hname : (fn.name == "runtime.NumGoroutine") = false) (hb : fn.body.isNone = true) (hn : Extern.findNext fn = none) (hx : Extern.find fn = some (Extern.SlicesOverlaps.overlaps #[tS, tS] #[tR]))
  (ht:Types P tS=some d) (hk:d.k=.slice e) (he:Types P e=some de):ExtOK P f ovlF:=by
 intro avs M nid av u h
 unfold ovlF at h
 split at h
 case h_2=>simp at h
 rename_i s xs b m s' o n
 split at h
 case h_2=>simp at h
 rename_i m' z ff ys hMb
 split at h
 case isFalse=>simp at h
 rename_i hc
 obtain ⟨rfl,hs,hs'⟩:=hc
 simp only [Option.some.injEq,Prod.mk.injEq] at h
 obtain ⟨rfl,rfl⟩:=h
 refine ⟨rfl,fun w0 bl E w args hr hM hI=>?_⟩
 obtain ⟨args⟩:=args
 match args,hr with
 | [x,y],hr =>
  simp only [RepL,and_true] at hr
  obtain ⟨hr1,hr2⟩:=hr
  simp only [Rep,CRep] at hr1 hr2
  obtain ⟨p,c,rfl,h2,h3,h4⟩:=hr1
  obtain ⟨k1,k2,k3,q,c',rfl,k4,k4',k5⟩:=hr2
  have hob:=hM b k1
  simp only [hMb,ObjRep] at hob
  obtain ⟨l1,l2,l3⟩:=hob
  have h5:=k5 l1.symm
  refine ⟨.bool false,w,?_,rfl,rfl,rfl,by simp [Rep,CRep]⟩
  rw [run_callFunc_extern hf hname hb hn hx,run_overlaps_apart w ht hk he]
  ·rfl
  ·by_cases hx0:xs.length=0
   ·exact .inl hx0
   by_cases hn0:n=0
   ·exact .inr (.inl hn0)
   right;right
   rcases h4 with h4|⟨blk,off,rfl,hg,hrows⟩
   ·subst h4;simp at hx0
   ·cases hl:E.loc b with
    | none=>simp only [hl,SlAt] at h5;omega
    | some l =>
     obtain ⟨blk',base,sz⟩:=l
     simp only [hl,SlAt] at h5 l3
     obtain ⟨a,rfl,q1,q2⟩:=h5
     obtain ⟨arr,t,m1,m2,_,_,_,_⟩:=l3
     have q1:=q1.resolve_left (by omega)
     subst q1
     have hloc:=hI.locs b blk' base sz k1 hl
     obtain ⟨e0,r0,rfl⟩:∃ e0 r0,xs=e0::r0:=by cases xs with|nil=>simp at hx0|cons a b=>exact ⟨a,b,rfl⟩
     simp only [CRows] at hrows
     obtain ⟨a0,r1,rfl⟩:∃ a0 r1,e0=a0::r1:=by cases e0 with|nil=>simp at hrows;omega|cons a b=>exact ⟨a,b,rfl⟩
     simp only [CCells] at hrows
     obtain ⟨_,⟨⟨v,hv,_,_⟩,_⟩,_⟩:=hrows
     have hsh:∃ t k,w.shape? blk=some (t,k)∧k≠0:=by
      unfold World.cell? at hv
      unfold World.shape?
      simp only at hv
      split at hv
      ·refine ⟨_,_,rfl,fun e=>?_⟩
       simp only [Option.isSome_none,Bool.false_eq_true,if_false] at hv
       rw [Array.getElem?_eq_none (by omega)] at hv
       simp at hv
      ·simp at hv
     obtain ⟨tA,kA,hsa,hkA⟩:=hsh
     have hpos:1≤(o+c')*s':=Nat.mul_pos (by omega) hs'
     refine ⟨_,_,tA,kA,t,arr.size,rfl,rfl,fun e=>hloc.2.1 (by simp only at e;rw [← e];exact hg),hsa,by simp only [World.shape?,m1],hkA,by omega,fun x hx=>?_⟩
     unfold World.frozen?
     rw [hx,m1]
     simp
 | [],hr=>simp [RepL] at hr
 | [_],hr=>simp [RepL] at hr
 | _::_::_::_,hr=>simp [RepL] at hr
theorem msound_cap_spec {ι:Type} {sz:Nat} {A0:ι→List (List AV)} {A:ι→List AV} {rl:ι→List AV} {O:ι→AV} {P:Program} {f:FuncId} {fn:Func} {c:Code} (hf:P.funcs[f]?=some fn) (hb:fn.body=some c) (X:AX)
  (h:∀ (i:ι) (w0:World) (bl:List Nat) (E:Env) (m:Nat),(A i).length+1≤fn.ntmps∧(rl i).length=fn.results.size ∧
   AW ⟨P,X,fn.ntmps,w0,⟨bl,E,1⟩⟩ c ⟨enterS (.sl 0 1 sz 0 (A0 i).length::A i),[(0,.vec 1 sz true (A0 i++anyRows sz m))],1⟩ (fun e st=>(e=.normal∨e=.ret)∧LeavesM (Types P) fn.results.toList st (.sl 0 1 sz 0 (A0 i).length) (rl i) (O i))) :
  MSound P f (specM (fun i=>.ow sz (A0 i)) A (fun i=>retOf (rl i)) O) :=
 msound_cap hf hb rfl fun w0 bl E a0 avs r out hr=>by
  obtain ⟨i,rfl,rfl,rfl,rfl⟩:=specM_some hr
  have:=h i w0 bl E 0
  exact ⟨this.1,sz,A0 i,rfl,rl i,rfl,this.2.1,X,fun m=>(h i w0 bl E m).2.2⟩
@[simp] theorem anyRows_length (s n:Nat):(anyRows s n).length=n:=by simp [anyRows]
end Go.AM
