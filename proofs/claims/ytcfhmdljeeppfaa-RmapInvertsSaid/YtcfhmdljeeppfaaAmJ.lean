/- A part of the proof: what functions of the program compute, by abstract execution of their code. Its theorems hold without further condition. -/
import Derived.Test.YtcfhmdljeeppfaaAmHb
import Derived.Orders
set_option linter.all false
namespace Go.AM
open Go
structure St where
 s:List (Nat×AV)
 m:List (Nat×AO)
 nx:Nat
def putS (l:List (Nat×AV)) (dst:Option Nat) (a:AV):List (Nat×AV) :=
 match dst with
 | some d=>(d,a)::l
 | none=>l
def updL (M:List (Nat×AO)):List (Nat×AO)→List (Nat×AO)
 | []=>M
 | (b,o)::r=>setM (updL M r) b o
theorem getM_updL (M:List (Nat×AO)) (u:List (Nat×AO)):getM (updL M u)=updM (getM M) u:=by
 funext k
 induction u with
 | nil=>rfl
 | cons x r ih =>
  obtain ⟨b,o⟩:=x
  simp only [updL,getM_setM,updM,ih]
def aEvF (g:Nat→AV):Operand→AV
 | .tmp t=>g t
 | .const v=>.v v
 | .func f=>.fn f []
 | .global _=>.any
theorem aEv_eq (l:List (Nat×AV)):aEv l=aEvF (getS l):=by
 funext x
 cases x<;>rfl
def dstOK (N:Nat) (o:Oper):Bool:=match o.dst with|some d=>decide (d<N)|none=>true
abbrev AV.u:AV:=.v (.tuple #[])
def yV:AV→Option (Option Bool)
 | .v (.bool b)=>some (some b)
 | .v _=>some none
 | _=>none
theorem yV_bool {a:AV} {b:Bool} (h:yV a=some (some b)):a=.v (.bool b):=by
 unfold yV at h
 split at h<;>simp only [Option.some.injEq,reduceCtorEq] at h
 subst h;rfl
def arun (T:TypeId→Option TD) (X:AX) (ops:Array Oper) (N base:Nat):List Oper→Nat→List (Nat×AV)→List (Nat×AO)→Option (List (Nat×AV)×List (Nat×AO))
 | [],_,l,M=>some (l,M)
 | o::r,i,l,M =>
  if dstOK N o=true then
   match o.guard with
   | none=>match astep T X o.op (aEv l) (getM M) (base+16*i) with
    | some (av,u)=>arun T X ops N base r (i+1) (putS l o.dst av) (updL M u)
    | none=>none
   | some (j,want)=>match (ops[j]?).bind (·.dst) with
    | some d=>match yV (getS l d) with
     | some (some b) =>
      if b=want then
       match astep T X o.op (aEv ((d,.v (.bool want))::l)) (getM M) (base+16*i) with
       | some (av,u)=>arun T X ops N base r (i+1) (putS ((d,.v (.bool want))::l) o.dst av) (updL M u)
       | none=>none
      else arun T X ops N base r (i+1) (putS ((d,.v (.bool (!want)))::l) o.dst .u) M
     | some none=>arun T X ops N base r (i+1) (putS l o.dst .u) M
     | none=>none
    | none=>none
  else none
def stepRel (T:TypeId→Option TD) (X:AX) (ops:Array Oper) (N:Nat) (o:Oper) (g:Nat→AV) (m:Nat→AO) (nid:Nat) (r:AV×List (Nat×AO)):Prop :=
 dstOK N o=true∧match o.guard with
 | none=>astep T X o.op (aEvF g) m nid=some r
 | some (j,want)=>∃ d b,(ops[j]?).bind (·.dst)=some d∧yV (g d)=some b∧(if b=some want then astep T X o.op (aEvF g) m nid=some r else r=(.u,[]))
def putF (g:Nat→AV) (dst:Option Nat) (a:AV) (t:Nat):AV:=if dst=some t then a else g t
theorem getS_putS (l:List (Nat×AV)) (dst:Option Nat) (a:AV):getS (putS l dst a)=putF (getS l) dst a:=by
 funext t
 cases dst with
 | none=>simp [putS,putF]
 | some d=>simp [putS,putF,getS]
theorem getS_same (l:List (Nat×AV)) (d:Nat) (a:AV) (h:getS l d=a):getS ((d,a)::l)=getS l:=by
 funext t
 simp only [getS]
 split
 ·rename_i e;subst e;exact h.symm
 ·rfl
def Recs (T:TypeId→Option TD) (X:AX) (ops:Array Oper) (N base:Nat):List Oper→Nat→(Nat→AV)→(Nat→AO)→List (AV×List (Nat×AO))→(Nat→AV)→(Nat→AO)→Prop
 | [],_,g,m,[],g',m'=>g'=g∧m'=m
 | o::ol,i,g,m,r::rs,g',m'=>stepRel T X ops N o g m (base+16*i) r∧Recs T X ops N base ol (i+1) (putF g o.dst r.1) (updM m r.2) rs g' m'
 | _,_,_,_,_,_,_=>False
theorem recs_of_run {T:TypeId→Option TD} {X:AX} {ops:Array Oper} {N base:Nat}:∀ {ol:List Oper} {i:Nat} {l l':List (Nat×AV)} {M M':List (Nat×AO)},arun T X ops N base ol i l M=some (l',M') →
  ∃ rs,Recs T X ops N base ol i (getS l) (getM M) rs (getS l') (getM M')
 | [],i,l,l',M,M',h=>by
  simp only [arun,Option.some.injEq,Prod.mk.injEq] at h
  obtain ⟨rfl,rfl⟩:=h
  exact ⟨[],rfl,rfl⟩
 | o::ol,i,l,l',M,M',h=>by
  simp only [arun] at h
  split at h
  case isFalse=>simp at h
  rename_i hd
  cases hg:o.guard with
  | none =>
   simp only [hg] at h
   cases hs:astep T X o.op (aEv l) (getM M) (base+16*i)<;>simp only [hs,reduceCtorEq] at h
   rename_i r
   obtain ⟨av,u⟩:=r
   obtain ⟨rs,hrs⟩:=recs_of_run h
   refine ⟨(av,u)::rs,?_⟩
   simp only [Recs,stepRel,hg,hd,true_and]
   rw [getS_putS,getM_updL] at hrs
   exact ⟨by rw [← aEv_eq];exact hs,hrs⟩
  | some jw =>
   obtain ⟨j,want⟩:=jw
   simp only [hg] at h
   cases hdj:(ops[j]?).bind (·.dst)<;>simp only [hdj,reduceCtorEq] at h
   rename_i d
   cases hy:yV (getS l d)<;>simp only [hy,reduceCtorEq] at h
   rename_i y
   cases y with
   | none =>
    simp only at h
    obtain ⟨rs,hrs⟩:=recs_of_run h
    refine ⟨(.u,[])::rs,?_⟩
    simp only [Recs,stepRel,hg,hd,true_and]
    rw [getS_putS] at hrs
    exact ⟨⟨d,none,hdj,hy,by simp⟩,hrs⟩
   | some b =>
   simp only at h
   have hgd:=yV_bool hy
   split at h
   ·rename_i hb
    subst hb
    have hsame:=getS_same l d _ hgd
    cases hs:astep T X o.op (aEv ((d,.v (.bool b))::l)) (getM M) (base+16*i)<;>simp only [hs,reduceCtorEq] at h
    rename_i r
    obtain ⟨av,u⟩:=r
    obtain ⟨rs,hrs⟩:=recs_of_run h
    refine ⟨(av,u)::rs,?_⟩
    simp only [Recs,stepRel,hg,hd,true_and]
    rw [getS_putS,getM_updL,hsame] at hrs
    rw [aEv_eq,hsame] at hs
    exact ⟨⟨d,some b,hdj,hy,by rw [if_pos rfl];exact hs⟩,hrs⟩
   ·rename_i hb
    have hnb:(!want)=b:=by cases b<;>cases want<;>simp at hb ⊢
    rw [hnb] at h
    have hsame:=getS_same l d _ hgd
    obtain ⟨rs,hrs⟩:=recs_of_run h
    refine ⟨(.u,[])::rs,?_⟩
    simp only [Recs,stepRel,hg,hd,true_and]
    rw [getS_putS,hsame] at hrs
    exact ⟨⟨d,some b,hdj,hy,by rw [if_neg (by simpa using hb)];trivial⟩,hrs⟩
structure SatF (N:Nat) (w0:World) (bl:Bk) (E:Env) (a:Act) (w:World) (g:Nat→AV) (m:Nat→AO):Prop where
 defers:a.defers=[]
 size:a.tmps.size=N
 inv:Inv w0 bl E w
 mem:MemOK E w m
 slots:∀ t,Rep E w (g t) (a.tmps.getD t undef)
theorem SatF.eval {N:Nat} {w0:World} {bl:Bk} {E:Env} {a:Act} {w:World} {g:Nat→AV} {m:Nat→AO} (h:SatF N w0 bl E a w g m) (x:Operand):Rep E w (aEvF g x) (a.eval x):=by
 cases x with
 | tmp t=>exact h.slots t
 | const v=>simp [aEvF,Act.eval,Rep,CRep]
 | global g=>simp [aEvF,Rep,CRep]
 | func f=>simp only [aEvF,Act.eval,Rep];exact ⟨[],rfl,by simp [RepL]⟩
theorem SatF.put {N:Nat} {w0:World} {bl:Bk} {E E':Env} {a:Act} {w w':World} {g:Nat→AV} {m:Nat→AO} {u:List (Nat×AO)} (h:SatF N w0 bl E a w g m) (st:StepTo w0 bl E w u E' w') {o:Oper} (hd:dstOK N o=true) {av:AV} {x:Value}
  (hx:Rep E' w' av x):SatF N w0 bl E' (a.put o.dst x) w' (putF g o.dst av) (updM m u) where
 defers:=by cases hh:o.dst<;>simp [Act.put,h.defers]
 size:=by cases hh:o.dst<;>simp [Act.put,h.size]
 inv:=st.inv
 mem:=st.mem h.inv h.mem
 slots:=fun t=>by
  cases hh:o.dst with
  | none =>
   simp only [Act.put,putF,reduceCtorEq,if_false]
   exact st.rep h.inv (h.slots t)
  | some d =>
   simp only [dstOK,hh,decide_eq_true_eq] at hd
   simp only [Act.put,putF,Option.some.injEq]
   by_cases e:d=t
   ·subst e
    rw [if_pos rfl]
    have:(a.tmps.setIfInBounds d x).getD d undef=x:=by
     simp [Array.getD_eq_getD_getElem?,h.size,hd]
    rw [this]
    exact hx
   ·rw [if_neg e]
    have:(a.tmps.setIfInBounds d x).getD t undef=a.tmps.getD t undef:=by
     simp [Array.getD_eq_getD_getElem?,Array.getElem?_setIfInBounds_ne e]
    rw [this]
    exact st.rep h.inv (h.slots t)
theorem wanted_of {N:Nat} {w0:World} {bl:Bk} {E:Env} {a:Act} {w:World} {g:Nat→AV} {m:Nat→AO} (h:SatF N w0 bl E a w g m) {ops:Array Oper} {o:Oper} {j d:Nat} {want:Bool} {b:Option Bool} (hg:o.guard=some (j,want)) (hj:(ops[j]?).bind (·.dst)=some d) (hd:yV (g d)=some b) :
  Region.wanted o (yielded ops a.tmps)=(b == some want):=by
 have h1:=h.slots d
 have hv:∃ x,g d=.v x:=by
  cases hgd:g d<;>first|exact ⟨_,rfl⟩|(rw [hgd] at hd;simp [yV] at hd)
 obtain ⟨x,hx⟩:=hv
 rw [hx] at h1 hd
 simp only [Rep,CRep] at h1
 have h2:yielded ops a.tmps j=b:=by
  simp only [yielded,hj,Option.bind_some]
  rw [Array.getD_eq_getD_getElem?] at h1
  cases hh:a.tmps[d]? with
  | none =>
   rw [hh] at h1
   simp only [Option.getD_none,undef] at h1
   subst h1
   simpa [yV] using hd
  | some y =>
   rw [hh] at h1
   simp only [Option.getD_some] at h1
   subst h1
   unfold yV at hd
   split at hd
   ·rename_i heq;simp only [AV.v.injEq] at heq;subst heq;simpa using hd
   ·rename_i hne heq
    simp only [AV.v.injEq] at heq
    subst heq
    simp only [Option.some.injEq] at hd
    subst hd
    split
    ·rename_i b' heq
     simp only [Option.some.injEq] at heq
     exact absurd heq (hne b')
    ·rfl
   ·simp at hd
 simp only [Region.wanted,hg,h2]
theorem step_wp {P:Program} {X:AX} (hX:XOK P X) {ops:Array Oper} {N:Nat} {w0:World} {bl:Bk} {E:Env} {a:Act} {w:World} {g:Nat→AV} {m:Nat→AO} {o:Oper} {nid:Nat} {r:AV×List (Nat×AO)} {next:Act→World→Prop} {Q:Exit→Act→World→Prop}
  (h:SatF N w0 bl E a w g m) (hs:stepRel (Types P) X ops N o g m nid r) (hnid:∀ k,nid≤k→k<nid+16→¬ E.alive k)
  (hn:∀ E' a' w',StepTo w0 bl E w r.2 E' w'→SatF N w0 bl E' a' w' (putF g o.dst r.1) (updM m r.2)→next a' w') :
  if Region.wanted o (yielded ops a.tmps) then o.wp P a w next Q else next (a.put o.dst undef) w:=by
 obtain ⟨hd,hs⟩:=hs
 have hexec:astep (Types P) X o.op (aEvF g) m nid=some r→o.wp P a w next Q:=fun he=>by
  obtain ⟨av,u⟩:=r
  exact op_sound hX he h.eval h.mem h.inv hnid fun x E' w' st hx=>hn E' _ w' st (h.put st hd hx)
 cases hg:o.guard with
 | none =>
  simp only [hg] at hs
  rw [if_pos (by simp [Region.wanted,hg])]
  exact hexec hs
 | some jw =>
  obtain ⟨j,want⟩:=jw
  simp only [hg] at hs
  obtain ⟨d,b,h1,h2,h3⟩:=hs
  rw [wanted_of h hg h1 h2]
  by_cases hb:b=some want
  ·rw [if_pos hb] at h3
   rw [if_pos (by simp [hb])]
   exact hexec h3
  ·rw [if_neg hb] at h3
   subst h3
   rw [if_neg (by simp [hb])]
   have st:StepTo w0 bl E w [] E w:=StepTo.refl h.inv rfl rfl rfl
   exact hn E _ w st (h.put st hd (by simp [Rep,CRep,undef]))
def opW (X:AX):Op→Bool
 | .store ..|.mapUpdate ..=>true
 | .call c=>match c.callee with
  | .value (.func f)=>X.writes f
  | .value _=>X.anyW
  | .builtin .append|.builtin .copy|.builtin .clear|.builtin .delete=>true
  | _=>false
 | _=>false
def opPure (X:AX):Op→Bool
 | .move _|.assign _|.pick ..|.extract ..|.nilCheck _|.binOp ..|.unOp ..|.convert ..|.build ..|.fieldAddr ..|.field ..|.indexAddr ..|.index ..|.slice _ _ _ none _|.makeFunc ..=>true
 | .call c=>match c.callee with
  | .builtin .len=>match c.argTypes.toList with
   | t::_=>!X.writes (1000000+t)
   | []=>true
  | .builtin .min|.builtin .max=>true
  | _=>false
 | _=>false
theorem pureR_upd {a:Option AV} {r:AV×List (Nat×AO)} (h:pureR a=some r):r.2=[]:=by
 obtain ⟨av,u⟩:=r
 exact (pureR_some h).2
theorem aAppend_dom {T:TypeId→Option TD} {M:Nat→AO} {nid:Nat} {st xt:TypeId} {s x:AV} {r:AV×List (Nat×AO)} (h:aAppend T M nid st xt s x=some r):∀ b∈r.2.map (·.1),b=nid∨M b≠.dead:=by
 unfold aAppend at h
 cases hst:T st<;>simp only [hst,reduceCtorEq] at h
 rename_i ds
 cases hxt:T xt<;>simp only [hxt,reduceCtorEq] at h
 rename_i dx
 cases hks:ds.k<;>simp only [hks,reduceCtorEq] at h
 rename_i e
 cases hkx:dx.k<;>simp only [hkx,reduceCtorEq] at h
 cases he:T e<;>simp only [he,reduceCtorEq] at h
 rename_i de
 cases hro:aRows M de.size s<;>simp only [hro,reduceCtorEq] at h
 cases hrn:aRows M de.size x<;>simp only [hrn,reduceCtorEq] at h
 split at h
 case isFalse=>simp at h
 cases s<;>(try simp only [reduceCtorEq] at h)
 ·split at h
  ·rename_i heq;simp at heq
  ·simp only [Option.some.injEq] at h;subst h;intro b hb;simp at hb;exact .inl hb
  ·simp at h
 ·obtain ⟨f,xs,h1,_⟩:=aRows_sl hro
  simp only [h1] at h
  split at h
  ·split at h
   ·simp only [Option.some.injEq] at h;subst h;intro b hb;simp at hb;subst hb;exact .inr (by rw [h1];simp)
   ·split at h
    ·simp only [Option.some.injEq] at h;subst h;intro b hb;simp at hb;exact .inl hb
    ·simp only [Option.some.injEq] at h;subst h;intro b hb;simp at hb;subst hb;exact .inr (by rw [h1];simp)
  ·simp only [Option.some.injEq] at h;subst h;intro b hb;simp at hb;subst hb;exact .inr (by rw [h1];simp)
theorem aApp_dom {T:TypeId→Option TD} {M:Nat→AO} {nid:Nat} {st xt:TypeId} {s x:AV} {r:AV×List (Nat×AO)} (h:aApp T M nid st xt s x=some r):∀ b∈r.2.map (·.1),b=nid∨M b≠.dead:=by
 unfold aApp at h
 cases hxt:T xt<;>simp only [hxt,reduceCtorEq] at h
 rename_i dx
 cases hk:dx.k<;>simp only [hk] at h
 case int ik=>exact fun b hb=>.inl (aAppendZ_dom h b hb)
 all_goals exact aAppend_dom h
theorem aCopy_dom {T:TypeId→Option TD} {M:Nat→AO} {t:TypeId} {x y:AV} {r:AV×List (Nat×AO)} (h:aCopy T M t x y=some r):∀ b∈r.2.map (·.1),M b≠.dead:=by
 unfold aCopy at h
 cases ht:T t<;>simp only [ht,reduceCtorEq] at h
 rename_i d
 cases hk:d.k<;>simp only [hk,reduceCtorEq] at h
 rename_i e
 cases he:T e<;>simp only [he,reduceCtorEq] at h
 cases x<;>simp only [reduceCtorEq] at h
 rename_i b m s o n
 cases hMb:M b<;>simp only [hMb,reduceCtorEq] at h
 rename_i m' s' f xs
 cases hr:aRows M s y<;>simp only [hr,reduceCtorEq] at h
 split at h
 case isFalse=>simp at h
 simp only [Option.some.injEq] at h
 subst h
 intro k hk
 simp at hk
 subst hk
 rw [hMb];simp
theorem aClear_dom {T:TypeId→Option TD} {M:Nat→AO} {t:TypeId} {x:AV} {r:AV×List (Nat×AO)} (h:aClear T M t x=some r):∀ b∈r.2.map (·.1),M b≠.dead:=by
 unfold aClear at h
 cases ht:T t<;>simp only [ht,reduceCtorEq] at h
 rename_i d
 cases hk:d.k<;>simp only [hk,reduceCtorEq] at h
 rename_i e
 cases he:T e<;>simp only [he,reduceCtorEq] at h
 cases x<;>simp only [reduceCtorEq] at h
 rename_i b m s o n
 cases hMb:M b<;>simp only [hMb,reduceCtorEq] at h
 rename_i m' s' f xs
 split at h
 case isFalse=>simp at h
 simp only [Option.some.injEq] at h
 subst h
 intro k hk
 simp at hk
 subst hk
 rw [hMb];simp
theorem aMapSet_dom {T:TypeId→Option TD} {X:AX} {M:Nat→AO} {t:TypeId} {x i y:AV} {u:List (Nat×AO)} (h:aMapSet T X M t x i y=some u):∀ b∈u.map (·.1),M b≠.dead:=by
 unfold aMapSet at h
 split at h
 ·split at h
  ·split at h
   ·rename_i hb
    split at h
    ·split at h<;>simp only [Option.some.injEq,reduceCtorEq] at h
     subst h
     intro k hk
     simp only [List.map_cons,List.map_nil,List.mem_singleton] at hk
     subst hk
     rw [hb];simp
    ·simp at h
   ·simp at h
  ·simp at h
 ·simp at h
theorem aMapDel_dom {T:TypeId→Option TD} {M:Nat→AO} {t:TypeId} {x i:AV} {u:List (Nat×AO)} (h:aMapDel T M t x i=some u):∀ b∈u.map (·.1),M b≠.dead:=by
 unfold aMapDel at h
 split at h
 ·split at h
  ·split at h
   ·rename_i hb
    split at h
    ·split at h<;>simp only [Option.some.injEq,reduceCtorEq] at h
     subst h
     intro k hk
     simp only [List.map_cons,List.map_nil,List.mem_singleton] at hk
     subst hk
     rw [hb];simp
    ·simp at h
   ·simp at h
  ·simp at h
 ·simp at h
theorem astep_dom {P:Program} {T:TypeId→Option TD} {X:AX} (hX:XOK P X) {op:Op} {g:Nat→AV} {M:Nat→AO} {nid:Nat} {r:AV×List (Nat×AO)} (h:astep T X op (aEvF g) M nid=some r) :
  ∀ b∈r.2.map (·.1),(nid≤b∧b<nid+16)∨(opW X op=true∧M b≠.dead):=by
 have none_:r.2=[]→∀ b∈r.2.map (·.1),(nid≤b∧b<nid+16)∨(opW X op=true∧M b≠.dead):=fun e=>by rw [e];simp
 have one_:∀ b o,r.2=[(b,o)]→b=nid→∀ b∈r.2.map (·.1),(nid≤b∧b<nid+16)∨(opW X op=true∧M b≠.dead):=fun b o e e'=>by
  rw [e];intro k hk;simp at hk;subst hk;exact .inl (by omega)
 cases op<;>simp only [astep,reduceCtorEq] at h
 case move x=>simp only [Option.some.injEq] at h;exact none_ (by rw [← h])
 case assign x=>simp only [Option.some.injEq] at h;exact none_ (by rw [← h])
 case pick c x y =>
  split at h<;>simp only [Option.some.injEq,reduceCtorEq] at h
  exact none_ (by rw [← h])
 case extract t i =>
  split at h
  ·split at h<;>simp only [Option.some.injEq,reduceCtorEq] at h
   exact none_ (by rw [← h])
  ·simp at h
 case nilCheck x =>
  split at h<;>simp only [Option.some.injEq,reduceCtorEq] at h
  all_goals exact none_ (by rw [← h])
 case binOp=>exact none_ (pureR_upd h)
 case unOp=>exact none_ (pureR_upd h)
 case convert=>exact none_ (pureR_upd h)
 case build=>exact none_ (pureR_upd h)
 case load=>exact none_ (pureR_upd h)
 case lookup=>exact none_ (pureR_upd h)
 case makeMap t r =>
  rename_i r0
  have h:aMakeMap T X nid t=some r0:=by
   cases r with
   | none=>exact h
   | some r =>
    simp only at h
    split at h
    ·exact h
    ·simp at h
  unfold aMakeMap at h
  split at h<;>simp only [Option.some.injEq,reduceCtorEq] at h
  exact one_ _ _ (by rw [← h]) rfl
 case mapUpdate t x i y =>
  cases hs:aMapSet T X M t (aEvF g x) (aEvF g i) (aEvF g y)<;>simp only [hs,Option.map_none,Option.map_some,reduceCtorEq,Option.some.injEq] at h
  rename_i u
  subst h
  exact fun b hb=>.inr ⟨rfl,aMapSet_dom hs b hb⟩
 case fieldAddr=>exact none_ (pureR_upd h)
 case field=>exact none_ (pureR_upd h)
 case indexAddr=>exact none_ (pureR_upd h)
 case index=>exact none_ (pureR_upd h)
 case slice t x lo hi mx =>
  cases mx with
  | none=>exact none_ (pureR_upd h)
  | some mx=>cases hi with
   | none=>simp at h
   | some hi=>exact none_ (pureR_upd h)
 case makeFunc fn first caps =>
  cases fn<;>simp only [reduceCtorEq] at h
  split at h<;>simp only [Option.some.injEq,reduceCtorEq] at h
  exact none_ (by rw [← h])
 case makeInterface t x =>
  split at h
  ·split at h<;>simp only [Option.some.injEq,reduceCtorEq] at h
   exact none_ (by rw [← h])
  ·simp at h
 case alloc t =>
  unfold aAlloc at h
  split at h
  ·split at h<;>simp only [Option.some.injEq,reduceCtorEq] at h
   exact one_ _ _ (by rw [← h];rfl) rfl
  ·simp at h
 case box t x =>
  unfold aBox at h
  split at h<;>simp only [Option.some.injEq,reduceCtorEq] at h
  exact one_ _ _ (by rw [← h];rfl) rfl
 case buildSlice t n parts =>
  unfold aBuildSlice at h
  cases ht:T t<;>simp only [ht,reduceCtorEq] at h
  rename_i d
  cases hk:d.k<;>simp only [hk,reduceCtorEq] at h
  rename_i e
  split at h
  ·split at h<;>simp only [Option.some.injEq,reduceCtorEq] at h
   exact one_ _ _ (by rw [← h]) rfl
  ·simp at h
 case makeSlice t l c =>
  unfold aMakeSlice at h
  split at h
  ·rename_i d _ _ _ _ _
   cases hk:d.k<;>simp only [hk,reduceCtorEq] at h
   split at h
   ·split at h<;>simp only [Option.some.injEq,reduceCtorEq] at h
    exact one_ _ _ (by rw [← h]) rfl
   ·simp at h
  ·simp at h
 case store t x y =>
  cases hs:aStore T M t (aEvF g x) (aEvF g y)<;>simp only [hs,Option.map_none,Option.map_some,reduceCtorEq,Option.some.injEq] at h
  rename_i u
  subst h
  unfold aStore at hs
  intro b hb
  refine .inr ⟨rfl,?_⟩
  split at hs
  ·split at hs
   ·split at hs
    ·split at hs
     ·rename_i hbox
      split at hs<;>simp only [Option.some.injEq,reduceCtorEq] at hs
      subst hs
      simp at hb
      subst hb
      rw [hbox];simp
     ·simp at hs
    ·split at hs
     ·rename_i hvec
      split at hs
      ·split at hs
       ·split at hs<;>simp only [Option.some.injEq,reduceCtorEq] at hs
        subst hs
        simp at hb
        subst hb
        rw [hvec];simp
       ·simp at hs
      ·simp at hs
     ·rename_i hvo
      split at hs
      ·split at hs
       ·split at hs<;>simp only [Option.some.injEq,reduceCtorEq] at hs
        subst hs
        simp at hb
        subst hb
        rw [hvo];simp
       ·split at hs
        ·split at hs
         ·split at hs<;>simp only [Option.some.injEq,reduceCtorEq] at hs
          subst hs
          simp at hb
          subst hb
          rw [hvo];simp
         ·simp at hs
        ·simp at hs
      ·simp at hs
     ·simp at hs
    ·simp at hs
   ·simp at hs
  ·simp at hs
 case call c =>
  unfold aCallOp at h
  obtain ⟨callee,args,argTypes⟩:=c
  cases callee<;>simp only [reduceCtorEq] at h
  case value f =>
   cases hev:aEvF g f<;>simp only [hev,reduceCtorEq] at h
   rename_i k caps
   intro b hb
   rcases hX.dom _ _ _ _ _ h b hb with h1|⟨h1,h2⟩
   ·exact .inl h1
   ·refine .inr ⟨?_,h2⟩
    cases f with
    | func f=>simp only [aEvF,AV.fn.injEq] at hev;simp only [opW];rw [hev.1];exact h1
    | tmp t=>exact hX.anyW k h1
    | const v=>exact hX.anyW k h1
    | global g=>exact hX.anyW k h1
  case builtin b =>
   split at h<;>(try (simp at h;done))
   ·exact none_ (pureR_upd h)
   ·intro b hb
    rcases aApp_dom h b hb with h1|h1
    ·exact .inl (by omega)
    ·exact .inr ⟨rfl,h1⟩
   ·exact none_ (pureR_upd h)
   ·exact fun b hb=>.inr ⟨rfl,aCopy_dom h b hb⟩
   ·exact fun b hb=>.inr ⟨rfl,aClear_dom h b hb⟩
   ·rename_i x y t u' _ _
    cases hs:aMapDel T M t (aEvF g x) (aEvF g y)<;>simp only [hs,Option.map_none,Option.map_some,reduceCtorEq,Option.some.injEq] at h
    rename_i u
    subst h
    exact fun b hb=>.inr ⟨rfl,aMapDel_dom hs b hb⟩
   ·exact none_ (pureR_upd h)
   ·exact none_ (pureR_upd h)
theorem astep_pure {T:TypeId→Option TD} {X:AX} {op:Op} {ev:Operand→AV} {M M':Nat→AO} {nid nid':Nat} (h:opPure X op=true):astep T X op ev M nid=astep T X op ev M' nid':=by
 cases op<;>simp only [opPure,Bool.false_eq_true] at h<;>try rfl
 case makeFunc fn first caps=>cases fn<;>rfl
 case slice t x lo hi mx =>
  cases hi with
  | some hi=>simp at h
  | none=>cases mx with
   | none =>
    simp only [astep,Option.map_none]
    rw [aSlice_none (M':=M')]
   | some mx=>rfl
 rename_i c
 obtain ⟨callee,args,argTypes⟩:=c
 cases callee<;>simp only [Bool.false_eq_true] at h
 rename_i b
 cases b<;>simp only [Bool.false_eq_true] at h
 case len =>
  simp only [astep,aCallOp]
  cases hl:argTypes.toList with
  | nil=>cases args.toList with
   | nil=>rfl
   | cons x r=>cases r<;>rfl
  | cons t ts =>
   simp only [hl,Bool.not_eq_true'] at h
   cases args.toList with
   | nil=>rfl
   | cons x r=>cases r with
    | nil =>
     show pureR (aLenX T X M t (ev x))=pureR (aLenX T X M' t (ev x))
     rw [aLenX_none h]
    | cons y r=>rfl
 all_goals
  simp only [astep,aCallOp]
  split<;>first|rfl|(rename_i hh _ _;cases hh)
theorem astep_congr {T:TypeId→Option TD} {X:AX} {op:Op} {ev ev':Operand→AV} {M:Nat→AO} {nid:Nat} (h:∀ x∈op.operands,ev x=ev' x):astep T X op ev M nid=astep T X op ev' M nid:=by
 have pairs:∀ ps:Array (Nat×Operand),(∀ x∈ps.toList.map (·.2),ev x=ev' x)→(ps.toList.map fun p=>(p.1,ev p.2))=(ps.toList.map fun p=>(p.1,ev' p.2)):=fun ps hp =>
  List.map_congr_left fun p hm=>by rw [hp p.2 (List.mem_map.2 ⟨p,hm,rfl⟩)]
 cases op<;>simp only [Op.operands] at h<;>simp only [astep]
 case build t ps=>rw [pairs ps fun x hx=>h x (by simpa using hx)]
 case buildSlice t n ps=>rw [pairs ps fun x hx=>h x (by simpa using hx)]
 case makeFunc fn first caps =>
  cases fn<;>simp only
  split
  ·rw [List.map_congr_left (fun x hx=>h x (by simp at hx ⊢;exact .inr hx))]
  ·rfl
 case slice t x lo hi mx=>cases mx<;>cases lo<;>cases hi<;>simp_all
 case makeMap t r=>cases r<;>simp_all
 case call c =>
  obtain ⟨callee,args,argTypes⟩:=c
  unfold aCallOp
  cases callee with
  | value f =>
   simp only [Call.operands] at h
   have hf:ev f=ev' f:=h f (by simp)
   have ha:args.toList.map ev=args.toList.map ev':=List.map_congr_left fun x hx=>h x (by simp at hx ⊢;exact .inr hx)
   simp only [hf,ha]
  | builtin b =>
   simp only [Call.operands] at h
   have ha:∀ x∈args.toList,ev x=ev' x:=fun x hx=>h x (by simpa using hx)
   simp only
   split
   ·rename_i x t ts heq1 heq2
    rw [ha x (by rw [heq1];simp)]
   ·rename_i x y t u heq1 heq2
    rw [ha x (by rw [heq1];simp),ha y (by rw [heq1];simp)]
   ·rename_i x t ts heq1 heq2
    rw [ha x (by rw [heq1];simp)]
   ·rename_i x y t u heq1 heq2
    rw [ha x (by rw [heq1];simp),ha y (by rw [heq1];simp)]
   ·rename_i x t heq1 heq2
    rw [ha x (by rw [heq1];simp)]
   ·rename_i x y t u heq1 heq2
    rw [ha x (by rw [heq1];simp),ha y (by rw [heq1];simp)]
   ·rename_i x y heq1
    rw [ha x (by rw [heq1];simp),ha y (by rw [heq1];simp)]
   ·rename_i x y heq1
    rw [ha x (by rw [heq1];simp),ha y (by rw [heq1];simp)]
   ·rfl
  | invoke r m=>rfl
 all_goals (first|rfl|(simp_all;done))
theorem run_ordered {P:Program} {X:AX} (hX:XOK P X) {ops:Array Oper} {N base:Nat} {w0:World} {bl:Bk} {Q:Exit→Act→World→Prop}:∀ {ol:List Oper} {i:Nat} {E:Env} {a:Act} {w:World} {g g':Nat→AV} {m m':Nat→AO} {rs:List (AV×List (Nat×AO))},
  Recs (Types P) X ops N base ol i g m rs g' m'→SatF N w0 bl E a w g m→(∀ k,E.alive k→k<base+16*i)→(∀ k,m k≠.dead→k<base+16*i) →
  (∀ E' a' w',SatF N w0 bl E' a' w' g' m'→(∀ k,E'.alive k→k<base+16*(i+ol.length))→(∀ k,m' k≠.dead→k<base+16*(i+ol.length))→Q .normal a' w')→wpList P ops Q ol a w
 | [],i,E,a,w,g,g',m,m',[],h,hs,ha,hm,hq=>by
  obtain ⟨rfl,rfl⟩:=h
  exact hq E a w hs (by simpa using ha) (by simpa using hm)
 | o::ol,i,E,a,w,g,g',m,m',r::rs,h,hs,ha,hm,hq=>by
  obtain ⟨h1,h2⟩:=h
  have hdom:∀ b∈r.2.map (·.1),b<base+16*(i+1):=by
   obtain ⟨hd,h1⟩:=h1
   have key:astep (Types P) X o.op (aEvF g) m (base+16*i)=some r→∀ b∈r.2.map (·.1),b<base+16*(i+1):=fun he b hb=>by
    rcases astep_dom hX he b hb with h3|⟨_,h3⟩
    ·omega
    ·have:=hm b h3;omega
   cases hg:o.guard with
   | none=>simp only [hg] at h1;exact key h1
   | some jw =>
    obtain ⟨j,want⟩:=jw
    simp only [hg] at h1
    obtain ⟨d,b,_,_,h4⟩:=h1
    split at h4
    ·exact key h4
    ·subst h4;simp
  have:=step_wp hX (Q:=Q) (next:=wpList P ops Q ol) hs h1 (fun k hk _ hal=>by have:=ha k hal;omega) fun E' a' w' st hs'=>by
   refine run_ordered hX h2 hs' (fun k hk=>?_) (fun k hk=>?_) fun E2 a2 w2 k1 k2 k3=>hq E2 a2 w2 k1 ?_ ?_
   ·rcases st.alive k hk with h3|h3
    ·have:=ha k h3;omega
    ·exact hdom k h3
   ·by_cases hk2:k∈r.2.map (·.1)
    ·exact hdom k hk2
    ·rw [updM_not hk2] at hk
     have:=hm k hk;omega
   ·intro k hk;have:=k2 k hk;simp only [List.length_cons];omega
   ·intro k hk;have:=k3 k hk;simp only [List.length_cons];omega
  unfold wpList
  split
  ·rename_i hw;rw [if_pos hw] at this;exact .inl this
  ·rename_i hw;rw [if_neg hw] at this;exact this
 | [],_,_,_,_,_,_,_,_,_::_,h,_,_,_,_=>by simp [Recs] at h
 | _::_,_,_,_,_,_,_,_,_,[],h,_,_,_,_=>by simp [Recs] at h
def Sat (N:Nat) (w0:World) (bl:Bk) (a:Act) (w:World) (st:St):Prop :=
 ∃ E,SatF N w0 bl E a w (getS st.s) (getM st.m)∧(∀ k,E.alive k→k<st.nx)∧(∀ k,getM st.m k≠.dead→k<st.nx)
def aregion (T:TypeId→Option TD) (X:AX) (N:Nat) (ops:Array Oper) (st:St):Option St :=
 match arun T X ops N st.nx ops.toList 0 st.s st.m with
 | some (s,m)=>some ⟨s,m,st.nx+16*ops.size⟩
 | none=>none
theorem region_ordered {P:Program} {X:AX} (hX:XOK P X) {id N:Nat} {ops:Array Oper} {w0:World} {bl:Bk} {a:Act} {w:World} {st st':St} {Q:Exit→Act→World→Prop}
  (hs:Sat N w0 bl a w st) (hr:aregion (Types P) X N ops st=some st') (hq:∀ a' w',Sat N w0 bl a' w' st'→Q .normal a' w'):(Code.region id ops false).wp P Q a w:=by
 unfold aregion at hr
 cases hh:arun (Types P) X ops N st.nx ops.toList 0 st.s st.m<;>simp only [hh,reduceCtorEq,Option.some.injEq] at hr
 rename_i sm
 obtain ⟨s,m⟩:=sm
 obtain rfl:=hr
 obtain ⟨rs,hrs⟩:=recs_of_run hh
 obtain ⟨E,h1,h2,h3⟩:=hs
 refine wp_region_list (run_ordered hX hrs h1 (by simpa using h2) (by simpa using h3) fun E' a' w' k1 k2 k3=>hq a' w' ⟨E',k1,?_,?_⟩)
 ·intro k hk;have:=k2 k hk;simpa using this
 ·intro k hk;have:=k3 k hk;simpa using this
end Go.AM
namespace Go.AM
open Go
abbrev Rec:=AV×List (Nat×AO)
def gF:List (Oper×Rec)→Nat→(Nat→Bool)→(Nat→AV)→(Nat→AV)
 | [],_,_,g=>g
 | (o,r)::l,i,L,g=>gF l (i+1) L (if L i=true then putF g o.dst r.1 else g)
def mF:List (Oper×Rec)→Nat→(Nat→Bool)→(Nat→AO)→(Nat→AO)
 | [],_,_,m=>m
 | (_,r)::l,i,L,m=>mF l (i+1) L (if L i=true then updM m r.2 else m)
theorem gF_none:∀ {l:List (Oper×Rec)} {i:Nat} {L:Nat→Bool} {g:Nat→AV},(∀ j,i≤j→L j=false)→gF l i L g=g
 | [],_,_,_,_=>rfl
 | (o,r)::l,i,L,g,h=>by
  simp only [gF]
  rw [if_neg (by simp [h i (Nat.le_refl _)])]
  exact gF_none fun j hj=>h j (by omega)
theorem mF_none:∀ {l:List (Oper×Rec)} {i:Nat} {L:Nat→Bool} {m:Nat→AO},(∀ j,i≤j→L j=false)→mF l i L m=m
 | [],_,_,_,_=>rfl
 | (o,r)::l,i,L,m,h=>by
  simp only [mF]
  rw [if_neg (by simp [h i (Nat.le_refl _)])]
  exact mF_none fun j hj=>h j (by omega)
theorem gF_at {t:Nat}:∀ {l:List (Oper×Rec)} {i:Nat} {L L':Nat→Bool} {g g':Nat→AV},g t=g' t→(∀ j o r,l[j]?=some (o,r)→o.dst=some t→L (i+j)=L' (i+j))→gF l i L g t=gF l i L' g' t
 | [],_,_,_,_,_,h,_=>h
 | (o,r)::l,i,L,L',g,g',h,k=>by
  simp only [gF]
  refine gF_at ?_ fun j o' r' hj ho=>by
   have:=k (j+1) o' r' (by simpa using hj) ho
   rwa [show i+1+j=i+(j+1) from by omega]
  by_cases hd:o.dst=some t
  ·have:=k 0 o r (by simp) hd
   simp only [Nat.add_zero] at this
   rw [this]
   split
   ·simp [putF,hd]
   ·exact h
  ·have e1:∀ (b:Bool) (g:Nat→AV),(if b=true then putF g o.dst r.1 else g) t=g t:=fun b g=>by
    split
    ·simp [putF,hd]
    ·rfl
   rw [e1,e1]
   exact h
theorem mF_at {b:Nat}:∀ {l:List (Oper×Rec)} {i:Nat} {L L':Nat→Bool} {m m':Nat→AO},m b=m' b→(∀ j o r,l[j]?=some (o,r)→b∈r.2.map (·.1)→L (i+j)=L' (i+j))→mF l i L m b=mF l i L' m' b
 | [],_,_,_,_,_,h,_=>h
 | (o,r)::l,i,L,L',m,m',h,k=>by
  simp only [mF]
  refine mF_at ?_ fun j o' r' hj ho=>by
   have:=k (j+1) o' r' (by simpa using hj) ho
   rwa [show i+1+j=i+(j+1) from by omega]
  by_cases hd:b∈r.2.map (·.1)
  ·have:=k 0 o r (by simp) hd
   simp only [Nat.add_zero] at this
   rw [this]
   split
   ·have key:∀ {u:List (Nat×AO)},b∈u.map (·.1)→updM m u b=updM m' u b:=by
     intro u
     induction u with
     | nil=>simp
     | cons x u ih =>
      obtain ⟨c,o⟩:=x
      intro hb
      simp only [updM]
      split
      ·rfl
      ·rename_i hne
       simp only [List.map_cons,List.mem_cons] at hb
       exact ih (hb.resolve_left fun e=>hne e.symm)
    exact key hd
   ·exact h
  ·have e1:∀ (c:Bool) (m:Nat→AO),(if c=true then updM m r.2 else m) b=m b:=fun c m=>by
    split
    ·exact updM_not hd
    ·rfl
   rw [e1,e1]
   exact h
theorem updM_mem' {m m':Nat→AO} {b:Nat} {u:List (Nat×AO)} (h:b∈u.map (·.1)):updM m u b=updM m' u b:=by
 induction u with
 | nil=>simp at h
 | cons x u ih =>
  obtain ⟨c,o⟩:=x
  simp only [updM]
  split
  ·rfl
  ·rename_i hne
   simp only [List.map_cons,List.mem_cons] at h
   exact ih (h.resolve_left fun e=>hne e.symm)
theorem gF_last {t:Nat}:∀ {l:List (Oper×Rec)} {i k:Nat} {L:Nat→Bool} {g:Nat→AV} {o:Oper} {r:Rec},l[k]?=some (o,r)→L (i+k)=true→o.dst=some t→(∀ j o' r',k<j→l[j]?=some (o',r')→o'.dst=some t→L (i+j)=false)→gF l i L g t=r.1
 | [],_,_,_,_,_,_,h,_,_,_=>by simp at h
 | (o',r')::l,i,0,L,g,o,r,h,hL,hd,hn=>by
  simp only [List.getElem?_cons_zero,Option.some.injEq,Prod.mk.injEq] at h
  obtain ⟨rfl,rfl⟩:=h
  simp only [gF]
  rw [if_pos (by simpa using hL)]
  rw [gF_at (L':=fun _=>false) (g':=putF g o'.dst r'.1) rfl fun j o2 r2 hj ho=>by
   have:=hn (j+1) o2 r2 (by omega) (by simpa using hj) ho
   rwa [show i+(j+1)=i+1+j from by omega] at this]
  rw [gF_none (fun _ _=>rfl)]
  simp [putF,hd]
 | (o',r')::l,i,k+1,L,g,o,r,h,hL,hd,hn=>by
  simp only [gF]
  refine gF_last (k:=k) (by simpa using h) (by rwa [show i+1+k=i+(k+1) from by omega]) hd fun j o2 r2 hj hl ho=>?_
  have:=hn (j+1) o2 r2 (by omega) (by simpa using hl) ho
  rwa [show i+1+j=i+(j+1) from by omega]
theorem mF_last {b:Nat}:∀ {l:List (Oper×Rec)} {i k:Nat} {L:Nat→Bool} {m:Nat→AO} {o:Oper} {r:Rec},l[k]?=some (o,r)→L (i+k)=true→b∈r.2.map (·.1)→(∀ j o' r',k<j→l[j]?=some (o',r')→b∈r'.2.map (·.1)→L (i+j)=false) →
  ∀ m',mF l i L m b=updM m' r.2 b
 | [],_,_,_,_,_,_,h,_,_,_=>by simp at h
 | (o',r')::l,i,0,L,m,o,r,h,hL,hd,hn=>by
  intro m'
  simp only [List.getElem?_cons_zero,Option.some.injEq,Prod.mk.injEq] at h
  obtain ⟨rfl,rfl⟩:=h
  simp only [mF]
  rw [if_pos (by simpa using hL)]
  rw [mF_at (L':=fun _=>false) (m':=updM m r'.2) rfl fun j o2 r2 hj ho=>by
   have:=hn (j+1) o2 r2 (by omega) (by simpa using hj) ho
   rwa [show i+(j+1)=i+1+j from by omega] at this]
  rw [mF_none (fun _ _=>rfl)]
  exact updM_mem' hd
 | (o',r')::l,i,k+1,L,m,o,r,h,hL,hd,hn=>by
  simp only [mF]
  refine mF_last (k:=k) (by simpa using h) (by rwa [show i+1+k=i+(k+1) from by omega]) hd fun j o2 r2 hj hl ho=>?_
  have:=hn (j+1) o2 r2 (by omega) (by simpa using hl) ho
  rwa [show i+1+j=i+(j+1) from by omega]
theorem recs_at {T:TypeId→Option TD} {X:AX} {ops:Array Oper} {N base:Nat}:∀ {ol:List Oper} {i:Nat} {g g':Nat→AV} {m m':Nat→AO} {rs:List Rec},Recs T X ops N base ol i g m rs g' m' →
  rs.length=ol.length∧g'=gF (ol.zip rs) i (fun _=>true) g∧m'=mF (ol.zip rs) i (fun _=>true) m ∧
  ∀ k o r,(ol.zip rs)[k]?=some (o,r)→stepRel T X ops N o (gF (ol.zip rs) i (fun j=>decide (j<i+k)) g) (mF (ol.zip rs) i (fun j=>decide (j<i+k)) m) (base+16*(i+k)) r
 | [],i,g,g',m,m',[],h=>by
  obtain ⟨rfl,rfl⟩:=h
  exact ⟨rfl,rfl,rfl,fun k o r hk=>by simp at hk⟩
 | o::ol,i,g,g',m,m',r::rs,h=>by
  obtain ⟨h1,h2⟩:=h
  obtain ⟨k1,k2,k3,k4⟩:=recs_at h2
  refine ⟨by simp [k1],by simpa [gF] using k2,by simpa [mF] using k3,fun k o' r' hk=>?_⟩
  cases k with
  | zero =>
   simp only [List.zip_cons_cons,List.getElem?_cons_zero,Option.some.injEq,Prod.mk.injEq] at hk
   obtain ⟨rfl,rfl⟩:=hk
   rw [gF_none (fun j hj=>by simp;omega),mF_none (fun j hj=>by simp;omega)]
   exact h1
  | succ k =>
   simp only [List.zip_cons_cons,List.getElem?_cons_succ] at hk
   have:=k4 k o' r' hk
   simp only [List.zip_cons_cons,gF,mF]
   rw [if_pos (by simp),if_pos (by simp)]
   rwa [show i+(k+1)=i+1+k from by omega]
 | [],_,_,_,_,_,_::_,h=>by simp [Recs] at h
 | _::_,_,_,_,_,_,[],h=>by simp [Recs] at h
inductive Anc (ops:Array Oper):Nat→Nat→Prop where
 | edge {i j:Nat} {o:Oper} {e:Edge}:ops[j]?=some o→e∈o.after→Region.binds .any e=true→e.on=i→Anc ops i j
 | trans {i j:Nat} {o:Oper} {e:Edge}:ops[j]?=some o→e∈o.after→Region.binds .any e=true→Anc ops i e.on→Anc ops i j
def ancStep (acc:List Nat) (o:Oper):Nat:=o.after.toList.foldl (fun s e=>if Region.binds .any e then s ||| 2^e.on ||| acc.getD e.on 0 else s) 0
def ancAll:List Oper→List Nat→List Nat
 | [],acc=>acc
 | o::r,acc=>ancAll r (acc++[ancStep acc o])
theorem ancStep_bit {acc:List Nat} {o:Oper} {i:Nat} (h:(ancStep acc o).testBit i=true):∃ e∈o.after,Region.binds .any e=true∧(e.on=i∨(acc.getD e.on 0).testBit i=true):=by
 have key:∀ (l:List Edge) (s:Nat),(l.foldl (fun s e=>if Region.binds .any e then s ||| 2^e.on ||| acc.getD e.on 0 else s) s).testBit i=true→s.testBit i=true∨∃ e∈l,Region.binds .any e=true∧(e.on=i∨(acc.getD e.on 0).testBit i=true):=by
  intro l
  induction l with
  | nil=>intro s hs;exact .inl hs
  | cons e l ih =>
   intro s hs
   simp only [List.foldl_cons] at hs
   rcases ih _ hs with h1|⟨e',h1,h2⟩
   ·split at h1
    ·rename_i hb
     rw [Nat.testBit_or,Nat.testBit_or,Bool.or_eq_true,Bool.or_eq_true] at h1
     rcases h1 with (h1|h1)|h1
     ·exact .inl h1
     ·rw [Nat.testBit_two_pow] at h1
      exact .inr ⟨e,by simp,hb,.inl (by simpa using h1)⟩
     ·exact .inr ⟨e,by simp,hb,.inr h1⟩
    ·exact .inl h1
   ·exact .inr ⟨e',by simp [h1],h2⟩
 rcases key _ 0 h with h1|⟨e,h1,h2⟩
 ·simp at h1
 ·exact ⟨e,Array.mem_toList_iff.1 h1,h2⟩
theorem ancAll_spec {ops:Array Oper}:∀ (l:List Oper) (acc:List Nat),(∀ j,l[j]?=ops[acc.length+j]?)→(∀ j i,(acc.getD j 0).testBit i=true→Anc ops i j)→∀ j i,((ancAll l acc).getD j 0).testBit i=true→Anc ops i j
 | [],acc,_,h,j,i,hb=>h j i hb
 | o::l,acc,hl,h,j,i,hb=>by
  refine ancAll_spec l (acc++[ancStep acc o]) (fun j=>?_) (fun j i hb=>?_) j i hb
  ·have:=hl (j+1)
   simp only [List.getElem?_cons_succ,List.length_append,List.length_singleton] at this ⊢
   rw [this]
   congr 1
   omega
  ·by_cases h1:j<acc.length
   ·exact h j i (by rwa [List.getD_eq_getElem?_getD,List.getElem?_append_left h1,← List.getD_eq_getElem?_getD] at hb)
   ·by_cases h2:j=acc.length
    ·subst h2
     rw [List.getD_eq_getElem?_getD,List.getElem?_append_right (Nat.le_refl _)] at hb
     simp at hb
     obtain ⟨e,he,hb1,hb2⟩:=ancStep_bit hb
     have ho:ops[acc.length]?=some o:=by have:=hl 0;simpa using this.symm
     rcases hb2 with hb2|hb2
     ·exact .edge ho he hb1 hb2
     ·exact .trans ho he hb1 (h _ _ hb2)
    ·rw [List.getD_eq_getElem?_getD,List.getElem?_eq_none (by simp;omega)] at hb
     simp at hb
def conflict (X:AX) (ops:Array Oper) (x y:Oper):Bool :=
 !(Oper.apart ops x y)||(opW X x.op&&!opPure X y.op)||(opW X y.op&&!opPure X x.op)
def ordB (X:AX) (ops:Array Oper):Bool :=
 Region.noSelect ops &&
 ops.toList.zipIdx.all (fun p=>p.1.after.all fun e=>!Region.binds .any e||decide (e.on<p.2)) &&
 ops.toList.zipIdx.all (fun p=>ops.toList.zipIdx.all fun q=>!(decide (p.2<q.2))||!conflict X ops p.1 q.1||((ancAll ops.toList []).getD q.2 0).testBit p.2)
structure Ord (X:AX) (ops:Array Oper):Prop where
 back:∀ j o,ops[j]?=some o→∀ e∈o.after,Region.binds .any e=true→e.on<j
 conf:∀ i j x y,ops[i]?=some x→ops[j]?=some y→i<j→conflict X ops x y=true→Anc ops i j
theorem ord_of {X:AX} {ops:Array Oper} (h:ordB X ops=true):Ord X ops:=by
 simp only [ordB,Bool.and_eq_true] at h
 obtain ⟨⟨_,h1⟩,h2⟩:=h
 have hz:∀ j o,ops[j]?=some o→(o,j)∈ops.toList.zipIdx:=fun j o ho=>by
  rw [List.mem_zipIdx_iff_getElem?]
  simpa using ho
 refine ⟨fun j o ho e he hb=>?_,fun i j x y hx hy hij hc=>?_⟩
 ·have:=List.all_eq_true.1 h1 _ (hz j o ho)
  simp only [Array.all_eq_true'] at this
  have:=this e he
  simpa [hb] using this
 ·have h3:=List.all_eq_true.1 (List.all_eq_true.1 h2 _ (hz i x hx)) _ (hz j y hy)
  simp only [hij,decide_true,Bool.not_true,hc,Bool.false_or] at h3
  exact ancAll_spec ops.toList [] (fun j=>by simp) (fun j i hb=>by simp at hb) j i h3
end Go.AM
namespace Go.AM
open Go
theorem countP_lt {α:Type} {p q:α→Bool}:∀ {l:List α},(∀ x,q x=true→p x=true)→(∃ x∈l,p x=true∧q x=false)→l.countP q<l.countP p
 | [],_,h=>by simp at h
 | a::l,h,⟨x,hx,h1,h2⟩=>by
  have hle:l.countP q≤l.countP p:=List.countP_mono_left fun y _=>h y
  rcases List.mem_cons.1 hx with rfl|hx
  ·rw [List.countP_cons_of_pos h1,List.countP_cons_of_neg (by simp [h2])]
   omega
  ·have ih:=countP_lt h ⟨x,hx,h1,h2⟩
   rw [List.countP_cons,List.countP_cons]
   have:(if q a=true then 1 else 0)≤(if p a=true then 1 else 0):=by
    split
    ·rename_i hq;rw [if_pos (h a hq)];exact Nat.le_refl _
    ·exact Nat.zero_le _
   omega
theorem stepRel_dom {P:Program} {T:TypeId→Option TD} {X:AX} (hX:XOK P X) {ops:Array Oper} {N:Nat} {o:Oper} {g:Nat→AV} {m:Nat→AO} {nid:Nat} {r:Rec} (h:stepRel T X ops N o g m nid r) :
  ∀ b∈r.2.map (·.1),(nid≤b∧b<nid+16)∨(opW X o.op=true∧m b≠.dead):=by
 obtain ⟨_,h⟩:=h
 cases hg:o.guard with
 | none=>simp only [hg] at h;exact astep_dom hX h
 | some jw =>
  obtain ⟨j,want⟩:=jw
  simp only [hg] at h
  obtain ⟨d,b,_,_,h4⟩:=h
  split at h4
  ·exact astep_dom hX h4
  ·subst h4;simp
theorem astep_pure_upd {T:TypeId→Option TD} {X:AX} {op:Op} {ev:Operand→AV} {M:Nat→AO} {nid:Nat} {r:Rec} (h:opPure X op=true) (hs:astep T X op ev M nid=some r):r.2=[]:=by
 cases op<;>simp only [opPure,Bool.false_eq_true] at h<;>simp only [astep] at hs
 case move=>simp only [Option.some.injEq] at hs;rw [← hs]
 case assign=>simp only [Option.some.injEq] at hs;rw [← hs]
 case pick =>
  split at hs<;>simp only [Option.some.injEq,reduceCtorEq] at hs
  rw [← hs]
 case extract =>
  split at hs
  ·split at hs<;>simp only [Option.some.injEq,reduceCtorEq] at hs
   rw [← hs]
  ·simp at hs
 case nilCheck =>
  split at hs<;>simp only [Option.some.injEq,reduceCtorEq] at hs
  all_goals rw [← hs]
 case slice t x lo hi mx =>
  cases hi with
  | some hi=>simp at h
  | none=>cases mx<;>simp only [reduceCtorEq] at hs;exact pureR_upd hs
 case makeFunc fn first caps =>
  cases fn<;>simp only [reduceCtorEq] at hs
  split at hs<;>simp only [Option.some.injEq,reduceCtorEq] at hs
  rw [← hs]
 case call c =>
  obtain ⟨callee,args,argTypes⟩:=c
  cases callee<;>simp only [Bool.false_eq_true] at h
  rename_i b
  cases b<;>simp only [Bool.false_eq_true] at h
  all_goals
   simp only [aCallOp] at hs
   split at hs<;>first|exact pureR_upd hs|(rename_i hh _ _;cases hh)|(simp at hs)
 all_goals exact pureR_upd hs
theorem stepRel_pure {T:TypeId→Option TD} {X:AX} {ops:Array Oper} {N:Nat} {o:Oper} {g:Nat→AV} {m:Nat→AO} {nid:Nat} {r:Rec} (hp:opPure X o.op=true) (h:stepRel T X ops N o g m nid r):r.2=[]:=by
 obtain ⟨_,h⟩:=h
 cases hg:o.guard with
 | none=>simp only [hg] at h;exact astep_pure_upd hp h
 | some jw =>
  obtain ⟨j,want⟩:=jw
  simp only [hg] at h
  obtain ⟨d,b,_,_,h4⟩:=h
  split at h4
  ·exact astep_pure_upd hp h4
  ·subst h4;rfl
theorem mem_looksAt {ops:Array Oper} {o:Oper} {t:Nat} (h:Operand.tmp t∈o.op.operands):t∈o.looksAt ops:=by
 unfold Oper.looksAt
 rw [List.mem_append]
 left
 rw [List.mem_filterMap]
 exact ⟨.tmp t,by simpa using h,rfl⟩
theorem guard_looksAt {ops:Array Oper} {o:Oper} {j d:Nat} {want:Bool} (hg:o.guard=some (j,want)) (hj:(ops[j]?).bind (·.dst)=some d):d∈o.looksAt ops:=by
 unfold Oper.looksAt
 rw [List.mem_append]
 right
 simp [hg,hj]
theorem stepRel_congr {T:TypeId→Option TD} {X:AX} {ops:Array Oper} {N:Nat} {o:Oper} {g g':Nat→AV} {m m':Nat→AO} {nid:Nat} {r:Rec} (h:stepRel T X ops N o g m nid r)
  (hg:∀ t∈o.looksAt ops,g t=g' t) (hm:m=m'∨opPure X o.op=true):stepRel T X ops N o g' m' nid r:=by
 obtain ⟨hd,h⟩:=h
 refine ⟨hd,?_⟩
 have he:∀ r,astep T X o.op (aEvF g) m nid=some r→astep T X o.op (aEvF g') m' nid=some r:=fun r hr=>by
  rw [← hr]
  have h1:astep T X o.op (aEvF g') m' nid=astep T X o.op (aEvF g) m' nid:=astep_congr fun x hx=>by
   cases x<;>try rfl
   rename_i t
   exact (hg t (mem_looksAt hx)).symm
  rw [h1]
  rcases hm with rfl|hp
  ·rfl
  ·exact astep_pure hp
 cases hgd:o.guard with
 | none=>simp only [hgd] at h ⊢;exact he r h
 | some jw =>
  obtain ⟨j,want⟩:=jw
  simp only [hgd] at h ⊢
  obtain ⟨d,b,h1,h2,h4⟩:=h
  refine ⟨d,b,h1,by rw [← hg d (guard_looksAt hgd h1)];exact h2,?_⟩
  split at h4
  ·rename_i hb;rw [if_pos hb];exact he r h4
  ·rename_i hb;rw [if_neg hb];exact h4
section
variable {P:Program} {X:AX} {ops:Array Oper} {N base:Nat} {rs:List Rec} {g0 g':Nat→AV} {m0 m':Nat→AO}
theorem live_of (hX:XOK P X) (hz:∀ k o r,(ops.toList.zip rs)[k]?=some (o,r)→stepRel (Types P) X ops N o (gF (ops.toList.zip rs) 0 (fun j=>decide (j<0+k)) g0) (mF (ops.toList.zip rs) 0 (fun j=>decide (j<0+k)) m0) (base+16*(0+k)) r)
  (hm0:∀ b,m0 b≠.dead→b<base):∀ k b,mF (ops.toList.zip rs) 0 (fun j=>decide (j<k)) m0 b≠.dead→b<base∨∃ j,j<k∧base+16*j≤b∧b<base+16*j+16∧∃ o r,(ops.toList.zip rs)[j]?=some (o,r)∧r.2≠[]:=by
 intro k
 induction k with
 | zero =>
  intro b hb
  rw [mF_none (fun j _=>by simp)] at hb
  exact .inl (hm0 b hb)
 | succ k ih =>
  intro b hb
  cases hk:(ops.toList.zip rs)[k]? with
  | none =>
   have:mF (ops.toList.zip rs) 0 (fun j=>decide (j<k+1)) m0 b=mF (ops.toList.zip rs) 0 (fun j=>decide (j<k)) m0 b:=mF_at rfl fun j o r hj _=>by
    have h1:=(List.getElem?_eq_some_iff.1 hj).1
    have h2:=List.getElem?_eq_none_iff.1 hk
    simp only [Nat.zero_add,decide_eq_decide]
    omega
   rw [this] at hb
   rcases ih b hb with h1|⟨j,h1,h2⟩
   ·exact .inl h1
   ·exact .inr ⟨j,by omega,h2⟩
  | some p =>
   obtain ⟨o,r⟩:=p
   by_cases hd:b∈r.2.map (·.1)
   ·rcases stepRel_dom hX (hz k o r hk) b hd with h1|⟨_,h1⟩
    ·exact .inr ⟨k,by omega,by omega,by omega,o,r,hk,fun e=>by rw [e] at hd;simp at hd⟩
    ·simp only [Nat.zero_add] at h1
     rcases ih b h1 with h2|⟨j,h2,h3⟩
     ·exact .inl h2
     ·exact .inr ⟨j,by omega,h3⟩
   ·have:mF (ops.toList.zip rs) 0 (fun j=>decide (j<k+1)) m0 b=mF (ops.toList.zip rs) 0 (fun j=>decide (j<k)) m0 b:=mF_at rfl fun j o' r' hj hb'=>by
     have:j≠k:=fun e=>by subst e;rw [hk] at hj;simp at hj;rw [hj.2] at hd;exact hd hb'
     simp only [Nat.zero_add,decide_eq_decide]
     omega
    rw [this] at hb
    rcases ih b hb with h1|⟨j,h1,h2⟩
    ·exact .inl h1
    ·exact .inr ⟨j,by omega,h2⟩
theorem anc_listed {listed:Array Bool} (hdown:∀ j o,ops[j]?=some o→listed.getD j false=true→∀ e∈o.after,Region.binds .any e=true→listed.getD e.on false=true) {i j:Nat} (h:Anc ops i j) :
  (listed.getD j false=true∨∃ o,ops[j]?=some o∧∀ e∈o.after,Region.binds .any e=true→listed.getD e.on false=true)→listed.getD i false=true:=by
 induction h with
 | edge ho he hb hi =>
  subst hi
  intro hh
  rcases hh with hh|⟨o',ho',hall⟩
  ·exact hdown _ _ ho hh _ he hb
  ·rw [ho] at ho';simp at ho';subst ho';exact hall _ he hb
 | trans ho he hb _ ih =>
  intro hh
  refine ih (.inl ?_)
  rcases hh with hh|⟨o',ho',hall⟩
  ·exact hdown _ _ ho hh _ he hb
  ·rw [ho] at ho';simp at ho';subst ho';exact hall _ he hb
theorem run_any {w0:World} {bl:Bk} {Q:Exit→Act→World→Prop} (hX:XOK P X) (hO:Ord X ops) (hrecs:Recs (Types P) X ops N base ops.toList 0 g0 m0 rs g' m') (hm0:∀ b,m0 b≠.dead→b<base)
  (hq:∀ E a w,SatF N w0 bl E a w g' m'→(∀ b,E.alive b→b<base+16*ops.size)→Q .normal a w) :
  ∀ (fuel:Nat) (listed:Array Bool) (E:Env) (a:Act) (w:World),listed.size=ops.size→(List.range ops.size).countP (fun j=>!(listed.getD j false))≤fuel →
   (∀ j o,ops[j]?=some o→listed.getD j false=true→∀ e∈o.after,Region.binds .any e=true→listed.getD e.on false=true) →
   SatF N w0 bl E a w (gF (ops.toList.zip rs) 0 (fun j=>listed.getD j false) g0) (mF (ops.toList.zip rs) 0 (fun j=>listed.getD j false) m0) →
   (∀ b,E.alive b→b<base∨∃ j,listed.getD j false=true∧base+16*j≤b∧b<base+16*j+16)→wpAny P .any ops Q fuel listed a w:=by
 obtain ⟨hlen,hg',hm',hz⟩:=recs_at hrecs
 have hzl:(ops.toList.zip rs).length=ops.size:=by simp [hlen]
 have hzget:∀ j o,ops[j]?=some o→∃ r,(ops.toList.zip rs)[j]?=some (o,r):=fun j o ho=>by
  have hj:j<ops.size:=(Array.getElem?_eq_some_iff.1 ho).1
  have:j<(ops.toList.zip rs).length:=by omega
  refine ⟨rs[j]'(by rw [hlen];simpa using hj),?_⟩
  rw [List.getElem?_eq_getElem this,List.getElem_zip]
  congr 2
  have:=(Array.getElem?_eq_some_iff.1 ho).2
  simpa using this
 have hzop:∀ {j o r},(ops.toList.zip rs)[j]?=some (o,r)→ops[j]?=some o:=fun {j o r} h=>by
  have h1:=(List.getElem?_eq_some_iff.1 h).2
  have hj:=(List.getElem?_eq_some_iff.1 h).1
  rw [List.getElem_zip] at h1
  simp only [Prod.mk.injEq] at h1
  have hj':j<ops.size:=by omega
  rw [Array.getElem?_eq_getElem hj']
  congr 1
  simpa using h1.1
 have done:∀ (listed:Array Bool) (E:Env) (a:Act) (w:World),(∀ j,j<ops.size→listed.getD j false=true)→SatF N w0 bl E a w (gF (ops.toList.zip rs) 0 (fun j=>listed.getD j false) g0) (mF (ops.toList.zip rs) 0 (fun j=>listed.getD j false) m0) →
   (∀ b,E.alive b→b<base∨∃ j,listed.getD j false=true∧base+16*j≤b∧b<base+16*j+16)→listed.size=ops.size→Q .normal a w:=fun listed E a w hall hs hal hsz=>by
  have e1:gF (ops.toList.zip rs) 0 (fun j=>listed.getD j false) g0=g':=by
   rw [hg']
   funext t
   exact gF_at rfl fun j o r hj _=>by
    simp only [Nat.zero_add]
    exact hall j (by have:=(List.getElem?_eq_some_iff.1 hj).1;omega)
  have e2:mF (ops.toList.zip rs) 0 (fun j=>listed.getD j false) m0=m':=by
   rw [hm']
   funext t
   exact mF_at rfl fun j o r hj _=>by
    simp only [Nat.zero_add]
    exact hall j (by have:=(List.getElem?_eq_some_iff.1 hj).1;omega)
  rw [e1,e2] at hs
  refine hq E a w hs fun b hb=>?_
  rcases hal b hb with h1|⟨j,h1,h2,h3⟩
  ·omega
  ·have:j<ops.size:=by
    rw [← hsz]
    by_cases hj:j<listed.size
    ·exact hj
    ·rw [Array.getD_eq_getD_getElem?,Array.getElem?_eq_none (by omega)] at h1;simp at h1
   omega
 intro fuel
 induction fuel with
 | zero =>
  intro listed E a w hsz hcnt hdown hs hal
  have hall:∀ j,j<ops.size→listed.getD j false=true:=fun j hj=>by
   have h0:(List.range ops.size).countP (fun j=>!(listed.getD j false))=0:=by omega
   have:=List.countP_eq_zero.1 h0 j (List.mem_range.2 hj)
   simpa using this
  refine ⟨?_,done listed E a w hall hs hal hsz⟩
  apply List.eq_nil_iff_forall_not_mem.2
  intro j hj
  obtain ⟨h1,o,ho,_⟩:=mem_ready.1 hj
  have hj':j<ops.size:=(Array.getElem?_eq_some_iff.1 ho).1
  have h2:=hall j hj'
  rw [Array.getD_eq_getD_getElem?,Array.getElem?_eq_getElem (by omega)] at h1 h2
  simp at h1 h2
  rw [h1] at h2
  simp at h2
 | succ fuel ih =>
  intro listed E a w hsz hcnt hdown hs hal
  refine ⟨fun hnil=>?_,fun i hi=>?_⟩
  ·refine done listed E a w ?_ hs hal hsz
   intro j
   induction j using Nat.strongRecOn with
   | _ j ihj =>
    intro hj
    cases hl:listed.getD j false with
    | true=>rfl
    | false =>
     exfalso
     have ho:ops[j]?=some ops[j]:=Array.getElem?_eq_getElem hj
     have:j∈Region.ready .any ops listed:=mem_ready.2 ⟨?_,_,ho,fun e he hb=>?_⟩
     ·rw [hnil] at this;simp at this
     ·rw [Array.getD_eq_getD_getElem?,Array.getElem?_eq_getElem (by omega)] at hl ⊢
      simpa using hl
     ·have hlt:=hO.back j _ ho e he hb
      exact ihj e.on hlt (by omega)
  ·obtain ⟨hi0,o,ho,hdeps⟩:=mem_ready.1 hi
   have hilt:i<ops.size:=(Array.getElem?_eq_some_iff.1 ho).1
   have hLi:listed.getD i false=false:=by
    rw [Array.getD_eq_getD_getElem?,Array.getElem?_eq_getElem (by omega)] at hi0 ⊢
    simpa using hi0
   obtain ⟨r,hzi⟩:=hzget i o ho
   have hstep:=hz i o r hzi
   simp only [Nat.zero_add] at hstep
   have before:∀ {j},Anc ops j i→listed.getD j false=true:=fun h=>anc_listed hdown h (.inr ⟨o,ho,hdeps⟩)
   have behind:∀ {j},Anc ops i j→listed.getD j false=false:=fun {j} h=>by
    cases hj:listed.getD j false with
    | false=>rfl
    | true=>have:=anc_listed hdown h (.inl hj);rw [hLi] at this;simp at this
   have conf:∀ {j y},ops[j]?=some y→j≠i→(conflict X ops y o=true∧conflict X ops o y=true)→listed.getD j false=decide (j<i):=fun {j y} hy hne hc=>by
    rcases Nat.lt_or_gt_of_ne hne with hlt|hgt
    ·rw [before (hO.conf j i y o hy ho hlt hc.1)];simp [hlt]
    ·rw [behind (hO.conf i j o y ho hy hgt hc.2)];simp;omega
   have slotc:∀ {y:Oper} {t:Nat},y.dst=some t→(t∈o.looksAt ops∨o.dst=some t)→conflict X ops y o=true∧conflict X ops o y=true:=fun {y t} hy ht=>by
    have h1:Oper.apart ops y o=false:=by
     cases hap:Oper.apart ops y o with
     | false=>rfl
     | true =>
      obtain ⟨p1,p2,p3⟩:=Oper.apart_spec hap
      rcases ht with ht|ht
      ·exact absurd ht (p1 t hy)
      ·exact absurd ht (p2 t hy)
    have h2:Oper.apart ops o y=false:=by
     cases hap:Oper.apart ops o y with
     | false=>rfl
     | true =>
      obtain ⟨p1,p2,p3⟩:=Oper.apart_spec hap
      rcases ht with ht|ht
      ·exact absurd ht (p3 t hy)
      ·exact absurd hy (p2 t ht)
    simp [conflict,h1,h2]
   have memc:∀ {y:Oper},(opW X y.op=true∧opPure X o.op=false)∨(opW X o.op=true∧opPure X y.op=false)→conflict X ops y o=true∧conflict X ops o y=true:=fun {y} h=>by
    rcases h with ⟨h1,h2⟩|⟨h1,h2⟩<;>simp [conflict,h1,h2]
   have notpure:∀ {j:Nat} {y:Oper} {ry:Rec},(ops.toList.zip rs)[j]?=some (y,ry)→ry.2≠[]→opPure X y.op=false:=fun {j y ry} hj hne=>by
    cases hp:opPure X y.op with
    | false=>rfl
    | true=>exact absurd (stepRel_pure hp (hz j y ry hj)) hne
   have hgeq:∀ t∈o.looksAt ops,gF (ops.toList.zip rs) 0 (fun j=>decide (j<i)) g0 t=gF (ops.toList.zip rs) 0 (fun j=>listed.getD j false) g0 t:=fun t ht=>gF_at rfl fun j y ry hj hd=>by
    simp only [Nat.zero_add]
    by_cases hji:j=i
    ·subst hji;rw [hLi];simp
    ·exact (conf (hzop hj) hji (slotc hd (.inl ht))).symm
   have hlive:=live_of hX hz hm0 i
   have hmeq:opPure X o.op=false→∀ b,E.alive b→mF (ops.toList.zip rs) 0 (fun j=>decide (j<i)) m0 b≠.dead→mF (ops.toList.zip rs) 0 (fun j=>decide (j<i)) m0 b=mF (ops.toList.zip rs) 0 (fun j=>listed.getD j false) m0 b:=fun hp b hb hlv=>mF_at rfl fun j y ry hj hd=>by
    simp only [Nat.zero_add]
    by_cases hji:j=i
    ·subst hji;rw [hLi];simp
    ·have hry:ry.2≠[]:=fun e=>by rw [e] at hd;simp at hd
     cases hwy:opW X y.op with
     | true=>exact (conf (hzop hj) hji (memc (.inl ⟨hwy,hp⟩))).symm
     | false =>
      rcases stepRel_dom hX (hz j y ry hj) b hd with h1|⟨h1,_⟩
      ·simp only [Nat.zero_add] at h1
       have hLj:listed.getD j false=true:=by
        rcases hal b hb with h2|⟨k,h2,h3,h4⟩
        ·omega
        ·have:k=j:=by omega
         subst this;exact h2
       have hji2:j<i:=by
        rcases hlive b hlv with h2|⟨k,h2,h3,h4,_⟩
        ·omega
        ·have:k=j:=by omega
         subst this;exact h2
       rw [hLj];simp [hji2]
      ·rw [hwy] at h1;simp at h1
   have hst:∃ mm,stepRel (Types P) X ops N o (gF (ops.toList.zip rs) 0 (fun j=>listed.getD j false) g0) mm (base+16*i) r∧MemOK E w mm:=by
    cases hp:opPure X o.op with
    | true=>exact ⟨_,stepRel_congr hstep hgeq (.inr hp),hs.mem⟩
    | false =>
     refine ⟨_,stepRel_congr hstep hgeq (.inl rfl),fun b hb=>?_⟩
     by_cases hlv:mF (ops.toList.zip rs) 0 (fun j=>decide (j<i)) m0 b=.dead
     ·rw [hlv];trivial
     ·rw [hmeq hp b hb hlv];exact hs.mem b hb
   obtain ⟨mm,hst1,hst2⟩:=hst
   have hs':SatF N w0 bl E a w (gF (ops.toList.zip rs) 0 (fun j=>listed.getD j false) g0) mm:=⟨hs.defers,hs.size,hs.inv,hst2,hs.slots⟩
   have hfree:∀ k,base+16*i≤k→k<base+16*i+16→¬ E.alive k:=fun k h1 h2 h3=>by
    rcases hal k h3 with h4|⟨j,h4,h5,h6⟩
    ·omega
    ·have:j=i:=by omega
     subst this;rw [hLi] at h4;simp at h4
   have hset:∀ j,(listed.setIfInBounds i true).getD j false=if i=j then true else listed.getD j false:=fun j=>by
    by_cases e:i=j
    ·subst e;simp [Array.getD_eq_getD_getElem?,hsz,hilt]
    ·simp [Array.getD_eq_getD_getElem?,Array.getElem?_setIfInBounds_ne e,e]
   have hgnew:gF (ops.toList.zip rs) 0 (fun j=>(listed.setIfInBounds i true).getD j false) g0=putF (gF (ops.toList.zip rs) 0 (fun j=>listed.getD j false) g0) o.dst r.1:=by
    funext t
    by_cases hd:o.dst=some t
    ·rw [putF,if_pos hd]
     refine gF_last hzi (by simp [hset]) hd fun j y ry hij hj hyd=>?_
     simp only [Nat.zero_add,hset]
     rw [if_neg (by omega)]
     have:=conf (hzop hj) (by omega) (slotc hyd (.inr hd))
     rw [this];simp;omega
    ·rw [putF,if_neg hd]
     refine gF_at rfl fun j y ry hj hyd=>?_
     simp only [Nat.zero_add,hset]
     rw [if_neg fun e=>?_]
     subst e
     rw [hzi] at hj
     simp only [Option.some.injEq,Prod.mk.injEq] at hj
     rw [hj.1] at hd
     exact hd hyd
   have hmnew:mF (ops.toList.zip rs) 0 (fun j=>(listed.setIfInBounds i true).getD j false) m0=updM (mF (ops.toList.zip rs) 0 (fun j=>listed.getD j false) m0) r.2:=by
    funext b
    by_cases hd:b∈r.2.map (·.1)
    ·refine mF_last hzi (by simp [hset]) hd (fun j y ry hij hj hyd=>?_) _
     simp only [Nat.zero_add,hset]
     rw [if_neg (by omega)]
     have hr0:r.2≠[]:=fun e=>by rw [e] at hd;simp at hd
     have hry:ry.2≠[]:=fun e=>by rw [e] at hyd;simp at hyd
     by_cases hw:opW X o.op=true∨opW X y.op=true
     ·have hc:=memc (y:=y) (hw.elim (fun h=>.inr ⟨h,notpure hj hry⟩) fun h=>.inl ⟨h,notpure hzi hr0⟩)
      rw [conf (hzop hj) (by omega) hc];simp;omega
     ·rcases stepRel_dom hX (hz i o r hzi) b hd with h1|⟨h1,_⟩
      ·rcases stepRel_dom hX (hz j y ry hj) b hyd with h2|⟨h2,_⟩
       ·omega
       ·exact absurd (.inr h2) hw
      ·exact absurd (.inl h1) hw
    ·rw [updM_not hd]
     refine mF_at rfl fun j y ry hj hyd=>?_
     simp only [Nat.zero_add,hset]
     rw [if_neg fun e=>?_]
     subst e
     rw [hzi] at hj
     simp only [Option.some.injEq,Prod.mk.injEq] at hj
     rw [hj.2] at hd
     exact hd hyd
   have key:=step_wp hX (Q:=Q) (next:=wpAny P .any ops Q fuel (listed.setIfInBounds i true)) hs' hst1 hfree fun E' a' w' st hs2=>by
    refine ih _ E' a' w' (by simp [hsz]) ?_ ?_ ?_ ?_
    ·have:(List.range ops.size).countP (fun j=>!((listed.setIfInBounds i true).getD j false))<(List.range ops.size).countP (fun j=>!(listed.getD j false)):=by
      refine countP_lt (fun x hx=>?_) ⟨i,List.mem_range.2 hilt,by simp [hLi],by simp [hset]⟩
      rw [hset] at hx
      split at hx
      ·simp at hx
      ·exact hx
     omega
    ·intro j y hy hj e he hb
     rw [hset] at hj ⊢
     split
     ·rfl
     ·split at hj
      ·rename_i hij;subst hij;rw [ho] at hy;simp at hy;subst hy;exact hdeps e he hb
      ·exact hdown j y hy hj e he hb
    ·rw [hgnew,hmnew]
     exact ⟨hs2.defers,hs2.size,hs2.inv,st.mem hs.inv hs.mem,hs2.slots⟩
    ·intro b hb
     rcases st.alive b hb with h1|h1
     ·rcases hal b h1 with h2|⟨j,h2,h3⟩
      ·exact .inl h2
      ·exact .inr ⟨j,by rw [hset,h2];simp,h3⟩
     ·rcases stepRel_dom hX hstep b h1 with h2|⟨h2,h3⟩
      ·exact .inr ⟨i,by simp [hset],h2.1,h2.2⟩
      ·rcases hlive b h3 with h4|⟨j,h4,h5,h6,y,ry,h7,h8⟩
       ·exact .inl h4
       ·refine .inr ⟨j,?_,h5,h6⟩
        rw [hset,before (hO.conf j i y o (hzop h7) ho h4 (memc (.inr ⟨h2,notpure h7 h8⟩)).1)]
        simp
   unfold wpOp
   simp only [ho]
   split
   ·rename_i hw;rw [if_pos hw] at key;exact .inl key
   ·rename_i hw;rw [if_neg hw] at key;exact key
end
theorem region_drawn {P:Program} {X:AX} (hX:XOK P X) (hmix:P.follows .mixedOrders=true) {id N:Nat} {ops:Array Oper} {w0:World} {bl:Bk} {a:Act} {w:World} {st st':St} {Q:Exit→Act→World→Prop}
  (hs:Sat N w0 bl a w st) (hO:ordB X ops=true) (hr:aregion (Types P) X N ops st=some st') (hq:∀ a' w',Sat N w0 bl a' w' st'→Q .normal a' w'):(Code.region id ops true).wp P Q a w:=by
 unfold aregion at hr
 cases hh:arun (Types P) X ops N st.nx ops.toList 0 st.s st.m<;>simp only [hh,reduceCtorEq,Option.some.injEq] at hr
 rename_i sm
 obtain ⟨s,m⟩:=sm
 obtain rfl:=hr
 obtain ⟨rs,hrs⟩:=recs_of_run hh
 obtain ⟨E,h1,h2,h3⟩:=hs
 have hinv:Inv w0 bl E { w with drawn:=w.drawn+1 }:=(StepTo.refl (w':={ w with drawn:=w.drawn+1 }) h1.inv rfl rfl rfl).inv
 have hs1:SatF N w0 bl E a { w with drawn:=w.drawn+1 } (getS st.s) (getM st.m) :=
  ⟨h1.defers,h1.size,hinv,fun b hb=>ObjRep.mono (w:=w) (w':={ w with drawn:=w.drawn+1 }) (Env.Le.refl E) (fun _ _=>rfl) rfl rfl (fun _ _ _ _=>rfl) (h1.mem b hb),fun t=>Rep.mono (w:=w) (w':={ w with drawn:=w.drawn+1 }) (Env.Le.refl E) (fun _ _=>rfl) (h1.slots t)⟩
 have hlist:∀ j,(Array.replicate ops.size false).getD j false=false:=fun j=>by
  rw [Array.getD_eq_getD_getElem?,Array.getElem?_replicate]
  split<;>rfl
 have hfin:∀ k,getM m k≠.dead→k<st.nx+16*ops.size:=fun k hk=>by
  obtain ⟨hlen,hg',hm',hz⟩:=recs_at hrs
  rw [hm'] at hk
  have hk':mF (ops.toList.zip rs) 0 (fun j=>decide (j<ops.size)) (getM st.m) k≠.dead:=by
   rwa [mF_at (L':=fun _=>true) rfl fun j o r hj _=>by
    have:=(List.getElem?_eq_some_iff.1 hj).1
    simp at this
    simp;omega]
  rcases live_of hX hz h3 ops.size k hk' with h4|⟨j,h4,h5,h6,_⟩
  ·omega
  ·omega
 refine wp_region_any hmix (run_any hX (ord_of hO) hrs h3 (fun E' a' w' k1 k2=>hq a' w' ⟨E',k1,k2,hfin⟩) ops.size _ E a _ (by simp) ?_ (fun j o _ hj=>by rw [hlist] at hj;simp at hj) ?_ (fun b hb=>.inl (h2 b hb)))
 ·refine Nat.le_trans List.countP_le_length ?_
  simp
 ·rw [gF_none (fun j _=>hlist j),mF_none (fun j _=>hlist j)]
  exact hs1
end Go.AM
