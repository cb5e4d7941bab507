/- A part of the proof: what functions of the program compute, by abstract execution of their code. Its theorems hold without further condition. -/
import Derived.Test.YtcfhmdljeeppfaaGreatSAmI
import Derived.Orders
set_option linter.all false
namespace Go.AM
open Go
structure St where
 s:List (Nat×AV)
 m:List (Nat×AO)
 nx:Nat
def putS (l:List (Nat×AV)) (dst:Option Nat) (a:AV):List (Nat×AV) :=
 match dst with
 | some d=>(d,a)::l
 | none=>l
def updL (M:List (Nat×AO)):List (Nat×AO)→List (Nat×AO)
 | []=>M
 | (b,o)::r=>setM (updL M r) b o
theorem getM_updL (M:List (Nat×AO)) (u:List (Nat×AO)):getM (updL M u)=updM (getM M) u:=by
 funext k
 induction u with
 | nil=>rfl
 | cons x r ih =>
  obtain ⟨b,o⟩:=x
  simp only [updL,getM_setM,updM,ih]
def aEvF (g:Nat→AV):Operand→AV
 | .tmp t=>g t
 | .const v=>.v v
 | .func f=>.fn f []
 | .global _=>.any
theorem aEv_eq (l:List (Nat×AV)):aEv l=aEvF (getS l):=by
 funext x
 cases x<;>rfl
def dstOK (N:Nat) (o:Oper):Bool:=match o.dst with|some d=>decide (d<N)|none=>true
abbrev AV.u:AV:=.v (.tuple #[])
def yV:AV→Option (Option Bool)
 | .v (.bool b)=>some (some b)
 | .v _=>some none
 | _=>none
theorem yV_bool {a:AV} {b:Bool} (h:yV a=some (some b)):a=.v (.bool b):=by
 unfold yV at h
 split at h<;>simp only [Option.some.injEq,reduceCtorEq] at h
 subst h;rfl
def arun (T:TypeId→Option TD) (X:AX) (ops:Array Oper) (N base:Nat):List Oper→Nat→List (Nat×AV)→List (Nat×AO)→Option (List (Nat×AV)×List (Nat×AO))
 | [],_,l,M=>some (l,M)
 | o::r,i,l,M =>
  if dstOK N o=true then
   match o.guard with
   | none=>match astep T X o.op (aEv l) (getM M) (base+16*i) with
    | some (av,u)=>arun T X ops N base r (i+1) (putS l o.dst av) (updL M u)
    | none=>none
   | some (j,want)=>match (ops[j]?).bind (·.dst) with
    | some d=>match yV (getS l d) with
     | some (some b) =>
      if b=want then
       match astep T X o.op (aEv ((d,.v (.bool want))::l)) (getM M) (base+16*i) with
       | some (av,u)=>arun T X ops N base r (i+1) (putS ((d,.v (.bool want))::l) o.dst av) (updL M u)
       | none=>none
      else arun T X ops N base r (i+1) (putS ((d,.v (.bool (!want)))::l) o.dst .u) M
     | some none=>arun T X ops N base r (i+1) (putS l o.dst .u) M
     | none=>none
    | none=>none
  else none
def stepRel (T:TypeId→Option TD) (X:AX) (ops:Array Oper) (N:Nat) (o:Oper) (g:Nat→AV) (m:Nat→AO) (nid:Nat) (r:AV×List (Nat×AO)):Prop :=
 dstOK N o=true∧match o.guard with
 | none=>astep T X o.op (aEvF g) m nid=some r
 | some (j,want)=>∃ d b,(ops[j]?).bind (·.dst)=some d∧yV (g d)=some b∧(if b=some want then astep T X o.op (aEvF g) m nid=some r else r=(.u,[]))
def putF (g:Nat→AV) (dst:Option Nat) (a:AV) (t:Nat):AV:=if dst=some t then a else g t
theorem getS_putS (l:List (Nat×AV)) (dst:Option Nat) (a:AV):getS (putS l dst a)=putF (getS l) dst a:=by
 funext t
 cases dst with
 | none=>simp [putS,putF]
 | some d=>simp [putS,putF,getS]
theorem getS_same (l:List (Nat×AV)) (d:Nat) (a:AV) (h:getS l d=a):getS ((d,a)::l)=getS l:=by
 funext t
 simp only [getS]
 split
 ·rename_i e;subst e;exact h.symm
 ·rfl
def Recs (T:TypeId→Option TD) (X:AX) (ops:Array Oper) (N base:Nat):List Oper→Nat→(Nat→AV)→(Nat→AO)→List (AV×List (Nat×AO))→(Nat→AV)→(Nat→AO)→Prop
 | [],_,g,m,[],g',m'=>g'=g∧m'=m
 | o::ol,i,g,m,r::rs,g',m'=>stepRel T X ops N o g m (base+16*i) r∧Recs T X ops N base ol (i+1) (putF g o.dst r.1) (updM m r.2) rs g' m'
 | _,_,_,_,_,_,_=>False
theorem recs_of_run {T:TypeId→Option TD} {X:AX} {ops:Array Oper} {N base:Nat}:∀ {ol:List Oper} {i:Nat} {l l':List (Nat×AV)} {M M':List (Nat×AO)},arun T X ops N base ol i l M=some (l',M') →
  ∃ rs,Recs T X ops N base ol i (getS l) (getM M) rs (getS l') (getM M')
 | [],i,l,l',M,M',h=>by
  simp only [arun,Option.some.injEq,Prod.mk.injEq] at h
  obtain ⟨rfl,rfl⟩:=h
  exact ⟨[],rfl,rfl⟩
 | o::ol,i,l,l',M,M',h=>by
  simp only [arun] at h
  split at h
  case isFalse=>simp at h
  rename_i hd
  cases hg:o.guard with
  | none =>
   simp only [hg] at h
   cases hs:astep T X o.op (aEv l) (getM M) (base+16*i)<;>simp only [hs,reduceCtorEq] at h
   rename_i r
   obtain ⟨av,u⟩:=r
   obtain ⟨rs,hrs⟩:=recs_of_run h
   refine ⟨(av,u)::rs,?_⟩
   simp only [Recs,stepRel,hg,hd,true_and]
   rw [getS_putS,getM_updL] at hrs
   exact ⟨by rw [← aEv_eq];exact hs,hrs⟩
  | some jw =>
   obtain ⟨j,want⟩:=jw
   simp only [hg] at h
   cases hdj:(ops[j]?).bind (·.dst)<;>simp only [hdj,reduceCtorEq] at h
   rename_i d
   cases hy:yV (getS l d)<;>simp only [hy,reduceCtorEq] at h
   rename_i y
   cases y with
   | none =>
    simp only at h
    obtain ⟨rs,hrs⟩:=recs_of_run h
    refine ⟨(.u,[])::rs,?_⟩
    simp only [Recs,stepRel,hg,hd,true_and]
    rw [getS_putS] at hrs
    exact ⟨⟨d,none,hdj,hy,by simp⟩,hrs⟩
   | some b =>
   simp only at h
   have hgd:=yV_bool hy
   split at h
   ·rename_i hb
    subst hb
    have hsame:=getS_same l d _ hgd
    cases hs:astep T X o.op (aEv ((d,.v (.bool b))::l)) (getM M) (base+16*i)<;>simp only [hs,reduceCtorEq] at h
    rename_i r
    obtain ⟨av,u⟩:=r
    obtain ⟨rs,hrs⟩:=recs_of_run h
    refine ⟨(av,u)::rs,?_⟩
    simp only [Recs,stepRel,hg,hd,true_and]
    rw [getS_putS,getM_updL,hsame] at hrs
    rw [aEv_eq,hsame] at hs
    exact ⟨⟨d,some b,hdj,hy,by rw [if_pos rfl];exact hs⟩,hrs⟩
   ·rename_i hb
    have hnb:(!want)=b:=by cases b<;>cases want<;>simp at hb ⊢
    rw [hnb] at h
    have hsame:=getS_same l d _ hgd
    obtain ⟨rs,hrs⟩:=recs_of_run h
    refine ⟨(.u,[])::rs,?_⟩
    simp only [Recs,stepRel,hg,hd,true_and]
    rw [getS_putS,hsame] at hrs
    exact ⟨⟨d,some b,hdj,hy,by rw [if_neg (by simpa using hb)];trivial⟩,hrs⟩
structure SatF (N:Nat) (w0:World) (bl:Bk) (E:Env) (a:Act) (w:World) (g:Nat→AV) (m:Nat→AO):Prop where
 defers:a.defers=[]
 size:a.tmps.size=N
 inv:Inv w0 bl E w
 mem:MemOK E w m
 slots:∀ t,Rep E w (g t) (a.tmps.getD t undef)
theorem SatF.eval {N:Nat} {w0:World} {bl:Bk} {E:Env} {a:Act} {w:World} {g:Nat→AV} {m:Nat→AO} (h:SatF N w0 bl E a w g m) (x:Operand):Rep E w (aEvF g x) (a.eval x):=by
 cases x with
 | tmp t=>exact h.slots t
 | const v=>simp [aEvF,Act.eval,Rep,CRep]
 | global g=>simp [aEvF,Rep,CRep]
 | func f=>simp only [aEvF,Act.eval,Rep];exact ⟨[],rfl,by simp [RepL]⟩
theorem SatF.put {N:Nat} {w0:World} {bl:Bk} {E E':Env} {a:Act} {w w':World} {g:Nat→AV} {m:Nat→AO} {u:List (Nat×AO)} (h:SatF N w0 bl E a w g m) (st:StepTo w0 bl E w u E' w') {o:Oper} (hd:dstOK N o=true) {av:AV} {x:Value}
  (hx:Rep E' w' av x):SatF N w0 bl E' (a.put o.dst x) w' (putF g o.dst av) (updM m u) where
 defers:=by cases hh:o.dst<;>simp [Act.put,h.defers]
 size:=by cases hh:o.dst<;>simp [Act.put,h.size]
 inv:=st.inv
 mem:=st.mem h.inv h.mem
 slots:=fun t=>by
  cases hh:o.dst with
  | none =>
   simp only [Act.put,putF,reduceCtorEq,if_false]
   exact st.rep h.inv (h.slots t)
  | some d =>
   simp only [dstOK,hh,decide_eq_true_eq] at hd
   simp only [Act.put,putF,Option.some.injEq]
   by_cases e:d=t
   ·subst e
    rw [if_pos rfl]
    have:(a.tmps.setIfInBounds d x).getD d undef=x:=by
     simp [Array.getD_eq_getD_getElem?,h.size,hd]
    rw [this]
    exact hx
   ·rw [if_neg e]
    have:(a.tmps.setIfInBounds d x).getD t undef=a.tmps.getD t undef:=by
     simp [Array.getD_eq_getD_getElem?,Array.getElem?_setIfInBounds_ne e]
    rw [this]
    exact st.rep h.inv (h.slots t)
theorem wanted_of {N:Nat} {w0:World} {bl:Bk} {E:Env} {a:Act} {w:World} {g:Nat→AV} {m:Nat→AO} (h:SatF N w0 bl E a w g m) {ops:Array Oper} {o:Oper} {j d:Nat} {want:Bool} {b:Option Bool} (hg:o.guard=some (j,want)) (hj:(ops[j]?).bind (·.dst)=some d) (hd:yV (g d)=some b) :
  Region.wanted o (yielded ops a.tmps)=(b == some want):=by
 have h1:=h.slots d
 have hv:∃ x,g d=.v x:=by
  cases hgd:g d<;>first|exact ⟨_,rfl⟩|(rw [hgd] at hd;simp [yV] at hd)
 obtain ⟨x,hx⟩:=hv
 rw [hx] at h1 hd
 simp only [Rep,CRep] at h1
 have h2:yielded ops a.tmps j=b:=by
  simp only [yielded,hj,Option.bind_some]
  rw [Array.getD_eq_getD_getElem?] at h1
  cases hh:a.tmps[d]? with
  | none =>
   rw [hh] at h1
   simp only [Option.getD_none,undef] at h1
   subst h1
   simpa [yV] using hd
  | some y =>
   rw [hh] at h1
   simp only [Option.getD_some] at h1
   subst h1
   unfold yV at hd
   split at hd
   ·rename_i heq;simp only [AV.v.injEq] at heq;subst heq;simpa using hd
   ·rename_i hne heq
    simp only [AV.v.injEq] at heq
    subst heq
    simp only [Option.some.injEq] at hd
    subst hd
    split
    ·rename_i b' heq
     simp only [Option.some.injEq] at heq
     exact absurd heq (hne b')
    ·rfl
   ·simp at hd
 simp only [Region.wanted,hg,h2]
theorem step_wp {P:Program} {X:AX} (hX:XOK P X) {ops:Array Oper} {N:Nat} {w0:World} {bl:Bk} {E:Env} {a:Act} {w:World} {g:Nat→AV} {m:Nat→AO} {o:Oper} {nid:Nat} {r:AV×List (Nat×AO)} {next:Act→World→Prop} {Q:Exit→Act→World→Prop}
  (h:SatF N w0 bl E a w g m) (hs:stepRel (Types P) X ops N o g m nid r) (hnid:∀ k,nid≤k→k<nid+16→¬ E.alive k)
  (hn:∀ E' a' w',StepTo w0 bl E w r.2 E' w'→SatF N w0 bl E' a' w' (putF g o.dst r.1) (updM m r.2)→next a' w') :
  if Region.wanted o (yielded ops a.tmps) then o.wp P a w next Q else next (a.put o.dst undef) w:=by
 obtain ⟨hd,hs⟩:=hs
 have hexec:astep (Types P) X o.op (aEvF g) m nid=some r→o.wp P a w next Q:=fun he=>by
  obtain ⟨av,u⟩:=r
  exact op_sound hX he h.eval h.mem h.inv hnid fun x E' w' st hx=>hn E' _ w' st (h.put st hd hx)
 cases hg:o.guard with
 | none =>
  simp only [hg] at hs
  rw [if_pos (by simp [Region.wanted,hg])]
  exact hexec hs
 | some jw =>
  obtain ⟨j,want⟩:=jw
  simp only [hg] at hs
  obtain ⟨d,b,h1,h2,h3⟩:=hs
  rw [wanted_of h hg h1 h2]
  by_cases hb:b=some want
  ·rw [if_pos hb] at h3
   rw [if_pos (by simp [hb])]
   exact hexec h3
  ·rw [if_neg hb] at h3
   subst h3
   rw [if_neg (by simp [hb])]
   have st:StepTo w0 bl E w [] E w:=StepTo.refl h.inv rfl rfl rfl
   exact hn E _ w st (h.put st hd (by simp [Rep,CRep,undef]))
def opW (X:AX):Op→Bool
 | .store ..|.mapUpdate ..=>true
 | .call c=>match c.callee with
  | .value (.func f)=>X.writes f
  | .value _=>X.anyW
  | .builtin .append|.builtin .copy|.builtin .clear|.builtin .delete=>true
  | _=>false
 | _=>false
def opPure (X:AX):Op→Bool
 | .move _|.assign _|.pick ..|.extract ..|.nilCheck _|.binOp ..|.unOp ..|.convert ..|.build ..|.fieldAddr ..|.field ..|.indexAddr ..|.index ..|.slice _ _ _ none _|.makeFunc ..=>true
 | .call c=>match c.callee with
  | .builtin .len=>match c.argTypes.toList with
   | t::_=>!X.writes (1000000+t)
   | []=>true
  | .builtin .min|.builtin .max=>true
  | _=>false
 | _=>false
theorem pureR_upd {a:Option AV} {r:AV×List (Nat×AO)} (h:pureR a=some r):r.2=[]:=by
 obtain ⟨av,u⟩:=r
 exact (pureR_some h).2
theorem aAppend_dom {T:TypeId→Option TD} {M:Nat→AO} {nid:Nat} {st xt:TypeId} {s x:AV} {r:AV×List (Nat×AO)} (h:aAppend T M nid st xt s x=some r):∀ b∈r.2.map (·.1),b=nid∨M b≠.dead:=by
 unfold aAppend at h
 cases hst:T st<;>simp only [hst,reduceCtorEq] at h
 rename_i ds
 cases hxt:T xt<;>simp only [hxt,reduceCtorEq] at h
 rename_i dx
 cases hks:ds.k<;>simp only [hks,reduceCtorEq] at h
 rename_i e
 cases hkx:dx.k<;>simp only [hkx,reduceCtorEq] at h
 cases he:T e<;>simp only [he,reduceCtorEq] at h
 rename_i de
 cases hro:aRows M de.size s<;>simp only [hro,reduceCtorEq] at h
 cases hrn:aRows M de.size x<;>simp only [hrn,reduceCtorEq] at h
 split at h
 case isFalse=>simp at h
 cases s<;>(try simp only [reduceCtorEq] at h)
 ·split at h
  ·rename_i heq;simp at heq
  ·simp only [Option.some.injEq] at h;subst h;intro b hb;simp at hb;exact .inl hb
  ·simp at h
 ·obtain ⟨f,xs,h1,_⟩:=aRows_sl hro
  simp only [h1] at h
  split at h
  ·split at h
   ·simp only [Option.some.injEq] at h;subst h;intro b hb;simp at hb;subst hb;exact .inr (by rw [h1];simp)
   ·split at h
    ·simp only [Option.some.injEq] at h;subst h;intro b hb;simp at hb;exact .inl hb
    ·simp only [Option.some.injEq] at h;subst h;intro b hb;simp at hb;subst hb;exact .inr (by rw [h1];simp)
  ·simp only [Option.some.injEq] at h;subst h;intro b hb;simp at hb;subst hb;exact .inr (by rw [h1];simp)
theorem aApp_dom {T:TypeId→Option TD} {M:Nat→AO} {nid:Nat} {st xt:TypeId} {s x:AV} {r:AV×List (Nat×AO)} (h:aApp T M nid st xt s x=some r):∀ b∈r.2.map (·.1),b=nid∨M b≠.dead:=by
 unfold aApp at h
 cases hxt:T xt<;>simp only [hxt,reduceCtorEq] at h
 rename_i dx
 cases hk:dx.k<;>simp only [hk] at h
 case int ik=>exact fun b hb=>.inl (aAppendZ_dom h b hb)
 all_goals exact aAppend_dom h
theorem aCopy_dom {T:TypeId→Option TD} {M:Nat→AO} {t:TypeId} {x y:AV} {r:AV×List (Nat×AO)} (h:aCopy T M t x y=some r):∀ b∈r.2.map (·.1),M b≠.dead:=by
 unfold aCopy at h
 cases ht:T t<;>simp only [ht,reduceCtorEq] at h
 rename_i d
 cases hk:d.k<;>simp only [hk,reduceCtorEq] at h
 rename_i e
 cases he:T e<;>simp only [he,reduceCtorEq] at h
 cases x<;>simp only [reduceCtorEq] at h
 rename_i b m s o n
 cases hMb:M b<;>simp only [hMb,reduceCtorEq] at h
 rename_i m' s' f xs
 cases hr:aRows M s y<;>simp only [hr,reduceCtorEq] at h
 split at h
 case isFalse=>simp at h
 simp only [Option.some.injEq] at h
 subst h
 intro k hk
 simp at hk
 subst hk
 rw [hMb];simp
theorem aClear_dom {T:TypeId→Option TD} {M:Nat→AO} {t:TypeId} {x:AV} {r:AV×List (Nat×AO)} (h:aClear T M t x=some r):∀ b∈r.2.map (·.1),M b≠.dead:=by
 unfold aClear at h
 cases ht:T t<;>simp only [ht,reduceCtorEq] at h
 rename_i d
 cases hk:d.k<;>simp only [hk,reduceCtorEq] at h
 rename_i e
 cases he:T e<;>simp only [he,reduceCtorEq] at h
 cases x<;>simp only [reduceCtorEq] at h
 rename_i b m s o n
 cases hMb:M b<;>simp only [hMb,reduceCtorEq] at h
 rename_i m' s' f xs
 split at h
 case isFalse=>simp at h
 simp only [Option.some.injEq] at h
 subst h
 intro k hk
 simp at hk
 subst hk
 rw [hMb];simp
theorem aMapSet_dom {T:TypeId→Option TD} {X:AX} {M:Nat→AO} {t:TypeId} {x i y:AV} {u:List (Nat×AO)} (h:aMapSet T X M t x i y=some u):∀ b∈u.map (·.1),M b≠.dead:=by
 unfold aMapSet at h
 split at h
 ·split at h
  ·split at h
   ·rename_i hb
    split at h
    ·split at h<;>simp only [Option.some.injEq,reduceCtorEq] at h
     subst h
     intro k hk
     simp only [List.map_cons,List.map_nil,List.mem_singleton] at hk
     subst hk
     rw [hb];simp
    ·simp at h
   ·simp at h
  ·simp at h
 ·simp at h
theorem aMapDel_dom {T:TypeId→Option TD} {M:Nat→AO} {t:TypeId} {x i:AV} {u:List (Nat×AO)} (h:aMapDel T M t x i=some u):∀ b∈u.map (·.1),M b≠.dead:=by
 unfold aMapDel at h
 split at h
 ·split at h
  ·split at h
   ·rename_i hb
    split at h
    ·split at h<;>simp only [Option.some.injEq,reduceCtorEq] at h
     subst h
     intro k hk
     simp only [List.map_cons,List.map_nil,List.mem_singleton] at hk
     subst hk
     rw [hb];simp
    ·simp at h
   ·simp at h
  ·simp at h
 ·simp at h
theorem astep_dom {P:Program} {T:TypeId→Option TD} {X:AX} (hX:XOK P X) {op:Op} {g:Nat→AV} {M:Nat→AO} {nid:Nat} {r:AV×List (Nat×AO)} (h:astep T X op (aEvF g) M nid=some r) :
  ∀ b∈r.2.map (·.1),(nid≤b∧b<nid+16)∨(opW X op=true∧M b≠.dead):=by
 have none_:r.2=[]→∀ b∈r.2.map (·.1),(nid≤b∧b<nid+16)∨(opW X op=true∧M b≠.dead):=fun e=>by rw [e];simp
 have one_:∀ b o,r.2=[(b,o)]→b=nid→∀ b∈r.2.map (·.1),(nid≤b∧b<nid+16)∨(opW X op=true∧M b≠.dead):=fun b o e e'=>by
  rw [e];intro k hk;simp at hk;subst hk;exact .inl (by omega)
 cases op<;>simp only [astep,reduceCtorEq] at h
 case move x=>simp only [Option.some.injEq] at h;exact none_ (by rw [← h])
 case assign x=>simp only [Option.some.injEq] at h;exact none_ (by rw [← h])
 case pick c x y =>
  split at h<;>simp only [Option.some.injEq,reduceCtorEq] at h
  exact none_ (by rw [← h])
 case extract t i =>
  split at h
  ·split at h<;>simp only [Option.some.injEq,reduceCtorEq] at h
   exact none_ (by rw [← h])
  ·simp at h
 case nilCheck x =>
  split at h<;>simp only [Option.some.injEq,reduceCtorEq] at h
  all_goals exact none_ (by rw [← h])
 case binOp=>exact none_ (pureR_upd h)
 case unOp=>exact none_ (pureR_upd h)
 case convert=>exact none_ (pureR_upd h)
 case build=>exact none_ (pureR_upd h)
 case load=>exact none_ (pureR_upd h)
 case lookup=>exact none_ (pureR_upd h)
 case makeMap t r =>
  rename_i r0
  have h:aMakeMap T X nid t=some r0:=by
   cases r with
   | none=>exact h
   | some r =>
    simp only at h
    split at h
    ·exact h
    ·simp at h
  unfold aMakeMap at h
  split at h<;>simp only [Option.some.injEq,reduceCtorEq] at h
  exact one_ _ _ (by rw [← h]) rfl
 case mapUpdate t x i y =>
  cases hs:aMapSet T X M t (aEvF g x) (aEvF g i) (aEvF g y)<;>simp only [hs,Option.map_none,Option.map_some,reduceCtorEq,Option.some.injEq] at h
  rename_i u
  subst h
  exact fun b hb=>.inr ⟨rfl,aMapSet_dom hs b hb⟩
 case fieldAddr=>exact none_ (pureR_upd h)
 case field=>exact none_ (pureR_upd h)
 case indexAddr=>exact none_ (pureR_upd h)
 case index=>exact none_ (pureR_upd h)
 case slice t x lo hi mx =>
  cases mx with
  | none=>exact none_ (pureR_upd h)
  | some mx=>cases hi with
   | none=>simp at h
   | some hi=>exact none_ (pureR_upd h)
 case makeFunc fn first caps =>
  cases fn<;>simp only [reduceCtorEq] at h
  split at h<;>simp only [Option.some.injEq,reduceCtorEq] at h
  exact none_ (by rw [← h])
 case makeInterface t x =>
  split at h
  ·split at h<;>simp only [Option.some.injEq,reduceCtorEq] at h
   exact none_ (by rw [← h])
  ·simp at h
 case alloc t =>
  unfold aAlloc at h
  split at h
  ·split at h<;>simp only [Option.some.injEq,reduceCtorEq] at h
   exact one_ _ _ (by rw [← h];rfl) rfl
  ·simp at h
 case box t x =>
  unfold aBox at h
  split at h<;>simp only [Option.some.injEq,reduceCtorEq] at h
  exact one_ _ _ (by rw [← h];rfl) rfl
 case buildSlice t n parts =>
  unfold aBuildSlice at h
  cases ht:T t<;>simp only [ht,reduceCtorEq] at h
  rename_i d
  cases hk:d.k<;>simp only [hk,reduceCtorEq] at h
  rename_i e
  split at h
  ·split at h<;>simp only [Option.some.injEq,reduceCtorEq] at h
   exact one_ _ _ (by rw [← h]) rfl
  ·simp at h
 case makeSlice t l c =>
  unfold aMakeSlice at h
  split at h
  ·rename_i d _ _ _ _ _
   cases hk:d.k<;>simp only [hk,reduceCtorEq] at h
   split at h
   ·split at h<;>simp only [Option.some.injEq,reduceCtorEq] at h
    exact one_ _ _ (by rw [← h]) rfl
   ·simp at h
  ·simp at h
 case store t x y =>
  cases hs:aStore T M t (aEvF g x) (aEvF g y)<;>simp only [hs,Option.map_none,Option.map_some,reduceCtorEq,Option.some.injEq] at h
  rename_i u
  subst h
  unfold aStore at hs
  intro b hb
  refine .inr ⟨rfl,?_⟩
  split at hs
  ·split at hs
   ·split at hs
    ·split at hs
     ·rename_i hbox
      split at hs<;>simp only [Option.some.injEq,reduceCtorEq] at hs
      subst hs
      simp at hb
      subst hb
      rw [hbox];simp
     ·simp at hs
    ·split at hs
     ·rename_i hvec
      split at hs
      ·split at hs
       ·split at hs<;>simp only [Option.some.injEq,reduceCtorEq] at hs
        subst hs
        simp at hb
        subst hb
        rw [hvec];simp
       ·simp at hs
      ·simp at hs
     ·simp at hs
    ·simp at hs
   ·simp at hs
  ·simp at hs
 case call c =>
  unfold aCallOp at h
  obtain ⟨callee,args,argTypes⟩:=c
  cases callee<;>simp only [reduceCtorEq] at h
  case value f =>
   cases hev:aEvF g f<;>simp only [hev,reduceCtorEq] at h
   rename_i k caps
   intro b hb
   rcases hX.dom _ _ _ _ _ h b hb with h1|⟨h1,h2⟩
   ·exact .inl h1
   ·refine .inr ⟨?_,h2⟩
    cases f with
    | func f=>simp only [aEvF,AV.fn.injEq] at hev;simp only [opW];rw [hev.1];exact h1
    | tmp t=>exact hX.anyW k h1
    | const v=>exact hX.anyW k h1
    | global g=>exact hX.anyW k h1
  case builtin b =>
   split at h<;>(try (simp at h;done))
   ·exact none_ (pureR_upd h)
   ·intro b hb
    rcases aApp_dom h b hb with h1|h1
    ·exact .inl (by omega)
    ·exact .inr ⟨rfl,h1⟩
   ·exact none_ (pureR_upd h)
   ·exact fun b hb=>.inr ⟨rfl,aCopy_dom h b hb⟩
   ·exact fun b hb=>.inr ⟨rfl,aClear_dom h b hb⟩
   ·rename_i x y t u' _ _
    cases hs:aMapDel T M t (aEvF g x) (aEvF g y)<;>simp only [hs,Option.map_none,Option.map_some,reduceCtorEq,Option.some.injEq] at h
    rename_i u
    subst h
    exact fun b hb=>.inr ⟨rfl,aMapDel_dom hs b hb⟩
   ·exact none_ (pureR_upd h)
   ·exact none_ (pureR_upd h)
theorem astep_pure {T:TypeId→Option TD} {X:AX} {op:Op} {ev:Operand→AV} {M M':Nat→AO} {nid nid':Nat} (h:opPure X op=true):astep T X op ev M nid=astep T X op ev M' nid':=by
 cases op<;>simp only [opPure,Bool.false_eq_true] at h<;>try rfl
 case makeFunc fn first caps=>cases fn<;>rfl
 case slice t x lo hi mx =>
  cases hi with
  | some hi=>simp at h
  | none=>cases mx with
   | none =>
    simp only [astep,Option.map_none]
    rw [aSlice_none (M':=M')]
   | some mx=>rfl
 rename_i c
 obtain ⟨callee,args,argTypes⟩:=c
 cases callee<;>simp only [Bool.false_eq_true] at h
 rename_i b
 cases b<;>simp only [Bool.false_eq_true] at h
 case len =>
  simp only [astep,aCallOp]
  cases hl:argTypes.toList with
  | nil=>cases args.toList with
   | nil=>rfl
   | cons x r=>cases r<;>rfl
  | cons t ts =>
   simp only [hl,Bool.not_eq_true'] at h
   cases args.toList with
   | nil=>rfl
   | cons x r=>cases r with
    | nil =>
     show pureR (aLenX T X M t (ev x))=pureR (aLenX T X M' t (ev x))
     rw [aLenX_none h]
    | cons y r=>rfl
 all_goals
  simp only [astep,aCallOp]
  split<;>first|rfl|(rename_i hh _ _;cases hh)
theorem astep_congr {T:TypeId→Option TD} {X:AX} {op:Op} {ev ev':Operand→AV} {M:Nat→AO} {nid:Nat} (h:∀ x∈op.operands,ev x=ev' x):astep T X op ev M nid=astep T X op ev' M nid:=by
 have pairs:∀ ps:Array (Nat×Operand),(∀ x∈ps.toList.map (·.2),ev x=ev' x)→(ps.toList.map fun p=>(p.1,ev p.2))=(ps.toList.map fun p=>(p.1,ev' p.2)):=fun ps hp =>
  List.map_congr_left fun p hm=>by rw [hp p.2 (List.mem_map.2 ⟨p,hm,rfl⟩)]
 cases op<;>simp only [Op.operands] at h<;>simp only [astep]
 case build t ps=>rw [pairs ps fun x hx=>h x (by simpa using hx)]
 case buildSlice t n ps=>rw [pairs ps fun x hx=>h x (by simpa using hx)]
 case makeFunc fn first caps =>
  cases fn<;>simp only
  split
  ·rw [List.map_congr_left (fun x hx=>h x (by simp at hx ⊢;exact .inr hx))]
  ·rfl
 case slice t x lo hi mx=>cases mx<;>cases lo<;>cases hi<;>simp_all
 case makeMap t r=>cases r<;>simp_all
 case call c =>
  obtain ⟨callee,args,argTypes⟩:=c
  unfold aCallOp
  cases callee with
  | value f =>
   simp only [Call.operands] at h
   have hf:ev f=ev' f:=h f (by simp)
   have ha:args.toList.map ev=args.toList.map ev':=List.map_congr_left fun x hx=>h x (by simp at hx ⊢;exact .inr hx)
   simp only [hf,ha]
  | builtin b =>
   simp only [Call.operands] at h
   have ha:∀ x∈args.toList,ev x=ev' x:=fun x hx=>h x (by simpa using hx)
   simp only
   split
   ·rename_i x t ts heq1 heq2
    rw [ha x (by rw [heq1];simp)]
   ·rename_i x y t u heq1 heq2
    rw [ha x (by rw [heq1];simp),ha y (by rw [heq1];simp)]
   ·rename_i x t ts heq1 heq2
    rw [ha x (by rw [heq1];simp)]
   ·rename_i x y t u heq1 heq2
    rw [ha x (by rw [heq1];simp),ha y (by rw [heq1];simp)]
   ·rename_i x t heq1 heq2
    rw [ha x (by rw [heq1];simp)]
   ·rename_i x y t u heq1 heq2
    rw [ha x (by rw [heq1];simp),ha y (by rw [heq1];simp)]
   ·rename_i x y heq1
    rw [ha x (by rw [heq1];simp),ha y (by rw [heq1];simp)]
   ·rename_i x y heq1
    rw [ha x (by rw [heq1];simp),ha y (by rw [heq1];simp)]
   ·rfl
  | invoke r m=>rfl
 all_goals (first|rfl|(simp_all;done))
theorem run_ordered {P:Program} {X:AX} (hX:XOK P X) {ops:Array Oper} {N base:Nat} {w0:World} {bl:Bk} {Q:Exit→Act→World→Prop}:∀ {ol:List Oper} {i:Nat} {E:Env} {a:Act} {w:World} {g g':Nat→AV} {m m':Nat→AO} {rs:List (AV×List (Nat×AO))},
  Recs (Types P) X ops N base ol i g m rs g' m'→SatF N w0 bl E a w g m→(∀ k,E.alive k→k<base+16*i)→(∀ k,m k≠.dead→k<base+16*i) →
  (∀ E' a' w',SatF N w0 bl E' a' w' g' m'→(∀ k,E'.alive k→k<base+16*(i+ol.length))→(∀ k,m' k≠.dead→k<base+16*(i+ol.length))→Q .normal a' w')→wpList P ops Q ol a w
 | [],i,E,a,w,g,g',m,m',[],h,hs,ha,hm,hq=>by
  obtain ⟨rfl,rfl⟩:=h
  exact hq E a w hs (by simpa using ha) (by simpa using hm)
 | o::ol,i,E,a,w,g,g',m,m',r::rs,h,hs,ha,hm,hq=>by
  obtain ⟨h1,h2⟩:=h
  have hdom:∀ b∈r.2.map (·.1),b<base+16*(i+1):=by
   obtain ⟨hd,h1⟩:=h1
   have key:astep (Types P) X o.op (aEvF g) m (base+16*i)=some r→∀ b∈r.2.map (·.1),b<base+16*(i+1):=fun he b hb=>by
    rcases astep_dom hX he b hb with h3|⟨_,h3⟩
    ·omega
    ·have:=hm b h3;omega
   cases hg:o.guard with
   | none=>simp only [hg] at h1;exact key h1
   | some jw =>
    obtain ⟨j,want⟩:=jw
    simp only [hg] at h1
    obtain ⟨d,b,_,_,h4⟩:=h1
    split at h4
    ·exact key h4
    ·subst h4;simp
  have:=step_wp hX (Q:=Q) (next:=wpList P ops Q ol) hs h1 (fun k hk _ hal=>by have:=ha k hal;omega) fun E' a' w' st hs'=>by
   refine run_ordered hX h2 hs' (fun k hk=>?_) (fun k hk=>?_) fun E2 a2 w2 k1 k2 k3=>hq E2 a2 w2 k1 ?_ ?_
   ·rcases st.alive k hk with h3|h3
    ·have:=ha k h3;omega
    ·exact hdom k h3
   ·by_cases hk2:k∈r.2.map (·.1)
    ·exact hdom k hk2
    ·rw [updM_not hk2] at hk
     have:=hm k hk;omega
   ·intro k hk;have:=k2 k hk;simp only [List.length_cons];omega
   ·intro k hk;have:=k3 k hk;simp only [List.length_cons];omega
  unfold wpList
  split
  ·rename_i hw;rw [if_pos hw] at this;exact .inl this
  ·rename_i hw;rw [if_neg hw] at this;exact this
 | [],_,_,_,_,_,_,_,_,_::_,h,_,_,_,_=>by simp [Recs] at h
 | _::_,_,_,_,_,_,_,_,_,[],h,_,_,_,_=>by simp [Recs] at h
def Sat (N:Nat) (w0:World) (bl:Bk) (a:Act) (w:World) (st:St):Prop :=
 ∃ E,SatF N w0 bl E a w (getS st.s) (getM st.m)∧(∀ k,E.alive k→k<st.nx)∧(∀ k,getM st.m k≠.dead→k<st.nx)
def aregion (T:TypeId→Option TD) (X:AX) (N:Nat) (ops:Array Oper) (st:St):Option St :=
 match arun T X ops N st.nx ops.toList 0 st.s st.m with
 | some (s,m)=>some ⟨s,m,st.nx+16*ops.size⟩
 | none=>none
theorem region_ordered {P:Program} {X:AX} (hX:XOK P X) {id N:Nat} {ops:Array Oper} {w0:World} {bl:Bk} {a:Act} {w:World} {st st':St} {Q:Exit→Act→World→Prop}
  (hs:Sat N w0 bl a w st) (hr:aregion (Types P) X N ops st=some st') (hq:∀ a' w',Sat N w0 bl a' w' st'→Q .normal a' w'):(Code.region id ops false).wp P Q a w:=by
 unfold aregion at hr
 cases hh:arun (Types P) X ops N st.nx ops.toList 0 st.s st.m<;>simp only [hh,reduceCtorEq,Option.some.injEq] at hr
 rename_i sm
 obtain ⟨s,m⟩:=sm
 obtain rfl:=hr
 obtain ⟨rs,hrs⟩:=recs_of_run hh
 obtain ⟨E,h1,h2,h3⟩:=hs
 refine wp_region_list (run_ordered hX hrs h1 (by simpa using h2) (by simpa using h3) fun E' a' w' k1 k2 k3=>hq a' w' ⟨E',k1,?_,?_⟩)
 ·intro k hk;have:=k2 k hk;simpa using this
 ·intro k hk;have:=k3 k hk;simpa using this
end Go.AM
