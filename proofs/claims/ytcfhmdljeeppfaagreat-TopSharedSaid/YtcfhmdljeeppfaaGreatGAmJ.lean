/- A part of the proof. -/
import Derived.Test.YtcfhmdljeeppfaaGreatGAmG
import Derived.Orders
set_option linter.all false
namespace Go.AM
open Go
structure St where
 s:List (Nat×AV)
 m:List (Nat×AO)
 nx:Nat
def zfG (l:List (Nat×AV)) (dst:Option Nat) (a:AV):List (Nat×AV) :=
 match dst with
 | some d=>(d,a)::l
 | none=>l
def zl5 (M:List (Nat×AO)):List (Nat×AO)->List (Nat×AO)
 | []=>M
 | (b,o)::r=>zty (zl5 M r) b o
theorem zet (M:List (Nat×AO)) (u:List (Nat×AO)):zb (zl5 M u)=zbP (zb M) u:=by
 funext k;induction u with
 | nil=>rfl
 | cons x r ih =>obtain ⟨b,o⟩:=x;simp only [zl5,zoh,zbP,ih]
def zff (g:Nat->AV):Operand->AV
 | .tmp t=>g t
 | .const v=>.v v
 | .func f=>.fn f []
 | .global _=>.any
theorem zdR (l:List (Nat×AV)):aEv l=zff (zn l):=by funext x;cases x<;>rfl
def zeu (N:Nat) (o:Oper):Bool:=match o.dst with|some d=>decide (d<N)|none=>true
abbrev AV.u:AV:=.v (.tuple #[])
def yV:AV->Option (Option Bool)
 | .v (.bool b)=>some (some b)
 | .v _=>some none
 | _=>none
theorem zmU {a:AV} {b:Bool} (h:yV a=some (some b)):a=.v (.bool b):=by unfold yV at h;split at h<;>simp only [oJ,reduceCtorEq] at h;subst h;rfl
def zjw (T:TypeId->Option TD) (X:AX) (ops:Array Oper) (N base:Nat):List Oper->Nat->List (Nat×AV)->List (Nat×AO)->Option (List (Nat×AV)×List (Nat×AO))
 | [],_,l,M=>some (l,M)
 | o::r,i,l,M =>
  if zeu N o=true then
   match o.guard with
   | none=>match zav T X o.op (aEv l) (zb M) (base+16*i) with
    | some (av,u)=>zjw T X ops N base r (i+1) (zfG l o.dst av) (zl5 M u)
    | none=>none
   | some (j,want)=>match (ops[j]?).bind (·.dst) with
    | some d=>match yV (zn l d) with
     | some (some b) =>
      if b=want then
       match zav T X o.op (aEv ((d,.v (.bool want))::l)) (zb M) (base+16*i) with
       | some (av,u)=>zjw T X ops N base r (i+1) (zfG ((d,.v (.bool want))::l) o.dst av) (zl5 M u)
       | none=>none
      else zjw T X ops N base r (i+1) (zfG ((d,.v (.bool (!want)))::l) o.dst .u) M
     | some none=>zjw T X ops N base r (i+1) (zfG l o.dst .u) M
     | none=>none
    | none=>none
  else none
def zaz (T:TypeId->Option TD) (X:AX) (ops:Array Oper) (N:Nat) (o:Oper) (g:Nat->AV) (m:Nat->AO) (nid:Nat) (r:AV×List (Nat×AO)):Prop :=zeu N o=true∧match o.guard with
 | none=>zav T X o.op (zff g) m nid=some r
 | some (j,want)=>∃ d b,(ops[j]?).bind (·.dst)=some d∧yV (g d)=some b∧(if b=some want then zav T X o.op (zff g) m nid=some r else r=(.u,[]))
def zfI (g:Nat->AV) (dst:Option Nat) (a:AV) (t:Nat):AV:=if dst=some t then a else g t
theorem zbw (l:List (Nat×AV)) (dst:Option Nat) (a:AV):zn (zfG l dst a)=zfI (zn l) dst a:=by
 funext t;cases dst with
 | none=>simp [zfG,zfI]
 | some d=>simp [zfG,zfI,zn]
theorem zes (l:List (Nat×AV)) (d:Nat) (a:AV) (h:zn l d=a):zn ((d,a)::l)=zn l:=by
 funext t;simp only [zn];split
 ·rename_i e;subst e;exact h.symm
 ·rfl
def zjK (T:TypeId->Option TD) (X:AX) (ops:Array Oper) (N base:Nat):List Oper->Nat->(Nat->AV)->(Nat->AO)->List (AV×List (Nat×AO))->(Nat->AV)->(Nat->AO)->Prop
 | [],_,g,m,[],g',m'=>g'=g∧m'=m
 | o::ol,i,g,m,r::rs,g',m'=>zaz T X ops N o g m (base+16*i) r∧zjK T X ops N base ol (i+1) (zfI g o.dst r.1) (zbP m r.2) rs g' m'
 | _,_,_,_,_,_,_=>False
theorem zaR {T:TypeId->Option TD} {X:AX} {ops:Array Oper} {N base:Nat}:∀ {ol:List Oper} {i:Nat} {l l':List (Nat×AV)} {M M':List (Nat×AO)},zjw T X ops N base ol i l M=some (l',M') ->
  ∃ rs,zjK T X ops N base ol i (zn l) (zb M) rs (zn l') (zb M')
 | [],i,l,l',M,M',h=>by
  simp only [zjw,oJ,pJ] at h;obtain ⟨rfl,rfl⟩:=h;exact ⟨[],rfl,rfl⟩
 | o::ol,i,l,l',M,M',h=>by
  simp only [zjw] at h;split at h
  case isFalse=>simp at h
  rename_i hd;cases hg:o.guard with
  | none =>
   simp only [hg] at h;cases hs:zav T X o.op (aEv l) (zb M) (base+16*i)<;>simp only [hs,reduceCtorEq] at h;rename_i r;obtain ⟨av,u⟩:=r;obtain ⟨rs,hrs⟩:=zaR h;refine ⟨(av,u)::rs,?_⟩;simp only [zjK,zaz,hg,hd,true_and];rw [zbw,zet] at hrs;exact ⟨by rw [<- zdR];exact hs,hrs⟩
  | some jw =>
   obtain ⟨j,want⟩:=jw;simp only [hg] at h;cases hdj:(ops[j]?).bind (·.dst)<;>simp only [hdj,reduceCtorEq] at h;rename_i d;cases hy:yV (zn l d)<;>simp only [hy,reduceCtorEq] at h;rename_i y;cases y with
   | none =>
    simp only at h;obtain ⟨rs,hrs⟩:=zaR h;refine ⟨(.u,[])::rs,?_⟩;simp only [zjK,zaz,hg,hd,true_and];rw [zbw] at hrs;exact ⟨⟨d,none,hdj,hy,by simp⟩,hrs⟩
   | some b =>
   simp only at h;have hgd:=zmU hy;split at h
   ·rename_i hb;subst hb;have hsame:=zes l d _ hgd;cases hs:zav T X o.op (aEv ((d,.v (.bool b))::l)) (zb M) (base+16*i)<;>simp only [hs,reduceCtorEq] at h;rename_i r;obtain ⟨av,u⟩:=r;obtain ⟨rs,hrs⟩:=zaR h;refine ⟨(av,u)::rs,?_⟩;simp only [zjK,zaz,hg,hd,true_and];rw [zbw,zet,hsame] at hrs;rw [zdR,hsame] at hs;exact ⟨⟨d,some b,hdj,hy,by rw [if_pos rfl];exact hs⟩,hrs⟩
   ·rename_i hb;have hnb:(!want)=b:=by cases b<;>cases want<;>simp at hb ⊢
    rw [hnb] at h;have hsame:=zes l d _ hgd;obtain ⟨rs,hrs⟩:=zaR h;refine ⟨(.u,[])::rs,?_⟩;simp only [zjK,zaz,hg,hd,true_and];rw [zbw,hsame] at hrs;exact ⟨⟨d,some b,hdj,hy,by rw [if_neg (by simpa using hb)];trivial⟩,hrs⟩
structure zdd (N:Nat) (w0:World) (bl:Bk) (E:Env) (a:Act) (w:World) (g:Nat->AV) (m:Nat->AO):Prop where
 defers:a.defers=[]
 size:a.tmps.size=N
 inv:Inv w0 bl E w
 mem:zai E w m
 slots:∀ t,Rep E w (g t) (a.tmps.getD t undef)
theorem zdd.eval {N:Nat} {w0:World} {bl:Bk} {E:Env} {a:Act} {w:World} {g:Nat->AV} {m:Nat->AO} (h:zdd N w0 bl E a w g m) (x:Operand):Rep E w (zff g x) (a.eval x):=by
 cases x with
 | tmp t=>exact h.slots t
 | const v=>simp [zff,Act.eval,Rep,zd]
 | global g=>simp [zff,Rep,zd]
 | func f=>simp only [zff,Act.eval,Rep];exact ⟨[],rfl,by simp [RepL]⟩
theorem zdd.put {N:Nat} {w0:World} {bl:Bk} {E E':Env} {a:Act} {w w':World} {g:Nat->AV} {m:Nat->AO} {u:List (Nat×AO)} (h:zdd N w0 bl E a w g m) (st:StT w0 bl E w u E' w') {o:Oper} (hd:zeu N o=true) {av:AV} {x:Value}
  (hx:Rep E' w' av x):zdd N w0 bl E' (a.put o.dst x) w' (zfI g o.dst av) (zbP m u) where
 defers:=by cases hh:o.dst<;>simp [Act.put,h.defers]
 size:=by cases hh:o.dst<;>simp [Act.put,h.size]
 inv:=st.inv
 mem:=st.mem h.inv h.mem
 slots:=fun t=>by
  cases hh:o.dst with
  | none =>
   simp only [Act.put,zfI,reduceCtorEq,if_false];exact st.rep h.inv (h.slots t)
  | some d =>
   simp only [zeu,hh,decide_eq_true_eq] at hd;simp only [Act.put,zfI,oJ];by_cases e:d=t
   ·subst e;rw [if_pos rfl];have:(a.tmps.setIfInBounds d x).getD d undef=x:=by simp [Array.getD_eq_getD_getElem?,h.size,hd]
    rw [this];exact hx
   ·rw [if_neg e];have:(a.tmps.setIfInBounds d x).getD t undef=a.tmps.getD t undef:=by simp [Array.getD_eq_getD_getElem?,Array.getElem?_setIfInBounds_ne e]
    rw [this];exact st.rep h.inv (h.slots t)
theorem zm0 {N:Nat} {w0:World} {bl:Bk} {E:Env} {a:Act} {w:World} {g:Nat->AV} {m:Nat->AO} (h:zdd N w0 bl E a w g m) {ops:Array Oper} {o:Oper} {j d:Nat} {want:Bool} {b:Option Bool} (hg:o.guard=some (j,want)) (hj:(ops[j]?).bind (·.dst)=some d) (hd:yV (g d)=some b) :
  Region.wanted o (yielded ops a.tmps)=(b == some want):=by
 have h1:=h.slots d;have hv:∃ x,g d=.v x:=by cases hgd:g d<;>first|exact ⟨_,rfl⟩|(rw [hgd] at hd;simp [yV] at hd)
 obtain ⟨x,hx⟩:=hv;rw [hx] at h1 hd;simp only [Rep,zd] at h1;have h2:yielded ops a.tmps j=b:=by
  simp only [yielded,hj,Option.bind_some];rw [Array.getD_eq_getD_getElem?] at h1;cases hh:a.tmps[d]? with
  | none =>
   rw [hh] at h1;simp only [Option.getD_none,undef] at h1;subst h1;simpa [yV] using hd
  | some y =>
   rw [hh] at h1;simp only [Option.getD_some] at h1;subst h1;unfold yV at hd;split at hd
   ·rename_i heq;simp only [AV.v.injEq] at heq;subst heq;simpa using hd
   ·rename_i hne heq;simp only [AV.v.injEq] at heq;subst heq;simp only [oJ] at hd;subst hd;split
    ·rename_i b' heq;simp only [oJ] at heq;exact absurd heq (hne b')
    ·rfl
   ·simp at hd
 simp only [Region.wanted,hg,h2]
theorem zhu {P:Program} {X:AX} (hX:XOK P X) {ops:Array Oper} {N:Nat} {w0:World} {bl:Bk} {E:Env} {a:Act} {w:World} {g:Nat->AV} {m:Nat->AO} {o:Oper} {nid:Nat} {r:AV×List (Nat×AO)} {next:Act->World->Prop} {Q:Exit->Act->World->Prop}
  (h:zdd N w0 bl E a w g m) (hs:zaz (za P) X ops N o g m nid r) (hnid:∀ k,nid<=k->k<nid+16->¬ E.alive k)
  (hn:∀ E' a' w',StT w0 bl E w r.2 E' w'->zdd N w0 bl E' a' w' (zfI g o.dst r.1) (zbP m r.2)->next a' w') :
  if Region.wanted o (yielded ops a.tmps) then o.wp P a w next Q else next (a.put o.dst undef) w:=by
 obtain ⟨hd,hs⟩:=hs;have hexec:zav (za P) X o.op (zff g) m nid=some r->o.wp P a w next Q:=fun he=>by obtain ⟨av,u⟩:=r;exact zps hX he h.eval h.mem h.inv hnid fun x E' w' st hx=>hn E' _ w' st (h.put st hd hx)
 cases hg:o.guard with
 | none =>
  simp only [hg] at hs;rw [if_pos (by simp [Region.wanted,hg])];exact hexec hs
 | some jw =>
  obtain ⟨j,want⟩:=jw;simp only [hg] at hs;obtain ⟨d,b,h1,h2,h3⟩:=hs;rw [zm0 h hg h1 h2];by_cases hb:b=some want
  ·rw [if_pos hb] at h3;rw [if_pos (by simp [hb])];exact hexec h3
  ·rw [if_neg hb] at h3;subst h3;rw [if_neg (by simp [hb])];have st:StT w0 bl E w [] E w:=StT.refl h.inv rfl rfl rfl;exact hn E _ w st (h.put st hd (by simp [Rep,zd,undef]))
def opW (X:AX):Op->Bool
 | .store ..|.mapUpdate ..=>true
 | .call c=>match c.callee with
  | .value (.func f)=>X.writes f
  | .value _=>X.anyW
  | .builtin .append|.builtin .copy|.builtin .clear|.builtin .delete=>true
  | _=>false
 | _=>false
def zbW (X:AX):Op->Bool
 | .move _|.assign _|.pick ..|.extract ..|.nilCheck _|.binOp ..|.unOp ..|.convert ..|.build ..|.fieldAddr ..|.field ..|.indexAddr ..|.index ..|.slice _ _ _ none _|.makeFunc ..=>true
 | .call c=>match c.callee with
  | .builtin .len=>match c.argTypes.toList with
   | t::_=>!X.writes (1000000+t)
   | []=>true
  | .builtin .min|.builtin .max=>true
  | _=>false
 | _=>false
theorem pRu {a:Option AV} {r:AV×List (Nat×AO)} (h:zbQ a=some r):r.2=[]:=by obtain ⟨av,u⟩:=r;exact (pRs h).2
theorem zkH {T:TypeId->Option TD} {M:Nat->AO} {nid:Nat} {st xt:TypeId} {s x:AV} {r:AV×List (Nat×AO)} (h:zeX T M nid st xt s x=some r):∀ b∈r.2.map (·.1),b=nid∨M b≠.dead:=by
 unfold zeX at h;cases hst:T st<;>simp only [hst,reduceCtorEq] at h;rename_i ds;cases hxt:T xt<;>simp only [hxt,reduceCtorEq] at h;rename_i dx;cases hks:ds.k<;>simp only [hks,reduceCtorEq] at h;rename_i e;cases hkx:dx.k<;>simp only [hkx,reduceCtorEq] at h;cases he:T e<;>simp only [he,reduceCtorEq] at h;rename_i de;cases hro:zc9 M de.size s<;>simp only [hro,reduceCtorEq] at h;cases hrn:zc9 M de.size x<;>simp only [hrn,reduceCtorEq] at h;split at h
 case isFalse=>simp at h
 cases s<;>(try simp only [reduceCtorEq] at h)
 ·split at h
  ·rename_i heq;simp at heq
  ·simp only [oJ] at h;subst h;intro b hb;simp at hb;exact .inl hb
  ·simp at h
 ·obtain ⟨f,xs,h1,_⟩:=zlT hro;simp only [h1] at h;split at h
  ·split at h
   ·simp only [oJ] at h;subst h;intro b hb;simp at hb;subst hb;exact .inr (by rw [h1];simp)
   ·split at h
    ·simp only [oJ] at h;subst h;intro b hb;simp at hb;exact .inl hb
    ·simp only [oJ] at h;subst h;intro b hb;simp at hb;subst hb;exact .inr (by rw [h1];simp)
  ·simp only [oJ] at h;subst h;intro b hb;simp at hb;subst hb;exact .inr (by rw [h1];simp)
theorem zqo {T:TypeId->Option TD} {M:Nat->AO} {nid:Nat} {st xt:TypeId} {s x:AV} {r:AV×List (Nat×AO)} (h:ztF T M nid st xt s x=some r):∀ b∈r.2.map (·.1),b=nid∨M b≠.dead:=by
 unfold ztF at h;cases hxt:T xt<;>simp only [hxt,reduceCtorEq] at h;rename_i dx;cases hk:dx.k<;>simp only [hk] at h
 case int ik=>exact fun b hb=>.inl (zjA h b hb)
 all_goals exact zkH h
theorem zoX {T:TypeId->Option TD} {M:Nat->AO} {t:TypeId} {x y:AV} {r:AV×List (Nat×AO)} (h:zmH T M t x y=some r):∀ b∈r.2.map (·.1),M b≠.dead:=by
 unfold zmH at h;cases ht:T t<;>simp only [ht,reduceCtorEq] at h;rename_i d;cases hk:d.k<;>simp only [hk,reduceCtorEq] at h;rename_i e;cases he:T e<;>simp only [he,reduceCtorEq] at h;cases x<;>simp only [reduceCtorEq] at h;rename_i b m s o n;cases hMb:M b<;>simp only [hMb,reduceCtorEq] at h;rename_i m' s' f xs;cases hr:zc9 M s y<;>simp only [hr,reduceCtorEq] at h;split at h
 case isFalse=>simp at h
 simp only [oJ] at h;subst h;intro k hk;simp at hk;subst hk;rw [hMb];simp
theorem zmI {T:TypeId->Option TD} {M:Nat->AO} {t:TypeId} {x:AV} {r:AV×List (Nat×AO)} (h:zhk T M t x=some r):∀ b∈r.2.map (·.1),M b≠.dead:=by
 unfold zhk at h;cases ht:T t<;>simp only [ht,reduceCtorEq] at h;rename_i d;cases hk:d.k<;>simp only [hk,reduceCtorEq] at h;rename_i e;cases he:T e<;>simp only [he,reduceCtorEq] at h;cases x<;>simp only [reduceCtorEq] at h;rename_i b m s o n;cases hMb:M b<;>simp only [hMb,reduceCtorEq] at h;rename_i m' s' f xs;split at h
 case isFalse=>simp at h
 simp only [oJ] at h;subst h;intro k hk;simp at hk;subst hk;rw [hMb];simp
theorem zkF {T:TypeId->Option TD} {X:AX} {M:Nat->AO} {t:TypeId} {x i y:AV} {u:List (Nat×AO)} (h:zda T X M t x i y=some u):∀ b∈u.map (·.1),M b≠.dead:=by
 unfold zda at h;split at h
 ·split at h
  ·split at h
   ·rename_i hb;split at h
    ·split at h<;>simp only [oJ,reduceCtorEq] at h;subst h;intro k hk;simp only [List.map_cons,List.map_nil,List.mem_singleton] at hk;subst hk;rw [hb];simp
    ·simp at h
   ·simp at h
  ·simp at h
 ·simp at h
theorem zkG {T:TypeId->Option TD} {M:Nat->AO} {t:TypeId} {x i:AV} {u:List (Nat×AO)} (h:zdb T M t x i=some u):∀ b∈u.map (·.1),M b≠.dead:=by
 unfold zdb at h;split at h
 ·split at h
  ·split at h
   ·rename_i hb;split at h
    ·split at h<;>simp only [oJ,reduceCtorEq] at h;subst h;intro k hk;simp only [List.map_cons,List.map_nil,List.mem_singleton] at hk;subst hk;rw [hb];simp
    ·simp at h
   ·simp at h
  ·simp at h
 ·simp at h
theorem zeB {P:Program} {T:TypeId->Option TD} {X:AX} (hX:XOK P X) {op:Op} {g:Nat->AV} {M:Nat->AO} {nid:Nat} {r:AV×List (Nat×AO)} (h:zav T X op (zff g) M nid=some r) :
  ∀ b∈r.2.map (·.1),(nid<=b∧b<nid+16)∨(opW X op=true∧M b≠.dead):=by
 have none_:r.2=[]->∀ b∈r.2.map (·.1),(nid<=b∧b<nid+16)∨(opW X op=true∧M b≠.dead):=fun e=>by rw [e];simp
 have one_:∀ b o,r.2=[(b,o)]->b=nid->∀ b∈r.2.map (·.1),(nid<=b∧b<nid+16)∨(opW X op=true∧M b≠.dead):=fun b o e e'=>by rw [e];intro k hk;simp at hk;subst hk;exact .inl (by omega)
 cases op<;>simp only [zav,reduceCtorEq] at h
 case move x=>simp only [oJ] at h;exact none_ (by rw [<- h])
 case assign x=>simp only [oJ] at h;exact none_ (by rw [<- h])
 case pick c x y =>split at h<;>simp only [oJ,reduceCtorEq] at h;exact none_ (by rw [<- h])
 case extract t i =>
  split at h
  ·split at h<;>simp only [oJ,reduceCtorEq] at h;exact none_ (by rw [<- h])
  ·simp at h
 case nilCheck x =>split at h<;>simp only [oJ,reduceCtorEq] at h;all_goals exact none_ (by rw [<- h])
 case binOp=>exact none_ (pRu h)
 case unOp=>exact none_ (pRu h)
 case convert=>exact none_ (pRu h)
 case build=>exact none_ (pRu h)
 case load=>exact none_ (pRu h)
 case lookup=>exact none_ (pRu h)
 case makeMap t r =>
  rename_i r0;have h:zbI T X nid t=some r0:=by
   cases r with
   | none=>exact h
   | some r =>
    simp only at h;split at h
    ·exact h
    ·simp at h
  unfold zbI at h;split at h<;>simp only [oJ,reduceCtorEq] at h;exact one_ _ _ (by rw [<- h]) rfl
 case mapUpdate t x i y =>cases hs:zda T X M t (zff g x) (zff g i) (zff g y)<;>simp only [hs,Option.map_none,Option.map_some,reduceCtorEq,oJ] at h;rename_i u;subst h;exact fun b hb=>.inr ⟨rfl,zkF hs b hb⟩
 case fieldAddr=>exact none_ (pRu h)
 case field=>exact none_ (pRu h)
 case indexAddr=>exact none_ (pRu h)
 case index=>exact none_ (pRu h)
 case slice t x lo hi mx =>
  cases mx with
  | none=>exact none_ (pRu h)
  | some mx=>cases hi with
   | none=>simp at h
   | some hi=>exact none_ (pRu h)
 case makeFunc fn first caps =>cases fn<;>simp only [reduceCtorEq] at h;split at h<;>simp only [oJ,reduceCtorEq] at h;exact none_ (by rw [<- h])
 case makeInterface t x =>
  split at h
  ·split at h<;>simp only [oJ,reduceCtorEq] at h;exact none_ (by rw [<- h])
  ·simp at h
 case alloc t =>
  unfold zjB at h;split at h
  ·split at h<;>simp only [oJ,reduceCtorEq] at h;exact one_ _ _ (by rw [<- h];rfl) rfl
  ·simp at h
 case box t x =>unfold zvZ at h;split at h<;>simp only [oJ,reduceCtorEq] at h;exact one_ _ _ (by rw [<- h];rfl) rfl
 case buildSlice t n parts =>
  unfold zbO at h;cases ht:T t<;>simp only [ht,reduceCtorEq] at h;rename_i d;cases hk:d.k<;>simp only [hk,reduceCtorEq] at h;rename_i e;split at h
  ·split at h<;>simp only [oJ,reduceCtorEq] at h;exact one_ _ _ (by rw [<- h]) rfl
  ·simp at h
 case makeSlice t l c =>
  unfold zco at h;split at h
  ·rename_i d _ _ _ _ _;cases hk:d.k<;>simp only [hk,reduceCtorEq] at h;split at h
   ·split at h<;>simp only [oJ,reduceCtorEq] at h;exact one_ _ _ (by rw [<- h]) rfl
   ·simp at h
  ·simp at h
 case store t x y =>
  cases hs:zgn T M t (zff g x) (zff g y)<;>simp only [hs,Option.map_none,Option.map_some,reduceCtorEq,oJ] at h;rename_i u;subst h;unfold zgn at hs;intro b hb;refine .inr ⟨rfl,?_⟩;split at hs
  ·split at hs
   ·split at hs
    ·split at hs
     ·rename_i hbox;split at hs<;>simp only [oJ,reduceCtorEq] at hs;subst hs;simp at hb;subst hb;rw [hbox];simp
     ·simp at hs
    ·split at hs
     ·rename_i hvec;split at hs
      ·split at hs
       ·split at hs<;>simp only [oJ,reduceCtorEq] at hs;subst hs;simp at hb;subst hb;rw [hvec];simp
       ·simp at hs
      ·simp at hs
     ·rename_i hvo;split at hs
      ·split at hs
       ·split at hs<;>simp only [oJ,reduceCtorEq] at hs;subst hs;simp at hb;subst hb;rw [hvo];simp
       ·split at hs
        ·split at hs
         ·split at hs<;>simp only [oJ,reduceCtorEq] at hs;subst hs;simp at hb;subst hb;rw [hvo];simp
         ·simp at hs
        ·simp at hs
      ·simp at hs
     ·simp at hs
    ·simp at hs
   ·simp at hs
  ·simp at hs
 case call c =>
  unfold zdc at h;obtain ⟨callee,args,argTypes⟩:=c;cases callee<;>simp only [reduceCtorEq] at h
  case value f =>
   cases hev:zff g f<;>simp only [hev,reduceCtorEq] at h;rename_i k caps;intro b hb;rcases hX.dom _ _ _ _ _ h b hb with h1|⟨h1,h2⟩
   ·exact .inl h1
   ·refine .inr ⟨?_,h2⟩;cases f with
    | func f=>simp only [zff,AV.fn.injEq] at hev;simp only [opW];rw [hev.1];exact h1
    | tmp t=>exact hX.anyW k h1
    | const v=>exact hX.anyW k h1
    | global g=>exact hX.anyW k h1
  case builtin b =>
   split at h<;>(try (simp at h;done))
   ·exact none_ (pRu h)
   ·intro b hb;rcases zqo h b hb with h1|h1
    ·exact .inl (by omega)
    ·exact .inr ⟨rfl,h1⟩
   ·exact none_ (pRu h)
   ·exact fun b hb=>.inr ⟨rfl,zoX h b hb⟩
   ·exact fun b hb=>.inr ⟨rfl,zmI h b hb⟩
   ·rename_i x y t u' _ _;cases hs:zdb T M t (zff g x) (zff g y)<;>simp only [hs,Option.map_none,Option.map_some,reduceCtorEq,oJ] at h;rename_i u;subst h;exact fun b hb=>.inr ⟨rfl,zkG hs b hb⟩
   ·exact none_ (pRu h)
   ·exact none_ (pRu h)
theorem zmz {T:TypeId->Option TD} {X:AX} {op:Op} {ev:Operand->AV} {M M':Nat->AO} {nid nid':Nat} (h:zbW X op=true):zav T X op ev M nid=zav T X op ev M' nid':=by
 cases op<;>simp only [zbW,Bool.false_eq_true] at h<;>try rfl
 case makeFunc fn first caps=>cases fn<;>rfl
 case slice t x lo hi mx =>
  cases hi with
  | some hi=>simp at h
  | none=>cases mx with
   | none =>
    simp only [zav,Option.map_none];rw [zkE (M':=M')]
   | some mx=>rfl
 rename_i c;obtain ⟨callee,args,argTypes⟩:=c;cases callee<;>simp only [Bool.false_eq_true] at h;rename_i b;cases b<;>simp only [Bool.false_eq_true] at h
 case len =>
  simp only [zav,zdc];cases hl:argTypes.toList with
  | nil=>cases args.toList with
   | nil=>rfl
   | cons x r=>cases r<;>rfl
  | cons t ts =>
   simp only [hl,Bool.not_eq_true'] at h;cases args.toList with
   | nil=>rfl
   | cons x r=>cases r with
    | nil =>
     show zbQ (zii T X M t (ev x))=zbQ (zii T X M' t (ev x));rw [zmG h]
    | cons y r=>rfl
 all_goals
  simp only [zav,zdc];split<;>first|rfl|(rename_i hh _ _;cases hh)
theorem zkA {T:TypeId->Option TD} {X:AX} {op:Op} {ev ev':Operand->AV} {M:Nat->AO} {nid:Nat} (h:∀ x∈op.operands,ev x=ev' x):zav T X op ev M nid=zav T X op ev' M nid:=by
 have pairs:∀ ps:Array (Nat×Operand),(∀ x∈ps.toList.map (·.2),ev x=ev' x)->(ps.toList.map fun p=>(p.1,ev p.2))=(ps.toList.map fun p=>(p.1,ev' p.2)):=fun ps hp =>
  List.map_congr_left fun p hm=>by rw [hp p.2 (List.mem_map.2 ⟨p,hm,rfl⟩)]
 cases op<;>simp only [Op.operands] at h<;>simp only [zav]
 case build t ps=>rw [pairs ps fun x hx=>h x (by simpa using hx)]
 case buildSlice t n ps=>rw [pairs ps fun x hx=>h x (by simpa using hx)]
 case makeFunc fn first caps =>
  cases fn<;>simp only;split
  ·rw [List.map_congr_left (fun x hx=>h x (by simp at hx ⊢;exact .inr hx))]
  ·rfl
 case slice t x lo hi mx=>cases mx<;>cases lo<;>cases hi<;>simp_all
 case makeMap t r=>cases r<;>simp_all
 case call c =>
  obtain ⟨callee,args,argTypes⟩:=c;unfold zdc;cases callee with
  | value f =>
   simp only [Call.operands] at h;have hf:ev f=ev' f:=h f (by simp);have ha:args.toList.map ev=args.toList.map ev':=List.map_congr_left fun x hx=>h x (by simp at hx ⊢;exact .inr hx);simp only [hf,ha]
  | builtin b =>
   simp only [Call.operands] at h;have ha:∀ x∈args.toList,ev x=ev' x:=fun x hx=>h x (by simpa using hx);simp only;split
   ·rename_i x t ts heq1 heq2;rw [ha x (by rw [heq1];simp)]
   ·rename_i x y t u heq1 heq2;rw [ha x (by rw [heq1];simp),ha y (by rw [heq1];simp)]
   ·rename_i x t ts heq1 heq2;rw [ha x (by rw [heq1];simp)]
   ·rename_i x y t u heq1 heq2;rw [ha x (by rw [heq1];simp),ha y (by rw [heq1];simp)]
   ·rename_i x t heq1 heq2;rw [ha x (by rw [heq1];simp)]
   ·rename_i x y t u heq1 heq2;rw [ha x (by rw [heq1];simp),ha y (by rw [heq1];simp)]
   ·rename_i x y heq1;rw [ha x (by rw [heq1];simp),ha y (by rw [heq1];simp)]
   ·rename_i x y heq1;rw [ha x (by rw [heq1];simp),ha y (by rw [heq1];simp)]
   ·rfl
  | invoke r m=>rfl
 all_goals (first|rfl|(simp_all;done))
theorem zfD {P:Program} {X:AX} (hX:XOK P X) {ops:Array Oper} {N base:Nat} {w0:World} {bl:Bk} {Q:Exit->Act->World->Prop}:∀ {ol:List Oper} {i:Nat} {E:Env} {a:Act} {w:World} {g g':Nat->AV} {m m':Nat->AO} {rs:List (AV×List (Nat×AO))},zjK (za P) X ops N base ol i g m rs g' m'->zdd N w0 bl E a w g m->(∀ k,E.alive k->k<base+16*i)->(∀ k,m k≠.dead->k<base+16*i) ->
  (∀ E' a' w',zdd N w0 bl E' a' w' g' m'->(∀ k,E'.alive k->k<base+16*(i+ol.length))->(∀ k,m' k≠.dead->k<base+16*(i+ol.length))->Q .normal a' w')->wpList P ops Q ol a w
 | [],i,E,a,w,g,g',m,m',[],h,hs,ha,hm,hq=>by
  obtain ⟨rfl,rfl⟩:=h;exact hq E a w hs (by simpa using ha) (by simpa using hm)
 | o::ol,i,E,a,w,g,g',m,m',r::rs,h,hs,ha,hm,hq=>by
  obtain ⟨h1,h2⟩:=h;have hdom:∀ b∈r.2.map (·.1),b<base+16*(i+1):=by
   obtain ⟨hd,h1⟩:=h1;have key:zav (za P) X o.op (zff g) m (base+16*i)=some r->∀ b∈r.2.map (·.1),b<base+16*(i+1):=fun he b hb=>by
    rcases zeB hX he b hb with h3|⟨_,h3⟩
    ·omega
    ·have:=hm b h3;omega
   cases hg:o.guard with
   | none=>simp only [hg] at h1;exact key h1
   | some jw =>
    obtain ⟨j,want⟩:=jw;simp only [hg] at h1;obtain ⟨d,b,_,_,h4⟩:=h1;split at h4
    ·exact key h4
    ·subst h4;simp
  have:=zhu hX (Q:=Q) (next:=wpList P ops Q ol) hs h1 (fun k hk _ hal=>by have:=ha k hal;omega) fun E' a' w' st hs'=>by
   refine zfD hX h2 hs' (fun k hk=>?_) (fun k hk=>?_) fun E2 a2 w2 k1 k2 k3=>hq E2 a2 w2 k1 ?_ ?_
   ·rcases st.alive k hk with h3|h3
    ·have:=ha k h3;omega
    ·exact hdom k h3
   ·by_cases hk2:k∈r.2.map (·.1)
    ·exact hdom k hk2
    ·rw [zde hk2] at hk;have:=hm k hk;omega
   ·intro k hk;have:=k2 k hk;simp only [List.length_cons];omega
   ·intro k hk;have:=k3 k hk;simp only [List.length_cons];omega
  unfold wpList;split
  ·rename_i hw;rw [if_pos hw] at this;exact .inl this
  ·rename_i hw;rw [if_neg hw] at this;exact this
 | [],_,_,_,_,_,_,_,_,_::_,h,_,_,_,_=>by simp [zjK] at h
 | _::_,_,_,_,_,_,_,_,_,[],h,_,_,_,_=>by simp [zjK] at h
def Sat (N:Nat) (w0:World) (bl:Bk) (a:Act) (w:World) (st:St):Prop :=∃ E,zdd N w0 bl E a w (zn st.s) (zb st.m)∧(∀ k,E.alive k->k<st.nx)∧(∀ k,zb st.m k≠.dead->k<st.nx)
def zeW (T:TypeId->Option TD) (X:AX) (N:Nat) (ops:Array Oper) (st:St):Option St :=
 match zjw T X ops N st.nx ops.toList 0 st.s st.m with
 | some (s,m)=>some ⟨s,m,st.nx+16*ops.size⟩
 | none=>none
theorem zgy {P:Program} {X:AX} (hX:XOK P X) {id N:Nat} {ops:Array Oper} {w0:World} {bl:Bk} {a:Act} {w:World} {st st':St} {Q:Exit->Act->World->Prop}
  (hs:Sat N w0 bl a w st) (hr:zeW (za P) X N ops st=some st') (hq:∀ a' w',Sat N w0 bl a' w' st'->Q .normal a' w'):(Code.region id ops false).wp P Q a w:=by
 unfold zeW at hr;cases hh:zjw (za P) X ops N st.nx ops.toList 0 st.s st.m<;>simp only [hh,reduceCtorEq,oJ] at hr;rename_i sm;obtain ⟨s,m⟩:=sm;obtain rfl:=hr;obtain ⟨rs,hrs⟩:=zaR hh;obtain ⟨E,h1,h2,h3⟩:=hs;refine wp_region_list (zfD hX hrs h1 (by simpa using h2) (by simpa using h3) fun E' a' w' k1 k2 k3=>hq a' w' ⟨E',k1,?_,?_⟩)
 ·intro k hk;have:=k2 k hk;simpa using this
 ·intro k hk;have:=k3 k hk;simpa using this
abbrev Rec:=AV×List (Nat×AO)
def gF:List (Oper×Rec)->Nat->(Nat->Bool)->(Nat->AV)->(Nat->AV)
 | [],_,_,g=>g
 | (o,r)::l,i,L,g=>gF l (i+1) L (if L i=true then zfI g o.dst r.1 else g)
def mF:List (Oper×Rec)->Nat->(Nat->Bool)->(Nat->AO)->(Nat->AO)
 | [],_,_,m=>m
 | (_,r)::l,i,L,m=>mF l (i+1) L (if L i=true then zbP m r.2 else m)
theorem zeS:∀ {l:List (Oper×Rec)} {i:Nat} {L:Nat->Bool} {g:Nat->AV},(∀ j,i<=j->L j=false)->gF l i L g=g
 | [],_,_,_,_=>rfl
 | (o,r)::l,i,L,g,h=>by simp only [gF];rw [if_neg (by simp [h i (Nat.le_refl _)])];exact zeS fun j hj=>h j (by omega)
theorem zc2:∀ {l:List (Oper×Rec)} {i:Nat} {L:Nat->Bool} {m:Nat->AO},(∀ j,i<=j->L j=false)->mF l i L m=m
 | [],_,_,_,_=>rfl
 | (o,r)::l,i,L,m,h=>by simp only [mF];rw [if_neg (by simp [h i (Nat.le_refl _)])];exact zc2 fun j hj=>h j (by omega)
theorem zjb {t:Nat}:∀ {l:List (Oper×Rec)} {i:Nat} {L L':Nat->Bool} {g g':Nat->AV},g t=g' t->(∀ j o r,l[j]?=some (o,r)->o.dst=some t->L (i+j)=L' (i+j))->gF l i L g t=gF l i L' g' t
 | [],_,_,_,_,_,h,_=>h
 | (o,r)::l,i,L,L',g,g',h,k=>by
  simp only [gF];refine zjb ?_ fun j o' r' hj ho=>by have:=k (j+1) o' r' (by simpa using hj) ho;rwa [show i+1+j=i+(j+1) from by omega]
  by_cases hd:o.dst=some t
  ·have:=k 0 o r (by simp) hd;simp only [Nat.add_zero] at this;rw [this];split
   ·simp [zfI,hd]
   ·exact h
  ·have e1:∀ (b:Bool) (g:Nat->AV),(if b=true then zfI g o.dst r.1 else g) t=g t:=fun b g=>by
    split
    ·simp [zfI,hd]
    ·rfl
   rw [e1,e1];exact h
theorem zej {b:Nat}:∀ {l:List (Oper×Rec)} {i:Nat} {L L':Nat->Bool} {m m':Nat->AO},m b=m' b->(∀ j o r,l[j]?=some (o,r)->b∈r.2.map (·.1)->L (i+j)=L' (i+j))->mF l i L m b=mF l i L' m' b
 | [],_,_,_,_,_,h,_=>h
 | (o,r)::l,i,L,L',m,m',h,k=>by
  simp only [mF];refine zej ?_ fun j o' r' hj ho=>by have:=k (j+1) o' r' (by simpa using hj) ho;rwa [show i+1+j=i+(j+1) from by omega]
  by_cases hd:b∈r.2.map (·.1)
  ·have:=k 0 o r (by simp) hd;simp only [Nat.add_zero] at this;rw [this];split
   ·have key:∀ {u:List (Nat×AO)},b∈u.map (·.1)->zbP m u b=zbP m' u b:=by
     intro u;induction u with
     | nil=>simp
     | cons x u ih =>
      obtain ⟨c,o⟩:=x;intro hb;simp only [zbP];split
      ·rfl
      ·rename_i hne;simp only [List.map_cons,List.mem_cons] at hb;exact ih (hb.resolve_left fun e=>hne e.symm)
    exact key hd
   ·exact h
  ·have e1:∀ (c:Bool) (m:Nat->AO),(if c=true then zbP m r.2 else m) b=m b:=fun c m=>by
    split
    ·exact zde hd
    ·rfl
   rw [e1,e1];exact h
theorem zm4 {m m':Nat->AO} {b:Nat} {u:List (Nat×AO)} (h:b∈u.map (·.1)):zbP m u b=zbP m' u b:=by
 induction u with
 | nil=>simp at h
 | cons x u ih =>
  obtain ⟨c,o⟩:=x;simp only [zbP];split
  ·rfl
  ·rename_i hne;simp only [List.map_cons,List.mem_cons] at h;exact ih (h.resolve_left fun e=>hne e.symm)
theorem zkl {t:Nat}:∀ {l:List (Oper×Rec)} {i k:Nat} {L:Nat->Bool} {g:Nat->AV} {o:Oper} {r:Rec},l[k]?=some (o,r)->L (i+k)=true->o.dst=some t->(∀ j o' r',k<j->l[j]?=some (o',r')->o'.dst=some t->L (i+j)=false)->gF l i L g t=r.1
 | [],_,_,_,_,_,_,h,_,_,_=>by simp at h
 | (o',r')::l,i,0,L,g,o,r,h,hL,hd,hn=>by
  simp only [List.getElem?_cons_zero,oJ,pJ] at h;obtain ⟨rfl,rfl⟩:=h;simp only [gF];rw [if_pos (by simpa using hL)];rw [zjb (L':=fun _=>false) (g':=zfI g o'.dst r'.1) rfl fun j o2 r2 hj ho=>by have:=hn (j+1) o2 r2 (by omega) (by simpa using hj) ho;rwa [show i+(j+1)=i+1+j from by omega] at this];rw [zeS (fun _ _=>rfl)];simp [zfI,hd]
 | (o',r')::l,i,k+1,L,g,o,r,h,hL,hd,hn=>by simp only [gF];refine zkl (k:=k) (by simpa using h) (by rwa [show i+1+k=i+(k+1) from by omega]) hd fun j o2 r2 hj hl ho=>?_;have:=hn (j+1) o2 r2 (by omega) (by simpa using hl) ho;rwa [show i+1+j=i+(j+1) from by omega]
theorem zj7 {b:Nat}:∀ {l:List (Oper×Rec)} {i k:Nat} {L:Nat->Bool} {m:Nat->AO} {o:Oper} {r:Rec},l[k]?=some (o,r)->L (i+k)=true->b∈r.2.map (·.1)->(∀ j o' r',k<j->l[j]?=some (o',r')->b∈r'.2.map (·.1)->L (i+j)=false) ->
  ∀ m',mF l i L m b=zbP m' r.2 b
 | [],_,_,_,_,_,_,h,_,_,_=>by simp at h
 | (o',r')::l,i,0,L,m,o,r,h,hL,hd,hn=>by
  intro m';simp only [List.getElem?_cons_zero,oJ,pJ] at h;obtain ⟨rfl,rfl⟩:=h;simp only [mF];rw [if_pos (by simpa using hL)];rw [zej (L':=fun _=>false) (m':=zbP m r'.2) rfl fun j o2 r2 hj ho=>by have:=hn (j+1) o2 r2 (by omega) (by simpa using hj) ho;rwa [show i+(j+1)=i+1+j from by omega] at this];rw [zc2 (fun _ _=>rfl)];exact zm4 hd
 | (o',r')::l,i,k+1,L,m,o,r,h,hL,hd,hn=>by simp only [mF];refine zj7 (k:=k) (by simpa using h) (by rwa [show i+1+k=i+(k+1) from by omega]) hd fun j o2 r2 hj hl ho=>?_;have:=hn (j+1) o2 r2 (by omega) (by simpa using hl) ho;rwa [show i+1+j=i+(j+1) from by omega]
theorem zjX {T:TypeId->Option TD} {X:AX} {ops:Array Oper} {N base:Nat}:∀ {ol:List Oper} {i:Nat} {g g':Nat->AV} {m m':Nat->AO} {rs:List Rec},zjK T X ops N base ol i g m rs g' m' ->
  rs.length=ol.length∧g'=gF (ol.zip rs) i (fun _=>true) g∧m'=mF (ol.zip rs) i (fun _=>true) m ∧
  ∀ k o r,(ol.zip rs)[k]?=some (o,r)->zaz T X ops N o (gF (ol.zip rs) i (fun j=>decide (j<i+k)) g) (mF (ol.zip rs) i (fun j=>decide (j<i+k)) m) (base+16*(i+k)) r
 | [],i,g,g',m,m',[],h=>by
  obtain ⟨rfl,rfl⟩:=h;exact ⟨rfl,rfl,rfl,fun k o r hk=>by simp at hk⟩
 | o::ol,i,g,g',m,m',r::rs,h=>by
  obtain ⟨h1,h2⟩:=h;obtain ⟨k1,k2,k3,k4⟩:=zjX h2;refine ⟨by simp [k1],by simpa [gF] using k2,by simpa [mF] using k3,fun k o' r' hk=>?_⟩;cases k with
  | zero =>
   simp only [List.zip_cons_cons,List.getElem?_cons_zero,oJ,pJ] at hk;obtain ⟨rfl,rfl⟩:=hk;rw [zeS (fun j hj=>by simp;omega),zc2 (fun j hj=>by simp;omega)];exact h1
  | succ k =>
   simp only [List.zip_cons_cons,List.getElem?_cons_succ] at hk;have:=k4 k o' r' hk;simp only [List.zip_cons_cons,gF,mF];rw [if_pos (by simp),if_pos (by simp)];rwa [show i+(k+1)=i+1+k from by omega]
 | [],_,_,_,_,_,_::_,h=>by simp [zjK] at h
 | _::_,_,_,_,_,_,[],h=>by simp [zjK] at h
inductive Anc (ops:Array Oper):Nat->Nat->Prop where
 | edge {i j:Nat} {o:Oper} {e:Edge}:ops[j]?=some o->e∈o.after->Region.binds .any e=true->e.on=i->Anc ops i j
 | trans {i j:Nat} {o:Oper} {e:Edge}:ops[j]?=some o->e∈o.after->Region.binds .any e=true->Anc ops i e.on->Anc ops i j
def zkC (acc:List Nat) (o:Oper):Nat:=o.after.toList.foldl (fun s e=>if Region.binds .any e then s ||| 2^e.on ||| acc.getD e.on 0 else s) 0
def zlS:List Oper->List Nat->List Nat
 | [],acc=>acc
 | o::r,acc=>zlS r (acc++[zkC acc o])
theorem zkB {acc:List Nat} {o:Oper} {i:Nat} (h:(zkC acc o).testBit i=true):∃ e∈o.after,Region.binds .any e=true∧(e.on=i∨(acc.getD e.on 0).testBit i=true):=by
 have key:∀ (l:List Edge) (s:Nat),(l.foldl (fun s e=>if Region.binds .any e then s ||| 2^e.on ||| acc.getD e.on 0 else s) s).testBit i=true->s.testBit i=true∨∃ e∈l,Region.binds .any e=true∧(e.on=i∨(acc.getD e.on 0).testBit i=true):=by
  intro l;induction l with
  | nil=>intro s hs;exact .inl hs
  | cons e l ih =>
   intro s hs;simp only [List.foldl_cons] at hs;rcases ih _ hs with h1|⟨e',h1,h2⟩
   ·split at h1
    ·rename_i hb;rw [Nat.testBit_or,Nat.testBit_or,Bool.or_eq_true,Bool.or_eq_true] at h1;rcases h1 with (h1|h1)|h1
     ·exact .inl h1
     ·rw [Nat.testBit_two_pow] at h1;exact .inr ⟨e,by simp,hb,.inl (by simpa using h1)⟩
     ·exact .inr ⟨e,by simp,hb,.inr h1⟩
    ·exact .inl h1
   ·exact .inr ⟨e',by simp [h1],h2⟩
 rcases key _ 0 h with h1|⟨e,h1,h2⟩
 ·simp at h1
 ·exact ⟨e,Array.mem_toList_iff.1 h1,h2⟩
theorem zd5 {ops:Array Oper}:∀ (l:List Oper) (acc:List Nat),(∀ j,l[j]?=ops[acc.length+j]?)->(∀ j i,(acc.getD j 0).testBit i=true->Anc ops i j)->∀ j i,((zlS l acc).getD j 0).testBit i=true->Anc ops i j
 | [],acc,_,h,j,i,hb=>h j i hb
 | o::l,acc,hl,h,j,i,hb=>by
  refine zd5 l (acc++[zkC acc o]) (fun j=>?_) (fun j i hb=>?_) j i hb
  ·have:=hl (j+1);simp only [List.getElem?_cons_succ,List.length_append,List.length_singleton] at this ⊢;rw [this];congr 1;omega
  ·by_cases h1:j<acc.length
   ·exact h j i (by rwa [List.getD_eq_getElem?_getD,List.getElem?_append_left h1,<- List.getD_eq_getElem?_getD] at hb)
   ·by_cases h2:j=acc.length
    ·subst h2;rw [List.getD_eq_getElem?_getD,List.getElem?_append_right (Nat.le_refl _)] at hb;simp at hb;obtain ⟨e,he,hb1,hb2⟩:=zkB hb;have ho:ops[acc.length]?=some o:=by have:=hl 0;simpa using this.symm
     rcases hb2 with hb2|hb2
     ·exact .edge ho he hb1 hb2
     ·exact .trans ho he hb1 (h _ _ hb2)
    ·rw [List.getD_eq_getElem?_getD,List.getElem?_eq_none (by simp;omega)] at hb;simp at hb
def zbs (X:AX) (ops:Array Oper) (x y:Oper):Bool :=!(Oper.apart ops x y)||(opW X x.op&&!zbW X y.op)||(opW X y.op&&!zbW X x.op)
def zrM (X:AX) (ops:Array Oper):Bool :=Region.noSelect ops &&
 ops.toList.zipIdx.all (fun p=>p.1.after.all fun e=>!Region.binds .any e||decide (e.on<p.2)) &&
 ops.toList.zipIdx.all (fun p=>ops.toList.zipIdx.all fun q=>!(decide (p.2<q.2))||!zbs X ops p.1 q.1||((zlS ops.toList []).getD q.2 0).testBit p.2)
structure Ord (X:AX) (ops:Array Oper):Prop where
 back:∀ j o,ops[j]?=some o->∀ e∈o.after,Region.binds .any e=true->e.on<j
 conf:∀ i j x y,ops[i]?=some x->ops[j]?=some y->i<j->zbs X ops x y=true->Anc ops i j
theorem zuq {X:AX} {ops:Array Oper} (h:zrM X ops=true):Ord X ops:=by
 simp only [zrM,Bool.and_eq_true] at h;obtain ⟨⟨_,h1⟩,h2⟩:=h;have hz:∀ j o,ops[j]?=some o->(o,j)∈ops.toList.zipIdx:=fun j o ho=>by rw [List.mem_zipIdx_iff_getElem?];simpa using ho
 refine ⟨fun j o ho e he hb=>?_,fun i j x y hx hy hij hc=>?_⟩
 ·have:=List.all_eq_true.1 h1 _ (hz j o ho);simp only [Array.all_eq_true'] at this;have:=this e he;simpa [hb] using this
 ·have h3:=List.all_eq_true.1 (List.all_eq_true.1 h2 _ (hz i x hx)) _ (hz j y hy);simp only [hij,decide_true,Bool.not_true,hc,Bool.false_or] at h3;exact zd5 ops.toList [] (fun j=>by simp) (fun j i hb=>by simp at hb) j i h3
theorem zgg {α:Type} {p q:α->Bool}:∀ {l:List α},(∀ x,q x=true->p x=true)->(∃ x∈l,p x=true∧q x=false)->l.countP q<l.countP p
 | [],_,h=>by simp at h
 | a::l,h,⟨x,hx,h1,h2⟩=>by
  have hle:l.countP q<=l.countP p:=List.countP_mono_left fun y _=>h y;rcases List.mem_cons.1 hx with rfl|hx
  ·rw [List.countP_cons_of_pos h1,List.countP_cons_of_neg (by simp [h2])];omega
  ·have ih:=zgg h ⟨x,hx,h1,h2⟩;rw [List.countP_cons,List.countP_cons];have:(if q a=true then 1 else 0)<=(if p a=true then 1 else 0):=by
    split
    ·rename_i hq;rw [if_pos (h a hq)];exact Nat.le_refl _
    ·exact Nat.zero_le _
   omega
theorem za7 {P:Program} {T:TypeId->Option TD} {X:AX} (hX:XOK P X) {ops:Array Oper} {N:Nat} {o:Oper} {g:Nat->AV} {m:Nat->AO} {nid:Nat} {r:Rec} (h:zaz T X ops N o g m nid r) :
  ∀ b∈r.2.map (·.1),(nid<=b∧b<nid+16)∨(opW X o.op=true∧m b≠.dead):=by
 obtain ⟨_,h⟩:=h;cases hg:o.guard with
 | none=>simp only [hg] at h;exact zeB hX h
 | some jw =>
  obtain ⟨j,want⟩:=jw;simp only [hg] at h;obtain ⟨d,b,_,_,h4⟩:=h;split at h4
  ·exact zeB hX h4
  ·subst h4;simp
theorem zdQ {T:TypeId->Option TD} {X:AX} {op:Op} {ev:Operand->AV} {M:Nat->AO} {nid:Nat} {r:Rec} (h:zbW X op=true) (hs:zav T X op ev M nid=some r):r.2=[]:=by
 cases op<;>simp only [zbW,Bool.false_eq_true] at h<;>simp only [zav] at hs
 case move=>simp only [oJ] at hs;rw [<- hs]
 case assign=>simp only [oJ] at hs;rw [<- hs]
 case pick =>split at hs<;>simp only [oJ,reduceCtorEq] at hs;rw [<- hs]
 case extract =>
  split at hs
  ·split at hs<;>simp only [oJ,reduceCtorEq] at hs;rw [<- hs]
  ·simp at hs
 case nilCheck =>split at hs<;>simp only [oJ,reduceCtorEq] at hs;all_goals rw [<- hs]
 case slice t x lo hi mx =>
  cases hi with
  | some hi=>simp at h
  | none=>cases mx<;>simp only [reduceCtorEq] at hs;exact pRu hs
 case makeFunc fn first caps =>cases fn<;>simp only [reduceCtorEq] at hs;split at hs<;>simp only [oJ,reduceCtorEq] at hs;rw [<- hs]
 case call c =>
  obtain ⟨callee,args,argTypes⟩:=c;cases callee<;>simp only [Bool.false_eq_true] at h;rename_i b;cases b<;>simp only [Bool.false_eq_true] at h
  all_goals
   simp only [zdc] at hs;split at hs<;>first|exact pRu hs|(rename_i hh _ _;cases hh)|(simp at hs)
 all_goals exact pRu hs
theorem ziD {T:TypeId->Option TD} {X:AX} {ops:Array Oper} {N:Nat} {o:Oper} {g:Nat->AV} {m:Nat->AO} {nid:Nat} {r:Rec} (hp:zbW X o.op=true) (h:zaz T X ops N o g m nid r):r.2=[]:=by
 obtain ⟨_,h⟩:=h;cases hg:o.guard with
 | none=>simp only [hg] at h;exact zdQ hp h
 | some jw =>
  obtain ⟨j,want⟩:=jw;simp only [hg] at h;obtain ⟨d,b,_,_,h4⟩:=h;split at h4
  ·exact zdQ hp h4
  ·subst h4;rfl
theorem zj5 {ops:Array Oper} {o:Oper} {t:Nat} (h:Operand.tmp t∈o.op.operands):t∈o.looksAt ops:=by unfold Oper.looksAt;rw [List.mem_append];left;rw [List.mem_filterMap];exact ⟨.tmp t,by simpa using h,rfl⟩
theorem zhS {ops:Array Oper} {o:Oper} {j d:Nat} {want:Bool} (hg:o.guard=some (j,want)) (hj:(ops[j]?).bind (·.dst)=some d):d∈o.looksAt ops:=by unfold Oper.looksAt;rw [List.mem_append];right;simp [hg,hj]
theorem zcu {T:TypeId->Option TD} {X:AX} {ops:Array Oper} {N:Nat} {o:Oper} {g g':Nat->AV} {m m':Nat->AO} {nid:Nat} {r:Rec} (h:zaz T X ops N o g m nid r)
  (hg:∀ t∈o.looksAt ops,g t=g' t) (hm:m=m'∨zbW X o.op=true):zaz T X ops N o g' m' nid r:=by
 obtain ⟨hd,h⟩:=h;refine ⟨hd,?_⟩;have he:∀ r,zav T X o.op (zff g) m nid=some r->zav T X o.op (zff g') m' nid=some r:=fun r hr=>by
  rw [<- hr];have h1:zav T X o.op (zff g') m' nid=zav T X o.op (zff g) m' nid:=zkA fun x hx=>by
   cases x<;>try rfl
   rename_i t;exact (hg t (zj5 hx)).symm
  rw [h1];rcases hm with rfl|hp
  ·rfl
  ·exact zmz hp
 cases hgd:o.guard with
 | none=>simp only [hgd] at h ⊢;exact he r h
 | some jw =>
  obtain ⟨j,want⟩:=jw;simp only [hgd] at h ⊢;obtain ⟨d,b,h1,h2,h4⟩:=h;refine ⟨d,b,h1,by rw [<- hg d (zhS hgd h1)];exact h2,?_⟩;split at h4
  ·rename_i hb;rw [if_pos hb];exact he r h4
  ·rename_i hb;rw [if_neg hb];exact h4
section
variable {P:Program} {X:AX} {ops:Array Oper} {N base:Nat} {rs:List Rec} {g0 g':Nat->AV} {m0 m':Nat->AO}
theorem znQ (hX:XOK P X) (hz:∀ k o r,(ops.toList.zip rs)[k]?=some (o,r)->zaz (za P) X ops N o (gF (ops.toList.zip rs) 0 (fun j=>decide (j<0+k)) g0) (mF (ops.toList.zip rs) 0 (fun j=>decide (j<0+k)) m0) (base+16*(0+k)) r)
  (hm0:∀ b,m0 b≠.dead->b<base):∀ k b,mF (ops.toList.zip rs) 0 (fun j=>decide (j<k)) m0 b≠.dead->b<base∨∃ j,j<k∧base+16*j<=b∧b<base+16*j+16∧∃ o r,(ops.toList.zip rs)[j]?=some (o,r)∧r.2≠[]:=by
 intro k;induction k with
 | zero =>
  intro b hb;rw [zc2 (fun j _=>by simp)] at hb;exact .inl (hm0 b hb)
 | succ k ih =>
  intro b hb;cases hk:(ops.toList.zip rs)[k]? with
  | none =>
   have:mF (ops.toList.zip rs) 0 (fun j=>decide (j<k+1)) m0 b=mF (ops.toList.zip rs) 0 (fun j=>decide (j<k)) m0 b:=zej rfl fun j o r hj _=>by have h1:=(List.getElem?_eq_some_iff.1 hj).1;have h2:=List.getElem?_eq_none_iff.1 hk;simp only [Nat.zero_add,decide_eq_decide];omega
   rw [this] at hb;rcases ih b hb with h1|⟨j,h1,h2⟩
   ·exact .inl h1
   ·exact .inr ⟨j,by omega,h2⟩
  | some p =>
   obtain ⟨o,r⟩:=p;by_cases hd:b∈r.2.map (·.1)
   ·rcases za7 hX (hz k o r hk) b hd with h1|⟨_,h1⟩
    ·exact .inr ⟨k,by omega,by omega,by omega,o,r,hk,fun e=>by rw [e] at hd;simp at hd⟩
    ·simp only [Nat.zero_add] at h1;rcases ih b h1 with h2|⟨j,h2,h3⟩
     ·exact .inl h2
     ·exact .inr ⟨j,by omega,h3⟩
   ·have:mF (ops.toList.zip rs) 0 (fun j=>decide (j<k+1)) m0 b=mF (ops.toList.zip rs) 0 (fun j=>decide (j<k)) m0 b:=zej rfl fun j o' r' hj hb'=>by
     have:j≠k:=fun e=>by subst e;rw [hk] at hj;simp at hj;rw [hj.2] at hd;exact hd hb'
     simp only [Nat.zero_add,decide_eq_decide];omega
    rw [this] at hb;rcases ih b hb with h1|⟨j,h1,h2⟩
    ·exact .inl h1
    ·exact .inr ⟨j,by omega,h2⟩
theorem zdw {listed:Array Bool} (hdown:∀ j o,ops[j]?=some o->listed.getD j false=true->∀ e∈o.after,Region.binds .any e=true->listed.getD e.on false=true) {i j:Nat} (h:Anc ops i j) :
  (listed.getD j false=true∨∃ o,ops[j]?=some o∧∀ e∈o.after,Region.binds .any e=true->listed.getD e.on false=true)->listed.getD i false=true:=by
 induction h with
 | edge ho he hb hi =>
  subst hi;intro hh;rcases hh with hh|⟨o',ho',hall⟩
  ·exact hdown _ _ ho hh _ he hb
  ·rw [ho] at ho';simp at ho';subst ho';exact hall _ he hb
 | trans ho he hb _ ih =>
  intro hh;refine ih (.inl ?_);rcases hh with hh|⟨o',ho',hall⟩
  ·exact hdown _ _ ho hh _ he hb
  ·rw [ho] at ho';simp at ho';subst ho';exact hall _ he hb
theorem zrC {w0:World} {bl:Bk} {Q:Exit->Act->World->Prop} (hX:XOK P X) (hO:Ord X ops) (hrecs:zjK (za P) X ops N base ops.toList 0 g0 m0 rs g' m') (hm0:∀ b,m0 b≠.dead->b<base)
  (hq:∀ E a w,zdd N w0 bl E a w g' m'->(∀ b,E.alive b->b<base+16*ops.size)->Q .normal a w) :
  ∀ (fuel:Nat) (listed:Array Bool) (E:Env) (a:Act) (w:World),listed.size=ops.size->(List.range ops.size).countP (fun j=>!(listed.getD j false))<=fuel ->
   (∀ j o,ops[j]?=some o->listed.getD j false=true->∀ e∈o.after,Region.binds .any e=true->listed.getD e.on false=true) ->
   zdd N w0 bl E a w (gF (ops.toList.zip rs) 0 (fun j=>listed.getD j false) g0) (mF (ops.toList.zip rs) 0 (fun j=>listed.getD j false) m0) ->
   (∀ b,E.alive b->b<base∨∃ j,listed.getD j false=true∧base+16*j<=b∧b<base+16*j+16)->wpAny P .any ops Q fuel listed a w:=by
 obtain ⟨hlen,hg',hm',hz⟩:=zjX hrecs;have hzl:(ops.toList.zip rs).length=ops.size:=by simp [hlen]
 have hzget:∀ j o,ops[j]?=some o->∃ r,(ops.toList.zip rs)[j]?=some (o,r):=fun j o ho=>by
  have hj:j<ops.size:=(Array.getElem?_eq_some_iff.1 ho).1;have:j<(ops.toList.zip rs).length:=by omega
  refine ⟨rs[j]'(by rw [hlen];simpa using hj),?_⟩;rw [List.getElem?_eq_getElem this,List.getElem_zip];congr 2;have:=(Array.getElem?_eq_some_iff.1 ho).2;simpa using this
 have hzop:∀ {j o r},(ops.toList.zip rs)[j]?=some (o,r)->ops[j]?=some o:=fun {j o r} h=>by
  have h1:=(List.getElem?_eq_some_iff.1 h).2;have hj:=(List.getElem?_eq_some_iff.1 h).1;rw [List.getElem_zip] at h1;simp only [pJ] at h1;have hj':j<ops.size:=by omega
  rw [Array.getElem?_eq_getElem hj'];congr 1;simpa using h1.1
 have done:∀ (listed:Array Bool) (E:Env) (a:Act) (w:World),(∀ j,j<ops.size->listed.getD j false=true)->zdd N w0 bl E a w (gF (ops.toList.zip rs) 0 (fun j=>listed.getD j false) g0) (mF (ops.toList.zip rs) 0 (fun j=>listed.getD j false) m0) ->
   (∀ b,E.alive b->b<base∨∃ j,listed.getD j false=true∧base+16*j<=b∧b<base+16*j+16)->listed.size=ops.size->Q .normal a w:=fun listed E a w hall hs hal hsz=>by
  have e1:gF (ops.toList.zip rs) 0 (fun j=>listed.getD j false) g0=g':=by rw [hg'];funext t;exact zjb rfl fun j o r hj _=>by simp only [Nat.zero_add];exact hall j (by have:=(List.getElem?_eq_some_iff.1 hj).1;omega)
  have e2:mF (ops.toList.zip rs) 0 (fun j=>listed.getD j false) m0=m':=by rw [hm'];funext t;exact zej rfl fun j o r hj _=>by simp only [Nat.zero_add];exact hall j (by have:=(List.getElem?_eq_some_iff.1 hj).1;omega)
  rw [e1,e2] at hs;refine hq E a w hs fun b hb=>?_;rcases hal b hb with h1|⟨j,h1,h2,h3⟩
  ·omega
  ·have:j<ops.size:=by
    rw [<- hsz];by_cases hj:j<listed.size
    ·exact hj
    ·rw [Array.getD_eq_getD_getElem?,Array.getElem?_eq_none (by omega)] at h1;simp at h1
   omega
 intro fuel;induction fuel with
 | zero =>
  intro listed E a w hsz hcnt hdown hs hal;have hall:∀ j,j<ops.size->listed.getD j false=true:=fun j hj=>by
   have h0:(List.range ops.size).countP (fun j=>!(listed.getD j false))=0:=by omega
   have:=List.countP_eq_zero.1 h0 j (List.mem_range.2 hj);simpa using this
  refine ⟨?_,done listed E a w hall hs hal hsz⟩;apply List.eq_nil_iff_forall_not_mem.2;intro j hj;obtain ⟨h1,o,ho,_⟩:=mem_ready.1 hj;have hj':j<ops.size:=(Array.getElem?_eq_some_iff.1 ho).1;have h2:=hall j hj';rw [Array.getD_eq_getD_getElem?,Array.getElem?_eq_getElem (by omega)] at h1 h2;simp at h1 h2;rw [h1] at h2;simp at h2
 | succ fuel ih =>
  intro listed E a w hsz hcnt hdown hs hal;refine ⟨fun hnil=>?_,fun i hi=>?_⟩
  ·refine done listed E a w ?_ hs hal hsz;intro j;induction j using Nat.strongRecOn with
   | _ j ihj =>
    intro hj;cases hl:listed.getD j false with
    | true=>rfl
    | false =>
     exfalso;have ho:ops[j]?=some ops[j]:=Array.getElem?_eq_getElem hj;have:j∈Region.ready .any ops listed:=mem_ready.2 ⟨?_,_,ho,fun e he hb=>?_⟩
     ·rw [hnil] at this;simp at this
     ·rw [Array.getD_eq_getD_getElem?,Array.getElem?_eq_getElem (by omega)] at hl ⊢;simpa using hl
     ·have hlt:=hO.back j _ ho e he hb;exact ihj e.on hlt (by omega)
  ·obtain ⟨hi0,o,ho,hdeps⟩:=mem_ready.1 hi;have hilt:i<ops.size:=(Array.getElem?_eq_some_iff.1 ho).1;have hLi:listed.getD i false=false:=by rw [Array.getD_eq_getD_getElem?,Array.getElem?_eq_getElem (by omega)] at hi0 ⊢;simpa using hi0
   obtain ⟨r,hzi⟩:=hzget i o ho;have hstep:=hz i o r hzi;simp only [Nat.zero_add] at hstep;have before:∀ {j},Anc ops j i->listed.getD j false=true:=fun h=>zdw hdown h (.inr ⟨o,ho,hdeps⟩);have behind:∀ {j},Anc ops i j->listed.getD j false=false:=fun {j} h=>by
    cases hj:listed.getD j false with
    | false=>rfl
    | true=>have:=zdw hdown h (.inl hj);rw [hLi] at this;simp at this
   have conf:∀ {j y},ops[j]?=some y->j≠i->(zbs X ops y o=true∧zbs X ops o y=true)->listed.getD j false=decide (j<i):=fun {j y} hy hne hc=>by
    rcases Nat.lt_or_gt_of_ne hne with hlt|hgt
    ·rw [before (hO.conf j i y o hy ho hlt hc.1)];simp [hlt]
    ·rw [behind (hO.conf i j o y ho hy hgt hc.2)];simp;omega
   have slotc:∀ {y:Oper} {t:Nat},y.dst=some t->(t∈o.looksAt ops∨o.dst=some t)->zbs X ops y o=true∧zbs X ops o y=true:=fun {y t} hy ht=>by
    have h1:Oper.apart ops y o=false:=by
     cases hap:Oper.apart ops y o with
     | false=>rfl
     | true =>
      obtain ⟨p1,p2,p3⟩:=Oper.apart_spec hap;rcases ht with ht|ht
      ·exact absurd ht (p1 t hy)
      ·exact absurd ht (p2 t hy)
    have h2:Oper.apart ops o y=false:=by
     cases hap:Oper.apart ops o y with
     | false=>rfl
     | true =>
      obtain ⟨p1,p2,p3⟩:=Oper.apart_spec hap;rcases ht with ht|ht
      ·exact absurd ht (p3 t hy)
      ·exact absurd hy (p2 t ht)
    simp [zbs,h1,h2]
   have memc:∀ {y:Oper},(opW X y.op=true∧zbW X o.op=false)∨(opW X o.op=true∧zbW X y.op=false)->zbs X ops y o=true∧zbs X ops o y=true:=fun {y} h=>by rcases h with ⟨h1,h2⟩|⟨h1,h2⟩<;>simp [zbs,h1,h2]
   have notpure:∀ {j:Nat} {y:Oper} {ry:Rec},(ops.toList.zip rs)[j]?=some (y,ry)->ry.2≠[]->zbW X y.op=false:=fun {j y ry} hj hne=>by
    cases hp:zbW X y.op with
    | false=>rfl
    | true=>exact absurd (ziD hp (hz j y ry hj)) hne
   have hgeq:∀ t∈o.looksAt ops,gF (ops.toList.zip rs) 0 (fun j=>decide (j<i)) g0 t=gF (ops.toList.zip rs) 0 (fun j=>listed.getD j false) g0 t:=fun t ht=>zjb rfl fun j y ry hj hd=>by
    simp only [Nat.zero_add];by_cases hji:j=i
    ·subst hji;rw [hLi];simp
    ·exact (conf (hzop hj) hji (slotc hd (.inl ht))).symm
   have hlive:=znQ hX hz hm0 i;have hmeq:zbW X o.op=false->∀ b,E.alive b->mF (ops.toList.zip rs) 0 (fun j=>decide (j<i)) m0 b≠.dead->mF (ops.toList.zip rs) 0 (fun j=>decide (j<i)) m0 b=mF (ops.toList.zip rs) 0 (fun j=>listed.getD j false) m0 b:=fun hp b hb hlv=>zej rfl fun j y ry hj hd=>by
    simp only [Nat.zero_add];by_cases hji:j=i
    ·subst hji;rw [hLi];simp
    ·have hry:ry.2≠[]:=fun e=>by rw [e] at hd;simp at hd
     cases hwy:opW X y.op with
     | true=>exact (conf (hzop hj) hji (memc (.inl ⟨hwy,hp⟩))).symm
     | false =>
      rcases za7 hX (hz j y ry hj) b hd with h1|⟨h1,_⟩
      ·simp only [Nat.zero_add] at h1;have hLj:listed.getD j false=true:=by
        rcases hal b hb with h2|⟨k,h2,h3,h4⟩
        ·omega
        ·have:k=j:=by omega
         subst this;exact h2
       have hji2:j<i:=by
        rcases hlive b hlv with h2|⟨k,h2,h3,h4,_⟩
        ·omega
        ·have:k=j:=by omega
         subst this;exact h2
       rw [hLj];simp [hji2]
      ·rw [hwy] at h1;simp at h1
   have hst:∃ mm,zaz (za P) X ops N o (gF (ops.toList.zip rs) 0 (fun j=>listed.getD j false) g0) mm (base+16*i) r∧zai E w mm:=by
    cases hp:zbW X o.op with
    | true=>exact ⟨_,zcu hstep hgeq (.inr hp),hs.mem⟩
    | false =>
     refine ⟨_,zcu hstep hgeq (.inl rfl),fun b hb=>?_⟩;by_cases hlv:mF (ops.toList.zip rs) 0 (fun j=>decide (j<i)) m0 b=.dead
     ·rw [hlv];trivial
     ·rw [hmeq hp b hb hlv];exact hs.mem b hb
   obtain ⟨mm,hst1,hst2⟩:=hst;have hs':zdd N w0 bl E a w (gF (ops.toList.zip rs) 0 (fun j=>listed.getD j false) g0) mm:=⟨hs.defers,hs.size,hs.inv,hst2,hs.slots⟩
   have hfree:∀ k,base+16*i<=k->k<base+16*i+16->¬ E.alive k:=fun k h1 h2 h3=>by
    rcases hal k h3 with h4|⟨j,h4,h5,h6⟩
    ·omega
    ·have:j=i:=by omega
     subst this;rw [hLi] at h4;simp at h4
   have hset:∀ j,(listed.setIfInBounds i true).getD j false=if i=j then true else listed.getD j false:=fun j=>by
    by_cases e:i=j
    ·subst e;simp [Array.getD_eq_getD_getElem?,hsz,hilt]
    ·simp [Array.getD_eq_getD_getElem?,Array.getElem?_setIfInBounds_ne e,e]
   have hgnew:gF (ops.toList.zip rs) 0 (fun j=>(listed.setIfInBounds i true).getD j false) g0=zfI (gF (ops.toList.zip rs) 0 (fun j=>listed.getD j false) g0) o.dst r.1:=by
    funext t;by_cases hd:o.dst=some t
    ·rw [zfI,if_pos hd];refine zkl hzi (by simp [hset]) hd fun j y ry hij hj hyd=>?_;simp only [Nat.zero_add,hset];rw [if_neg (by omega)];have:=conf (hzop hj) (by omega) (slotc hyd (.inr hd));rw [this];simp;omega
    ·rw [zfI,if_neg hd];refine zjb rfl fun j y ry hj hyd=>?_;simp only [Nat.zero_add,hset];rw [if_neg fun e=>?_];subst e;rw [hzi] at hj;simp only [oJ,pJ] at hj;rw [hj.1] at hd;exact hd hyd
   have hmnew:mF (ops.toList.zip rs) 0 (fun j=>(listed.setIfInBounds i true).getD j false) m0=zbP (mF (ops.toList.zip rs) 0 (fun j=>listed.getD j false) m0) r.2:=by
    funext b;by_cases hd:b∈r.2.map (·.1)
    ·refine zj7 hzi (by simp [hset]) hd (fun j y ry hij hj hyd=>?_) _;simp only [Nat.zero_add,hset];rw [if_neg (by omega)];have hr0:r.2≠[]:=fun e=>by rw [e] at hd;simp at hd
     have hry:ry.2≠[]:=fun e=>by rw [e] at hyd;simp at hyd
     by_cases hw:opW X o.op=true∨opW X y.op=true
     ·have hc:=memc (y:=y) (hw.elim (fun h=>.inr ⟨h,notpure hj hry⟩) fun h=>.inl ⟨h,notpure hzi hr0⟩);rw [conf (hzop hj) (by omega) hc];simp;omega
     ·rcases za7 hX (hz i o r hzi) b hd with h1|⟨h1,_⟩
      ·rcases za7 hX (hz j y ry hj) b hyd with h2|⟨h2,_⟩
       ·omega
       ·exact absurd (.inr h2) hw
      ·exact absurd (.inl h1) hw
    ·rw [zde hd];refine zej rfl fun j y ry hj hyd=>?_;simp only [Nat.zero_add,hset];rw [if_neg fun e=>?_];subst e;rw [hzi] at hj;simp only [oJ,pJ] at hj;rw [hj.2] at hd;exact hd hyd
   have key:=zhu hX (Q:=Q) (next:=wpAny P .any ops Q fuel (listed.setIfInBounds i true)) hs' hst1 hfree fun E' a' w' st hs2=>by
    refine ih _ E' a' w' (by simp [hsz]) ?_ ?_ ?_ ?_
    ·have:(List.range ops.size).countP (fun j=>!((listed.setIfInBounds i true).getD j false))<(List.range ops.size).countP (fun j=>!(listed.getD j false)):=by
      refine zgg (fun x hx=>?_) ⟨i,List.mem_range.2 hilt,by simp [hLi],by simp [hset]⟩;rw [hset] at hx;split at hx
      ·simp at hx
      ·exact hx
     omega
    ·intro j y hy hj e he hb;rw [hset] at hj ⊢;split
     ·rfl
     ·split at hj
      ·rename_i hij;subst hij;rw [ho] at hy;simp at hy;subst hy;exact hdeps e he hb
      ·exact hdown j y hy hj e he hb
    ·rw [hgnew,hmnew];exact ⟨hs2.defers,hs2.size,hs2.inv,st.mem hs.inv hs.mem,hs2.slots⟩
    ·intro b hb;rcases st.alive b hb with h1|h1
     ·rcases hal b h1 with h2|⟨j,h2,h3⟩
      ·exact .inl h2
      ·exact .inr ⟨j,by rw [hset,h2];simp,h3⟩
     ·rcases za7 hX hstep b h1 with h2|⟨h2,h3⟩
      ·exact .inr ⟨i,by simp [hset],h2.1,h2.2⟩
      ·rcases hlive b h3 with h4|⟨j,h4,h5,h6,y,ry,h7,h8⟩
       ·exact .inl h4
       ·refine .inr ⟨j,?_,h5,h6⟩;rw [hset,before (hO.conf j i y o (hzop h7) ho h4 (memc (.inr ⟨h2,notpure h7 h8⟩)).1)];simp
   unfold wpOp;simp only [ho];split
   ·rename_i hw;rw [if_pos hw] at key;exact .inl key
   ·rename_i hw;rw [if_neg hw] at key;exact key
end
theorem ziM {P:Program} {X:AX} (hX:XOK P X) (hmix:P.follows .mixedOrders=true) {id N:Nat} {ops:Array Oper} {w0:World} {bl:Bk} {a:Act} {w:World} {st st':St} {Q:Exit->Act->World->Prop}
  (hs:Sat N w0 bl a w st) (hO:zrM X ops=true) (hr:zeW (za P) X N ops st=some st') (hq:∀ a' w',Sat N w0 bl a' w' st'->Q .normal a' w'):(Code.region id ops true).wp P Q a w:=by
 unfold zeW at hr;cases hh:zjw (za P) X ops N st.nx ops.toList 0 st.s st.m<;>simp only [hh,reduceCtorEq,oJ] at hr;rename_i sm;obtain ⟨s,m⟩:=sm;obtain rfl:=hr;obtain ⟨rs,hrs⟩:=zaR hh;obtain ⟨E,h1,h2,h3⟩:=hs;have hinv:Inv w0 bl E { w with drawn:=w.drawn+1 }:=(StT.refl (w':={ w with drawn:=w.drawn+1 }) h1.inv rfl rfl rfl).inv;have hs1:zdd N w0 bl E a { w with drawn:=w.drawn+1 } (zn st.s) (zb st.m) :=⟨h1.defers,h1.size,hinv,fun b hb=>ObR.mono (w:=w) (w':={ w with drawn:=w.drawn+1 }) (Env.Le.refl E) (fun _ _=>rfl) rfl rfl (fun _ _ _ _=>rfl) (h1.mem b hb),fun t=>Rep.mono (w:=w) (w':={ w with drawn:=w.drawn+1 }) (Env.Le.refl E) (fun _ _=>rfl) (h1.slots t)⟩
 have hlist:∀ j,(Array.replicate ops.size false).getD j false=false:=fun j=>by rw [Array.getD_eq_getD_getElem?,Array.getElem?_replicate];split<;>rfl
 have hfin:∀ k,zb m k≠.dead->k<st.nx+16*ops.size:=fun k hk=>by
  obtain ⟨hlen,hg',hm',hz⟩:=zjX hrs;rw [hm'] at hk;have hk':mF (ops.toList.zip rs) 0 (fun j=>decide (j<ops.size)) (zb st.m) k≠.dead:=by rwa [zej (L':=fun _=>true) rfl fun j o r hj _=>by have:=(List.getElem?_eq_some_iff.1 hj).1;simp at this;simp;omega]
  rcases znQ hX hz h3 ops.size k hk' with h4|⟨j,h4,h5,h6,_⟩
  ·omega
  ·omega
 refine wp_region_any hmix (zrC hX (zuq hO) hrs h3 (fun E' a' w' k1 k2=>hq a' w' ⟨E',k1,k2,hfin⟩) ops.size _ E a _ (by simp) ?_ (fun j o _ hj=>by rw [hlist] at hj;simp at hj) ?_ (fun b hb=>.inl (h2 b hb)))
 ·refine Nat.le_trans List.countP_le_length ?_;simp
 ·rw [zeS (fun j _=>hlist j),zc2 (fun j _=>hlist j)];exact hs1
end Go.AM
namespace Go.AM
open Go
structure Cx where
 P:Program
 X:AX
 N:Nat
 w0:World
 bl:Bk
structure Cx.OK (c:Cx):Prop where
 x:XOK c.P c.X
 mixed:c.P.follows .mixedOrders=true
def AW (c:Cx) (k:Code) (st:St) (Q:Exit->St->Prop):Prop :=∀ a w,Sat c.N c.w0 c.bl a w st->k.wp c.P (fun e a' w'=>∃ st',Q e st'∧Sat c.N c.w0 c.bl a' w' st') a w
def Le (n:Nat) (st st':St):Prop:=∀ N w0 bl a w,bl.n=n->Sat N w0 bl a w st->Sat N w0 bl a w st'
theorem Le.refl (n:Nat) (st:St):Le n st st:=fun _ _ _ _ _ _ h=>h
theorem Le.trans {n:Nat} {a b c:St} (h:Le n a b) (k:Le n b c):Le n a c:=fun _ _ _ _ _ e s=>k _ _ _ _ _ e (h _ _ _ _ _ e s)
section
variable {c:Cx} {st:St} {Q:Exit->St->Prop}
theorem zaf (h:Q .normal st):AW c .skip st Q:=fun _ _ hs=>wp_skip ⟨st,h,hs⟩
theorem zag {id:Nat} (h:Q (.exit id) st):AW c (.exit id) st Q:=fun _ _ hs=>wp_exit ⟨st,h,hs⟩
theorem zar (h:Q .ret st):AW c .ret st Q:=fun _ _ hs=>wp_ret ⟨st,h,hs⟩
def ze (N:St->Prop) (Q:Exit->St->Prop):Exit->St->Prop
 | .normal,st=>N st
 | e,st=>Q e st
theorem zkz {k:Code} {Q':Exit->St->Prop} (h:AW c k st Q) (hq:∀ e st,Q e st->Q' e st):AW c k st Q':=fun a w hs =>
 wp_mono (h a w hs) fun e _ _ ⟨st',h1,h2⟩=>⟨st',hq e st' h1,h2⟩
theorem zvV {x y:Code} (h:AW c x st (ze (fun st'=>AW c y st' Q) Q)):AW c (.seq x y) st Q:=fun a w hs =>
 wp_seq (wp_mono (h a w hs) fun e _ _ ⟨st',h1,h2⟩=>by cases e<;>first|exact h1 _ _ h2|exact ⟨st',h1,h2⟩)
theorem aSk {x y:Code} (h:∀ K:St->Prop,(∀ st',AW c y st' Q->K st')->AW c x st (ze K Q)):AW c (.seq x y) st Q:=zvV (h _ fun _ h=>h)
theorem zoL {id:Nat} {ops:Array Oper} {d:Bool} (hc:c.OK) (hO:d=true->zrM c.X ops=true)
  (h:∃ st',zeW (za c.P) c.X c.N ops st=some st'∧Q .normal st'):AW c (.region id ops d) st Q:=fun a w hs=>by
 obtain ⟨st',h1,h2⟩:=h;cases d
 ·exact zgy hc.x hs h1 fun a' w' hs'=>⟨st',h2,hs'⟩
 ·exact ziM hc.x hc.mixed hs (hO rfl) h1 fun a' w' hs'=>⟨st',h2,hs'⟩
theorem aCd {o:Operand} {x y:Code} {b:Bool} (hb:aEv st.s o=.v (.bool b)) (ht:b=true->AW c x st Q) (hf:b=false->AW c y st Q):AW c (.cond o x y) st Q:=fun a w hs=>by
 have he:a.eval o=.bool b:=by obtain ⟨E,h1,_⟩:=hs;have:=h1.eval o;rw [<- zdR,hb] at this;simpa only [Rep,zd] using this
 exact wp_cond_split he (fun h=>ht h a w hs) (fun h=>hf h a w hs)
theorem eC {o:Operand} {x y:Code} {b:Bool} (ht:b=true->AW c x st Q) (hf:b=false->AW c y st Q) (hb:aEv st.s o=.v (.bool b):=by exact rfl):AW c (.cond o x y) st Q:=aCd hb ht hf
def bkQ (id:Nat) (Q:Exit->St->Prop):Exit->St->Prop
 | .exit id',st=>if id'=id then Q .normal st else Q (.exit id') st
 | e,st=>Q e st
theorem aBl {id:Nat} {x:Code} (h:AW c x st (bkQ id Q)):AW c (.block id x) st Q:=fun a w hs =>
  wp_block (wp_mono (h a w hs) fun e a' w' ⟨st',h1,h2⟩=>by
    cases e<;>first
      | exact ⟨st',h1,h2⟩
      | (simp only [bkQ] at h1
         simp only [Exit.inBlock];split at h1
         · rename_i e;rw [if_pos e];exact ⟨st',h1,h2⟩
         · rename_i e;rw [if_neg e];exact ⟨st',h1,h2⟩))
theorem zad {k:Code} {st':St} (hl:Le c.bl.n st st') (h:AW c k st' Q):AW c k st Q:=fun a w hs=>h a w (hl _ _ _ _ _ rfl hs)
theorem zgE {p:Nat->Prop} (h:∃ n,p n):∃ n,p n∧∀ m,p m->n<=m:=by
 obtain ⟨n,hn⟩:=h;induction n using Nat.strongRecOn with
 | _ n ih =>
  by_cases hh:∃ m,m<n∧p m
  ·obtain ⟨m,h1,h2⟩:=hh;exact ih m h1 h2
  ·exact ⟨n,hn,fun m hm=>Nat.le_of_not_lt fun hlt=>hh ⟨m,hlt,hm⟩⟩
open Classical in
theorem zoM {ι:Type} (S:ι->St) (μ:ι->Nat) (i0:ι) {x:Code} (h0:Le c.bl.n st (S i0))
  (round:∀ i,AW c x (S i) (ze (fun st'=>∃ i',Le c.bl.n st' (S i')∧μ i'<μ i) Q)):AW c (.loop x) st Q:=fun a w hs=>by
 let I:Act->World->Prop:=fun a w=>∃ i,Sat c.N c.w0 c.bl a w (S i)
 let M:Act->World->Nat:=fun a w=>if h:∃ n,∃ i,Sat c.N c.w0 c.bl a w (S i)∧μ i=n then (zgE h).choose else 0
 refine wp_loop I M ⟨i0,h0 _ _ _ _ _ rfl hs⟩ fun a w hI=>?_;have hex:∃ n,∃ i,Sat c.N c.w0 c.bl a w (S i)∧μ i=n:=let ⟨i,hi⟩:=hI;⟨μ i,i,hi,rfl⟩
 have hM:M a w=(zgE hex).choose:=dif_pos hex;obtain ⟨⟨i,hi,hmu⟩,hmin⟩:=(zgE hex).choose_spec;refine wp_mono (round i a w hi) fun e a' w' ⟨st',h1,h2⟩=>?_;cases e
 case normal =>
  obtain ⟨i',k1,k2⟩:=h1;have hs':=k1 _ _ _ _ _ rfl h2;refine ⟨⟨i',hs'⟩,?_⟩;have hex':∃ n,∃ i,Sat c.N c.w0 c.bl a' w' (S i)∧μ i=n:=⟨μ i',i',hs',rfl⟩
  have hM':M a' w'=(zgE hex').choose:=dif_pos hex';rw [hM,hM',<- hmu];have:=(zgE hex').choose_spec.2 _ ⟨i',hs',rfl⟩;omega
 all_goals exact ⟨st',h1,h2⟩
end
mutual
def AV.under (n:Nat):AV->Prop
 | .bp b _|.sl b _ _ _ _|.ep b _ _ _ _|.bs b _ _ _|.mp b _=>b<n
 | .agg cs|.tup cs|.fn _ cs|.ifc _ cs=>AV.underL n cs
 | _=>True
def AV.underL (n:Nat):List AV->Prop
 | []=>True
 | a::r=>a.under n∧AV.underL n r
end
def AO.under (n:Nat):AO->Prop
 | .box cs=>AV.underL n cs
 | .vo _ _ _ _ e=>AV.underL n e
 | _=>True
def Env.trim (E:Env) (n:Nat):Env:={ E with alive:=fun b=>E.alive b∧b<n }
mutual
theorem Rep.trim {E:Env} {w:World} {n:Nat}:∀ {a:AV} {x:Value},a.under n->Rep E w a x->Rep (E.trim n) w a x
 | .bp b o,x,hb,h=>by simp only [Rep,AV.under] at h hb ⊢;exact ⟨⟨h.1,hb⟩,h.2⟩
 | .bs b o s k,x,hb,h=>by simp only [Rep,AV.under] at h hb ⊢;exact ⟨⟨h.1,hb⟩,h.2⟩
 | .mp b m,x,hb,h=>by simp only [Rep,AV.under] at h hb ⊢;exact ⟨⟨h.1,hb⟩,h.2⟩
 | .rm ..,_,_,h=>by simp only [Rep] at h ⊢;exact h
 | .om ..,_,_,h=>by simp only [Rep] at h ⊢;exact h
 | .sl b m s o k,x,hb,h=>by simp only [Rep,AV.under] at h hb ⊢;exact ⟨⟨h.1,hb⟩,h.2⟩
 | .ep b m s i j,x,hb,h=>by simp only [Rep,AV.under] at h hb ⊢;exact ⟨⟨h.1,hb⟩,h.2⟩
 | .agg cs,_,hb,h=>by
  simp only [Rep,AV.under] at h hb ⊢;obtain ⟨vs,h1,h2,h3⟩:=h;exact ⟨vs,h1,h2,RepL.trim hb h3⟩
 | .tup cs,_,hb,h=>by
  simp only [Rep,AV.under] at h hb ⊢;obtain ⟨vs,h1,h3⟩:=h;exact ⟨vs,h1,RepL.trim hb h3⟩
 | .fn f cs,_,hb,h=>by
  simp only [Rep,AV.under] at h hb ⊢;obtain ⟨vs,h1,h3⟩:=h;exact ⟨vs,h1,RepL.trim hb h3⟩
 | .ifc f cs,_,hb,h=>by
  simp only [Rep,AV.under] at h hb ⊢;obtain ⟨vs,h1,h3⟩:=h;exact ⟨vs,h1,RepL.trim hb h3⟩
 | .any,_,_,h=>by simp only [Rep] at h ⊢;exact h
 | .v _,_,_,h=>by simp only [Rep] at h ⊢;exact h
 | .rd ..,_,_,h=>by simp only [Rep] at h ⊢;exact h
 | .ow ..,_,_,h=>by simp only [Rep] at h ⊢;exact h
 | .rp ..,_,_,h=>by simp only [Rep] at h ⊢;exact h
 | .rf ..,_,_,h=>by simp only [Rep] at h ⊢;exact h
theorem RepL.trim {E:Env} {w:World} {n:Nat}:∀ {as:List AV} {xs:List Value},AV.underL n as->RepL E w as xs->RepL (E.trim n) w as xs
 | [],[],_,_=>by simp [RepL]
 | a::as,x::xs,hb,h=>by
  simp only [RepL,AV.underL] at h hb ⊢;exact ⟨Rep.trim hb.1 h.1,RepL.trim hb.2 h.2⟩
 | [],_::_,_,h=>by simp [RepL] at h
 | _::_,[],_,h=>by simp [RepL] at h
end
theorem ObR.trim {E:Env} {w:World} {n b:Nat}:∀ {o:AO},o.under n->ObR E w b o->ObR (E.trim n) w b o
 | .dead,_,_=>trivial
 | .vec ..,_,h=>h
 | .map ..,_,h=>h
 | .vo m s xs k e,hb,h=>by
  simp only [ObR,AO.under] at h hb ⊢;obtain ⟨h1,h2,kk,ke,blk,base,sz,c,t,vs,hl,k4,k5,k5',k6,k7,k8,k9⟩:=h;exact ⟨h1,h2,kk,ke,blk,base,sz,c,t,vs,hl,k4,k5,k5',k6,k7,k8.trim hb,k9⟩
 | .box cs,hb,h=>by simp only [ObR,AO.under] at h hb ⊢;obtain ⟨h1,blk,t,vs,h2,h3,h4,h5⟩:=h;exact ⟨h1,blk,t,vs,h2,h3,h4,h5.trim hb⟩
def zdT (a a':AV):Prop:=a'=.any∨a'=a∨(a=.v (.slice none 0 0)∧∃ s,a'=.rd s [])
theorem zdT.rep {E:Env} {w:World} {a a':AV} {x:Value} (h:zdT a a') (hr:Rep E w a x):Rep E w a' x:=by
 rcases h with rfl|rfl|⟨rfl,s,rfl⟩
 ·simp [Rep,zd]
 ·exact hr
 ·simp only [Rep,zd] at hr ⊢;subst hr;exact ⟨none,0,rfl,by simp,fun _=>rfl,.inl trivial⟩
def zjI:List AV->List AV->Prop
 | [],[]=>True
 | a::r,b::s=>zdT a b∧zjI r s
 | _,_=>False
theorem zjI.rep {E:Env} {w:World}:∀ {as bs:List AV} {xs:List Value},zjI as bs->RepL E w as xs->RepL E w bs xs
 | [],[],[],_,_=>by simp [RepL]
 | a::as,b::bs,x::xs,h,k=>by simp only [RepL,zjI] at h k ⊢;exact ⟨h.1.rep k.1,zjI.rep h.2 k.2⟩
 | [],[],_::_,_,h=>by simp [RepL] at h
 | _::_,_::_,[],_,h=>by simp [RepL] at h
 | [],_::_,_,h,_=>by simp [zjI] at h
 | _::_,[],_,h,_=>by simp [zjI] at h
def zeE (o o':AO):Prop:=o'=.dead∨o'=o∨∃ cs cs',o=.box cs∧o'=.box cs'∧zjI cs cs'
theorem zeE.rep {E:Env} {w:World} {b:Nat} {o o':AO} (h:zeE o o') (hr:ObR E w b o):ObR E w b o':=by
 rcases h with rfl|rfl|⟨cs,cs',rfl,rfl,h⟩
 ·trivial
 ·exact hr
 ·simp only [ObR] at hr ⊢;obtain ⟨h1,blk,t,vs,h2,h3,h4,h5⟩:=hr;exact ⟨h1,blk,t,vs,h2,h3,h4,h.rep h5⟩
theorem zls {s:List (Nat×AV)} {t:Nat}:zn s t=.any∨∃ p∈s,p.1=t∧p.2=zn s t:=by
 induction s with
 | nil=>exact .inl rfl
 | cons p r ih =>
  obtain ⟨k,a⟩:=p;simp only [zn];split
  ·rename_i e;exact .inr ⟨(k,a),by simp,e,rfl⟩
  ·rcases ih with h|⟨p,h1,h2⟩
   ·exact .inl h
   ·exact .inr ⟨p,by simp [h1],h2⟩
theorem zfr {m:List (Nat×AO)} {t:Nat}:zb m t=.dead∨∃ p∈m,p.1=t∧p.2=zb m t:=by
 induction m with
 | nil=>exact .inl rfl
 | cons p r ih =>
  obtain ⟨k,a⟩:=p;simp only [zb];split
  ·rename_i e;exact .inr ⟨(k,a),by simp,e,rfl⟩
  ·rcases ih with h|⟨p,h1,h2⟩
   ·exact .inl h
   ·exact .inr ⟨p,by simp [h1],h2⟩
theorem zxu {n:Nat} {s s':List (Nat×AV)} {m m':List (Nat×AO)} {nx nx':Nat} (hn:n<=nx') (hs:∀ p∈s',zdT (zn s p.1) p.2∧p.2.under nx') (hm:∀ p∈m',zeE (zb m p.1) p.2∧p.2.under nx'∧p.1<nx') :
  Le n ⟨s,m,nx⟩ ⟨s',m',nx'⟩:=fun N w0 bl a w hbn ⟨E,h,h1,h2⟩=>by
 refine ⟨E.trim nx',⟨h.defers,h.size,⟨h.inv.frame,⟨h.inv.gin.G,fun b hb=>⟨h.inv.gin.alive b hb,by have:=h.inv.low b hb;omega⟩,h.inv.gin.same⟩,h.inv.low,h.inv.gout,h.inv.good,fun b blk base sz hb=>h.inv.locs b blk base sz hb.1,fun b b' blk base sz base' sz' hb hb'=>h.inv.apart b b' blk base sz base' sz' hb.1 hb'.1⟩,fun b hb=>?_,fun t=>?_⟩,fun k hk=>hk.2,fun k hk=>?_⟩
 ·rcases zfr (m:=m') (t:=b) with e|⟨p,hp,rfl,e⟩
  ·rw [e];trivial
  ·have:=hm p hp;rw [<- e];exact (this.1.rep (h.mem _ hb.1)).trim this.2.1
 ·rcases zls (s:=s') (t:=t) with e|⟨p,hp,rfl,e⟩
  ·rw [e];simp [Rep,zd]
  ·have:=hs p hp;rw [<- e];exact (this.1.rep (h.slots _)).trim this.2
 ·rcases zfr (m:=m') (t:=k) with e|⟨p,hp,rfl,e⟩
  ·exact absurd e hk
  ·exact (hm p hp).2.2
def kpS (ks:List Nat) (s:List (Nat×AV)):List (Nat×AV):=ks.map fun k=>(k,zn s k)
theorem zms {ks:List Nat} {s:List (Nat×AV)} {t:Nat}:zn (kpS ks s) t=if t∈ks then zn s t else .any:=by
 induction ks with
 | nil=>rfl
 | cons k r ih =>
  simp only [kpS,List.map_cons,zn,List.mem_cons];by_cases e:k=t
  ·subst e;simp
  ·rw [if_neg e];simp only [kpS] at ih;rw [ih];simp [Ne.symm e]
end Go.AM
namespace Go.AM
open Go
def zas (w:World) (G:Nat->Prop):AV->Value->List Nat->Prop
 | .ow s xs,x,bl=>∃ p c,x=.slice p xs.length c∧xs.length<=c∧(p=none->c=0) ∧
   ((c=0∧bl=[])∨∃ blk base arr t,p=some ⟨blk,base,none⟩∧bl=[blk]∧w.heap[blk]?=some (.cells arr t (0,0))∧base+c*s<=arr.size∧(∀ y∈arr.toList,y.oneCell'=true)∧CRows w G s blk base xs)
 | .om n es,x,bl=>∃ blk ents clk,x=.map (some blk)∧bl=[blk]∧w.heap[blk]?=some (.map (List.toArray ents) clk)∧zkN w G n es ents clk
 | a,x,bl=>bl=[]∧zd w G a x
def OLv (w:World) (G:Nat->Prop):List AV->List Value->List Nat->Prop
 | [],[],bl=>bl=[]
 | a::as,x::xs,bl=>∃ b1 b2,bl=b1++b2∧zas w G a x b1∧OLv w G as xs b2
 | _,_,_=>False
def zdB (w:World) (G:Nat->Prop):AV->Value->List Nat->Prop
 | .agg cs,x,bl=>∃ vs:List Value,x=.agg vs.toArray∧(∀ y∈vs,y.oneCell'=true)∧OLv w G cs vs bl
 | a,x,bl=>zas w G a x bl
def zaY (w:World) (G:Nat->Prop):List AV->List Value->List Nat->Prop
 | [],[],bl=>bl=[]
 | a::as,x::xs,bl=>∃ b1 b2,bl=b1++b2∧zdB w G a x b1∧zaY w G as xs b2
 | _,_,_=>False
def zjF (w:World) (G:Nat->Prop):AV->Value->List Nat->Prop
 | .tup as,x,bl=>∃ vs:List Value,x=.tuple vs.toArray∧zaY w G as vs bl
 | a,x,bl=>zdB w G a x bl
def PSd (P:Program) (f:FuncId) (F:List AV->Option AV):Prop :=∀ (w:World) (G:Nat->Prop) (args:Array Value) (avs:List AV) (r:AV),F avs=some r->(∀ k,G k->k<w.heap.size)->CRL w G avs args.toList ->
  Calls P f args w fun e w'=>∃ x G' bl,e=.returned x∧zaV w [] w'∧(∀ k,G k->G' k)∧(∀ k,G' k->k<w'.heap.size∧(G k∨w.heap.size<=k)) ∧
   zjF w' G' r x bl∧bl.Nodup∧∀ k∈bl,k<w'.heap.size∧¬ G' k∧w.heap.size<=k
def lLf (M:Nat->AO):AV->Option (AV×List Nat)
 | .sl b m s o n=>match M b with
  | .vec m' s' _ xs=>if m=m'∧s=s'∧o+n<=xs.length then some (.ow s ((xs.drop o).take n),[b]) else none
  | _=>none
 | .v x=>some (.v x,[])
 | .any=>some (.any,[])
 | .rd s xs=>some (.rd s xs,[])
 | .rp cs=>some (.rp cs,[])
 | .mp b m=>match M b with
  | .map m' n es=>if m=m' then some (.om n es,[b]) else none
  | _=>none
 | .rm n es=>some (.rm n es,[])
 | _=>none
def lLs (M:Nat->AO):List AV->Option (List AV×List Nat)
 | []=>some ([],[])
 | a::r=>match lLf M a,lLs M r with
  | some (x,i),some (xs,is)=>some (x::xs,i++is)
  | _,_=>none
def zbY (M:Nat->AO):AV->Option (AV×List Nat)
 | .agg cs=>match lLs M cs with
  | some (xs,is)=>some (.agg xs,is)
  | none=>none
 | a=>lLf M a
def lVs (M:Nat->AO):List AV->Option (List AV×List Nat)
 | []=>some ([],[])
 | a::r=>match zbY M a,lVs M r with
  | some (x,i),some (xs,is)=>some (x::xs,i++is)
  | _,_=>none
def Cov (E:Env) (ids bl:List Nat):Prop:=∃ js:List Nat,js.Sublist ids∧js.map (fun b=>(E.loc b).map (·.1))=bl.map some∧∀ b∈js,E.alive b
theorem Cov.nil {E:Env}:Cov E [] []:=⟨[],by simp,by simp,by simp⟩
theorem Cov.append {E:Env} {i j b c:List Nat} (h:Cov E i b) (k:Cov E j c):Cov E (i++j) (b++c):=by obtain ⟨x,h1,h2,h3⟩:=h;obtain ⟨y,k1,k2,k3⟩:=k;exact ⟨x++y,h1.append k1,by simp [h2,k2],fun b hb=>(List.mem_append.1 hb).elim (h3 b) (k3 b)⟩
theorem Cov.nodup {E:Env} {w0:World} {b0:Bk} {w:World} (hI:Inv w0 b0 E w) {ids bl:List Nat} (h:Cov E ids bl) (hn:ids.Nodup):bl.Nodup:=by
 obtain ⟨js,h1,h2,h3⟩:=h;have hj:js.Nodup:=h1.nodup hn;clear h1 hn;induction js generalizing bl with
 | nil=>simp at h2;subst h2;simp
 | cons b js ih =>
  cases bl with
  | nil=>simp at h2
  | cons k bl =>simp only [List.map_cons,cJ] at h2;obtain ⟨e1,e2⟩:=h2;have hjj:=List.nodup_cons.1 hj;refine List.nodup_cons.2 ⟨fun hk=>?_,ih e2 (fun x hx=>h3 x (by simp [hx])) hjj.2⟩;have:some k∈bl.map some:=List.mem_map.2 ⟨k,hk,rfl⟩;rw [<- e2] at this;obtain ⟨b',hb',e3⟩:=List.mem_map.1 this;cases hl:E.loc b<;>rw [hl] at e1<;>simp at e1;rename_i l;cases hl':E.loc b'<;>rw [hl'] at e3<;>simp at e3;rename_i l';obtain ⟨x1,x2,x3⟩:=l;obtain ⟨y1,y2,y3⟩:=l';simp only at e1 e3;subst e1;subst e3;have:=hI.apart b b' y1 x2 x3 y2 y3 (h3 b (by simp)) (h3 b' (by simp [hb'])) hl hl';subst this;exact hjj.1 hb'
theorem Cov.mem {E:Env} {ids bl:List Nat} (h:Cov E ids bl) {k:Nat} (hk:k∈bl):∃ b∈ids,∃ base sz,E.alive b∧E.loc b=some (k,base,sz):=by obtain ⟨js,h1,h2,h3⟩:=h;have:some k∈bl.map some:=List.mem_map.2 ⟨k,hk,rfl⟩;rw [<- h2] at this;obtain ⟨b,hb,e⟩:=List.mem_map.1 this;cases hl:E.loc b<;>rw [hl] at e<;>simp at e;rename_i l;obtain ⟨x1,x2,x3⟩:=l;simp only at e;subst e;exact ⟨b,h1.subset hb,x2,x3,h3 b hb,hl⟩
theorem zbZ {M:Nat->AO} {a r:AV} {ids:List Nat} {E:Env} {w:World} {x:Value} (h:lLf M a=some (r,ids)) (hr:Rep E w a x) (hM:zai E w M):∃ bl,zas w E.G r x bl∧Cov E ids bl:=by
 unfold lLf at h;cases a<;>simp only [reduceCtorEq] at h
 case sl b m s o n =>
  simp only [Rep] at hr;obtain ⟨h1,h2,h3,p,c,rfl,h4,h4',h5⟩:=hr;have ho:=hM b h1;cases hb:M b<;>simp only [hb,reduceCtorEq] at h ho;rename_i m' s' f xs;split at h
  case isFalse=>simp at h
  rename_i hm;obtain ⟨rfl,rfl,hle⟩:=hm;simp only [oJ,pJ] at h;obtain ⟨rfl,rfl⟩:=h;simp only [ObR] at ho;obtain ⟨k1,k2,k3⟩:=ho;have hsl:=h5 k1.symm;have hlen:((xs.drop o).take n).length=n:=by simp;omega
  by_cases hc:c=0
  ·exact ⟨[],by simp only [zas];exact ⟨p,c,by rw [hlen],by omega,h4',.inl ⟨hc,trivial⟩⟩,⟨[],by simp,by simp,by simp⟩⟩
  ·cases hl:E.loc b with
   | none=>simp only [hl,zcd] at hsl;exact absurd hsl.2 hc
   | some l =>
    obtain ⟨blk,base,sz⟩:=l;simp only [hl,zcd] at hsl k3;obtain ⟨a,rfl,q1,q2⟩:=hsl;obtain ⟨arr,t,k4,k5,k5',k6,k6',k7⟩:=k3;rcases q1 with q1|rfl
    ·exact absurd q1 hc
    ·refine ⟨[blk],?_,⟨[b],by simp,by simp [hl],by simpa using h1⟩⟩;simp only [zas];refine ⟨_,c,by rw [hlen],by omega,h4',.inr ⟨blk,base+o*s,arr,t,rfl,rfl,k4,?_,k5',k7.sub o n⟩⟩;have:(o+c)*s=o*s+c*s:=Nat.add_mul ..;omega
 case mp b m =>
  simp only [Rep] at hr;obtain ⟨h1,h2,_,blk,rfl,h3⟩:=hr;have ho:=hM b h1;cases hb:M b<;>simp only [hb,reduceCtorEq] at h ho;split at h
  case isFalse=>simp at h
  rename_i hm;subst hm;simp only [oJ,pJ] at h;obtain ⟨rfl,rfl⟩:=h;simp only [ObR] at ho;obtain ⟨hv,_,blk',ents,clk,k1,k2,k3⟩:=ho;have h3:=h3 hv.symm;rw [h3] at k1;simp only [oJ,pJ,and_true] at k1;subst k1;exact ⟨[blk],by simp only [zas];exact ⟨blk,ents,clk,rfl,rfl,k2,k3⟩,⟨[b],by simp,by simp [h3],by simpa using h1⟩⟩
 all_goals
  simp only [oJ,pJ] at h;obtain ⟨rfl,rfl⟩:=h;simp only [Rep] at hr;exact ⟨[],by simp only [zas];exact ⟨trivial,hr⟩,Cov.nil⟩
theorem za4 {M:Nat->AO} {E:Env} {w:World} (hM:zai E w M):∀ {as rs:List AV} {ids:List Nat} {xs:List Value},lLs M as=some (rs,ids)->RepL E w as xs->∃ bl,OLv w E.G rs xs bl∧Cov E ids bl
 | [],rs,ids,[],h,_=>by
  simp only [lLs,oJ,pJ] at h;obtain ⟨rfl,rfl⟩:=h;exact ⟨[],by simp [OLv],Cov.nil⟩
 | a::as,rs,ids,x::xs,h,hr=>by
  simp only [RepL] at hr;simp only [lLs] at h;cases h1:lLf M a<;>simp only [h1,reduceCtorEq] at h;rename_i p;obtain ⟨r,i⟩:=p;cases h2:lLs M as<;>simp only [h2,reduceCtorEq] at h;rename_i p;obtain ⟨rs',is⟩:=p;simp only [oJ,pJ] at h;obtain ⟨rfl,rfl⟩:=h;obtain ⟨b1,k1,k2⟩:=zbZ h1 hr.1 hM;obtain ⟨b2,k3,k4⟩:=za4 hM h2 hr.2;exact ⟨b1++b2,by simp only [OLv];exact ⟨b1,b2,rfl,k1,k3⟩,k2.append k4⟩
 | [],_,_,_::_,_,hr=>by simp [RepL] at hr
 | _::_,_,_,[],_,hr=>by simp [RepL] at hr
theorem zka {M:Nat->AO} {a r:AV} {ids:List Nat} {E:Env} {w:World} {x:Value} (h:zbY M a=some (r,ids)) (hr:Rep E w a x) (hM:zai E w M):∃ bl,zdB w E.G r x bl∧Cov E ids bl:=by
 have leafcase:lLf M a=some (r,ids)->∃ bl,zdB w E.G r x bl∧Cov E ids bl:=fun hl=>by
  obtain ⟨bl,k1,k2⟩:=zbZ hl hr hM;refine ⟨bl,?_,k2⟩;cases r<;>first|exact k1|(simp only [zas,zd] at k1;exact k1.2.elim)|skip
  cases a<;>simp only [lLf,reduceCtorEq,oJ,pJ,false_and] at hl
  all_goals
   split at hl
   ·first|(simp at hl;done)|(split at hl<;>simp at hl)
   ·simp at hl
 cases a<;>try exact leafcase h
 rename_i cs;simp only [zbY] at h;cases h2:lLs M cs<;>simp only [h2,reduceCtorEq] at h;rename_i p;obtain ⟨rs,is⟩:=p;simp only [oJ,pJ] at h;obtain ⟨rfl,rfl⟩:=h;simp only [Rep] at hr;obtain ⟨vs,rfl,q1,q2⟩:=hr;obtain ⟨bl,k1,k2⟩:=za4 hM h2 q2;exact ⟨bl,by simp only [zdB];exact ⟨vs,rfl,q1,k1⟩,k2⟩
theorem zi1 {M:Nat->AO} {a r:AV} {ids:List Nat} (h:zbY M a=some (r,ids)) (cs:List AV):r≠.tup cs:=by
 rintro rfl;cases a<;>simp only [zbY,lLf,reduceCtorEq,oJ,pJ,false_and] at h
 ·split at h<;>simp at h
 all_goals
  split at h
  ·first|(simp at h;done)|(split at h<;>simp at h)
  ·simp at h
theorem zc3 {M:Nat->AO} {E:Env} {w:World} (hM:zai E w M):∀ {as rs:List AV} {ids:List Nat} {xs:List Value},lVs M as=some (rs,ids)->RepL E w as xs->∃ bl,zaY w E.G rs xs bl∧Cov E ids bl
 | [],rs,ids,[],h,_=>by
  simp only [lVs,oJ,pJ] at h;obtain ⟨rfl,rfl⟩:=h;exact ⟨[],by simp [zaY],Cov.nil⟩
 | a::as,rs,ids,x::xs,h,hr=>by
  simp only [RepL] at hr;simp only [lVs] at h;cases h1:zbY M a<;>simp only [h1,reduceCtorEq] at h;rename_i p;obtain ⟨r,i⟩:=p;cases h2:lVs M as<;>simp only [h2,reduceCtorEq] at h;rename_i p;obtain ⟨rs',is⟩:=p;simp only [oJ,pJ] at h;obtain ⟨rfl,rfl⟩:=h;obtain ⟨b1,k1,k2⟩:=zka h1 hr.1 hM;obtain ⟨b2,k3,k4⟩:=zc3 hM h2 hr.2;exact ⟨b1++b2,by simp only [zaY];exact ⟨b1,b2,rfl,k1,k3⟩,k2.append k4⟩
 | [],_,_,_::_,_,hr=>by simp [RepL] at hr
 | _::_,_,_,[],_,hr=>by simp [RepL] at hr
def SLe (a a':AV):Prop:=a'=a∨a'=.any∨(a=.v (.slice none 0 0)∧∃ s,a'=.rd s []∨a'=.ow s [])∨∃ s xs,a=.ow s xs∧a'=.rd s xs
def zgJ:List AV->List AV->Prop
 | [],[]=>True
 | a::r,b::s=>SLe a b∧zgJ r s
 | _,_=>False
def zio:AV->AV->Prop
 | .agg cs,.agg cs'=>zgJ cs cs'
 | a,a'=>SLe a a'
def zbx:List AV->List AV->Prop
 | [],[]=>True
 | a::r,b::s=>zio a b∧zbx r s
 | _,_=>False
theorem zas.crep {w:World} {G:Nat->Prop} {a:AV} {x:Value} {bl:List Nat} (ha:∀ s xs,a≠.ow s xs) (h:zas w G a x bl) (hb:∀ n es,a≠.om n es:=by simp):bl=[]∧zd w G a x:=by cases a<;>first|exact h|exact absurd rfl (ha _ _)|exact absurd rfl (hb _ _)
theorem zas.of_crep {w:World} {G:Nat->Prop} {a:AV} {x:Value} (ha:∀ s xs,a≠.ow s xs) (h:zd w G a x) (hb:∀ n es,a≠.om n es:=by simp):zas w G a x []:=by cases a<;>first|exact ⟨rfl,h⟩|exact absurd rfl (ha _ _)|exact absurd rfl (hb _ _)
theorem zas.mono {w:World} {G G':Nat->Prop} (hG:∀ k,G k->G' k) {a:AV} {x:Value} {bl:List Nat} (h:zas w G a x bl):zas w G' a x bl:=by
 by_cases ha:∃ s xs,a=.ow s xs
 ·obtain ⟨s,xs,rfl⟩:=ha;simp only [zas] at h ⊢;obtain ⟨p,c,h1,h2,h3,h4⟩:=h;refine ⟨p,c,h1,h2,h3,h4.imp id fun ⟨blk,base,arr,t,k1,k2,k3,k4,k4',k5⟩=>⟨blk,base,arr,t,k1,k2,k3,k4,k4',k5.mono hG (fun _ _=>rfl) (.inl rfl)⟩⟩
 ·by_cases hb:∃ n es,a=.om n es
  ·obtain ⟨n,es,rfl⟩:=hb;simp only [zas] at h ⊢;obtain ⟨blk,ents,clk,h1,h2,h3,h4⟩:=h;exact ⟨blk,ents,clk,h1,h2,h3,h4.mono hG fun _ _=>rfl⟩
  have hne:∀ s xs,a≠.ow s xs:=fun s xs e=>ha ⟨s,xs,e⟩;have hne2:∀ n es,a≠.om n es:=fun n es e=>hb ⟨n,es,e⟩;obtain ⟨rfl,h2⟩:=h.crep hne hne2;exact zas.of_crep hne (h2.mono hG fun _ _=>rfl) hne2
theorem SLe.leaf {w:World} {G:Nat->Prop} {a a':AV} {x:Value} {bl:List Nat} (h:SLe a a') (ho:zas w G a x bl):∃ bl',bl'.Sublist bl∧∀ G',(∀ k,G k->G' k)->(∀ k∈bl,k ∉ bl'->G' k)->zas w G' a' x bl':=by
 rcases h with rfl|rfl|⟨rfl,s,h⟩|⟨s,xs,rfl,rfl⟩
 ·exact ⟨bl,List.Sublist.refl _,fun G' hG _=>ho.mono hG⟩
 ·exact ⟨[],by simp,fun G' _ _=>by simp only [zas,zd];exact ⟨trivial,trivial⟩⟩
 ·obtain ⟨rfl,h2⟩:=ho.crep (by simp);simp only [zd] at h2;subst h2;rcases h with rfl|rfl
  ·exact ⟨[],by simp,fun G' _ _=>by simp only [zas,zd];exact ⟨trivial,none,0,rfl,by simp,fun _=>rfl,.inl trivial⟩⟩
  ·exact ⟨[],by simp,fun G' _ _=>by simp only [zas];exact ⟨none,0,rfl,by simp,fun _=>rfl,.inl ⟨rfl,trivial⟩⟩⟩
 ·simp only [zas] at ho;obtain ⟨p,c,h1,h2,h3,h4⟩:=ho;refine ⟨[],by simp,fun G' hG hk=>?_⟩;simp only [zas,zd];refine ⟨trivial,p,c,h1,h2,h3,?_⟩;rcases h4 with ⟨h4,_⟩|⟨blk,base,arr,t,k1,k2,k3,k4,k4',k5⟩
  ·left;exact List.length_eq_zero_iff.1 (by omega)
  ·right;exact ⟨blk,base,k1,hk blk (by simp [k2]) (by simp),k5.mono hG (fun _ _=>rfl) (.inl rfl)⟩
theorem zgJ.leaves {w:World} {G:Nat->Prop}:∀ {as bs:List AV} {xs:List Value} {bl:List Nat},zgJ as bs->OLv w G as xs bl->bl.Nodup->∃ bl',bl'.Sublist bl∧∀ G',(∀ k,G k->G' k)->(∀ k∈bl,k ∉ bl'->G' k)->OLv w G' bs xs bl'
 | [],[],[],bl,_,h,_=>by
  simp only [OLv] at h;subst h;exact ⟨[],by simp,fun _ _ _=>by simp [OLv]⟩
 | a::as,b::bs,x::xs,bl,hs,h,hn=>by
  simp only [OLv] at h;simp only [zgJ] at hs;obtain ⟨b1,b2,rfl,h1,h2⟩:=h;obtain ⟨n1,n2,n3⟩:=List.nodup_append.1 hn;obtain ⟨c1,k1,k2⟩:=hs.1.leaf h1;obtain ⟨c2,k3,k4⟩:=zgJ.leaves hs.2 h2 n2;refine ⟨c1++c2,k1.append k3,fun G' hG hk=>?_⟩;simp only [OLv];refine ⟨c1,c2,rfl,k2 G' hG fun k hk1 hk2=>hk k (by simp [hk1]) ?_,k4 G' hG fun k hk1 hk2=>hk k (by simp [hk1]) ?_⟩
  ·rw [List.mem_append];exact fun hh=>hh.elim hk2 fun h3=>n3 k hk1 k (k3.subset h3) rfl
  ·rw [List.mem_append];exact fun hh=>hh.elim (fun h3=>n3 k (k1.subset h3) k hk1 rfl) hk2
 | [],_::_,_,_,h,_,_=>by simp [zgJ] at h
 | _::_,[],_,_,h,_,_=>by simp [zgJ] at h
 | [],[],_::_,_,_,h,_=>by simp [OLv] at h
 | _::_,_::_,[],_,_,h,_=>by simp [OLv] at h
theorem zio.val {w:World} {G:Nat->Prop} {a a':AV} {x:Value} {bl:List Nat} (h:zio a a') (ho:zdB w G a x bl) (hn:bl.Nodup):∃ bl',bl'.Sublist bl∧∀ G',(∀ k,G k->G' k)->(∀ k∈bl,k ∉ bl'->G' k)->zdB w G' a' x bl':=by
 have leafcase:(∀ cs,a≠.agg cs)->(∀ cs,a'≠.agg cs)->∃ bl',bl'.Sublist bl∧∀ G',(∀ k,G k->G' k)->(∀ k∈bl,k ∉ bl'->G' k)->zdB w G' a' x bl':=fun ha ha'=>by
  have h1:SLe a a':=by cases a<;>first|exact absurd rfl (ha _)|exact h
  have h2:zas w G a x bl:=by cases a<;>first|exact absurd rfl (ha _)|exact ho
  obtain ⟨c,k1,k2⟩:=h1.leaf h2;refine ⟨c,k1,fun G' p q=>?_⟩;have:=k2 G' p q;cases a'<;>first|exact absurd rfl (ha' _)|exact this
 by_cases ha:∃ cs,a=.agg cs
 ·obtain ⟨cs,rfl⟩:=ha;simp only [zdB] at ho;obtain ⟨vs,rfl,h1,h2⟩:=ho;cases a'<;>simp only [zio,SLe,reduceCtorEq,false_or,false_and,exists_const,or_false] at h
  case any=>exact ⟨[],by simp,fun _ _ _=>by simp only [zdB,zas,zd];exact ⟨trivial,trivial⟩⟩
  case agg cs' =>obtain ⟨c,k1,k2⟩:=zgJ.leaves h h2 hn;exact ⟨c,k1,fun G' p q=>by simp only [zdB];exact ⟨vs,rfl,h1,k2 G' p q⟩⟩
 ·by_cases ha':∃ cs,a'=.agg cs
  ·obtain ⟨cs,rfl⟩:=ha';exfalso;have h1:SLe a (.agg cs):=by cases a<;>first|exact absurd ⟨_,rfl⟩ ha|exact h
   rcases h1 with e|e|⟨_,s,e|e⟩|⟨_,_,_,e⟩<;>first|(exact ha ⟨cs,e.symm⟩)|(simp at e)
  ·exact leafcase (fun cs e=>ha ⟨cs,e⟩) (fun cs e=>ha' ⟨cs,e⟩)
theorem zbx.vals {w:World} {G:Nat->Prop}:∀ {as bs:List AV} {xs:List Value} {bl:List Nat},zbx as bs->zaY w G as xs bl->bl.Nodup->∃ bl',bl'.Sublist bl∧∀ G',(∀ k,G k->G' k)->(∀ k∈bl,k ∉ bl'->G' k)->zaY w G' bs xs bl'
 | [],[],[],bl,_,h,_=>by
  simp only [zaY] at h;subst h;exact ⟨[],by simp,fun _ _ _=>by simp [zaY]⟩
 | a::as,b::bs,x::xs,bl,hs,h,hn=>by
  simp only [zaY] at h;simp only [zbx] at hs;obtain ⟨b1,b2,rfl,h1,h2⟩:=h;obtain ⟨n1,n2,n3⟩:=List.nodup_append.1 hn;obtain ⟨c1,k1,k2⟩:=hs.1.val h1 n1;obtain ⟨c2,k3,k4⟩:=zbx.vals hs.2 h2 n2;refine ⟨c1++c2,k1.append k3,fun G' hG hk=>?_⟩;simp only [zaY];refine ⟨c1,c2,rfl,k2 G' hG fun k hk1 hk2=>hk k (by simp [hk1]) ?_,k4 G' hG fun k hk1 hk2=>hk k (by simp [hk1]) ?_⟩
  ·rw [List.mem_append];exact fun hh=>hh.elim hk2 fun h3=>n3 k hk1 k (k3.subset h3) rfl
  ·rw [List.mem_append];exact fun hh=>hh.elim (fun h3=>n3 k (k1.subset h3) k hk1 rfl) hk2
 | [],_::_,_,_,h,_,_=>by simp [zbx] at h
 | _::_,[],_,_,h,_,_=>by simp [zbx] at h
 | [],[],_::_,_,_,h,_=>by simp [zaY] at h
 | _::_,_::_,[],_,_,h,_=>by simp [zaY] at h
theorem zcC {M:Nat->AO}:∀ {as rs rl:List AV} {ids:List Nat},lVs M as=some (rs,ids)->zbx rs rl->∀ r∈rl,∀ cs,r≠.tup cs
 | [],rs,rl,ids,h,h4=>by
  simp only [lVs,oJ,pJ] at h;rw [<- h.1] at h4;cases rl with
  | nil=>simp
  | cons r rl=>simp [zbx] at h4
 | a::as,rs,rl,ids,h,h4=>by
  simp only [lVs] at h;cases h1:zbY M a<;>simp only [h1,reduceCtorEq] at h;rename_i p;obtain ⟨r,i⟩:=p;cases h2:lVs M as<;>simp only [h2,reduceCtorEq] at h;rename_i p;obtain ⟨rs',is⟩:=p;simp only [oJ,pJ] at h;rw [<- h.1] at h4;cases rl with
  | nil=>simp
  | cons r' rl =>
   simp only [zbx] at h4;intro q hq cs e;rcases List.mem_cons.1 hq with rfl|hq
   ·subst e;have h6:=h4.1;have hra:=zi1 h1;cases r<;>simp only [zio,SLe,reduceCtorEq,false_or,false_and,exists_const,or_false,and_false,AV.tup.injEq] at h6;exact hra _ rfl
   ·exact zcC h2 h4.2 q hq cs e
def aRt (T:TypeId->Option TD) (st:St):ResultVar->Option AV
 | .tmp t=>some (zn st.s t)
 | .cell a t=>zoU T (zb st.m) t (zn st.s a)
def aRs (T:TypeId->Option TD) (st:St):List ResultVar->Option (List AV)
 | []=>some []
 | x::r=>match aRt T st x,aRs T st r with
  | some a,some as=>some (a::as)
  | _,_=>none
def rtO:List AV->AV
 | [a]=>a
 | l=>.tup l
def zjG (T:TypeId->Option TD) (rv:List ResultVar) (st:St) (r:List AV):Prop :=∃ as rs ids,aRs T st rv=some as∧lVs (zb st.m) as=some (rs,ids)∧ids.Nodup∧zbx rs r
theorem zcJ {P:Program} {N:Nat} {w0:World} {bl:Bk} {a:Act} {w:World} {E:Env} {st:St} (hs:zdd N w0 bl E a w (zn st.s) (zb st.m)):∀ {rv:List ResultVar} {as:List AV},aRs (za P) st rv=some as ->
  ∃ vs:List Value,(rv.mapM fun|.tmp t=>pure (a.tmps.getD t undef)|.cell b t=>do loadVar t (<- asAddr (a.tmps.getD b undef)):Sem (List Value)).run P w=.ok vs w∧RepL E w as vs
 | [],as,h=>by
  simp only [aRs,oJ] at h;subst h;exact ⟨[],by simp,by simp [RepL]⟩
 | x::rv,as,h=>by
  simp only [aRs] at h;cases h1:aRt (za P) st x<;>simp only [h1,reduceCtorEq] at h;rename_i a1;cases h2:aRs (za P) st rv<;>simp only [h2,reduceCtorEq,oJ] at h;rename_i as';subst h;obtain ⟨vs,k1,k2⟩:=zcJ hs h2;have hx:∃ v,((match x with|.tmp t=>pure (a.tmps.getD t undef)|.cell b t=>do loadVar t (<- asAddr (a.tmps.getD b undef)):Sem Value)).run P w=.ok v w∧Rep E w a1 v:=by
   cases x with
   | tmp t =>
    simp only [aRt,oJ] at h1;subst h1;exact ⟨_,rfl,hs.slots t⟩
   | cell b t =>
    simp only [aRt] at h1;obtain ⟨y,q1,q2⟩:=zlV h1 (hs.slots b) hs.mem;refine ⟨y,?_,q2⟩;rw [<- q1];simp only [Instr.loadAt,Sem.run_bind];cases hv:a.tmps.getD b undef
    case pointer p =>
     cases p with
     | none =>
      exfalso;simp [Instr.loadAt,Instr.sureAddr,hv] at q1
     | some p=>rfl
    all_goals
     exfalso;simp [Instr.loadAt,Instr.sureAddr,hv] at q1
  obtain ⟨v,q1,q2⟩:=hx;refine ⟨v::vs,?_,by simp only [RepL];exact ⟨q2,k2⟩⟩;rw [List.mapM_cons,Sem.run_bind,q1];simp only [Result.andThen_ok,Sem.run_bind];rw [k1];rfl
def eSt (avs:List AV):List (Nat×AV):=avs.zipIdx.map fun p=>(p.2,p.1)
theorem zdn {avs:List AV} {t:Nat}:∀ {k:Nat},zn ((avs.zipIdx k).map fun p=>(p.2,p.1)) t=if k<=t then (avs[t - k]?).getD .any else .any:=by
 induction avs with
 | nil=>intro k;simp [zn]
 | cons a r ih =>
  intro k;simp only [List.zipIdx_cons,List.map_cons,zn];by_cases e:k=t
  ·subst e;simp
  ·rw [if_neg e,ih];by_cases h:k<=t
   ·rw [if_pos (by omega),if_pos h,show t - k=(t - (k+1))+1 from by omega];simp
   ·rw [if_neg (by omega),if_neg h]
theorem zni {P:Program} {X:AX} {f:FuncId} {fn:Func} {c:Code} {N:Nat} {F:List AV->Option AV} (hX:XOK P X) (hmix:P.follows .mixedOrders=true) (hf:P.funcs[f]?=some fn) (hb:fn.body=some c) (hN:fn.ntmps=N)
    (h:∀ (w0:World) (G:Nat->Prop) (avs:List AV) (r:AV),F avs=some r->avs.length<=N∧∃ rl,rtO rl=r∧rl.length=fn.results.size∧AW ⟨P,X,N,w0,.pure G⟩ c ⟨eSt avs,[],0⟩ (fun e st=>(e=.normal∨e=.ret)∧zjG (za P) fn.results.toList st rl)) :
    PSd P f F:=by
  intro w G args avs r hF hG hargs;obtain ⟨hlen,rl,hrl,hrlen,haw⟩:=h w G avs r hF;have hal:args.size=avs.length:=by
    have:∀ {as:List AV} {xs:List Value},CRL w G as xs->xs.length=as.length:=by
      intro as;induction as with
      | nil=>intro xs h;cases xs<;>simp [CRL] at h ⊢
      | cons a r ih=>intro xs h;cases xs<;>simp only [CRL] at h ⊢;simp [ih h.2]
    simpa using this hargs
  let E:Env:=Env.start G
  have hslots:∀ t,Rep E w (zn (eSt avs) t) ((args++Array.replicate (N - args.size) undef).getD t undef):=fun t=>by
    rw [eSt,zdn];simp only [Nat.zero_le,if_true,Nat.sub_zero];cases ht:avs[t]? with
    | none=>simp [Rep,zd]
    | some a =>
      obtain ⟨x,h1,h2⟩:=hargs.get ht;have hlt:=(List.getElem?_eq_some_iff.1 ht).1;rw [Array.getD_eq_getD_getElem?,Array.getElem?_append_left (by omega)];have:args[t]?=some x:=by simpa using h1
      rw [this];exact Rep.of_c (E:=E) h2
  have hsat:Sat N w (.pure G) { tmps:=args++Array.replicate (fn.ntmps - args.size) undef,defers:=[] } w ⟨eSt avs,[],0⟩:=by refine ⟨E,⟨rfl,by simp [hN];omega,⟨zaV.refl w,Env.Le.refl _,fun b hb=>hb.elim,fun _ h=>.inl h,hG,fun b _ _ _ hb=>hb.elim,fun b _ _ _ _ _ _ hb=>hb.elim⟩,fun b hb=>hb.elim,by rw [hN];exact hslots⟩,fun k hk=>hk.elim,fun k hk=>by simp [zb] at hk⟩
  refine calls_of_wp hf hb (wp_mono (haw _ _ hsat) fun e a w' ⟨st,⟨he,as,rs,ids,h1,h2,h3,h4⟩,E',hs,_,_⟩=>?_);obtain ⟨vs,k1,k2⟩:=zcJ hs h1;obtain ⟨bl,k3,k4⟩:=zc3 hs.mem h2 k2;have hnd:=k4.nodup hs.inv h3;obtain ⟨bl',q1,q2⟩:=h4.vals k3 hnd;have hbl:∀ k∈bl,k<w'.heap.size∧¬ E'.G k∧w.heap.size<=k:=fun k hk=>by obtain ⟨b,_,base,sz,hb1,hb2⟩:=k4.mem hk;have:=hs.inv.locs b k base sz hb1 hb2;exact ⟨this.1,this.2.1,this.2.2.resolve_right (by simp)⟩
  let G':Nat->Prop:=fun k=>E'.G k∨(k∈bl∧k ∉ bl')
  have hret:zaY w' G' rl vs bl':=q2 G' (fun k hk=>.inl hk) fun k hk hk'=>.inr ⟨hk,hk'⟩;have hvl:vs.length=rl.length:=by
    have:∀ {as:List AV} {xs:List Value} {b:List Nat},zaY w' G' as xs b->xs.length=as.length:=by
      intro as;induction as with
      | nil=>intro xs b h;cases xs<;>simp [zaY] at h ⊢
      | cons a r ih=>intro xs b h;cases xs<;>simp only [zaY] at h<;>first|exact h.elim|(obtain ⟨_,b2,_,_,h2⟩:=h;simp [ih h2])
    exact this hret
  have hrun:(results fn a.tmps).run P w'=.ok (if h:vs.toArray.size=1 then vs.toArray[0] else .tuple vs.toArray) w':=by
    unfold results;rw [Sem.run_bind,<- Array.toArray_toList (xs:=fn.results),List.mapM_toArray];simp only [Sem.run_map];have:(List.mapM (fun x=>match x with|.tmp t=>pure (a.tmps.getD t undef)|.cell b t=>do loadVar t (<- asAddr (a.tmps.getD b undef))) fn.results.toList:Sem (List Value)).run P w'=.ok vs w':=k1
    erw [this]
    rfl
  have hnt:=zcC h2 h4;have hfin:∃ x G' bl,Ending.returned (if h:vs.toArray.size=1 then vs.toArray[0] else .tuple vs.toArray)=Ending.returned x∧zaV w [] w'∧(∀ k,G k->G' k)∧(∀ k,G' k->k<w'.heap.size∧(G k∨w.heap.size<=k))∧zjF w' G' r x bl∧bl.Nodup∧∀ k∈bl,k<w'.heap.size∧¬ G' k∧w.heap.size<=k:=by
   refine ⟨_,G',bl',rfl,hs.inv.frame,fun k hk=>.inl (hs.inv.gin.G k hk),fun k hk=>?_,?_,q1.nodup hnd,fun k hk=>?_⟩
   · rcases hk with hk|⟨hk,_⟩
     · exact ⟨hs.inv.good k hk,(hs.inv.gout k hk).imp id fun h=>h.resolve_right (by simp)⟩
     · exact ⟨(hbl k hk).1,.inr (hbl k hk).2.2⟩
   · subst hrl
     match rl,vs,hvl,hret,hnt with
     | [],[],_,hret,_=>exact ⟨[],by simp,hret⟩
     | [r],[v],_,hret,hnt =>
       simp only [zaY] at hret;obtain ⟨b1,b2,e,h5,rfl⟩:=hret;simp only [List.append_nil] at e;subst e;simp only [List.size_toArray,List.length_cons,List.length_nil,Nat.zero_add,dite_true,List.getElem_toArray,List.getElem_cons_zero,rtO];have hn':=hnt r (by simp);cases r<;>first|exact h5|exact absurd rfl (hn' _)
     | r1::r2::rl,v1::v2::vs,_,hret,_ =>simp only [rtO,zjF];exact ⟨v1::v2::vs,by simp,hret⟩
   · have h1:=hbl k (q1.subset hk)
     refine ⟨h1.1,fun hg=>?_,h1.2.2⟩;rcases hg with hg|⟨_,hg⟩
     · exact h1.2.1 hg
     · exact hg hk
  rcases he with rfl|rfl
  · exact ⟨hs.defers,_,hrun,hfin⟩
  · exact ⟨hs.defers,_,hrun,hfin⟩
end Go.AM
