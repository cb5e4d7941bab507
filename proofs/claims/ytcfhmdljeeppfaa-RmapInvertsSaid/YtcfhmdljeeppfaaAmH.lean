/- A part of the proof: what functions of the program compute, by abstract execution of their code. Its theorems hold without further condition. -/
import Derived.Test.YtcfhmdljeeppfaaAmG
import Derived.Laws.Shifts
import Derived.Laws.Small
import Derived.Laws.Unary
import Derived.Laws.Cover3
import GoSem.Instr.Lookup
set_option linter.all false
namespace Go.AM
open Go
def bitI (op:BinOp) (k:IntKind) (a b:Int):Int :=
 k.wrap (match op with
  | .and=>(BitVec.ofInt k.bits a &&& BitVec.ofInt k.bits b).toNat
  | .or=>(BitVec.ofInt k.bits a ||| BitVec.ofInt k.bits b).toNat
  | .xor=>(BitVec.ofInt k.bits a ^^^ BitVec.ofInt k.bits b).toNat
  | _=>(BitVec.ofInt k.bits a &&& ~~~BitVec.ofInt k.bits b).toNat:Nat)
def binI (op:BinOp) (k:IntKind) (a:Int) (k':IntKind) (b:Int):Option Value :=
 match op with
 | .shl=>if 0≤b then some (.int k (k.wrap (a*2^min b.toNat k.bits))) else none
 | .shr=>if 0≤b then some (.int k (a/2^min b.toNat k.bits)) else none
 | .add=>if k=k' then some (.int k (k.wrap (a+b))) else none
 | .sub=>if k=k' then some (.int k (k.wrap (a - b))) else none
 | .mul=>if k=k' then some (.int k (k.wrap (a*b))) else none
 | .quo=>if k=k'∧b≠0 then some (.int k (k.wrap (a.tdiv b))) else none
 | .rem=>if k=k'∧b≠0 then some (.int k (a.tmod b)) else none
 | .and=>if k=k' then some (.int k (bitI .and k a b)) else none
 | .or=>if k=k' then some (.int k (bitI .or k a b)) else none
 | .xor=>if k=k' then some (.int k (bitI .xor k a b)) else none
 | .andNot=>if k=k' then some (.int k (bitI .andNot k a b)) else none
 | .eql=>if k=k' then some (.bool (decide (a=b))) else none
 | .neq=>if k=k' then some (.bool (!decide (a=b))) else none
 | .lss=>if k=k' then some (.bool (decide (a<b))) else none
 | .leq=>if k=k' then some (.bool (decide (a≤b))) else none
 | .gtr=>if k=k' then some (.bool (decide (b<a))) else none
 | .geq=>if k=k' then some (.bool (decide (b≤a))) else none
theorem binI_ok {P:Program} {op:BinOp} {k k':IntKind} {a b:Int} {y:Value} {w:World} {t:TypeId} (h:binI op k a k' b=some y):(binOp op t (.int k a) (.int k' b)).run P w=.ok y w:=by
 cases op<;>simp only [binI] at h<;>split at h<;>simp only [Option.some.injEq,reduceCtorEq] at h<;>subst h
 case shl hb=>simp only [binOp,shift_shl_any _ _ _ _ hb,Sem.run_pure]
 case shr hb=>simp only [binOp,shift_shr_any _ _ _ _ hb,Sem.run_pure]
 case quo hb=>obtain ⟨rfl,hb⟩:=hb;simp [binOp,Op.intDiv,hb]
 case rem hb=>obtain ⟨rfl,hb⟩:=hb;simp [binOp,Op.intDiv,hb]
 all_goals
  rename_i hk
  subst hk
  first
  | (simp [binOp,Op.intArith];done)
  | (simp [binOp,Op.intBits,bitI];done)
  | (simp [binOp,Op.intCmp];done)
  | (simp [binOp,Op.intCmp,bne];rfl)
def eqL:List AV→List AV→Option Bool
 | [],[]=>some true
 | .v (.int k a)::xs,.v (.int k' b)::ys=>if k=k' then (eqL xs ys).map (decide (a=b)&&·) else none
 | .v (.bool a)::xs,.v (.bool b)::ys=>(eqL xs ys).map ((a == b)&&·)
 | _,_=>none
def eqV:List Value→List Value→Option Bool
 | [],[]=>some true
 | .int k a::xs,.int k' b::ys=>if k=k' then (eqV xs ys).map (decide (a=b)&&·) else none
 | .bool a::xs,.bool b::ys=>(eqV xs ys).map ((a == b)&&·)
 | _,_=>none
theorem eqL_v {E:Env} {w:World}:∀ {xs ys:List AV} {us vs:List Value} {b:Bool},eqL xs ys=some b→RepL E w xs us→RepL E w ys vs→eqV us vs=some b
 | [],[],[],[],b,h,_,_=>by simpa [eqL,eqV] using h
 | x::xs,y::ys,u::us,v::vs,b,h,hx,hy=>by
  simp only [RepL] at hx hy
  cases x<;>try (simp [eqL] at h;done)
  cases y<;>try (simp [eqL] at h;done)
  rename_i p q
  simp only [Rep,CRep] at hx hy
  obtain ⟨rfl,hx⟩:=hx
  obtain ⟨rfl,hy⟩:=hy
  cases u<;>cases v<;>simp only [eqL,reduceCtorEq] at h<;>simp only [eqV]
  ·cases hr:eqL xs ys<;>simp only [hr,Option.map_none,reduceCtorEq,Option.map_some] at h
   rw [eqL_v hr hx hy]
   exact h
  ·split at h
   ·rename_i hk
    rw [if_pos hk]
    cases hr:eqL xs ys<;>simp only [hr,Option.map_none,reduceCtorEq,Option.map_some] at h
    rw [eqL_v hr hx hy]
    exact h
   ·simp at h
 | [],[],_::_,_,_,_,hx,_=>by simp [RepL] at hx
 | [],[],_,_::_,_,_,_,hy=>by simp [RepL] at hy
 | [],_::_,_,_,_,h,_,_=>by simp [eqL] at h
 | _::_,[],_,_,_,h,_,_=>by simp [eqL] at h
 | _::_,_::_,[],_,_,_,hx,_=>by simp [RepL] at hx
 | _::_,_::_,_,[],_,_,_,hy=>by simp [RepL] at hy
def sameK:List Value→List AV→Bool
 | [],[]=>true
 | .int k _::r,.v (.int k' _)::s=>decide (k=k')&&sameK r s
 | .bool _::r,.v (.bool _)::s=>sameK r s
 | _,_=>false
def sameKV:List Value→List Value→Bool
 | [],[]=>true
 | .int k _::r,.int k' _::s=>decide (k=k')&&sameKV r s
 | .bool _::r,.bool _::s=>sameKV r s
 | _,_=>false
theorem sameK_v {E:Env} {w:World}:∀ {zs:List Value} {xs:List AV} {us:List Value},sameK zs xs=true→RepL E w xs us→sameKV zs us=true
 | [],[],[],_,_=>rfl
 | z::zs,x::xs,u::us,h,hx=>by
  simp only [RepL] at hx
  cases x<;>try (cases z<;>simp [sameK] at h;done)
  rename_i p
  simp only [Rep,CRep] at hx
  obtain ⟨rfl,hx⟩:=hx
  cases z<;>cases u<;>simp only [sameK,reduceCtorEq,Bool.false_eq_true,Bool.and_eq_true] at h<;>simp only [sameKV,Bool.and_eq_true]
  ·exact sameK_v h hx
  ·exact ⟨h.1,sameK_v h.2 hx⟩
 | [],[],_::_,_,hx=>by simp [RepL] at hx
 | _,_::_,[],_,hx=>by simp [RepL] at hx
 | [],_::_,_,h,_=>by simp [sameK] at h
 | _::_,[],_,h,_=>by simp [sameK] at h
structure AX where
 call:FuncId→List AV→(Nat→AO)→Nat→Option (AV×List (Nat×AO))
 writes:FuncId→Bool
 anyW:Bool
 eqs:TypeId→Bool
def EqOK (P:Program) (t:TypeId):Prop:=∀ d,Types P t=some d→(∀ (w:World) (xs:List Value) (b:Bool),sameKV d.zero xs=true→(Instr.checkKey b 10000 t (.agg xs.toArray)).run P w=.ok () w)∧∀ (w:World) (xs ys:List Value) (b:Bool),sameKV d.zero xs=true→eqV xs ys=some b→(Op.equal t (.agg xs.toArray) (.agg ys.toArray)).run P w=.ok b w∧P.eqGuardType P.depth t=false
def CallOK (P:Program) (f:FuncId) (g:List AV→(Nat→AO)→Nat→Option (AV×List (Nat×AO))):Prop :=
 ∀ (avs:List AV) (M:Nat→AO) (nid:Nat) (av:AV) (u:List (Nat×AO)),g avs M nid=some (av,u) →
 ∀ (w0:World) (bl:Bk) (E:Env) (w:World) (args:Array Value),RepL E w avs args.toList→MemOK E w M→Inv w0 bl E w→(∀ k,nid≤k→k<nid+16→¬ E.alive k) →
  Calls P f args w fun e w'=>∃ x E',e=.returned x∧StepTo w0 bl E w u E' w'∧Rep E' w' av x
def BodyOK (P : Program) (f : FuncId) : Prop := ∃ fn, P.funcs[f]? = some fn ∧ fn.body.isSome = true ∧ (fn.name == "runtime.NumGoroutine") = false
def ExtOK (P:Program) (f:FuncId) (g:List AV→(Nat→AO)→Nat→Option (AV×List (Nat×AO))):Prop :=
 ∀ (avs:List AV) (M:Nat→AO) (nid:Nat) (av:AV) (u:List (Nat×AO)),g avs M nid=some (av,u)→u=[] ∧
 ∀ (w0:World) (bl:Bk) (E:Env) (w:World) (args:Array Value),RepL E w avs args.toList→MemOK E w M→Inv w0 bl E w →
  ∃ x w',(callFunc f args).run P w=.ok (.value x) w'∧w'.heap=w.heap∧w'.os=w.os∧w'.output=w.output∧Rep E w av x
structure XOK (P:Program) (X:AX):Prop where
 calls:∀ f avs M nid r,X.call f avs M nid=some r→(CallOK P f (X.call f)∧BodyOK P f)∨ExtOK P f (X.call f)
 eqs:∀ t,X.eqs t=true→EqOK P t
 dom:∀ f avs M nid r,X.call f avs M nid=some r→∀ b∈r.2.map (·.1),(nid≤b∧b<nid+16)∨(X.writes f=true∧M b≠.dead)
 anyW:∀ f,X.writes f=true→X.anyW=true
def aBin (T:TypeId→Option TD) (X:AX) (op:BinOp) (t:TypeId) (x y:AV):Option AV :=
 match x,y with
 | .v (.int k a),.v (.int k' b)=>(binI op k a k' b).map .v
 | .v (.bool a),.v (.bool b)=>match T t with
  | some d=>match d.k,op with
   | .bool,.eql=>some (.v (.bool (a == b)))
   | .bool,.neq=>some (.v (.bool (!(a == b))))
   | _,_=>none
  | none=>none
 | .v (.slice p _ _),.v (.slice none 0 0)=>match T t with
  | some d=>match d.k,op with
   | .slice _,.eql=>some (.v (.bool p.isNone))
   | .slice _,.neq=>some (.v (.bool (!p.isNone)))
   | _,_=>none
  | none=>none
 | .rd _ (_::_),.v (.slice none 0 0)=>match T t with
  | some d=>match d.k,op with
   | .slice _,.eql=>some (.v (.bool false))
   | .slice _,.neq=>some (.v (.bool true))
   | _,_=>none
  | none=>none
 | .sl _ _ _ _ (_+1),.v (.slice none 0 0)=>match T t with
  | some d=>match d.k,op with
   | .slice _,.eql=>some (.v (.bool false))
   | .slice _,.neq=>some (.v (.bool true))
   | _,_=>none
  | none=>none
 | .agg xs,.agg ys=>match T t with
  | some d=>if X.eqs t=true∧sameK d.zero xs=true then (match op with
   | .eql=>(eqL xs ys).map fun b=>.v (.bool b)
   | .neq=>(eqL xs ys).map fun b=>.v (.bool (!b))
   | _=>none) else none
  | none=>none
 | _,_=>none
theorem und_bool {P:Program} {t:TypeId} {d:TD} (h:Types P t=some d) (hk:d.k=.bool):P.underlying t=some .bool:=by
 obtain ⟨u,i,z,h1,h2,h3,rfl⟩:=types_spec h
 cases u<;>simp only [tkOf,reduceCtorEq] at hk<;>(try (split at hk<;>simp at hk;done))
 exact h1
theorem und_slice' {P:Program} {t e:TypeId} {d:TD} (h:Types P t=some d) (hk:d.k=.slice e):P.underlying t=some (.slice e):=by
 obtain ⟨u,i,z,h1,h2,h3,rfl⟩:=types_spec h
 cases u<;>simp only [tkOf,reduceCtorEq] at hk<;>(try (split at hk<;>simp at hk;done))
 simp only [TK.slice.injEq] at hk
 subst hk
 exact h1
theorem slice_nil {P:Program} {op:BinOp} {t:TypeId} {p:Option Addr} {n c:Nat} {E:Env} {w:World} {ox oy:Operand} {av:AV}
  (h:(match Types P t with
  | some d=>match d.k,op with
   | .slice _,.eql=>some (AV.v (.bool p.isNone))
   | .slice _,.neq=>some (AV.v (.bool (!p.isNone)))
   | _,_=>none
  | none=>none)=some av) :
  ∃ z,(do eqGuard op t ox oy (.slice p n c) (.slice none 0 0);binOp op t (.slice p n c) (.slice none 0 0):Sem Value).run P w=.ok z w∧Rep E w av z:=by
 cases ht:Types P t<;>simp only [ht,reduceCtorEq] at h
 rename_i d
 have hg:(eqGuard op t ox oy (.slice p n c) (.slice none 0 0)).run P w=.ok () w:=by cases op<;>rfl
 split at h<;>simp only [Option.some.injEq,reduceCtorEq] at h
 ·rename_i e hk
  subst h
  refine ⟨.bool p.isNone,?_,by simp [Rep,CRep]⟩
  rw [Sem.run_bind,hg]
  simp only [Result.andThen_ok,binOp,Sem.run_bind,run_equal_slice_nil w t e p n c (und_slice' ht hk),Sem.run_pure]
 ·rename_i e hk
  subst h
  exact ⟨_,by rw [Sem.run_bind,hg];exact run_neq_slice_nil w t e p n c (und_slice' ht hk),by simp [Rep,CRep]⟩
theorem aBin_ok {P:Program} {X:AX} (hX:XOK P X) {op:BinOp} {t:TypeId} {x y av:AV} {E:Env} {w:World} {xv yv:Value} {ox oy:Operand} (h:aBin (Types P) X op t x y=some av) (hx:Rep E w x xv) (hy:Rep E w y yv) :
  ∃ z,(do eqGuard op t ox oy xv yv;binOp op t xv yv:Sem Value).run P w=.ok z w∧Rep E w av z:=by
 unfold aBin at h
 split at h
 ·rename_i k a k' b
  simp only [Rep,CRep] at hx hy
  subst hx hy
  cases hb:binI op k a k' b<;>simp only [hb,Option.map_none,Option.map_some,reduceCtorEq,Option.some.injEq] at h
  subst h
  rename_i z
  refine ⟨z,?_,by simp [Rep,CRep]⟩
  have hg:(eqGuard op t ox oy (.int k a) (.int k' b)).run P w=.ok () w:=by cases op<;>rfl
  rw [Sem.run_bind,hg]
  exact binI_ok hb
 ·rename_i a b
  simp only [Rep,CRep] at hx hy
  subst hx hy
  cases ht:Types P t<;>simp only [ht,reduceCtorEq] at h
  rename_i d
  have hg:(eqGuard op t ox oy (.bool a) (.bool b)).run P w=.ok () w:=by cases op<;>rfl
  split at h<;>simp only [Option.some.injEq,reduceCtorEq] at h
  ·rename_i hk
   subst h
   exact ⟨_,by rw [Sem.run_bind,hg];exact run_eql_bool _ _ _ _ (und_bool ht hk),by simp [Rep,CRep]⟩
  ·rename_i hk
   subst h
   exact ⟨_,by rw [Sem.run_bind,hg];exact run_neq_bool _ _ _ _ (und_bool ht hk),by simp [Rep,CRep]⟩
 ·rename_i p n c
  simp only [Rep,CRep] at hx hy
  subst hx hy
  exact slice_nil h
 ·rename_i s e xs
  simp only [Rep,CRep] at hx hy
  subst hy
  obtain ⟨p,c,rfl,k1,k2,_⟩:=hx
  have hp:p.isNone=false:=by cases p with
   | none=>have:=k2 rfl;simp at k1;omega
   | some _=>rfl
  refine slice_nil (p:=p) ?_
  rw [hp];exact h
 ·rename_i b m s o n
  simp only [Rep,CRep] at hx hy
  subst hy
  obtain ⟨_,_,_,p,c,rfl,k1,k2,_⟩:=hx
  have hp:p.isNone=false:=by cases p with
   | none=>have:=k2 rfl;omega
   | some _=>rfl
  refine slice_nil (p:=p) ?_
  rw [hp];exact h
 ·rename_i xs ys
  cases ht:Types P t<;>simp only [ht,reduceCtorEq] at h
  rename_i d
  split at h
  case isFalse=>simp at h
  rename_i he
  simp only [Rep] at hx hy
  obtain ⟨us,rfl,h1,h2⟩:=hx
  obtain ⟨vs,rfl,k1,k2⟩:=hy
  cases hb:eqL xs ys with
  | none=>cases op<;>simp [hb] at h
  | some b =>
   obtain ⟨q1,q2⟩:=(hX.eqs t he.1 d ht).2 w us vs b (sameK_v he.2 h2) (eqL_v hb h2 k2)
   have hg:(eqGuard op t ox oy (.agg us.toArray) (.agg vs.toArray)).run P w=.ok () w:=by
    cases op<;>simp [eqGuard,q2]
   cases op<;>simp only [hb,Option.map_some,Option.some.injEq,reduceCtorEq] at h
   ·subst h
    exact ⟨.bool b,by rw [Sem.run_bind,hg];simp [binOp,q1],by simp [Rep,CRep]⟩
   ·subst h
    exact ⟨.bool (!b),by rw [Sem.run_bind,hg];simp [binOp,q1],by simp [Rep,CRep]⟩
 ·simp at h
def aUn (op:UnOp) (x:AV):Option AV :=
 match op,x with
 | .not,.v (.bool b)=>some (.v (.bool (!b)))
 | .neg,.v (.int k n)=>some (.v (.int k (k.wrap (0 - n))))
 | .xor,.v (.int k n)=>some (.v (.int k (bitI .xor k (if k.signed then -1 else k.max) n)))
 | _,_=>none
theorem aUn_ok {P:Program} {op:UnOp} {x av:AV} {E:Env} {w:World} {xv:Value} (h:aUn op x=some av) (hx:Rep E w x xv):∃ z,(Op.unary op xv).run P w=.ok z w∧Rep E w av z:=by
 unfold aUn at h
 split at h<;>simp only [Option.some.injEq,reduceCtorEq] at h
 all_goals
  subst h
  simp only [Rep,CRep] at hx
  subst hx
 ·exact ⟨_,rfl,by simp [Rep,CRep]⟩
 ·exact ⟨_,rfl,by simp [Rep,CRep]⟩
 ·exact ⟨_,rfl,by simp [Rep,CRep,bitI]⟩
def aConv (T:TypeId→Option TD) (s d:TypeId) (x:AV):Option AV :=
 match T s,T d,x with
 | some _,some td,.v (.int _ n)=>match td.k with
  | .int k=>some (.v (.int k (k.wrap n)))
  | _=>none
 | _,_,_=>none
theorem aConv_ok {P:Program} {s d:TypeId} {x av:AV} {E:Env} {w:World} {xv:Value} (h:aConv (Types P) s d x=some av) (hx:Rep E w x xv):∃ z,(convert s d xv).run P w=.ok z w∧Rep E w av z:=by
 unfold aConv at h
 cases hs:Types P s<;>simp only [hs,reduceCtorEq] at h
 rename_i ds
 cases hd:Types P d<;>simp only [hd,reduceCtorEq] at h
 rename_i td
 split at h
 case h_2=>simp at h
 rename_i heq1 heq2
 simp only [Option.some.injEq] at heq1 heq2
 subst heq2
 split at h<;>simp only [Option.some.injEq,reduceCtorEq] at h
 rename_i hk
 subst h
 simp only [Rep,CRep] at hx
 subst hx
 obtain ⟨u,h1,h2⟩:=run_und (w:=w) hs
 refine ⟨_,?_,by simp only [Rep,CRep];rfl⟩
 simp only [convert,Sem.run_bind,h1,Result.andThen_ok,und_int hd hk]
 rfl
def aLenM (T:TypeId→Option TD) (M:Nat→AO) (t:TypeId) (x:AV):Option AV :=
 match T t with
 | none=>none
 | some d=>match d.k,x with
  | .map _ _ _,.mp b m=>match M b with
   | .map m' _ es=>if m=m' then some (.v (.int .i64 es.length)) else none
   | _=>none
  | _,_=>none
theorem CEnts.len {w:World} {G:Nat→Prop} {n:Nat}:∀ {es:List (List Int×AV)} {xs:List MapEntry},CEnts w G n es xs→xs.length=es.length
 | [],[],_=>rfl
 | _::r,_::s,h=>by
  simp only [CEnts] at h
  simp [CEnts.len h.2.2]
 | [],_::_,h=>by simp [CEnts] at h
 | _::_,[],h=>by simp [CEnts] at h
theorem aLenM_ok {P:Program} {M:Nat→AO} {t:TypeId} {x av:AV} {E:Env} {w:World} {xv:Value} {ats:Array TypeId} {ty:TypeId} (h:aLenM (Types P) M t x=some av) (hx:Rep E w x xv) (hM:MemOK E w M) (ha:ats[0]?=some t):∃ z,(Builtin.len_ ats ty #[xv]).run P w=.ok z w∧Rep E w av z:=by
 unfold aLenM at h
 cases ht:Types P t<;>simp only [ht,reduceCtorEq] at h
 rename_i d
 split at h
 case h_2=>simp at h
 rename_i k e z b m hk
 cases hb:M b<;>simp only [hb,reduceCtorEq] at h
 rename_i m' n' es
 split at h
 case isFalse=>simp at h
 rename_i hm
 subst hm
 simp only [Option.some.injEq] at h
 subst h
 simp only [Rep] at hx
 obtain ⟨h1,h2,_,blk,rfl,h3⟩:=hx
 have ho:=hM b h1
 rw [hb] at ho
 simp only [ObjRep] at ho
 obtain ⟨hv,_,blk',ents,clk,k1,k2,k3⟩:=ho
 have h3:=h3 hv.symm
 rw [h3] at k1
 simp only [Option.some.injEq,Prod.mk.injEq,and_true] at k1
 subst k1
 have hu:(underlying t).run P w=.ok (.map k e) w:=by
  obtain ⟨u,i,z',q1,q2,q3,rfl⟩:=types_spec ht
  rw [run_underlying q1 w]
  cases u<;>simp only [tkOf,reduceCtorEq] at hk<;>(try (split at hk<;>simp at hk;done))
  simp only [TK.map.injEq] at hk
  obtain ⟨rfl,rfl,_⟩:=hk
  rfl
 have hget:(getObj blk).run P w=.ok (.map (List.toArray ents) clk) w:=by simp [getObj,Sem.run,k2]
 refine ⟨.int .i64 es.length,?_,by simp [Rep,CRep]⟩
 simp [Builtin.len_,ha,hu,hget,goInt,k3.1.len]
def aLen (T:TypeId→Option TD) (t:TypeId) (x:AV):Option AV :=
 match T t with
 | none=>none
 | some d=>match d.k,x with
  | .slice _,.rd _ xs=>some (.v (.int .i64 xs.length))
  | .slice _,.sl _ _ _ _ n=>some (.v (.int .i64 n))
  | .slice _,.bs _ _ _ n=>some (.v (.int .i64 n))
  | .slice _,.v (.slice _ n _)=>some (.v (.int .i64 n))
  | .array n _,_=>some (.v (.int .i64 n))
  | _,_=>none
theorem aLen_ok {P:Program} {t:TypeId} {x av:AV} {E:Env} {w:World} {xv:Value} {ats:Array TypeId} {ty:TypeId} (h:aLen (Types P) t x=some av) (hx:Rep E w x xv) (ha:ats[0]?=some t):∃ z,(Builtin.len_ ats ty #[xv]).run P w=.ok z w∧Rep E w av z:=by
 unfold aLen at h
 cases ht:Types P t<;>simp only [ht,reduceCtorEq] at h
 rename_i d
 have hsl:∀ p n c e,d.k=.slice e→(Builtin.len_ ats ty #[.slice p n c]).run P w=.ok (.int .i64 n) w:=fun p n c e hk=>by
  simp [Builtin.len_,ha,und_slice ht hk,goInt]
 have har:∀ x n e,d.k=.array n e→(Builtin.len_ ats ty #[x]).run P w=.ok (.int .i64 n) w:=fun x n e hk=>by
  simp [Builtin.len_,ha,und_array ht hk,goInt]
 split at h<;>simp only [Option.some.injEq,reduceCtorEq] at h
 ·rename_i hk
  subst h
  simp only [Rep,CRep] at hx
  obtain ⟨p,c,rfl,_⟩:=hx
  exact ⟨_,hsl _ _ _ _ hk,by simp [Rep,CRep]⟩
 ·rename_i hk
  subst h
  simp only [Rep] at hx
  obtain ⟨_,_,_,p,c,rfl,_⟩:=hx
  exact ⟨_,hsl _ _ _ _ hk,by simp [Rep,CRep]⟩
 ·rename_i hk
  subst h
  simp only [Rep] at hx
  obtain ⟨_,_,_,_,p,c,_,rfl,_⟩:=hx
  exact ⟨_,hsl _ _ _ _ hk,by simp [Rep,CRep]⟩
 ·rename_i hk
  subst h
  simp only [Rep,CRep] at hx
  subst hx
  exact ⟨_,hsl _ _ _ _ hk,by simp [Rep,CRep]⟩
 ·rename_i hk
  subst h
  exact ⟨_,har _ _ _ hk,by simp [Rep,CRep]⟩
def aMinMax (isMax:Bool):List AV→Option AV
 | [.v (.int k a),.v (.int k' b)]=>if k=k' then some (.v (.int k (if isMax then max a b else min a b))) else none
 | _=>none
theorem aMin_ok {P:Program} {xs:List AV} {av:AV} {E:Env} {w:World} {vs:List Value} {ats:Array TypeId} {ty:TypeId} (h:aMinMax false xs=some av) (hx:RepL E w xs vs):∃ z,(Builtin.min_ ats ty vs.toArray).run P w=.ok z w∧Rep E w av z:=by
 unfold aMinMax at h
 split at h
 case h_2=>simp at h
 rename_i k a k' b
 split at h<;>simp only [Option.some.injEq,reduceCtorEq] at h
 subst h
 match vs,hx with
 | [x,y],hx =>
  simp only [RepL,Rep,CRep] at hx
  obtain ⟨rfl,rfl,_⟩:=hx
  refine ⟨_,run_min_int2 _ _ _ _ _ _ _,?_⟩
  simp only [Rep,CRep,if_false,Value.int.injEq,true_and]
  split<;>omega
 | [],hx=>simp [RepL] at hx
 | [_],hx=>simp [RepL] at hx
 | _::_::_::_,hx=>simp [RepL] at hx
theorem aMax_ok {P:Program} {xs:List AV} {av:AV} {E:Env} {w:World} {vs:List Value} {ats:Array TypeId} {ty:TypeId} (h:aMinMax true xs=some av) (hx:RepL E w xs vs):∃ z,(Builtin.max_ ats ty vs.toArray).run P w=.ok z w∧Rep E w av z:=by
 unfold aMinMax at h
 split at h
 case h_2=>simp at h
 rename_i k a k' b
 split at h<;>simp only [Option.some.injEq,reduceCtorEq] at h
 subst h
 match vs,hx with
 | [x,y],hx =>
  simp only [RepL,Rep,CRep] at hx
  obtain ⟨rfl,rfl,_⟩:=hx
  refine ⟨_,run_max_int2 _ _ _ _ _ _ _,?_⟩
  simp only [Rep,CRep,if_true,Value.int.injEq,true_and]
  split<;>omega
 | [],hx=>simp [RepL] at hx
 | [_],hx=>simp [RepL] at hx
 | _::_::_::_,hx=>simp [RepL] at hx
def aCap (T:TypeId→Option TD) (M:Nat→AO) (t:TypeId) (x:AV):Option AV :=
 match T t with
 | none=>none
 | some d=>match d.k,x with
  | .slice _,.sl b m s o _=>match M b with
   | .vec m' s' true xs=>if m=m'∧s=s'∧1≤s∧o≤xs.length then some (.v (.int .i64 (xs.length - o:Nat))) else none
   | _=>none
  | .slice _,.v (.slice none 0 0)=>some (.v (.int .i64 0))
  | _,_=>none
theorem aCap_ok {P:Program} {M:Nat→AO} {t:TypeId} {x av:AV} {E:Env} {w:World} {xv:Value} {ats:Array TypeId} {ty:TypeId} (h:aCap (Types P) M t x=some av) (hx:Rep E w x xv) (hM:MemOK E w M) (ha:ats[0]?=some t):∃ z,(Builtin.cap_ ats ty #[xv]).run P w=.ok z w∧Rep E w av z:=by
 unfold aCap at h
 cases ht:Types P t<;>simp only [ht,reduceCtorEq] at h
 rename_i d
 have hsl:∀ p n c e,d.k=.slice e→(Builtin.cap_ ats ty #[.slice p n c]).run P w=.ok (.int .i64 c) w:=fun p n c e hk=>by
  simp [Builtin.cap_,ha,und_slice ht hk,goInt]
 split at h
 ·rename_i e b m s o n hk
  split at h
  case h_2=>simp at h
  rename_i m' s' xs hMb
  split at h
  case isFalse=>simp at h
  rename_i hm
  obtain ⟨rfl,rfl,hs,hox⟩:=hm
  simp only [Option.some.injEq] at h
  subst h
  simp only [Rep] at hx
  obtain ⟨k1,k2,k3,p,c,rfl,k4,k4',k5⟩:=hx
  refine ⟨_,hsl _ _ _ _ hk,?_⟩
  have hob:=hM b k1
  simp only [hMb,ObjRep] at hob
  obtain ⟨l1,l2,l3⟩:=hob
  have h5:=k5 l1.symm
  have hc:c=xs.length - o:=by
   cases hl:E.loc b with
   | none=>simp only [hl,SlAt] at h5 l3;subst l3;simp;exact h5.2
   | some l =>
    obtain ⟨blk,base,sz⟩:=l
    simp only [hl,SlAt] at h5 l3
    obtain ⟨a,_,_,q⟩:=h5
    obtain ⟨arr,t,_,_,_,k6,k6',_⟩:=l3
    have h1:(o+c)*s=xs.length*s:=by have:=k6' trivial;omega
    have:=Nat.eq_of_mul_eq_mul_right (by omega) h1
    omega
  subst hc
  simp only [Rep,CRep]
 ·rename_i hk
  simp only [Option.some.injEq] at h
  subst h
  simp only [Rep,CRep] at hx
  subst hx
  exact ⟨_,hsl _ _ _ _ hk,by simp [Rep,CRep]⟩
 ·simp at h
def aCopy (T:TypeId→Option TD) (M:Nat→AO) (t:TypeId) (x y:AV):Option (AV×List (Nat×AO)) :=
 match T t with
 | none=>none
 | some d=>match d.k with
  | .slice e=>match T e with
   | none=>none
   | some de=>match x with
    | .sl b m s o n=>match M b,aRows M s y with
     | .vec m' s' f xs,some new=>if m=m'∧s=s'∧s=de.size∧o+n≤xs.length then
       some (.v (.int .i64 (min new.length n:Nat)),[(b,.vec m s f (xs.take o++(new.take (min new.length n)++xs.drop (o+min new.length n))))]) else none
     | _,_=>none
    | _=>none
  | _=>none
theorem aCopy_ok {P:Program} {M:Nat→AO} {t t':TypeId} {x y av:AV} {u:List (Nat×AO)} {w0:World} {bl:Bk} {E:Env} {w:World} {xv yv:Value} (h:aCopy (Types P) M t x y=some (av,u)) (hx:Rep E w x xv) (hy:Rep E w y yv) (hM:MemOK E w M) (hI:Inv w0 bl E w) (ty:TypeId) :
  ∃ z E' w',(Builtin.copy_ #[t,t'] ty #[xv,yv]).run P w=.ok z w'∧StepTo w0 bl E w u E' w'∧Rep E' w' av z:=by
 unfold aCopy at h
 cases ht:Types P t<;>simp only [ht,reduceCtorEq] at h
 rename_i d
 cases hk:d.k<;>simp only [hk,reduceCtorEq] at h
 rename_i e
 cases he:Types P e<;>simp only [he,reduceCtorEq] at h
 rename_i de
 cases x<;>simp only [reduceCtorEq] at h
 rename_i b m s o n
 cases hMb:M b<;>simp only [hMb,reduceCtorEq] at h
 rename_i m' s' f xs
 cases hr:aRows M s y<;>simp only [hr,reduceCtorEq] at h
 rename_i new
 split at h
 case isFalse=>simp at h
 rename_i hm
 obtain ⟨rfl,rfl,rfl,hle⟩:=hm
 simp only [Option.some.injEq,Prod.mk.injEq] at h
 obtain ⟨rfl,rfl⟩:=h
 have hx':=hx
 simp only [Rep] at hx'
 obtain ⟨k1,k2,k3,p,c,rfl,k4,k4',k5⟩:=hx'
 obtain ⟨q,c',rfl,hn2,hn3,vn,hn4,hn5⟩:=aRows_ok hr hy hM
 have hlen:(new.take (min new.length n)).length=min new.length n:=by rw [List.length_take];omega
 have hv:=hn4.take (min new.length n)
 obtain ⟨E',w',h1,h2⟩:=overwrite_sl (P:=P) hI hM hx hMb hv (by rw [hlen];omega) (by rw [hlen];omega)
 rw [hlen] at h2
 refine ⟨.int .i64 (min new.length n:Nat),E',w',?_,h2,by simp only [Rep,CRep]⟩
 have hfc:(Builtin.firstCells de.size (min new.length n) (.slice q new.length c')).run P w=.ok (vn.take (min new.length n*de.size)).toArray w:=by
  rcases hn5 with rfl|⟨blk,off,rfl,hc⟩
  ·have:vn=[]:=by have:=hn4.len;simpa using this
   subst this
   cases q<;>simp [Builtin.firstCells,loadCells,loadCellsFrom]
  ·have:=run_loadCells_list (P:=P) (w:=w) ⟨blk,off,none⟩ (vn.take (min new.length n*de.size)) fun j v e=>by
    rw [add_plain]
    rw [List.getElem?_take] at e
    split at e
    ·exact hc j v e
    ·simp at e
   rw [hv.len,hlen] at this
   simpa [Builtin.firstCells] using this
 have hmin:Nat.min new.length n=min new.length n:=rfl
 simp only [Builtin.copy_,Sem.run_bind,List.getElem?_toArray,List.getElem?_cons_zero,List.getElem?_cons_succ,und_slice ht hk,Result.andThen_ok,Builtin.lenOf,Sem.run_pure,run_size he,hmin,hfc]
 cases p with
 | none =>
  simp only [Sem.run_pure] at h1
  simp only [Result.ok.injEq,true_and] at h1
  subst h1
  simp [goInt]
 | some a =>
  simp only at h1
  simp only [Sem.run_bind,h1,Result.andThen_ok,Sem.run_pure,goInt]
def aClear (T:TypeId→Option TD) (M:Nat→AO) (t:TypeId) (x:AV):Option (AV×List (Nat×AO)) :=
 match T t with
 | none=>none
 | some d=>match d.k with
  | .slice e=>match T e with
   | none=>none
   | some de=>match x with
    | .sl b m s o n=>match M b with
     | .vec m' s' f xs=>if m=m'∧s=s'∧s=de.size∧o+n≤xs.length∧de.zero.length=de.size∧de.zero.all Value.oneCell'=true then
       some (.any,[(b,.vec m s f (xs.take o++(List.replicate n (de.zero.map .v)++xs.drop (o+n))))]) else none
     | _=>none
    | _=>none
  | _=>none
theorem aClear_ok {P:Program} {M:Nat→AO} {t:TypeId} {x av:AV} {u:List (Nat×AO)} {w0:World} {bl:Bk} {E:Env} {w:World} {xv:Value} (h:aClear (Types P) M t x=some (av,u)) (hx:Rep E w x xv) (hM:MemOK E w M) (hI:Inv w0 bl E w) (ty:TypeId) :
  ∃ z E' w',(Builtin.clear_ #[t] ty #[xv]).run P w=.ok z w'∧StepTo w0 bl E w u E' w'∧Rep E' w' av z:=by
 unfold aClear at h
 cases ht:Types P t<;>simp only [ht,reduceCtorEq] at h
 rename_i d
 cases hk:d.k<;>simp only [hk,reduceCtorEq] at h
 rename_i e
 cases he:Types P e<;>simp only [he,reduceCtorEq] at h
 rename_i de
 cases x<;>simp only [reduceCtorEq] at h
 rename_i b m s o n
 cases hMb:M b<;>simp only [hMb,reduceCtorEq] at h
 rename_i m' s' f xs
 split at h
 case isFalse=>simp at h
 rename_i hm
 obtain ⟨rfl,rfl,rfl,hle,hz1,hz2⟩:=hm
 simp only [Option.some.injEq,Prod.mk.injEq] at h
 obtain ⟨rfl,rfl⟩:=h
 have hx':=hx
 simp only [Rep] at hx'
 obtain ⟨k1,k2,k3,p,c,rfl,k4,k4',k5⟩:=hx'
 have hone:∀ y∈de.zero,y.oneCell'=true:=by simpa using hz2
 have hvr:=VR.replicate (w:=w) (G:=E.G) hone n
 rw [hz1] at hvr
 obtain ⟨E',w',h1,h2⟩:=overwrite_sl (P:=P) hI hM hx hMb hvr (by simpa using hle) (by simp)
 simp only [List.length_replicate] at h2
 obtain ⟨z,hz,hzz⟩:=run_zero (P:=P) (w:=w) he
 have hzc:(Builtin.zeroCells z.cells n).toList=(List.replicate n de.zero).flatten:=by
  apply List.ext_getElem?
  intro i
  have hzs:z.cells.size=de.size:=by rw [← hz1,← hzz];simp
  by_cases hi:i<n*de.size
  ·rw [← hz1] at hi
   rw [flatten_get hi,hz1]
   simp only [Builtin.zeroCells,Array.toList_map,List.getElem?_map,hzs]
   rw [hz1] at hi
   rw [Array.getElem?_toList,Array.getElem?_eq_getElem (by simpa using hi)]
   simp only [Array.getElem_range,Option.map_some]
   have hpos:0<de.size:=Nat.pos_of_ne_zero fun e=>by rw [e] at hi;simp at hi
   have hlt:i%de.size<z.cells.size:=by rw [hzs];exact Nat.mod_lt _ hpos
   rw [getElem!_pos z.cells _ hlt,← hzz,Array.getElem?_toList,Array.getElem?_eq_getElem hlt]
  ·rw [List.getElem?_eq_none (by simp [Builtin.zeroCells,hzs];omega),List.getElem?_eq_none (by rw [hvr.len];simp;omega)]
 refine ⟨.tuple #[],E',w',?_,h2,by simp [Rep,CRep]⟩
 cases p with
 | none =>
  simp only [Sem.run_pure,Result.ok.injEq,true_and] at h1
  subst h1
  simp [Builtin.clear_,und_slice ht hk]
 | some a =>
  simp only at h1
  by_cases hn:n=0
  ·subst hn
   simp only [List.replicate_zero,List.flatten_nil,storeCells] at h1
   simp [storeCells] at h1
   subst h1
   simp [Builtin.clear_,und_slice ht hk]
  ·have:Builtin.clear_ #[t] ty #[.slice (some a) n c]=(do
     match ← underlying t with
     | .slice elem=>storeCells a (Builtin.zeroCells (← zeroValue elem).cells n).toList
     | _=>pure ()
     pure (.tuple #[]):Sem Value)∨True:=.inr trivial
   simp only [Builtin.clear_,Sem.run_bind,List.getElem?_toArray,List.getElem?_cons_zero,und_slice ht hk,Result.andThen_ok]
   obtain ⟨n',rfl⟩:∃ n',n=n'+1:=⟨n - 1,by omega⟩
   simp only [Sem.run_bind,hz,Result.andThen_ok,hzc,h1,Sem.run_pure]
def aAppendZ (T:TypeId→Option TD) (M:Nat→AO) (nid:Nat) (st:TypeId) (s x:AV):Option (AV×List (Nat×AO)) :=
 match T st,aInt x with
 | some d,some k=>match d.k with
  | .slice e=>match T e with
   | some de=>match s with
    | .sl b m z o n=>match M b with
     | .vec m' z' true xs=>if m=m'∧z=z'∧z=de.size∧o+n≤xs.length∧0≤k∧(xs.length:Int)<o+n+k∧n+k≤1073741824∧de.bytes≤65536∧de.zero.length=de.size∧de.zero.all Value.oneCell'=true∧1≤de.size then
       some (.sl nid 1 de.size 0 (n+k.toNat),[(nid,.vec 1 de.size false ((xs.drop o).take n++List.replicate k.toNat (de.zero.map .v)))]) else none
     | _=>none
    | _=>none
   | none=>none
  | _=>none
 | _,_=>none
theorem zeroCells_flat {z:List Value} {n:Nat}:(Builtin.zeroCells z.toArray n).toList=(List.replicate n z).flatten:=by
 apply List.ext_getElem?
 intro i
 by_cases hi:i<n*z.length
 ·rw [flatten_get hi]
  simp only [Builtin.zeroCells,Array.toList_map,List.getElem?_map,List.size_toArray]
  rw [Array.getElem?_toList,Array.getElem?_eq_getElem (by simpa using hi)]
  simp only [Array.getElem_range,Option.map_some]
  have hpos:0<z.length:=Nat.pos_of_ne_zero fun e=>by rw [e] at hi;simp at hi
  have hlt:i%z.length<z.toArray.size:=by simpa using Nat.mod_lt _ hpos
  rw [getElem!_pos z.toArray _ hlt]
  simp
 ·rw [List.getElem?_eq_none (by simp [Builtin.zeroCells];omega),List.getElem?_eq_none (by simp;omega)]
theorem aAppendZ_ok {P:Program} {M:Nat→AO} {nid:Nat} {st xt:TypeId} {s x av:AV} {u:List (Nat×AO)} {w0:World} {bl:Bk} {E:Env} {w:World} {sv xv:Value} {dx:TD} {ik:IntKind} (hxt:Types P xt=some dx) (hkx:dx.k=.int ik) (h:aAppendZ (Types P) M nid st s x=some (av,u))
  (hs:Rep E w s sv) (hx:Rep E w x xv) (hM:MemOK E w M) (hI:Inv w0 bl E w) (hnid:¬ E.alive nid) (ty:TypeId) :
  ∃ y E' w',(Builtin.append_ #[st,xt] ty #[sv,xv]).run P w=.ok y w'∧StepTo w0 bl E w u E' w'∧Rep E' w' av y:=by
 unfold aAppendZ at h
 cases hst:Types P st<;>simp only [hst,reduceCtorEq] at h
 rename_i ds
 cases hkn:aInt x<;>simp only [hkn,reduceCtorEq] at h
 rename_i k
 cases hks:ds.k<;>simp only [hks,reduceCtorEq] at h
 rename_i e
 cases he:Types P e<;>simp only [he,reduceCtorEq] at h
 rename_i de
 cases s<;>simp only [reduceCtorEq] at h
 rename_i b m z o n
 cases hMb:M b<;>simp only [hMb,reduceCtorEq] at h
 rename_i m' z' f xs
 cases f<;>simp only [reduceCtorEq] at h
 split at h
 case isFalse=>simp at h
 rename_i hh
 obtain ⟨rfl,rfl,rfl,hle,hk0,hbig,hlim,hbytes,hz1,hz2,hs1⟩:=hh
 simp only [Option.some.injEq,Prod.mk.injEq] at h
 obtain ⟨rfl,rfl⟩:=h
 obtain ⟨kk,rfl,hxr⟩:=aInt_ok (P:=P) hkn hx
 have hro:aRows M de.size (.sl b m de.size o n)=some ((xs.drop o).take n):=by
  simp [aRows,hMb,hle]
 obtain ⟨p,c,rfl,ho2,ho3,vo,ho4,ho5⟩:=aRows_ok hro hs hM
 have hlen:((xs.drop o).take n).length=n:=by simp;omega
 rw [hlen] at ho2 hs ⊢
 simp only [Rep] at hs
 obtain ⟨k1,k2,k3,p',c',heq,k4,k4',k5⟩:=hs
 simp only [Value.slice.injEq] at heq
 obtain ⟨rfl,-,rfl⟩:=heq
 have hob:=hM b k1
 simp only [hMb,ObjRep] at hob
 obtain ⟨l1,l2,l3⟩:=hob
 have hsl:=k5 l1.symm
 have hc:c=xs.length - o:=by
  cases hl:E.loc b with
  | none=>simp only [hl,SlAt] at hsl l3;subst l3;simp;exact hsl.2
  | some l =>
   obtain ⟨blk,base,sz⟩:=l
   simp only [hl,SlAt] at hsl l3
   obtain ⟨a,_,_,q⟩:=hsl
   obtain ⟨arr,t,_,_,_,k6,k6',_⟩:=l3
   have h1:(o+c)*de.size=xs.length*de.size:=by have:=k6' trivial;omega
   have:=Nat.eq_of_mul_eq_mul_right (by omega) h1
   omega
 obtain ⟨q,rfl⟩:∃ q:Nat,k=q:=⟨k.toNat,by omega⟩
 simp only [Int.toNat_natCast]
 have hnf:¬ n+q≤c:=by omega
 have hone:∀ y∈de.zero,y.oneCell'=true:=by simpa using hz2
 have hvr:=VR.replicate (w:=w) (G:=E.G) hone q
 rw [hz1] at hvr
 have hcap:=cut_appendCap (n+q) c e (w.tape w.drawn (.appendCap (n+q) c e))
 generalize hcc:(Question.appendCap (n+q) c e).cut (w.tape w.drawn (.appendCap (n+q) c e))=cc at hcap
 have hrun:(Builtin.append_ #[st,xt] ty #[.slice p n c,.int kk q]).run P w=.ok (.slice (some ⟨w.heap.size,0,none⟩) (n+q) cc)
   (({ w with drawn:=w.drawn+1 }:World).alloc (.cells (vo.toArray++(List.replicate q de.zero).flatten.toArray++Builtin.zeroCells de.zero.toArray (cc - (n+q))) e)):=by
  obtain ⟨i,hi,hib,_⟩:=run_info (P:=P) (w:=w) he
  obtain ⟨i2,hi2,_,_⟩:=run_info (P:=P) (w:={ w with drawn:=w.drawn+1 }) he
  obtain ⟨zz,hz,hzz⟩:=run_zero (P:=P) (w:={ w with drawn:=w.drawn+1 }) he
  have f3:=firstCells_ok (P:=P) (w:={ w with drawn:=w.drawn+1 }) (n:=n) (ho4.mono (fun _ h=>h) fun _ _=>rfl) ho3 hlen.symm (by rw [hlen];exact ho2) ho5
  have hzc:zz.cells=de.zero.toArray:=by rw [← hzz]
  have hw1:IntKind.i64.wrap (q:Int)=q:=wrap_small _ (by omega) (by omega)
  have hbm:(q:Int)*de.bytes≤1073741824*65536:=by
   have:=Int.mul_le_mul (show (q:Int)≤1073741824 by omega) (Int.ofNat_le.2 hbytes) (by omega) (by omega)
   simpa using this
  have hlim2:¬ ((q:Int)*de.bytes > 2^48):=by omega
  have hcap2:=nextcap_le (n+q) c (by omega)
  have hmul:Builtin.nextslicecap (n+q) c*de.bytes≤(2*(n+q)+1000)*65536:=Nat.mul_le_mul hcap2 hbytes
  have hlim3:¬ (Builtin.nextslicecap (n+q) c*de.bytes > 2^48):=by
   have:(2*(n+q)+1000)*65536≤2^48:=by omega
   omega
  have hbig2:¬ (((n+q:Nat):Int) > IntKind.i64.max∧(True∨de.bytes=0)):=by
   intro hh
   have h1:=hh.1
   simp [IntKind.max,IntKind.signed,IntKind.bits] at h1
   omega
  simp only [Builtin.append_]
  simp only [List.getElem?_toArray,List.getElem?_cons_zero,List.getElem?_cons_succ,Sem.run_bind,und_slice hst hks,und_int hxt hkx,Result.andThen_ok,run_size he,Sem.run_pure,asInt,hxr,if_true,hw1,hi,hib]
  rw [if_neg (by omega)]
  simp only [Sem.run_bind,hi,Result.andThen_ok,hib]
  rw [if_neg hlim2]
  simp only [Sem.run_bind,Sem.run_pure,Result.andThen_ok,Int.toNat_natCast]
  rw [if_neg hnf]
  simp only [Sem.run_bind,hi,Result.andThen_ok,hib]
  rw [if_neg hbig2]
  simp only [Sem.run_bind,hi,Result.andThen_ok,hib]
  rw [if_neg hlim3]
  simp only [Sem.run_bind,run_choose,Question.forced,Bool.false_eq_true,if_false,Result.andThen_ok,hi2,run_askRoom,f3,Bool.not_true]
  have hq0:¬ (q*de.size=0):=by
   intro h0
   rcases Nat.mul_eq_zero.1 h0 with h|h<;>omega
  rw [if_neg hq0]
  simp only [Sem.run_bind,hz,Result.andThen_ok,Sem.run_pure,newRow,run_newObj,hzc,hcc]
  have hzf:(Builtin.zeroCells de.zero.toArray q)=(List.replicate q de.zero).flatten.toArray:=by
   rw [← zeroCells_flat,Array.toArray_toList]
  rw [hzf]
  rfl
 have hvr2:=ho4.append hvr
 have hzl:(Builtin.zeroCells de.zero.toArray (cc - (n+q))).size=(cc - (n+q))*de.size:=by simp [Builtin.zeroCells,hz1]
 obtain ⟨E',w',rfl,q1,q2⟩:=newSlice_ok (w1:={ w with drawn:=w.drawn+1 }) (n:=n+q) (c:=cc) (e:=e) (arr:=vo.toArray++(List.replicate q de.zero).flatten.toArray++Builtin.zeroCells de.zero.toArray (cc - (n+q))) hI hnid rfl rfl rfl hvr2 (fun k v hk=>by
   have hk':=(List.getElem?_eq_some_iff.1 hk).1
   rw [show (vo.toArray++(List.replicate q de.zero).flatten.toArray++Builtin.zeroCells de.zero.toArray (cc - (n+q)))=(vo++(List.replicate q de.zero).flatten).toArray++Builtin.zeroCells de.zero.toArray (cc - (n+q)) from by simp,Array.getElem?_append_left (by simpa using hk')]
   simpa using hk) (by simp;omega) hcap (by
   simp only [Array.size_append,List.size_toArray,hzl,ho4.len,hvr.len,hlen,List.length_replicate]
   rw [← Nat.add_mul,← Nat.add_mul]
   congr 1
   omega) (fun y hy=>by
   simp only [Array.toList_append,List.mem_append] at hy
   rcases hy with (hy|hy)|hy
   ·exact ho4.one y (by simpa using hy)
   ·exact hvr.one y (by simpa using hy)
   ·rw [zeroCells_flat] at hy
    simp only [List.mem_flatten,List.mem_replicate] at hy
    obtain ⟨l,⟨_,rfl⟩,h2⟩:=hy
    exact hone y h2)
 exact ⟨_,E',_,hrun,q1,q2⟩
theorem aAppendZ_dom {T:TypeId→Option TD} {M:Nat→AO} {nid:Nat} {st:TypeId} {s x:AV} {r:AV×List (Nat×AO)} (h:aAppendZ T M nid st s x=some r):∀ b∈r.2.map (·.1),b=nid:=by
 unfold aAppendZ at h
 cases hst:T st<;>simp only [hst,reduceCtorEq] at h
 rename_i ds
 cases hkn:aInt x<;>simp only [hkn,reduceCtorEq] at h
 rename_i k
 cases hks:ds.k<;>simp only [hks,reduceCtorEq] at h
 rename_i e
 cases he:T e<;>simp only [he,reduceCtorEq] at h
 rename_i de
 cases s<;>simp only [reduceCtorEq] at h
 rename_i b m z o n
 cases hMb:M b<;>simp only [hMb,reduceCtorEq] at h
 rename_i m' z' f xs
 cases f<;>simp only [reduceCtorEq] at h
 split at h
 case isFalse=>simp at h
 simp only [Option.some.injEq] at h
 subst h
 intro b hb
 simpa using hb
def aApp (T:TypeId→Option TD) (M:Nat→AO) (nid:Nat) (st xt:TypeId) (s x:AV):Option (AV×List (Nat×AO)) :=
 match T xt with
 | none=>none
 | some d=>match d.k with
  | .int _=>aAppendZ T M nid st s x
  | _=>aAppend T M nid st xt s x
theorem aApp_ok {P:Program} {M:Nat→AO} {nid:Nat} {st xt:TypeId} {s x av:AV} {u:List (Nat×AO)} {w0:World} {bl:Bk} {E:Env} {w:World} {sv xv:Value} (h:aApp (Types P) M nid st xt s x=some (av,u))
  (hs:Rep E w s sv) (hx:Rep E w x xv) (hM:MemOK E w M) (hI:Inv w0 bl E w) (hnid:¬ E.alive nid) (ty:TypeId) :
  ∃ y E' w',(Builtin.append_ #[st,xt] ty #[sv,xv]).run P w=.ok y w'∧StepTo w0 bl E w u E' w'∧Rep E' w' av y:=by
 unfold aApp at h
 cases hxt:Types P xt<;>simp only [hxt,reduceCtorEq] at h
 rename_i dx
 cases hk:dx.k<;>simp only [hk] at h
 case int ik=>exact aAppendZ_ok hxt hk h hs hx hM hI hnid ty
 all_goals exact aAppend_ok h hs hx hM hI hnid ty
def aLenX (T:TypeId→Option TD) (X:AX) (M:Nat→AO) (t:TypeId) (x:AV):Option AV :=
 match x with
 | .mp b m=>if X.writes (1000000+t)=true then aLenM T M t (.mp b m) else none
 | x=>aLen T t x
theorem aLenX_none {T:TypeId→Option TD} {X:AX} {M M':Nat→AO} {t:TypeId} {x:AV} (h:X.writes (1000000+t)=false):aLenX T X M t x=aLenX T X M' t x:=by
 unfold aLenX
 split
 ·simp [h]
 ·rfl
theorem aLenX_ok {P:Program} {X:AX} {M:Nat→AO} {t:TypeId} {x av:AV} {E:Env} {w:World} {xv:Value} {ats:Array TypeId} {ty:TypeId} (h:aLenX (Types P) X M t x=some av) (hx:Rep E w x xv) (hM:MemOK E w M) (ha:ats[0]?=some t):∃ z,(Builtin.len_ ats ty #[xv]).run P w=.ok z w∧Rep E w av z:=by
 unfold aLenX at h
 split at h
 ·split at h
  ·exact aLenM_ok h hx hM ha
  ·simp at h
 ·exact aLen_ok h hx ha
end Go.AM
