/- A part of the proof: what functions of the program compute, by abstract execution of their code. Its theorems hold without further condition. -/
import Derived.Test.YtcfhmdljeeppfaaGreatSAmHb
set_option linter.all false
namespace Go.AM
open Go
def getS (l:List (Nat×AV)) (t:Nat):AV :=
 match l with
 | []=>.any
 | (k,a)::r=>if k=t then a else getS r t
def aEv (l:List (Nat×AV)):Operand→AV
 | .tmp t=>getS l t
 | .const v=>.v v
 | .func f=>.fn f []
 | .global _=>.any
def pureR (a:Option AV):Option (AV×List (Nat×AO)):=a.map fun x=>(x,[])
def aCallOp (T:TypeId→Option TD) (X:AX) (c:Call) (ev:Operand→AV) (M:Nat→AO) (nid:Nat):Option (AV×List (Nat×AO)) :=
 match c.callee with
 | .value f=>match ev f with
  | .fn g caps=>X.call g (c.args.toList.map ev++caps) M nid
  | _=>none
 | .builtin b=>match b,c.args.toList,c.argTypes.toList with
  | .len,[x],t::_=>pureR (aLenX T X M t (ev x))
  | .append,[x,y],[t,u]=>aApp T M nid t u (ev x) (ev y)
  | .cap,[x],t::_=>pureR (aCap T M t (ev x))
  | .copy,[x,y],[t,_]=>aCopy T M t (ev x) (ev y)
  | .clear,[x],[t]=>aClear T M t (ev x)
  | .delete,[x,y],[t,_]=>(aMapDel T M t (ev x) (ev y)).map fun u=>(.v (.tuple #[]),u)
  | .min,[x,y],_=>pureR (aMinMax false [ev x,ev y])
  | .max,[x,y],_=>pureR (aMinMax true [ev x,ev y])
  | _,_,_=>none
 | _=>none
def astep (T:TypeId→Option TD) (X:AX) (op:Op) (ev:Operand→AV) (M:Nat→AO) (nid:Nat):Option (AV×List (Nat×AO)) :=
 match op with
 | .move x|.assign x=>some (ev x,[])
 | .pick c a b=>match ev c with
  | .v (.bool t)=>some (if t then ev a else ev b,[])
  | _=>none
 | .extract t i=>match ev t with
  | .tup cs=>match cs[i]? with
   | some a=>some (a,[])
   | none=>none
  | _=>none
 | .nilCheck x=>match ev x with
  | .bp b o=>some (.bp b o,[])
  | .ep b m s i j=>some (.ep b m s i j,[])
  | .rp cs=>some (.rp cs,[])
  | .fn f cs=>some (.fn f cs,[])
  | _=>none
 | .binOp op t x y _=>pureR (aBin T X op t (ev x) (ev y))
 | .unOp op _ x=>pureR (aUn op (ev x))
 | .convert s d x=>pureR (aConv T s d (ev x))
 | .alloc t=>aAlloc T nid t
 | .box _ x=>aBox nid (ev x)
 | .build t parts=>pureR (aBuild T t (parts.toList.map fun p=>(p.1,ev p.2)))
 | .buildSlice t n parts=>aBuildSlice T nid t n (parts.toList.map fun p=>(p.1,ev p.2))
 | .makeSlice t l c=>aMakeSlice T nid t (ev l) (ev c)
 | .load t a=>pureR (aLoad T M t (ev a))
 | .store t a x=>(aStore T M t (ev a) (ev x)).map fun u=>(.any,u)
 | .fieldAddr t x f=>pureR (aFieldAddr T t (ev x) f)
 | .field t x f=>pureR (aField T t (ev x) f)
 | .indexAddr t x i=>pureR (aIndexAddr T t (ev x) (ev i))
 | .index t x i=>pureR (aIndex T t (ev x) (ev i))
 | .slice t x lo hi none=>pureR (aSlice T M t (ev x) (lo.map ev) (hi.map ev))
 | .slice t x lo (some hi) (some mx)=>pureR (aSlice3 T t (ev x) (lo.map ev) (ev hi) (ev mx))
 | .makeInterface t x=>match T t with
  | some d=>if d.k.isOther=true then none else some (.ifc t [ev x],[])
  | none=>none
 | .makeFunc (.func f) first caps=>if first.size=0 then some (.fn f (caps.toList.map ev),[]) else none
 | .call c=>aCallOp T X c ev M nid
 | .makeMap t none=>aMakeMap T X nid t
 | .makeMap t (some r)=>if hintOK (ev r)=true then aMakeMap T X nid t else none
 | .lookup t x i c=>pureR (aLookup T M t (ev x) (ev i) c)
 | .mapUpdate t x i y=>(aMapSet T X M t (ev x) (ev i) (ev y)).map fun u=>(.any,u)
 | _=>none
theorem pureR_some {a:Option AV} {av:AV} {u:List (Nat×AO)} (h:pureR a=some (av,u)):a=some av∧u=[]:=by
 unfold pureR at h
 cases a<;>simp at h
 simp [h.1,h.2]
section
variable {P:Program} {X:AX} {w0:World} {bl:Bk} {E:Env} {w:World} {a:Act} {o:Oper} {next:Act→World→Prop} {Q:Exit→Act→World→Prop}
theorem wp_val {s:Sem Value} {x:Value} {w':World} (hs:execOp a.eval o=(do pure (.value (← s)))) (hr:s.run P w=.ok x w') (h:next (a.put o.dst x) w'):o.wp P a w next Q:=by
 unfold Oper.wp
 rw [hs]
 simp only [Sem.run_bind,hr,Result.andThen_ok,Sem.run_pure]
 exact h
theorem repL_map {ev:Operand→AV} {ρ:Operand→Value} (h:∀ x,Rep E w (ev x) (ρ x)):∀ l:List Operand,RepL E w (l.map ev) (l.map ρ)
 | []=>by simp [RepL]
 | x::r=>by simp only [List.map_cons,RepL];exact ⟨h x,repL_map h r⟩
theorem repP_map {ev:Operand→AV} {ρ:Operand→Value} (h:∀ x,Rep E w (ev x) (ρ x)):∀ l:List (Nat×Operand),RepP E w (l.map fun p=>(p.1,ev p.2)) (l.map fun p=>(p.1,ρ p.2))
 | []=>by simp [RepP]
 | x::r=>by simp only [List.map_cons,RepP];exact ⟨trivial,h x.2,repP_map h r⟩
theorem op_sound (hX:XOK P X) {ev:Operand→AV} {M:Nat→AO} {nid:Nat} {av:AV} {u:List (Nat×AO)} (h:astep (Types P) X o.op ev M nid=some (av,u))
  (hr:∀ x,Rep E w (ev x) (a.eval x)) (hM:MemOK E w M) (hI:Inv w0 bl E w) (hnid:∀ k,nid≤k→k<nid+16→¬ E.alive k)
  (hn:∀ x E' w',StepTo w0 bl E w u E' w'→Rep E' w' av x→next (a.put o.dst x) w'):o.wp P a w next Q:=by
 have hnid0:=hnid nid (Nat.le_refl _) (by omega)
 have stay:∀ x,u=[]→Rep E w av x→next (a.put o.dst x) w:=fun x hu hx=>by
  subst hu
  exact hn x E w (StepTo.refl hI rfl rfl rfl) hx
 obtain ⟨dst,op,type,pos,after,guard⟩:=o
 cases op<;>simp only [astep,reduceCtorEq] at h
 case move x =>
  simp only [Option.some.injEq,Prod.mk.injEq] at h
  exact stay _ h.2.symm (h.1 ▸ hr x)
 case assign x =>
  simp only [Option.some.injEq,Prod.mk.injEq] at h
  exact stay _ h.2.symm (h.1 ▸ hr x)
 case pick c x y =>
  have hc:=hr c
  cases hev:ev c<;>simp only [hev,reduceCtorEq] at h
  rename_i v
  cases v<;>simp only [reduceCtorEq] at h
  rename_i t
  rw [hev] at hc
  simp only [Rep,CRep] at hc
  simp only [Option.some.injEq,Prod.mk.injEq] at h
  obtain ⟨rfl,rfl⟩:=h
  refine (show Oper.wp P _ a w next Q from ?_)
  unfold Oper.wp
  simp only [execOp,hc,asBool,Sem.run_bind,Sem.run_pure,Result.andThen_ok]
  refine stay _ rfl ?_
  cases t
  ·exact hr y
  ·exact hr x
 case extract t i =>
  have hc:=hr t
  cases hev:ev t<;>simp only [hev,reduceCtorEq] at h
  rename_i cs
  cases hi:cs[i]?<;>simp only [hi,reduceCtorEq] at h
  simp only [Option.some.injEq,Prod.mk.injEq] at h
  obtain ⟨rfl,rfl⟩:=h
  rw [hev] at hc
  simp only [Rep] at hc
  obtain ⟨vs,hv,k2⟩:=hc
  obtain ⟨y,q1,q2⟩:=k2.get hi
  exact wp_val (s:=Instr.extract (a.eval t) i) (x:=y) (w':=w) rfl (by rw [hv];simp [Instr.extract,q1]) (stay _ rfl q2)
 case nilCheck x =>
  have hc:=hr x
  unfold Oper.wp
  cases hev:ev x<;>simp only [hev,reduceCtorEq] at h
  all_goals
   simp only [Option.some.injEq,Prod.mk.injEq] at h
   obtain ⟨rfl,rfl⟩:=h
   rw [hev] at hc
  ·simp only [Rep,CRep] at hc
   obtain ⟨blk,off,hv,k⟩:=hc
   simp only [execOp,hv]
   refine stay _ rfl ?_
   simp only [Rep,CRep]
   exact ⟨blk,off,rfl,k⟩
  ·simp only [Rep] at hc
   obtain ⟨k1,k2,blk,sz,k3,hv⟩:=hc
   simp only [execOp,hv]
   refine stay _ rfl ?_
   simp only [Rep]
   exact ⟨k1,k2,blk,sz,k3,rfl⟩
  ·simp only [Rep] at hc
   obtain ⟨k1,k2,k3,ad,hv,k4⟩:=hc
   simp only [execOp,hv]
   refine stay _ rfl ?_
   simp only [Rep]
   exact ⟨k1,k2,k3,ad,rfl,k4⟩
  ·simp only [Rep] at hc
   obtain ⟨vs,hv,k⟩:=hc
   simp only [execOp,hv]
   refine stay _ rfl ?_
   simp only [Rep]
   exact ⟨vs,rfl,k⟩
 case binOp op t x y yt =>
  obtain ⟨h1,rfl⟩:=pureR_some h
  obtain ⟨z,q1,q2⟩:=aBin_ok hX (ox:=x) (oy:=y) h1 (hr x) (hr y)
  exact wp_val rfl q1 (stay _ rfl q2)
 case unOp op t x =>
  obtain ⟨h1,rfl⟩:=pureR_some h
  obtain ⟨z,q1,q2⟩:=aUn_ok (P:=P) h1 (hr x)
  exact wp_val rfl q1 (stay _ rfl q2)
 case convert s d x =>
  obtain ⟨h1,rfl⟩:=pureR_some h
  obtain ⟨z,q1,q2⟩:=aConv_ok h1 (hr x)
  exact wp_val rfl q1 (stay _ rfl q2)
 case alloc t =>
  obtain ⟨y,E',w',q1,q2,q3⟩:=aAlloc_ok h hI hnid0 (.tuple #[])
  exact wp_val rfl q1 (hn _ _ _ q2 q3)
 case box t x =>
  obtain ⟨y,E',w',q1,q2,q3⟩:=aBox_ok (P:=P) (t:=t) h (hr x) hI hnid0
  exact wp_val rfl q1 (hn _ _ _ q2 q3)
 case build t parts =>
  obtain ⟨h1,rfl⟩:=pureR_some h
  obtain ⟨z,q1,q2⟩:=aBuild_ok (pv:=parts.map fun p=>(p.1,a.eval p.2)) h1 (by simpa using repP_map hr parts.toList)
  exact wp_val rfl q1 (stay _ rfl q2)
 case buildSlice t n parts =>
  obtain ⟨y,E',w',q1,q2,q3⟩:=aBuildSlice_ok (pv:=parts.map fun p=>(p.1,a.eval p.2)) h (by simpa using repP_map hr parts.toList) hI hnid0
  exact wp_val rfl q1 (hn _ _ _ q2 q3)
 case makeSlice t l c =>
  obtain ⟨y,E',w',q1,q2,q3⟩:=aMakeSlice_ok h (hr l) (hr c) hI hnid0
  exact wp_val rfl q1 (hn _ _ _ q2 q3)
 case load t x =>
  obtain ⟨h1,rfl⟩:=pureR_some h
  obtain ⟨z,q1,q2⟩:=aLoad_ok h1 (hr x) hM
  exact wp_val rfl q1 (stay _ rfl q2)
 case store t x y =>
  cases hs:aStore (Types P) M t (ev x) (ev y)<;>simp only [hs,Option.map_none,Option.map_some,reduceCtorEq,Option.some.injEq,Prod.mk.injEq] at h
  obtain ⟨rfl,rfl⟩:=h
  obtain ⟨E',w',q1,q2⟩:=aStore_ok hs (hr x) (hr y) hM hI
  unfold Oper.wp
  simp only [execOp,Sem.run_bind,q1,Result.andThen_ok,Sem.run_pure]
  exact hn _ _ _ q2 (by simp [Rep,CRep])
 case fieldAddr t x f =>
  obtain ⟨h1,rfl⟩:=pureR_some h
  obtain ⟨z,q1,q2⟩:=aFieldAddr_ok h1 (hr x)
  exact wp_val rfl q1 (stay _ rfl q2)
 case field t x f =>
  obtain ⟨h1,rfl⟩:=pureR_some h
  obtain ⟨z,q1,q2⟩:=aField_ok h1 (hr x)
  exact wp_val rfl q1 (stay _ rfl q2)
 case indexAddr t x i =>
  obtain ⟨h1,rfl⟩:=pureR_some h
  obtain ⟨z,q1,q2⟩:=aIndexAddr_ok h1 (hr x) (hr i)
  exact wp_val rfl q1 (stay _ rfl q2)
 case index t x i =>
  obtain ⟨h1,rfl⟩:=pureR_some h
  obtain ⟨z,q1,q2⟩:=aIndex_ok h1 (hr x) (hr i)
  exact wp_val rfl q1 (stay _ rfl q2)
 case slice t x lo hi mx =>
  cases mx with
  | none =>
   simp only at h
   obtain ⟨h1,rfl⟩:=pureR_some h
   obtain ⟨z,q1,q2⟩:=aSlice_ok (vl:=lo.map a.eval) (vh:=hi.map a.eval) h1 (hr x) (by cases lo<;>simp [RepO];exact hr _) (by cases hi<;>simp [RepO];exact hr _) hM
   exact wp_val rfl q1 (stay _ rfl q2)
  | some mx =>
   cases hi with
   | none=>simp at h
   | some hi =>
    simp only at h
    obtain ⟨h1,rfl⟩:=pureR_some h
    obtain ⟨z,q1,q2⟩:=aSlice3_ok (vl:=lo.map a.eval) h1 (hr x) (by cases lo<;>simp [RepO];exact hr _) (hr hi) (hr mx)
    exact wp_val rfl q1 (stay _ rfl q2)
 case makeInterface t x =>
  split at h
  case h_2=>simp at h
  rename_i d hd
  split at h
  case isTrue=>simp at h
  rename_i ho
  simp only [Option.some.injEq,Prod.mk.injEq] at h
  obtain ⟨rfl,rfl⟩:=h
  have hrun:(Instr.makeInterface t (a.eval x)).run P w=.ok (.iface t (a.eval x)) w:=by
   obtain ⟨u,h1,h2⟩:=run_und (w:=w) hd
   unfold Instr.makeInterface
   rw [Sem.run_bind,h1]
   rw [h2] at ho
   cases u<;>first|rfl|(exact absurd rfl ho)
  refine wp_val (s:=Instr.makeInterface _ (a.eval x)) rfl hrun (stay _ rfl ?_)
  simp only [Rep]
  exact ⟨_,rfl,by simp only [RepL];exact ⟨hr x,trivial⟩⟩
 case makeFunc fn first caps =>
  cases fn<;>simp only [reduceCtorEq] at h
  split at h
  case isFalse=>simp at h
  rename_i hf
  simp only [Option.some.injEq,Prod.mk.injEq] at h
  obtain ⟨rfl,rfl⟩:=h
  refine wp_val (s:=Instr.makeFunc _ (first.map a.eval) (caps.map a.eval)) rfl rfl (stay _ rfl ?_)
  simp only [Rep]
  refine ⟨caps.toList.map a.eval,?_,repL_map hr _⟩
  have:first=#[]:=by simpa using hf
  subst this
  simp
  rw [← Array.toList_map]
 case makeMap t r =>
  cases r with
  | none =>
   obtain ⟨y,E',w',q1,q2,q3⟩:=aMakeMap_ok h hI hnid0
   exact wp_val rfl q1 (hn _ _ _ q2 q3)
  | some r =>
   simp only at h
   split at h
   case isFalse=>simp at h
   rename_i hh
   have hrr:=hr r
   cases hev:ev r<;>simp only [hev,hintOK,Bool.false_eq_true] at hh
   rename_i x
   cases x<;>simp only [Bool.false_eq_true] at hh
   rw [hev] at hrr
   simp only [Rep,CRep] at hrr
   obtain ⟨y,E',w',q1,q2,q3⟩:=aMakeMapH_ok hX h hI hnid0
   exact wp_val (s:=Instr.makeMap t (some (a.eval r))) rfl (by rw [hrr];exact q1) (hn _ _ _ q2 q3)
 case lookup t x i c =>
  obtain ⟨h1,rfl⟩:=pureR_some h
  obtain ⟨z,q1,q2⟩:=aLookup_ok h1 (hr x) (hr i) hM
  exact wp_val rfl q1 (stay _ rfl q2)
 case mapUpdate t x i y =>
  cases hs:aMapSet (Types P) X M t (ev x) (ev i) (ev y)<;>simp only [hs,Option.map_none,Option.map_some,reduceCtorEq,Option.some.injEq,Prod.mk.injEq] at h
  obtain ⟨rfl,rfl⟩:=h
  obtain ⟨E',w',q1,q2⟩:=aMapSet_ok hX hs (hr x) (hr i) (hr y) hM hI
  unfold Oper.wp
  simp only [execOp,Sem.run_bind,q1,Result.andThen_ok,Sem.run_pure]
  exact hn _ _ _ q2 (by simp [Rep,CRep])
 case call c =>
  unfold aCallOp at h
  obtain ⟨callee,args,argTypes⟩:=c
  cases callee<;>simp only [reduceCtorEq] at h
  case value f =>
   have hf:=hr f
   cases hev:ev f<;>simp only [hev,reduceCtorEq] at h
   rename_i g caps
   rw [hev] at hf
   simp only [Rep] at hf
   obtain ⟨vs,hv,k2⟩:=hf
   have hargs:=(repL_map hr args.toList).append k2
   rcases hX.calls g _ _ _ _ h with ⟨hco,fn,b1,b2,b3⟩|hxo
   ·have hc:=hco _ _ _ _ _ h w0 bl E w (args.map a.eval++vs.toArray) (by simpa using hargs) hM hI hnid
    have hb:fn.body.isNone=false:=by cases hh:fn.body<;>simp [hh] at b2 ⊢
    unfold Oper.wp
    simp only [execOp,resolve,hv,Deferred.ofValue,Sem.run_bind,Sem.run_pure,Result.andThen_ok,invoke,callFunc,run_program,b1,b3,hb,Bool.false_eq_true,if_false,Array.empty_append]
    exact Calls.mono hc fun e w' ⟨x,E',he,hst,hrep⟩=>by subst he;exact hn x E' w' hst hrep
   ·obtain ⟨hu,hrun⟩:=hxo _ _ _ _ _ h
    obtain ⟨x,w',q1,q2,q3,q4,q5⟩:=hrun w0 bl E w (args.map a.eval++vs.toArray) (by simpa using hargs) hM hI
    subst hu
    unfold Oper.wp
    simp only [execOp,resolve,hv,Deferred.ofValue,Sem.run_bind,Sem.run_pure,Result.andThen_ok,invoke,Array.empty_append,q1]
    have st:=StepTo.refl hI q2 q3 q4
    exact hn x E w' st (st.rep hI q5)
  case builtin b =>
   have htl:args.map a.eval=(args.toList.map a.eval).toArray:=by rw [← Array.toList_map]
   split at h<;>(try (simp at h;done))
   ·rename_i x t ts heq1 heq2
    obtain ⟨h1,rfl⟩:=pureR_some h
    have ha:argTypes[0]?=some t:=by rw [← Array.getElem?_toList,heq2];rfl
    obtain ⟨z,q1,q2⟩:=aLenX_ok (P:=P) (ats:=argTypes) (ty:=type) h1 (hr x) hM ha
    refine wp_val (s:=Builtin.len_ argTypes type (args.map a.eval)) rfl ?_ (stay _ rfl q2)
    rw [htl,heq1]
    exact q1
   ·rename_i x y t u' heq1 heq2
    obtain ⟨z,E',w',q1,q2,q3⟩:=aApp_ok h (hr x) (hr y) hM hI hnid0 type
    refine wp_val (s:=Builtin.append_ argTypes type (args.map a.eval)) rfl ?_ (hn _ _ _ q2 q3)
    rw [htl,heq1,show argTypes=#[t,u'] from by rw [← Array.toArray_toList (xs:=argTypes),heq2]]
    exact q1
   ·rename_i x t ts heq1 heq2
    obtain ⟨h1,rfl⟩:=pureR_some h
    have ha:argTypes[0]?=some t:=by rw [← Array.getElem?_toList,heq2];rfl
    obtain ⟨z,q1,q2⟩:=aCap_ok (P:=P) (ats:=argTypes) (ty:=type) h1 (hr x) hM ha
    refine wp_val (s:=Builtin.cap_ argTypes type (args.map a.eval)) rfl ?_ (stay _ rfl q2)
    rw [htl,heq1]
    exact q1
   ·rename_i x y t u' heq1 heq2
    obtain ⟨z,E',w',q1,q2,q3⟩:=aCopy_ok (t':=u') h (hr x) (hr y) hM hI type
    refine wp_val (s:=Builtin.copy_ argTypes type (args.map a.eval)) rfl ?_ (hn _ _ _ q2 q3)
    rw [htl,heq1,show argTypes=#[t,u'] from by rw [← Array.toArray_toList (xs:=argTypes),heq2]]
    exact q1
   ·rename_i x t heq1 heq2
    obtain ⟨z,E',w',q1,q2,q3⟩:=aClear_ok h (hr x) hM hI type
    refine wp_val (s:=Builtin.clear_ argTypes type (args.map a.eval)) rfl ?_ (hn _ _ _ q2 q3)
    rw [htl,heq1,show argTypes=#[t] from by rw [← Array.toArray_toList (xs:=argTypes),heq2]]
    exact q1
   ·rename_i x y t u' heq1 heq2
    cases hs:aMapDel (Types P) M t (ev x) (ev y)<;>simp only [hs,Option.map_none,Option.map_some,reduceCtorEq,Option.some.injEq,Prod.mk.injEq] at h
    obtain ⟨rfl,rfl⟩:=h
    have ha:argTypes[0]?=some t:=by rw [← Array.getElem?_toList,heq2];rfl
    obtain ⟨E',w',q1,q2⟩:=aMapDel_ok (kt:=u') (ats:=argTypes) (ty:=type) hs (hr x) (hr y) hM hI ha
    refine wp_val (s:=Builtin.delete_ argTypes type (args.map a.eval)) (x:=.tuple #[]) rfl ?_ (hn _ _ _ q2 (by simp [Rep,CRep]))
    rw [htl,heq1]
    exact q1
   ·rename_i x y heq1
    obtain ⟨h1,rfl⟩:=pureR_some h
    obtain ⟨z,q1,q2⟩:=aMin_ok (P:=P) (vs:=[a.eval x,a.eval y]) (ats:=argTypes) (ty:=type) h1 (by simp only [RepL];exact ⟨hr x,hr y,trivial⟩)
    refine wp_val (s:=Builtin.min_ argTypes type (args.map a.eval)) rfl ?_ (stay _ rfl q2)
    rw [htl,heq1]
    exact q1
   ·rename_i x y heq1
    obtain ⟨h1,rfl⟩:=pureR_some h
    obtain ⟨z,q1,q2⟩:=aMax_ok (P:=P) (vs:=[a.eval x,a.eval y]) (ats:=argTypes) (ty:=type) h1 (by simp only [RepL];exact ⟨hr x,hr y,trivial⟩)
    refine wp_val (s:=Builtin.max_ argTypes type (args.map a.eval)) rfl ?_ (stay _ rfl q2)
    rw [htl,heq1]
    exact q1
end
end Go.AM
