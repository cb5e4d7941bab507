/- A part of the proof: what functions of the program compute, by abstract execution of their code. Its theorems hold without further condition. -/
import Derived.Test.YtcfhmdljeeppfaaAmE
set_option linter.all false
namespace Go.AM
open Go
theorem mapM_get {α β:Type} {f:α→Option β}:∀ {l:List α} {r:List β},l.mapM f=some r→∀ (i:Nat) (b:β),r[i]?=some b→∃ a,l[i]?=some a∧f a=some b
 | [],r,h,i,b,hb=>by simp at h;subst h;simp at hb
 | x::l,r,h,i,b,hb=>by
  simp only [List.mapM_cons,Option.bind_eq_bind,Option.pure_def] at h
  cases hx:f x with
  | none=>simp [hx] at h
  | some y =>
   cases hr:l.mapM f with
   | none=>simp [hx,hr] at h
   | some r' =>
    simp [hx,hr] at h
    subst h
    cases i with
    | zero=>simp at hb;subst hb;exact ⟨x,by simp,hx⟩
    | succ i=>simp at hb;simpa using mapM_get hr i b hb
def aFieldAddr (T:TypeId→Option TD) (t:TypeId) (x:AV) (f:Nat):Option AV :=
 match T t with
 | none=>none
 | some d=>match d.k with
  | .struct fs=>match fs[f]? with
   | some (off,_,sz)=>if sz=0 then none else match x with
    | .bp b o=>some (.bp b (o+off))
    | .rp cs=>some (.rp (cs.drop off))
    | .ep b m s i j=>some (.ep b m s i (j+off))
    | _=>none
   | none=>none
  | _=>none
theorem aFieldAddr_ok {P:Program} {t:TypeId} {x av:AV} {f:Nat} {E:Env} {w:World} {xv:Value} (h:aFieldAddr (Types P) t x f=some av) (hx:Rep E w x xv) :
  ∃ y,(Instr.fieldAt t xv f).run P w=.ok y w∧Rep E w av y:=by
 unfold aFieldAddr at h
 cases ht:Types P t<;>simp only [ht,reduceCtorEq] at h
 rename_i d
 cases hk:d.k<;>simp only [hk,reduceCtorEq] at h
 rename_i fs
 cases hf:fs[f]?<;>simp only [hf,reduceCtorEq] at h
 rename_i fd
 obtain ⟨off,ft,sz⟩:=fd
 simp only at h
 split at h
 ·simp at h
 rename_i hsz
 obtain ⟨l,h1,h2,h3⟩:=und_struct (w:=w) ht hk
 obtain ⟨fl,h4,h5⟩:=mapM_get h3 f _ hf
 cases hi:P.info? fl.type<;>simp only [hi,Option.map_none,Option.map_some,reduceCtorEq,Option.some.injEq,Prod.mk.injEq] at h5
 rename_i i
 obtain ⟨rfl,rfl,rfl⟩:=h5
 have h4':l[f]?=some fl:=by simpa using h4
 have hrun:∀ a,(Instr.fieldAt t (.pointer (some a)) f).run P w=.ok (.pointer (some (a.add fl.offset))) w:=fun a=>by
  simp [Instr.fieldAt,h1,h4',Instr.sureAddr,fieldPlace,sizeOf,typeInfo,hi,hsz]
 cases x<;>simp only [reduceCtorEq,Option.some.injEq] at h
 case bp b o =>
  subst h
  simp only [Rep] at hx
  obtain ⟨k1,k2,blk,sz,k3,rfl⟩:=hx
  exact ⟨_,hrun _,by simp only [Rep,add_plain];exact ⟨k1,k2,blk,sz,k3,rfl⟩⟩
 case rp cs =>
  subst h
  simp only [Rep,CRep] at hx
  obtain ⟨blk,off,rfl,k3,k4⟩:=hx
  exact ⟨_,hrun _,by simp only [Rep,CRep,add_plain];exact ⟨blk,_,rfl,k3,k4.drop _⟩⟩
 case ep b m s i' jj =>
  subst h
  simp only [Rep] at hx
  obtain ⟨k1,k2,k3,a,rfl,k5⟩:=hx
  refine ⟨_,hrun _,?_⟩
  simp only [Rep]
  refine ⟨k1,k2,k3,_,rfl,fun hm=>?_⟩
  obtain ⟨blk,base,sz,k6,rfl⟩:=k5 hm
  exact ⟨blk,base,sz,k6,by rw [add_plain,Nat.add_assoc]⟩
def aPart (T:TypeId→Option TD) (t:TypeId) (cs:List AV) (off:Nat):Option AV :=
 match T t with
 | none=>none
 | some d=>if d.k.isOther then none else loadA d.k.agg d.size cs off
theorem aPart_ok {P:Program} {t:TypeId} {cs:List AV} {off:Nat} {av:AV} {E:Env} {w:World} {vs:List Value} (h:aPart (Types P) t cs off=some av) (hr:RepL E w cs vs) (hone:∀ y∈vs,y.oneCell'=true) :
  ∃ y,(part t vs.toArray off).run P w=.ok y w∧Rep E w av y:=by
 unfold aPart at h
 cases ht:Types P t<;>simp only [ht,reduceCtorEq] at h
 rename_i d
 split at h
 ·simp at h
 rename_i hoth
 have hne:d.k≠.other:=fun e=>by rw [e] at hoth;simp [TK.isOther] at hoth
 unfold loadA at h
 cases ha:d.k.agg<;>simp only [ha,Bool.false_eq_true,if_false,if_true] at h
 ·obtain ⟨y,h1,h2⟩:=hr.get h
  exact ⟨y,by simp [part,run_agg ht hne,ha,h1],h2⟩
 ·split at h
  ·rename_i hlt
   simp only [Option.some.injEq] at h
   subst h
   refine ⟨.agg ((vs.drop off).take d.size).toArray,?_,?_⟩
   ·simp only [part,Sem.run_bind,run_agg ht hne,ha,Result.andThen_ok,if_true,run_size ht,Sem.run_pure]
    congr 2
    simp [List.extract_eq_take_drop]
   ·simp only [Rep]
    exact ⟨_,rfl,fun y hy=>hone y (List.mem_of_mem_drop (List.mem_of_mem_take hy)),(hr.drop off).take _⟩
  ·simp at h
def aField (T:TypeId→Option TD) (t:TypeId) (x:AV) (f:Nat):Option AV :=
 match T t,x with
 | some d,.agg cs=>match d.k with
  | .struct fs=>match fs[f]? with
   | some (off,ft,_)=>aPart T ft cs off
   | none=>none
  | _=>none
 | _,_=>none
theorem aField_ok {P:Program} {t:TypeId} {x av:AV} {f:Nat} {E:Env} {w:World} {xv:Value} (h:aField (Types P) t x f=some av) (hx:Rep E w x xv) :
  ∃ y,(Instr.field t xv f).run P w=.ok y w∧Rep E w av y:=by
 unfold aField at h
 cases ht:Types P t<;>simp only [ht,reduceCtorEq] at h
 rename_i d
 cases x<;>simp only [reduceCtorEq] at h
 rename_i cs
 cases hk:d.k<;>simp only [hk,reduceCtorEq] at h
 rename_i fs
 cases hf:fs[f]?<;>simp only [hf,reduceCtorEq] at h
 rename_i fd
 obtain ⟨off,ft,sz⟩:=fd
 obtain ⟨l,h1,h2,h3⟩:=und_struct (w:=w) ht hk
 obtain ⟨fl,h4,h5⟩:=mapM_get h3 f _ hf
 cases hi:P.info? fl.type<;>simp only [hi,Option.map_none,Option.map_some,reduceCtorEq,Option.some.injEq,Prod.mk.injEq] at h5
 rename_i i
 obtain ⟨rfl,rfl,rfl⟩:=h5
 have h4':l[f]?=some fl:=by simpa using h4
 simp only [Rep] at hx
 obtain ⟨vs,rfl,k2,k3⟩:=hx
 obtain ⟨y,q1,q2⟩:=aPart_ok (P:=P) h k3 k2
 exact ⟨y,by simp [Instr.field,h1,h4',asAgg,q1],q2⟩
def aIndex (T:TypeId→Option TD) (t:TypeId) (x i:AV):Option AV :=
 match T t,aInt i,x with
 | some d,some j,.agg cs=>match d.k with
  | .array n e=>match T e with
   | some de=>if 0≤j∧j<n then aPart T e cs (j.toNat*de.size) else none
   | none=>none
  | _=>none
 | some d,some j,.v (.string s)=>match d.k with
  | .str=>if 0≤j then (match s[j.toNat]? with|some b=>some (.v (.int .u8 b.toNat))|none=>none) else none
  | _=>none
 | _,_,_=>none
theorem aIndex_ok {P:Program} {t:TypeId} {x i av:AV} {E:Env} {w:World} {xv iv:Value} (h:aIndex (Types P) t x i=some av) (hx:Rep E w x xv) (hi:Rep E w i iv) :
  ∃ y,(Instr.index t xv iv).run P w=.ok y w∧Rep E w av y:=by
 unfold aIndex at h
 cases ht:Types P t<;>simp only [ht,reduceCtorEq] at h
 rename_i d
 cases hj:aInt i<;>simp only [hj,reduceCtorEq] at h
 rename_i j
 obtain ⟨k,rfl,hjr⟩:=aInt_ok (P:=P) hj hi
 cases x<;>try (simp only [reduceCtorEq] at h;done)
 case v xv' =>
  cases xv'<;>try (simp only [reduceCtorEq] at h;done)
  rename_i s
  cases hk:d.k<;>simp only [hk,reduceCtorEq] at h
  split at h
  case isFalse=>simp at h
  rename_i hj0
  cases hs:s[j.toNat]?<;>simp only [hs,reduceCtorEq,Option.some.injEq] at h
  rename_i b
  subst h
  simp only [Rep,CRep] at hx
  subst hx
  exact ⟨_,by simp [Instr.index,hjr,und_str ht hk,hj0,hs];rfl,by simp [Rep,CRep]⟩
 rename_i cs
 cases hk:d.k<;>simp only [hk,reduceCtorEq] at h
 rename_i n e
 cases he:Types P e<;>simp only [he,reduceCtorEq] at h
 rename_i de
 split at h
 case isFalse=>simp at h
 rename_i hjn
 simp only [Rep] at hx
 obtain ⟨vs,rfl,k2,k3⟩:=hx
 obtain ⟨y,q1,q2⟩:=aPart_ok (P:=P) h k3 k2
 exact ⟨y,by simp [Instr.index,hjr,und_array ht hk,hjn,run_size he,q1],q2⟩
def aNew (nid:Nat) (cs:List AV):AV×List (Nat×AO):=(.bp nid 0,[(nid,.box cs)])
theorem aNew_ok {P:Program} {nid:Nat} {cs:List AV} {t:TypeId} {x:Value} {vs:List Value} {w0:World} {bl:Bk} {E:Env} {w:World} (hI:Inv w0 bl E w) (hnid:¬ E.alive nid) (hv:x.cells=vs.toArray) (hr:RepL E w cs vs) (ho:∀ y∈vs,y.oneCell'=true) :
  ∃ y E' w',(newVar t x).run P w=.ok y w'∧StepTo w0 bl E w (aNew nid cs).2 E' w'∧Rep E' w' (aNew nid cs).1 (.pointer (some y)):=by
 have hst:StepTo w0 bl E w [(nid,.box cs)] (E.upd nid 0 (some (w.heap.size,0,vs.toArray.size))) (w.alloc (.cells vs.toArray t)):=by
  refine StepTo.alloc hI nid _ 0 0 vs.toArray t hnid ?_
  simp only [ObjRep,Env.upd,if_true]
  refine ⟨trivial,w.heap.size,t,vs,by simp,heap_alloc_new w _,ho,?_⟩
  exact hr.mono (Env.le_upd (b:=nid) (v':=0) (l':=some (w.heap.size,0,vs.toArray.size)) fun hh=>absurd hh hnid) fun k hk=>heap_alloc_old w _ k (hI.good k hk)
 refine ⟨⟨w.heap.size,0,none⟩,_,_,?_,hst,?_⟩
 ·simp [newVar,newRow,hv]
 ·simp only [aNew,Rep]
  exact ⟨.inr rfl,by simp [Env.upd],w.heap.size,vs.toArray.size,by simp [Env.upd],rfl⟩
def aAlloc (T:TypeId→Option TD) (nid:Nat) (t:TypeId):Option (AV×List (Nat×AO)) :=
 match T t with
 | some d=>if d.zero.all Value.oneCell'=true then some (aNew nid (d.zero.map .v)) else none
 | none=>none
theorem repL_v {E:Env} {w:World}:∀ {vs:List Value},RepL E w (vs.map .v) vs
 | []=>by simp [RepL]
 | x::r=>by simp only [List.map_cons,RepL];exact ⟨by simp [Rep,CRep],repL_v⟩
theorem aAlloc_ok {P:Program} {nid:Nat} {t:TypeId} {av:AV} {u:List (Nat×AO)} {w0:World} {bl:Bk} {E:Env} {w:World} (h:aAlloc (Types P) nid t=some (av,u)) (hI:Inv w0 bl E w) (hnid:¬ E.alive nid) (old:Value) :
  ∃ y E' w',(Instr.alloc t true old).run P w=.ok y w'∧StepTo w0 bl E w u E' w'∧Rep E' w' av y:=by
 unfold aAlloc at h
 cases ht:Types P t<;>simp only [ht,reduceCtorEq] at h
 rename_i d
 split at h
 case isFalse=>simp at h
 rename_i hall
 simp only [Option.some.injEq] at h
 obtain ⟨z,hz,hzz⟩:=run_zero (P:=P) (w:=w) ht
 obtain ⟨y,E',w',k1,k2,k3⟩:=aNew_ok (P:=P) (t:=t) (x:=z) (vs:=d.zero) hI hnid (by rw [← hzz]) (repL_v (vs:=d.zero)) (by simpa using hall)
 rw [h] at k2 k3
 exact ⟨_,E',w',by simp [Instr.alloc,hz,k1],k2,k3⟩
def aBox (nid:Nat) (x:AV):Option (AV×List (Nat×AO)) :=
 match x.cells with
 | some cs=>some (aNew nid cs)
 | none=>none
theorem aBox_ok {P:Program} {nid:Nat} {t:TypeId} {x av:AV} {u:List (Nat×AO)} {w0:World} {bl:Bk} {E:Env} {w:World} {xv:Value} (h:aBox nid x=some (av,u)) (hx:Rep E w x xv) (hI:Inv w0 bl E w) (hnid:¬ E.alive nid) :
  ∃ y E' w',(Instr.box t xv).run P w=.ok y w'∧StepTo w0 bl E w u E' w'∧Rep E' w' av y:=by
 unfold aBox at h
 cases hc:x.cells<;>simp only [hc,reduceCtorEq,Option.some.injEq] at h
 rename_i cs
 obtain ⟨vs,h1,h2,h3⟩:=hx.cells hc
 obtain ⟨y,E',w',k1,k2,k3⟩:=aNew_ok (P:=P) (t:=t) hI hnid h1 h2 h3
 rw [h] at k2 k3
 exact ⟨_,E',w',by simp [Instr.box,k1],k2,k3⟩
def aFill (place:Nat→Option (Nat×Nat)) (cs:List AV):List (Nat×AV)→Option (List AV)
 | []=>some cs
 | (i,a)::r=>match place i,a.cells with
  | some (off,size),some new=>if new.length=size∧off+new.length≤cs.length then aFill place (putL cs off new) r else none
  | _,_=>none
def RepP (E:Env) (w:World):List (Nat×AV)→List (Nat×Value)→Prop
 | [],[]=>True
 | (i,a)::r,(j,x)::s=>i=j∧Rep E w a x∧RepP E w r s
 | _,_=>False
theorem foldl_setL:∀ (vs:List Value) (c:Array Value) (off k:Nat),(vs.zipIdx k).foldl (fun cs (cj:Value×Nat)=>cs.setIfInBounds (off+cj.2) cj.1) c=(setL c.toList (off+k) vs).toArray
 | [],c,off,k=>by simp [setL]
 | v::r,c,off,k=>by
  simp only [List.zipIdx_cons,List.foldl_cons,setL]
  rw [foldl_setL r _ off (k+1)]
  simp [Nat.add_assoc]
theorem aFill_ok {place:Nat→Option (Nat×Nat)} {E:Env} {w:World}:∀ {parts:List (Nat×AV)} {pv:List (Nat×Value)} {cs r:List AV} {vs:List Value},aFill place cs parts=some r→RepP E w parts pv→RepL E w cs vs→(∀ y∈vs,y.oneCell'=true) →
  ∃ us:List Value,Instr.fill place vs.toArray pv=some us.toArray∧RepL E w r us∧∀ y∈us,y.oneCell'=true
 | [],[],cs,r,vs,h,_,hr,ho=>by
  simp only [aFill,Option.some.injEq] at h
  subst h
  exact ⟨vs,rfl,hr,ho⟩
 | (i,a)::ps,(j,x)::pv,cs,r,vs,h,hp,hr,ho=>by
  simp only [RepP] at hp
  obtain ⟨rfl,hp1,hp2⟩:=hp
  simp only [aFill] at h
  cases hpl:place i<;>simp only [hpl,reduceCtorEq] at h
  rename_i os
  obtain ⟨off,size⟩:=os
  cases hc:a.cells<;>simp only [hc,reduceCtorEq] at h
  rename_i new
  split at h
  case isFalse=>simp at h
  rename_i hle
  obtain ⟨xs,h1,h2,h3⟩:=hp1.cells hc
  have hl1:=h2.length
  have hl2:=hr.length
  rw [putL_eq hle.2] at h
  obtain ⟨us,k1,k2,k3⟩:=aFill_ok h hp2 (hr.setL h2) (setL_mem ho h3)
  refine ⟨us,?_,k2,k3⟩
  simp only [Instr.fill,hpl,h1]
  rw [if_neg (by simp;omega)]
  have:=foldl_setL xs vs.toArray off 0
  rw [← k1]
  congr 1
  simpa using this
 | [],_::_,_,_,_,_,hp,_,_=>by simp [RepP] at hp
 | _::_,[],_,_,_,_,hp,_,_=>by simp [RepP] at hp
def aBuild (T:TypeId→Option TD) (t:TypeId) (parts:List (Nat×AV)):Option AV :=
 match T t with
 | none=>none
 | some d=>if d.zero.all Value.oneCell'=true then (match d.k with
  | .struct fs=>(aFill (fun i=>(fs[i]?).map fun f=>(f.1,f.2.2)) (d.zero.map .v) parts).map .agg
  | .array _ e=>match T e with
   | some de=>(aFill (fun i=>some (i*de.size,de.size)) (d.zero.map .v) parts).map .agg
   | none=>none
  | _=>none) else none
theorem mapM_map {α β γ:Type} {f:α→Option β} {g:β→γ}:∀ {l:List α} {r:List β},l.mapM f=some r→l.mapM (fun a=>(f a).map g)=some (r.map g)
 | [],r,h=>by simp at h;subst h;simp
 | x::l,r,h=>by
  simp only [List.mapM_cons,Option.bind_eq_bind,Option.pure_def] at h ⊢
  cases hx:f x with
  | none=>simp [hx] at h
  | some y =>
   cases hr:l.mapM f with
   | none=>simp [hx,hr] at h
   | some r' =>
    simp [hx,hr] at h
    subst h
    simp [mapM_map hr]
theorem aBuild_ok {P:Program} {t:TypeId} {parts:List (Nat×AV)} {av:AV} {E:Env} {w:World} {pv:Array (Nat×Value)} (h:aBuild (Types P) t parts=some av) (hp:RepP E w parts pv.toList) :
  ∃ y,(Instr.build t pv).run P w=.ok y w∧Rep E w av y:=by
 unfold aBuild at h
 cases ht:Types P t<;>simp only [ht,reduceCtorEq] at h
 rename_i d
 split at h
 case isFalse=>simp at h
 rename_i hall
 obtain ⟨z,hz,hzz⟩:=run_zero (P:=P) (w:=w) ht
 have hzc:z.cells=d.zero.toArray:=by rw [← hzz]
 have hone:∀ y∈d.zero,y.oneCell'=true:=by simpa using hall
 cases hk:d.k<;>simp only [hk,reduceCtorEq] at h
 case struct fs =>
  cases hf:aFill (fun i=>(fs[i]?).map fun f=>(f.1,f.2.2)) (d.zero.map .v) parts<;>simp only [hf,Option.map_none,Option.map_some,reduceCtorEq,Option.some.injEq] at h
  rename_i r
  subst h
  obtain ⟨us,k1,k2,k3⟩:=aFill_ok hf hp repL_v hone
  obtain ⟨l,h1,h2,h3⟩:=und_struct (w:=w) ht hk
  have hpl:(l.toList.mapM fun f=>Functor.map (Prod.mk f.offset) (sizeOf f.type)).run P w=.ok (fs.map fun f=>(f.1,f.2.2)) w:=by
   refine run_places w _ _ ?_
   have:=mapM_map (g:=fun f:Nat×TypeId×Nat=>(f.1,f.2.2)) h3
   rw [← this]
   congr 1
   funext f
   cases P.info? f.type<;>rfl
  refine ⟨.agg us.toArray,?_,by simp only [Rep];exact ⟨us,rfl,k3,k2⟩⟩
  have hfill:Instr.fill (fun x=>(fs.map fun f=>(f.1,f.2.2))[x]?) z.cells pv.toList=some us.toArray:=by
   rw [hzc,← k1]
   congr 1
   funext i
   simp
  simp only [List.getElem?_map] at hfill
  simp [Instr.build,h1,hz,Array.mapM_eq_mapM_toList,hpl,hfill]
 case array n e =>
  cases he:Types P e<;>simp only [he,reduceCtorEq] at h
  rename_i de
  cases hf:aFill (fun i=>some (i*de.size,de.size)) (d.zero.map .v) parts<;>simp only [hf,Option.map_none,Option.map_some,reduceCtorEq,Option.some.injEq] at h
  rename_i r
  subst h
  obtain ⟨us,k1,k2,k3⟩:=aFill_ok hf hp repL_v hone
  refine ⟨.agg us.toArray,?_,by simp only [Rep];exact ⟨us,rfl,k3,k2⟩⟩
  simp [Instr.build,und_array ht hk,hz,hzc,run_size he,k1]
def aParts:List (Nat×AV)→Nat→Option (List (List AV))
 | [],_=>some []
 | (i,a)::r,k=>if i=k then (match a.cells,aParts r (k+1) with
  | some cs,some rest=>some (cs::rest)
  | _,_=>none) else none
def aBuildSlice (T:TypeId→Option TD) (nid:Nat) (t:TypeId) (n:Nat) (parts:List (Nat×AV)):Option (AV×List (Nat×AO)) :=
 match T t with
 | none=>none
 | some d=>match d.k with
  | .slice e=>match T e,aParts parts 0 with
   | some de,some rows =>
    if rows.length=n∧n≤1024∧de.size≤1024∧1≤de.size∧de.zero.length=de.size∧(∀ r∈rows,r.length=de.size∧r.all AV.isClosed=true) then
     some (.sl nid 1 de.size 0 n,[(nid,.vec 1 de.size false rows)])
    else none
   | _,_=>none
  | _=>none
theorem fill_rows {E:Env} {w:World} {s:Nat}:∀ {parts:List (Nat×AV)} {pv:List (Nat×Value)} {rows:List (List AV)} {k:Nat} {c:List Value},aParts parts k=some rows→RepP E w parts pv→(∀ r∈rows,r.length=s∧r.all AV.isClosed=true)→c.length=(k+rows.length)*s →
  ∃ vs,Instr.fill (fun i=>some (i*s,s)) c.toArray pv=some ((c.take (k*s))++vs).toArray∧VR w E.G s vs rows
 | [],[],rows,k,c,h,_,_,hc=>by
  simp only [aParts,Option.some.injEq] at h
  subst h
  refine ⟨[],?_,VR.nil⟩
  simp only [Instr.fill,List.append_nil]
  rw [List.take_of_length_le (by simp at hc;omega)]
 | (i,a)::ps,(j,x)::pv,rows,k,c,h,hp,hr,hc=>by
  simp only [RepP] at hp
  obtain ⟨rfl,hp1,hp2⟩:=hp
  simp only [aParts] at h
  split at h
  case isFalse=>simp at h
  rename_i hik
  subst hik
  cases hca:a.cells<;>simp only [hca,reduceCtorEq] at h
  rename_i cs
  cases hrest:aParts ps (i+1)<;>simp only [hrest,reduceCtorEq,Option.some.injEq] at h
  rename_i rest
  subst h
  obtain ⟨xs,h1,h2,h3⟩:=hp1.cells hca
  have hcs:=hr cs (by simp)
  have hl:=h2.length
  have hmul:(i+(cs::rest).length)*s=i*s+s+rest.length*s:=by simp only [List.length_cons];rw [Nat.add_mul,Nat.add_mul];omega
  obtain ⟨vs,k1,k2⟩:=fill_rows (k:=i+1) (c:=setL c (i*s) xs) hrest hp2 (fun r hr'=>hr r (by simp [hr'])) (by rw [setL_length,hc,hmul,Nat.add_mul,Nat.add_mul];omega)
  refine ⟨xs++vs,?_,?_⟩
  ·simp only [Instr.fill,h1]
   rw [if_neg (by simp;omega)]
   have hfold:=foldl_setL xs c.toArray (i*s) 0
   have:(xs.toArray.zipIdx.foldl (fun cs (cj:Value×Nat)=>cs.setIfInBounds (i*s+cj.2) cj.1) c.toArray)=(setL c (i*s) xs).toArray:=by simpa using hfold
   rw [this,k1]
   have e1:(i+1)*s=i*s+s:=by rw [Nat.add_mul];omega
   have:(setL c (i*s) xs).take ((i+1)*s)=c.take (i*s)++xs:=by
    apply List.ext_getElem?
    intro j
    rw [List.getElem?_take]
    by_cases hj:j<(i+1)*s
    ·rw [if_pos hj,setL_get (by omega)]
     by_cases hj2:i*s≤j
     ·rw [if_pos (by omega),List.getElem?_append_right (by simp;omega)]
      congr 1
      simp
      omega
     ·rw [if_neg (by omega),List.getElem?_append_left (by simp;omega),List.getElem?_take,if_pos (by omega)]
    ·rw [if_neg hj,List.getElem?_eq_none (by simp;omega)]
   rw [this,List.append_assoc]
  ·have:=VR.one_row (h2.to_c hcs.2) h3
   rw [hcs.1] at this
   exact this.append k2
 | [],_::_,_,_,_,_,hp,_,_=>by simp [RepP] at hp
 | _::_,[],_,_,_,_,hp,_,_=>by simp [RepP] at hp
theorem newSlice_ok {w0:World} {bl:Bk} {E:Env} {w w1:World} {nid s n c:Nat} {rows:List (List AV)} {vs:List Value} {arr:Array Value} {e:TypeId} (hI:Inv w0 bl E w) (hnid:¬ E.alive nid) (h1:w1.heap=w.heap) (h2:w1.os=w.os) (h3:w1.output=w.output)
  (hv:VR w E.G s vs rows) (ha:∀ (k:Nat) (v:Value),vs[k]?=some v→arr[k]?=some v) (hn:rows.length=n) (hc:n≤c) (hsz:c*s=arr.size) (hone:∀ y∈arr.toList,y.oneCell'=true) :
  ∃ E' w',w'=w1.alloc (.cells arr e)∧StepTo w0 bl E w [(nid,.vec 1 s false rows)] E' w'∧Rep E' w' (.sl nid 1 s 0 n) (.slice (some ⟨w.heap.size,0,none⟩) n c):=by
 have hle:rows.length*s≤arr.size:=Nat.le_trans (Nat.mul_le_mul_right s (by omega)) (Nat.le_of_eq hsz)
 exact ⟨_,_,rfl,StepTo.renew hI h1 h2 h3 nid 1 s false rows arr e vs (fun hh=>absurd hh hnid) (Nat.le_refl _) hv ha hle hone (by simp),Rep.slice_of (blk:=w.heap.size) (base:=0) (sz:=arr.size) (.inr rfl) (Nat.le_refl _) (by simp [Env.upd]) (by simp [Env.upd]) hc (.inr rfl) (by simpa using hsz)⟩
theorem aBuildSlice_ok {P:Program} {nid:Nat} {t:TypeId} {n:Nat} {parts:List (Nat×AV)} {av:AV} {u:List (Nat×AO)} {w0:World} {bl:Bk} {E:Env} {w:World} {pv:Array (Nat×Value)} (h:aBuildSlice (Types P) nid t n parts=some (av,u)) (hp:RepP E w parts pv.toList)
  (hI:Inv w0 bl E w) (hnid:¬ E.alive nid) :
  ∃ y E' w',(Instr.buildSlice t n pv).run P w=.ok y w'∧StepTo w0 bl E w u E' w'∧Rep E' w' av y:=by
 unfold aBuildSlice at h
 cases ht:Types P t<;>simp only [ht,reduceCtorEq] at h
 rename_i d
 cases hk:d.k<;>simp only [hk,reduceCtorEq] at h
 rename_i e
 cases he:Types P e<;>simp only [he,reduceCtorEq] at h
 rename_i de
 cases hrows:aParts parts 0<;>simp only [hrows,reduceCtorEq] at h
 rename_i rows
 split at h
 case isFalse=>simp at h
 rename_i hh
 obtain ⟨hn,hn2,hs2,hs1,hz1,hall⟩:=hh
 simp only [Option.some.injEq,Prod.mk.injEq] at h
 obtain ⟨rfl,rfl⟩:=h
 obtain ⟨z,hz,hzz⟩:=run_zero (P:=P) (w:=w) he
 have hlim:¬ (n*de.size > 2^24):=by
  have:n*de.size≤1024*1024:=Nat.mul_le_mul hn2 hs2
  omega
 have hrun:∀ c:List Value,c.length=n*de.size→∃ vs,Instr.fill (fun i=>some (i*de.size,de.size)) c.toArray pv.toList=some vs.toArray∧VR w E.G de.size vs rows:=fun c hc=>by
  obtain ⟨vs,k1,k2⟩:=fill_rows (k:=0) (c:=c) hrows hp hall (by rw [hc,hn];simp)
  exact ⟨vs,by simpa using k1,k2⟩
 by_cases h0:n*de.size=0
 ·obtain ⟨vs,k1,k2⟩:=hrun [] (by simp [h0])
  obtain ⟨E',w',rfl,q1,q2⟩:=newSlice_ok (w1:=w) (n:=n) (c:=n) (arr:=vs.toArray) (e:=e) hI hnid rfl rfl rfl k2 (fun k v hv=>by simpa using hv) hn (Nat.le_refl _) (by simp [k2.len,hn]) (by simpa using k2.one)
  refine ⟨_,E',_,?_,q1,q2⟩
  have hr0:(Array.range 0:Array Nat)=#[]:=rfl
  simp [Instr.buildSlice,und_slice ht hk,run_size he,h0,hr0,k1,newRow]
 ·obtain ⟨vs,k1,k2⟩:=hrun ((List.range (n*de.size)).map fun i=>z.cells[i%z.cells.size]!) (by simp)
  obtain ⟨E',w',rfl,q1,q2⟩:=newSlice_ok (w1:=w) (n:=n) (c:=n) (arr:=vs.toArray) (e:=e) hI hnid rfl rfl rfl k2 (fun k v hv=>by simpa using hv) hn (Nat.le_refl _) (by simp [k2.len,hn]) (by simpa using k2.one)
  refine ⟨_,E',_,?_,q1,q2⟩
  have harr:(Array.range (n*de.size)).map (fun i=>z.cells[i%z.cells.size]!)=((List.range (n*de.size)).map fun i=>z.cells[i%z.cells.size]!).toArray:=by simp [← List.toArray_range]
  simp [Instr.buildSlice,und_slice ht hk,run_size he,hlim,h0,hz,harr,k1,newRow]
def aMakeSlice (T:TypeId→Option TD) (nid:Nat) (t:TypeId) (l c:AV):Option (AV×List (Nat×AO)) :=
 match T t,aInt l,aInt c with
 | some d,some n,some m=>match d.k with
  | .slice e=>match T e with
   | some de =>
    if 0≤n∧n≤m∧m≤1073741824∧de.bytes≤65536∧de.zero.length=de.size∧de.zero.all Value.oneCell'=true then
     some (.sl nid 1 de.size 0 n.toNat,[(nid,.vec 1 de.size false (List.replicate n.toNat (de.zero.map .v)))])
    else none
   | none=>none
  | _=>none
 | _,_,_=>none
theorem crepL_v {w:World} {G:Nat→Prop}:∀ {vs:List Value},CRepL w G (vs.map .v) vs
 | []=>by simp [CRepL]
 | x::r=>by simp only [List.map_cons,CRepL];exact ⟨by simp [CRep],crepL_v⟩
theorem VR.replicate {w:World} {G:Nat→Prop} {z:List Value} (ho:∀ y∈z,y.oneCell'=true):∀ n,VR w G z.length (List.replicate n z).flatten (List.replicate n (z.map .v))
 | 0=>by simpa using VR.nil
 | n+1=>by
  have:=VR.one_row (w:=w) (G:=G) crepL_v ho
  simp only [List.length_map] at this
  have:=this.append (VR.replicate (w:=w) (G:=G) ho n)
  simpa [List.replicate_succ] using this
theorem flatten_get {z:List Value} {n k:Nat} (hk:k<n*z.length):(List.replicate n z).flatten[k]?=z[k%z.length]?:=by
 induction n generalizing k with
 | zero=>simp at hk
 | succ n ih =>
  simp only [List.replicate_succ,List.flatten_cons]
  by_cases h:k<z.length
  ·rw [List.getElem?_append_left h,Nat.mod_eq_of_lt h]
  ·rw [List.getElem?_append_right (by omega),ih (by rw [Nat.add_mul] at hk;omega),Nat.mod_eq_sub_mod (a:=k) (b:=z.length) (by omega)]
theorem wrap_small (n:Int) (h0:0≤n) (h1:n≤1073741824):IntKind.i64.wrap n=n:=by
 simp [IntKind.wrap,IntKind.bits,IntKind.signed]
 omega
theorem aMakeSlice_ok {P:Program} {nid:Nat} {t:TypeId} {l c av:AV} {u:List (Nat×AO)} {w0:World} {bl:Bk} {E:Env} {w:World} {lv cv:Value} (h:aMakeSlice (Types P) nid t l c=some (av,u)) (hl:Rep E w l lv) (hc:Rep E w c cv)
  (hI:Inv w0 bl E w) (hnid:¬ E.alive nid) :
  ∃ y E' w',(Instr.makeSlice t lv cv).run P w=.ok y w'∧StepTo w0 bl E w u E' w'∧Rep E' w' av y:=by
 unfold aMakeSlice at h
 cases ht:Types P t<;>simp only [ht,reduceCtorEq] at h
 rename_i d
 cases hln:aInt l<;>simp only [hln,reduceCtorEq] at h
 rename_i n
 cases hcn:aInt c<;>simp only [hcn,reduceCtorEq] at h
 rename_i m
 cases hk:d.k<;>simp only [hk,reduceCtorEq] at h
 rename_i e
 cases he:Types P e<;>simp only [he,reduceCtorEq] at h
 rename_i de
 split at h
 case isFalse=>simp at h
 rename_i hh
 obtain ⟨h1,h2,h3,h4,h5,h6⟩:=hh
 simp only [Option.some.injEq,Prod.mk.injEq] at h
 obtain ⟨rfl,rfl⟩:=h
 obtain ⟨kl,rfl,hlr⟩:=aInt_ok (P:=P) hln hl
 obtain ⟨kc,rfl,hcr⟩:=aInt_ok (P:=P) hcn hc
 obtain ⟨i,hi,hib,his⟩:=run_info (P:=P) (w:=w) he
 obtain ⟨z,hz,hzz⟩:=run_zero (P:=P) (w:=w) he
 have hzs:z.cells.size=de.size:=by rw [← h5,← hzz];simp
 have hbm:(de.bytes:Int)*m≤65536*1073741824:=by
  have:=Int.mul_le_mul (Int.ofNat_le.2 h4) h3 (by omega) (by omega)
  simpa using this
 have hbn:(de.bytes:Int)*n≤65536*1073741824:=by
  have:=Int.mul_le_mul (Int.ofNat_le.2 h4) (Int.le_trans h2 h3) h1 (by omega)
  simpa using this
 have hone:∀ y∈de.zero,y.oneCell'=true:=by simpa using h6
 let arr:Array Value:=if m.toNat*de.size=0 then #[] else (Array.range (m.toNat*de.size)).map (fun i=>z.cells[i%z.cells.size]!)
 have harrs:arr.size=m.toNat*de.size:=by
  show (if m.toNat*de.size=0 then #[] else _:Array Value).size=_
  split
  ·rename_i h0;simp [h0]
  ·simp
 have harro:∀ y∈arr.toList,y.oneCell'=true:=fun y hy=>by
  have hy:y∈(if m.toNat*de.size=0 then #[] else (Array.range (m.toNat*de.size)).map (fun i=>z.cells[i%z.cells.size]!):Array Value).toList:=hy
  split at hy
  ·simp at hy
  ·rename_i h0
   simp only [Array.toList_map,List.mem_map] at hy
   obtain ⟨i,_,rfl⟩:=hy
   have hpos:0<z.cells.size:=by rw [hzs];exact Nat.pos_of_ne_zero fun e=>h0 (by rw [e];simp)
   have hlt:i%z.cells.size<z.cells.size:=Nat.mod_lt _ hpos
   rw [getElem!_pos z.cells _ hlt]
   exact hone _ (by rw [← hzz];exact Array.mem_toList_iff.2 (Array.getElem_mem _))
 have hvr:=VR.replicate (w:=w) (G:=E.G) hone n.toNat
 rw [h5] at hvr
 obtain ⟨E',w',rfl,q1,q2⟩:=newSlice_ok (w1:=w) (n:=n.toNat) (c:=m.toNat) (arr:=arr) (e:=e) hI hnid rfl rfl rfl hvr (fun k v hv=>by
  have hk:=(List.getElem?_eq_some_iff.1 hv).1
  rw [hvr.len] at hk
  simp only [List.length_replicate] at hk
  have hmul:n.toNat*de.size≤m.toNat*de.size:=Nat.mul_le_mul_right _ (by omega)
  rw [← h5] at hk
  rw [flatten_get hk,h5] at hv
  rw [h5] at hk
  show (if m.toNat*de.size=0 then #[] else _:Array Value)[k]?=_
  rw [if_neg (by omega)]
  have hlt:k<((Array.range (m.toNat*de.size)).map (fun i=>z.cells[i%z.cells.size]!)).size:=by simp;omega
  rw [Array.getElem?_eq_getElem hlt]
  simp only [Array.getElem_map,Array.getElem_range,hzs]
  have:z.cells[k%de.size]! = v:=by
   rw [← hzz,Array.getElem?_toList] at hv
   rw [Array.getElem!_eq_getD,Array.getD_eq_getD_getElem?,hv]
   rfl
  rw [this]) (by simp) (by omega) harrs.symm harro
 refine ⟨_,E',_,?_,q1,q2⟩
 have e1:¬ ((m<0∨2^48<(de.bytes:Int)*m)):=by omega
 simp only [Instr.makeSlice,Sem.run_bind,und_slice ht hk,Result.andThen_ok,asInt,hlr,hcr,Sem.run_pure,hi,hib,wrap_small n h1 (by omega),wrap_small m (by omega) h3]
 rw [if_neg ?_]
 ·simp only [Sem.run_bind,run_askRoom,Result.andThen_ok,run_size he]
  by_cases h0:m.toNat*de.size=0
  ·have hr0:(Array.range 0:Array Nat)=#[]:=rfl
   simp [h0,newRow,arr,hr0]
  ·simp [h0,hz,newRow,arr]
 ·simp only [Bool.or_eq_true,decide_eq_true_eq,not_or]
  omega
end Go.AM
