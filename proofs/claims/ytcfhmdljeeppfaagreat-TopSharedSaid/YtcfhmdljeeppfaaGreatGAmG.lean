/- A part of the proof. -/
import Derived.Test.YtcfhmdljeeppfaaGreatGAmA
import Derived.Laws.Shifts
import Derived.Laws.Small
import Derived.Laws.Unary
import Derived.Laws.Cover3
import GoSem.Instr.Lookup
import GoSem.Instr.MapUpdate
import GoSem.Instr.MakeMap
import GoSem.Builtin.Delete
set_option linter.all false
namespace Go.AM
open Go
theorem zhO {α β:Type} {f:α->Option β}:∀ {l:List α} {r:List β},l.mapM f=some r->∀ (i:Nat) (b:β),r[i]?=some b->∃ a,l[i]?=some a∧f a=some b
 | [],r,h,i,b,hb=>by simp at h;subst h;simp at hb
 | x::l,r,h,i,b,hb=>by
  simp only [List.mapM_cons,Option.bind_eq_bind,Option.pure_def] at h;cases hx:f x with
  | none=>simp [hx] at h
  | some y =>
   cases hr:l.mapM f with
   | none=>simp [hx,hr] at h
   | some r' =>
    simp [hx,hr] at h;subst h;cases i with
    | zero=>simp at hb;subst hb;exact ⟨x,by simp,hx⟩
    | succ i=>simp at hb;simpa using zhO hr i b hb
def zdy (T:TypeId->Option TD) (t:TypeId) (x:AV) (f:Nat):Option AV :=
 match T t with
 | none=>none
 | some d=>match d.k with
  | .struct fs=>match fs[f]? with
   | some (off,_,sz)=>if sz=0 then none else match x with
    | .bp b o=>some (.bp b (o+off))
    | .rp cs=>some (.rp (cs.drop off))
    | .ep b m s i j=>some (.ep b m s i (j+off))
    | _=>none
   | none=>none
  | _=>none
theorem zim {P:Program} {t:TypeId} {x av:AV} {f:Nat} {E:Env} {w:World} {xv:Value} (h:zdy (za P) t x f=some av) (hx:Rep E w x xv) :
  ∃ y,(Instr.fieldAt t xv f).run P w=.ok y w∧Rep E w av y:=by
 unfold zdy at h;cases ht:za P t<;>simp only [ht,reduceCtorEq] at h;rename_i d;cases hk:d.k<;>simp only [hk,reduceCtorEq] at h;rename_i fs;cases hf:fs[f]?<;>simp only [hf,reduceCtorEq] at h;rename_i fd;obtain ⟨off,ft,sz⟩:=fd;simp only at h;split at h
 ·simp at h
 rename_i hsz;obtain ⟨l,h1,h2,h3⟩:=zeH (w:=w) ht hk;obtain ⟨fl,h4,h5⟩:=zhO h3 f _ hf;cases hi:P.info? fl.type<;>simp only [hi,Option.map_none,Option.map_some,reduceCtorEq,oJ,pJ] at h5;rename_i i;obtain ⟨rfl,rfl,rfl⟩:=h5;have h4':l[f]?=some fl:=by simpa using h4
 have hrun:∀ a,(Instr.fieldAt t (.pointer (some a)) f).run P w=.ok (.pointer (some (a.add fl.offset))) w:=fun a=>by simp [Instr.fieldAt,h1,h4',Instr.sureAddr,fieldPlace,sizeOf,typeInfo,hi,hsz]
 cases x<;>simp only [reduceCtorEq,oJ] at h
 case bp b o =>subst h;simp only [Rep] at hx;obtain ⟨k1,k2,blk,sz,k3,rfl⟩:=hx;exact ⟨_,hrun _,by simp only [Rep,aPl];exact ⟨k1,k2,blk,sz,k3,rfl⟩⟩
 case rp cs =>subst h;simp only [Rep,zd] at hx;obtain ⟨blk,off,rfl,k3,k4⟩:=hx;exact ⟨_,hrun _,by simp only [Rep,zd,aPl];exact ⟨blk,_,rfl,k3,k4.drop _⟩⟩
 case ep b m s i' jj =>subst h;simp only [Rep] at hx;obtain ⟨k1,k2,k3,a,rfl,k5⟩:=hx;refine ⟨_,hrun _,?_⟩;simp only [Rep];refine ⟨k1,k2,k3,_,rfl,fun hm=>?_⟩;obtain ⟨blk,base,sz,k6,rfl⟩:=k5 hm;exact ⟨blk,base,sz,k6,by rw [aPl,Nat.add_assoc]⟩
def zoS (T:TypeId->Option TD) (t:TypeId) (cs:List AV) (off:Nat):Option AV :=
 match T t with
 | none=>none
 | some d=>if d.k.isOther then none else zgB d.k.agg d.size cs off
theorem zlU {P:Program} {t:TypeId} {cs:List AV} {off:Nat} {av:AV} {E:Env} {w:World} {vs:List Value} (h:zoS (za P) t cs off=some av) (hr:RepL E w cs vs) (hone:∀ y∈vs,y.oneCell'=true) :
  ∃ y,(part t vs.toArray off).run P w=.ok y w∧Rep E w av y:=by
 unfold zoS at h;cases ht:za P t<;>simp only [ht,reduceCtorEq] at h;rename_i d;split at h
 ·simp at h
 rename_i hoth;have hne:d.k≠.other:=fun e=>by rw [e] at hoth;simp [TK.isOther] at hoth
 unfold zgB at h;cases ha:d.k.agg<;>simp only [ha,Bool.false_eq_true,if_false,if_true] at h
 ·obtain ⟨y,h1,h2⟩:=hr.get h;exact ⟨y,by simp [part,zhz ht hne,ha,h1],h2⟩
 ·split at h
  ·rename_i hlt;simp only [oJ] at h;subst h;refine ⟨.agg ((vs.drop off).take d.size).toArray,?_,?_⟩
   ·simp only [part,Sem.run_bind,zhz ht hne,ha,Result.andThen_ok,if_true,rSz ht,Sem.run_pure];congr 2;simp [List.extract_eq_take_drop]
   ·simp only [Rep];exact ⟨_,rfl,fun y hy=>hone y (List.mem_of_mem_drop (List.mem_of_mem_take hy)),(hr.drop off).take _⟩
  ·simp at h
def zlY (T:TypeId->Option TD) (t:TypeId) (x:AV) (f:Nat):Option AV :=
 match T t,x with
 | some d,.agg cs=>match d.k with
  | .struct fs=>match fs[f]? with
   | some (off,ft,_)=>zoS T ft cs off
   | none=>none
  | _=>none
 | _,_=>none
theorem zoW {P:Program} {t:TypeId} {x av:AV} {f:Nat} {E:Env} {w:World} {xv:Value} (h:zlY (za P) t x f=some av) (hx:Rep E w x xv) :
  ∃ y,(Instr.field t xv f).run P w=.ok y w∧Rep E w av y:=by
 unfold zlY at h;cases ht:za P t<;>simp only [ht,reduceCtorEq] at h;rename_i d;cases x<;>simp only [reduceCtorEq] at h;rename_i cs;cases hk:d.k<;>simp only [hk,reduceCtorEq] at h;rename_i fs;cases hf:fs[f]?<;>simp only [hf,reduceCtorEq] at h;rename_i fd;obtain ⟨off,ft,sz⟩:=fd;obtain ⟨l,h1,h2,h3⟩:=zeH (w:=w) ht hk;obtain ⟨fl,h4,h5⟩:=zhO h3 f _ hf;cases hi:P.info? fl.type<;>simp only [hi,Option.map_none,Option.map_some,reduceCtorEq,oJ,pJ] at h5;rename_i i;obtain ⟨rfl,rfl,rfl⟩:=h5;have h4':l[f]?=some fl:=by simpa using h4
 simp only [Rep] at hx;obtain ⟨vs,rfl,k2,k3⟩:=hx;obtain ⟨y,q1,q2⟩:=zlU (P:=P) h k3 k2;exact ⟨y,by simp [Instr.field,h1,h4',asAgg,q1],q2⟩
def zlX (T:TypeId->Option TD) (t:TypeId) (x i:AV):Option AV :=
 match T t,zlW i,x with
 | some d,some j,.agg cs=>match d.k with
  | .array n e=>match T e with
   | some de=>if 0<=j∧j<n then zoS T e cs (j.toNat*de.size) else none
   | none=>none
  | _=>none
 | some d,some j,.v (.string s)=>match d.k with
  | .str=>if 0<=j then (match s[j.toNat]? with|some b=>some (.v (.int .u8 b.toNat))|none=>none) else none
  | _=>none
 | _,_,_=>none
theorem zoV {P:Program} {t:TypeId} {x i av:AV} {E:Env} {w:World} {xv iv:Value} (h:zlX (za P) t x i=some av) (hx:Rep E w x xv) (hi:Rep E w i iv) :
  ∃ y,(Instr.index t xv iv).run P w=.ok y w∧Rep E w av y:=by
 unfold zlX at h;cases ht:za P t<;>simp only [ht,reduceCtorEq] at h;rename_i d;cases hj:zlW i<;>simp only [hj,reduceCtorEq] at h;rename_i j;obtain ⟨k,rfl,hjr⟩:=zgq (P:=P) hj hi;cases x<;>try (simp only [reduceCtorEq] at h;done)
 case v xv' =>
  cases xv'<;>try (simp only [reduceCtorEq] at h;done)
  rename_i s;cases hk:d.k<;>simp only [hk,reduceCtorEq] at h;split at h
  case isFalse=>simp at h
  rename_i hj0;cases hs:s[j.toNat]?<;>simp only [hs,reduceCtorEq,oJ] at h;rename_i b;subst h;simp only [Rep,zd] at hx;subst hx;exact ⟨_,by simp [Instr.index,hjr,zrs ht hk,hj0,hs];rfl,by simp [Rep,zd]⟩
 rename_i cs;cases hk:d.k<;>simp only [hk,reduceCtorEq] at h;rename_i n e;cases he:za P e<;>simp only [he,reduceCtorEq] at h;rename_i de;split at h
 case isFalse=>simp at h
 rename_i hjn;simp only [Rep] at hx;obtain ⟨vs,rfl,k2,k3⟩:=hx;obtain ⟨y,q1,q2⟩:=zlU (P:=P) h k3 k2;exact ⟨y,by simp [Instr.index,hjr,zcR ht hk,hjn,rSz he,q1],q2⟩
def ztE (nid:Nat) (cs:List AV):AV×List (Nat×AO):=(.bp nid 0,[(nid,.box cs)])
theorem zoT {P:Program} {nid:Nat} {cs:List AV} {t:TypeId} {x:Value} {vs:List Value} {w0:World} {bl:Bk} {E:Env} {w:World} (hI:Inv w0 bl E w) (hnid:¬ E.alive nid) (hv:x.cells=vs.toArray) (hr:RepL E w cs vs) (ho:∀ y∈vs,y.oneCell'=true) :
  ∃ y E' w',(newVar t x).run P w=.ok y w'∧StT w0 bl E w (ztE nid cs).2 E' w'∧Rep E' w' (ztE nid cs).1 (.pointer (some y)):=by
 have hst:StT w0 bl E w [(nid,.box cs)] (E.upd nid 0 (some (w.heap.size,0,vs.toArray.size))) (w.alloc (.cells vs.toArray t)):=by refine StT.alloc hI nid _ 0 0 vs.toArray t hnid ?_;simp only [ObR,Env.upd,if_true];refine ⟨trivial,w.heap.size,t,vs,by simp,heap_alloc_new w _,ho,?_⟩;exact hr.mono (Env.le_upd (b:=nid) (v':=0) (l':=some (w.heap.size,0,vs.toArray.size)) fun hh=>absurd hh hnid) fun k hk=>heap_alloc_old w _ k (hI.good k hk)
 refine ⟨⟨w.heap.size,0,none⟩,_,_,?_,hst,?_⟩
 ·simp [newVar,newRow,hv]
 ·simp only [ztE,Rep];exact ⟨.inr rfl,by simp [Env.upd],w.heap.size,vs.toArray.size,by simp [Env.upd],rfl⟩
def zjB (T:TypeId->Option TD) (nid:Nat) (t:TypeId):Option (AV×List (Nat×AO)) :=
 match T t with
 | some d=>if d.zero.all Value.oneCell'=true then some (ztE nid (d.zero.map .v)) else none
 | none=>none
theorem ziL {E:Env} {w:World}:∀ {vs:List Value},RepL E w (vs.map .v) vs
 | []=>by simp [RepL]
 | x::r=>by simp only [List.map_cons,RepL];exact ⟨by simp [Rep,zd],ziL⟩
theorem zo0 {P:Program} {nid:Nat} {t:TypeId} {av:AV} {u:List (Nat×AO)} {w0:World} {bl:Bk} {E:Env} {w:World} (h:zjB (za P) nid t=some (av,u)) (hI:Inv w0 bl E w) (hnid:¬ E.alive nid) (old:Value) :
  ∃ y E' w',(Instr.alloc t true old).run P w=.ok y w'∧StT w0 bl E w u E' w'∧Rep E' w' av y:=by
 unfold zjB at h;cases ht:za P t<;>simp only [ht,reduceCtorEq] at h;rename_i d;split at h
 case isFalse=>simp at h
 rename_i hall;simp only [oJ] at h;obtain ⟨z,hz,hzz⟩:=zcv (P:=P) (w:=w) ht;obtain ⟨y,E',w',k1,k2,k3⟩:=zoT (P:=P) (t:=t) (x:=z) (vs:=d.zero) hI hnid (by rw [<- hzz]) (ziL (vs:=d.zero)) (by simpa using hall);rw [h] at k2 k3;exact ⟨_,E',w',by simp [Instr.alloc,hz,k1],k2,k3⟩
def zvZ (nid:Nat) (x:AV):Option (AV×List (Nat×AO)) :=
 match x.cells with
 | some cs=>some (ztE nid cs)
 | none=>none
theorem zsY {P:Program} {nid:Nat} {t:TypeId} {x av:AV} {u:List (Nat×AO)} {w0:World} {bl:Bk} {E:Env} {w:World} {xv:Value} (h:zvZ nid x=some (av,u)) (hx:Rep E w x xv) (hI:Inv w0 bl E w) (hnid:¬ E.alive nid) :
  ∃ y E' w',(Instr.box t xv).run P w=.ok y w'∧StT w0 bl E w u E' w'∧Rep E' w' av y:=by unfold zvZ at h;cases hc:x.cells<;>simp only [hc,reduceCtorEq,oJ] at h;rename_i cs;obtain ⟨vs,h1,h2,h3⟩:=hx.cells hc;obtain ⟨y,E',w',k1,k2,k3⟩:=zoT (P:=P) (t:=t) hI hnid h1 h2 h3;rw [h] at k2 k3;exact ⟨_,E',w',by simp [Instr.box,k1],k2,k3⟩
def zil (place:Nat->Option (Nat×Nat)) (cs:List AV):List (Nat×AV)->Option (List AV)
 | []=>some cs
 | (i,a)::r=>match place i,a.cells with
  | some (off,size),some new=>if new.length=size∧off+new.length<=cs.length then zil place (zqD cs off new) r else none
  | _,_=>none
def zl1 (E:Env) (w:World):List (Nat×AV)->List (Nat×Value)->Prop
 | [],[]=>True
 | (i,a)::r,(j,x)::s=>i=j∧Rep E w a x∧zl1 E w r s
 | _,_=>False
theorem zeT:∀ (vs:List Value) (c:Array Value) (off k:Nat),(vs.zipIdx k).foldl (fun cs (cj:Value×Nat)=>cs.setIfInBounds (off+cj.2) cj.1) c=(setL c.toList (off+k) vs).toArray
 | [],c,off,k=>by simp [setL]
 | v::r,c,off,k=>by simp only [List.zipIdx_cons,List.foldl_cons,setL];rw [zeT r _ off (k+1)];simp [Nat.add_assoc]
theorem zik {place:Nat->Option (Nat×Nat)} {E:Env} {w:World}:∀ {parts:List (Nat×AV)} {pv:List (Nat×Value)} {cs r:List AV} {vs:List Value},zil place cs parts=some r->zl1 E w parts pv->RepL E w cs vs->(∀ y∈vs,y.oneCell'=true) ->
  ∃ us:List Value,Instr.fill place vs.toArray pv=some us.toArray∧RepL E w r us∧∀ y∈us,y.oneCell'=true
 | [],[],cs,r,vs,h,_,hr,ho=>by
  simp only [zil,oJ] at h;subst h;exact ⟨vs,rfl,hr,ho⟩
 | (i,a)::ps,(j,x)::pv,cs,r,vs,h,hp,hr,ho=>by
  simp only [zl1] at hp;obtain ⟨rfl,hp1,hp2⟩:=hp;simp only [zil] at h;cases hpl:place i<;>simp only [hpl,reduceCtorEq] at h;rename_i os;obtain ⟨off,size⟩:=os;cases hc:a.cells<;>simp only [hc,reduceCtorEq] at h;rename_i new;split at h
  case isFalse=>simp at h
  rename_i hle;obtain ⟨xs,h1,h2,h3⟩:=hp1.cells hc;have hl1:=h2.length;have hl2:=hr.length;rw [zfH hle.2] at h;obtain ⟨us,k1,k2,k3⟩:=zik h hp2 (hr.setL h2) (zbq ho h3);refine ⟨us,?_,k2,k3⟩;simp only [Instr.fill,hpl,h1];rw [if_neg (by simp;omega)];have:=zeT xs vs.toArray off 0;rw [<- k1];congr 1;simpa using this
 | [],_::_,_,_,_,_,hp,_,_=>by simp [zl1] at hp
 | _::_,[],_,_,_,_,hp,_,_=>by simp [zl1] at hp
def zlZ (T:TypeId->Option TD) (t:TypeId) (parts:List (Nat×AV)):Option AV :=
 match T t with
 | none=>none
 | some d=>if d.zero.all Value.oneCell'=true then (match d.k with
  | .struct fs=>(zil (fun i=>(fs[i]?).map fun f=>(f.1,f.2.2)) (d.zero.map .v) parts).map .agg
  | .array _ e=>match T e with
   | some de=>(zil (fun i=>some (i*de.size,de.size)) (d.zero.map .v) parts).map .agg
   | none=>none
  | _=>none) else none
theorem zlc {α β γ:Type} {f:α->Option β} {g:β->γ}:∀ {l:List α} {r:List β},l.mapM f=some r->l.mapM (fun a=>(f a).map g)=some (r.map g)
 | [],r,h=>by simp at h;subst h;simp
 | x::l,r,h=>by
  simp only [List.mapM_cons,Option.bind_eq_bind,Option.pure_def] at h ⊢;cases hx:f x with
  | none=>simp [hx] at h
  | some y =>
   cases hr:l.mapM f with
   | none=>simp [hx,hr] at h
   | some r' =>simp [hx,hr] at h;subst h;simp [zlc hr]
theorem zoZ {P:Program} {t:TypeId} {parts:List (Nat×AV)} {av:AV} {E:Env} {w:World} {pv:Array (Nat×Value)} (h:zlZ (za P) t parts=some av) (hp:zl1 E w parts pv.toList) :
  ∃ y,(Instr.build t pv).run P w=.ok y w∧Rep E w av y:=by
 unfold zlZ at h;cases ht:za P t<;>simp only [ht,reduceCtorEq] at h;rename_i d;split at h
 case isFalse=>simp at h
 rename_i hall;obtain ⟨z,hz,hzz⟩:=zcv (P:=P) (w:=w) ht;have hzc:z.cells=d.zero.toArray:=by rw [<- hzz]
 have hone:∀ y∈d.zero,y.oneCell'=true:=by simpa using hall
 cases hk:d.k<;>simp only [hk,reduceCtorEq] at h
 case struct fs =>
  cases hf:zil (fun i=>(fs[i]?).map fun f=>(f.1,f.2.2)) (d.zero.map .v) parts<;>simp only [hf,Option.map_none,Option.map_some,reduceCtorEq,oJ] at h;rename_i r;subst h;obtain ⟨us,k1,k2,k3⟩:=zik hf hp ziL hone;obtain ⟨l,h1,h2,h3⟩:=zeH (w:=w) ht hk;have hpl:(l.toList.mapM fun f=>Functor.map (Prod.mk f.offset) (sizeOf f.type)).run P w=.ok (fs.map fun f=>(f.1,f.2.2)) w:=by refine run_places w _ _ ?_;have:=zlc (g:=fun f:Nat×TypeId×Nat=>(f.1,f.2.2)) h3;rw [<- this];congr 1;funext f;cases P.info? f.type<;>rfl
  refine ⟨.agg us.toArray,?_,by simp only [Rep];exact ⟨us,rfl,k3,k2⟩⟩;have hfill:Instr.fill (fun x=>(fs.map fun f=>(f.1,f.2.2))[x]?) z.cells pv.toList=some us.toArray:=by rw [hzc,<- k1];congr 1;funext i;simp
  simp only [List.getElem?_map] at hfill;simp [Instr.build,h1,hz,Array.mapM_eq_mapM_toList,hpl,hfill]
 case array n e =>cases he:za P e<;>simp only [he,reduceCtorEq] at h;rename_i de;cases hf:zil (fun i=>some (i*de.size,de.size)) (d.zero.map .v) parts<;>simp only [hf,Option.map_none,Option.map_some,reduceCtorEq,oJ] at h;rename_i r;subst h;obtain ⟨us,k1,k2,k3⟩:=zik hf hp ziL hone;refine ⟨.agg us.toArray,?_,by simp only [Rep];exact ⟨us,rfl,k3,k2⟩⟩;simp [Instr.build,zcR ht hk,hz,hzc,rSz he,k1]
def ze7:List (Nat×AV)->Nat->Option (List (List AV))
 | [],_=>some []
 | (i,a)::r,k=>if i=k then (match a.cells,ze7 r (k+1) with
  | some cs,some rest=>some (cs::rest)
  | _,_=>none) else none
def zbO (T:TypeId->Option TD) (nid:Nat) (t:TypeId) (n:Nat) (parts:List (Nat×AV)):Option (AV×List (Nat×AO)) :=
 match T t with
 | none=>none
 | some d=>match d.k with
  | .slice e=>match T e,ze7 parts 0 with
   | some de,some rows =>
    if rows.length=n∧n<=1024∧de.size<=1024∧1<=de.size∧de.zero.length=de.size∧(∀ r∈rows,r.length=de.size∧r.all AV.isClosed=true) then
     some (.sl nid 1 de.size 0 n,[(nid,.vec 1 de.size false rows)])
    else none
   | _,_=>none
  | _=>none
theorem zje {E:Env} {w:World} {s:Nat}:∀ {parts:List (Nat×AV)} {pv:List (Nat×Value)} {rows:List (List AV)} {k:Nat} {c:List Value},ze7 parts k=some rows->zl1 E w parts pv->(∀ r∈rows,r.length=s∧r.all AV.isClosed=true)->c.length=(k+rows.length)*s ->
  ∃ vs,Instr.fill (fun i=>some (i*s,s)) c.toArray pv=some ((c.take (k*s))++vs).toArray∧VR w E.G s vs rows
 | [],[],rows,k,c,h,_,_,hc=>by
  simp only [ze7,oJ] at h;subst h;refine ⟨[],?_,VR.nil⟩;simp only [Instr.fill,List.append_nil];rw [tkL (by simp at hc;omega)]
 | (i,a)::ps,(j,x)::pv,rows,k,c,h,hp,hr,hc=>by
  simp only [zl1] at hp;obtain ⟨rfl,hp1,hp2⟩:=hp;simp only [ze7] at h;split at h
  case isFalse=>simp at h
  rename_i hik;subst hik;cases hca:a.cells<;>simp only [hca,reduceCtorEq] at h;rename_i cs;cases hrest:ze7 ps (i+1)<;>simp only [hrest,reduceCtorEq,oJ] at h;rename_i rest;subst h;obtain ⟨xs,h1,h2,h3⟩:=hp1.cells hca;have hcs:=hr cs (by simp);have hl:=h2.length;have hmul:(i+(cs::rest).length)*s=i*s+s+rest.length*s:=by simp only [List.length_cons];rw [Nat.add_mul,Nat.add_mul];omega
  obtain ⟨vs,k1,k2⟩:=zje (k:=i+1) (c:=setL c (i*s) xs) hrest hp2 (fun r hr'=>hr r (by simp [hr'])) (by rw [zao,hc,hmul,Nat.add_mul,Nat.add_mul];omega);refine ⟨xs++vs,?_,?_⟩
  ·simp only [Instr.fill,h1];rw [if_neg (by simp;omega)];have hfold:=zeT xs c.toArray (i*s) 0;have:(xs.toArray.zipIdx.foldl (fun cs (cj:Value×Nat)=>cs.setIfInBounds (i*s+cj.2) cj.1) c.toArray)=(setL c (i*s) xs).toArray:=by simpa using hfold
   rw [this,k1];have e1:(i+1)*s=i*s+s:=by rw [Nat.add_mul];omega
   have:(setL c (i*s) xs).take ((i+1)*s)=c.take (i*s)++xs:=by
    apply List.ext_getElem?;intro j;rw [List.getElem?_take];by_cases hj:j<(i+1)*s
    ·rw [if_pos hj,zam (by omega)];by_cases hj2:i*s<=j
     ·rw [if_pos (by omega),List.getElem?_append_right (by simp;omega)];congr 1;simp;omega
     ·rw [if_neg (by omega),List.getElem?_append_left (by simp;omega),List.getElem?_take,if_pos (by omega)]
    ·rw [if_neg hj,List.getElem?_eq_none (by simp;omega)]
   rw [this,List.append_assoc]
  ·have:=VR.one_row (h2.to_c hcs.2) h3;rw [hcs.1] at this;exact this.append k2
 | [],_::_,_,_,_,_,hp,_,_=>by simp [zl1] at hp
 | _::_,[],_,_,_,_,hp,_,_=>by simp [zl1] at hp
theorem zcA {w0:World} {bl:Bk} {E:Env} {w w1:World} {nid s n c:Nat} {rows:List (List AV)} {vs:List Value} {arr:Array Value} {e:TypeId} (hI:Inv w0 bl E w) (hnid:¬ E.alive nid) (h1:w1.heap=w.heap) (h2:w1.os=w.os) (h3:w1.output=w.output)
  (hv:VR w E.G s vs rows) (ha:∀ (k:Nat) (v:Value),vs[k]?=some v->arr[k]?=some v) (hn:rows.length=n) (hc:n<=c) (hsz:c*s=arr.size) (hone:∀ y∈arr.toList,y.oneCell'=true) :
  ∃ E' w',w'=w1.alloc (.cells arr e)∧StT w0 bl E w [(nid,.vec 1 s false rows)] E' w'∧Rep E' w' (.sl nid 1 s 0 n) (.slice (some ⟨w.heap.size,0,none⟩) n c):=by have hle:rows.length*s<=arr.size:=Nat.le_trans (Nat.mul_le_mul_right s (by omega)) (Nat.le_of_eq hsz);exact ⟨_,_,rfl,StT.renew hI h1 h2 h3 nid 1 s false rows arr e vs (fun hh=>absurd hh hnid) (Nat.le_refl _) hv ha hle hone (by simp),Rep.slice_of (blk:=w.heap.size) (base:=0) (sz:=arr.size) (.inr rfl) (Nat.le_refl _) (by simp [Env.upd]) (by simp [Env.upd]) hc (.inr rfl) (by simpa using hsz)⟩
theorem zgI {P:Program} {nid:Nat} {t:TypeId} {n:Nat} {parts:List (Nat×AV)} {av:AV} {u:List (Nat×AO)} {w0:World} {bl:Bk} {E:Env} {w:World} {pv:Array (Nat×Value)} (h:zbO (za P) nid t n parts=some (av,u)) (hp:zl1 E w parts pv.toList)
  (hI:Inv w0 bl E w) (hnid:¬ E.alive nid) :
  ∃ y E' w',(Instr.buildSlice t n pv).run P w=.ok y w'∧StT w0 bl E w u E' w'∧Rep E' w' av y:=by
 unfold zbO at h;cases ht:za P t<;>simp only [ht,reduceCtorEq] at h;rename_i d;cases hk:d.k<;>simp only [hk,reduceCtorEq] at h;rename_i e;cases he:za P e<;>simp only [he,reduceCtorEq] at h;rename_i de;cases hrows:ze7 parts 0<;>simp only [hrows,reduceCtorEq] at h;rename_i rows;split at h
 case isFalse=>simp at h
 rename_i hh;obtain ⟨hn,hn2,hs2,hs1,hz1,hall⟩:=hh;simp only [oJ,pJ] at h;obtain ⟨rfl,rfl⟩:=h;obtain ⟨z,hz,hzz⟩:=zcv (P:=P) (w:=w) he;have hlim:¬ (n*de.size > 2^24):=by have:n*de.size<=1024*1024:=Nat.mul_le_mul hn2 hs2;omega
 have hrun:∀ c:List Value,c.length=n*de.size->∃ vs,Instr.fill (fun i=>some (i*de.size,de.size)) c.toArray pv.toList=some vs.toArray∧VR w E.G de.size vs rows:=fun c hc=>by obtain ⟨vs,k1,k2⟩:=zje (k:=0) (c:=c) hrows hp hall (by rw [hc,hn];simp);exact ⟨vs,by simpa using k1,k2⟩
 by_cases h0:n*de.size=0
 ·obtain ⟨vs,k1,k2⟩:=hrun [] (by simp [h0]);obtain ⟨E',w',rfl,q1,q2⟩:=zcA (w1:=w) (n:=n) (c:=n) (arr:=vs.toArray) (e:=e) hI hnid rfl rfl rfl k2 (fun k v hv=>by simpa using hv) hn (Nat.le_refl _) (by simp [k2.len,hn]) (by simpa using k2.one);refine ⟨_,E',_,?_,q1,q2⟩;have hr0:(Array.range 0:Array Nat)=#[]:=rfl;simp [Instr.buildSlice,uSl ht hk,rSz he,h0,hr0,k1,newRow]
 ·obtain ⟨vs,k1,k2⟩:=hrun ((List.range (n*de.size)).map fun i=>z.cells[i%z.cells.size]!) (by simp);obtain ⟨E',w',rfl,q1,q2⟩:=zcA (w1:=w) (n:=n) (c:=n) (arr:=vs.toArray) (e:=e) hI hnid rfl rfl rfl k2 (fun k v hv=>by simpa using hv) hn (Nat.le_refl _) (by simp [k2.len,hn]) (by simpa using k2.one);refine ⟨_,E',_,?_,q1,q2⟩;have harr:(Array.range (n*de.size)).map (fun i=>z.cells[i%z.cells.size]!)=((List.range (n*de.size)).map fun i=>z.cells[i%z.cells.size]!).toArray:=by simp [<- List.toArray_range]
  simp [Instr.buildSlice,uSl ht hk,rSz he,hlim,h0,hz,harr,k1,newRow]
def zco (T:TypeId->Option TD) (nid:Nat) (t:TypeId) (l c:AV):Option (AV×List (Nat×AO)) :=
 match T t,zlW l,zlW c with
 | some d,some n,some m=>match d.k with
  | .slice e=>match T e with
   | some de =>
    if 0<=n∧n<=m∧m<=1073741824∧de.bytes<=65536∧de.zero.length=de.size∧de.zero.all Value.oneCell'=true then
     some (.sl nid 1 de.size 0 n.toNat,[(nid,.vec 1 de.size false (List.replicate n.toNat (de.zero.map .v)))])
    else none
   | none=>none
  | _=>none
 | _,_,_=>none
theorem zox {w:World} {G:Nat->Prop}:∀ {vs:List Value},CRL w G (vs.map .v) vs
 | []=>by simp [CRL]
 | x::r=>by simp only [List.map_cons,CRL];exact ⟨by simp [zd],zox⟩
theorem VR.replicate {w:World} {G:Nat->Prop} {z:List Value} (ho:∀ y∈z,y.oneCell'=true):∀ n,VR w G z.length (List.replicate n z).flatten (List.replicate n (z.map .v))
 | 0=>by simpa using VR.nil
 | n+1=>by have:=VR.one_row (w:=w) (G:=G) zox ho;simp only [List.length_map] at this;have:=this.append (VR.replicate (w:=w) (G:=G) ho n);simpa [List.replicate_succ] using this
theorem zd0 {z:List Value} {n k:Nat} (hk:k<n*z.length):(List.replicate n z).flatten[k]?=z[k%z.length]?:=by
 induction n generalizing k with
 | zero=>simp at hk
 | succ n ih =>
  simp only [List.replicate_succ,List.flatten_cons];by_cases h:k<z.length
  ·rw [List.getElem?_append_left h,Nat.mod_eq_of_lt h]
  ·rw [List.getElem?_append_right (by omega),ih (by rw [Nat.add_mul] at hk;omega),Nat.mod_eq_sub_mod (a:=k) (b:=z.length) (by omega)]
theorem zeF (n:Int) (h0:0<=n) (h1:n<=1073741824):IntKind.i64.wrap n=n:=by simp [IntKind.wrap,IntKind.bits,IntKind.signed];omega
theorem zig {P:Program} {nid:Nat} {t:TypeId} {l c av:AV} {u:List (Nat×AO)} {w0:World} {bl:Bk} {E:Env} {w:World} {lv cv:Value} (h:zco (za P) nid t l c=some (av,u)) (hl:Rep E w l lv) (hc:Rep E w c cv)
  (hI:Inv w0 bl E w) (hnid:¬ E.alive nid) :
  ∃ y E' w',(Instr.makeSlice t lv cv).run P w=.ok y w'∧StT w0 bl E w u E' w'∧Rep E' w' av y:=by
 unfold zco at h;cases ht:za P t<;>simp only [ht,reduceCtorEq] at h;rename_i d;cases hln:zlW l<;>simp only [hln,reduceCtorEq] at h;rename_i n;cases hcn:zlW c<;>simp only [hcn,reduceCtorEq] at h;rename_i m;cases hk:d.k<;>simp only [hk,reduceCtorEq] at h;rename_i e;cases he:za P e<;>simp only [he,reduceCtorEq] at h;rename_i de;split at h
 case isFalse=>simp at h
 rename_i hh;obtain ⟨h1,h2,h3,h4,h5,h6⟩:=hh;simp only [oJ,pJ] at h;obtain ⟨rfl,rfl⟩:=h;obtain ⟨kl,rfl,hlr⟩:=zgq (P:=P) hln hl;obtain ⟨kc,rfl,hcr⟩:=zgq (P:=P) hcn hc;obtain ⟨i,hi,hib,his⟩:=zef (P:=P) (w:=w) he;obtain ⟨z,hz,hzz⟩:=zcv (P:=P) (w:=w) he;have hzs:z.cells.size=de.size:=by rw [<- h5,<- hzz];simp
 have hbm:(de.bytes:Int)*m<=65536*1073741824:=by have:=Int.mul_le_mul (Int.ofNat_le.2 h4) h3 (by omega) (by omega);simpa using this
 have hbn:(de.bytes:Int)*n<=65536*1073741824:=by have:=Int.mul_le_mul (Int.ofNat_le.2 h4) (Int.le_trans h2 h3) h1 (by omega);simpa using this
 have hone:∀ y∈de.zero,y.oneCell'=true:=by simpa using h6
 let arr:Array Value:=if m.toNat*de.size=0 then #[] else (Array.range (m.toNat*de.size)).map (fun i=>z.cells[i%z.cells.size]!)
 have harrs:arr.size=m.toNat*de.size:=by
  show (if m.toNat*de.size=0 then #[] else _:Array Value).size=_;split
  ·rename_i h0;simp [h0]
  ·simp
 have harro:∀ y∈arr.toList,y.oneCell'=true:=fun y hy=>by
  have hy:y∈(if m.toNat*de.size=0 then #[] else (Array.range (m.toNat*de.size)).map (fun i=>z.cells[i%z.cells.size]!):Array Value).toList:=hy;split at hy
  ·simp at hy
  ·rename_i h0;simp only [Array.toList_map,List.mem_map] at hy;obtain ⟨i,_,rfl⟩:=hy;have hpos:0<z.cells.size:=by rw [hzs];exact Nat.pos_of_ne_zero fun e=>h0 (by rw [e];simp)
   have hlt:i%z.cells.size<z.cells.size:=Nat.mod_lt _ hpos;rw [getElem!_pos z.cells _ hlt];exact hone _ (by rw [<- hzz];exact Array.mem_toList_iff.2 (Array.getElem_mem _))
 have hvr:=VR.replicate (w:=w) (G:=E.G) hone n.toNat;rw [h5] at hvr;obtain ⟨E',w',rfl,q1,q2⟩:=zcA (w1:=w) (n:=n.toNat) (c:=m.toNat) (arr:=arr) (e:=e) hI hnid rfl rfl rfl hvr (fun k v hv=>by
  have hk:=(List.getElem?_eq_some_iff.1 hv).1;rw [hvr.len] at hk;simp only [List.length_replicate] at hk;have hmul:n.toNat*de.size<=m.toNat*de.size:=Nat.mul_le_mul_right _ (by omega);rw [<- h5] at hk;rw [zd0 hk,h5] at hv;rw [h5] at hk;show (if m.toNat*de.size=0 then #[] else _:Array Value)[k]?=_;rw [if_neg (by omega)];have hlt:k<((Array.range (m.toNat*de.size)).map (fun i=>z.cells[i%z.cells.size]!)).size:=by simp;omega
  rw [Array.getElem?_eq_getElem hlt];simp only [Array.getElem_map,Array.getElem_range,hzs];have:z.cells[k%de.size]! = v:=by rw [<- hzz,Array.getElem?_toList] at hv;rw [Array.getElem!_eq_getD,Array.getD_eq_getD_getElem?,hv];rfl
  rw [this]) (by simp) (by omega) harrs.symm harro
 refine ⟨_,E',_,?_,q1,q2⟩;have e1:¬ ((m<0∨2^48<(de.bytes:Int)*m)):=by omega
 simp only [Instr.makeSlice,Sem.run_bind,uSl ht hk,Result.andThen_ok,asInt,hlr,hcr,Sem.run_pure,hi,hib,zeF n h1 (by omega),zeF m (by omega) h3];rw [if_neg ?_]
 ·simp only [Sem.run_bind,run_askRoom,Result.andThen_ok,rSz he];by_cases h0:m.toNat*de.size=0
  ·have hr0:(Array.range 0:Array Nat)=#[]:=rfl;simp [h0,newRow,arr,hr0]
  ·simp [h0,hz,newRow,arr]
 ·simp only [Bool.or_eq_true,decide_eq_true_eq,not_or];omega
def zdI (op:BinOp) (k:IntKind) (a b:Int):Int :=k.wrap (match op with
  | .and=>(BitVec.ofInt k.bits a &&& BitVec.ofInt k.bits b).toNat
  | .or=>(BitVec.ofInt k.bits a ||| BitVec.ofInt k.bits b).toNat
  | .xor=>(BitVec.ofInt k.bits a ^^^ BitVec.ofInt k.bits b).toNat
  | _=>(BitVec.ofInt k.bits a &&& ~~~BitVec.ofInt k.bits b).toNat:Nat)
def zvU (op:BinOp) (k:IntKind) (a:Int) (k':IntKind) (b:Int):Option Value :=
 match op with
 | .shl=>if 0<=b then some (.int k (k.wrap (a*2^min b.toNat k.bits))) else none
 | .shr=>if 0<=b then some (.int k (a/2^min b.toNat k.bits)) else none
 | .add=>if k=k' then some (.int k (k.wrap (a+b))) else none
 | .sub=>if k=k' then some (.int k (k.wrap (a - b))) else none
 | .mul=>if k=k' then some (.int k (k.wrap (a*b))) else none
 | .quo=>if k=k'∧b≠0 then some (.int k (k.wrap (a.tdiv b))) else none
 | .rem=>if k=k'∧b≠0 then some (.int k (a.tmod b)) else none
 | .and=>if k=k' then some (.int k (zdI .and k a b)) else none
 | .or=>if k=k' then some (.int k (zdI .or k a b)) else none
 | .xor=>if k=k' then some (.int k (zdI .xor k a b)) else none
 | .andNot=>if k=k' then some (.int k (zdI .andNot k a b)) else none
 | .eql=>if k=k' then some (.bool (decide (a=b))) else none
 | .neq=>if k=k' then some (.bool (!decide (a=b))) else none
 | .lss=>if k=k' then some (.bool (decide (a<b))) else none
 | .leq=>if k=k' then some (.bool (decide (a<=b))) else none
 | .gtr=>if k=k' then some (.bool (decide (b<a))) else none
 | .geq=>if k=k' then some (.bool (decide (b<=a))) else none
theorem zsQ {P:Program} {op:BinOp} {k k':IntKind} {a b:Int} {y:Value} {w:World} {t:TypeId} (h:zvU op k a k' b=some y):(binOp op t (.int k a) (.int k' b)).run P w=.ok y w:=by
 cases op<;>simp only [zvU] at h<;>split at h<;>simp only [oJ,reduceCtorEq] at h<;>subst h
 case shl hb=>simp only [binOp,shift_shl_any _ _ _ _ hb,Sem.run_pure]
 case shr hb=>simp only [binOp,shift_shr_any _ _ _ _ hb,Sem.run_pure]
 case quo hb=>obtain ⟨rfl,hb⟩:=hb;simp [binOp,Op.intDiv,hb]
 case rem hb=>obtain ⟨rfl,hb⟩:=hb;simp [binOp,Op.intDiv,hb]
 all_goals
  rename_i hk;subst hk;first
  | (simp [binOp,Op.intArith];done)
  | (simp [binOp,Op.intBits,zdI];done)
  | (simp [binOp,Op.intCmp];done)
  | (simp [binOp,Op.intCmp,bne];rfl)
def eqL:List AV->List AV->Option Bool
 | [],[]=>some true
 | .v (.int k a)::xs,.v (.int k' b)::ys=>if k=k' then (eqL xs ys).map (decide (a=b)&&·) else none
 | .v (.bool a)::xs,.v (.bool b)::ys=>(eqL xs ys).map ((a == b)&&·)
 | _,_=>none
def eqV:List Value->List Value->Option Bool
 | [],[]=>some true
 | .int k a::xs,.int k' b::ys=>if k=k' then (eqV xs ys).map (decide (a=b)&&·) else none
 | .bool a::xs,.bool b::ys=>(eqV xs ys).map ((a == b)&&·)
 | _,_=>none
theorem zsu {E:Env} {w:World}:∀ {xs ys:List AV} {us vs:List Value} {b:Bool},eqL xs ys=some b->RepL E w xs us->RepL E w ys vs->eqV us vs=some b
 | [],[],[],[],b,h,_,_=>by simpa [eqL,eqV] using h
 | x::xs,y::ys,u::us,v::vs,b,h,hx,hy=>by
  simp only [RepL] at hx hy;cases x<;>try (simp [eqL] at h;done)
  cases y<;>try (simp [eqL] at h;done)
  rename_i p q;simp only [Rep,zd] at hx hy;obtain ⟨rfl,hx⟩:=hx;obtain ⟨rfl,hy⟩:=hy;cases u<;>cases v<;>simp only [eqL,reduceCtorEq] at h<;>simp only [eqV]
  ·cases hr:eqL xs ys<;>simp only [hr,Option.map_none,reduceCtorEq,Option.map_some] at h;rw [zsu hr hx hy];exact h
  ·split at h
   ·rename_i hk;rw [if_pos hk];cases hr:eqL xs ys<;>simp only [hr,Option.map_none,reduceCtorEq,Option.map_some] at h;rw [zsu hr hx hy];exact h
   ·simp at h
 | [],[],_::_,_,_,_,hx,_=>by simp [RepL] at hx
 | [],[],_,_::_,_,_,_,hy=>by simp [RepL] at hy
 | [],_::_,_,_,_,h,_,_=>by simp [eqL] at h
 | _::_,[],_,_,_,h,_,_=>by simp [eqL] at h
 | _::_,_::_,[],_,_,_,hx,_=>by simp [RepL] at hx
 | _::_,_::_,_,[],_,_,_,hy=>by simp [RepL] at hy
def zcU:List Value->List AV->Bool
 | [],[]=>true
 | .int k _::r,.v (.int k' _)::s=>decide (k=k')&&zcU r s
 | .bool _::r,.v (.bool _)::s=>zcU r s
 | _,_=>false
def zaQ:List Value->List Value->Bool
 | [],[]=>true
 | .int k _::r,.int k' _::s=>decide (k=k')&&zaQ r s
 | .bool _::r,.bool _::s=>zaQ r s
 | _,_=>false
theorem zjU {E:Env} {w:World}:∀ {zs:List Value} {xs:List AV} {us:List Value},zcU zs xs=true->RepL E w xs us->zaQ zs us=true
 | [],[],[],_,_=>rfl
 | z::zs,x::xs,u::us,h,hx=>by
  simp only [RepL] at hx;cases x<;>try (cases z<;>simp [zcU] at h;done)
  rename_i p;simp only [Rep,zd] at hx;obtain ⟨rfl,hx⟩:=hx;cases z<;>cases u<;>simp only [zcU,reduceCtorEq,Bool.false_eq_true,Bool.and_eq_true] at h<;>simp only [zaQ,Bool.and_eq_true]
  ·exact zjU h hx
  ·exact ⟨h.1,zjU h.2 hx⟩
 | [],[],_::_,_,hx=>by simp [RepL] at hx
 | _,_::_,[],_,hx=>by simp [RepL] at hx
 | [],_::_,_,h,_=>by simp [zcU] at h
 | _::_,[],_,h,_=>by simp [zcU] at h
structure AX where
 call:FuncId->List AV->(Nat->AO)->Nat->Option (AV×List (Nat×AO))
 writes:FuncId->Bool
 anyW:Bool
 eqs:TypeId->Bool
def zqt (P:Program) (t:TypeId):Prop:=∀ d,za P t=some d->(∀ (w:World) (xs:List Value) (b:Bool),zaQ d.zero xs=true->(Instr.checkKey b 10000 t (.agg xs.toArray)).run P w=.ok () w)∧∀ (w:World) (xs ys:List Value) (b:Bool),zaQ d.zero xs=true->eqV xs ys=some b->(Op.equal t (.agg xs.toArray) (.agg ys.toArray)).run P w=.ok b w∧P.eqGuardType P.depth t=false
def zbb (P:Program) (f:FuncId) (g:List AV->(Nat->AO)->Nat->Option (AV×List (Nat×AO))):Prop :=∀ (avs:List AV) (M:Nat->AO) (nid:Nat) (av:AV) (u:List (Nat×AO)),g avs M nid=some (av,u) ->
 ∀ (w0:World) (bl:Bk) (E:Env) (w:World) (args:Array Value),RepL E w avs args.toList->zai E w M->Inv w0 bl E w->(∀ k,nid<=k->k<nid+16->¬ E.alive k) ->
  Calls P f args w fun e w'=>∃ x E',e=.returned x∧StT w0 bl E w u E' w'∧Rep E' w' av x
def ze9 (P : Program) (f : FuncId) : Prop := ∃ fn, P.funcs[f]? = some fn ∧ fn.body.isSome = true ∧ (fn.name == "runtime.NumGoroutine") = false
def zmO (P:Program) (f:FuncId) (g:List AV->(Nat->AO)->Nat->Option (AV×List (Nat×AO))):Prop :=∀ (avs:List AV) (M:Nat->AO) (nid:Nat) (av:AV) (u:List (Nat×AO)),g avs M nid=some (av,u)->u=[] ∧
 ∀ (w0:World) (bl:Bk) (E:Env) (w:World) (args:Array Value),RepL E w avs args.toList->zai E w M->Inv w0 bl E w ->
  ∃ x w',(callFunc f args).run P w=.ok (.value x) w'∧w'.heap=w.heap∧w'.os=w.os∧w'.output=w.output∧Rep E w av x
structure XOK (P:Program) (X:AX):Prop where
 calls:∀ f avs M nid r,X.call f avs M nid=some r->(zbb P f (X.call f)∧ze9 P f)∨zmO P f (X.call f)
 eqs:∀ t,X.eqs t=true->zqt P t
 dom:∀ f avs M nid r,X.call f avs M nid=some r->∀ b∈r.2.map (·.1),(nid<=b∧b<nid+16)∨(X.writes f=true∧M b≠.dead)
 anyW:∀ f,X.writes f=true->X.anyW=true
def zwC (T:TypeId->Option TD) (X:AX) (op:BinOp) (t:TypeId) (x y:AV):Option AV :=
 match x,y with
 | .v (.int k a),.v (.int k' b)=>(zvU op k a k' b).map .v
 | .v (.bool a),.v (.bool b)=>match T t with
  | some d=>match d.k,op with
   | .bool,.eql=>some (.v (.bool (a == b)))
   | .bool,.neq=>some (.v (.bool (!(a == b))))
   | _,_=>none
  | none=>none
 | .v (.slice p _ _),.v (.slice none 0 0)=>match T t with
  | some d=>match d.k,op with
   | .slice _,.eql=>some (.v (.bool p.isNone))
   | .slice _,.neq=>some (.v (.bool (!p.isNone)))
   | _,_=>none
  | none=>none
 | .rd _ (_::_),.v (.slice none 0 0)=>match T t with
  | some d=>match d.k,op with
   | .slice _,.eql=>some (.v (.bool false))
   | .slice _,.neq=>some (.v (.bool true))
   | _,_=>none
  | none=>none
 | .sl _ _ _ _ (_+1),.v (.slice none 0 0)=>match T t with
  | some d=>match d.k,op with
   | .slice _,.eql=>some (.v (.bool false))
   | .slice _,.neq=>some (.v (.bool true))
   | _,_=>none
  | none=>none
 | .agg xs,.agg ys=>match T t with
  | some d=>if X.eqs t=true∧zcU d.zero xs=true then (match op with
   | .eql=>(eqL xs ys).map fun b=>.v (.bool b)
   | .neq=>(eqL xs ys).map fun b=>.v (.bool (!b))
   | _=>none) else none
  | none=>none
 | _,_=>none
theorem zkR {P:Program} {t:TypeId} {d:TD} (h:za P t=some d) (hk:d.k=.bool):P.underlying t=some .bool:=by
 obtain ⟨u,i,z,h1,h2,h3,rfl⟩:=zak h;cases u<;>simp only [zl7,reduceCtorEq] at hk<;>(try (split at hk<;>simp at hk;done))
 exact h1
theorem zgP {P:Program} {t e:TypeId} {d:TD} (h:za P t=some d) (hk:d.k=.slice e):P.underlying t=some (.slice e):=by
 obtain ⟨u,i,z,h1,h2,h3,rfl⟩:=zak h;cases u<;>simp only [zl7,reduceCtorEq] at hk<;>(try (split at hk<;>simp at hk;done))
 simp only [TK.slice.injEq] at hk;subst hk;exact h1
theorem zfB {P:Program} {op:BinOp} {t:TypeId} {p:Option Addr} {n c:Nat} {E:Env} {w:World} {ox oy:Operand} {av:AV}
  (h:(match za P t with
  | some d=>match d.k,op with
   | .slice _,.eql=>some (AV.v (.bool p.isNone))
   | .slice _,.neq=>some (AV.v (.bool (!p.isNone)))
   | _,_=>none
  | none=>none)=some av) :
  ∃ z,(do eqGuard op t ox oy (.slice p n c) (.slice none 0 0);binOp op t (.slice p n c) (.slice none 0 0):Sem Value).run P w=.ok z w∧Rep E w av z:=by
 cases ht:za P t<;>simp only [ht,reduceCtorEq] at h;rename_i d;have hg:(eqGuard op t ox oy (.slice p n c) (.slice none 0 0)).run P w=.ok () w:=by cases op<;>rfl
 split at h<;>simp only [oJ,reduceCtorEq] at h
 ·rename_i e hk;subst h;refine ⟨.bool p.isNone,?_,by simp [Rep,zd]⟩;rw [Sem.run_bind,hg];simp only [Result.andThen_ok,binOp,Sem.run_bind,run_equal_slice_nil w t e p n c (zgP ht hk),Sem.run_pure]
 ·rename_i e hk;subst h;exact ⟨_,by rw [Sem.run_bind,hg];exact run_neq_slice_nil w t e p n c (zgP ht hk),by simp [Rep,zd]⟩
theorem zsZ {P:Program} {X:AX} (hX:XOK P X) {op:BinOp} {t:TypeId} {x y av:AV} {E:Env} {w:World} {xv yv:Value} {ox oy:Operand} (h:zwC (za P) X op t x y=some av) (hx:Rep E w x xv) (hy:Rep E w y yv) :
  ∃ z,(do eqGuard op t ox oy xv yv;binOp op t xv yv:Sem Value).run P w=.ok z w∧Rep E w av z:=by
 unfold zwC at h;split at h
 ·rename_i k a k' b;simp only [Rep,zd] at hx hy;subst hx hy;cases hb:zvU op k a k' b<;>simp only [hb,Option.map_none,Option.map_some,reduceCtorEq,oJ] at h;subst h;rename_i z;refine ⟨z,?_,by simp [Rep,zd]⟩;have hg:(eqGuard op t ox oy (.int k a) (.int k' b)).run P w=.ok () w:=by cases op<;>rfl
  rw [Sem.run_bind,hg];exact zsQ hb
 ·rename_i a b;simp only [Rep,zd] at hx hy;subst hx hy;cases ht:za P t<;>simp only [ht,reduceCtorEq] at h;rename_i d;have hg:(eqGuard op t ox oy (.bool a) (.bool b)).run P w=.ok () w:=by cases op<;>rfl
  split at h<;>simp only [oJ,reduceCtorEq] at h
  ·rename_i hk;subst h;exact ⟨_,by rw [Sem.run_bind,hg];exact run_eql_bool _ _ _ _ (zkR ht hk),by simp [Rep,zd]⟩
  ·rename_i hk;subst h;exact ⟨_,by rw [Sem.run_bind,hg];exact run_neq_bool _ _ _ _ (zkR ht hk),by simp [Rep,zd]⟩
 ·rename_i p n c;simp only [Rep,zd] at hx hy;subst hx hy;exact zfB h
 ·rename_i s e xs;simp only [Rep,zd] at hx hy;subst hy;obtain ⟨p,c,rfl,k1,k2,_⟩:=hx;have hp:p.isNone=false:=by cases p with
   | none=>have:=k2 rfl;simp at k1;omega
   | some _=>rfl
  refine zfB (p:=p) ?_;rw [hp];exact h
 ·rename_i b m s o n;simp only [Rep,zd] at hx hy;subst hy;obtain ⟨_,_,_,p,c,rfl,k1,k2,_⟩:=hx;have hp:p.isNone=false:=by cases p with
   | none=>have:=k2 rfl;omega
   | some _=>rfl
  refine zfB (p:=p) ?_;rw [hp];exact h
 ·rename_i xs ys;cases ht:za P t<;>simp only [ht,reduceCtorEq] at h;rename_i d;split at h
  case isFalse=>simp at h
  rename_i he;simp only [Rep] at hx hy;obtain ⟨us,rfl,h1,h2⟩:=hx;obtain ⟨vs,rfl,k1,k2⟩:=hy;cases hb:eqL xs ys with
  | none=>cases op<;>simp [hb] at h
  | some b =>
   obtain ⟨q1,q2⟩:=(hX.eqs t he.1 d ht).2 w us vs b (zjU he.2 h2) (zsu hb h2 k2);have hg:(eqGuard op t ox oy (.agg us.toArray) (.agg vs.toArray)).run P w=.ok () w:=by cases op<;>simp [eqGuard,q2]
   cases op<;>simp only [hb,Option.map_some,oJ,reduceCtorEq] at h
   ·subst h;exact ⟨.bool b,by rw [Sem.run_bind,hg];simp [binOp,q1],by simp [Rep,zd]⟩
   ·subst h;exact ⟨.bool (!b),by rw [Sem.run_bind,hg];simp [binOp,q1],by simp [Rep,zd]⟩
 ·simp at h
def aUn (op:UnOp) (x:AV):Option AV :=
 match op,x with
 | .not,.v (.bool b)=>some (.v (.bool (!b)))
 | .neg,.v (.int k n)=>some (.v (.int k (k.wrap (0 - n))))
 | .xor,.v (.int k n)=>some (.v (.int k (zdI .xor k (if k.signed then -1 else k.max) n)))
 | _,_=>none
theorem zvY {P:Program} {op:UnOp} {x av:AV} {E:Env} {w:World} {xv:Value} (h:aUn op x=some av) (hx:Rep E w x xv):∃ z,(Op.unary op xv).run P w=.ok z w∧Rep E w av z:=by
 unfold aUn at h;split at h<;>simp only [oJ,reduceCtorEq] at h
 all_goals
  subst h;simp only [Rep,zd] at hx;subst hx
 ·exact ⟨_,rfl,by simp [Rep,zd]⟩
 ·exact ⟨_,rfl,by simp [Rep,zd]⟩
 ·exact ⟨_,rfl,by simp [Rep,zd,zdI]⟩
def zqn (T:TypeId->Option TD) (s d:TypeId) (x:AV):Option AV :=
 match T s,T d,x with
 | some _,some td,.v (.int _ n)=>match td.k with
  | .int k=>some (.v (.int k (k.wrap n)))
  | _=>none
 | _,_,_=>none
theorem zqm {P:Program} {s d:TypeId} {x av:AV} {E:Env} {w:World} {xv:Value} (h:zqn (za P) s d x=some av) (hx:Rep E w x xv):∃ z,(convert s d xv).run P w=.ok z w∧Rep E w av z:=by
 unfold zqn at h;cases hs:za P s<;>simp only [hs,reduceCtorEq] at h;rename_i ds;cases hd:za P d<;>simp only [hd,reduceCtorEq] at h;rename_i td;split at h
 case h_2=>simp at h
 rename_i heq1 heq2;simp only [oJ] at heq1 heq2;subst heq2;split at h<;>simp only [oJ,reduceCtorEq] at h;rename_i hk;subst h;simp only [Rep,zd] at hx;subst hx;obtain ⟨u,h1,h2⟩:=znf (w:=w) hs;refine ⟨_,?_,by simp only [Rep,zd];rfl⟩;simp only [convert,Sem.run_bind,h1,Result.andThen_ok,zhp hd hk];rfl
def zqk (T:TypeId->Option TD) (M:Nat->AO) (t:TypeId) (x:AV):Option AV :=
 match T t with
 | none=>none
 | some d=>match d.k,x with
  | .map _ _ _,.mp b m=>match M b with
   | .map m' _ es=>if m=m' then some (.v (.int .i64 es.length)) else none
   | _=>none
  | _,_=>none
theorem CEnts.len {w:World} {G:Nat->Prop} {n:Nat}:∀ {es:List (List Int×AV)} {xs:List MapEntry},CEnts w G n es xs->xs.length=es.length
 | [],[],_=>rfl
 | _::r,_::s,h=>by
  simp only [CEnts] at h;simp [CEnts.len h.2.2]
 | [],_::_,h=>by simp [CEnts] at h
 | _::_,[],h=>by simp [CEnts] at h
theorem zqj {P:Program} {M:Nat->AO} {t:TypeId} {x av:AV} {E:Env} {w:World} {xv:Value} {ats:Array TypeId} {ty:TypeId} (h:zqk (za P) M t x=some av) (hx:Rep E w x xv) (hM:zai E w M) (ha:ats[0]?=some t):∃ z,(Builtin.len_ ats ty #[xv]).run P w=.ok z w∧Rep E w av z:=by
 unfold zqk at h;cases ht:za P t<;>simp only [ht,reduceCtorEq] at h;rename_i d;split at h
 case h_2=>simp at h
 rename_i k e z b m hk;cases hb:M b<;>simp only [hb,reduceCtorEq] at h;rename_i m' n' es;split at h
 case isFalse=>simp at h
 rename_i hm;subst hm;simp only [oJ] at h;subst h;simp only [Rep] at hx;obtain ⟨h1,h2,_,blk,rfl,h3⟩:=hx;have ho:=hM b h1;rw [hb] at ho;simp only [ObR] at ho;obtain ⟨hv,_,blk',ents,clk,k1,k2,k3⟩:=ho;have h3:=h3 hv.symm;rw [h3] at k1;simp only [oJ,pJ,and_true] at k1;subst k1;have hu:(underlying t).run P w=.ok (.map k e) w:=by
  obtain ⟨u,i,z',q1,q2,q3,rfl⟩:=zak ht;rw [run_underlying q1 w];cases u<;>simp only [zl7,reduceCtorEq] at hk<;>(try (split at hk<;>simp at hk;done))
  simp only [TK.map.injEq] at hk;obtain ⟨rfl,rfl,_⟩:=hk;rfl
 have hget:(getObj blk).run P w=.ok (.map (List.toArray ents) clk) w:=by simp [getObj,Sem.run,k2]
 refine ⟨.int .i64 es.length,?_,by simp [Rep,zd]⟩;simp [Builtin.len_,ha,hu,hget,goInt,k3.1.len]
def zwA (T:TypeId->Option TD) (t:TypeId) (x:AV):Option AV :=
 match T t with
 | none=>none
 | some d=>match d.k,x with
  | .slice _,.rd _ xs=>some (.v (.int .i64 xs.length))
  | .slice _,.sl _ _ _ _ n=>some (.v (.int .i64 n))
  | .slice _,.bs _ _ _ n=>some (.v (.int .i64 n))
  | .slice _,.v (.slice _ n _)=>some (.v (.int .i64 n))
  | .array n _,_=>some (.v (.int .i64 n))
  | _,_=>none
theorem zsW {P:Program} {t:TypeId} {x av:AV} {E:Env} {w:World} {xv:Value} {ats:Array TypeId} {ty:TypeId} (h:zwA (za P) t x=some av) (hx:Rep E w x xv) (ha:ats[0]?=some t):∃ z,(Builtin.len_ ats ty #[xv]).run P w=.ok z w∧Rep E w av z:=by
 unfold zwA at h;cases ht:za P t<;>simp only [ht,reduceCtorEq] at h;rename_i d;have hsl:∀ p n c e,d.k=.slice e->(Builtin.len_ ats ty #[.slice p n c]).run P w=.ok (.int .i64 n) w:=fun p n c e hk=>by simp [Builtin.len_,ha,uSl ht hk,goInt]
 have har:∀ x n e,d.k=.array n e->(Builtin.len_ ats ty #[x]).run P w=.ok (.int .i64 n) w:=fun x n e hk=>by simp [Builtin.len_,ha,zcR ht hk,goInt]
 split at h<;>simp only [oJ,reduceCtorEq] at h
 ·rename_i hk;subst h;simp only [Rep,zd] at hx;obtain ⟨p,c,rfl,_⟩:=hx;exact ⟨_,hsl _ _ _ _ hk,by simp [Rep,zd]⟩
 ·rename_i hk;subst h;simp only [Rep] at hx;obtain ⟨_,_,_,p,c,rfl,_⟩:=hx;exact ⟨_,hsl _ _ _ _ hk,by simp [Rep,zd]⟩
 ·rename_i hk;subst h;simp only [Rep] at hx;obtain ⟨_,_,_,_,p,c,_,rfl,_⟩:=hx;exact ⟨_,hsl _ _ _ _ hk,by simp [Rep,zd]⟩
 ·rename_i hk;subst h;simp only [Rep,zd] at hx;subst hx;exact ⟨_,hsl _ _ _ _ hk,by simp [Rep,zd]⟩
 ·rename_i hk;subst h;exact ⟨_,har _ _ _ hk,by simp [Rep,zd]⟩
def zd6 (isMax:Bool):List AV->Option AV
 | [.v (.int k a),.v (.int k' b)]=>if k=k' then some (.v (.int k (if isMax then max a b else min a b))) else none
 | _=>none
theorem zsU {P:Program} {xs:List AV} {av:AV} {E:Env} {w:World} {vs:List Value} {ats:Array TypeId} {ty:TypeId} (h:zd6 false xs=some av) (hx:RepL E w xs vs):∃ z,(Builtin.min_ ats ty vs.toArray).run P w=.ok z w∧Rep E w av z:=by
 unfold zd6 at h;split at h
 case h_2=>simp at h
 rename_i k a k' b;split at h<;>simp only [oJ,reduceCtorEq] at h;subst h;match vs,hx with
 | [x,y],hx =>
  simp only [RepL,Rep,zd] at hx;obtain ⟨rfl,rfl,_⟩:=hx;refine ⟨_,run_min_int2 _ _ _ _ _ _ _,?_⟩;simp only [Rep,zd,if_false,Value.int.injEq,true_and];split<;>omega
 | [],hx=>simp [RepL] at hx
 | [_],hx=>simp [RepL] at hx
 | _::_::_::_,hx=>simp [RepL] at hx
theorem zsV {P:Program} {xs:List AV} {av:AV} {E:Env} {w:World} {vs:List Value} {ats:Array TypeId} {ty:TypeId} (h:zd6 true xs=some av) (hx:RepL E w xs vs):∃ z,(Builtin.max_ ats ty vs.toArray).run P w=.ok z w∧Rep E w av z:=by
 unfold zd6 at h;split at h
 case h_2=>simp at h
 rename_i k a k' b;split at h<;>simp only [oJ,reduceCtorEq] at h;subst h;match vs,hx with
 | [x,y],hx =>
  simp only [RepL,Rep,zd] at hx;obtain ⟨rfl,rfl,_⟩:=hx;refine ⟨_,run_max_int2 _ _ _ _ _ _ _,?_⟩;simp only [Rep,zd,if_true,Value.int.injEq,true_and];split<;>omega
 | [],hx=>simp [RepL] at hx
 | [_],hx=>simp [RepL] at hx
 | _::_::_::_,hx=>simp [RepL] at hx
def zwB (T:TypeId->Option TD) (M:Nat->AO) (t:TypeId) (x:AV):Option AV :=
 match T t with
 | none=>none
 | some d=>match d.k,x with
  | .slice _,.sl b m s o _=>match M b with
   | .vec m' s' true xs=>if m=m'∧s=s'∧1<=s∧o<=xs.length then some (.v (.int .i64 (xs.length - o:Nat))) else none
   | _=>none
  | .slice _,.v (.slice none 0 0)=>some (.v (.int .i64 0))
  | _,_=>none
theorem zsX {P:Program} {M:Nat->AO} {t:TypeId} {x av:AV} {E:Env} {w:World} {xv:Value} {ats:Array TypeId} {ty:TypeId} (h:zwB (za P) M t x=some av) (hx:Rep E w x xv) (hM:zai E w M) (ha:ats[0]?=some t):∃ z,(Builtin.cap_ ats ty #[xv]).run P w=.ok z w∧Rep E w av z:=by
 unfold zwB at h;cases ht:za P t<;>simp only [ht,reduceCtorEq] at h;rename_i d;have hsl:∀ p n c e,d.k=.slice e->(Builtin.cap_ ats ty #[.slice p n c]).run P w=.ok (.int .i64 c) w:=fun p n c e hk=>by simp [Builtin.cap_,ha,uSl ht hk,goInt]
 split at h
 ·rename_i e b m s o n hk;split at h
  case h_2=>simp at h
  rename_i m' s' xs hMb;split at h
  case isFalse=>simp at h
  rename_i hm;obtain ⟨rfl,rfl,hs,hox⟩:=hm;simp only [oJ] at h;subst h;simp only [Rep] at hx;obtain ⟨k1,k2,k3,p,c,rfl,k4,k4',k5⟩:=hx;refine ⟨_,hsl _ _ _ _ hk,?_⟩;have hob:=hM b k1;simp only [hMb,ObR] at hob;obtain ⟨l1,l2,l3⟩:=hob;have h5:=k5 l1.symm;have hc:c=xs.length - o:=by
   cases hl:E.loc b with
   | none=>simp only [hl,zcd] at h5 l3;subst l3;simp;exact h5.2
   | some l =>
    obtain ⟨blk,base,sz⟩:=l;simp only [hl,zcd] at h5 l3;obtain ⟨a,_,_,q⟩:=h5;obtain ⟨arr,t,_,_,_,k6,k6',_⟩:=l3;have h1:(o+c)*s=xs.length*s:=by have:=k6' trivial;omega
    have:=Nat.eq_of_mul_eq_mul_right (by omega) h1;omega
  subst hc;simp only [Rep,zd]
 ·rename_i hk;simp only [oJ] at h;subst h;simp only [Rep,zd] at hx;subst hx;exact ⟨_,hsl _ _ _ _ hk,by simp [Rep,zd]⟩
 ·simp at h
def zmH (T:TypeId->Option TD) (M:Nat->AO) (t:TypeId) (x y:AV):Option (AV×List (Nat×AO)) :=
 match T t with
 | none=>none
 | some d=>match d.k with
  | .slice e=>match T e with
   | none=>none
   | some de=>match x with
    | .sl b m s o n=>match M b,zc9 M s y with
     | .vec m' s' f xs,some new=>if m=m'∧s=s'∧s=de.size∧o+n<=xs.length then
       some (.v (.int .i64 (min new.length n:Nat)),[(b,.vec m s f (xs.take o++(new.take (min new.length n)++xs.drop (o+min new.length n))))]) else none
     | _,_=>none
    | _=>none
  | _=>none
theorem zql {P:Program} {M:Nat->AO} {t t':TypeId} {x y av:AV} {u:List (Nat×AO)} {w0:World} {bl:Bk} {E:Env} {w:World} {xv yv:Value} (h:zmH (za P) M t x y=some (av,u)) (hx:Rep E w x xv) (hy:Rep E w y yv) (hM:zai E w M) (hI:Inv w0 bl E w) (ty:TypeId) :
  ∃ z E' w',(Builtin.copy_ #[t,t'] ty #[xv,yv]).run P w=.ok z w'∧StT w0 bl E w u E' w'∧Rep E' w' av z:=by
 unfold zmH at h;cases ht:za P t<;>simp only [ht,reduceCtorEq] at h;rename_i d;cases hk:d.k<;>simp only [hk,reduceCtorEq] at h;rename_i e;cases he:za P e<;>simp only [he,reduceCtorEq] at h;rename_i de;cases x<;>simp only [reduceCtorEq] at h;rename_i b m s o n;cases hMb:M b<;>simp only [hMb,reduceCtorEq] at h;rename_i m' s' f xs;cases hr:zc9 M s y<;>simp only [hr,reduceCtorEq] at h;rename_i new;split at h
 case isFalse=>simp at h
 rename_i hm;obtain ⟨rfl,rfl,rfl,hle⟩:=hm;simp only [oJ,pJ] at h;obtain ⟨rfl,rfl⟩:=h;have hx':=hx;simp only [Rep] at hx';obtain ⟨k1,k2,k3,p,c,rfl,k4,k4',k5⟩:=hx';obtain ⟨q,c',rfl,hn2,hn3,vn,hn4,hn5⟩:=zfx hr hy hM;have hlen:(new.take (min new.length n)).length=min new.length n:=by rw [List.length_take];omega
 have hv:=hn4.take (min new.length n);obtain ⟨E',w',h1,h2⟩:=ze5 (P:=P) hI hM hx hMb hv (by rw [hlen];omega) (by rw [hlen];omega);rw [hlen] at h2;refine ⟨.int .i64 (min new.length n:Nat),E',w',?_,h2,by simp only [Rep,zd]⟩;have hfc:(Builtin.firstCells de.size (min new.length n) (.slice q new.length c')).run P w=.ok (vn.take (min new.length n*de.size)).toArray w:=by
  rcases hn5 with rfl|⟨blk,off,rfl,hc⟩
  ·have:vn=[]:=by have:=hn4.len;simpa using this
   subst this;cases q<;>simp [Builtin.firstCells,loadCells,loadCellsFrom]
  ·have:=run_loadCells_list (P:=P) (w:=w) ⟨blk,off,none⟩ (vn.take (min new.length n*de.size)) fun j v e=>by
    rw [aPl];rw [List.getElem?_take] at e;split at e
    ·exact hc j v e
    ·simp at e
   rw [hv.len,hlen] at this;simpa [Builtin.firstCells] using this
 have hmin:Nat.min new.length n=min new.length n:=rfl;simp only [Builtin.copy_,Sem.run_bind,List.getElem?_toArray,List.getElem?_cons_zero,List.getElem?_cons_succ,uSl ht hk,Result.andThen_ok,Builtin.lenOf,Sem.run_pure,rSz he,hmin,hfc];cases p with
 | none =>
  simp only [Sem.run_pure] at h1;simp only [Result.ok.injEq,true_and] at h1;subst h1;simp [goInt]
 | some a =>simp only at h1;simp only [Sem.run_bind,h1,Result.andThen_ok,Sem.run_pure,goInt]
def zhk (T:TypeId->Option TD) (M:Nat->AO) (t:TypeId) (x:AV):Option (AV×List (Nat×AO)) :=
 match T t with
 | none=>none
 | some d=>match d.k with
  | .slice e=>match T e with
   | none=>none
   | some de=>match x with
    | .sl b m s o n=>match M b with
     | .vec m' s' f xs=>if m=m'∧s=s'∧s=de.size∧o+n<=xs.length∧de.zero.length=de.size∧de.zero.all Value.oneCell'=true then
       some (.any,[(b,.vec m s f (xs.take o++(List.replicate n (de.zero.map .v)++xs.drop (o+n))))]) else none
     | _=>none
    | _=>none
  | _=>none
theorem zoY {P:Program} {M:Nat->AO} {t:TypeId} {x av:AV} {u:List (Nat×AO)} {w0:World} {bl:Bk} {E:Env} {w:World} {xv:Value} (h:zhk (za P) M t x=some (av,u)) (hx:Rep E w x xv) (hM:zai E w M) (hI:Inv w0 bl E w) (ty:TypeId) :
  ∃ z E' w',(Builtin.clear_ #[t] ty #[xv]).run P w=.ok z w'∧StT w0 bl E w u E' w'∧Rep E' w' av z:=by
 unfold zhk at h;cases ht:za P t<;>simp only [ht,reduceCtorEq] at h;rename_i d;cases hk:d.k<;>simp only [hk,reduceCtorEq] at h;rename_i e;cases he:za P e<;>simp only [he,reduceCtorEq] at h;rename_i de;cases x<;>simp only [reduceCtorEq] at h;rename_i b m s o n;cases hMb:M b<;>simp only [hMb,reduceCtorEq] at h;rename_i m' s' f xs;split at h
 case isFalse=>simp at h
 rename_i hm;obtain ⟨rfl,rfl,rfl,hle,hz1,hz2⟩:=hm;simp only [oJ,pJ] at h;obtain ⟨rfl,rfl⟩:=h;have hx':=hx;simp only [Rep] at hx';obtain ⟨k1,k2,k3,p,c,rfl,k4,k4',k5⟩:=hx';have hone:∀ y∈de.zero,y.oneCell'=true:=by simpa using hz2
 have hvr:=VR.replicate (w:=w) (G:=E.G) hone n;rw [hz1] at hvr;obtain ⟨E',w',h1,h2⟩:=ze5 (P:=P) hI hM hx hMb hvr (by simpa using hle) (by simp);simp only [List.length_replicate] at h2;obtain ⟨z,hz,hzz⟩:=zcv (P:=P) (w:=w) he;have hzc:(Builtin.zeroCells z.cells n).toList=(List.replicate n de.zero).flatten:=by
  apply List.ext_getElem?;intro i;have hzs:z.cells.size=de.size:=by rw [<- hz1,<- hzz];simp
  by_cases hi:i<n*de.size
  ·rw [<- hz1] at hi;rw [zd0 hi,hz1];simp only [Builtin.zeroCells,Array.toList_map,List.getElem?_map,hzs];rw [hz1] at hi;rw [Array.getElem?_toList,Array.getElem?_eq_getElem (by simpa using hi)];simp only [Array.getElem_range,Option.map_some];have hpos:0<de.size:=Nat.pos_of_ne_zero fun e=>by rw [e] at hi;simp at hi
   have hlt:i%de.size<z.cells.size:=by rw [hzs];exact Nat.mod_lt _ hpos
   rw [getElem!_pos z.cells _ hlt,<- hzz,Array.getElem?_toList,Array.getElem?_eq_getElem hlt]
  ·rw [List.getElem?_eq_none (by simp [Builtin.zeroCells,hzs];omega),List.getElem?_eq_none (by rw [hvr.len];simp;omega)]
 refine ⟨.tuple #[],E',w',?_,h2,by simp [Rep,zd]⟩;cases p with
 | none =>
  simp only [Sem.run_pure,Result.ok.injEq,true_and] at h1;subst h1;simp [Builtin.clear_,uSl ht hk]
 | some a =>
  simp only at h1;by_cases hn:n=0
  ·subst hn;simp only [List.replicate_zero,List.flatten_nil,storeCells] at h1;simp [storeCells] at h1;subst h1;simp [Builtin.clear_,uSl ht hk]
  ·have:Builtin.clear_ #[t] ty #[.slice (some a) n c]=(do
     match <- underlying t with
     | .slice elem=>storeCells a (Builtin.zeroCells (<- zeroValue elem).cells n).toList
     | _=>pure ()
     pure (.tuple #[]):Sem Value)∨True:=.inr trivial
   simp only [Builtin.clear_,Sem.run_bind,List.getElem?_toArray,List.getElem?_cons_zero,uSl ht hk,Result.andThen_ok];obtain ⟨n',rfl⟩:∃ n',n=n'+1:=⟨n - 1,by omega⟩
   simp only [Sem.run_bind,hz,Result.andThen_ok,hzc,h1,Sem.run_pure]
def zdA (T:TypeId->Option TD) (M:Nat->AO) (nid:Nat) (st:TypeId) (s x:AV):Option (AV×List (Nat×AO)) :=
 match T st,zlW x with
 | some d,some k=>match d.k with
  | .slice e=>match T e with
   | some de=>match s with
    | .sl b m z o n=>match M b with
     | .vec m' z' true xs=>if m=m'∧z=z'∧z=de.size∧o+n<=xs.length∧0<=k∧(xs.length:Int)<o+n+k∧n+k<=1073741824∧de.bytes<=65536∧de.zero.length=de.size∧de.zero.all Value.oneCell'=true∧1<=de.size then
       some (.sl nid 1 de.size 0 (n+k.toNat),[(nid,.vec 1 de.size false ((xs.drop o).take n++List.replicate k.toNat (de.zero.map .v)))]) else none
     | _=>none
    | _=>none
   | none=>none
  | _=>none
 | _,_=>none
theorem zdJ {z:List Value} {n:Nat}:(Builtin.zeroCells z.toArray n).toList=(List.replicate n z).flatten:=by
 apply List.ext_getElem?;intro i;by_cases hi:i<n*z.length
 ·rw [zd0 hi];simp only [Builtin.zeroCells,Array.toList_map,List.getElem?_map,List.size_toArray];rw [Array.getElem?_toList,Array.getElem?_eq_getElem (by simpa using hi)];simp only [Array.getElem_range,Option.map_some];have hpos:0<z.length:=Nat.pos_of_ne_zero fun e=>by rw [e] at hi;simp at hi
  have hlt:i%z.length<z.toArray.size:=by simpa using Nat.mod_lt _ hpos
  rw [getElem!_pos z.toArray _ hlt];simp
 ·rw [List.getElem?_eq_none (by simp [Builtin.zeroCells];omega),List.getElem?_eq_none (by simp;omega)]
theorem zkI {P:Program} {M:Nat->AO} {nid:Nat} {st xt:TypeId} {s x av:AV} {u:List (Nat×AO)} {w0:World} {bl:Bk} {E:Env} {w:World} {sv xv:Value} {dx:TD} {ik:IntKind} (hxt:za P xt=some dx) (hkx:dx.k=.int ik) (h:zdA (za P) M nid st s x=some (av,u))
  (hs:Rep E w s sv) (hx:Rep E w x xv) (hM:zai E w M) (hI:Inv w0 bl E w) (hnid:¬ E.alive nid) (ty:TypeId) :
  ∃ y E' w',(Builtin.append_ #[st,xt] ty #[sv,xv]).run P w=.ok y w'∧StT w0 bl E w u E' w'∧Rep E' w' av y:=by
 unfold zdA at h;cases hst:za P st<;>simp only [hst,reduceCtorEq] at h;rename_i ds;cases hkn:zlW x<;>simp only [hkn,reduceCtorEq] at h;rename_i k;cases hks:ds.k<;>simp only [hks,reduceCtorEq] at h;rename_i e;cases he:za P e<;>simp only [he,reduceCtorEq] at h;rename_i de;cases s<;>simp only [reduceCtorEq] at h;rename_i b m z o n;cases hMb:M b<;>simp only [hMb,reduceCtorEq] at h;rename_i m' z' f xs;cases f<;>simp only [reduceCtorEq] at h;split at h
 case isFalse=>simp at h
 rename_i hh;obtain ⟨rfl,rfl,rfl,hle,hk0,hbig,hlim,hbytes,hz1,hz2,hs1⟩:=hh;simp only [oJ,pJ] at h;obtain ⟨rfl,rfl⟩:=h;obtain ⟨kk,rfl,hxr⟩:=zgq (P:=P) hkn hx;have hro:zc9 M de.size (.sl b m de.size o n)=some ((xs.drop o).take n):=by simp [zc9,hMb,hle]
 obtain ⟨p,c,rfl,ho2,ho3,vo,ho4,ho5⟩:=zfx hro hs hM;have hlen:((xs.drop o).take n).length=n:=by simp;omega
 rw [hlen] at ho2 hs ⊢;simp only [Rep] at hs;obtain ⟨k1,k2,k3,p',c',heq,k4,k4',k5⟩:=hs;simp only [Value.slice.injEq] at heq;obtain ⟨rfl,-,rfl⟩:=heq;have hob:=hM b k1;simp only [hMb,ObR] at hob;obtain ⟨l1,l2,l3⟩:=hob;have hsl:=k5 l1.symm;have hc:c=xs.length - o:=by
  cases hl:E.loc b with
  | none=>simp only [hl,zcd] at hsl l3;subst l3;simp;exact hsl.2
  | some l =>
   obtain ⟨blk,base,sz⟩:=l;simp only [hl,zcd] at hsl l3;obtain ⟨a,_,_,q⟩:=hsl;obtain ⟨arr,t,_,_,_,k6,k6',_⟩:=l3;have h1:(o+c)*de.size=xs.length*de.size:=by have:=k6' trivial;omega
   have:=Nat.eq_of_mul_eq_mul_right (by omega) h1;omega
 obtain ⟨q,rfl⟩:∃ q:Nat,k=q:=⟨k.toNat,by omega⟩
 simp only [Int.toNat_natCast];have hnf:¬ n+q<=c:=by omega
 have hone:∀ y∈de.zero,y.oneCell'=true:=by simpa using hz2
 have hvr:=VR.replicate (w:=w) (G:=E.G) hone q;rw [hz1] at hvr;have hcap:=zex (n+q) c e (w.tape w.drawn (.appendCap (n+q) c e));generalize hcc:(Question.appendCap (n+q) c e).cut (w.tape w.drawn (.appendCap (n+q) c e))=cc at hcap
 have hrun:(Builtin.append_ #[st,xt] ty #[.slice p n c,.int kk q]).run P w=.ok (.slice (some ⟨w.heap.size,0,none⟩) (n+q) cc)
   (({ w with drawn:=w.drawn+1 }:World).alloc (.cells (vo.toArray++(List.replicate q de.zero).flatten.toArray++Builtin.zeroCells de.zero.toArray (cc - (n+q))) e)):=by
  obtain ⟨i,hi,hib,_⟩:=zef (P:=P) (w:=w) he;obtain ⟨i2,hi2,_,_⟩:=zef (P:=P) (w:={ w with drawn:=w.drawn+1 }) he;obtain ⟨zz,hz,hzz⟩:=zcv (P:=P) (w:={ w with drawn:=w.drawn+1 }) he;have f3:=zbH (P:=P) (w:={ w with drawn:=w.drawn+1 }) (n:=n) (ho4.mono (fun _ h=>h) fun _ _=>rfl) ho3 hlen.symm (by rw [hlen];exact ho2) ho5;have hzc:zz.cells=de.zero.toArray:=by rw [<- hzz]
  have hw1:IntKind.i64.wrap (q:Int)=q:=zeF _ (by omega) (by omega);have hbm:(q:Int)*de.bytes<=1073741824*65536:=by have:=Int.mul_le_mul (show (q:Int)<=1073741824 by omega) (Int.ofNat_le.2 hbytes) (by omega) (by omega);simpa using this
  have hlim2:¬ ((q:Int)*de.bytes > 2^48):=by omega
  have hcap2:=zg2 (n+q) c (by omega);have hmul:Builtin.nextslicecap (n+q) c*de.bytes<=(2*(n+q)+1000)*65536:=Nat.mul_le_mul hcap2 hbytes;have hlim3:¬ (Builtin.nextslicecap (n+q) c*de.bytes > 2^48):=by
   have:(2*(n+q)+1000)*65536<=2^48:=by omega
   omega
  have hbig2:¬ (((n+q:Nat):Int) > IntKind.i64.max∧(True∨de.bytes=0)):=by intro hh;have h1:=hh.1;simp [IntKind.max,IntKind.signed,IntKind.bits] at h1;omega
  simp only [Builtin.append_];simp only [List.getElem?_toArray,List.getElem?_cons_zero,List.getElem?_cons_succ,Sem.run_bind,uSl hst hks,zhp hxt hkx,Result.andThen_ok,rSz he,Sem.run_pure,asInt,hxr,if_true,hw1,hi,hib];rw [if_neg (by omega)];simp only [Sem.run_bind,hi,Result.andThen_ok,hib];rw [if_neg hlim2];simp only [Sem.run_bind,Sem.run_pure,Result.andThen_ok,Int.toNat_natCast];rw [if_neg hnf];simp only [Sem.run_bind,hi,Result.andThen_ok,hib];rw [if_neg hbig2];simp only [Sem.run_bind,hi,Result.andThen_ok,hib];rw [if_neg hlim3];simp only [Sem.run_bind,run_choose,Question.forced,Bool.false_eq_true,if_false,Result.andThen_ok,hi2,run_askRoom,f3,Bool.not_true];have hq0:¬ (q*de.size=0):=by intro h0;rcases Nat.mul_eq_zero.1 h0 with h|h<;>omega
  rw [if_neg hq0];simp only [Sem.run_bind,hz,Result.andThen_ok,Sem.run_pure,newRow,run_newObj,hzc,hcc];have hzf:(Builtin.zeroCells de.zero.toArray q)=(List.replicate q de.zero).flatten.toArray:=by rw [<- zdJ,Array.toArray_toList]
  rw [hzf];rfl
 have hvr2:=ho4.append hvr;have hzl:(Builtin.zeroCells de.zero.toArray (cc - (n+q))).size=(cc - (n+q))*de.size:=by simp [Builtin.zeroCells,hz1]
 obtain ⟨E',w',rfl,q1,q2⟩:=zcA (w1:={ w with drawn:=w.drawn+1 }) (n:=n+q) (c:=cc) (e:=e) (arr:=vo.toArray++(List.replicate q de.zero).flatten.toArray++Builtin.zeroCells de.zero.toArray (cc - (n+q))) hI hnid rfl rfl rfl hvr2 (fun k v hk=>by
   have hk':=(List.getElem?_eq_some_iff.1 hk).1;rw [show (vo.toArray++(List.replicate q de.zero).flatten.toArray++Builtin.zeroCells de.zero.toArray (cc - (n+q)))=(vo++(List.replicate q de.zero).flatten).toArray++Builtin.zeroCells de.zero.toArray (cc - (n+q)) from by simp,Array.getElem?_append_left (by simpa using hk')];simpa using hk) (by simp;omega) hcap (by
   simp only [Array.size_append,List.size_toArray,hzl,ho4.len,hvr.len,hlen,List.length_replicate];rw [<- Nat.add_mul,<- Nat.add_mul];congr 1;omega) (fun y hy=>by
   simp only [Array.toList_append,List.mem_append] at hy;rcases hy with (hy|hy)|hy
   ·exact ho4.one y (by simpa using hy)
   ·exact hvr.one y (by simpa using hy)
   ·rw [zdJ] at hy;simp only [List.mem_flatten,List.mem_replicate] at hy;obtain ⟨l,⟨_,rfl⟩,h2⟩:=hy;exact hone y h2)
 exact ⟨_,E',_,hrun,q1,q2⟩
theorem zjA {T:TypeId->Option TD} {M:Nat->AO} {nid:Nat} {st:TypeId} {s x:AV} {r:AV×List (Nat×AO)} (h:zdA T M nid st s x=some r):∀ b∈r.2.map (·.1),b=nid:=by
 unfold zdA at h;cases hst:T st<;>simp only [hst,reduceCtorEq] at h;rename_i ds;cases hkn:zlW x<;>simp only [hkn,reduceCtorEq] at h;rename_i k;cases hks:ds.k<;>simp only [hks,reduceCtorEq] at h;rename_i e;cases he:T e<;>simp only [he,reduceCtorEq] at h;rename_i de;cases s<;>simp only [reduceCtorEq] at h;rename_i b m z o n;cases hMb:M b<;>simp only [hMb,reduceCtorEq] at h;rename_i m' z' f xs;cases f<;>simp only [reduceCtorEq] at h;split at h
 case isFalse=>simp at h
 simp only [oJ] at h;subst h;intro b hb;simpa using hb
def ztF (T:TypeId->Option TD) (M:Nat->AO) (nid:Nat) (st xt:TypeId) (s x:AV):Option (AV×List (Nat×AO)) :=
 match T xt with
 | none=>none
 | some d=>match d.k with
  | .int _=>zdA T M nid st s x
  | _=>zeX T M nid st xt s x
theorem zs0 {P:Program} {M:Nat->AO} {nid:Nat} {st xt:TypeId} {s x av:AV} {u:List (Nat×AO)} {w0:World} {bl:Bk} {E:Env} {w:World} {sv xv:Value} (h:ztF (za P) M nid st xt s x=some (av,u))
  (hs:Rep E w s sv) (hx:Rep E w x xv) (hM:zai E w M) (hI:Inv w0 bl E w) (hnid:¬ E.alive nid) (ty:TypeId) :
  ∃ y E' w',(Builtin.append_ #[st,xt] ty #[sv,xv]).run P w=.ok y w'∧StT w0 bl E w u E' w'∧Rep E' w' av y:=by
 unfold ztF at h;cases hxt:za P xt<;>simp only [hxt,reduceCtorEq] at h;rename_i dx;cases hk:dx.k<;>simp only [hk] at h
 case int ik=>exact zkI hxt hk h hs hx hM hI hnid ty
 all_goals exact zmJ h hs hx hM hI hnid ty
def zii (T:TypeId->Option TD) (X:AX) (M:Nat->AO) (t:TypeId) (x:AV):Option AV :=
 match x with
 | .mp b m=>if X.writes (1000000+t)=true then zqk T M t (.mp b m) else none
 | x=>zwA T t x
theorem zmG {T:TypeId->Option TD} {X:AX} {M M':Nat->AO} {t:TypeId} {x:AV} (h:X.writes (1000000+t)=false):zii T X M t x=zii T X M' t x:=by
 unfold zii;split
 ·simp [h]
 ·rfl
theorem zqi {P:Program} {X:AX} {M:Nat->AO} {t:TypeId} {x av:AV} {E:Env} {w:World} {xv:Value} {ats:Array TypeId} {ty:TypeId} (h:zii (za P) X M t x=some av) (hx:Rep E w x xv) (hM:zai E w M) (ha:ats[0]?=some t):∃ z,(Builtin.len_ ats ty #[xv]).run P w=.ok z w∧Rep E w av z:=by
 unfold zii at h;split at h
 ·split at h
  ·exact zqj h hx hM ha
  ·simp at h
 ·exact zsW h hx ha
def zd8:List (List Int×AV)->List Int->Option AV
 | [],_=>none
 | (k,a)::r,q=>if q=k then some a else zd8 r q
def zgz:List (List Int×AV)->List Int->AV->List (List Int×AV)
 | [],q,b=>[(q,b)]
 | (k,a)::r,q,b=>if q=k then (q,b)::r else (k,a)::zgz r q b
def zr3:List (List Int×AV)->List Int->List (List Int×AV)
 | [],_=>[]
 | (k,a)::r,q=>if q=k then r else (k,a)::zr3 r q
def zqQ:AV->Option (List Int)
 | .v (.int .i64 k)=>some [k]
 | _=>none
def zA:Value->Option AV
 | .agg cs=>if cs.toList.all Value.oneCell'=true then some (.agg (cs.toList.map .v)) else none
 | .tuple _=>none
 | x=>some (.v x)
def zr4 (T:TypeId->Option TD) (t:TypeId):Option (Nat×Option Value) :=
 match T t with
 | some d=>match d.k with
  | .map kt _ z=>match T kt with
   | some dk=>match dk.k with
    | .int .i64=>some (1,z)
    | _=>none
   | none=>none
  | _=>none
 | none=>none
def zji (M:Nat->AO) (n:Nat):AV->Option (List (List Int×AV))
 | .mp b m=>match M b with
  | .map m' n' es=>if m=m'∧n=n' then some es else none
  | _=>none
 | .rm n' es=>if n=n' then some es else none
 | _=>none
def zn1:Value->Bool
 | .int .i64 _=>true
 | _=>false
def zqN (T:TypeId->Option TD) (X:AX) (t:TypeId):Option Nat :=
 match T t with
 | some d=>match d.k with
  | .map kt _ _=>match T kt with
   | some dk=>match dk.k with
    | .int .i64=>some 1
    | .struct _=>if X.eqs kt=true∧2<=dk.zero.length∧dk.zero.all zn1=true then some dk.zero.length else none
    | _=>none
   | none=>none
  | _=>none
 | none=>none
def zf4:List AV->Option (List Int)
 | []=>some []
 | .v (.int .i64 k)::r=>(zf4 r).map (k::·)
 | _=>none
def zuK (n:Nat) (i:AV):Option (List Int) :=if n=1 then zqQ i else match i with
  | .agg cs=>if cs.length=n then zf4 cs else none
  | _=>none
def zbI (T:TypeId->Option TD) (X:AX) (nid:Nat) (t:TypeId):Option (AV×List (Nat×AO)) :=
 match zqN T X t with
 | some n=>some (.mp nid 1,[(nid,.map 1 n [])])
 | none=>none
def zjZ (commaOk:Bool) (a:AV) (ok:Bool):AV:=if commaOk then .tup [a,.v (.bool ok)] else a
def zmm (commaOk:Bool) (z:AV):Option AV->AV
 | some a=>zjZ commaOk a true
 | none=>zjZ commaOk z false
def zih (T:TypeId->Option TD) (M:Nat->AO) (t:TypeId) (x i:AV) (commaOk:Bool):Option AV :=
 match zr4 T t with
 | some (n,some zv)=>match zA zv,zji M n x,zqQ i with
  | some z,some es,some k=>some (zmm commaOk z (zd8 es k))
  | _,_,_=>none
 | _=>none
def zda (T:TypeId->Option TD) (X:AX) (M:Nat->AO) (t:TypeId) (x i y:AV):Option (List (Nat×AO)) :=
 match zqN T X t with
 | some n=>match x with
  | .mp b m=>match M b with
   | .map m' n' es=>match zuK n i with
    | some k=>if m=m'∧n=n'∧y.isClosed=true then some [(b,.map m n (zgz es k y))] else none
    | none=>none
   | _=>none
  | _=>none
 | none=>none
def zdb (T:TypeId->Option TD) (M:Nat->AO) (t:TypeId) (x i:AV):Option (List (Nat×AO)) :=
 match zr4 T t with
 | some (n,_)=>match x with
  | .mp b m=>match M b with
   | .map m' n' es=>match zqQ i with
    | some k=>if m=m'∧n=n' then some [(b,.map m n (zr3 es k))] else none
    | none=>none
   | _=>none
  | _=>none
 | none=>none
theorem zjQ {P:Program} {w:World} {t:TypeId} {d:TD} {k e:TypeId} {z:Option Value} (h:za P t=some d) (hk:d.k=.map k e z):(underlying t).run P w=.ok (.map k e) w∧z=(P.info? e).bind (·.zero):=by
 obtain ⟨u,i,z',h1,h2,h3,rfl⟩:=zak h;rw [run_underlying h1 w];cases u<;>simp only [zl7,reduceCtorEq] at hk<;>(try (split at hk<;>simp at hk;done))
 simp only [TK.map.injEq] at hk;obtain ⟨rfl,rfl,rfl⟩:=hk;exact ⟨rfl,rfl⟩
theorem ziX {P:Program} {t:TypeId} {n:Nat} {z:Option Value} (h:zr4 (za P) t=some (n,z)):n=1∧∃ kt et,(∀ w,(underlying t).run P w=.ok (.map kt et) w)∧(∀ w,(underlying kt).run P w=.ok (.int .i64) w)∧∀ zv,z=some zv->∀ w,(zeroValue et).run P w=.ok zv w:=by unfold zr4 at h;cases ht:za P t<;>simp only [ht,reduceCtorEq] at h;rename_i d;cases hk:d.k<;>simp only [hk,reduceCtorEq] at h;rename_i kt e z';cases hkt:za P kt<;>simp only [hkt,reduceCtorEq] at h;rename_i dk;cases hkk:dk.k<;>simp only [hkk,reduceCtorEq] at h;rename_i ik;cases ik<;>simp only [reduceCtorEq,oJ,pJ] at h;obtain ⟨rfl,rfl⟩:=h;refine ⟨rfl,kt,e,fun w=>(zjQ ht hk).1,fun w=>zhp hkt hkk,fun zv hz w=>?_⟩;have hzz:=(zjQ (w:=w) ht hk).2;rw [hz] at hzz;cases hi:P.info? e<;>simp only [hi,Option.bind_none,Option.bind_some,reduceCtorEq] at hzz;rename_i i;simp [zeroValue,run_typeInfo w hi,<- hzz]
theorem zf2 {E:Env} {w:World} {i:AV} {k:List Int} {x:Value} (h:zqQ i=some k) (hr:Rep E w i x):∃ q,k=[q]∧x=.int .i64 q:=by unfold zqQ at h;split at h<;>simp only [oJ,reduceCtorEq] at h;rename_i q;simp only [Rep,zd] at hr;exact ⟨q,h.symm,hr⟩
theorem ztJ {zv:Value} {z:AV} (h:zA zv=some z) (E:Env) (w:World):Rep E w z zv:=by
 unfold zA at h;split at h
 ·split at h
  ·rename_i hall;simp only [oJ] at h;subst h;simp only [Rep];exact ⟨_,by simp,by rw [List.all_eq_true] at hall;exact hall,ziL⟩
  ·simp at h
 ·simp at h
 ·simp only [oJ] at h;subst h;simp only [Rep,zd]
theorem zgd {w:World} {G:Nat->Prop} {q:Int}:∀ {es:List (List Int×AV)} {xs:List MapEntry} {i:Nat},CEnts w G 1 es xs ->
  (zd8 es [q]=none∧Instr.findNow (.int .i64) (.int .i64 q) xs i=some none) ∨
  ∃ a j v e,zd8 es [q]=some a∧Instr.findNow (.int .i64) (.int .i64 q) xs i=some (some (i+j,v))∧xs[j]?=some e∧e.val=v∧e.key=.int .i64 q∧zd w G a v
 | [],[],i,_=>.inl ⟨rfl,rfl⟩
 | (k,a)::r,e::s,i,h=>by
  simp only [CEnts] at h;obtain ⟨⟨h1,h2⟩,h3,h4⟩:=h;obtain ⟨n,rfl⟩:∃ n,k=[n]:=by
   match k,h1 with
   | [n],_=>exact ⟨n,rfl⟩
  simp only [zfb] at h2;by_cases hq:q=n
  ·subst hq;exact .inr ⟨a,0,e.val,e,by simp [zd8],by simp [Instr.findNow,h2,Instr.sameNow],by simp,rfl,h2,h3⟩
  ·have hqn:(q == n)=false:=by simpa using hq
   rcases zgd (q:=q) (i:=i+1) h4 with ⟨k1,k2⟩|⟨a',j,v,e',k1,k2,k3,k4,k5,k6⟩
   ·exact .inl ⟨by simp [zd8,hq,k1],by simp [Instr.findNow,h2,Instr.sameNow,hqn,k2]⟩
   ·refine .inr ⟨a',j+1,v,e',by simp [zd8,hq,k1],?_,by simpa using k3,k4,k5,k6⟩;simp [Instr.findNow,h2,Instr.sameNow,hqn,k2,Nat.add_assoc,Nat.add_comm 1 j]
 | [],_::_,_,h=>by simp [CEnts] at h
 | _::_,[],_,h=>by simp [CEnts] at h
theorem zjV {P:Program} {w:World} {G:Nat->Prop} {kt:TypeId} {q:Int} {es:List (List Int×AV)} {xs:List MapEntry} (hk:(underlying kt).run P w=.ok (.int .i64) w) (h:CEnts w G 1 es xs) :
  (zd8 es [q]=none∧(Instr.findKey kt (.int .i64 q) xs).run P w=.ok none w) ∨
  ∃ a j v e,zd8 es [q]=some a∧(Instr.findKey kt (.int .i64 q) xs).run P w=.ok (some (j,v)) w∧xs[j]?=some e∧e.val=v∧e.key=.int .i64 q∧zd w G a v:=by
 rcases zgd (q:=q) (i:=0) h with ⟨k1,k2⟩|⟨a,j,v,e,k1,k2,k3⟩
 ·exact .inl ⟨k1,by simp [Instr.findKey,hk,k2]⟩
 ·exact .inr ⟨a,j,v,e,k1,by simp [Instr.findKey,hk,k2],k3⟩
theorem zbu {P:Program} {w:World} {kt:TypeId} {q:Int} {b:Bool} (hk:(underlying kt).run P w=.ok (.int .i64) w):(Instr.checkKey b 10000 kt (.int .i64 q)).run P w=.ok () w:=by rw [show (10000:Nat)=9999+1 from rfl,Instr.checkKey];simp [hk]
theorem zop {M:Nat->AO} {n:Nat} {x:AV} {es:List (List Int×AV)} {E:Env} {w:World} {xv:Value} (h:zji M n x=some es) (hr:Rep E w x xv) (hM:zai E w M) :
  ∃ blk ents clk,xv=.map (some blk)∧w.heap[blk]?=some (.map (List.toArray ents) clk)∧CEnts w E.G n es ents:=by
 unfold zji at h;split at h
 ·rename_i b m;simp only [Rep] at hr;obtain ⟨h1,h2,_,blk,rfl,h3⟩:=hr;have ho:=hM b h1;cases hb:M b<;>simp only [hb,reduceCtorEq] at h ho;rename_i m' n' es';split at h
  case isFalse=>simp at h
  rename_i hn;obtain ⟨rfl,rfl⟩:=hn;simp only [oJ] at h;subst h;simp only [ObR] at ho;obtain ⟨hv,_,blk',ents,clk,k1,k2,k3⟩:=ho;have h3:=h3 hv.symm;rw [h3] at k1;simp only [oJ,pJ,and_true] at k1;subst k1;exact ⟨blk,ents,clk,rfl,k2,k3.1⟩
 ·split at h
  case isFalse=>simp at h
  rename_i hn;subst hn;simp only [oJ] at h;subst h;simp only [Rep,zd] at hr;obtain ⟨blk,ents,clk,k1,k2,k3,k4⟩:=hr;exact ⟨blk,ents,clk,k1,k3,k4⟩
 ·simp at h
theorem zmF {P:Program} {M:Nat->AO} {t:TypeId} {x i av:AV} {c:Bool} {E:Env} {w:World} {xv iv:Value} (h:zih (za P) M t x i c=some av) (hx:Rep E w x xv) (hi:Rep E w i iv) (hM:zai E w M) :
  ∃ y,(Instr.lookup t xv iv c).run P w=.ok y w∧Rep E w av y:=by
 unfold zih at h;cases hmt:zr4 (za P) t<;>simp only [hmt,reduceCtorEq] at h;rename_i p;obtain ⟨n,z⟩:=p;cases z<;>simp only [reduceCtorEq] at h;rename_i zv;cases hz:zA zv<;>simp only [hz,reduceCtorEq] at h;rename_i z;cases he:zji M n x<;>simp only [he,reduceCtorEq] at h;rename_i es;cases hk:zqQ i<;>simp only [hk,reduceCtorEq,oJ] at h;rename_i k;subst h;obtain ⟨rfl,kt,et,h1,h2,h3⟩:=ziX hmt;obtain ⟨q,rfl,rfl⟩:=zf2 hk hi;obtain ⟨blk,ents,clk,rfl,k2,k3⟩:=zop he hx hM;have hzr:=ztJ hz E w;have hget:(getObj blk).run P w=.ok (.map (List.toArray ents) clk) w:=by simp [getObj,Sem.run,k2]
 rcases zjV (q:=q) (h2 w) k3 with ⟨j1,j2⟩|⟨a,j,v,e,j1,j2,j3,j4,j5,j6⟩
 ·refine ⟨if c then .tuple #[zv,.bool false] else zv,?_,?_⟩
  ·simp [Instr.lookup,h1,hget,zbu (h2 w),j2,h3 zv rfl]
  ·rw [j1];cases c
   ·simpa [zmm,zjZ] using hzr
   ·simp only [zmm,zjZ,if_true,Rep];exact ⟨[zv,.bool false],rfl,by simp [RepL,hzr,Rep,zd]⟩
 ·refine ⟨if c then .tuple #[v,.bool true] else v,?_,?_⟩
  ·simp [Instr.lookup,h1,hget,zbu (h2 w),j2]
  ·rw [j1];have:=Rep.of_c j6;cases c
   ·simpa [zmm,zjZ] using this
   ·simp only [zmm,zjZ,if_true,Rep];exact ⟨[v,.bool true],rfl,by simp [RepL,this,Rep,zd]⟩
theorem zlD {w:World} {G:Nat->Prop} {q:Int}:∀ {es:List (List Int×AV)} {xs:List MapEntry} {i:Nat},CEnts w G 1 es xs ->
  (Instr.findNow (.int .i64) (.int .i64 q) xs i=some none∧zr3 es [q]=es) ∨
  ∃ j v,Instr.findNow (.int .i64) (.int .i64 q) xs i=some (some (i+j,v))∧CEnts w G 1 (zr3 es [q]) (xs.eraseIdx j)
 | [],[],i,_=>.inl ⟨rfl,rfl⟩
 | (k,b)::r,e::s,i,h=>by
  simp only [CEnts] at h;obtain ⟨⟨h1,h2⟩,h3,h4⟩:=h;obtain ⟨n,rfl⟩:∃ n,k=[n]:=by
   match k,h1 with
   | [n],_=>exact ⟨n,rfl⟩
  simp only [zfb] at h2;by_cases hq:q=n
  ·subst hq;exact .inr ⟨0,e.val,by simp [Instr.findNow,h2,Instr.sameNow],by simpa [zr3] using h4⟩
  ·have hqn:(q == n)=false:=by simpa using hq
   rcases zlD (q:=q) (i:=i+1) h4 with ⟨k1,k2⟩|⟨j,v,k1,k2⟩
   ·exact .inl ⟨by simp [Instr.findNow,h2,Instr.sameNow,hqn,k1],by simp [zr3,hq,k2]⟩
   ·refine .inr ⟨j+1,v,?_,by simp [zr3,hq,CEnts,zfb,h2,h3,k2]⟩;simp [Instr.findNow,h2,Instr.sameNow,hqn,k1,Nat.add_assoc,Nat.add_comm 1 j]
 | [],_::_,_,h=>by simp [CEnts] at h
 | _::_,[],_,h=>by simp [CEnts] at h
theorem zoH {xs:List MapEntry} {clk:Nat} {k v:Value} (h:ze8 xs clk):ze8 (xs++[⟨k,v,clk⟩]) (clk+1):=by
 refine ⟨fun e he=>?_,?_⟩
 ·rcases List.mem_append.1 he with h1|h1
  ·have:=h.1 e h1;omega
  ·simp at h1;subst h1;simp
 ·rw [List.map_append];refine List.nodup_append.2 ⟨h.2,by simp,fun a ha b hb e=>?_⟩;obtain ⟨x,hx,rfl⟩:=List.mem_map.1 ha;simp at hb;have:=h.1 x hx;omega
theorem zfZ {f:MapEntry->MapEntry} (hf:∀ e,(f e).born=e.born):∀ {xs:List MapEntry} {j:Nat},(xs.modify j f).map (·.born)=xs.map (·.born)
 | [],j=>by cases j<;>simp
 | x::xs,0=>by simp [hf]
 | x::xs,j+1=>by simp [zfZ hf (xs:=xs) (j:=j)]
theorem zkx {xs:List MapEntry} {clk j:Nat} {k v:Value} (h:ze8 xs clk):ze8 (xs.modify j fun e=>{ e with key:=k,val:=v }) clk:=by have e1:=zfZ (f:=fun e=>{ e with key:=k,val:=v }) (fun _=>rfl) (xs:=xs) (j:=j);refine ⟨fun e he=>?_,by rw [e1];exact h.2⟩;have:e.born∈(xs.modify j fun e=>{ e with key:=k,val:=v }).map (·.born):=List.mem_map.2 ⟨e,he,rfl⟩;rw [e1] at this;obtain ⟨x,hx,e2⟩:=List.mem_map.1 this;rw [<- e2];exact h.1 x hx
theorem zmy {xs:List MapEntry} {clk j:Nat} (h:ze8 xs clk):ze8 (xs.eraseIdx j) clk :=⟨fun e he=>h.1 e ((List.eraseIdx_sublist xs j).subset he),List.Nodup.sublist ((List.eraseIdx_sublist xs j).map _) h.2⟩
theorem StT.mapw {w0:World} {bl:Bk} {E:Env} {w:World} (h:Inv w0 bl E w) {b blk m n:Nat} {es:List (List Int×AV)} {ents ents':List MapEntry} {clk clk':Nat} (hb:E.alive b) (hv:E.ver b=m) (hm:1<=m) (hl:E.loc b=some (blk,0,0))
  (hc:w.heap[blk]?=some (.map (List.toArray ents) clk)) (he:zkN w E.G n es ents' clk') :
  StT w0 bl E w [(b,.map m n es)] (E.upd b m (some (blk,0,0))) { w with heap:=w.heap.setIfInBounds blk (.map (List.toArray ents') clk') }:=by
 have hblk:blk<w.heap.size:=(Array.getElem?_eq_some_iff.1 hc).1;have hoth:∀ k,k≠blk->(w.heap.setIfInBounds blk (.map (List.toArray ents') clk'))[k]?=w.heap[k]?:=fun k hk=>by rw [Array.getElem?_setIfInBounds_ne (Ne.symm hk)]
 refine StT.one h b (.map m n es) m _ (fun _=>.inl ⟨hv.symm,hl.symm⟩) (fun blk' base sz e=>?_) (by simp) rfl rfl (fun k hk hn=>hoth k fun e=>?_) ?_
 ·simp only [oJ,pJ] at e;exact .inl ⟨0,0,hb,by rw [hl,e.1]⟩
 ·subst e;exact hn 0 0 hb hl
 ·simp only [ObR,Env.upd,if_true];refine ⟨trivial,hm,blk,ents',clk',rfl,by simp [hblk],?_⟩;exact he.mono (fun _ hk=>hk) fun k hk=>hoth k fun e=>(h.locs b blk 0 0 hb hl).2.1 (e ▸ hk)
theorem zla {M:Nat->AO} {b m n:Nat} {es:List (List Int×AV)} {E:Env} {w:World} {xv:Value} (hb:M b=.map m n es) (hr:Rep E w (.mp b m) xv) (hM:zai E w M) :
  E.alive b∧E.ver b=m∧1<=m∧∃ blk ents clk,E.loc b=some (blk,0,0)∧xv=.map (some blk)∧w.heap[blk]?=some (.map (List.toArray ents) clk)∧zkN w E.G n es ents clk:=by simp only [Rep] at hr;obtain ⟨h1,h2,_,blk,rfl,h3⟩:=hr;have ho:=hM b h1;rw [hb] at ho;simp only [ObR] at ho;obtain ⟨hv,_,blk',ents,clk,k1,k2,k3⟩:=ho;have h3:=h3 hv.symm;rw [h3] at k1;simp only [oJ,pJ,and_true] at k1;subst k1;exact ⟨h1,hv,h2,blk,ents,clk,h3,rfl,k2,k3⟩
def zgV:List (List Int×AV)->List Int->Option Nat
 | [],_=>none
 | (k,_)::r,q=>if q=k then some 0 else (zgV r q).map (·+1)
def atV (i:Nat) (xs:List MapEntry) (p:Option Nat):Option (Nat×Value):=p.map fun j=>(i+j,(xs[j]?.map (·.val)).getD (.bool false))
theorem zlO (i:Nat) (e:MapEntry) (xs:List MapEntry) (p:Option Nat):atV i (e::xs) (p.map (·+1))=atV (i+1) xs p:=by
 cases p with
 | none=>rfl
 | some j=>simp [atV,Nat.add_assoc,Nat.add_comm 1 j]
structure zkL (P:Program) (kt:TypeId) (n:Nat):Prop where
 chk:∀ (w:World) (b:Bool) (q:List Int),q.length=n->(Instr.checkKey b 10000 kt (zfb q)).run P w=.ok () w
 find:∀ (w:World) (G:Nat->Prop) (q:List Int) (es:List (List Int×AV)) (xs:List MapEntry),q.length=n->CEnts w G n es xs->(Instr.findKey kt (zfb q) xs).run P w=.ok (atV 0 xs (zgV es q)) w
theorem zhQ {k:List Int} (h:k.length=1):∃ n,k=[n]:=by
 match k,h with
 | [n],_=>exact ⟨n,rfl⟩
theorem zgc {w:World} {G:Nat->Prop} {q:Int}:∀ {es:List (List Int×AV)} {xs:List MapEntry} {i:Nat},CEnts w G 1 es xs->Instr.findNow (.int .i64) (.int .i64 q) xs i=some (atV i xs (zgV es [q]))
 | [],[],i,_=>rfl
 | (k,a)::r,e::s,i,h=>by
  simp only [CEnts] at h;obtain ⟨⟨h1,h2⟩,h3,h4⟩:=h;obtain ⟨n,rfl⟩:=zhQ h1;simp only [zfb] at h2;by_cases hq:q=n
  ·subst hq;simp [Instr.findNow,h2,Instr.sameNow,zgV,atV]
  ·have hqn:(q == n)=false:=by simpa using hq
   have hne:¬ [q]=[n]:=by simpa using hq
   simp only [zgV,if_neg hne,zlO];simp only [Instr.findNow,h2,Instr.sameNow,hqn,if_true];exact zgc h4
 | [],_::_,_,h=>by simp [CEnts] at h
 | _::_,[],_,h=>by simp [CEnts] at h
theorem zkd {P:Program} {kt:TypeId} (h:∀ w,(underlying kt).run P w=.ok (.int .i64) w):zkL P kt 1 where
 chk:=fun w b q hq=>by obtain ⟨n,rfl⟩:=zhQ hq;exact zbu (h w)
 find:=fun w G q es xs hq hc=>by obtain ⟨n,rfl⟩:=zhQ hq;simp only [zfb];simp [Instr.findKey,h w,zgc hc]
theorem zcD {q:List Int} (h:q.length≠1):zfb q=.agg (q.map (Value.int .i64)).toArray:=by
 match q,h with
 | [],_=>rfl
 | [_],h=>simp at h
 | _::_::_,_=>rfl
theorem zdV:∀ {zs:List Value} {q:List Int},zs.all zn1=true->q.length=zs.length->zaQ zs (q.map (Value.int .i64))=true
 | [],[],_,_=>rfl
 | z::zs,a::q,h,hl=>by
  simp only [List.all_cons,Bool.and_eq_true] at h;obtain ⟨h1,h2⟩:=h;simp only [zn1] at h1;split at h1
  ·simp only [List.map_cons,zaQ,decide_true,Bool.true_and];exact zdV h2 (by simpa using hl)
  ·simp at h1
 | [],_::_,_,hl=>by simp at hl
 | _::_,[],_,hl=>by simp at hl
theorem zlC:∀ {p q:List Int},p.length=q.length->eqV (p.map (Value.int .i64)) (q.map (Value.int .i64))=some (decide (p=q))
 | [],[],_=>rfl
 | a::p,b::q,h=>by
  simp only [List.map_cons,eqV,if_true];rw [zlC (by simpa using h)];simp
 | [],_::_,h=>by simp at h
 | _::_,[],h=>by simp at h
theorem zdO {P:Program} {w:World} {G:Nat->Prop} {kt:TypeId} {n:Nat} {q:List Int} (hq:q.length=n) (he:∀ q',q'.length=n->(Op.equal kt (zfb q) (zfb q')).run P w=.ok (decide (q=q')) w) :
  ∀ {es:List (List Int×AV)} {xs:List MapEntry} {i:Nat},CEnts w G n es xs->(Instr.findAsking kt (zfb q) xs i).run P w=.ok (atV i xs (zgV es q)) w
 | [],[],i,_=>rfl
 | (k,a)::r,e::s,i,h=>by
  simp only [CEnts] at h;obtain ⟨⟨h1,h2⟩,h3,h4⟩:=h;simp only [Instr.findAsking,Sem.run_bind,h2,he k h1,Result.andThen_ok];by_cases hk:q=k
  ·simp [hk,zgV,atV]
  ·simp only [hk,decide_false,Bool.false_eq_true,if_false,zgV,zlO];exact zdO hq he h4
 | [],_::_,_,h=>by simp [CEnts] at h
 | _::_,[],_,h=>by simp [CEnts] at h
theorem zgF {P:Program} {X:AX} (hX:XOK P X) {kt:TypeId} {d:TD} (hd:za P kt=some d) (he:X.eqs kt=true) (h2:2<=d.zero.length) (hz:d.zero.all zn1=true):zkL P kt d.zero.length:=by
 obtain ⟨e1,e2⟩:=hX.eqs kt he d hd;obtain ⟨u,i,z,q1,q2,q3,hde⟩:=zak hd;refine ⟨fun w b q hq=>?_,fun w G q es xs hq hc=>?_⟩
 ·rw [zcD (by omega)];exact e1 w _ b (zdV hz hq)
 ·have heq:∀ q',q'.length=d.zero.length->(Op.equal kt (zfb q) (zfb q')).run P w=.ok (decide (q=q')) w:=fun q' hq'=>by rw [zcD (by omega),zcD (by omega)];exact (e2 w _ _ _ (zdV hz hq) (zlC (by omega))).1
  have hu:=run_underlying q1 w;cases es with
  | nil=>cases xs with
   | nil=>simp [Instr.findKey,hu,Instr.findNow,zgV,atV]
   | cons e s=>simp [CEnts] at hc
  | cons p r=>cases xs with
   | nil=>simp [CEnts] at hc
   | cons e s =>
    have hc':=hc;obtain ⟨k,a⟩:=p;simp only [CEnts] at hc';have hk:=hc'.1.2;have hnow:∀ kind,Instr.findNow kind (zfb q) (e::s) 0=none:=fun kind=>by rw [Instr.findNow,hk,zcD (by omega),zcD (q:=k) (by have:=hc'.1.1;omega)];cases kind<;>rfl
    simp only [Instr.findKey,Sem.run_bind,hu,Result.andThen_ok,hnow];exact zdO hq heq hc
theorem ziY {P:Program} {X:AX} (hX:XOK P X) {t:TypeId} {n:Nat} (h:zqN (za P) X t=some n):∃ kt et,(∀ w,(underlying t).run P w=.ok (.map kt et) w)∧zkL P kt n:=by
 unfold zqN at h;cases ht:za P t<;>simp only [ht,reduceCtorEq] at h;rename_i d;cases hk:d.k<;>simp only [hk,reduceCtorEq] at h;rename_i kt e z';cases hkt:za P kt<;>simp only [hkt,reduceCtorEq] at h;rename_i dk;refine ⟨kt,e,fun w=>(zjQ ht hk).1,?_⟩;cases hkk:dk.k<;>simp only [hkk,reduceCtorEq] at h
 case int ik =>cases ik<;>simp only [reduceCtorEq,oJ] at h;subst h;exact zkd fun w=>zhp hkt hkk
 case struct fs =>
  split at h
  ·rename_i hh;simp only [oJ] at h;subst h;exact zgF hX hkt hh.1 hh.2.1 hh.2.2
  ·simp at h
theorem zf3 {E:Env} {w:World}:∀ {cs:List AV} {k:List Int} {vs:List Value},zf4 cs=some k->RepL E w cs vs->vs=k.map (Value.int .i64)∧k.length=cs.length
 | [],k,[],h,_=>by simp only [zf4,oJ] at h;subst h;exact ⟨rfl,rfl⟩
 | c::r,k,v::vs,h,hr=>by
  unfold zf4 at h;split at h
  ·simp at *
  ·rename_i x r' heq;simp only [cJ] at heq;obtain ⟨rfl,rfl⟩:=heq;cases hi:zf4 r with
   | none=>simp [hi] at h
   | some k' =>simp only [hi,Option.map_some,oJ] at h;subst h;simp only [RepL,Rep,zd] at hr;obtain ⟨h1,h2⟩:=zf3 hi hr.2;exact ⟨by rw [hr.1,h1];rfl,by simp [h2]⟩
  ·simp at h
 | [],_,_::_,_,hr=>by simp [RepL] at hr
 | _::_,_,[],_,hr=>by simp [RepL] at hr
theorem znW {E:Env} {w:World} {n:Nat} {i:AV} {k:List Int} {x:Value} (h:zuK n i=some k) (hr:Rep E w i x):x=zfb k∧k.length=n:=by
 unfold zuK at h;split at h
 ·rename_i hn;obtain ⟨q,rfl,rfl⟩:=zf2 h hr;exact ⟨rfl,by simp [hn]⟩
 ·rename_i hn;split at h
  ·split at h
   ·rename_i cs hl;simp only [Rep] at hr;obtain ⟨vs,rfl,_,h3⟩:=hr;obtain ⟨rfl,h5⟩:=zf3 h h3;exact ⟨(zcD (by omega)).symm,by omega⟩
   ·simp at h
  ·simp at h
theorem zjh {w:World} {G:Nat->Prop} {n:Nat} {q:List Int} {a:AV} {y:Value} (ha:zd w G a y) (hq:q.length=n):∀ {es:List (List Int×AV)} {xs:List MapEntry},CEnts w G n es xs ->
  (zgV es q=none->∀ born,CEnts w G n (zgz es q a) (xs++[⟨zfb q,y,born⟩])) ∧
  ∀ j,zgV es q=some j->(∃ e,xs[j]?=some e∧e.key=zfb q)∧CEnts w G n (zgz es q a) (xs.modify j fun e=>{ e with key:=zfb q,val:=y })
 | [],[],_=>⟨fun _ born=>by simp [zgz,CEnts,ha,hq],fun j hj=>by simp [zgV] at hj⟩
 | (k,b)::r,e::s,h=>by
  simp only [CEnts] at h;obtain ⟨⟨h1,h2⟩,h3,h4⟩:=h;obtain ⟨k1,k2⟩:=zjh ha hq h4;by_cases hk:q=k
  ·subst hk;refine ⟨fun hn=>by simp [zgV] at hn,fun j hj=>?_⟩;simp only [zgV,if_true,oJ] at hj;subst hj;exact ⟨⟨e,by simp,h2⟩,by simp [zgz,CEnts,ha,h4,hq]⟩
  ·refine ⟨fun hn born=>?_,fun j hj=>?_⟩
   ·simp only [zgV,if_neg hk] at hn;have hn':zgV r q=none:=by cases hp:zgV r q<;>simp [hp] at hn ⊢
    simp only [zgz,if_neg hk,List.cons_append,CEnts];exact ⟨⟨h1,h2⟩,h3,k1 hn' born⟩
   ·simp only [zgV,if_neg hk] at hj;cases hp:zgV r q with
    | none=>simp [hp] at hj
    | some j' =>
     simp only [hp,Option.map_some,oJ] at hj;subst hj;obtain ⟨q1,q2⟩:=k2 j' hp;refine ⟨by simpa using q1,?_⟩;simp only [zgz,if_neg hk,List.modify_succ_cons,CEnts];exact ⟨⟨h1,h2⟩,h3,q2⟩
 | [],_::_,h=>by simp [CEnts] at h
 | _::_,[],h=>by simp [CEnts] at h
theorem ziJ (q:List Int):Instr.sameBits 10000 (zfb q) (zfb q)=true:=by
 by_cases h:q.length=1
 ·obtain ⟨n,rfl⟩:=zhQ h;simp [zfb,Instr.sameBits]
 ·rw [zcD h,show (10000:Nat)=9999+1 from rfl,Instr.sameBits];simp only [List.size_toArray,beq_self_eq_true,Bool.true_and,List.all_eq_true];rintro ⟨x,y⟩ hxy;have hz:∀ (l:List Value),(∀ v∈l,∃ n:Int,v=.int .i64 n)->∀ p∈l.zip l,Instr.sameBits 9999 p.1 p.2=true:=by
   intro l;induction l with
   | nil=>intro _ p hp;simp at hp
   | cons v l ih =>
    intro hv p hp;rw [List.zip_cons_cons,List.mem_cons] at hp;rcases hp with rfl|hp
    ·obtain ⟨n,rfl⟩:=hv v (by simp);simp [Instr.sameBits]
    ·exact ih (fun v' hv'=>hv v' (by simp [hv'])) p hp
  exact hz (q.map (Value.int .i64)) (fun v hv=>by obtain ⟨n,_,rfl⟩:=List.mem_map.1 hv;exact ⟨n,rfl⟩) (x,y) hxy
theorem zmD {P:Program} {X:AX} (hX:XOK P X) {M:Nat->AO} {t:TypeId} {x i y:AV} {u:List (Nat×AO)} {w0:World} {bl:Bk} {E:Env} {w:World} {xv iv yv:Value} (h:zda (za P) X M t x i y=some u) (hx:Rep E w x xv) (hi:Rep E w i iv) (hy:Rep E w y yv) (hM:zai E w M) (hI:Inv w0 bl E w) :
  ∃ E' w',(Instr.mapUpdate t xv iv yv).run P w=.ok () w'∧StT w0 bl E w u E' w':=by
 unfold zda at h;cases hmt:zqN (za P) X t<;>simp only [hmt,reduceCtorEq] at h;rename_i n;cases x<;>simp only [reduceCtorEq] at h;rename_i b m;cases hb:M b<;>simp only [hb,reduceCtorEq] at h;rename_i m' n' es;cases hk:zuK n i<;>simp only [hk,reduceCtorEq] at h;rename_i q;split at h
 case isFalse=>simp at h
 rename_i hn;obtain ⟨rfl,rfl,hcl⟩:=hn;simp only [oJ] at h;subst h;obtain ⟨kt,et,h1,hks⟩:=ziY hX hmt;obtain ⟨rfl,hql⟩:=znW hk hi;obtain ⟨p1,p2,p0,blk,ents,clk,p3,rfl,p4,p5⟩:=zla hb hx hM;have hcy:=hy.to_c hcl;have hget:(getObj blk).run P w=.ok (.map (List.toArray ents) clk) w:=by simp [getObj,Sem.run,p4]
 have hset:∀ o,(setObj blk o).run P w=.ok () { w with heap:=w.heap.setIfInBounds blk o }:=fun o=>by simp [setObj,Sem.run,p4]
 have hfk:=hks.find w _ q es ents hql p5.1;obtain ⟨j1,j2⟩:=zjh hcy hql p5.1;cases hp:zgV es q with
 | none =>
  rw [hp] at hfk;refine ⟨_,_,?_,StT.mapw hI p1 p2 p0 p3 p4 ⟨j1 hp clk,zoH p5.2⟩ (clk':=clk+1)⟩;simp [Instr.mapUpdate,h1,hget,hks.chk w _ q hql,hfk,atV,hset]
 | some j =>
  rw [hp] at hfk;obtain ⟨⟨e,k1,k2⟩,k3⟩:=j2 j hp;refine ⟨_,_,?_,StT.mapw hI p1 p2 p0 p3 p4 ⟨k3,zkx p5.2⟩ (clk':=clk)⟩;have hst:(Instr.keyThatStays (zfb q) (zfb q)).run P w=.ok (zfb q) w:=by simp [Instr.keyThatStays,ziJ]
  simp [Instr.mapUpdate,h1,hget,hks.chk w _ q hql,hfk,atV,hset,k1,k2,hst]
theorem zmE {P:Program} {M:Nat->AO} {t kt:TypeId} {x i:AV} {u:List (Nat×AO)} {w0:World} {bl:Bk} {E:Env} {w:World} {xv iv:Value} {ats:Array TypeId} {ty:TypeId} (h:zdb (za P) M t x i=some u) (hx:Rep E w x xv) (hi:Rep E w i iv) (hM:zai E w M) (hI:Inv w0 bl E w) (ha:ats[0]?=some t) :
  ∃ E' w',(Builtin.delete_ ats ty #[xv,iv]).run P w=.ok (.tuple #[]) w'∧StT w0 bl E w u E' w':=by
 unfold zdb at h;cases hmt:zr4 (za P) t<;>simp only [hmt,reduceCtorEq] at h;rename_i p;obtain ⟨n,z⟩:=p;cases x<;>simp only [reduceCtorEq] at h;rename_i b m;cases hb:M b<;>simp only [hb,reduceCtorEq] at h;rename_i m' n' es;cases hk:zqQ i<;>simp only [hk,reduceCtorEq] at h;rename_i k;split at h
 case isFalse=>simp at h
 rename_i hn;obtain ⟨rfl,rfl⟩:=hn;simp only [oJ] at h;subst h;obtain ⟨rfl,kt,et,h1,h2,h3⟩:=ziX hmt;obtain ⟨q,rfl,rfl⟩:=zf2 hk hi;obtain ⟨p1,p2,p0,blk,ents,clk,p3,rfl,p4,p5⟩:=zla hb hx hM;have hget:(getObj blk).run P w=.ok (.map (List.toArray ents) clk) w:=by simp [getObj,Sem.run,p4]
 have hset:∀ o,(setObj blk o).run P w=.ok () { w with heap:=w.heap.setIfInBounds blk o }:=fun o=>by simp [setObj,Sem.run,p4]
 rcases zlD (q:=q) (i:=0) p5.1 with ⟨j1,j2⟩|⟨j,v,j1,j2⟩
 ·refine ⟨_,_,?_,StT.mapw hI p1 p2 p0 p3 p4 ⟨by rw [j2];exact p5.1,p5.2⟩ (clk':=clk)⟩;simp [Builtin.delete_,ha,h1,hget,zbu (h2 w),Instr.findKey,h2,j1,hset]
 ·refine ⟨_,_,?_,StT.mapw hI p1 p2 p0 p3 p4 ⟨j2,zmy p5.2⟩ (clk':=clk)⟩;simp [Builtin.delete_,ha,h1,hget,zbu (h2 w),Instr.findKey,h2,j1,hset]
theorem zgp {P:Program} {X:AX} {nid:Nat} {t:TypeId} {av:AV} {u:List (Nat×AO)} {w0:World} {bl:Bk} {E:Env} {w:World} (h:zbI (za P) X nid t=some (av,u)) (hI:Inv w0 bl E w) (hnid:¬ E.alive nid) :
  ∃ y E' w',(Instr.makeMap t none).run P w=.ok y w'∧StT w0 bl E w u E' w'∧Rep E' w' av y:=by
 unfold zbI at h;cases hmt:zqN (za P) X t<;>simp only [hmt,reduceCtorEq,oJ,pJ] at h;rename_i n;obtain ⟨rfl,rfl⟩:=h;refine ⟨.map (some w.heap.size),E.upd nid 1 (some (w.heap.size,0,0)),w.alloc (.map #[] 0),rfl,?_,?_⟩
 ·refine StT.one hI nid (.map 1 n []) 1 _ (fun hh=>absurd hh hnid) (fun blk' base sz e=>?_) (by simp) rfl rfl (fun k hk _=>heap_alloc_old w _ k hk) ?_
  ·simp only [oJ,pJ] at e;exact .inr ⟨by omega,by simp;omega⟩
  ·simp only [ObR,Env.upd,if_true];exact ⟨trivial,Nat.le_refl _,w.heap.size,[],0,rfl,heap_alloc_new w _,by simp [CEnts],by simp [ze8]⟩
 ·simp only [Rep];exact ⟨.inr rfl,Nat.le_refl _,by simp [Env.upd],w.heap.size,rfl,fun _=>by simp [Env.upd]⟩
theorem zjz {P:Program} {X:AX} (hX:XOK P X) {nid:Nat} {t:TypeId} {av:AV} {u:List (Nat×AO)} {w0:World} {bl:Bk} {E:Env} {w:World} {k:IntKind} {a:Int} (h:zbI (za P) X nid t=some (av,u)) (hI:Inv w0 bl E w) (hnid:¬ E.alive nid) :
  ∃ y E' w',(Instr.makeMap t (some (.int k a))).run P w=.ok y w'∧StT w0 bl E w u E' w'∧Rep E' w' av y:=by obtain ⟨y,E',w',q1,q2,q3⟩:=zgp h hI hnid;unfold zbI at h;cases hmt:zqN (za P) X t<;>simp only [hmt,reduceCtorEq] at h;obtain ⟨kt,et,hu,_⟩:=ziY hX hmt;refine ⟨y,E',w',?_,q2,q3⟩;rw [<- q1];simp [Instr.makeMap,hu,asInt,asIntOf]
def zn9:AV->Bool
 | .v (.int _ _)=>true
 | _=>false
def zn (l:List (Nat×AV)) (t:Nat):AV :=
 match l with
 | []=>.any
 | (k,a)::r=>if k=t then a else zn r t
def aEv (l:List (Nat×AV)):Operand->AV
 | .tmp t=>zn l t
 | .const v=>.v v
 | .func f=>.fn f []
 | .global _=>.any
def zbQ (a:Option AV):Option (AV×List (Nat×AO)):=a.map fun x=>(x,[])
def zdc (T:TypeId->Option TD) (X:AX) (c:Call) (ev:Operand->AV) (M:Nat->AO) (nid:Nat):Option (AV×List (Nat×AO)) :=
 match c.callee with
 | .value f=>match ev f with
  | .fn g caps=>X.call g (c.args.toList.map ev++caps) M nid
  | _=>none
 | .builtin b=>match b,c.args.toList,c.argTypes.toList with
  | .len,[x],t::_=>zbQ (zii T X M t (ev x))
  | .append,[x,y],[t,u]=>ztF T M nid t u (ev x) (ev y)
  | .cap,[x],t::_=>zbQ (zwB T M t (ev x))
  | .copy,[x,y],[t,_]=>zmH T M t (ev x) (ev y)
  | .clear,[x],[t]=>zhk T M t (ev x)
  | .delete,[x,y],[t,_]=>(zdb T M t (ev x) (ev y)).map fun u=>(.v (.tuple #[]),u)
  | .min,[x,y],_=>zbQ (zd6 false [ev x,ev y])
  | .max,[x,y],_=>zbQ (zd6 true [ev x,ev y])
  | _,_,_=>none
 | _=>none
def zav (T:TypeId->Option TD) (X:AX) (op:Op) (ev:Operand->AV) (M:Nat->AO) (nid:Nat):Option (AV×List (Nat×AO)) :=
 match op with
 | .move x|.assign x=>some (ev x,[])
 | .pick c a b=>match ev c with
  | .v (.bool t)=>some (if t then ev a else ev b,[])
  | _=>none
 | .extract t i=>match ev t with
  | .tup cs=>match cs[i]? with
   | some a=>some (a,[])
   | none=>none
  | _=>none
 | .nilCheck x=>match ev x with
  | .bp b o=>some (.bp b o,[])
  | .ep b m s i j=>some (.ep b m s i j,[])
  | .rp cs=>some (.rp cs,[])
  | .fn f cs=>some (.fn f cs,[])
  | _=>none
 | .binOp op t x y _=>zbQ (zwC T X op t (ev x) (ev y))
 | .unOp op _ x=>zbQ (aUn op (ev x))
 | .convert s d x=>zbQ (zqn T s d (ev x))
 | .alloc t=>zjB T nid t
 | .box _ x=>zvZ nid (ev x)
 | .build t parts=>zbQ (zlZ T t (parts.toList.map fun p=>(p.1,ev p.2)))
 | .buildSlice t n parts=>zbO T nid t n (parts.toList.map fun p=>(p.1,ev p.2))
 | .makeSlice t l c=>zco T nid t (ev l) (ev c)
 | .load t a=>zbQ (zoU T M t (ev a))
 | .store t a x=>(zgn T M t (ev a) (ev x)).map fun u=>(.any,u)
 | .fieldAddr t x f=>zbQ (zdy T t (ev x) f)
 | .field t x f=>zbQ (zlY T t (ev x) f)
 | .indexAddr t x i=>zbQ (zdx T t (ev x) (ev i))
 | .index t x i=>zbQ (zlX T t (ev x) (ev i))
 | .slice t x lo hi none=>zbQ (zgo T M t (ev x) (lo.map ev) (hi.map ev))
 | .slice t x lo (some hi) (some mx)=>zbQ (zie T t (ev x) (lo.map ev) (ev hi) (ev mx))
 | .makeInterface t x=>match T t with
  | some d=>if d.k.isOther=true then none else some (.ifc t [ev x],[])
  | none=>none
 | .makeFunc (.func f) first caps=>if first.size=0 then some (.fn f (caps.toList.map ev),[]) else none
 | .call c=>zdc T X c ev M nid
 | .makeMap t none=>zbI T X nid t
 | .makeMap t (some r)=>if zn9 (ev r)=true then zbI T X nid t else none
 | .lookup t x i c=>zbQ (zih T M t (ev x) (ev i) c)
 | .mapUpdate t x i y=>(zda T X M t (ev x) (ev i) (ev y)).map fun u=>(.any,u)
 | _=>none
theorem pRs {a:Option AV} {av:AV} {u:List (Nat×AO)} (h:zbQ a=some (av,u)):a=some av∧u=[]:=by unfold zbQ at h;cases a<;>simp at h;simp [h.1,h.2]
section
variable {P:Program} {X:AX} {w0:World} {bl:Bk} {E:Env} {w:World} {a:Act} {o:Oper} {next:Act->World->Prop} {Q:Exit->Act->World->Prop}
theorem zaw {s:Sem Value} {x:Value} {w':World} (hs:execOp a.eval o=(do pure (.value (<- s)))) (hr:s.run P w=.ok x w') (h:next (a.put o.dst x) w'):o.wp P a w next Q:=by unfold Oper.wp;rw [hs];simp only [Sem.run_bind,hr,Result.andThen_ok,Sem.run_pure];exact h
theorem zeh {ev:Operand->AV} {ρ:Operand->Value} (h:∀ x,Rep E w (ev x) (ρ x)):∀ l:List Operand,RepL E w (l.map ev) (l.map ρ)
 | []=>by simp [RepL]
 | x::r=>by simp only [List.map_cons,RepL];exact ⟨h x,zeh h r⟩
theorem zhA {ev:Operand->AV} {ρ:Operand->Value} (h:∀ x,Rep E w (ev x) (ρ x)):∀ l:List (Nat×Operand),zl1 E w (l.map fun p=>(p.1,ev p.2)) (l.map fun p=>(p.1,ρ p.2))
 | []=>by simp [zl1]
 | x::r=>by simp only [List.map_cons,zl1];exact ⟨trivial,h x.2,zhA h r⟩
theorem zps (hX:XOK P X) {ev:Operand->AV} {M:Nat->AO} {nid:Nat} {av:AV} {u:List (Nat×AO)} (h:zav (za P) X o.op ev M nid=some (av,u))
  (hr:∀ x,Rep E w (ev x) (a.eval x)) (hM:zai E w M) (hI:Inv w0 bl E w) (hnid:∀ k,nid<=k->k<nid+16->¬ E.alive k)
  (hn:∀ x E' w',StT w0 bl E w u E' w'->Rep E' w' av x->next (a.put o.dst x) w'):o.wp P a w next Q:=by
 have hnid0:=hnid nid (Nat.le_refl _) (by omega);have stay:∀ x,u=[]->Rep E w av x->next (a.put o.dst x) w:=fun x hu hx=>by subst hu;exact hn x E w (StT.refl hI rfl rfl rfl) hx
 obtain ⟨dst,op,type,pos,after,guard⟩:=o;cases op<;>simp only [zav,reduceCtorEq] at h
 case move x =>simp only [oJ,pJ] at h;exact stay _ h.2.symm (h.1 ▸ hr x)
 case assign x =>simp only [oJ,pJ] at h;exact stay _ h.2.symm (h.1 ▸ hr x)
 case pick c x y =>
  have hc:=hr c;cases hev:ev c<;>simp only [hev,reduceCtorEq] at h;rename_i v;cases v<;>simp only [reduceCtorEq] at h;rename_i t;rw [hev] at hc;simp only [Rep,zd] at hc;simp only [oJ,pJ] at h;obtain ⟨rfl,rfl⟩:=h;refine (show Oper.wp P _ a w next Q from ?_);unfold Oper.wp;simp only [execOp,hc,asBool,Sem.run_bind,Sem.run_pure,Result.andThen_ok];refine stay _ rfl ?_;cases t
  ·exact hr y
  ·exact hr x
 case extract t i =>have hc:=hr t;cases hev:ev t<;>simp only [hev,reduceCtorEq] at h;rename_i cs;cases hi:cs[i]?<;>simp only [hi,reduceCtorEq] at h;simp only [oJ,pJ] at h;obtain ⟨rfl,rfl⟩:=h;rw [hev] at hc;simp only [Rep] at hc;obtain ⟨vs,hv,k2⟩:=hc;obtain ⟨y,q1,q2⟩:=k2.get hi;exact zaw (s:=Instr.extract (a.eval t) i) (x:=y) (w':=w) rfl (by rw [hv];simp [Instr.extract,q1]) (stay _ rfl q2)
 case nilCheck x =>
  have hc:=hr x;unfold Oper.wp;cases hev:ev x<;>simp only [hev,reduceCtorEq] at h
  all_goals
   simp only [oJ,pJ] at h;obtain ⟨rfl,rfl⟩:=h;rw [hev] at hc
  ·simp only [Rep,zd] at hc;obtain ⟨blk,off,hv,k⟩:=hc;simp only [execOp,hv];refine stay _ rfl ?_;simp only [Rep,zd];exact ⟨blk,off,rfl,k⟩
  ·simp only [Rep] at hc;obtain ⟨k1,k2,blk,sz,k3,hv⟩:=hc;simp only [execOp,hv];refine stay _ rfl ?_;simp only [Rep];exact ⟨k1,k2,blk,sz,k3,rfl⟩
  ·simp only [Rep] at hc;obtain ⟨k1,k2,k3,ad,hv,k4⟩:=hc;simp only [execOp,hv];refine stay _ rfl ?_;simp only [Rep];exact ⟨k1,k2,k3,ad,rfl,k4⟩
  ·simp only [Rep] at hc;obtain ⟨vs,hv,k⟩:=hc;simp only [execOp,hv];refine stay _ rfl ?_;simp only [Rep];exact ⟨vs,rfl,k⟩
 case binOp op t x y yt =>obtain ⟨h1,rfl⟩:=pRs h;obtain ⟨z,q1,q2⟩:=zsZ hX (ox:=x) (oy:=y) h1 (hr x) (hr y);exact zaw rfl q1 (stay _ rfl q2)
 case unOp op t x =>obtain ⟨h1,rfl⟩:=pRs h;obtain ⟨z,q1,q2⟩:=zvY (P:=P) h1 (hr x);exact zaw rfl q1 (stay _ rfl q2)
 case convert s d x =>obtain ⟨h1,rfl⟩:=pRs h;obtain ⟨z,q1,q2⟩:=zqm h1 (hr x);exact zaw rfl q1 (stay _ rfl q2)
 case alloc t =>obtain ⟨y,E',w',q1,q2,q3⟩:=zo0 h hI hnid0 (.tuple #[]);exact zaw rfl q1 (hn _ _ _ q2 q3)
 case box t x =>obtain ⟨y,E',w',q1,q2,q3⟩:=zsY (P:=P) (t:=t) h (hr x) hI hnid0;exact zaw rfl q1 (hn _ _ _ q2 q3)
 case build t parts =>obtain ⟨h1,rfl⟩:=pRs h;obtain ⟨z,q1,q2⟩:=zoZ (pv:=parts.map fun p=>(p.1,a.eval p.2)) h1 (by simpa using zhA hr parts.toList);exact zaw rfl q1 (stay _ rfl q2)
 case buildSlice t n parts =>obtain ⟨y,E',w',q1,q2,q3⟩:=zgI (pv:=parts.map fun p=>(p.1,a.eval p.2)) h (by simpa using zhA hr parts.toList) hI hnid0;exact zaw rfl q1 (hn _ _ _ q2 q3)
 case makeSlice t l c =>obtain ⟨y,E',w',q1,q2,q3⟩:=zig h (hr l) (hr c) hI hnid0;exact zaw rfl q1 (hn _ _ _ q2 q3)
 case load t x =>obtain ⟨h1,rfl⟩:=pRs h;obtain ⟨z,q1,q2⟩:=zlV h1 (hr x) hM;exact zaw rfl q1 (stay _ rfl q2)
 case store t x y =>cases hs:zgn (za P) M t (ev x) (ev y)<;>simp only [hs,Option.map_none,Option.map_some,reduceCtorEq,oJ,pJ] at h;obtain ⟨rfl,rfl⟩:=h;obtain ⟨E',w',q1,q2⟩:=zoQ hs (hr x) (hr y) hM hI;unfold Oper.wp;simp only [execOp,Sem.run_bind,q1,Result.andThen_ok,Sem.run_pure];exact hn _ _ _ q2 (by simp [Rep,zd])
 case fieldAddr t x f =>obtain ⟨h1,rfl⟩:=pRs h;obtain ⟨z,q1,q2⟩:=zim h1 (hr x);exact zaw rfl q1 (stay _ rfl q2)
 case field t x f =>obtain ⟨h1,rfl⟩:=pRs h;obtain ⟨z,q1,q2⟩:=zoW h1 (hr x);exact zaw rfl q1 (stay _ rfl q2)
 case indexAddr t x i =>obtain ⟨h1,rfl⟩:=pRs h;obtain ⟨z,q1,q2⟩:=zij h1 (hr x) (hr i);exact zaw rfl q1 (stay _ rfl q2)
 case index t x i =>obtain ⟨h1,rfl⟩:=pRs h;obtain ⟨z,q1,q2⟩:=zoV h1 (hr x) (hr i);exact zaw rfl q1 (stay _ rfl q2)
 case slice t x lo hi mx =>
  cases mx with
  | none =>
   simp only at h;obtain ⟨h1,rfl⟩:=pRs h;obtain ⟨z,q1,q2⟩:=zoR (vl:=lo.map a.eval) (vh:=hi.map a.eval) h1 (hr x) (by cases lo<;>simp [zjD];exact hr _) (by cases hi<;>simp [zjD];exact hr _) hM;exact zaw rfl q1 (stay _ rfl q2)
  | some mx =>
   cases hi with
   | none=>simp at h
   | some hi =>simp only at h;obtain ⟨h1,rfl⟩:=pRs h;obtain ⟨z,q1,q2⟩:=zmC (vl:=lo.map a.eval) h1 (hr x) (by cases lo<;>simp [zjD];exact hr _) (hr hi) (hr mx);exact zaw rfl q1 (stay _ rfl q2)
 case makeInterface t x =>
  split at h
  case h_2=>simp at h
  rename_i d hd;split at h
  case isTrue=>simp at h
  rename_i ho;simp only [oJ,pJ] at h;obtain ⟨rfl,rfl⟩:=h;have hrun:(Instr.makeInterface t (a.eval x)).run P w=.ok (.iface t (a.eval x)) w:=by obtain ⟨u,h1,h2⟩:=znf (w:=w) hd;unfold Instr.makeInterface;rw [Sem.run_bind,h1];rw [h2] at ho;cases u<;>first|rfl|(exact absurd rfl ho)
  refine zaw (s:=Instr.makeInterface _ (a.eval x)) rfl hrun (stay _ rfl ?_);simp only [Rep];exact ⟨_,rfl,by simp only [RepL];exact ⟨hr x,trivial⟩⟩
 case makeFunc fn first caps =>
  cases fn<;>simp only [reduceCtorEq] at h;split at h
  case isFalse=>simp at h
  rename_i hf;simp only [oJ,pJ] at h;obtain ⟨rfl,rfl⟩:=h;refine zaw (s:=Instr.makeFunc _ (first.map a.eval) (caps.map a.eval)) rfl rfl (stay _ rfl ?_);simp only [Rep];refine ⟨caps.toList.map a.eval,?_,zeh hr _⟩;have:first=#[]:=by simpa using hf
  subst this;simp;rw [<- Array.toList_map]
 case makeMap t r =>
  cases r with
  | none =>
   obtain ⟨y,E',w',q1,q2,q3⟩:=zgp h hI hnid0;exact zaw rfl q1 (hn _ _ _ q2 q3)
  | some r =>
   simp only at h;split at h
   case isFalse=>simp at h
   rename_i hh;have hrr:=hr r;cases hev:ev r<;>simp only [hev,zn9,Bool.false_eq_true] at hh;rename_i x;cases x<;>simp only [Bool.false_eq_true] at hh;rw [hev] at hrr;simp only [Rep,zd] at hrr;obtain ⟨y,E',w',q1,q2,q3⟩:=zjz hX h hI hnid0;exact zaw (s:=Instr.makeMap t (some (a.eval r))) rfl (by rw [hrr];exact q1) (hn _ _ _ q2 q3)
 case lookup t x i c =>obtain ⟨h1,rfl⟩:=pRs h;obtain ⟨z,q1,q2⟩:=zmF h1 (hr x) (hr i) hM;exact zaw rfl q1 (stay _ rfl q2)
 case mapUpdate t x i y =>cases hs:zda (za P) X M t (ev x) (ev i) (ev y)<;>simp only [hs,Option.map_none,Option.map_some,reduceCtorEq,oJ,pJ] at h;obtain ⟨rfl,rfl⟩:=h;obtain ⟨E',w',q1,q2⟩:=zmD hX hs (hr x) (hr i) (hr y) hM hI;unfold Oper.wp;simp only [execOp,Sem.run_bind,q1,Result.andThen_ok,Sem.run_pure];exact hn _ _ _ q2 (by simp [Rep,zd])
 case call c =>
  unfold zdc at h;obtain ⟨callee,args,argTypes⟩:=c;cases callee<;>simp only [reduceCtorEq] at h
  case value f =>
   have hf:=hr f;cases hev:ev f<;>simp only [hev,reduceCtorEq] at h;rename_i g caps;rw [hev] at hf;simp only [Rep] at hf;obtain ⟨vs,hv,k2⟩:=hf;have hargs:=(zeh hr args.toList).append k2;rcases hX.calls g _ _ _ _ h with ⟨hco,fn,b1,b2,b3⟩|hxo
   ·have hc:=hco _ _ _ _ _ h w0 bl E w (args.map a.eval++vs.toArray) (by simpa using hargs) hM hI hnid;have hb:fn.body.isNone=false:=by cases hh:fn.body<;>simp [hh] at b2 ⊢
    unfold Oper.wp;simp only [execOp,resolve,hv,Deferred.ofValue,Sem.run_bind,Sem.run_pure,Result.andThen_ok,invoke,callFunc,run_program,b1,b3,hb,Bool.false_eq_true,if_false,Array.empty_append];exact Calls.mono hc fun e w' ⟨x,E',he,hst,hrep⟩=>by subst he;exact hn x E' w' hst hrep
   ·obtain ⟨hu,hrun⟩:=hxo _ _ _ _ _ h;obtain ⟨x,w',q1,q2,q3,q4,q5⟩:=hrun w0 bl E w (args.map a.eval++vs.toArray) (by simpa using hargs) hM hI;subst hu;unfold Oper.wp;simp only [execOp,resolve,hv,Deferred.ofValue,Sem.run_bind,Sem.run_pure,Result.andThen_ok,invoke,Array.empty_append,q1];have st:=StT.refl hI q2 q3 q4;exact hn x E w' st (st.rep hI q5)
  case builtin b =>
   have htl:args.map a.eval=(args.toList.map a.eval).toArray:=by rw [<- Array.toList_map]
   split at h<;>(try (simp at h;done))
   ·rename_i x t ts heq1 heq2;obtain ⟨h1,rfl⟩:=pRs h;have ha:argTypes[0]?=some t:=by rw [<- Array.getElem?_toList,heq2];rfl
    obtain ⟨z,q1,q2⟩:=zqi (P:=P) (ats:=argTypes) (ty:=type) h1 (hr x) hM ha;refine zaw (s:=Builtin.len_ argTypes type (args.map a.eval)) rfl ?_ (stay _ rfl q2);rw [htl,heq1];exact q1
   ·rename_i x y t u' heq1 heq2;obtain ⟨z,E',w',q1,q2,q3⟩:=zs0 h (hr x) (hr y) hM hI hnid0 type;refine zaw (s:=Builtin.append_ argTypes type (args.map a.eval)) rfl ?_ (hn _ _ _ q2 q3);rw [htl,heq1,show argTypes=#[t,u'] from by rw [<- Array.toArray_toList (xs:=argTypes),heq2]];exact q1
   ·rename_i x t ts heq1 heq2;obtain ⟨h1,rfl⟩:=pRs h;have ha:argTypes[0]?=some t:=by rw [<- Array.getElem?_toList,heq2];rfl
    obtain ⟨z,q1,q2⟩:=zsX (P:=P) (ats:=argTypes) (ty:=type) h1 (hr x) hM ha;refine zaw (s:=Builtin.cap_ argTypes type (args.map a.eval)) rfl ?_ (stay _ rfl q2);rw [htl,heq1];exact q1
   ·rename_i x y t u' heq1 heq2;obtain ⟨z,E',w',q1,q2,q3⟩:=zql (t':=u') h (hr x) (hr y) hM hI type;refine zaw (s:=Builtin.copy_ argTypes type (args.map a.eval)) rfl ?_ (hn _ _ _ q2 q3);rw [htl,heq1,show argTypes=#[t,u'] from by rw [<- Array.toArray_toList (xs:=argTypes),heq2]];exact q1
   ·rename_i x t heq1 heq2;obtain ⟨z,E',w',q1,q2,q3⟩:=zoY h (hr x) hM hI type;refine zaw (s:=Builtin.clear_ argTypes type (args.map a.eval)) rfl ?_ (hn _ _ _ q2 q3);rw [htl,heq1,show argTypes=#[t] from by rw [<- Array.toArray_toList (xs:=argTypes),heq2]];exact q1
   ·rename_i x y t u' heq1 heq2;cases hs:zdb (za P) M t (ev x) (ev y)<;>simp only [hs,Option.map_none,Option.map_some,reduceCtorEq,oJ,pJ] at h;obtain ⟨rfl,rfl⟩:=h;have ha:argTypes[0]?=some t:=by rw [<- Array.getElem?_toList,heq2];rfl
    obtain ⟨E',w',q1,q2⟩:=zmE (kt:=u') (ats:=argTypes) (ty:=type) hs (hr x) (hr y) hM hI ha;refine zaw (s:=Builtin.delete_ argTypes type (args.map a.eval)) (x:=.tuple #[]) rfl ?_ (hn _ _ _ q2 (by simp [Rep,zd]));rw [htl,heq1];exact q1
   ·rename_i x y heq1;obtain ⟨h1,rfl⟩:=pRs h;obtain ⟨z,q1,q2⟩:=zsU (P:=P) (vs:=[a.eval x,a.eval y]) (ats:=argTypes) (ty:=type) h1 (by simp only [RepL];exact ⟨hr x,hr y,trivial⟩);refine zaw (s:=Builtin.min_ argTypes type (args.map a.eval)) rfl ?_ (stay _ rfl q2);rw [htl,heq1];exact q1
   ·rename_i x y heq1;obtain ⟨h1,rfl⟩:=pRs h;obtain ⟨z,q1,q2⟩:=zsV (P:=P) (vs:=[a.eval x,a.eval y]) (ats:=argTypes) (ty:=type) h1 (by simp only [RepL];exact ⟨hr x,hr y,trivial⟩);refine zaw (s:=Builtin.max_ argTypes type (args.map a.eval)) rfl ?_ (stay _ rfl q2);rw [htl,heq1];exact q1
end
end Go.AM
