/- A part of the proof: what functions of the program compute, by abstract execution of their code. Its theorems hold without further condition. -/
import Derived.Test.YtcfhmdljeeppfaaAmH
import GoSem.Instr.Lookup
import GoSem.Instr.MapUpdate
import GoSem.Instr.MakeMap
import GoSem.Builtin.Delete
set_option linter.all false
namespace Go.AM
open Go
def mget:List (List Int×AV)→List Int→Option AV
 | [],_=>none
 | (k,a)::r,q=>if q=k then some a else mget r q
def mset:List (List Int×AV)→List Int→AV→List (List Int×AV)
 | [],q,b=>[(q,b)]
 | (k,a)::r,q,b=>if q=k then (q,b)::r else (k,a)::mset r q b
def mdel:List (List Int×AV)→List Int→List (List Int×AV)
 | [],_=>[]
 | (k,a)::r,q=>if q=k then r else (k,a)::mdel r q
def keyA:AV→Option (List Int)
 | .v (.int .i64 k)=>some [k]
 | _=>none
def zA:Value→Option AV
 | .agg cs=>if cs.toList.all Value.oneCell'=true then some (.agg (cs.toList.map .v)) else none
 | .tuple _=>none
 | x=>some (.v x)
def mapT (T:TypeId→Option TD) (t:TypeId):Option (Nat×Option Value) :=
 match T t with
 | some d=>match d.k with
  | .map kt _ z=>match T kt with
   | some dk=>match dk.k with
    | .int .i64=>some (1,z)
    | _=>none
   | none=>none
  | _=>none
 | none=>none
def entsOf (M:Nat→AO) (n:Nat):AV→Option (List (List Int×AV))
 | .mp b m=>match M b with
  | .map m' n' es=>if m=m'∧n=n' then some es else none
  | _=>none
 | .rm n' es=>if n=n' then some es else none
 | _=>none
def isI64:Value→Bool
 | .int .i64 _=>true
 | _=>false
def mapK (T:TypeId→Option TD) (X:AX) (t:TypeId):Option Nat :=
 match T t with
 | some d=>match d.k with
  | .map kt _ _=>match T kt with
   | some dk=>match dk.k with
    | .int .i64=>some 1
    | .struct _=>if X.eqs kt=true∧2≤dk.zero.length∧dk.zero.all isI64=true then some dk.zero.length else none
    | _=>none
   | none=>none
  | _=>none
 | none=>none
def intsOf:List AV→Option (List Int)
 | []=>some []
 | .v (.int .i64 k)::r=>(intsOf r).map (k::·)
 | _=>none
def keyB (n:Nat) (i:AV):Option (List Int) :=
 if n=1 then keyA i else match i with
  | .agg cs=>if cs.length=n then intsOf cs else none
  | _=>none
def aMakeMap (T:TypeId→Option TD) (X:AX) (nid:Nat) (t:TypeId):Option (AV×List (Nat×AO)) :=
 match mapK T X t with
 | some n=>some (.mp nid 1,[(nid,.map 1 n [])])
 | none=>none
def okTup (commaOk:Bool) (a:AV) (ok:Bool):AV:=if commaOk then .tup [a,.v (.bool ok)] else a
def mgetZ (commaOk:Bool) (z:AV):Option AV→AV
 | some a=>okTup commaOk a true
 | none=>okTup commaOk z false
def aLookup (T:TypeId→Option TD) (M:Nat→AO) (t:TypeId) (x i:AV) (commaOk:Bool):Option AV :=
 match mapT T t with
 | some (n,some zv)=>match zA zv,entsOf M n x,keyA i with
  | some z,some es,some k=>some (mgetZ commaOk z (mget es k))
  | _,_,_=>none
 | _=>none
def aMapSet (T:TypeId→Option TD) (X:AX) (M:Nat→AO) (t:TypeId) (x i y:AV):Option (List (Nat×AO)) :=
 match mapK T X t with
 | some n=>match x with
  | .mp b m=>match M b with
   | .map m' n' es=>match keyB n i with
    | some k=>if m=m'∧n=n'∧y.isClosed=true then some [(b,.map m n (mset es k y))] else none
    | none=>none
   | _=>none
  | _=>none
 | none=>none
def aMapDel (T:TypeId→Option TD) (M:Nat→AO) (t:TypeId) (x i:AV):Option (List (Nat×AO)) :=
 match mapT T t with
 | some (n,_)=>match x with
  | .mp b m=>match M b with
   | .map m' n' es=>match keyA i with
    | some k=>if m=m'∧n=n' then some [(b,.map m n (mdel es k))] else none
    | none=>none
   | _=>none
  | _=>none
 | none=>none
theorem und_map {P:Program} {w:World} {t:TypeId} {d:TD} {k e:TypeId} {z:Option Value} (h:Types P t=some d) (hk:d.k=.map k e z):(underlying t).run P w=.ok (.map k e) w∧z=(P.info? e).bind (·.zero):=by
 obtain ⟨u,i,z',h1,h2,h3,rfl⟩:=types_spec h
 rw [run_underlying h1 w]
 cases u<;>simp only [tkOf,reduceCtorEq] at hk<;>(try (split at hk<;>simp at hk;done))
 simp only [TK.map.injEq] at hk
 obtain ⟨rfl,rfl,rfl⟩:=hk
 exact ⟨rfl,rfl⟩
theorem mapT_spec {P:Program} {t:TypeId} {n:Nat} {z:Option Value} (h:mapT (Types P) t=some (n,z)):n=1∧∃ kt et,(∀ w,(underlying t).run P w=.ok (.map kt et) w)∧(∀ w,(underlying kt).run P w=.ok (.int .i64) w)∧∀ zv,z=some zv→∀ w,(zeroValue et).run P w=.ok zv w:=by
 unfold mapT at h
 cases ht:Types P t<;>simp only [ht,reduceCtorEq] at h
 rename_i d
 cases hk:d.k<;>simp only [hk,reduceCtorEq] at h
 rename_i kt e z'
 cases hkt:Types P kt<;>simp only [hkt,reduceCtorEq] at h
 rename_i dk
 cases hkk:dk.k<;>simp only [hkk,reduceCtorEq] at h
 rename_i ik
 cases ik<;>simp only [reduceCtorEq,Option.some.injEq,Prod.mk.injEq] at h
 obtain ⟨rfl,rfl⟩:=h
 refine ⟨rfl,kt,e,fun w=>(und_map ht hk).1,fun w=>und_int hkt hkk,fun zv hz w=>?_⟩
 have hzz:=(und_map (w:=w) ht hk).2
 rw [hz] at hzz
 cases hi:P.info? e<;>simp only [hi,Option.bind_none,Option.bind_some,reduceCtorEq] at hzz
 rename_i i
 simp [zeroValue,run_typeInfo w hi,← hzz]
theorem keyA_spec {E:Env} {w:World} {i:AV} {k:List Int} {x:Value} (h:keyA i=some k) (hr:Rep E w i x):∃ q,k=[q]∧x=.int .i64 q:=by
 unfold keyA at h
 split at h<;>simp only [Option.some.injEq,reduceCtorEq] at h
 rename_i q
 simp only [Rep,CRep] at hr
 exact ⟨q,h.symm,hr⟩
theorem zA_rep {zv:Value} {z:AV} (h:zA zv=some z) (E:Env) (w:World):Rep E w z zv:=by
 unfold zA at h
 split at h
 ·split at h
  ·rename_i hall
   simp only [Option.some.injEq] at h
   subst h
   simp only [Rep]
   exact ⟨_,by simp,by rw [List.all_eq_true] at hall;exact hall,repL_v⟩
  ·simp at h
 ·simp at h
 ·simp only [Option.some.injEq] at h
  subst h
  simp only [Rep,CRep]
theorem findNow_get {w:World} {G:Nat→Prop} {q:Int}:∀ {es:List (List Int×AV)} {xs:List MapEntry} {i:Nat},CEnts w G 1 es xs →
  (mget es [q]=none∧Instr.findNow (.int .i64) (.int .i64 q) xs i=some none) ∨
  ∃ a j v e,mget es [q]=some a∧Instr.findNow (.int .i64) (.int .i64 q) xs i=some (some (i+j,v))∧xs[j]?=some e∧e.val=v∧e.key=.int .i64 q∧CRep w G a v
 | [],[],i,_=>.inl ⟨rfl,rfl⟩
 | (k,a)::r,e::s,i,h=>by
  simp only [CEnts] at h
  obtain ⟨⟨h1,h2⟩,h3,h4⟩:=h
  obtain ⟨n,rfl⟩:∃ n,k=[n]:=by
   match k,h1 with
   | [n],_=>exact ⟨n,rfl⟩
  simp only [keyV] at h2
  by_cases hq:q=n
  ·subst hq
   exact .inr ⟨a,0,e.val,e,by simp [mget],by simp [Instr.findNow,h2,Instr.sameNow],by simp,rfl,h2,h3⟩
  ·have hqn:(q == n)=false:=by simpa using hq
   rcases findNow_get (q:=q) (i:=i+1) h4 with ⟨k1,k2⟩|⟨a',j,v,e',k1,k2,k3,k4,k5,k6⟩
   ·exact .inl ⟨by simp [mget,hq,k1],by simp [Instr.findNow,h2,Instr.sameNow,hqn,k2]⟩
   ·refine .inr ⟨a',j+1,v,e',by simp [mget,hq,k1],?_,by simpa using k3,k4,k5,k6⟩
    simp [Instr.findNow,h2,Instr.sameNow,hqn,k2,Nat.add_assoc,Nat.add_comm 1 j]
 | [],_::_,_,h=>by simp [CEnts] at h
 | _::_,[],_,h=>by simp [CEnts] at h
theorem run_findKey {P:Program} {w:World} {G:Nat→Prop} {kt:TypeId} {q:Int} {es:List (List Int×AV)} {xs:List MapEntry} (hk:(underlying kt).run P w=.ok (.int .i64) w) (h:CEnts w G 1 es xs) :
  (mget es [q]=none∧(Instr.findKey kt (.int .i64 q) xs).run P w=.ok none w) ∨
  ∃ a j v e,mget es [q]=some a∧(Instr.findKey kt (.int .i64 q) xs).run P w=.ok (some (j,v)) w∧xs[j]?=some e∧e.val=v∧e.key=.int .i64 q∧CRep w G a v:=by
 rcases findNow_get (q:=q) (i:=0) h with ⟨k1,k2⟩|⟨a,j,v,e,k1,k2,k3⟩
 ·exact .inl ⟨k1,by simp [Instr.findKey,hk,k2]⟩
 ·exact .inr ⟨a,j,v,e,k1,by simp [Instr.findKey,hk,k2],k3⟩
theorem run_checkKey {P:Program} {w:World} {kt:TypeId} {q:Int} {b:Bool} (hk:(underlying kt).run P w=.ok (.int .i64) w):(Instr.checkKey b 10000 kt (.int .i64 q)).run P w=.ok () w:=by
 rw [show (10000:Nat)=9999+1 from rfl,Instr.checkKey]
 simp [hk]
theorem entsOf_ok {M:Nat→AO} {n:Nat} {x:AV} {es:List (List Int×AV)} {E:Env} {w:World} {xv:Value} (h:entsOf M n x=some es) (hr:Rep E w x xv) (hM:MemOK E w M) :
  ∃ blk ents clk,xv=.map (some blk)∧w.heap[blk]?=some (.map (List.toArray ents) clk)∧CEnts w E.G n es ents:=by
 unfold entsOf at h
 split at h
 ·rename_i b m
  simp only [Rep] at hr
  obtain ⟨h1,h2,_,blk,rfl,h3⟩:=hr
  have ho:=hM b h1
  cases hb:M b<;>simp only [hb,reduceCtorEq] at h ho
  rename_i m' n' es'
  split at h
  case isFalse=>simp at h
  rename_i hn
  obtain ⟨rfl,rfl⟩:=hn
  simp only [Option.some.injEq] at h
  subst h
  simp only [ObjRep] at ho
  obtain ⟨hv,_,blk',ents,clk,k1,k2,k3⟩:=ho
  have h3:=h3 hv.symm
  rw [h3] at k1
  simp only [Option.some.injEq,Prod.mk.injEq,and_true] at k1
  subst k1
  exact ⟨blk,ents,clk,rfl,k2,k3.1⟩
 ·split at h
  case isFalse=>simp at h
  rename_i hn
  subst hn
  simp only [Option.some.injEq] at h
  subst h
  simp only [Rep,CRep] at hr
  obtain ⟨blk,ents,clk,k1,k2,k3,k4⟩:=hr
  exact ⟨blk,ents,clk,k1,k3,k4⟩
 ·simp at h
theorem aLookup_ok {P:Program} {M:Nat→AO} {t:TypeId} {x i av:AV} {c:Bool} {E:Env} {w:World} {xv iv:Value} (h:aLookup (Types P) M t x i c=some av) (hx:Rep E w x xv) (hi:Rep E w i iv) (hM:MemOK E w M) :
  ∃ y,(Instr.lookup t xv iv c).run P w=.ok y w∧Rep E w av y:=by
 unfold aLookup at h
 cases hmt:mapT (Types P) t<;>simp only [hmt,reduceCtorEq] at h
 rename_i p
 obtain ⟨n,z⟩:=p
 cases z<;>simp only [reduceCtorEq] at h
 rename_i zv
 cases hz:zA zv<;>simp only [hz,reduceCtorEq] at h
 rename_i z
 cases he:entsOf M n x<;>simp only [he,reduceCtorEq] at h
 rename_i es
 cases hk:keyA i<;>simp only [hk,reduceCtorEq,Option.some.injEq] at h
 rename_i k
 subst h
 obtain ⟨rfl,kt,et,h1,h2,h3⟩:=mapT_spec hmt
 obtain ⟨q,rfl,rfl⟩:=keyA_spec hk hi
 obtain ⟨blk,ents,clk,rfl,k2,k3⟩:=entsOf_ok he hx hM
 have hzr:=zA_rep hz E w
 have hget:(getObj blk).run P w=.ok (.map (List.toArray ents) clk) w:=by simp [getObj,Sem.run,k2]
 rcases run_findKey (q:=q) (h2 w) k3 with ⟨j1,j2⟩|⟨a,j,v,e,j1,j2,j3,j4,j5,j6⟩
 ·refine ⟨if c then .tuple #[zv,.bool false] else zv,?_,?_⟩
  ·simp [Instr.lookup,h1,hget,run_checkKey (h2 w),j2,h3 zv rfl]
  ·rw [j1]
   cases c
   ·simpa [mgetZ,okTup] using hzr
   ·simp only [mgetZ,okTup,if_true,Rep]
    exact ⟨[zv,.bool false],rfl,by simp [RepL,hzr,Rep,CRep]⟩
 ·refine ⟨if c then .tuple #[v,.bool true] else v,?_,?_⟩
  ·simp [Instr.lookup,h1,hget,run_checkKey (h2 w),j2]
  ·rw [j1]
   have:=Rep.of_c j6
   cases c
   ·simpa [mgetZ,okTup] using this
   ·simp only [mgetZ,okTup,if_true,Rep]
    exact ⟨[v,.bool true],rfl,by simp [RepL,this,Rep,CRep]⟩
theorem ents_del {w:World} {G:Nat→Prop} {q:Int}:∀ {es:List (List Int×AV)} {xs:List MapEntry} {i:Nat},CEnts w G 1 es xs →
  (Instr.findNow (.int .i64) (.int .i64 q) xs i=some none∧mdel es [q]=es) ∨
  ∃ j v,Instr.findNow (.int .i64) (.int .i64 q) xs i=some (some (i+j,v))∧CEnts w G 1 (mdel es [q]) (xs.eraseIdx j)
 | [],[],i,_=>.inl ⟨rfl,rfl⟩
 | (k,b)::r,e::s,i,h=>by
  simp only [CEnts] at h
  obtain ⟨⟨h1,h2⟩,h3,h4⟩:=h
  obtain ⟨n,rfl⟩:∃ n,k=[n]:=by
   match k,h1 with
   | [n],_=>exact ⟨n,rfl⟩
  simp only [keyV] at h2
  by_cases hq:q=n
  ·subst hq
   exact .inr ⟨0,e.val,by simp [Instr.findNow,h2,Instr.sameNow],by simpa [mdel] using h4⟩
  ·have hqn:(q == n)=false:=by simpa using hq
   rcases ents_del (q:=q) (i:=i+1) h4 with ⟨k1,k2⟩|⟨j,v,k1,k2⟩
   ·exact .inl ⟨by simp [Instr.findNow,h2,Instr.sameNow,hqn,k1],by simp [mdel,hq,k2]⟩
   ·refine .inr ⟨j+1,v,?_,by simp [mdel,hq,CEnts,keyV,h2,h3,k2]⟩
    simp [Instr.findNow,h2,Instr.sameNow,hqn,k1,Nat.add_assoc,Nat.add_comm 1 j]
 | [],_::_,_,h=>by simp [CEnts] at h
 | _::_,[],_,h=>by simp [CEnts] at h
theorem born_push {xs:List MapEntry} {clk:Nat} {k v:Value} (h:BornOK xs clk):BornOK (xs++[⟨k,v,clk⟩]) (clk+1):=by
 refine ⟨fun e he=>?_,?_⟩
 ·rcases List.mem_append.1 he with h1|h1
  ·have:=h.1 e h1;omega
  ·simp at h1;subst h1;simp
 ·rw [List.map_append]
  refine List.nodup_append.2 ⟨h.2,by simp,fun a ha b hb e=>?_⟩
  obtain ⟨x,hx,rfl⟩:=List.mem_map.1 ha
  simp at hb
  have:=h.1 x hx
  omega
theorem modify_born {f:MapEntry→MapEntry} (hf:∀ e,(f e).born=e.born):∀ {xs:List MapEntry} {j:Nat},(xs.modify j f).map (·.born)=xs.map (·.born)
 | [],j=>by cases j<;>simp
 | x::xs,0=>by simp [hf]
 | x::xs,j+1=>by simp [modify_born hf (xs:=xs) (j:=j)]
theorem born_modify {xs:List MapEntry} {clk j:Nat} {k v:Value} (h:BornOK xs clk):BornOK (xs.modify j fun e=>{ e with key:=k,val:=v }) clk:=by
 have e1:=modify_born (f:=fun e=>{ e with key:=k,val:=v }) (fun _=>rfl) (xs:=xs) (j:=j)
 refine ⟨fun e he=>?_,by rw [e1];exact h.2⟩
 have:e.born∈(xs.modify j fun e=>{ e with key:=k,val:=v }).map (·.born):=List.mem_map.2 ⟨e,he,rfl⟩
 rw [e1] at this
 obtain ⟨x,hx,e2⟩:=List.mem_map.1 this
 rw [← e2];exact h.1 x hx
theorem born_erase {xs:List MapEntry} {clk j:Nat} (h:BornOK xs clk):BornOK (xs.eraseIdx j) clk :=
 ⟨fun e he=>h.1 e ((List.eraseIdx_sublist xs j).subset he),List.Nodup.sublist ((List.eraseIdx_sublist xs j).map _) h.2⟩
theorem StepTo.mapw {w0:World} {bl:Bk} {E:Env} {w:World} (h:Inv w0 bl E w) {b blk m n:Nat} {es:List (List Int×AV)} {ents ents':List MapEntry} {clk clk':Nat} (hb:E.alive b) (hv:E.ver b=m) (hm:1≤m) (hl:E.loc b=some (blk,0,0))
  (hc:w.heap[blk]?=some (.map (List.toArray ents) clk)) (he:CEntB w E.G n es ents' clk') :
  StepTo w0 bl E w [(b,.map m n es)] (E.upd b m (some (blk,0,0))) { w with heap:=w.heap.setIfInBounds blk (.map (List.toArray ents') clk') }:=by
 have hblk:blk<w.heap.size:=(Array.getElem?_eq_some_iff.1 hc).1
 have hoth:∀ k,k≠blk→(w.heap.setIfInBounds blk (.map (List.toArray ents') clk'))[k]?=w.heap[k]?:=fun k hk=>by
  rw [Array.getElem?_setIfInBounds_ne (Ne.symm hk)]
 refine StepTo.one h b (.map m n es) m _ (fun _=>.inl ⟨hv.symm,hl.symm⟩) (fun blk' base sz e=>?_) (by simp) rfl rfl (fun k hk hn=>hoth k fun e=>?_) ?_
 ·simp only [Option.some.injEq,Prod.mk.injEq] at e
  exact .inl ⟨0,0,hb,by rw [hl,e.1]⟩
 ·subst e;exact hn 0 0 hb hl
 ·simp only [ObjRep,Env.upd,if_true]
  refine ⟨trivial,hm,blk,ents',clk',rfl,by simp [hblk],?_⟩
  exact he.mono (fun _ hk=>hk) fun k hk=>hoth k fun e=>(h.locs b blk 0 0 hb hl).2.1 (e ▸ hk)
theorem mp_parts {M:Nat→AO} {b m n:Nat} {es:List (List Int×AV)} {E:Env} {w:World} {xv:Value} (hb:M b=.map m n es) (hr:Rep E w (.mp b m) xv) (hM:MemOK E w M) :
  E.alive b∧E.ver b=m∧1≤m∧∃ blk ents clk,E.loc b=some (blk,0,0)∧xv=.map (some blk)∧w.heap[blk]?=some (.map (List.toArray ents) clk)∧CEntB w E.G n es ents clk:=by
 simp only [Rep] at hr
 obtain ⟨h1,h2,_,blk,rfl,h3⟩:=hr
 have ho:=hM b h1
 rw [hb] at ho
 simp only [ObjRep] at ho
 obtain ⟨hv,_,blk',ents,clk,k1,k2,k3⟩:=ho
 have h3:=h3 hv.symm
 rw [h3] at k1
 simp only [Option.some.injEq,Prod.mk.injEq,and_true] at k1
 subst k1
 exact ⟨h1,hv,h2,blk,ents,clk,h3,rfl,k2,k3⟩
def posM:List (List Int×AV)→List Int→Option Nat
 | [],_=>none
 | (k,_)::r,q=>if q=k then some 0 else (posM r q).map (·+1)
def atV (i:Nat) (xs:List MapEntry) (p:Option Nat):Option (Nat×Value):=p.map fun j=>(i+j,(xs[j]?.map (·.val)).getD (.bool false))
theorem atV_succ (i:Nat) (e:MapEntry) (xs:List MapEntry) (p:Option Nat):atV i (e::xs) (p.map (·+1))=atV (i+1) xs p:=by
 cases p with
 | none=>rfl
 | some j=>simp [atV,Nat.add_assoc,Nat.add_comm 1 j]
structure KeySpec (P:Program) (kt:TypeId) (n:Nat):Prop where
 chk:∀ (w:World) (b:Bool) (q:List Int),q.length=n→(Instr.checkKey b 10000 kt (keyV q)).run P w=.ok () w
 find:∀ (w:World) (G:Nat→Prop) (q:List Int) (es:List (List Int×AV)) (xs:List MapEntry),q.length=n→CEnts w G n es xs→(Instr.findKey kt (keyV q) xs).run P w=.ok (atV 0 xs (posM es q)) w
theorem key_one {k:List Int} (h:k.length=1):∃ n,k=[n]:=by
 match k,h with
 | [n],_=>exact ⟨n,rfl⟩
theorem findNow_pos {w:World} {G:Nat→Prop} {q:Int}:∀ {es:List (List Int×AV)} {xs:List MapEntry} {i:Nat},CEnts w G 1 es xs→Instr.findNow (.int .i64) (.int .i64 q) xs i=some (atV i xs (posM es [q]))
 | [],[],i,_=>rfl
 | (k,a)::r,e::s,i,h=>by
  simp only [CEnts] at h
  obtain ⟨⟨h1,h2⟩,h3,h4⟩:=h
  obtain ⟨n,rfl⟩:=key_one h1
  simp only [keyV] at h2
  by_cases hq:q=n
  ·subst hq
   simp [Instr.findNow,h2,Instr.sameNow,posM,atV]
  ·have hqn:(q == n)=false:=by simpa using hq
   have hne:¬ [q]=[n]:=by simpa using hq
   simp only [posM,if_neg hne,atV_succ]
   simp only [Instr.findNow,h2,Instr.sameNow,hqn,if_true]
   exact findNow_pos h4
 | [],_::_,_,h=>by simp [CEnts] at h
 | _::_,[],_,h=>by simp [CEnts] at h
theorem keySpec_int {P:Program} {kt:TypeId} (h:∀ w,(underlying kt).run P w=.ok (.int .i64) w):KeySpec P kt 1 where
 chk:=fun w b q hq=>by
  obtain ⟨n,rfl⟩:=key_one hq
  exact run_checkKey (h w)
 find:=fun w G q es xs hq hc=>by
  obtain ⟨n,rfl⟩:=key_one hq
  simp only [keyV]
  simp [Instr.findKey,h w,findNow_pos hc]
theorem keyV_agg {q:List Int} (h:q.length≠1):keyV q=.agg (q.map (Value.int .i64)).toArray:=by
 match q,h with
 | [],_=>rfl
 | [_],h=>simp at h
 | _::_::_,_=>rfl
theorem sameKV_ints:∀ {zs:List Value} {q:List Int},zs.all isI64=true→q.length=zs.length→sameKV zs (q.map (Value.int .i64))=true
 | [],[],_,_=>rfl
 | z::zs,a::q,h,hl=>by
  simp only [List.all_cons,Bool.and_eq_true] at h
  obtain ⟨h1,h2⟩:=h
  simp only [isI64] at h1
  split at h1
  ·simp only [List.map_cons,sameKV,decide_true,Bool.true_and]
   exact sameKV_ints h2 (by simpa using hl)
  ·simp at h1
 | [],_::_,_,hl=>by simp at hl
 | _::_,[],_,hl=>by simp at hl
theorem eqV_ints:∀ {p q:List Int},p.length=q.length→eqV (p.map (Value.int .i64)) (q.map (Value.int .i64))=some (decide (p=q))
 | [],[],_=>rfl
 | a::p,b::q,h=>by
  simp only [List.map_cons,eqV,if_true]
  rw [eqV_ints (by simpa using h)]
  simp
 | [],_::_,h=>by simp at h
 | _::_,[],h=>by simp at h
theorem findAsking_pos {P:Program} {w:World} {G:Nat→Prop} {kt:TypeId} {n:Nat} {q:List Int} (hq:q.length=n) (he:∀ q',q'.length=n→(Op.equal kt (keyV q) (keyV q')).run P w=.ok (decide (q=q')) w) :
  ∀ {es:List (List Int×AV)} {xs:List MapEntry} {i:Nat},CEnts w G n es xs→(Instr.findAsking kt (keyV q) xs i).run P w=.ok (atV i xs (posM es q)) w
 | [],[],i,_=>rfl
 | (k,a)::r,e::s,i,h=>by
  simp only [CEnts] at h
  obtain ⟨⟨h1,h2⟩,h3,h4⟩:=h
  simp only [Instr.findAsking,Sem.run_bind,h2,he k h1,Result.andThen_ok]
  by_cases hk:q=k
  ·simp [hk,posM,atV]
  ·simp only [hk,decide_false,Bool.false_eq_true,if_false,posM,atV_succ]
   exact findAsking_pos hq he h4
 | [],_::_,_,h=>by simp [CEnts] at h
 | _::_,[],_,h=>by simp [CEnts] at h
theorem keySpec_struct {P:Program} {X:AX} (hX:XOK P X) {kt:TypeId} {d:TD} (hd:Types P kt=some d) (he:X.eqs kt=true) (h2:2≤d.zero.length) (hz:d.zero.all isI64=true):KeySpec P kt d.zero.length:=by
 obtain ⟨e1,e2⟩:=hX.eqs kt he d hd
 obtain ⟨u,i,z,q1,q2,q3,hde⟩:=types_spec hd
 refine ⟨fun w b q hq=>?_,fun w G q es xs hq hc=>?_⟩
 ·rw [keyV_agg (by omega)]
  exact e1 w _ b (sameKV_ints hz hq)
 ·have heq:∀ q',q'.length=d.zero.length→(Op.equal kt (keyV q) (keyV q')).run P w=.ok (decide (q=q')) w:=fun q' hq'=>by
   rw [keyV_agg (by omega),keyV_agg (by omega)]
   exact (e2 w _ _ _ (sameKV_ints hz hq) (eqV_ints (by omega))).1
  have hu:=run_underlying q1 w
  cases es with
  | nil=>cases xs with
   | nil=>simp [Instr.findKey,hu,Instr.findNow,posM,atV]
   | cons e s=>simp [CEnts] at hc
  | cons p r=>cases xs with
   | nil=>simp [CEnts] at hc
   | cons e s =>
    have hc':=hc
    obtain ⟨k,a⟩:=p
    simp only [CEnts] at hc'
    have hk:=hc'.1.2
    have hnow:∀ kind,Instr.findNow kind (keyV q) (e::s) 0=none:=fun kind=>by
     rw [Instr.findNow,hk,keyV_agg (by omega),keyV_agg (q:=k) (by have:=hc'.1.1;omega)]
     cases kind<;>rfl
    simp only [Instr.findKey,Sem.run_bind,hu,Result.andThen_ok,hnow]
    exact findAsking_pos hq heq hc
theorem mapK_spec {P:Program} {X:AX} (hX:XOK P X) {t:TypeId} {n:Nat} (h:mapK (Types P) X t=some n):∃ kt et,(∀ w,(underlying t).run P w=.ok (.map kt et) w)∧KeySpec P kt n:=by
 unfold mapK at h
 cases ht:Types P t<;>simp only [ht,reduceCtorEq] at h
 rename_i d
 cases hk:d.k<;>simp only [hk,reduceCtorEq] at h
 rename_i kt e z'
 cases hkt:Types P kt<;>simp only [hkt,reduceCtorEq] at h
 rename_i dk
 refine ⟨kt,e,fun w=>(und_map ht hk).1,?_⟩
 cases hkk:dk.k<;>simp only [hkk,reduceCtorEq] at h
 case int ik =>
  cases ik<;>simp only [reduceCtorEq,Option.some.injEq] at h
  subst h
  exact keySpec_int fun w=>und_int hkt hkk
 case struct fs =>
  split at h
  ·rename_i hh
   simp only [Option.some.injEq] at h
   subst h
   exact keySpec_struct hX hkt hh.1 hh.2.1 hh.2.2
  ·simp at h
theorem intsOf_spec {E:Env} {w:World}:∀ {cs:List AV} {k:List Int} {vs:List Value},intsOf cs=some k→RepL E w cs vs→vs=k.map (Value.int .i64)∧k.length=cs.length
 | [],k,[],h,_=>by simp only [intsOf,Option.some.injEq] at h;subst h;exact ⟨rfl,rfl⟩
 | c::r,k,v::vs,h,hr=>by
  unfold intsOf at h
  split at h
  ·simp at *
  ·rename_i x r' heq
   simp only [List.cons.injEq] at heq
   obtain ⟨rfl,rfl⟩:=heq
   cases hi:intsOf r with
   | none=>simp [hi] at h
   | some k' =>
    simp only [hi,Option.map_some,Option.some.injEq] at h
    subst h
    simp only [RepL,Rep,CRep] at hr
    obtain ⟨h1,h2⟩:=intsOf_spec hi hr.2
    exact ⟨by rw [hr.1,h1];rfl,by simp [h2]⟩
  ·simp at h
 | [],_,_::_,_,hr=>by simp [RepL] at hr
 | _::_,_,[],_,hr=>by simp [RepL] at hr
theorem keyB_spec {E:Env} {w:World} {n:Nat} {i:AV} {k:List Int} {x:Value} (h:keyB n i=some k) (hr:Rep E w i x):x=keyV k∧k.length=n:=by
 unfold keyB at h
 split at h
 ·rename_i hn
  obtain ⟨q,rfl,rfl⟩:=keyA_spec h hr
  exact ⟨rfl,by simp [hn]⟩
 ·rename_i hn
  split at h
  ·split at h
   ·rename_i cs hl
    simp only [Rep] at hr
    obtain ⟨vs,rfl,_,h3⟩:=hr
    obtain ⟨rfl,h5⟩:=intsOf_spec h h3
    exact ⟨(keyV_agg (by omega)).symm,by omega⟩
   ·simp at h
  ·simp at h
theorem ents_setp {w:World} {G:Nat→Prop} {n:Nat} {q:List Int} {a:AV} {y:Value} (ha:CRep w G a y) (hq:q.length=n):∀ {es:List (List Int×AV)} {xs:List MapEntry},CEnts w G n es xs →
  (posM es q=none→∀ born,CEnts w G n (mset es q a) (xs++[⟨keyV q,y,born⟩])) ∧
  ∀ j,posM es q=some j→(∃ e,xs[j]?=some e∧e.key=keyV q)∧CEnts w G n (mset es q a) (xs.modify j fun e=>{ e with key:=keyV q,val:=y })
 | [],[],_=>⟨fun _ born=>by simp [mset,CEnts,ha,hq],fun j hj=>by simp [posM] at hj⟩
 | (k,b)::r,e::s,h=>by
  simp only [CEnts] at h
  obtain ⟨⟨h1,h2⟩,h3,h4⟩:=h
  obtain ⟨k1,k2⟩:=ents_setp ha hq h4
  by_cases hk:q=k
  ·subst hk
   refine ⟨fun hn=>by simp [posM] at hn,fun j hj=>?_⟩
   simp only [posM,if_true,Option.some.injEq] at hj
   subst hj
   exact ⟨⟨e,by simp,h2⟩,by simp [mset,CEnts,ha,h4,hq]⟩
  ·refine ⟨fun hn born=>?_,fun j hj=>?_⟩
   ·simp only [posM,if_neg hk] at hn
    have hn':posM r q=none:=by cases hp:posM r q<;>simp [hp] at hn ⊢
    simp only [mset,if_neg hk,List.cons_append,CEnts]
    exact ⟨⟨h1,h2⟩,h3,k1 hn' born⟩
   ·simp only [posM,if_neg hk] at hj
    cases hp:posM r q with
    | none=>simp [hp] at hj
    | some j' =>
     simp only [hp,Option.map_some,Option.some.injEq] at hj
     subst hj
     obtain ⟨q1,q2⟩:=k2 j' hp
     refine ⟨by simpa using q1,?_⟩
     simp only [mset,if_neg hk,List.modify_succ_cons,CEnts]
     exact ⟨⟨h1,h2⟩,h3,q2⟩
 | [],_::_,h=>by simp [CEnts] at h
 | _::_,[],h=>by simp [CEnts] at h
theorem sameBits_key (q:List Int):Instr.sameBits 10000 (keyV q) (keyV q)=true:=by
 by_cases h:q.length=1
 ·obtain ⟨n,rfl⟩:=key_one h
  simp [keyV,Instr.sameBits]
 ·rw [keyV_agg h,show (10000:Nat)=9999+1 from rfl,Instr.sameBits]
  simp only [List.size_toArray,beq_self_eq_true,Bool.true_and,List.all_eq_true]
  rintro ⟨x,y⟩ hxy
  have hz:∀ (l:List Value),(∀ v∈l,∃ n:Int,v=.int .i64 n)→∀ p∈l.zip l,Instr.sameBits 9999 p.1 p.2=true:=by
   intro l
   induction l with
   | nil=>intro _ p hp;simp at hp
   | cons v l ih =>
    intro hv p hp
    rw [List.zip_cons_cons,List.mem_cons] at hp
    rcases hp with rfl|hp
    ·obtain ⟨n,rfl⟩:=hv v (by simp)
     simp [Instr.sameBits]
    ·exact ih (fun v' hv'=>hv v' (by simp [hv'])) p hp
  exact hz (q.map (Value.int .i64)) (fun v hv=>by
   obtain ⟨n,_,rfl⟩:=List.mem_map.1 hv
   exact ⟨n,rfl⟩) (x,y) hxy
theorem aMapSet_ok {P:Program} {X:AX} (hX:XOK P X) {M:Nat→AO} {t:TypeId} {x i y:AV} {u:List (Nat×AO)} {w0:World} {bl:Bk} {E:Env} {w:World} {xv iv yv:Value} (h:aMapSet (Types P) X M t x i y=some u) (hx:Rep E w x xv) (hi:Rep E w i iv) (hy:Rep E w y yv) (hM:MemOK E w M) (hI:Inv w0 bl E w) :
  ∃ E' w',(Instr.mapUpdate t xv iv yv).run P w=.ok () w'∧StepTo w0 bl E w u E' w':=by
 unfold aMapSet at h
 cases hmt:mapK (Types P) X t<;>simp only [hmt,reduceCtorEq] at h
 rename_i n
 cases x<;>simp only [reduceCtorEq] at h
 rename_i b m
 cases hb:M b<;>simp only [hb,reduceCtorEq] at h
 rename_i m' n' es
 cases hk:keyB n i<;>simp only [hk,reduceCtorEq] at h
 rename_i q
 split at h
 case isFalse=>simp at h
 rename_i hn
 obtain ⟨rfl,rfl,hcl⟩:=hn
 simp only [Option.some.injEq] at h
 subst h
 obtain ⟨kt,et,h1,hks⟩:=mapK_spec hX hmt
 obtain ⟨rfl,hql⟩:=keyB_spec hk hi
 obtain ⟨p1,p2,p0,blk,ents,clk,p3,rfl,p4,p5⟩:=mp_parts hb hx hM
 have hcy:=hy.to_c hcl
 have hget:(getObj blk).run P w=.ok (.map (List.toArray ents) clk) w:=by simp [getObj,Sem.run,p4]
 have hset:∀ o,(setObj blk o).run P w=.ok () { w with heap:=w.heap.setIfInBounds blk o }:=fun o=>by simp [setObj,Sem.run,p4]
 have hfk:=hks.find w _ q es ents hql p5.1
 obtain ⟨j1,j2⟩:=ents_setp hcy hql p5.1
 cases hp:posM es q with
 | none =>
  rw [hp] at hfk
  refine ⟨_,_,?_,StepTo.mapw hI p1 p2 p0 p3 p4 ⟨j1 hp clk,born_push p5.2⟩ (clk':=clk+1)⟩
  simp [Instr.mapUpdate,h1,hget,hks.chk w _ q hql,hfk,atV,hset]
 | some j =>
  rw [hp] at hfk
  obtain ⟨⟨e,k1,k2⟩,k3⟩:=j2 j hp
  refine ⟨_,_,?_,StepTo.mapw hI p1 p2 p0 p3 p4 ⟨k3,born_modify p5.2⟩ (clk':=clk)⟩
  have hst:(Instr.keyThatStays (keyV q) (keyV q)).run P w=.ok (keyV q) w:=by
   simp [Instr.keyThatStays,sameBits_key]
  simp [Instr.mapUpdate,h1,hget,hks.chk w _ q hql,hfk,atV,hset,k1,k2,hst]
theorem aMapDel_ok {P:Program} {M:Nat→AO} {t kt:TypeId} {x i:AV} {u:List (Nat×AO)} {w0:World} {bl:Bk} {E:Env} {w:World} {xv iv:Value} {ats:Array TypeId} {ty:TypeId} (h:aMapDel (Types P) M t x i=some u) (hx:Rep E w x xv) (hi:Rep E w i iv) (hM:MemOK E w M) (hI:Inv w0 bl E w) (ha:ats[0]?=some t) :
  ∃ E' w',(Builtin.delete_ ats ty #[xv,iv]).run P w=.ok (.tuple #[]) w'∧StepTo w0 bl E w u E' w':=by
 unfold aMapDel at h
 cases hmt:mapT (Types P) t<;>simp only [hmt,reduceCtorEq] at h
 rename_i p
 obtain ⟨n,z⟩:=p
 cases x<;>simp only [reduceCtorEq] at h
 rename_i b m
 cases hb:M b<;>simp only [hb,reduceCtorEq] at h
 rename_i m' n' es
 cases hk:keyA i<;>simp only [hk,reduceCtorEq] at h
 rename_i k
 split at h
 case isFalse=>simp at h
 rename_i hn
 obtain ⟨rfl,rfl⟩:=hn
 simp only [Option.some.injEq] at h
 subst h
 obtain ⟨rfl,kt,et,h1,h2,h3⟩:=mapT_spec hmt
 obtain ⟨q,rfl,rfl⟩:=keyA_spec hk hi
 obtain ⟨p1,p2,p0,blk,ents,clk,p3,rfl,p4,p5⟩:=mp_parts hb hx hM
 have hget:(getObj blk).run P w=.ok (.map (List.toArray ents) clk) w:=by simp [getObj,Sem.run,p4]
 have hset:∀ o,(setObj blk o).run P w=.ok () { w with heap:=w.heap.setIfInBounds blk o }:=fun o=>by simp [setObj,Sem.run,p4]
 rcases ents_del (q:=q) (i:=0) p5.1 with ⟨j1,j2⟩|⟨j,v,j1,j2⟩
 ·refine ⟨_,_,?_,StepTo.mapw hI p1 p2 p0 p3 p4 ⟨by rw [j2];exact p5.1,p5.2⟩ (clk':=clk)⟩
  simp [Builtin.delete_,ha,h1,hget,run_checkKey (h2 w),Instr.findKey,h2,j1,hset]
 ·refine ⟨_,_,?_,StepTo.mapw hI p1 p2 p0 p3 p4 ⟨j2,born_erase p5.2⟩ (clk':=clk)⟩
  simp [Builtin.delete_,ha,h1,hget,run_checkKey (h2 w),Instr.findKey,h2,j1,hset]
theorem aMakeMap_ok {P:Program} {X:AX} {nid:Nat} {t:TypeId} {av:AV} {u:List (Nat×AO)} {w0:World} {bl:Bk} {E:Env} {w:World} (h:aMakeMap (Types P) X nid t=some (av,u)) (hI:Inv w0 bl E w) (hnid:¬ E.alive nid) :
  ∃ y E' w',(Instr.makeMap t none).run P w=.ok y w'∧StepTo w0 bl E w u E' w'∧Rep E' w' av y:=by
 unfold aMakeMap at h
 cases hmt:mapK (Types P) X t<;>simp only [hmt,reduceCtorEq,Option.some.injEq,Prod.mk.injEq] at h
 rename_i n
 obtain ⟨rfl,rfl⟩:=h
 refine ⟨.map (some w.heap.size),E.upd nid 1 (some (w.heap.size,0,0)),w.alloc (.map #[] 0),rfl,?_,?_⟩
 ·refine StepTo.one hI nid (.map 1 n []) 1 _ (fun hh=>absurd hh hnid) (fun blk' base sz e=>?_) (by simp) rfl rfl (fun k hk _=>heap_alloc_old w _ k hk) ?_
  ·simp only [Option.some.injEq,Prod.mk.injEq] at e
   exact .inr ⟨by omega,by simp;omega⟩
  ·simp only [ObjRep,Env.upd,if_true]
   exact ⟨trivial,Nat.le_refl _,w.heap.size,[],0,rfl,heap_alloc_new w _,by simp [CEnts],by simp [BornOK]⟩
 ·simp only [Rep]
  exact ⟨.inr rfl,Nat.le_refl _,by simp [Env.upd],w.heap.size,rfl,fun _=>by simp [Env.upd]⟩
theorem aMakeMapH_ok {P:Program} {X:AX} (hX:XOK P X) {nid:Nat} {t:TypeId} {av:AV} {u:List (Nat×AO)} {w0:World} {bl:Bk} {E:Env} {w:World} {k:IntKind} {a:Int} (h:aMakeMap (Types P) X nid t=some (av,u)) (hI:Inv w0 bl E w) (hnid:¬ E.alive nid) :
  ∃ y E' w',(Instr.makeMap t (some (.int k a))).run P w=.ok y w'∧StepTo w0 bl E w u E' w'∧Rep E' w' av y:=by
 obtain ⟨y,E',w',q1,q2,q3⟩:=aMakeMap_ok h hI hnid
 unfold aMakeMap at h
 cases hmt:mapK (Types P) X t<;>simp only [hmt,reduceCtorEq] at h
 obtain ⟨kt,et,hu,_⟩:=mapK_spec hX hmt
 refine ⟨y,E',w',?_,q2,q3⟩
 rw [← q1]
 simp [Instr.makeMap,hu,asInt,asIntOf]
def hintOK:AV→Bool
 | .v (.int _ _)=>true
 | _=>false
end Go.AM
namespace Go.AM
open Go
def getS (l:List (Nat×AV)) (t:Nat):AV :=
 match l with
 | []=>.any
 | (k,a)::r=>if k=t then a else getS r t
def aEv (l:List (Nat×AV)):Operand→AV
 | .tmp t=>getS l t
 | .const v=>.v v
 | .func f=>.fn f []
 | .global _=>.any
def pureR (a:Option AV):Option (AV×List (Nat×AO)):=a.map fun x=>(x,[])
def aCallOp (T:TypeId→Option TD) (X:AX) (c:Call) (ev:Operand→AV) (M:Nat→AO) (nid:Nat):Option (AV×List (Nat×AO)) :=
 match c.callee with
 | .value f=>match ev f with
  | .fn g caps=>X.call g (c.args.toList.map ev++caps) M nid
  | _=>none
 | .builtin b=>match b,c.args.toList,c.argTypes.toList with
  | .len,[x],t::_=>pureR (aLenX T X M t (ev x))
  | .append,[x,y],[t,u]=>aApp T M nid t u (ev x) (ev y)
  | .cap,[x],t::_=>pureR (aCap T M t (ev x))
  | .copy,[x,y],[t,_]=>aCopy T M t (ev x) (ev y)
  | .clear,[x],[t]=>aClear T M t (ev x)
  | .delete,[x,y],[t,_]=>(aMapDel T M t (ev x) (ev y)).map fun u=>(.v (.tuple #[]),u)
  | .min,[x,y],_=>pureR (aMinMax false [ev x,ev y])
  | .max,[x,y],_=>pureR (aMinMax true [ev x,ev y])
  | _,_,_=>none
 | _=>none
def astep (T:TypeId→Option TD) (X:AX) (op:Op) (ev:Operand→AV) (M:Nat→AO) (nid:Nat):Option (AV×List (Nat×AO)) :=
 match op with
 | .move x|.assign x=>some (ev x,[])
 | .pick c a b=>match ev c with
  | .v (.bool t)=>some (if t then ev a else ev b,[])
  | _=>none
 | .extract t i=>match ev t with
  | .tup cs=>match cs[i]? with
   | some a=>some (a,[])
   | none=>none
  | _=>none
 | .nilCheck x=>match ev x with
  | .bp b o=>some (.bp b o,[])
  | .ep b m s i j=>some (.ep b m s i j,[])
  | .rp cs=>some (.rp cs,[])
  | .fn f cs=>some (.fn f cs,[])
  | _=>none
 | .binOp op t x y _=>pureR (aBin T X op t (ev x) (ev y))
 | .unOp op _ x=>pureR (aUn op (ev x))
 | .convert s d x=>pureR (aConv T s d (ev x))
 | .alloc t=>aAlloc T nid t
 | .box _ x=>aBox nid (ev x)
 | .build t parts=>pureR (aBuild T t (parts.toList.map fun p=>(p.1,ev p.2)))
 | .buildSlice t n parts=>aBuildSlice T nid t n (parts.toList.map fun p=>(p.1,ev p.2))
 | .makeSlice t l c=>aMakeSlice T nid t (ev l) (ev c)
 | .load t a=>pureR (aLoad T M t (ev a))
 | .store t a x=>(aStore T M t (ev a) (ev x)).map fun u=>(.any,u)
 | .fieldAddr t x f=>pureR (aFieldAddr T t (ev x) f)
 | .field t x f=>pureR (aField T t (ev x) f)
 | .indexAddr t x i=>pureR (aIndexAddr T t (ev x) (ev i))
 | .index t x i=>pureR (aIndex T t (ev x) (ev i))
 | .slice t x lo hi none=>pureR (aSlice T M t (ev x) (lo.map ev) (hi.map ev))
 | .slice t x lo (some hi) (some mx)=>pureR (aSlice3 T t (ev x) (lo.map ev) (ev hi) (ev mx))
 | .makeInterface t x=>match T t with
  | some d=>if d.k.isOther=true then none else some (.ifc t [ev x],[])
  | none=>none
 | .makeFunc (.func f) first caps=>if first.size=0 then some (.fn f (caps.toList.map ev),[]) else none
 | .call c=>aCallOp T X c ev M nid
 | .makeMap t none=>aMakeMap T X nid t
 | .makeMap t (some r)=>if hintOK (ev r)=true then aMakeMap T X nid t else none
 | .lookup t x i c=>pureR (aLookup T M t (ev x) (ev i) c)
 | .mapUpdate t x i y=>(aMapSet T X M t (ev x) (ev i) (ev y)).map fun u=>(.any,u)
 | _=>none
theorem pureR_some {a:Option AV} {av:AV} {u:List (Nat×AO)} (h:pureR a=some (av,u)):a=some av∧u=[]:=by
 unfold pureR at h
 cases a<;>simp at h
 simp [h.1,h.2]
section
variable {P:Program} {X:AX} {w0:World} {bl:Bk} {E:Env} {w:World} {a:Act} {o:Oper} {next:Act→World→Prop} {Q:Exit→Act→World→Prop}
theorem wp_val {s:Sem Value} {x:Value} {w':World} (hs:execOp a.eval o=(do pure (.value (← s)))) (hr:s.run P w=.ok x w') (h:next (a.put o.dst x) w'):o.wp P a w next Q:=by
 unfold Oper.wp
 rw [hs]
 simp only [Sem.run_bind,hr,Result.andThen_ok,Sem.run_pure]
 exact h
theorem repL_map {ev:Operand→AV} {ρ:Operand→Value} (h:∀ x,Rep E w (ev x) (ρ x)):∀ l:List Operand,RepL E w (l.map ev) (l.map ρ)
 | []=>by simp [RepL]
 | x::r=>by simp only [List.map_cons,RepL];exact ⟨h x,repL_map h r⟩
theorem repP_map {ev:Operand→AV} {ρ:Operand→Value} (h:∀ x,Rep E w (ev x) (ρ x)):∀ l:List (Nat×Operand),RepP E w (l.map fun p=>(p.1,ev p.2)) (l.map fun p=>(p.1,ρ p.2))
 | []=>by simp [RepP]
 | x::r=>by simp only [List.map_cons,RepP];exact ⟨trivial,h x.2,repP_map h r⟩
theorem op_sound (hX:XOK P X) {ev:Operand→AV} {M:Nat→AO} {nid:Nat} {av:AV} {u:List (Nat×AO)} (h:astep (Types P) X o.op ev M nid=some (av,u))
  (hr:∀ x,Rep E w (ev x) (a.eval x)) (hM:MemOK E w M) (hI:Inv w0 bl E w) (hnid:∀ k,nid≤k→k<nid+16→¬ E.alive k)
  (hn:∀ x E' w',StepTo w0 bl E w u E' w'→Rep E' w' av x→next (a.put o.dst x) w'):o.wp P a w next Q:=by
 have hnid0:=hnid nid (Nat.le_refl _) (by omega)
 have stay:∀ x,u=[]→Rep E w av x→next (a.put o.dst x) w:=fun x hu hx=>by
  subst hu
  exact hn x E w (StepTo.refl hI rfl rfl rfl) hx
 obtain ⟨dst,op,type,pos,after,guard⟩:=o
 cases op<;>simp only [astep,reduceCtorEq] at h
 case move x =>
  simp only [Option.some.injEq,Prod.mk.injEq] at h
  exact stay _ h.2.symm (h.1 ▸ hr x)
 case assign x =>
  simp only [Option.some.injEq,Prod.mk.injEq] at h
  exact stay _ h.2.symm (h.1 ▸ hr x)
 case pick c x y =>
  have hc:=hr c
  cases hev:ev c<;>simp only [hev,reduceCtorEq] at h
  rename_i v
  cases v<;>simp only [reduceCtorEq] at h
  rename_i t
  rw [hev] at hc
  simp only [Rep,CRep] at hc
  simp only [Option.some.injEq,Prod.mk.injEq] at h
  obtain ⟨rfl,rfl⟩:=h
  refine (show Oper.wp P _ a w next Q from ?_)
  unfold Oper.wp
  simp only [execOp,hc,asBool,Sem.run_bind,Sem.run_pure,Result.andThen_ok]
  refine stay _ rfl ?_
  cases t
  ·exact hr y
  ·exact hr x
 case extract t i =>
  have hc:=hr t
  cases hev:ev t<;>simp only [hev,reduceCtorEq] at h
  rename_i cs
  cases hi:cs[i]?<;>simp only [hi,reduceCtorEq] at h
  simp only [Option.some.injEq,Prod.mk.injEq] at h
  obtain ⟨rfl,rfl⟩:=h
  rw [hev] at hc
  simp only [Rep] at hc
  obtain ⟨vs,hv,k2⟩:=hc
  obtain ⟨y,q1,q2⟩:=k2.get hi
  exact wp_val (s:=Instr.extract (a.eval t) i) (x:=y) (w':=w) rfl (by rw [hv];simp [Instr.extract,q1]) (stay _ rfl q2)
 case nilCheck x =>
  have hc:=hr x
  unfold Oper.wp
  cases hev:ev x<;>simp only [hev,reduceCtorEq] at h
  all_goals
   simp only [Option.some.injEq,Prod.mk.injEq] at h
   obtain ⟨rfl,rfl⟩:=h
   rw [hev] at hc
  ·simp only [Rep,CRep] at hc
   obtain ⟨blk,off,hv,k⟩:=hc
   simp only [execOp,hv]
   refine stay _ rfl ?_
   simp only [Rep,CRep]
   exact ⟨blk,off,rfl,k⟩
  ·simp only [Rep] at hc
   obtain ⟨k1,k2,blk,sz,k3,hv⟩:=hc
   simp only [execOp,hv]
   refine stay _ rfl ?_
   simp only [Rep]
   exact ⟨k1,k2,blk,sz,k3,rfl⟩
  ·simp only [Rep] at hc
   obtain ⟨k1,k2,k3,ad,hv,k4⟩:=hc
   simp only [execOp,hv]
   refine stay _ rfl ?_
   simp only [Rep]
   exact ⟨k1,k2,k3,ad,rfl,k4⟩
  ·simp only [Rep] at hc
   obtain ⟨vs,hv,k⟩:=hc
   simp only [execOp,hv]
   refine stay _ rfl ?_
   simp only [Rep]
   exact ⟨vs,rfl,k⟩
 case binOp op t x y yt =>
  obtain ⟨h1,rfl⟩:=pureR_some h
  obtain ⟨z,q1,q2⟩:=aBin_ok hX (ox:=x) (oy:=y) h1 (hr x) (hr y)
  exact wp_val rfl q1 (stay _ rfl q2)
 case unOp op t x =>
  obtain ⟨h1,rfl⟩:=pureR_some h
  obtain ⟨z,q1,q2⟩:=aUn_ok (P:=P) h1 (hr x)
  exact wp_val rfl q1 (stay _ rfl q2)
 case convert s d x =>
  obtain ⟨h1,rfl⟩:=pureR_some h
  obtain ⟨z,q1,q2⟩:=aConv_ok h1 (hr x)
  exact wp_val rfl q1 (stay _ rfl q2)
 case alloc t =>
  obtain ⟨y,E',w',q1,q2,q3⟩:=aAlloc_ok h hI hnid0 (.tuple #[])
  exact wp_val rfl q1 (hn _ _ _ q2 q3)
 case box t x =>
  obtain ⟨y,E',w',q1,q2,q3⟩:=aBox_ok (P:=P) (t:=t) h (hr x) hI hnid0
  exact wp_val rfl q1 (hn _ _ _ q2 q3)
 case build t parts =>
  obtain ⟨h1,rfl⟩:=pureR_some h
  obtain ⟨z,q1,q2⟩:=aBuild_ok (pv:=parts.map fun p=>(p.1,a.eval p.2)) h1 (by simpa using repP_map hr parts.toList)
  exact wp_val rfl q1 (stay _ rfl q2)
 case buildSlice t n parts =>
  obtain ⟨y,E',w',q1,q2,q3⟩:=aBuildSlice_ok (pv:=parts.map fun p=>(p.1,a.eval p.2)) h (by simpa using repP_map hr parts.toList) hI hnid0
  exact wp_val rfl q1 (hn _ _ _ q2 q3)
 case makeSlice t l c =>
  obtain ⟨y,E',w',q1,q2,q3⟩:=aMakeSlice_ok h (hr l) (hr c) hI hnid0
  exact wp_val rfl q1 (hn _ _ _ q2 q3)
 case load t x =>
  obtain ⟨h1,rfl⟩:=pureR_some h
  obtain ⟨z,q1,q2⟩:=aLoad_ok h1 (hr x) hM
  exact wp_val rfl q1 (stay _ rfl q2)
 case store t x y =>
  cases hs:aStore (Types P) M t (ev x) (ev y)<;>simp only [hs,Option.map_none,Option.map_some,reduceCtorEq,Option.some.injEq,Prod.mk.injEq] at h
  obtain ⟨rfl,rfl⟩:=h
  obtain ⟨E',w',q1,q2⟩:=aStore_ok hs (hr x) (hr y) hM hI
  unfold Oper.wp
  simp only [execOp,Sem.run_bind,q1,Result.andThen_ok,Sem.run_pure]
  exact hn _ _ _ q2 (by simp [Rep,CRep])
 case fieldAddr t x f =>
  obtain ⟨h1,rfl⟩:=pureR_some h
  obtain ⟨z,q1,q2⟩:=aFieldAddr_ok h1 (hr x)
  exact wp_val rfl q1 (stay _ rfl q2)
 case field t x f =>
  obtain ⟨h1,rfl⟩:=pureR_some h
  obtain ⟨z,q1,q2⟩:=aField_ok h1 (hr x)
  exact wp_val rfl q1 (stay _ rfl q2)
 case indexAddr t x i =>
  obtain ⟨h1,rfl⟩:=pureR_some h
  obtain ⟨z,q1,q2⟩:=aIndexAddr_ok h1 (hr x) (hr i)
  exact wp_val rfl q1 (stay _ rfl q2)
 case index t x i =>
  obtain ⟨h1,rfl⟩:=pureR_some h
  obtain ⟨z,q1,q2⟩:=aIndex_ok h1 (hr x) (hr i)
  exact wp_val rfl q1 (stay _ rfl q2)
 case slice t x lo hi mx =>
  cases mx with
  | none =>
   simp only at h
   obtain ⟨h1,rfl⟩:=pureR_some h
   obtain ⟨z,q1,q2⟩:=aSlice_ok (vl:=lo.map a.eval) (vh:=hi.map a.eval) h1 (hr x) (by cases lo<;>simp [RepO];exact hr _) (by cases hi<;>simp [RepO];exact hr _) hM
   exact wp_val rfl q1 (stay _ rfl q2)
  | some mx =>
   cases hi with
   | none=>simp at h
   | some hi =>
    simp only at h
    obtain ⟨h1,rfl⟩:=pureR_some h
    obtain ⟨z,q1,q2⟩:=aSlice3_ok (vl:=lo.map a.eval) h1 (hr x) (by cases lo<;>simp [RepO];exact hr _) (hr hi) (hr mx)
    exact wp_val rfl q1 (stay _ rfl q2)
 case makeInterface t x =>
  split at h
  case h_2=>simp at h
  rename_i d hd
  split at h
  case isTrue=>simp at h
  rename_i ho
  simp only [Option.some.injEq,Prod.mk.injEq] at h
  obtain ⟨rfl,rfl⟩:=h
  have hrun:(Instr.makeInterface t (a.eval x)).run P w=.ok (.iface t (a.eval x)) w:=by
   obtain ⟨u,h1,h2⟩:=run_und (w:=w) hd
   unfold Instr.makeInterface
   rw [Sem.run_bind,h1]
   rw [h2] at ho
   cases u<;>first|rfl|(exact absurd rfl ho)
  refine wp_val (s:=Instr.makeInterface _ (a.eval x)) rfl hrun (stay _ rfl ?_)
  simp only [Rep]
  exact ⟨_,rfl,by simp only [RepL];exact ⟨hr x,trivial⟩⟩
 case makeFunc fn first caps =>
  cases fn<;>simp only [reduceCtorEq] at h
  split at h
  case isFalse=>simp at h
  rename_i hf
  simp only [Option.some.injEq,Prod.mk.injEq] at h
  obtain ⟨rfl,rfl⟩:=h
  refine wp_val (s:=Instr.makeFunc _ (first.map a.eval) (caps.map a.eval)) rfl rfl (stay _ rfl ?_)
  simp only [Rep]
  refine ⟨caps.toList.map a.eval,?_,repL_map hr _⟩
  have:first=#[]:=by simpa using hf
  subst this
  simp
  rw [← Array.toList_map]
 case makeMap t r =>
  cases r with
  | none =>
   obtain ⟨y,E',w',q1,q2,q3⟩:=aMakeMap_ok h hI hnid0
   exact wp_val rfl q1 (hn _ _ _ q2 q3)
  | some r =>
   simp only at h
   split at h
   case isFalse=>simp at h
   rename_i hh
   have hrr:=hr r
   cases hev:ev r<;>simp only [hev,hintOK,Bool.false_eq_true] at hh
   rename_i x
   cases x<;>simp only [Bool.false_eq_true] at hh
   rw [hev] at hrr
   simp only [Rep,CRep] at hrr
   obtain ⟨y,E',w',q1,q2,q3⟩:=aMakeMapH_ok hX h hI hnid0
   exact wp_val (s:=Instr.makeMap t (some (a.eval r))) rfl (by rw [hrr];exact q1) (hn _ _ _ q2 q3)
 case lookup t x i c =>
  obtain ⟨h1,rfl⟩:=pureR_some h
  obtain ⟨z,q1,q2⟩:=aLookup_ok h1 (hr x) (hr i) hM
  exact wp_val rfl q1 (stay _ rfl q2)
 case mapUpdate t x i y =>
  cases hs:aMapSet (Types P) X M t (ev x) (ev i) (ev y)<;>simp only [hs,Option.map_none,Option.map_some,reduceCtorEq,Option.some.injEq,Prod.mk.injEq] at h
  obtain ⟨rfl,rfl⟩:=h
  obtain ⟨E',w',q1,q2⟩:=aMapSet_ok hX hs (hr x) (hr i) (hr y) hM hI
  unfold Oper.wp
  simp only [execOp,Sem.run_bind,q1,Result.andThen_ok,Sem.run_pure]
  exact hn _ _ _ q2 (by simp [Rep,CRep])
 case call c =>
  unfold aCallOp at h
  obtain ⟨callee,args,argTypes⟩:=c
  cases callee<;>simp only [reduceCtorEq] at h
  case value f =>
   have hf:=hr f
   cases hev:ev f<;>simp only [hev,reduceCtorEq] at h
   rename_i g caps
   rw [hev] at hf
   simp only [Rep] at hf
   obtain ⟨vs,hv,k2⟩:=hf
   have hargs:=(repL_map hr args.toList).append k2
   rcases hX.calls g _ _ _ _ h with ⟨hco,fn,b1,b2,b3⟩|hxo
   ·have hc:=hco _ _ _ _ _ h w0 bl E w (args.map a.eval++vs.toArray) (by simpa using hargs) hM hI hnid
    have hb:fn.body.isNone=false:=by cases hh:fn.body<;>simp [hh] at b2 ⊢
    unfold Oper.wp
    simp only [execOp,resolve,hv,Deferred.ofValue,Sem.run_bind,Sem.run_pure,Result.andThen_ok,invoke,callFunc,run_program,b1,b3,hb,Bool.false_eq_true,if_false,Array.empty_append]
    exact Calls.mono hc fun e w' ⟨x,E',he,hst,hrep⟩=>by subst he;exact hn x E' w' hst hrep
   ·obtain ⟨hu,hrun⟩:=hxo _ _ _ _ _ h
    obtain ⟨x,w',q1,q2,q3,q4,q5⟩:=hrun w0 bl E w (args.map a.eval++vs.toArray) (by simpa using hargs) hM hI
    subst hu
    unfold Oper.wp
    simp only [execOp,resolve,hv,Deferred.ofValue,Sem.run_bind,Sem.run_pure,Result.andThen_ok,invoke,Array.empty_append,q1]
    have st:=StepTo.refl hI q2 q3 q4
    exact hn x E w' st (st.rep hI q5)
  case builtin b =>
   have htl:args.map a.eval=(args.toList.map a.eval).toArray:=by rw [← Array.toList_map]
   split at h<;>(try (simp at h;done))
   ·rename_i x t ts heq1 heq2
    obtain ⟨h1,rfl⟩:=pureR_some h
    have ha:argTypes[0]?=some t:=by rw [← Array.getElem?_toList,heq2];rfl
    obtain ⟨z,q1,q2⟩:=aLenX_ok (P:=P) (ats:=argTypes) (ty:=type) h1 (hr x) hM ha
    refine wp_val (s:=Builtin.len_ argTypes type (args.map a.eval)) rfl ?_ (stay _ rfl q2)
    rw [htl,heq1]
    exact q1
   ·rename_i x y t u' heq1 heq2
    obtain ⟨z,E',w',q1,q2,q3⟩:=aApp_ok h (hr x) (hr y) hM hI hnid0 type
    refine wp_val (s:=Builtin.append_ argTypes type (args.map a.eval)) rfl ?_ (hn _ _ _ q2 q3)
    rw [htl,heq1,show argTypes=#[t,u'] from by rw [← Array.toArray_toList (xs:=argTypes),heq2]]
    exact q1
   ·rename_i x t ts heq1 heq2
    obtain ⟨h1,rfl⟩:=pureR_some h
    have ha:argTypes[0]?=some t:=by rw [← Array.getElem?_toList,heq2];rfl
    obtain ⟨z,q1,q2⟩:=aCap_ok (P:=P) (ats:=argTypes) (ty:=type) h1 (hr x) hM ha
    refine wp_val (s:=Builtin.cap_ argTypes type (args.map a.eval)) rfl ?_ (stay _ rfl q2)
    rw [htl,heq1]
    exact q1
   ·rename_i x y t u' heq1 heq2
    obtain ⟨z,E',w',q1,q2,q3⟩:=aCopy_ok (t':=u') h (hr x) (hr y) hM hI type
    refine wp_val (s:=Builtin.copy_ argTypes type (args.map a.eval)) rfl ?_ (hn _ _ _ q2 q3)
    rw [htl,heq1,show argTypes=#[t,u'] from by rw [← Array.toArray_toList (xs:=argTypes),heq2]]
    exact q1
   ·rename_i x t heq1 heq2
    obtain ⟨z,E',w',q1,q2,q3⟩:=aClear_ok h (hr x) hM hI type
    refine wp_val (s:=Builtin.clear_ argTypes type (args.map a.eval)) rfl ?_ (hn _ _ _ q2 q3)
    rw [htl,heq1,show argTypes=#[t] from by rw [← Array.toArray_toList (xs:=argTypes),heq2]]
    exact q1
   ·rename_i x y t u' heq1 heq2
    cases hs:aMapDel (Types P) M t (ev x) (ev y)<;>simp only [hs,Option.map_none,Option.map_some,reduceCtorEq,Option.some.injEq,Prod.mk.injEq] at h
    obtain ⟨rfl,rfl⟩:=h
    have ha:argTypes[0]?=some t:=by rw [← Array.getElem?_toList,heq2];rfl
    obtain ⟨E',w',q1,q2⟩:=aMapDel_ok (kt:=u') (ats:=argTypes) (ty:=type) hs (hr x) (hr y) hM hI ha
    refine wp_val (s:=Builtin.delete_ argTypes type (args.map a.eval)) (x:=.tuple #[]) rfl ?_ (hn _ _ _ q2 (by simp [Rep,CRep]))
    rw [htl,heq1]
    exact q1
   ·rename_i x y heq1
    obtain ⟨h1,rfl⟩:=pureR_some h
    obtain ⟨z,q1,q2⟩:=aMin_ok (P:=P) (vs:=[a.eval x,a.eval y]) (ats:=argTypes) (ty:=type) h1 (by simp only [RepL];exact ⟨hr x,hr y,trivial⟩)
    refine wp_val (s:=Builtin.min_ argTypes type (args.map a.eval)) rfl ?_ (stay _ rfl q2)
    rw [htl,heq1]
    exact q1
   ·rename_i x y heq1
    obtain ⟨h1,rfl⟩:=pureR_some h
    obtain ⟨z,q1,q2⟩:=aMax_ok (P:=P) (vs:=[a.eval x,a.eval y]) (ats:=argTypes) (ty:=type) h1 (by simp only [RepL];exact ⟨hr x,hr y,trivial⟩)
    refine wp_val (s:=Builtin.max_ argTypes type (args.map a.eval)) rfl ?_ (stay _ rfl q2)
    rw [htl,heq1]
    exact q1
end
end Go.AM
