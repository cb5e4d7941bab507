/- A part of the proof: what functions of the program compute, by abstract execution of their code. Its theorems hold without further condition. -/
import Derived.Test.YtcfhmdljeeppfaaAmA
set_option linter.all false
namespace Go.AM
open Go
inductive TK where
 | int (k:IntKind)|bool|slice (e:TypeId)|array (n:Nat) (e:TypeId)|struct (fs:List (Nat×TypeId×Nat))|pointer (e:TypeId)|map (k e:TypeId) (z:Option Value)|str|func|other
 deriving Inhabited
structure TD where
 k:TK
 size:Nat
 bytes:Nat
 zero:List Value
 deriving Inhabited
def TK.isOther:TK→Bool
 | .other=>true
 | _=>false
def TK.agg:TK→Bool
 | .array ..|.struct ..=>true
 | _=>false
def tkOf (P:Program):TypeDesc→TK
 | .int k=>.int k
 | .bool=>.bool
 | .slice e=>.slice e
 | .array n e=>.array n e
 | .struct fs=>match fs.toList.mapM (fun f=>(P.info? f.type).map fun i=>(f.offset,f.type,i.size)) with|some l=>.struct l|none=>.other
 | .pointer e=>.pointer e
 | .map k e=>.map k e ((P.info? e).bind (·.zero))
 | .string=>.str
 | .func ..=>.func
 | _=>.other
def Types (P:Program) (t:TypeId):Option TD :=
 match P.underlying t,P.info? t with
 | some u,some i=>match i.zero with
  | some z=>some ⟨tkOf P u,i.size,i.bytes,z.cells.toList⟩
  | none=>none
 | _,_=>none
theorem types_spec {P:Program} {t:TypeId} {d:TD} (h:Types P t=some d):∃ u i z,P.underlying t=some u∧P.info? t=some i∧i.zero=some z∧d=⟨tkOf P u,i.size,i.bytes,z.cells.toList⟩:=by
 unfold Types at h
 cases hu:P.underlying t<;>cases hi:P.info? t<;>simp only [hu,hi] at h<;>try (simp at h;done)
 rename_i u i
 cases hz:i.zero<;>simp only [hz] at h
 ·simp at h
 ·rename_i z
  exact ⟨u,i,z,rfl,rfl,hz,by simpa using h.symm⟩
section
variable {P:Program} {w:World} {t:TypeId} {d:TD}
theorem run_und (h:Types P t=some d):∃ u,(underlying t).run P w=.ok u w∧d.k=tkOf P u:=by
 obtain ⟨u,i,z,h1,h2,h3,rfl⟩:=types_spec h
 exact ⟨u,run_underlying h1 w,rfl⟩
theorem und_slice {e:TypeId} (h:Types P t=some d) (hk:d.k=.slice e):(underlying t).run P w=.ok (.slice e) w:=by
 obtain ⟨u,i,z,h1,h2,h3,rfl⟩:=types_spec h
 rw [run_underlying h1 w]
 cases u<;>simp only [tkOf,reduceCtorEq] at hk<;>(try (split at hk<;>simp at hk;done))
 simpa using hk
theorem und_array {n:Nat} {e:TypeId} (h:Types P t=some d) (hk:d.k=.array n e):(underlying t).run P w=.ok (.array n e) w:=by
 obtain ⟨u,i,z,h1,h2,h3,rfl⟩:=types_spec h
 rw [run_underlying h1 w]
 cases u<;>simp only [tkOf,reduceCtorEq] at hk<;>(try (split at hk<;>simp at hk;done))
 simpa using hk
theorem und_int {k:IntKind} (h:Types P t=some d) (hk:d.k=.int k):(underlying t).run P w=.ok (.int k) w:=by
 obtain ⟨u,i,z,h1,h2,h3,rfl⟩:=types_spec h
 rw [run_underlying h1 w]
 cases u<;>simp only [tkOf,reduceCtorEq] at hk<;>(try (split at hk<;>simp at hk;done))
 simpa using hk
theorem und_str (h:Types P t=some d) (hk:d.k=.str):(underlying t).run P w=.ok .string w:=by
 obtain ⟨u,i,z,h1,h2,h3,rfl⟩:=types_spec h
 rw [run_underlying h1 w]
 cases u<;>simp only [tkOf,reduceCtorEq] at hk<;>(try (split at hk<;>simp at hk;done))
 rfl
theorem run_size (h:Types P t=some d):(sizeOf t).run P w=.ok d.size w:=by
 obtain ⟨u,i,z,h1,h2,h3,rfl⟩:=types_spec h
 simp [sizeOf,run_typeInfo w h2]
theorem run_info (h:Types P t=some d):∃ i,(typeInfo t).run P w=.ok i w∧i.bytes=d.bytes∧i.size=d.size:=by
 obtain ⟨u,i,z,h1,h2,h3,rfl⟩:=types_spec h
 exact ⟨i,run_typeInfo w h2,rfl,rfl⟩
theorem run_zero (h:Types P t=some d):∃ z,(zeroValue t).run P w=.ok z w∧z.cells.toList=d.zero:=by
 obtain ⟨u,i,z,h1,h2,h3,rfl⟩:=types_spec h
 exact ⟨z,by simp [zeroValue,run_typeInfo w h2,h3],rfl⟩
theorem run_agg (h:Types P t=some d) (ho:d.k≠.other):(isAgg t).run P w=.ok d.k.agg w:=by
 obtain ⟨u,i,z,h1,h2,h3,rfl⟩:=types_spec h
 simp only [isAgg,Sem.run_bind,run_underlying h1 w,Result.andThen_ok]
 cases u<;>simp only [tkOf,ne_eq,not_true_eq_false] at ho ⊢<;>try rfl
 split
 ·rfl
 ·rename_i hh;rw [hh] at ho;simp at ho
theorem und_struct {fs:List (Nat×TypeId×Nat)} (h:Types P t=some d) (hk:d.k=.struct fs):∃ l,(underlying t).run P w=.ok (.struct l) w∧P.underlying t=some (.struct l)∧l.toList.mapM (fun f=>(P.info? f.type).map fun i=>(f.offset,f.type,i.size))=some fs:=by
 obtain ⟨u,i,z,h1,h2,h3,rfl⟩:=types_spec h
 cases u<;>simp only [tkOf,reduceCtorEq] at hk
 rename_i l
 refine ⟨l,run_underlying h1 w,h1,?_⟩
 split at hk
 ·rename_i hh;rw [hh];simpa using hk
 ·simp at hk
end
def loadA (agg:Bool) (n:Nat) (cs:List AV) (o:Nat):Option AV :=
 if agg then (if o+n≤cs.length then some (.agg ((cs.drop o).take n)) else none) else cs[o]?
def aLoad (T:TypeId→Option TD) (M:Nat→AO) (t:TypeId) (a:AV):Option AV :=
 match T t with
 | none=>none
 | some d =>
  if d.k.isOther then none else
  match a with
  | .bp b o=>match M b with
   | .box cs=>loadA d.k.agg d.size cs o
   | _=>none
  | .rp cs=>loadA d.k.agg d.size cs 0
  | .ep b m s i j=>match M b with
   | .vec m' s' _ xs=>if m=m'∧s=s' then (match xs[i]? with|some e=>loadA d.k.agg d.size e j|none=>none) else none
   | .vo m' s' xs k e=>if m=m'∧s=s' then (if i=k then loadA d.k.agg d.size e j else match xs[i]? with|some r=>loadA d.k.agg d.size r j|none=>none) else none
   | _=>none
  | _=>none
theorem run_loadVar_at {P:Program} {w:World} {t:TypeId} {d:TD} (h:Types P t=some d) {E:Env} {cs:List AV} {vs:List Value} {blk off o:Nat} {av:AV}
  (hr:RepL E w cs vs) (hone:∀ y∈vs,y.oneCell'=true) (hc:∀ j v,vs[j]?=some v→w.cell? ⟨blk,off+j,none⟩=some v) (hl:loadA d.k.agg d.size cs o=some av) (hoth:d.k.isOther=false) :
  ∃ y,(loadVar t ⟨blk,off+o,none⟩).run P w=.ok y w∧Rep E w av y:=by
 have hne:d.k≠.other:=fun e=>by rw [e] at hoth;simp [TK.isOther] at hoth
 unfold loadA at hl
 cases ha:d.k.agg<;>simp only [ha,Bool.false_eq_true,if_false,if_true] at hl
 ·obtain ⟨y,h1,h2⟩:=hr.get hl
  exact ⟨y,by simp [loadVar,run_agg h hne,ha,run_load,hc o y h1],h2⟩
 ·split at hl
  ·rename_i hlt
   simp only [Option.some.injEq] at hl
   subst hl
   have hlen:=hr.length
   have hrun:(loadCells ⟨blk,off+o,none⟩ ((vs.drop o).take d.size).length).run P w=.ok ((vs.drop o).take d.size).toArray w:=by
    refine run_loadCells_list (P:=P) (w:=w) _ _ fun j v e=>?_
    rw [add_plain,Nat.add_assoc]
    refine hc _ _ ?_
    rw [List.getElem?_take] at e
    split at e
    ·rwa [List.getElem?_drop] at e
    ·simp at e
   rw [show ((vs.drop o).take d.size).length=d.size from by simp;omega] at hrun
   refine ⟨.agg ((vs.drop o).take d.size).toArray,by simp [loadVar,run_agg h hne,ha,run_size h,hrun],?_⟩
   simp only [Rep]
   exact ⟨_,rfl,fun y hy=>hone y (List.mem_of_mem_drop (List.mem_of_mem_take hy)),(hr.drop o).take _⟩
  ·simp at hl
theorem box_cells {E:Env} {w:World} {b:Nat} {cs:List AV} (h:ObjRep E w b (.box cs)):∃ blk sz vs,E.loc b=some (blk,0,sz)∧RepL E w cs vs∧(∀ y∈vs,y.oneCell'=true)∧∀ j v,vs[j]?=some v→w.cell? ⟨blk,j,none⟩=some v:=by
 simp only [ObjRep] at h
 obtain ⟨_,blk,t,vs,h1,h2,h3,h4⟩:=h
 exact ⟨blk,_,vs,h1,h4,h3,fun j v e=>by rw [cell_of_row w blk j _ t _ h2];simpa using e⟩
theorem aLoad_ok {P:Program} {M:Nat→AO} {t:TypeId} {a av:AV} {E:Env} {w:World} {x:Value} (h:aLoad (Types P) M t a=some av) (hr:Rep E w a x) (hM:MemOK E w M) :
  ∃ y,(Instr.loadAt t x).run P w=.ok y w∧Rep E w av y:=by
 unfold aLoad at h
 cases ht:Types P t<;>simp only [ht] at h
 ·simp at h
 rename_i d
 split at h
 ·simp at h
 rename_i hoth
 have hoth:d.k.isOther=false:=by simpa using hoth
 cases a<;>simp only [reduceCtorEq] at h
 case rp cs =>
  simp only [Rep,CRep] at hr
  obtain ⟨blk,off,rfl,hg,hcs⟩:=hr
  obtain ⟨vs,h1,h2,h3,h4⟩:=hcs.vals
  have:=run_loadVar_at ht (E:=E) (o:=0) (Rep.of_c.go h2) h3 h4 h hoth
  simpa [Instr.loadAt,Instr.sureAddr] using this
 case bp b o =>
  simp only [Rep] at hr
  obtain ⟨h1,h2,blk,sz,h3,rfl⟩:=hr
  have ho:=hM b h1
  cases hb:M b<;>simp only [hb,reduceCtorEq] at h ho
  rename_i cs
  obtain ⟨blk',sz',vs,k1,k2,k3,k4⟩:=box_cells ho
  rw [h3] at k1
  simp only [Option.some.injEq,Prod.mk.injEq] at k1
  obtain ⟨rfl,_,_⟩:=k1
  have:=run_loadVar_at ht (E:=E) (off:=0) k2 k3 (fun j v e=>by simpa using k4 j v e) h hoth
  simpa [Instr.loadAt,Instr.sureAddr] using this
 case ep b m s i j =>
  simp only [Rep] at hr
  obtain ⟨h1,h2,h3,pa,rfl,h5⟩:=hr
  have ho:=hM b h1
  cases hb:M b<;>simp only [hb,reduceCtorEq] at h ho
  ·rename_i m' s' f xs
   split at h
   ·rename_i hm
    obtain ⟨rfl,rfl⟩:=hm
    cases hx:xs[i]?<;>simp only [hx,reduceCtorEq] at h
    rename_i e
    simp only [ObjRep] at ho
    obtain ⟨k1,k2,k3⟩:=ho
    obtain ⟨blk,base,sz,hl,rfl⟩:=h5 k1.symm
    simp only [hl] at k3
    obtain ⟨c,ty,k4,k5,k5',k6,k6',k7⟩:=k3
    obtain ⟨l1,l2⟩:=k7.get hx
    obtain ⟨vs,n1,n2,n3,n4⟩:=l2.vals
    have:=run_loadVar_at ht (E:=E) (Rep.of_c.go n2) n3 n4 h hoth
    simpa [Instr.loadAt,Instr.sureAddr] using this
   ·simp at h
  ·rename_i m' s' xs k e
   split at h
   case isFalse=>simp at h
   rename_i hm
   obtain ⟨rfl,rfl⟩:=hm
   simp only [ObjRep] at ho
   obtain ⟨k1,k2,kk,ke,blk,base,sz,c,ty,us,hl0,k4,k5,k5',k6,k7,k8,k8',k9⟩:=ho
   obtain ⟨blk',base',sz',hl,rfl⟩:=h5 k1.symm
   rw [hl0] at hl
   simp only [Option.some.injEq,Prod.mk.injEq] at hl
   obtain ⟨rfl,rfl,rfl⟩:=hl
   split at h
   ·rename_i hik
    subst hik
    have:=run_loadVar_at ht (E:=E) k8 k8' k9 h hoth
    simpa [Instr.loadAt,Instr.sureAddr] using this
   ·rename_i hik
    cases hx:xs[i]?<;>simp only [hx,reduceCtorEq] at h
    obtain ⟨l1,l2⟩:=k7 i _ hik hx
    obtain ⟨vs,n1,n2,n3,n4⟩:=l2.vals
    have:=run_loadVar_at ht (E:=E) (Rep.of_c.go n2) n3 n4 h hoth
    simpa [Instr.loadAt,Instr.sureAddr] using this
def AV.leaf:AV→Bool
 | .v x=>x.oneCell'
 | .rd ..|.rp ..|.bp ..|.sl ..|.ep ..|.bs ..|.fn ..|.ifc ..|.mp ..|.rm ..=>true
 | _=>false
def AV.cells:AV→Option (List AV)
 | .agg cs=>some cs
 | a=>if a.leaf then some [a] else none
def setL {α:Type} (cs:List α) (o:Nat):List α→List α
 | []=>cs
 | a::r=>setL (cs.set o a) (o+1) r
def putL (cs:List AV) (o:Nat) (new:List AV):List AV:=if o=0∧new.length=cs.length then new else setL cs o new
def AV.isClosed:AV→Bool
 | .v _|.rd ..|.rp ..|.rm ..=>true
 | _=>false
def aStore (T:TypeId→Option TD) (M:Nat→AO) (t:TypeId) (a x:AV):Option (List (Nat×AO)) :=
 match T t,x.cells with
 | some d,some new =>
  if new.length=d.size then
   match a with
   | .bp b o=>match M b with
    | .box cs=>if o+new.length≤cs.length then some [(b,.box (putL cs o new))] else none
    | _=>none
   | .ep b m s i j=>match M b with
    | .vec m' s' f xs=>if m=m'∧s=s'∧new.all AV.isClosed=true then (match xs[i]? with|some e=>if j+new.length≤e.length then some [(b,.vec m s f (xs.set i (putL e j new)))] else none|none=>none) else none
    | .vo m' s' xs k e=>if m=m'∧s=s' then (if i=k then (if j+new.length≤e.length then some [(b,.vo m s xs k (putL e j new))] else none)
      else if new.all AV.isClosed=true then (match xs[i]? with|some r=>if j+new.length≤r.length then some [(b,.vo m s (xs.set i (putL r j new)) k e)] else none|none=>none) else none) else none
    | _=>none
   | _=>none
  else none
 | _,_=>none
theorem Rep.one {E:Env} {w:World}:∀ {a:AV} {x:Value},a.leaf=true→Rep E w a x→x.oneCell'=true
 | .v _,_,h,hr=>by simp only [Rep,CRep] at hr;subst hr;exact h
 | .rd ..,_,_,hr=>by simp only [Rep,CRep] at hr;obtain ⟨p,c,rfl,_⟩:=hr;rfl
 | .rp ..,_,_,hr=>by simp only [Rep,CRep] at hr;obtain ⟨p,c,rfl,_⟩:=hr;rfl
 | .bp ..,_,_,hr=>by simp only [Rep] at hr;obtain ⟨_,_,p,c,_,rfl⟩:=hr;rfl
 | .sl ..,_,_,hr=>by simp only [Rep] at hr;obtain ⟨_,_,_,_,_,rfl,_⟩:=hr;rfl
 | .ep ..,_,_,hr=>by simp only [Rep] at hr;obtain ⟨_,_,_,_,rfl,_⟩:=hr;rfl
 | .bs ..,_,_,hr=>by simp only [Rep] at hr;obtain ⟨_,_,_,_,_,_,_,rfl,_⟩:=hr;rfl
 | .fn ..,_,_,hr=>by simp only [Rep] at hr;obtain ⟨_,rfl,_⟩:=hr;rfl
 | .ifc ..,_,_,hr=>by simp only [Rep] at hr;obtain ⟨_,rfl,_⟩:=hr;rfl
 | .mp ..,_,_,hr=>by simp only [Rep] at hr;obtain ⟨_,_,_,_,rfl,_⟩:=hr;rfl
 | .rm ..,_,_,hr=>by simp only [Rep,CRep] at hr;obtain ⟨_,_,_,rfl,_⟩:=hr;rfl
 | .om ..,_,h,_=>by simp [AV.leaf] at h
 | .any,_,h,_=>by simp [AV.leaf] at h
 | .agg _,_,h,_=>by simp [AV.leaf] at h
 | .tup _,_,h,_=>by simp [AV.leaf] at h
 | .ow ..,_,h,_=>by simp [AV.leaf] at h
 | .rf ..,_,h,_=>by simp [AV.leaf] at h
theorem Value.cells_one {x:Value} (h:x.oneCell'=true):x.cells=#[x]:=by
 cases x<;>simp [Value.oneCell',Value.cells] at h ⊢
theorem Rep.cells {E:Env} {w:World} {a:AV} {x:Value} {new:List AV} (h:a.cells=some new) (hr:Rep E w a x):∃ vs:List Value,x.cells=vs.toArray∧RepL E w new vs∧∀ y∈vs,y.oneCell'=true:=by
 have leafcase:a.leaf=true→new=[a]→∃ vs:List Value,x.cells=vs.toArray∧RepL E w new vs∧∀ y∈vs,y.oneCell'=true:=fun h1 h2=>by
  subst h2
  have:=hr.one h1
  exact ⟨[x],by rw [Value.cells_one this],by simp [RepL,hr],by simpa using this⟩
 cases a
 case agg cs =>
  simp only [AV.cells,Option.some.injEq] at h
  subst h
  simp only [Rep] at hr
  obtain ⟨vs,rfl,h2,h3⟩:=hr
  exact ⟨vs,rfl,h3,h2⟩
 all_goals
  simp only [AV.cells] at h
  split at h
  ·rename_i hl
   exact leafcase hl (by simpa using h.symm)
  ·simp at h
theorem setL_length {α:Type}:∀ (new cs:List α) (o:Nat),(setL cs o new).length=cs.length
 | [],cs,o=>rfl
 | a::r,cs,o=>by rw [setL,setL_length r];simp
theorem RepL.setL {E:Env} {w:World}:∀ {new:List AV} {vs:List Value} {cs:List AV} {us:List Value} {o:Nat},RepL E w cs us→RepL E w new vs→RepL E w (AM.setL cs o new) (AM.setL us o vs)
 | [],[],cs,us,o,h,_=>by simpa [AM.setL] using h
 | a::r,x::xs,cs,us,o,h,k=>by simp only [RepL] at k;simp only [AM.setL];exact RepL.setL (h.set k.1) k.2
 | [],_::_,_,_,_,_,k=>by simp [RepL] at k
 | _::_,[],_,_,_,_,k=>by simp [RepL] at k
theorem setL_mem {α:Type} {p:α→Prop}:∀ {new cs:List α} {o:Nat},(∀ y∈cs,p y)→(∀ y∈new,p y)→∀ y∈setL cs o new,p y
 | [],cs,o,h,_=>by simpa [setL] using h
 | a::r,cs,o,h,k=>by
  simp only [setL]
  refine setL_mem (fun y hy=>?_) (fun y hy=>k y (by simp [hy]))
  rcases List.mem_or_eq_of_mem_set hy with h1|h1
  ·exact h y h1
  ·subst h1;exact k _ (by simp)
theorem setL_all {α:Type}:∀ {new cs:List α} {o:Nat},o+new.length=cs.length→setL cs o new=cs.take o++new
 | [],cs,o,h=>by simp [setL];simp at h;rw [List.take_of_length_le (by omega)]
 | a::r,cs,o,h=>by
  simp only [setL]
  rw [setL_all (by simp at h ⊢;omega)]
  rw [List.take_succ_eq_append_getElem (by simp at h ⊢;omega)]
  simp [List.take_set_of_le]
theorem putL_eq {cs new:List AV} {o:Nat} (h:o+new.length≤cs.length):putL cs o new=setL cs o new:=by
 unfold putL
 split
 ·rename_i h1
  obtain ⟨rfl,h2⟩:=h1
  rw [setL_all (by omega)]
  simp
 ·rfl
theorem run_storeCells_at {P:Program} {t:TypeId} {blk:Nat}:∀ {vs:List Value} {off i:Nat} {c:Array Value} {w:World},w.heap[blk]?=some (.cells c t (0,0))→off+i+vs.length≤c.size→(∀ y∈vs,y.oneCell'=true) →
  (storeCells ⟨blk,off,none⟩ vs i).run P w=.ok () (w.setRow blk (setL c.toList (off+i) vs).toArray)
 | [],off,i,c,w,hc,_,_=>by
  simp only [storeCells,Sem.run_pure,setL,Array.toArray_toList]
  congr 1
  unfold World.setRow
  cases w
  simp only at hc ⊢
  congr 1
  apply Array.ext
  ·simp
  ·intro k h1 h2
   rw [Array.getElem_modify]
   split
   ·rename_i e
    subst e
    rw [(Array.getElem?_eq_some_iff.1 hc).2]
   ·rfl
 | v::r,off,i,c,w,hc,hl,ho=>by
  have hv:=ho v (by simp)
  have hlt:off+i<c.size:=by simp at hl;omega
  simp only [storeCells,Sem.run_bind,add_plain]
  rw [run_store P w _ v _ hv,cell_of_row w blk _ c t _ hc,frozen_of_row w blk _ c t hc]
  simp only [Array.getElem?_eq_getElem hlt,Bool.false_eq_true,if_false,Result.andThen_ok]
  rw [setCell_eq_setRow w blk (off+i) c t (0,0) v hc]
  have hc':=setRow_heap w blk c (c.setIfInBounds (off+i) v) t (0,0) hc
  have:=run_storeCells_at (P:=P) (vs:=r) (off:=off) (i:=i+1) hc' (by simp at hl ⊢;omega) (fun y hy=>ho y (by simp [hy]))
  rw [this,setRow_setRow]
  simp [setL,Nat.add_assoc]
theorem mul_add_inj {s i j i' j':Nat} (h:j<s) (h':j'<s) (e:i*s+j=i'*s+j'):i=i'∧j=j':=by
 have h1:(i*s+j)/s=i:=by rw [Nat.add_comm,Nat.mul_comm,Nat.add_mul_div_left _ _ (by omega),Nat.div_eq_of_lt h];omega
 have h2:(i'*s+j')/s=i':=by rw [Nat.add_comm,Nat.mul_comm,Nat.add_mul_div_left _ _ (by omega),Nat.div_eq_of_lt h'];omega
 have:i=i':=by rw [← h1,e,h2]
 subst this
 exact ⟨rfl,by omega⟩
theorem setL_get {α:Type}:∀ {new cs:List α} {o k:Nat},o+new.length≤cs.length→(setL cs o new)[k]?=if o≤k∧k<o+new.length then new[k - o]? else cs[k]?
 | [],cs,o,k,h=>by simp [setL];intro h1 h2;omega
 | a::r,cs,o,k,h=>by
  simp only [setL]
  rw [setL_get (by simp at h ⊢;omega)]
  simp only [List.length_cons]
  by_cases h1:k=o
  ·subst h1
   rw [if_neg (by omega),if_pos (by omega),List.getElem?_set_self (by simp at h;omega)]
   simp
  ·by_cases h2:o+1≤k∧k<o+1+r.length
   ·rw [if_pos h2,if_pos (by omega),show k - o=(k - (o+1))+1 from by omega]
    simp
   ·rw [if_neg h2,if_neg (by omega),List.getElem?_set_ne (Ne.symm h1)]
theorem CRepL.get {w:World} {G:Nat→Prop}:∀ {as:List AV} {xs:List Value} {i:Nat} {a:AV},CRepL w G as xs→as[i]?=some a→∃ x,xs[i]?=some x∧CRep w G a x
 | [],[],i,a,_,h=>by simp at h
 | a::as,x::xs,0,a',h,e=>by simp only [CRepL] at h;simp at e;subst e;exact ⟨x,by simp,h.1⟩
 | a::as,x::xs,i+1,a',h,e=>by simp only [CRepL] at h;simp at e;simpa using CRepL.get h.2 e
 | [],_::_,_,_,h,_=>by simp [CRepL] at h
 | _::_,[],_,_,h,_=>by simp [CRepL] at h
theorem Rep.to_c {E:Env} {w:World}:∀ {a:AV} {x:Value},a.isClosed=true→Rep E w a x→CRep w E.G a x
 | .v _,_,_,h=>by simpa only [Rep] using h
 | .rd ..,_,_,h=>by simpa only [Rep] using h
 | .rp ..,_,_,h=>by simpa only [Rep] using h
 | .rm ..,_,_,h=>by simpa only [Rep] using h
 | .mp ..,_,h,_=>by simp [AV.isClosed] at h
 | .om ..,_,h,_=>by simp [AV.isClosed] at h
 | .any,_,h,_=>by simp [AV.isClosed] at h
 | .agg _,_,h,_=>by simp [AV.isClosed] at h
 | .tup _,_,h,_=>by simp [AV.isClosed] at h
 | .ow ..,_,h,_=>by simp [AV.isClosed] at h
 | .rf ..,_,h,_=>by simp [AV.isClosed] at h
 | .bp ..,_,h,_=>by simp [AV.isClosed] at h
 | .sl ..,_,h,_=>by simp [AV.isClosed] at h
 | .ep ..,_,h,_=>by simp [AV.isClosed] at h
 | .bs ..,_,h,_=>by simp [AV.isClosed] at h
 | .fn ..,_,h,_=>by simp [AV.isClosed] at h
 | .ifc ..,_,h,_=>by simp [AV.isClosed] at h
theorem RepL.to_c {E:Env} {w:World}:∀ {as:List AV} {xs:List Value},as.all AV.isClosed=true→RepL E w as xs→CRepL w E.G as xs
 | [],[],_,_=>by simp [CRepL]
 | a::as,x::xs,hc,h=>by
  simp only [List.all_cons,Bool.and_eq_true] at hc
  simp only [RepL] at h
  simp only [CRepL]
  exact ⟨h.1.to_c hc.1,RepL.to_c hc.2 h.2⟩
 | [],_::_,_,h=>by simp [RepL] at h
 | _::_,[],_,h=>by simp [RepL] at h
theorem aStore_ok {P:Program} {M:Nat→AO} {t:TypeId} {a av:AV} {u:List (Nat×AO)} {w0:World} {bl:Bk} {E:Env} {w:World} {x y:Value} (h:aStore (Types P) M t a av=some u)
  (hr:Rep E w a x) (hv:Rep E w av y) (hM:MemOK E w M) (hI:Inv w0 bl E w) :
  ∃ E' w',(Instr.storeAt t x y).run P w=.ok () w'∧StepTo w0 bl E w u E' w':=by
 unfold aStore at h
 cases ht:Types P t<;>simp only [ht,reduceCtorEq] at h
 rename_i d
 cases hn:av.cells<;>simp only [hn,reduceCtorEq] at h
 rename_i new
 obtain ⟨vs,hvs,hvr,hone⟩:=hv.cells hn
 split at h
 case isFalse=>simp at h
 rename_i hsz
 have hlen:=hvr.length
 have hrunv:∀ (blk off:Nat) (c:Array Value) (ty:TypeId),w.heap[blk]?=some (.cells c ty (0,0))→off+vs.length≤c.size →
   (Instr.storeAt t (.pointer (some ⟨blk,off,none⟩)) y).run P w=.ok () (w.setRow blk (setL c.toList off vs).toArray):=fun blk off c ty hc hl=>by
  have:=run_storeCells_at (P:=P) (i:=0) (off:=off) hc (by omega) hone
  have hs:y.cells.size=d.size:=by rw [hvs];simp;omega
  simp [Instr.storeAt,Instr.sureAddr,storeVar,run_size ht,hs]
  rw [hvs]
  simpa using this
 cases a<;>simp only [reduceCtorEq] at h
 case bp b o =>
  simp only [Rep] at hr
  obtain ⟨h1,h2,blk,sz,h3,rfl⟩:=hr
  have ho:=hM b h1
  cases hb:M b<;>simp only [hb,reduceCtorEq] at h ho
  rename_i cs
  split at h
  case isFalse=>simp at h
  rename_i hle
  simp only [Option.some.injEq] at h
  subst h
  rw [putL_eq hle]
  simp only [ObjRep] at ho
  obtain ⟨hver,blk',ty,us,k1,k2,k3,k4⟩:=ho
  rw [h3] at k1
  simp only [Option.some.injEq,Prod.mk.injEq] at k1
  obtain ⟨rfl,-,rfl⟩:=k1
  have hlu:=k4.length
  refine ⟨E.upd b (E.ver b) (some (blk,0,us.length)),_,hrunv blk o _ ty k2 (by simp;omega),?_⟩
  refine StepTo.write hI b _ (E.ver b) blk 0 0 us.length us.length us.toArray _ ty h1 h3 k2 (.inl ⟨rfl,rfl,rfl⟩) ?_
  have hlen2:(setL us o vs).length=us.length:=setL_length _ _ _
  simp only [ObjRep]
  refine ⟨by simp [Env.upd,hver],blk,ty,setL us o vs,?_,setRow_heap w blk _ _ ty _ k2,setL_mem k3 hone,?_⟩
  ·simp [Env.upd,hlen2]
  ·have hw:∀ k,E.G k→(w.setRow blk (setL us.toArray.toList o vs).toArray).heap[k]?=w.heap[k]?:=fun k hk =>
    setRow_other _ _ _ _ fun e=>by subst e;exact (hI.locs b _ _ _ h1 h3).2.1 hk
   exact (RepL.setL k4 hvr).mono (Env.le_upd fun _=>.inl ⟨rfl,h3.symm⟩) hw
 case ep b m s i j =>
  simp only [Rep] at hr
  obtain ⟨h1,h2,h3,pa,rfl,h5⟩:=hr
  have ho:=hM b h1
  cases hb:M b<;>simp only [hb,reduceCtorEq] at h ho
  ·rename_i m' s' f xs
   split at h
   case isFalse=>simp at h
   rename_i hm
   obtain ⟨rfl,rfl,hcl⟩:=hm
   cases hx:xs[i]?<;>simp only [hx,reduceCtorEq] at h
   rename_i e
   split at h
   case isFalse=>simp at h
   rename_i hle
   simp only [Option.some.injEq] at h
   subst h
   rw [putL_eq hle]
   simp only [ObjRep] at ho
   obtain ⟨k1,k2,k3⟩:=ho
   obtain ⟨blk,base,sz,hl,rfl⟩:=h5 k1.symm
   simp only [hl] at k3
   obtain ⟨c,ty,k4,k5,k5',k6,k6',k7⟩:=k3
   have hes:=(k7.get hx).1
   have hil:i<xs.length:=(List.getElem?_eq_some_iff.1 hx).1
   have hmul:(i+1)*s≤xs.length*s:=Nat.mul_le_mul_right s hil
   have hmul':(i+1)*s=i*s+s:=by rw [Nat.add_mul];omega
   refine ⟨E.upd b (E.ver b) (some (blk,base,sz)),_,hrunv blk _ c ty k4 (by omega),?_⟩
   refine StepTo.write hI b _ (E.ver b) blk base base sz sz c _ ty h1 hl k4 (.inl ⟨rfl,rfl,rfl⟩) ?_
   have hG:∀ k,E.G k→(w.setRow blk (setL c.toList (base+i*s+j) vs).toArray).heap[k]?=w.heap[k]?:=fun k hk =>
    setRow_other _ _ _ _ fun e=>by subst e;exact (hI.locs b _ _ _ h1 hl).2.1 hk
   simp only [ObjRep]
   refine ⟨by simp [Env.upd,k1],k2,?_⟩
   simp only [Env.upd,if_true]
   have hsl:(setL c.toList (base+i*s+j) vs).length=c.size:=by rw [setL_length];simp
   refine ⟨_,ty,setRow_heap w blk _ _ ty _ k4,by simpa [hsl] using k5,by simpa using setL_mem k5' hone,by simpa using k6,by simpa using k6',CRows.of_get fun i' e' he'=>?_⟩
   have hcell:∀ k,(w.setRow blk (setL c.toList (base+i*s+j) vs).toArray).cell? ⟨blk,k,none⟩=(setL c.toList (base+i*s+j) vs)[k]?:=fun k=>by
    rw [cell_setRow_same w blk k c _ ty _ k4];simp
   have hcold:∀ k,w.cell? ⟨blk,k,none⟩=c.toList[k]?:=fun k=>by rw [cell_of_row w blk k c ty _ k4];simp
   have hbound:base+i*s+j+vs.length≤c.toList.length:=by simp;omega
   by_cases hii:i'=i
   ·subst hii
    rw [List.getElem?_set_self (by exact hil)] at he'
    simp only [Option.some.injEq] at he'
    subst he'
    refine ⟨by rw [setL_length];exact hes,CCells.of_get fun j' a' ha'=>?_⟩
    rw [hcell,setL_get hbound]
    rw [setL_get hle] at ha'
    by_cases hjj:j≤j'∧j'<j+new.length
    ·rw [if_pos hjj] at ha'
     rw [if_pos (by omega),show base+i'*s+j' - (base+i'*s+j)=j' - j from by omega]
     obtain ⟨y',hy1,hy2⟩:=(hvr.to_c hcl).get ha'
     exact ⟨y',hy1,hone y' (List.mem_of_getElem? hy1),hy2.mono (fun _ h=>h) hG⟩
    ·rw [if_neg hjj] at ha'
     rw [if_neg (by omega)]
     obtain ⟨y',hy1,hy2,hy3⟩:=(k7.get hx).2.get ha'
     rw [hcold] at hy1
     exact ⟨y',hy1,hy2,hy3.mono (fun _ h=>h) hG⟩
   ·rw [List.getElem?_set_ne (Ne.symm hii)] at he'
    have hrow:=k7.get he'
    refine ⟨hrow.1,CCells.of_get fun j' a' ha'=>?_⟩
    rw [hcell,setL_get hbound]
    have hj':j'<s:=by rw [← hrow.1];exact (List.getElem?_eq_some_iff.1 ha').1
    rw [if_neg ?_]
    ·obtain ⟨y',hy1,hy2,hy3⟩:=hrow.2.get ha'
     rw [hcold] at hy1
     exact ⟨y',hy1,hy2,hy3.mono (fun _ h=>h) hG⟩
    ·intro hh
     have:=mul_add_inj (s:=s) (i:=i') (j:=j') (i':=i) (j':=j'+i'*s - i*s) hj' (by omega) (by omega)
     exact hii this.1
  ·rename_i m' s' xs k e
   split at h
   case isFalse=>simp at h
   rename_i hm
   obtain ⟨rfl,rfl⟩:=hm
   simp only [ObjRep] at ho
   obtain ⟨k1,k2,kk,ke,blk,base,sz,c,ty,us,hl0,k4,k5,k5',k6,k7,k8,k8',k9⟩:=ho
   obtain ⟨blk',base',sz',hl,rfl⟩:=h5 k1.symm
   rw [hl0] at hl
   simp only [Option.some.injEq,Prod.mk.injEq] at hl
   obtain ⟨rfl,rfl,rfl⟩:=hl
   have hi0:∀ i,i<xs.length→(i+1)*s≤xs.length*s∧(i+1)*s=i*s+s:=fun i hi=>⟨Nat.mul_le_mul_right s hi,by rw [Nat.add_mul];omega⟩
   have hG:∀ j,∀ k,E.G k→(w.setRow blk (setL c.toList j vs).toArray).heap[k]?=w.heap[k]?:=fun j k hk =>
    setRow_other _ _ _ _ fun e=>by subst e;exact (hI.locs b _ _ _ h1 hl0).2.1 hk
   have hcell:∀ j,∀ k,(w.setRow blk (setL c.toList j vs).toArray).cell? ⟨blk,k,none⟩=(setL c.toList j vs)[k]?:=fun j k=>by
    rw [cell_setRow_same w blk k c _ ty _ k4];simp
   have hcold:∀ k,w.cell? ⟨blk,k,none⟩=c.toList[k]?:=fun k=>by rw [cell_of_row w blk k c ty _ k4];simp
   have hul:=k8.length
   split at h
   ·rename_i hik
    subst hik
    split at h
    case isFalse=>simp at h
    rename_i hle
    simp only [Option.some.injEq] at h
    subst h
    rw [putL_eq hle]
    obtain ⟨q1,q2⟩:=hi0 i kk
    have hbound:base+i*s+j+vs.length≤c.toList.length:=by simp;omega
    have hsl:(setL c.toList (base+i*s+j) vs).length=c.size:=by rw [setL_length];simp
    refine ⟨E.upd b (E.ver b) (some (blk,base,sz)),_,hrunv blk _ c ty k4 (by omega),?_⟩
    refine StepTo.write hI b _ (E.ver b) blk base base sz sz c _ ty h1 hl0 k4 (.inl ⟨rfl,rfl,rfl⟩) ?_
    simp only [ObjRep]
    refine ⟨by simp [Env.upd,k1],k2,kk,by rw [setL_length];exact ke,blk,base,sz,_,ty,setL us j vs,by simp [Env.upd],setRow_heap w blk _ _ ty _ k4,by simpa [hsl] using k5,by simpa using setL_mem k5' hone,k6,fun i' r hi' hr'=>?_,(RepL.setL k8 hvr).mono (Env.le_upd fun _=>.inl ⟨rfl,hl0.symm⟩) (hG _),setL_mem k8' hone,fun j' v hv=>?_⟩
    ·obtain ⟨r1,r2⟩:=k7 i' r hi' hr'
     refine ⟨r1,CCells.of_get fun j' a' ha'=>?_⟩
     rw [hcell,setL_get hbound]
     have hj':j'<s:=by rw [← r1];exact (List.getElem?_eq_some_iff.1 ha').1
     rw [if_neg ?_]
     ·obtain ⟨y',hy1,hy2,hy3⟩:=r2.get ha'
      rw [hcold] at hy1
      exact ⟨y',hy1,hy2,hy3.mono (fun _ h=>h) (hG _)⟩
     ·intro hh
      have:=mul_add_inj (s:=s) (i:=i') (j:=j') (i':=i) (j':=j'+i'*s - i*s) hj' (by omega) (by omega)
      exact hi' this.1
    ·rw [hcell,setL_get hbound]
     rw [setL_get (by omega)] at hv
     by_cases hjj:j≤j'∧j'<j+vs.length
     ·rw [if_pos hjj] at hv
      rw [if_pos (by omega),show base+i*s+j' - (base+i*s+j)=j' - j from by omega]
      exact hv
     ·rw [if_neg hjj] at hv
      rw [if_neg (by omega),← hcold]
      exact k9 j' v hv
   ·rename_i hik
    split at h
    case isFalse=>simp at h
    rename_i hcl
    cases hx:xs[i]?<;>simp only [hx,reduceCtorEq] at h
    rename_i r0
    split at h
    case isFalse=>simp at h
    rename_i hle
    simp only [Option.some.injEq] at h
    subst h
    rw [putL_eq hle]
    have hil:i<xs.length:=(List.getElem?_eq_some_iff.1 hx).1
    obtain ⟨q1,q2⟩:=hi0 i hil
    have hes:=(k7 i r0 hik hx).1
    have hbound:base+i*s+j+vs.length≤c.toList.length:=by simp;omega
    have hsl:(setL c.toList (base+i*s+j) vs).length=c.size:=by rw [setL_length];simp
    refine ⟨E.upd b (E.ver b) (some (blk,base,sz)),_,hrunv blk _ c ty k4 (by omega),?_⟩
    refine StepTo.write hI b _ (E.ver b) blk base base sz sz c _ ty h1 hl0 k4 (.inl ⟨rfl,rfl,rfl⟩) ?_
    simp only [ObjRep]
    refine ⟨by simp [Env.upd,k1],k2,by simpa using kk,ke,blk,base,sz,_,ty,us,by simp [Env.upd],setRow_heap w blk _ _ ty _ k4,by simpa [hsl] using k5,by simpa using setL_mem k5' hone,by simpa using k6,fun i' e' hi' he'=>?_,k8.mono (Env.le_upd fun _=>.inl ⟨rfl,hl0.symm⟩) (hG _),k8',fun j' v hv=>?_⟩
    ·by_cases hii:i'=i
     ·subst hii
      rw [List.getElem?_set_self (by exact hil)] at he'
      simp only [Option.some.injEq] at he'
      subst he'
      refine ⟨by rw [setL_length];exact hes,CCells.of_get fun j' a' ha'=>?_⟩
      rw [hcell,setL_get hbound]
      rw [setL_get hle] at ha'
      by_cases hjj:j≤j'∧j'<j+new.length
      ·rw [if_pos hjj] at ha'
       rw [if_pos (by omega),show base+i'*s+j' - (base+i'*s+j)=j' - j from by omega]
       obtain ⟨y',hy1,hy2⟩:=(hvr.to_c hcl).get ha'
       exact ⟨y',hy1,hone y' (List.mem_of_getElem? hy1),hy2.mono (fun _ h=>h) (hG _)⟩
      ·rw [if_neg hjj] at ha'
       rw [if_neg (by omega)]
       obtain ⟨y',hy1,hy2,hy3⟩:=(k7 i' _ hik hx).2.get ha'
       rw [hcold] at hy1
       exact ⟨y',hy1,hy2,hy3.mono (fun _ h=>h) (hG _)⟩
     ·rw [List.getElem?_set_ne (Ne.symm hii)] at he'
      have hrow:=k7 i' e' hi' he'
      refine ⟨hrow.1,CCells.of_get fun j' a' ha'=>?_⟩
      rw [hcell,setL_get hbound]
      have hj':j'<s:=by rw [← hrow.1];exact (List.getElem?_eq_some_iff.1 ha').1
      rw [if_neg ?_]
      ·obtain ⟨y',hy1,hy2,hy3⟩:=hrow.2.get ha'
       rw [hcold] at hy1
       exact ⟨y',hy1,hy2,hy3.mono (fun _ h=>h) (hG _)⟩
      ·intro hh
       have:=mul_add_inj (s:=s) (i:=i') (j:=j') (i':=i) (j':=j'+i'*s - i*s) hj' (by omega) (by omega)
       exact hii this.1
    ·rw [hcell,setL_get hbound]
     have hj':j'<s:=by rw [← ke,hul];exact (List.getElem?_eq_some_iff.1 hv).1
     rw [if_neg ?_]
     ·rw [← hcold];exact k9 j' v hv
     ·intro hh
      have:=mul_add_inj (s:=s) (i:=k) (j:=j') (i':=i) (j':=j'+k*s - i*s) hj' (by omega) (by omega)
      exact hik this.1.symm
end Go.AM
namespace Go.AM
open Go
structure VR (w:World) (G:Nat→Prop) (s:Nat) (vs:List Value) (rows:List (List AV)):Prop where
 len:vs.length=rows.length*s
 one:∀ y∈vs,y.oneCell'=true
 row:∀ e∈rows,e.length=s
 get:∀ i e,rows[i]?=some e→∀ j a,e[j]?=some a→∃ v,vs[i*s+j]?=some v∧CRep w G a v
theorem VR.nil {w:World} {G:Nat→Prop} {s:Nat}:VR w G s [] []:=⟨by simp,by simp,by simp,by simp⟩
theorem VR.mono {w w':World} {G G':Nat→Prop} {s:Nat} {vs:List Value} {rows:List (List AV)} (h:VR w G s vs rows) (hG:∀ k,G k→G' k) (hw:∀ k,G k→w'.heap[k]?=w.heap[k]?):VR w' G' s vs rows :=
 ⟨h.len,h.one,h.row,fun i e he j a ha=>let ⟨v,h1,h2⟩:=h.get i e he j a ha;⟨v,h1,h2.mono hG hw⟩⟩
theorem VR.append {w:World} {G:Nat→Prop} {s:Nat} {vs us:List Value} {rows rows':List (List AV)} (h:VR w G s vs rows) (k:VR w G s us rows'):VR w G s (vs++us) (rows++rows') where
 len:=by simp [h.len,k.len,Nat.add_mul]
 one:=fun y hy=>by rcases List.mem_append.1 hy with h1|h1;exact h.one y h1;exact k.one y h1
 row:=fun y hy=>by rcases List.mem_append.1 hy with h1|h1;exact h.row y h1;exact k.row y h1
 get:=fun i e he j a ha=>by
  by_cases hi:i<rows.length
  ·rw [List.getElem?_append_left hi] at he
   obtain ⟨v,h1,h2⟩:=h.get i e he j a ha
   exact ⟨v,by rw [List.getElem?_append_left (List.getElem?_eq_some_iff.1 h1).1];exact h1,h2⟩
  ·rw [List.getElem?_append_right (by omega)] at he
   obtain ⟨v,h1,h2⟩:=k.get _ e he j a ha
   refine ⟨v,?_,h2⟩
   have hle:rows.length*s≤i*s:=Nat.mul_le_mul_right s (by omega)
   rw [List.getElem?_append_right (by rw [h.len];omega),h.len,show i*s+j - rows.length*s=(i - rows.length)*s+j from by rw [Nat.sub_mul];omega]
   exact h1
theorem VR.one_row {w:World} {G:Nat→Prop} {vs:List Value} {e:List AV} (h:CRepL w G e vs) (ho:∀ y∈vs,y.oneCell'=true):VR w G e.length vs [e] where
 len:=by
  have:∀ {as:List AV} {xs:List Value},CRepL w G as xs→xs.length=as.length:=by
   intro as
   induction as with
   | nil=>intro xs h;cases xs<;>simp [CRepL] at h ⊢
   | cons a r ih=>intro xs h;cases xs<;>simp only [CRepL] at h ⊢;simp [ih h.2]
  simp [this h]
 one:=ho
 row:=by simp
 get:=fun i e' he j a ha=>by
  cases i with
  | zero=>simp at he;subst he;obtain ⟨v,h1,h2⟩:=h.get ha;exact ⟨v,by simpa using h1,h2⟩
  | succ i=>simp at he
theorem CRows.vals {w:World} {G:Nat→Prop} {s blk:Nat}:∀ {rows:List (List AV)} {off:Nat},CRows w G s blk off rows→∃ vs,VR w G s vs rows∧∀ k v,vs[k]?=some v→w.cell? ⟨blk,off+k,none⟩=some v
 | [],off,_=>⟨[],VR.nil,by simp⟩
 | e::r,off,h=>by
  simp only [CRows] at h
  obtain ⟨v1,h1,h2,h3,h4⟩:=h.2.1.vals
  obtain ⟨v2,k1,k2⟩:=CRows.vals h.2.2
  refine ⟨v1++v2,?_,fun k v e=>?_⟩
  ·have:=VR.one_row h2 h3
   rw [h.1] at this
   exact this.append k1
  ·by_cases hk:k<v1.length
   ·rw [List.getElem?_append_left hk] at e;exact h4 k v e
   ·rw [List.getElem?_append_right (by omega)] at e
    have:=k2 _ v e
    rwa [show off+s+(k - v1.length)=off+k from by omega] at this
theorem CRows.of_vals {w:World} {G:Nat→Prop} {s blk off:Nat} {vs:List Value} {rows:List (List AV)} (h:VR w G s vs rows) (hc:∀ k v,vs[k]?=some v→w.cell? ⟨blk,off+k,none⟩=some v):CRows w G s blk off rows :=
 CRows.of_get fun i e he=>⟨h.row e (List.mem_of_getElem? he),CCells.of_get fun j a ha=>by
  obtain ⟨v,h1,h2⟩:=h.get i e he j a ha
  exact ⟨v,by rw [Nat.add_assoc];exact hc _ v h1,h.one v (List.mem_of_getElem? h1),h2⟩⟩
theorem CRows.sub {w:World} {G:Nat→Prop} {s blk off:Nat} {xs:List (List AV)} (h:CRows w G s blk off xs) (o n:Nat):CRows w G s blk (off+o*s) ((xs.drop o).take n) :=
 CRows.of_get fun i e he=>by
  rw [List.getElem?_take] at he
  split at he
  ·rw [List.getElem?_drop] at he
   have:=h.get he
   rw [show off+o*s+i*s=off+(o+i)*s from by rw [Nat.add_mul];omega]
   exact this
  ·simp at he
theorem CRows.cons_left {w:World} {G:Nat→Prop} {s blk off:Nat} {xs ys:List (List AV)} (h:CRows w G s blk off xs) (k:CRows w G s blk (off+xs.length*s) ys):CRows w G s blk off (xs++ys) :=
 CRows.of_get fun i e he=>by
  by_cases hi:i<xs.length
  ·rw [List.getElem?_append_left hi] at he;exact h.get he
  ·rw [List.getElem?_append_right (by omega)] at he
   have:=k.get he
   have hle:xs.length*s≤i*s:=Nat.mul_le_mul_right s (by omega)
   rw [show off+i*s=off+xs.length*s+(i - xs.length)*s from by rw [Nat.sub_mul];omega]
   exact this
def aRows (M:Nat→AO) (sz:Nat):AV→Option (List (List AV))
 | .rd s xs=>if s=sz then some xs else none
 | .sl b m s o n=>match M b with
  | .vec m' s' _ xs=>if m=m'∧s=s'∧s=sz∧o+n≤xs.length then some ((xs.drop o).take n) else none
  | _=>none
 | .v (.slice none 0 0)=>some []
 | .v (.slice (some _) 0 _)=>some []
 | _=>none
theorem aRows_ok {M:Nat→AO} {sz:Nat} {a:AV} {rows:List (List AV)} {E:Env} {w:World} {x:Value} (h:aRows M sz a=some rows) (hr:Rep E w a x) (hM:MemOK E w M) :
  ∃ p c,x=.slice p rows.length c∧rows.length≤c∧(p=none→c=0)∧∃ vs,VR w E.G sz vs rows∧(rows=[]∨∃ blk off,p=some ⟨blk,off,none⟩∧∀ k v,vs[k]?=some v→w.cell? ⟨blk,off+k,none⟩=some v):=by
 unfold aRows at h
 cases a<;>(try simp only [reduceCtorEq] at h)
 case rd s xs =>
  split at h
  ·rename_i hs
   subst hs
   simp only [Option.some.injEq] at h
   subst h
   simp only [Rep,CRep] at hr
   obtain ⟨p,c,h1,h2,h3,h4⟩:=hr
   rcases h4 with h4|⟨blk,off,h5,h6,h7⟩
   ·subst h4;exact ⟨p,c,h1,h2,h3,[],VR.nil,.inl rfl⟩
   ·obtain ⟨vs,k1,k2⟩:=h7.vals
    exact ⟨p,c,h1,h2,h3,vs,k1,.inr ⟨blk,off,h5,k2⟩⟩
  ·simp at h
 case sl b m s o n =>
  simp only [Rep] at hr
  obtain ⟨h1,h2,h3,p,c,rfl,h4,h4',h5⟩:=hr
  have ho:=hM b h1
  cases hb:M b<;>simp only [hb,reduceCtorEq] at h ho
  rename_i m' s' f xs
  split at h
  case isFalse=>simp at h
  rename_i hm
  obtain ⟨rfl,rfl,rfl,hle⟩:=hm
  simp only [Option.some.injEq] at h
  subst h
  simp only [ObjRep] at ho
  obtain ⟨k1,k2,k3⟩:=ho
  have hsl:=h5 k1.symm
  have hlen:((xs.drop o).take n).length=n:=by simp;omega
  cases hl:E.loc b with
  | none =>
   simp only [hl,SlAt] at hsl
   obtain ⟨rfl,rfl⟩:=hsl
   obtain rfl:n=0:=by omega
   exact ⟨p,0,by simp,by simp,fun _=>rfl,[],by simpa using VR.nil,.inl (by simp)⟩
  | some l =>
   obtain ⟨blk,base,sz⟩:=l
   simp only [hl,SlAt] at hsl k3
   obtain ⟨pa,rfl,l4,l5⟩:=hsl
   obtain ⟨arr,ty,k4,k5,k5',k6,k6',k7⟩:=k3
   refine ⟨some pa,c,by rw [hlen],by omega,by simp,?_⟩
   obtain ⟨vs,n1,n2⟩:=(k7.sub o n).vals
   refine ⟨vs,n1,?_⟩
   rcases l4 with l4|l4
   ·left
    have:n=0:=by omega
    subst this
    simp
   ·exact .inr ⟨blk,_,by rw [l4],n2⟩
 case v y =>
  split at h
  ·rename_i heq
   simp at heq
  ·rename_i heq
   simp at heq
  ·rename_i heq
   simp only [AV.v.injEq] at heq
   subst heq
   simp only [Option.some.injEq] at h
   subst h
   simp only [Rep,CRep] at hr
   subst hr
   exact ⟨none,0,rfl,by simp,fun _=>rfl,[],VR.nil,.inl rfl⟩
  ·rename_i heq
   simp only [AV.v.injEq] at heq
   subst heq
   simp only [Option.some.injEq] at h
   subst h
   simp only [Rep,CRep] at hr
   subst hr
   exact ⟨_,_,rfl,by simp,by simp,[],VR.nil,.inl rfl⟩
  ·simp at h
theorem firstCells_ok {P:Program} {w:World} {G:Nat→Prop} {sz c:Nat} {p:Option Addr} {vs:List Value} {rows:List (List AV)} {n:Nat} (hv:VR w G sz vs rows) (hp:p=none→c=0) (hn:n=rows.length) (hc:rows.length≤c)
  (h:rows=[]∨∃ blk off,p=some ⟨blk,off,none⟩∧∀ k v,vs[k]?=some v→w.cell? ⟨blk,off+k,none⟩=some v) :
  (Builtin.firstCells sz n (.slice p n c)).run P w=.ok vs.toArray w:=by
 subst hn
 rcases h with h|⟨blk,off,rfl,h⟩
 ·subst h
  have:vs=[]:=by have:=hv.len;simp at this;exact this
  subst this
  cases p<;>simp [Builtin.firstCells,loadCells,loadCellsFrom]
 ·have:=run_loadCells_list (P:=P) (w:=w) ⟨blk,off,none⟩ vs fun j v e=>by rw [add_plain];exact h j v e
  rw [hv.len] at this
  simpa [Builtin.firstCells] using this
theorem StepTo.renew {w0:World} {bl:Bk} {E:Env} {w w1:World} (h:Inv w0 bl E w) (hw1:w1.heap=w.heap) (ho1:w1.os=w.os) (ho2:w1.output=w.output) (b m s:Nat) (f:Bool) (xs:List (List AV)) (c:Array Value) (t:TypeId) (vs:List Value)
  (hb:E.alive b→1≤E.ver b∧E.ver b<m) (hm:1≤m) (hv:VR w E.G s vs xs) (hc:∀ (k:Nat) (v:Value),vs[k]?=some v→c[k]?=some v) (hsz:xs.length*s≤c.size) (hone:∀ y∈c.toList,y.oneCell'=true) (hf:f=true→xs.length*s=c.size) :
  StepTo w0 bl E w [(b,.vec m s f xs)] (E.upd b m (some (w.heap.size,0,c.size))) (w1.alloc (.cells c t)):=by
 have hnew:(w1.alloc (.cells c t)).heap[w.heap.size]?=some (.cells c t (0,0)):=by rw [← hw1];exact heap_alloc_new w1 _
 have hold:∀ k,k<w.heap.size→(w1.alloc (.cells c t)).heap[k]?=w.heap[k]?:=fun k hk=>by rw [heap_alloc_old w1 _ k (by rw [hw1];exact hk),hw1]
 have hsize:(w1.alloc (.cells c t)).heap.size=w.heap.size+1:=by simp [hw1]
 refine StepTo.one h b _ m _ (fun hh=>.inr (hb hh)) (fun blk base' sz e=>?_) (by omega) ho1 ho2 (fun k hk _=>hold k hk) ?_
 ·simp only [Option.some.injEq,Prod.mk.injEq] at e
  exact .inr ⟨by omega,by omega⟩
 ·simp only [ObjRep,Env.upd,if_true]
  refine ⟨trivial,hm,c,t,hnew,Nat.le_refl _,hone,by omega,by simpa using hf,CRows.of_vals (hv.mono (fun _ h=>h) fun k hk=>hold k (h.good k hk)) fun k v e=>?_⟩
  rw [cell_of_row _ _ _ c t _ hnew]
  simpa using hc k v e
def aAppend (T:TypeId→Option TD) (M:Nat→AO) (nid:Nat) (st xt:TypeId) (s x:AV):Option (AV×List (Nat×AO)) :=
  match T st,T xt with
  | some ds,some dx =>
    match ds.k,dx.k with
    | .slice e,.slice _ =>
      match T e with
      | some de =>
        match aRows M de.size s,aRows M de.size x with
        | some old,some new =>
          if old.length+new.length≤1073741824∧de.bytes≤65536∧de.zero.length=de.size∧de.zero.all Value.oneCell'=true then
            match s with
            | .sl b m _ o n=>match M b with
              | .vec _ _ f xs =>
                if (o+n<xs.length∨f=true)∧1≤de.size then
                  (if o+n+new.length≤xs.length then some (.sl b m de.size o (n+new.length),[(b,.vec m de.size f (xs.take (o+n)++(new++xs.drop (o+n+new.length))))])
                   else if f=true then some (.sl nid 1 de.size 0 (old.length+new.length),[(nid,.vec 1 de.size false (old++new))])
                   else some (.sl b (m+1) de.size 0 (old.length+new.length),[(b,.vec (m+1) de.size false (old++new))]))
                else some (.sl b (m+1) de.size 0 (old.length+new.length),[(b,.vec (m+1) de.size false (old++new))])
              | _=>none
            | .v (.slice none 0 0)=>some (.sl nid 1 de.size 0 (old.length+new.length),[(nid,.vec 1 de.size false (old++new))])
            | _=>none
          else none
        | _,_=>none
      | none=>none
    | _,_=>none
  | _,_=>none
theorem growBy_le:∀ (r c n b:Nat),c≤b→n+(n+768)/4≤b→Builtin.growBy n r c≤b
 | 0,c,n,b,h,_=>by simpa [Builtin.growBy] using h
 | r+1,c,n,b,h,k=>by
  simp only [Builtin.growBy]
  split
  ·exact h
  ·exact growBy_le r _ n b (by omega) k
theorem nextcap_le (need cap:Nat) (h:cap<need):Builtin.nextslicecap need cap≤2*need+1000:=by
 unfold Builtin.nextslicecap
 split
 ·omega
 ·split
  ·omega
  ·exact growBy_le 4 cap need _ (by omega) (by omega)
theorem cut_appendCap (need old:Nat) (e:TypeId) (t:Nat):need≤(Question.appendCap need old e).cut t:=by
 simp [Question.cut]
theorem append_run {P:Program} {w:World} {st xt e:TypeId} {ds dx de:TD} {ex:TypeId} (hst:Types P st=some ds) (hxt:Types P xt=some dx) (he:Types P e=some de) (hks:ds.k=.slice e) (hkx:dx.k=.slice ex) {G:Nat→Prop}
  {old new:List (List AV)} {p q:Option Addr} {c c':Nat} {vo vn:List Value}
  (ho:VR w G de.size vo old) (hn:VR w G de.size vn new) (hp:p=none→c=0) (hq:q=none→c'=0) (hc:old.length≤c) (hc':new.length≤c')
  (hco:old=[]∨∃ blk off,p=some ⟨blk,off,none⟩∧∀ k v,vo[k]?=some v→w.cell? ⟨blk,off+k,none⟩=some v)
  (hcn:new=[]∨∃ blk off,q=some ⟨blk,off,none⟩∧∀ k v,vn[k]?=some v→w.cell? ⟨blk,off+k,none⟩=some v)
  (hb:old.length+new.length≤1073741824∧de.bytes≤65536) (ty:TypeId) :
  (Builtin.append_ #[st,xt] ty #[.slice p old.length c,.slice q new.length c']).run P w =
   if old.length+new.length≤c then ((match p with|some a=>storeCells (a.add (old.length*de.size)) vn|none=>pure ()).run P w).andThen fun _ w'=>.ok (.slice p (old.length+new.length) c) w'
   else .ok (.slice (some ⟨w.heap.size,0,none⟩) (old.length+new.length) ((Question.appendCap (old.length+new.length) c e).cut (w.tape w.drawn (.appendCap (old.length+new.length) c e))))
    (({ w with drawn:=w.drawn+1 }:World).alloc (.cells (vo.toArray++vn.toArray++Builtin.zeroCells de.zero.toArray ((Question.appendCap (old.length+new.length) c e).cut (w.tape w.drawn (.appendCap (old.length+new.length) c e)) - (old.length+new.length))) e)):=by
 obtain ⟨i,hi,hib,_⟩:=run_info (P:=P) (w:=w) he
 obtain ⟨i2,hi2,_,_⟩:=run_info (P:=P) (w:={ w with drawn:=w.drawn+1 }) he
 obtain ⟨z,hz,hzz⟩:=run_zero (P:=P) (w:={ w with drawn:=w.drawn+1 }) he
 have f1:=firstCells_ok (P:=P) hn hq rfl hc' hcn
 have f2:=firstCells_ok (P:=P) (w:={ w with drawn:=w.drawn+1 }) (hn.mono (fun _ h=>h) fun _ _=>rfl) hq rfl hc' hcn
 have f3:=firstCells_ok (P:=P) (w:={ w with drawn:=w.drawn+1 }) (ho.mono (fun _ h=>h) fun _ _=>rfl) hp rfl hc hco
 simp only [Builtin.append_]
 simp only [List.getElem?_toArray,List.getElem?_cons_zero,List.getElem?_cons_succ,Sem.run_bind,und_slice hst hks,und_slice hxt hkx,Result.andThen_ok,run_size he,Sem.run_pure,Builtin.lenOf,Bool.false_eq_true,if_false,Bool.not_false,if_true,Sem.run_ite]
 split
 ·rename_i hle
  rw [f1]
  cases p<;>simp
 ·rename_i hle
  simp only [hi,Result.andThen_ok,hib]
  have hcap:=nextcap_le (old.length+new.length) c (by omega)
  have hmul:Builtin.nextslicecap (old.length+new.length) c*de.bytes≤(2*(old.length+new.length)+1000)*65536:=Nat.mul_le_mul hcap hb.2
  have hlim:¬ (Builtin.nextslicecap (old.length+new.length) c*de.bytes > 2^48):=by
   have:(2*(old.length+new.length)+1000)*65536≤2^48:=by omega
   omega
  have hbig:¬ (((old.length+new.length:Nat):Int) > IntKind.i64.max∧(False∨de.bytes=0)):=by
   intro hh
   have h1:=hh.1
   simp [IntKind.max,IntKind.signed,IntKind.bits] at h1
   omega
  rw [if_neg hbig,if_neg hlim]
  simp only [run_choose,Question.forced,Bool.false_eq_true,if_false,Result.andThen_ok,hi2,run_askRoom,f3,f2,hz,Sem.run_bind,newRow,run_newObj,Sem.run_pure]
  have:z.cells=de.zero.toArray:=by rw [← hzz]
  simp only [this]
  rfl
end Go.AM
