/- A part of the proof: what functions of the program compute, by abstract execution of their code. Its theorems hold without further condition. -/
import Derived.Test.YtcfhmdljeeppfaaGreatSAmA
set_option linter.all false
namespace Go.AM
open Go
inductive TK where
 | int (k:IntKind)|bool|slice (e:TypeId)|array (n:Nat) (e:TypeId)|struct (fs:List (Nat×TypeId×Nat))|pointer (e:TypeId)|map (k e:TypeId) (z:Option Value)|str|func|other
 deriving Inhabited
structure TD where
 k:TK
 size:Nat
 bytes:Nat
 zero:List Value
 deriving Inhabited
def TK.isOther:TK→Bool
 | .other=>true
 | _=>false
def TK.agg:TK→Bool
 | .array ..|.struct ..=>true
 | _=>false
def tkOf (P:Program):TypeDesc→TK
 | .int k=>.int k
 | .bool=>.bool
 | .slice e=>.slice e
 | .array n e=>.array n e
 | .struct fs=>match fs.toList.mapM (fun f=>(P.info? f.type).map fun i=>(f.offset,f.type,i.size)) with|some l=>.struct l|none=>.other
 | .pointer e=>.pointer e
 | .map k e=>.map k e ((P.info? e).bind (·.zero))
 | .string=>.str
 | .func ..=>.func
 | _=>.other
def Types (P:Program) (t:TypeId):Option TD :=
 match P.underlying t,P.info? t with
 | some u,some i=>match i.zero with
  | some z=>some ⟨tkOf P u,i.size,i.bytes,z.cells.toList⟩
  | none=>none
 | _,_=>none
theorem types_spec {P:Program} {t:TypeId} {d:TD} (h:Types P t=some d):∃ u i z,P.underlying t=some u∧P.info? t=some i∧i.zero=some z∧d=⟨tkOf P u,i.size,i.bytes,z.cells.toList⟩:=by
 unfold Types at h
 cases hu:P.underlying t<;>cases hi:P.info? t<;>simp only [hu,hi] at h<;>try (simp at h;done)
 rename_i u i
 cases hz:i.zero<;>simp only [hz] at h
 ·simp at h
 ·rename_i z
  exact ⟨u,i,z,rfl,rfl,hz,by simpa using h.symm⟩
section
variable {P:Program} {w:World} {t:TypeId} {d:TD}
theorem run_und (h:Types P t=some d):∃ u,(underlying t).run P w=.ok u w∧d.k=tkOf P u:=by
 obtain ⟨u,i,z,h1,h2,h3,rfl⟩:=types_spec h
 exact ⟨u,run_underlying h1 w,rfl⟩
theorem und_slice {e:TypeId} (h:Types P t=some d) (hk:d.k=.slice e):(underlying t).run P w=.ok (.slice e) w:=by
 obtain ⟨u,i,z,h1,h2,h3,rfl⟩:=types_spec h
 rw [run_underlying h1 w]
 cases u<;>simp only [tkOf,reduceCtorEq] at hk<;>(try (split at hk<;>simp at hk;done))
 simpa using hk
theorem und_array {n:Nat} {e:TypeId} (h:Types P t=some d) (hk:d.k=.array n e):(underlying t).run P w=.ok (.array n e) w:=by
 obtain ⟨u,i,z,h1,h2,h3,rfl⟩:=types_spec h
 rw [run_underlying h1 w]
 cases u<;>simp only [tkOf,reduceCtorEq] at hk<;>(try (split at hk<;>simp at hk;done))
 simpa using hk
theorem und_int {k:IntKind} (h:Types P t=some d) (hk:d.k=.int k):(underlying t).run P w=.ok (.int k) w:=by
 obtain ⟨u,i,z,h1,h2,h3,rfl⟩:=types_spec h
 rw [run_underlying h1 w]
 cases u<;>simp only [tkOf,reduceCtorEq] at hk<;>(try (split at hk<;>simp at hk;done))
 simpa using hk
theorem und_str (h:Types P t=some d) (hk:d.k=.str):(underlying t).run P w=.ok .string w:=by
 obtain ⟨u,i,z,h1,h2,h3,rfl⟩:=types_spec h
 rw [run_underlying h1 w]
 cases u<;>simp only [tkOf,reduceCtorEq] at hk<;>(try (split at hk<;>simp at hk;done))
 rfl
theorem run_size (h:Types P t=some d):(sizeOf t).run P w=.ok d.size w:=by
 obtain ⟨u,i,z,h1,h2,h3,rfl⟩:=types_spec h
 simp [sizeOf,run_typeInfo w h2]
theorem run_info (h:Types P t=some d):∃ i,(typeInfo t).run P w=.ok i w∧i.bytes=d.bytes∧i.size=d.size:=by
 obtain ⟨u,i,z,h1,h2,h3,rfl⟩:=types_spec h
 exact ⟨i,run_typeInfo w h2,rfl,rfl⟩
theorem run_zero (h:Types P t=some d):∃ z,(zeroValue t).run P w=.ok z w∧z.cells.toList=d.zero:=by
 obtain ⟨u,i,z,h1,h2,h3,rfl⟩:=types_spec h
 exact ⟨z,by simp [zeroValue,run_typeInfo w h2,h3],rfl⟩
theorem run_agg (h:Types P t=some d) (ho:d.k≠.other):(isAgg t).run P w=.ok d.k.agg w:=by
 obtain ⟨u,i,z,h1,h2,h3,rfl⟩:=types_spec h
 simp only [isAgg,Sem.run_bind,run_underlying h1 w,Result.andThen_ok]
 cases u<;>simp only [tkOf,ne_eq,not_true_eq_false] at ho ⊢<;>try rfl
 split
 ·rfl
 ·rename_i hh;rw [hh] at ho;simp at ho
theorem und_struct {fs:List (Nat×TypeId×Nat)} (h:Types P t=some d) (hk:d.k=.struct fs):∃ l,(underlying t).run P w=.ok (.struct l) w∧P.underlying t=some (.struct l)∧l.toList.mapM (fun f=>(P.info? f.type).map fun i=>(f.offset,f.type,i.size))=some fs:=by
 obtain ⟨u,i,z,h1,h2,h3,rfl⟩:=types_spec h
 cases u<;>simp only [tkOf,reduceCtorEq] at hk
 rename_i l
 refine ⟨l,run_underlying h1 w,h1,?_⟩
 split at hk
 ·rename_i hh;rw [hh];simpa using hk
 ·simp at hk
end
def loadA (agg:Bool) (n:Nat) (cs:List AV) (o:Nat):Option AV :=
 if agg then (if o+n≤cs.length then some (.agg ((cs.drop o).take n)) else none) else cs[o]?
def aLoad (T:TypeId→Option TD) (M:Nat→AO) (t:TypeId) (a:AV):Option AV :=
 match T t with
 | none=>none
 | some d =>
  if d.k.isOther then none else
  match a with
  | .bp b o=>match M b with
   | .box cs=>loadA d.k.agg d.size cs o
   | _=>none
  | .rp cs=>loadA d.k.agg d.size cs 0
  | .ep b m s i j=>match M b with
   | .vec m' s' _ xs=>if m=m'∧s=s' then (match xs[i]? with|some e=>loadA d.k.agg d.size e j|none=>none) else none
   | _=>none
  | _=>none
theorem run_loadVar_at {P:Program} {w:World} {t:TypeId} {d:TD} (h:Types P t=some d) {E:Env} {cs:List AV} {vs:List Value} {blk off o:Nat} {av:AV}
  (hr:RepL E w cs vs) (hone:∀ y∈vs,y.oneCell'=true) (hc:∀ j v,vs[j]?=some v→w.cell? ⟨blk,off+j,none⟩=some v) (hl:loadA d.k.agg d.size cs o=some av) (hoth:d.k.isOther=false) :
  ∃ y,(loadVar t ⟨blk,off+o,none⟩).run P w=.ok y w∧Rep E w av y:=by
 have hne:d.k≠.other:=fun e=>by rw [e] at hoth;simp [TK.isOther] at hoth
 unfold loadA at hl
 cases ha:d.k.agg<;>simp only [ha,Bool.false_eq_true,if_false,if_true] at hl
 ·obtain ⟨y,h1,h2⟩:=hr.get hl
  exact ⟨y,by simp [loadVar,run_agg h hne,ha,run_load,hc o y h1],h2⟩
 ·split at hl
  ·rename_i hlt
   simp only [Option.some.injEq] at hl
   subst hl
   have hlen:=hr.length
   have hrun:(loadCells ⟨blk,off+o,none⟩ ((vs.drop o).take d.size).length).run P w=.ok ((vs.drop o).take d.size).toArray w:=by
    refine run_loadCells_list (P:=P) (w:=w) _ _ fun j v e=>?_
    rw [add_plain,Nat.add_assoc]
    refine hc _ _ ?_
    rw [List.getElem?_take] at e
    split at e
    ·rwa [List.getElem?_drop] at e
    ·simp at e
   rw [show ((vs.drop o).take d.size).length=d.size from by simp;omega] at hrun
   refine ⟨.agg ((vs.drop o).take d.size).toArray,by simp [loadVar,run_agg h hne,ha,run_size h,hrun],?_⟩
   simp only [Rep]
   exact ⟨_,rfl,fun y hy=>hone y (List.mem_of_mem_drop (List.mem_of_mem_take hy)),(hr.drop o).take _⟩
  ·simp at hl
theorem box_cells {E:Env} {w:World} {b:Nat} {cs:List AV} (h:ObjRep E w b (.box cs)):∃ blk sz vs,E.loc b=some (blk,0,sz)∧RepL E w cs vs∧(∀ y∈vs,y.oneCell'=true)∧∀ j v,vs[j]?=some v→w.cell? ⟨blk,j,none⟩=some v:=by
 simp only [ObjRep] at h
 obtain ⟨_,blk,t,vs,h1,h2,h3,h4⟩:=h
 exact ⟨blk,_,vs,h1,h4,h3,fun j v e=>by rw [cell_of_row w blk j _ t _ h2];simpa using e⟩
theorem aLoad_ok {P:Program} {M:Nat→AO} {t:TypeId} {a av:AV} {E:Env} {w:World} {x:Value} (h:aLoad (Types P) M t a=some av) (hr:Rep E w a x) (hM:MemOK E w M) :
  ∃ y,(Instr.loadAt t x).run P w=.ok y w∧Rep E w av y:=by
 unfold aLoad at h
 cases ht:Types P t<;>simp only [ht] at h
 ·simp at h
 rename_i d
 split at h
 ·simp at h
 rename_i hoth
 have hoth:d.k.isOther=false:=by simpa using hoth
 cases a<;>simp only [reduceCtorEq] at h
 case rp cs =>
  simp only [Rep,CRep] at hr
  obtain ⟨blk,off,rfl,hg,hcs⟩:=hr
  obtain ⟨vs,h1,h2,h3,h4⟩:=hcs.vals
  have:=run_loadVar_at ht (E:=E) (o:=0) (Rep.of_c.go h2) h3 h4 h hoth
  simpa [Instr.loadAt,Instr.sureAddr] using this
 case bp b o =>
  simp only [Rep] at hr
  obtain ⟨h1,h2,blk,sz,h3,rfl⟩:=hr
  have ho:=hM b h1
  cases hb:M b<;>simp only [hb,reduceCtorEq] at h ho
  rename_i cs
  obtain ⟨blk',sz',vs,k1,k2,k3,k4⟩:=box_cells ho
  rw [h3] at k1
  simp only [Option.some.injEq,Prod.mk.injEq] at k1
  obtain ⟨rfl,_,_⟩:=k1
  have:=run_loadVar_at ht (E:=E) (off:=0) k2 k3 (fun j v e=>by simpa using k4 j v e) h hoth
  simpa [Instr.loadAt,Instr.sureAddr] using this
 case ep b m s i j =>
  simp only [Rep] at hr
  obtain ⟨h1,h2,h3,pa,rfl,h5⟩:=hr
  have ho:=hM b h1
  cases hb:M b<;>simp only [hb,reduceCtorEq] at h ho
  rename_i m' s' f xs
  split at h
  ·rename_i hm
   obtain ⟨rfl,rfl⟩:=hm
   cases hx:xs[i]?<;>simp only [hx,reduceCtorEq] at h
   rename_i e
   simp only [ObjRep] at ho
   obtain ⟨k1,k2,k3⟩:=ho
   obtain ⟨blk,base,sz,hl,rfl⟩:=h5 k1.symm
   simp only [hl] at k3
   obtain ⟨c,ty,k4,k5,k5',k6,k6',k7⟩:=k3
   obtain ⟨l1,l2⟩:=k7.get hx
   obtain ⟨vs,n1,n2,n3,n4⟩:=l2.vals
   have:=run_loadVar_at ht (E:=E) (Rep.of_c.go n2) n3 n4 h hoth
   simpa [Instr.loadAt,Instr.sureAddr] using this
  ·simp at h
def AV.leaf:AV→Bool
 | .v x=>x.oneCell'
 | .rd ..|.rp ..|.bp ..|.sl ..|.ep ..|.bs ..|.fn ..|.ifc ..|.mp ..|.rm ..=>true
 | _=>false
def AV.cells:AV→Option (List AV)
 | .agg cs=>some cs
 | a=>if a.leaf then some [a] else none
def setL {α:Type} (cs:List α) (o:Nat):List α→List α
 | []=>cs
 | a::r=>setL (cs.set o a) (o+1) r
def putL (cs:List AV) (o:Nat) (new:List AV):List AV:=if o=0∧new.length=cs.length then new else setL cs o new
def AV.isClosed:AV→Bool
 | .v _|.rd ..|.rp ..|.rm ..=>true
 | _=>false
def aStore (T:TypeId→Option TD) (M:Nat→AO) (t:TypeId) (a x:AV):Option (List (Nat×AO)) :=
 match T t,x.cells with
 | some d,some new =>
  if new.length=d.size then
   match a with
   | .bp b o=>match M b with
    | .box cs=>if o+new.length≤cs.length then some [(b,.box (putL cs o new))] else none
    | _=>none
   | .ep b m s i j=>match M b with
    | .vec m' s' f xs=>if m=m'∧s=s'∧new.all AV.isClosed=true then (match xs[i]? with|some e=>if j+new.length≤e.length then some [(b,.vec m s f (xs.set i (putL e j new)))] else none|none=>none) else none
    | _=>none
   | _=>none
  else none
 | _,_=>none
theorem Rep.one {E:Env} {w:World}:∀ {a:AV} {x:Value},a.leaf=true→Rep E w a x→x.oneCell'=true
 | .v _,_,h,hr=>by simp only [Rep,CRep] at hr;subst hr;exact h
 | .rd ..,_,_,hr=>by simp only [Rep,CRep] at hr;obtain ⟨p,c,rfl,_⟩:=hr;rfl
 | .rp ..,_,_,hr=>by simp only [Rep,CRep] at hr;obtain ⟨p,c,rfl,_⟩:=hr;rfl
 | .bp ..,_,_,hr=>by simp only [Rep] at hr;obtain ⟨_,_,p,c,_,rfl⟩:=hr;rfl
 | .sl ..,_,_,hr=>by simp only [Rep] at hr;obtain ⟨_,_,_,_,_,rfl,_⟩:=hr;rfl
 | .ep ..,_,_,hr=>by simp only [Rep] at hr;obtain ⟨_,_,_,_,rfl,_⟩:=hr;rfl
 | .bs ..,_,_,hr=>by simp only [Rep] at hr;obtain ⟨_,_,_,_,_,_,_,rfl,_⟩:=hr;rfl
 | .fn ..,_,_,hr=>by simp only [Rep] at hr;obtain ⟨_,rfl,_⟩:=hr;rfl
 | .ifc ..,_,_,hr=>by simp only [Rep] at hr;obtain ⟨_,rfl,_⟩:=hr;rfl
 | .mp ..,_,_,hr=>by simp only [Rep] at hr;obtain ⟨_,_,_,_,rfl,_⟩:=hr;rfl
 | .rm ..,_,_,hr=>by simp only [Rep,CRep] at hr;obtain ⟨_,_,_,rfl,_⟩:=hr;rfl
 | .om ..,_,h,_=>by simp [AV.leaf] at h
 | .any,_,h,_=>by simp [AV.leaf] at h
 | .agg _,_,h,_=>by simp [AV.leaf] at h
 | .tup _,_,h,_=>by simp [AV.leaf] at h
 | .ow ..,_,h,_=>by simp [AV.leaf] at h
 | .rf ..,_,h,_=>by simp [AV.leaf] at h
theorem Value.cells_one {x:Value} (h:x.oneCell'=true):x.cells=#[x]:=by
 cases x<;>simp [Value.oneCell',Value.cells] at h ⊢
theorem Rep.cells {E:Env} {w:World} {a:AV} {x:Value} {new:List AV} (h:a.cells=some new) (hr:Rep E w a x):∃ vs:List Value,x.cells=vs.toArray∧RepL E w new vs∧∀ y∈vs,y.oneCell'=true:=by
 have leafcase:a.leaf=true→new=[a]→∃ vs:List Value,x.cells=vs.toArray∧RepL E w new vs∧∀ y∈vs,y.oneCell'=true:=fun h1 h2=>by
  subst h2
  have:=hr.one h1
  exact ⟨[x],by rw [Value.cells_one this],by simp [RepL,hr],by simpa using this⟩
 cases a
 case agg cs =>
  simp only [AV.cells,Option.some.injEq] at h
  subst h
  simp only [Rep] at hr
  obtain ⟨vs,rfl,h2,h3⟩:=hr
  exact ⟨vs,rfl,h3,h2⟩
 all_goals
  simp only [AV.cells] at h
  split at h
  ·rename_i hl
   exact leafcase hl (by simpa using h.symm)
  ·simp at h
theorem setL_length {α:Type}:∀ (new cs:List α) (o:Nat),(setL cs o new).length=cs.length
 | [],cs,o=>rfl
 | a::r,cs,o=>by rw [setL,setL_length r];simp
theorem RepL.setL {E:Env} {w:World}:∀ {new:List AV} {vs:List Value} {cs:List AV} {us:List Value} {o:Nat},RepL E w cs us→RepL E w new vs→RepL E w (AM.setL cs o new) (AM.setL us o vs)
 | [],[],cs,us,o,h,_=>by simpa [AM.setL] using h
 | a::r,x::xs,cs,us,o,h,k=>by simp only [RepL] at k;simp only [AM.setL];exact RepL.setL (h.set k.1) k.2
 | [],_::_,_,_,_,_,k=>by simp [RepL] at k
 | _::_,[],_,_,_,_,k=>by simp [RepL] at k
theorem setL_mem {α:Type} {p:α→Prop}:∀ {new cs:List α} {o:Nat},(∀ y∈cs,p y)→(∀ y∈new,p y)→∀ y∈setL cs o new,p y
 | [],cs,o,h,_=>by simpa [setL] using h
 | a::r,cs,o,h,k=>by
  simp only [setL]
  refine setL_mem (fun y hy=>?_) (fun y hy=>k y (by simp [hy]))
  rcases List.mem_or_eq_of_mem_set hy with h1|h1
  ·exact h y h1
  ·subst h1;exact k _ (by simp)
theorem setL_all {α:Type}:∀ {new cs:List α} {o:Nat},o+new.length=cs.length→setL cs o new=cs.take o++new
 | [],cs,o,h=>by simp [setL];simp at h;rw [List.take_of_length_le (by omega)]
 | a::r,cs,o,h=>by
  simp only [setL]
  rw [setL_all (by simp at h ⊢;omega)]
  rw [List.take_succ_eq_append_getElem (by simp at h ⊢;omega)]
  simp [List.take_set_of_le]
theorem putL_eq {cs new:List AV} {o:Nat} (h:o+new.length≤cs.length):putL cs o new=setL cs o new:=by
 unfold putL
 split
 ·rename_i h1
  obtain ⟨rfl,h2⟩:=h1
  rw [setL_all (by omega)]
  simp
 ·rfl
theorem run_storeCells_at {P:Program} {t:TypeId} {blk:Nat}:∀ {vs:List Value} {off i:Nat} {c:Array Value} {w:World},w.heap[blk]?=some (.cells c t (0,0))→off+i+vs.length≤c.size→(∀ y∈vs,y.oneCell'=true) →
  (storeCells ⟨blk,off,none⟩ vs i).run P w=.ok () (w.setRow blk (setL c.toList (off+i) vs).toArray)
 | [],off,i,c,w,hc,_,_=>by
  simp only [storeCells,Sem.run_pure,setL,Array.toArray_toList]
  congr 1
  unfold World.setRow
  cases w
  simp only at hc ⊢
  congr 1
  apply Array.ext
  ·simp
  ·intro k h1 h2
   rw [Array.getElem_modify]
   split
   ·rename_i e
    subst e
    rw [(Array.getElem?_eq_some_iff.1 hc).2]
   ·rfl
 | v::r,off,i,c,w,hc,hl,ho=>by
  have hv:=ho v (by simp)
  have hlt:off+i<c.size:=by simp at hl;omega
  simp only [storeCells,Sem.run_bind,add_plain]
  rw [run_store P w _ v _ hv,cell_of_row w blk _ c t _ hc,frozen_of_row w blk _ c t hc]
  simp only [Array.getElem?_eq_getElem hlt,Bool.false_eq_true,if_false,Result.andThen_ok]
  rw [setCell_eq_setRow w blk (off+i) c t (0,0) v hc]
  have hc':=setRow_heap w blk c (c.setIfInBounds (off+i) v) t (0,0) hc
  have:=run_storeCells_at (P:=P) (vs:=r) (off:=off) (i:=i+1) hc' (by simp at hl ⊢;omega) (fun y hy=>ho y (by simp [hy]))
  rw [this,setRow_setRow]
  simp [setL,Nat.add_assoc]
theorem mul_add_inj {s i j i' j':Nat} (h:j<s) (h':j'<s) (e:i*s+j=i'*s+j'):i=i'∧j=j':=by
 have h1:(i*s+j)/s=i:=by rw [Nat.add_comm,Nat.mul_comm,Nat.add_mul_div_left _ _ (by omega),Nat.div_eq_of_lt h];omega
 have h2:(i'*s+j')/s=i':=by rw [Nat.add_comm,Nat.mul_comm,Nat.add_mul_div_left _ _ (by omega),Nat.div_eq_of_lt h'];omega
 have:i=i':=by rw [← h1,e,h2]
 subst this
 exact ⟨rfl,by omega⟩
theorem setL_get {α:Type}:∀ {new cs:List α} {o k:Nat},o+new.length≤cs.length→(setL cs o new)[k]?=if o≤k∧k<o+new.length then new[k - o]? else cs[k]?
 | [],cs,o,k,h=>by simp [setL];intro h1 h2;omega
 | a::r,cs,o,k,h=>by
  simp only [setL]
  rw [setL_get (by simp at h ⊢;omega)]
  simp only [List.length_cons]
  by_cases h1:k=o
  ·subst h1
   rw [if_neg (by omega),if_pos (by omega),List.getElem?_set_self (by simp at h;omega)]
   simp
  ·by_cases h2:o+1≤k∧k<o+1+r.length
   ·rw [if_pos h2,if_pos (by omega),show k - o=(k - (o+1))+1 from by omega]
    simp
   ·rw [if_neg h2,if_neg (by omega),List.getElem?_set_ne (Ne.symm h1)]
theorem CRepL.get {w:World} {G:Nat→Prop}:∀ {as:List AV} {xs:List Value} {i:Nat} {a:AV},CRepL w G as xs→as[i]?=some a→∃ x,xs[i]?=some x∧CRep w G a x
 | [],[],i,a,_,h=>by simp at h
 | a::as,x::xs,0,a',h,e=>by simp only [CRepL] at h;simp at e;subst e;exact ⟨x,by simp,h.1⟩
 | a::as,x::xs,i+1,a',h,e=>by simp only [CRepL] at h;simp at e;simpa using CRepL.get h.2 e
 | [],_::_,_,_,h,_=>by simp [CRepL] at h
 | _::_,[],_,_,h,_=>by simp [CRepL] at h
theorem Rep.to_c {E:Env} {w:World}:∀ {a:AV} {x:Value},a.isClosed=true→Rep E w a x→CRep w E.G a x
 | .v _,_,_,h=>by simpa only [Rep] using h
 | .rd ..,_,_,h=>by simpa only [Rep] using h
 | .rp ..,_,_,h=>by simpa only [Rep] using h
 | .rm ..,_,_,h=>by simpa only [Rep] using h
 | .mp ..,_,h,_=>by simp [AV.isClosed] at h
 | .om ..,_,h,_=>by simp [AV.isClosed] at h
 | .any,_,h,_=>by simp [AV.isClosed] at h
 | .agg _,_,h,_=>by simp [AV.isClosed] at h
 | .tup _,_,h,_=>by simp [AV.isClosed] at h
 | .ow ..,_,h,_=>by simp [AV.isClosed] at h
 | .rf ..,_,h,_=>by simp [AV.isClosed] at h
 | .bp ..,_,h,_=>by simp [AV.isClosed] at h
 | .sl ..,_,h,_=>by simp [AV.isClosed] at h
 | .ep ..,_,h,_=>by simp [AV.isClosed] at h
 | .bs ..,_,h,_=>by simp [AV.isClosed] at h
 | .fn ..,_,h,_=>by simp [AV.isClosed] at h
 | .ifc ..,_,h,_=>by simp [AV.isClosed] at h
theorem RepL.to_c {E:Env} {w:World}:∀ {as:List AV} {xs:List Value},as.all AV.isClosed=true→RepL E w as xs→CRepL w E.G as xs
 | [],[],_,_=>by simp [CRepL]
 | a::as,x::xs,hc,h=>by
  simp only [List.all_cons,Bool.and_eq_true] at hc
  simp only [RepL] at h
  simp only [CRepL]
  exact ⟨h.1.to_c hc.1,RepL.to_c hc.2 h.2⟩
 | [],_::_,_,h=>by simp [RepL] at h
 | _::_,[],_,h=>by simp [RepL] at h
theorem aStore_ok {P:Program} {M:Nat→AO} {t:TypeId} {a av:AV} {u:List (Nat×AO)} {w0:World} {bl:Bk} {E:Env} {w:World} {x y:Value} (h:aStore (Types P) M t a av=some u)
  (hr:Rep E w a x) (hv:Rep E w av y) (hM:MemOK E w M) (hI:Inv w0 bl E w) :
  ∃ E' w',(Instr.storeAt t x y).run P w=.ok () w'∧StepTo w0 bl E w u E' w':=by
 unfold aStore at h
 cases ht:Types P t<;>simp only [ht,reduceCtorEq] at h
 rename_i d
 cases hn:av.cells<;>simp only [hn,reduceCtorEq] at h
 rename_i new
 obtain ⟨vs,hvs,hvr,hone⟩:=hv.cells hn
 split at h
 case isFalse=>simp at h
 rename_i hsz
 have hlen:=hvr.length
 have hrunv:∀ (blk off:Nat) (c:Array Value) (ty:TypeId),w.heap[blk]?=some (.cells c ty (0,0))→off+vs.length≤c.size →
   (Instr.storeAt t (.pointer (some ⟨blk,off,none⟩)) y).run P w=.ok () (w.setRow blk (setL c.toList off vs).toArray):=fun blk off c ty hc hl=>by
  have:=run_storeCells_at (P:=P) (i:=0) (off:=off) hc (by omega) hone
  have hs:y.cells.size=d.size:=by rw [hvs];simp;omega
  simp [Instr.storeAt,Instr.sureAddr,storeVar,run_size ht,hs]
  rw [hvs]
  simpa using this
 cases a<;>simp only [reduceCtorEq] at h
 case bp b o =>
  simp only [Rep] at hr
  obtain ⟨h1,h2,blk,sz,h3,rfl⟩:=hr
  have ho:=hM b h1
  cases hb:M b<;>simp only [hb,reduceCtorEq] at h ho
  rename_i cs
  split at h
  case isFalse=>simp at h
  rename_i hle
  simp only [Option.some.injEq] at h
  subst h
  rw [putL_eq hle]
  simp only [ObjRep] at ho
  obtain ⟨hver,blk',ty,us,k1,k2,k3,k4⟩:=ho
  rw [h3] at k1
  simp only [Option.some.injEq,Prod.mk.injEq] at k1
  obtain ⟨rfl,-,rfl⟩:=k1
  have hlu:=k4.length
  refine ⟨E.upd b (E.ver b) (some (blk,0,us.length)),_,hrunv blk o _ ty k2 (by simp;omega),?_⟩
  refine StepTo.write hI b _ (E.ver b) blk 0 0 us.length us.length us.toArray _ ty h1 h3 k2 (.inl ⟨rfl,rfl,rfl⟩) ?_
  have hlen2:(setL us o vs).length=us.length:=setL_length _ _ _
  simp only [ObjRep]
  refine ⟨by simp [Env.upd,hver],blk,ty,setL us o vs,?_,setRow_heap w blk _ _ ty _ k2,setL_mem k3 hone,?_⟩
  ·simp [Env.upd,hlen2]
  ·have hw:∀ k,E.G k→(w.setRow blk (setL us.toArray.toList o vs).toArray).heap[k]?=w.heap[k]?:=fun k hk =>
    setRow_other _ _ _ _ fun e=>by subst e;exact (hI.locs b _ _ _ h1 h3).2.1 hk
   exact (RepL.setL k4 hvr).mono (Env.le_upd fun _=>.inl ⟨rfl,h3.symm⟩) hw
 case ep b m s i j =>
  simp only [Rep] at hr
  obtain ⟨h1,h2,h3,pa,rfl,h5⟩:=hr
  have ho:=hM b h1
  cases hb:M b<;>simp only [hb,reduceCtorEq] at h ho
  rename_i m' s' f xs
  split at h
  case isFalse=>simp at h
  rename_i hm
  obtain ⟨rfl,rfl,hcl⟩:=hm
  cases hx:xs[i]?<;>simp only [hx,reduceCtorEq] at h
  rename_i e
  split at h
  case isFalse=>simp at h
  rename_i hle
  simp only [Option.some.injEq] at h
  subst h
  rw [putL_eq hle]
  simp only [ObjRep] at ho
  obtain ⟨k1,k2,k3⟩:=ho
  obtain ⟨blk,base,sz,hl,rfl⟩:=h5 k1.symm
  simp only [hl] at k3
  obtain ⟨c,ty,k4,k5,k5',k6,k6',k7⟩:=k3
  have hes:=(k7.get hx).1
  have hil:i<xs.length:=(List.getElem?_eq_some_iff.1 hx).1
  have hmul:(i+1)*s≤xs.length*s:=Nat.mul_le_mul_right s hil
  have hmul':(i+1)*s=i*s+s:=by rw [Nat.add_mul];omega
  refine ⟨E.upd b (E.ver b) (some (blk,base,sz)),_,hrunv blk _ c ty k4 (by omega),?_⟩
  refine StepTo.write hI b _ (E.ver b) blk base base sz sz c _ ty h1 hl k4 (.inl ⟨rfl,rfl,rfl⟩) ?_
  have hG:∀ k,E.G k→(w.setRow blk (setL c.toList (base+i*s+j) vs).toArray).heap[k]?=w.heap[k]?:=fun k hk =>
   setRow_other _ _ _ _ fun e=>by subst e;exact (hI.locs b _ _ _ h1 hl).2.1 hk
  simp only [ObjRep]
  refine ⟨by simp [Env.upd,k1],k2,?_⟩
  simp only [Env.upd,if_true]
  have hsl:(setL c.toList (base+i*s+j) vs).length=c.size:=by rw [setL_length];simp
  refine ⟨_,ty,setRow_heap w blk _ _ ty _ k4,by simpa [hsl] using k5,by simpa using setL_mem k5' hone,by simpa using k6,by simpa using k6',CRows.of_get fun i' e' he'=>?_⟩
  have hcell:∀ k,(w.setRow blk (setL c.toList (base+i*s+j) vs).toArray).cell? ⟨blk,k,none⟩=(setL c.toList (base+i*s+j) vs)[k]?:=fun k=>by
   rw [cell_setRow_same w blk k c _ ty _ k4];simp
  have hcold:∀ k,w.cell? ⟨blk,k,none⟩=c.toList[k]?:=fun k=>by rw [cell_of_row w blk k c ty _ k4];simp
  have hbound:base+i*s+j+vs.length≤c.toList.length:=by simp;omega
  by_cases hii:i'=i
  ·subst hii
   rw [List.getElem?_set_self (by exact hil)] at he'
   simp only [Option.some.injEq] at he'
   subst he'
   refine ⟨by rw [setL_length];exact hes,CCells.of_get fun j' a' ha'=>?_⟩
   rw [hcell,setL_get hbound]
   rw [setL_get hle] at ha'
   by_cases hjj:j≤j'∧j'<j+new.length
   ·rw [if_pos hjj] at ha'
    rw [if_pos (by omega),show base+i'*s+j' - (base+i'*s+j)=j' - j from by omega]
    obtain ⟨y',hy1,hy2⟩:=(hvr.to_c hcl).get ha'
    exact ⟨y',hy1,hone y' (List.mem_of_getElem? hy1),hy2.mono (fun _ h=>h) hG⟩
   ·rw [if_neg hjj] at ha'
    rw [if_neg (by omega)]
    obtain ⟨y',hy1,hy2,hy3⟩:=(k7.get hx).2.get ha'
    rw [hcold] at hy1
    exact ⟨y',hy1,hy2,hy3.mono (fun _ h=>h) hG⟩
  ·rw [List.getElem?_set_ne (Ne.symm hii)] at he'
   have hrow:=k7.get he'
   refine ⟨hrow.1,CCells.of_get fun j' a' ha'=>?_⟩
   rw [hcell,setL_get hbound]
   have hj':j'<s:=by rw [← hrow.1];exact (List.getElem?_eq_some_iff.1 ha').1
   rw [if_neg ?_]
   ·obtain ⟨y',hy1,hy2,hy3⟩:=hrow.2.get ha'
    rw [hcold] at hy1
    exact ⟨y',hy1,hy2,hy3.mono (fun _ h=>h) hG⟩
   ·intro hh
    have:=mul_add_inj (s:=s) (i:=i') (j:=j') (i':=i) (j':=j'+i'*s - i*s) hj' (by omega) (by omega)
    exact hii this.1
end Go.AM
