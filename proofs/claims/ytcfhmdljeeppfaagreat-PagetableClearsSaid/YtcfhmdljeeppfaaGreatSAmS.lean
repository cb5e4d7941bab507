/- A part of the proof: what functions of the program compute, by abstract execution of their code. Its theorems hold without further condition. -/
import Derived.Test.YtcfhmdljeeppfaaGreatSAmR
import Derived.Laws.Externs
import Derived.ProofKit
import Derived.OpenShut
set_option linter.all false
namespace Go.AM
open Go
def ovlF (avs:List AV) (M:Nat→AO) (_nid:Nat):Option (AV×List (Nat×AO)) :=
 match avs with
 | [.rd s _,.sl b m s' _ _]=>match M b with
  | .vec m' _ _ _=>if m=m'∧1≤s∧1≤s' then some (B false,[]) else none
  | _=>none
 | _=>none
theorem run_overlaps_apart {P:Program} (w:World) {tS tR e:TypeId} {d de:TD} (ht:Types P tS=some d) (hk:d.k=.slice e) (he:Types P e=some de)
  (a b:Option Addr) (la ca lb cb:Nat) (h:la=0∨lb=0∨∃ a' b' tA kA tB kB,a=some a'∧b=some b'∧a'.block≠b'.block∧w.shape? a'.block=some (tA,kA)∧w.shape? b'.block=some (tB,kB)∧kA≠0∧kB≠0∧∀ x:Addr,x.block=b'.block→w.frozen? x=false) :
  (Extern.SlicesOverlaps.overlaps #[tS,tS] #[tR] #[.slice a la ca,.slice b lb cb]).run P w=.ok (.bool false) w:=by
 change Sem.run P (α:=Value) (do
  let some t := (#[tS, tS] : Array TypeId)[0]? | stuck "slices.overlaps: no parameter types"
  let .slice elem ← underlying t | stuck "slices.overlaps: slice type expected"
  let size ← sizeOf elem
  match a,b with
  | some a,some b =>
   if la=0∨lb=0∨size=0 then pure (Value.bool false)
   else if a.block != b.block&&(← frozen a)&&(← frozen b) then unsupported .addressObserved
   else do
    if a.block != b.block then do
     noView a;noView b
     if ← mayBeOne a b then return Value.bool ((← choose (.extern "sameAddr.stringBytes" 2)) == 1)
    pure (Value.bool (a.block == b.block&&a.off<b.off+lb*size&&b.off<a.off+la*size))
  | _,_=>pure (Value.bool false)) w=_
 cases a with
 | none=>simp [und_slice ht hk,run_size he]
 | some a =>
 cases b with
 | none=>simp [und_slice ht hk,run_size he]
 | some b =>
 by_cases h0:la=0∨lb=0∨de.size=0
 ·simp [und_slice ht hk,run_size he,h0]
 ·obtain ⟨a',b',tA,kA,tB,kB,e1,e2,hne,hsa,hsb,hkA,hkB,hfb⟩:=(h.resolve_left fun h=>h0 (.inl h)).resolve_left fun h=>h0 (.inr (.inl h))
  simp only [Option.some.injEq] at e1 e2
  subst e1 e2
  have hnb:(a.block != b.block)=true:=by simpa using hne
  have hnb':(a.block == b.block)=false:=by simpa using hne
  have f1:w.frozen? b=false:=hfb b rfl
  have f2:w.frozen? { block:=b.block,off:=kB }=false:=hfb _ rfl
  cases kB with
  | zero=>exact absurd rfl hkB
  | succ kB =>
  cases kA with
  | zero=>exact absurd rfl hkA
  | succ kA =>
   cases hfa:w.frozen? a<;>cases hfa2:w.frozen? { block:=a.block,off:=kA+1 } <;>
   simp [und_slice ht hk,run_size he,h0,hnb,hnb',frozen,noView,viewAt,mayBeOne,stringish,shape,Sem.run,hsa,hsb,f1,f2,hfa,hfa2]
theorem ovl_ok {P : Program} {f : FuncId} {fn : Func} {tS tR e : TypeId} {d de : TD} (hf : P.funcs[f]? = some fn) (hname : (fn.name == "runtime.NumGoroutine") = false) (hb : fn.body.isNone = true) (hn : Extern.findNext fn = none) (hx : Extern.find fn = some (Extern.SlicesOverlaps.overlaps #[tS, tS] #[tR]))
  (ht:Types P tS=some d) (hk:d.k=.slice e) (he:Types P e=some de):ExtOK P f ovlF:=by
 intro avs M nid av u h
 unfold ovlF at h
 split at h
 case h_2=>simp at h
 rename_i s xs b m s' o n
 split at h
 case h_2=>simp at h
 rename_i m' z ff ys hMb
 split at h
 case isFalse=>simp at h
 rename_i hc
 obtain ⟨rfl,hs,hs'⟩:=hc
 simp only [Option.some.injEq,Prod.mk.injEq] at h
 obtain ⟨rfl,rfl⟩:=h
 refine ⟨rfl,fun w0 bl E w args hr hM hI=>?_⟩
 obtain ⟨args⟩:=args
 match args,hr with
 | [x,y],hr =>
  simp only [RepL,and_true] at hr
  obtain ⟨hr1,hr2⟩:=hr
  simp only [Rep,CRep] at hr1 hr2
  obtain ⟨p,c,rfl,h2,h3,h4⟩:=hr1
  obtain ⟨k1,k2,k3,q,c',rfl,k4,k4',k5⟩:=hr2
  have hob:=hM b k1
  simp only [hMb,ObjRep] at hob
  obtain ⟨l1,l2,l3⟩:=hob
  have h5:=k5 l1.symm
  refine ⟨.bool false,w,?_,rfl,rfl,rfl,by simp [Rep,CRep]⟩
  rw [run_callFunc_extern hf hname hb hn hx,run_overlaps_apart w ht hk he]
  ·rfl
  ·by_cases hx0:xs.length=0
   ·exact .inl hx0
   by_cases hn0:n=0
   ·exact .inr (.inl hn0)
   right;right
   rcases h4 with h4|⟨blk,off,rfl,hg,hrows⟩
   ·subst h4;simp at hx0
   ·cases hl:E.loc b with
    | none=>simp only [hl,SlAt] at h5;omega
    | some l =>
     obtain ⟨blk',base,sz⟩:=l
     simp only [hl,SlAt] at h5 l3
     obtain ⟨a,rfl,q1,q2⟩:=h5
     obtain ⟨arr,t,m1,m2,_,_,_,_⟩:=l3
     have q1:=q1.resolve_left (by omega)
     subst q1
     have hloc:=hI.locs b blk' base sz k1 hl
     obtain ⟨e0,r0,rfl⟩:∃ e0 r0,xs=e0::r0:=by cases xs with|nil=>simp at hx0|cons a b=>exact ⟨a,b,rfl⟩
     simp only [CRows] at hrows
     obtain ⟨a0,r1,rfl⟩:∃ a0 r1,e0=a0::r1:=by cases e0 with|nil=>simp at hrows;omega|cons a b=>exact ⟨a,b,rfl⟩
     simp only [CCells] at hrows
     obtain ⟨_,⟨⟨v,hv,_,_⟩,_⟩,_⟩:=hrows
     have hsh:∃ t k,w.shape? blk=some (t,k)∧k≠0:=by
      unfold World.cell? at hv
      unfold World.shape?
      simp only at hv
      split at hv
      ·refine ⟨_,_,rfl,fun e=>?_⟩
       simp only [Option.isSome_none,Bool.false_eq_true,if_false] at hv
       rw [Array.getElem?_eq_none (by omega)] at hv
       simp at hv
      ·simp at hv
     obtain ⟨tA,kA,hsa,hkA⟩:=hsh
     have hpos:1≤(o+c')*s':=Nat.mul_pos (by omega) hs'
     refine ⟨_,_,tA,kA,t,arr.size,rfl,rfl,fun e=>hloc.2.1 (by simp only at e;rw [← e];exact hg),hsa,by simp only [World.shape?,m1],hkA,by omega,fun x hx=>?_⟩
     unfold World.frozen?
     rw [hx,m1]
     simp
 | [],hr=>simp [RepL] at hr
 | [_],hr=>simp [RepL] at hr
 | _::_::_::_,hr=>simp [RepL] at hr
theorem msound_cap_spec {ι:Type} {sz:Nat} {A0:ι→List (List AV)} {A:ι→List AV} {rl:ι→List AV} {O:ι→AV} {P:Program} {f:FuncId} {fn:Func} {c:Code} (hf:P.funcs[f]?=some fn) (hb:fn.body=some c) (X:AX)
  (h:∀ (i:ι) (w0:World) (bl:List Nat) (E:Env) (m:Nat),(A i).length+1≤fn.ntmps∧(rl i).length=fn.results.size ∧
   AW ⟨P,X,fn.ntmps,w0,⟨bl,E,1⟩⟩ c ⟨enterS (.sl 0 1 sz 0 (A0 i).length::A i),[(0,.vec 1 sz true (A0 i++anyRows sz m))],1⟩ (fun e st=>(e=.normal∨e=.ret)∧LeavesM (Types P) fn.results.toList st (.sl 0 1 sz 0 (A0 i).length) (rl i) (O i))) :
  MSound P f (specM (fun i=>.ow sz (A0 i)) A (fun i=>retOf (rl i)) O) :=
 msound_cap hf hb rfl fun w0 bl E a0 avs r out hr=>by
  obtain ⟨i,rfl,rfl,rfl,rfl⟩:=specM_some hr
  have:=h i w0 bl E 0
  exact ⟨this.1,sz,A0 i,rfl,rl i,rfl,this.2.1,X,fun m=>(h i w0 bl E m).2.2⟩
@[simp] theorem anyRows_length (s n:Nat):(anyRows s n).length=n:=by simp [anyRows]
end Go.AM
namespace Go.AM
open Go
def remK {α:Type} (k:Nat) (l:List (Nat×α)):List (Nat×α):=l.filter fun p=>!(Nat.beq p.1 k)
def tidyS (l:List (Nat×AV)):List (Nat×AV):=l.foldr (fun p acc=>match p.2 with
 | .any=>remK p.1 acc
 | a=>(p.1,a)::remK p.1 acc) []
def tidyM (l:List (Nat×AO)):List (Nat×AO):=l.foldr (fun p acc=>match p.2 with
 | .dead=>remK p.1 acc
 | a=>(p.1,a)::remK p.1 acc) []
theorem getM_rem {k t:Nat}:∀ {l:List (Nat×AO)},getM (remK k l) t=if t=k then .dead else getM l t
 | []=>by simp [remK,getM]
 | p::r=>by
  obtain ⟨j,a⟩:=p
  have ih:=getM_rem (k:=k) (t:=t) (l:=r)
  simp only [remK] at ih ⊢
  by_cases h:j=k
  ·subst h
   rw [List.filter_cons_of_neg (by simp),ih]
   simp only [getM]
   by_cases e:t=j
   ·simp [e]
   ·simp [e,Ne.symm e]
  ·rw [List.filter_cons_of_pos (by rw [Bool.not_eq_true',Bool.eq_false_iff];exact fun hh=>h (Nat.eq_of_beq_eq_true hh))]
   simp only [getM,ih]
   by_cases e:t=k
   ·subst e;simp [h]
   ·simp [e]
theorem getM_tidy {t:Nat}:∀ {l:List (Nat×AO)},getM (tidyM l) t=getM l t
 | []=>rfl
 | p::r=>by
  obtain ⟨j,a⟩:=p
  have ih:=getM_tidy (t:=t) (l:=r)
  simp only [tidyM] at ih
  simp only [tidyM,List.foldr_cons,getM]
  by_cases e:j=t
  ·subst e
   rw [if_pos rfl]
   cases a<;>first|(simp only [getM_rem,if_true];done)|simp [getM]
  ·rw [if_neg e,← ih]
   cases a<;>first|(rw [getM_rem,if_neg (Ne.symm e)];done)|(simp only [getM,if_neg e];rw [getM_rem,if_neg (Ne.symm e)])
section
variable {β:Type}
def forceN (n:Nat) (k:Nat→β):β:=match n with
 | 0=>k 0
 | m+1=>k (m+1)
def forceI (n:Int) (k:Int→β):β:=match n with
 | .ofNat m=>forceN m fun m=>k (.ofNat m)
 | .negSucc m=>forceN m fun m=>k (.negSucc m)
def forceB (b:Bool) (k:Bool→β):β:=match b with
 | true=>k true
 | false=>k false
def forceV (x:Value) (k:Value→β):β:=match x with
 | .int t n=>forceI n fun n=>k (.int t n)
 | .bool b=>forceB b fun b=>k (.bool b)
 | x=>k x
def forceK:List Int→(List Int→β)→β
 | [],k=>k []
 | a::r,k=>forceI a fun a=>forceK r fun r=>k (a::r)
mutual
def AV.force:AV→(AV→β)→β
 | .any,k=>k .any
 | .v x,k=>forceV x fun x=>k (.v x)
 | .agg cs,k=>forceL cs fun cs=>k (.agg cs)
 | .tup cs,k=>forceL cs fun cs=>k (.tup cs)
 | .rd s xs,k=>forceN s fun s=>forceLL xs fun xs=>k (.rd s xs)
 | .ow s xs,k=>forceN s fun s=>forceLL xs fun xs=>k (.ow s xs)
 | .rp cs,k=>forceL cs fun cs=>k (.rp cs)
 | .rf cs,k=>forceL cs fun cs=>k (.rf cs)
 | .bp b o,k=>forceN b fun b=>forceN o fun o=>k (.bp b o)
 | .sl b m s o n,k=>forceN b fun b=>forceN m fun m=>forceN s fun s=>forceN o fun o=>forceN n fun n=>k (.sl b m s o n)
 | .ep b m s i j,k=>forceN b fun b=>forceN m fun m=>forceN s fun s=>forceN i fun i=>forceN j fun j=>k (.ep b m s i j)
 | .bs b o s n,k=>forceN b fun b=>forceN o fun o=>forceN s fun s=>forceN n fun n=>k (.bs b o s n)
 | .fn f cs,k=>forceL cs fun cs=>k (.fn f cs)
 | .ifc f cs,k=>forceL cs fun cs=>k (.ifc f cs)
 | .mp b m,k=>forceN b fun b=>forceN m fun m=>k (.mp b m)
 | .rm n es,k=>forceN n fun n=>forceE es fun es=>k (.rm n es)
 | .om n es,k=>forceN n fun n=>forceE es fun es=>k (.om n es)
def forceE:List (List Int×AV)→(List (List Int×AV)→β)→β
 | [],k=>k []
 | (q,a)::r,k=>forceK q fun q=>a.force fun a=>forceE r fun r=>k ((q,a)::r)
def forceL:List AV→(List AV→β)→β
 | [],k=>k []
 | a::r,k=>a.force fun a=>forceL r fun r=>k (a::r)
def forceLL:List (List AV)→(List (List AV)→β)→β
 | [],k=>k []
 | a::r,k=>forceL a fun a=>forceLL r fun r=>k (a::r)
end
def AO.force (o:AO) (k:AO→β):β:=match o with
 | .dead=>k .dead
 | .box cs=>forceL cs fun cs=>k (.box cs)
 | .vec m s f xs=>forceN m fun m=>forceN s fun s=>forceB f fun f=>forceLL xs fun xs=>k (.vec m s f xs)
 | .map m n es=>forceN m fun m=>forceN n fun n=>forceE es fun es=>k (.map m n es)
def forceM:List (Nat×AO)→(List (Nat×AO)→β)→β
 | [],k=>k []
 | (n,o)::r,k=>forceN n fun n=>o.force fun o=>forceM r fun r=>k ((n,o)::r)
def forceS:List (Nat×AV)→(List (Nat×AV)→β)→β
 | [],k=>k []
 | (n,o)::r,k=>forceN n fun n=>o.force fun o=>forceS r fun r=>k ((n,o)::r)
def setMf:List (Nat×AO)→Nat→AO→(List (Nat×AO)→β)→β
 | [],b,o,k=>k [(b,o)]
 | (j,p)::r,b,o,k=>match Nat.beq j b with
  | true=>k ((j,o)::r)
  | false=>setMf r b o fun r=>k ((j,p)::r)
def consU:List (Nat×AO)→List (Nat×AO)→(List (Nat×AO)→β)→β
 | [],M,k=>k M
 | (b,o)::r,M,k=>consU r M fun M=>setMf M b o k
def AV.sh (a:AV) (k:AV→β):β:=match a with
 | .any=>k .any
 | .v x=>k (.v x)
 | .agg cs=>k (.agg cs)
 | .tup cs=>k (.tup cs)
 | .rd s xs=>k (.rd s xs)
 | .ow s xs=>k (.ow s xs)
 | .rp cs=>k (.rp cs)
 | .rf cs=>k (.rf cs)
 | .bp b o=>k (.bp b o)
 | .sl b m s o n=>k (.sl b m s o n)
 | .ep b m s i j=>k (.ep b m s i j)
 | .bs b o s n=>k (.bs b o s n)
 | .fn f cs=>k (.fn f cs)
 | .ifc f cs=>k (.ifc f cs)
 | .mp b m=>k (.mp b m)
 | .rm n es=>k (.rm n es)
 | .om n es=>k (.om n es)
def AO.sh (o:AO) (k:AO→β):β:=match o with
 | .dead=>k .dead
 | .box cs=>k (.box cs)
 | .vec m s f xs=>k (.vec m s f xs)
 | .map m n es=>k (.map m n es)
def shM:List (Nat×AO)→(List (Nat×AO)→β)→β
 | [],k=>k []
 | (n,o)::r,k=>forceN n fun n=>o.sh fun o=>shM r fun r=>k ((n,o)::r)
def shS:List (Nat×AV)→(List (Nat×AV)→β)→β
 | [],k=>k []
 | (n,o)::r,k=>forceN n fun n=>o.sh fun o=>shS r fun r=>k ((n,o)::r)
end
def getSf (l:List (Nat×AV)) (t:Nat):AV :=
 match l with
 | []=>.any
 | (k,a)::r=>match Nat.beq k t with
  | true=>a
  | false=>getSf r t
def getMf (l:List (Nat×AO)) (t:Nat):AO :=
 match l with
 | []=>.dead
 | (k,a)::r=>match Nat.beq k t with
  | true=>a
  | false=>getMf r t
def aEvf (l:List (Nat×AV)):Operand→AV
 | .tmp t=>getSf l t
 | .const v=>.v v
 | .func f=>.fn f []
 | .global _=>.any
def dstOKf (N:Nat) (o:Oper):Bool:=match o.dst with|some d=>Nat.blt d N|none=>true
def arunF (T:TypeId→Option TD) (X:AX) (ops:Array Oper) (N base:Nat):List Oper→Nat→List (Nat×AV)→List (Nat×AO)→Option (List (Nat×AV)×List (Nat×AO))
 | [],_,l,M=>some (l,M)
 | o::r,i,l,M=>match dstOKf N o with
  | false=>none
  | true=>match o.guard with
   | none=>match astep T X o.op (aEvf l) (getMf M) (base+16*i) with
    | some (av,u)=>av.force fun av=>forceM u fun u=>consU u M fun M=>match o.dst with
     | some d=>arunF T X ops N base r (i+1) ((d,av)::l) M
     | none=>arunF T X ops N base r (i+1) l M
    | none=>none
   | some (j,want)=>match (ops[j]?).bind (·.dst) with
    | some d=>match yV (getSf l d) with
     | some (some b)=>match b == want with
      | true=>match astep T X o.op (aEvf ((d,.v (.bool want))::l)) (getMf M) (base+16*i) with
       | some (av,u)=>av.force fun av=>forceM u fun u=>consU u M fun M=>match o.dst with
        | some d'=>arunF T X ops N base r (i+1) ((d',av)::(d,.v (.bool want))::l) M
        | none=>arunF T X ops N base r (i+1) ((d,.v (.bool want))::l) M
       | none=>none
      | false=>match o.dst with
       | some d'=>arunF T X ops N base r (i+1) ((d',.u)::(d,.v (.bool (!want)))::l) M
       | none=>arunF T X ops N base r (i+1) ((d,.v (.bool (!want)))::l) M
     | some none=>match o.dst with
      | some d'=>arunF T X ops N base r (i+1) ((d',.u)::l) M
      | none=>arunF T X ops N base r (i+1) l M
     | none=>none
    | none=>none
def aregionF (T:TypeId→Option TD) (X:AX) (N:Nat) (ops:Array Oper) (st:St):Option St :=
 match arunF T X ops N st.nx ops.toList 0 st.s st.m with
 | some (s,m)=>forceN (st.nx+16*ops.size) fun n=>some ⟨s,m,n⟩
 | none=>none
def aexec (T:TypeId→Option TD) (X:AX) (N:Nat):Nat→Code→St→Option (Exit×St)
 | 0,_,_=>none
 | n+1,k,st=>match k with
  | .skip=>some (.normal,st)
  | .exit id=>some (.exit id,st)
  | .ret=>some (.ret,st)
  | .seq x y=>match aexec T X N n x st with
   | some (.normal,st')=>aexec T X N n y st'
   | r=>r
  | .region _ ops _=>match aregionF T X N ops st with
   | some st'=>some (.normal,st')
   | none=>none
  | .cond o x y=>match aEvf st.s o with
   | .v (.bool true)=>aexec T X N n x st
   | .v (.bool false)=>aexec T X N n y st
   | _=>none
  | .block id x=>match aexec T X N n x st with
   | some (.exit id',st')=>if id'=id then some (.normal,st') else some (.exit id',st')
   | r=>r
  | .loop x=>shS (tidyS st.s) fun s=>shM (tidyM st.m) fun m=>match aexec T X N n x ⟨s,m,st.nx⟩ with
   | some (.normal,st')=>aexec T X N n (.loop x) st'
   | r=>r
  | _=>none
def AV.plainB:AV→Bool
 | .any|.v _=>true
 | _=>false
def AV.flat1B:AV→Bool
 | .any|.v _=>true
 | .ow _ xs=>xs.all fun e=>e.all AV.plainB
 | _=>false
def AV.flatVB:AV→Bool
 | .agg cs=>cs.all AV.flat1B
 | a=>a.flat1B
def AV.flatB:AV→Bool
 | .tup cs=>cs.all AV.flatVB
 | a=>a.flatVB
def AV.flatOB:AV→Bool
 | .rf cs=>cs.all AV.flat1B
 | _=>true
def nodupB:List Nat→Bool
 | []=>true
 | a::r=>!(r.any fun b=>Nat.beq b a)&&nodupB r
def isEnd:Exit→Bool
 | .normal|.ret=>true
 | _=>false
def evalP (T:TypeId→Option TD) (X:AX) (fn:Func) (c:Code) (n:Nat) (avs:List AV):Option AV :=
 match Nat.ble avs.length fn.ntmps,(forceL avs fun avs=>forceS (enterS avs) fun s=>aexec T X fn.ntmps n c ⟨s,[],0⟩) with
 | true,some (e,st)=>match isEnd e,aResults T st fn.results.toList with
  | true,some as=>match leaveVals (getM st.m) as with
   | some (rs,ids)=>match nodupB ids&&Nat.beq rs.length fn.results.toList.length&&(retOf rs).flatB with
    | true=>some (retOf rs)
    | false=>none
   | none=>none
  | _,_=>none
 | _,_=>none
def isRf:AV→Bool
 | .rf _=>true
 | _=>false
def evalM (T:TypeId→Option TD) (X:AX) (fn:Func) (c:Code) (n:Nat) (a0:AV) (avs:List AV):Option (AV×AV) :=
 match Nat.ble (avs.length+1) fn.ntmps,(forceL avs fun avs=>a0.force fun a0=>forceS (enterS ((openArg 0 a0).1::avs)) fun s=>forceM (openArg 0 a0).2.1 fun m=>aexec T X fn.ntmps n c ⟨s,m,(openArg 0 a0).2.2⟩) with
 | true,some (e,st)=>match isEnd e,aResults T st fn.results.toList with
  | true,some as=>match leaveVals (getM st.m) as with
   | some (rs,ids)=>match (if isRf a0 then leaveArg (getM st.m) (openArg 0 a0).1 else some (.any,[])) with
    | some (o,is)=>match nodupB (is++ids)&&Nat.beq rs.length fn.results.toList.length&&(retOf rs).flatB&&o.flatOB with
     | true=>some (retOf rs,o)
     | false=>none
    | none=>none
   | none=>none
  | _,_=>none
 | _,_=>none
structure Ev where
 T:TypeId→Option TD
 base:AX
 isBase:FuncId→Bool
 isM:FuncId→Bool
 skip:FuncId→Bool
 sz:FuncId→Nat→Nat
def Ev.w (v:Ev) (f:FuncId):Bool:=if v.isBase f then v.base.writes f else v.isM f
def Ev.call (P:Program) (v:Ev):Nat→FuncId→List AV→(Nat→AO)→Nat→Option (AV×List (Nat×AO))
 | 0,f=>fun avs M nid=>match v.isBase f with
  | true=>v.base.call f avs M nid
  | false=>none
 | n+1,f=>fun avs M nid=>match v.isBase f with
  | true=>v.base.call f avs M nid
  | false=>match v.skip f with
   | true=>none
   | false=>match P.funcs[f]? with
    | none=>none
    | some fn=>match fn.body with
     | none=>none
     | some c=>match v.isM f with
      | true=>callM false (v.sz f) (evalM v.T ⟨Ev.call P v n,v.w,true,v.base.eqs⟩ fn c n) avs M nid
      | false=>callP (evalP v.T ⟨Ev.call P v n,v.w,true,v.base.eqs⟩ fn c n) avs M nid
end Go.AM
namespace Go.AM
open Go
theorem aw_cases_nil {c:Cx} {k:Code} {st:St} {Q:Exit→St→Prop} (t s:Nat) (h:getS st.s t=.rd s []) (h1:AW c k ⟨(t,.v (.slice none 0 0))::st.s,st.m,st.nx⟩ Q) (h2:∀ p n,AW c k ⟨(t,.v (.slice (some p) 0 n))::st.s,st.m,st.nx⟩ Q):AW c k st Q:=fun a w hs=>by
 obtain ⟨E,hs0,hn,hm⟩:=hs
 have ht:=hs0.slots t
 rw [h] at ht
 simp only [Rep,CRep] at ht
 obtain ⟨p,n,hx,_,hp,_⟩:=ht
 have key:∀ v,a.tmps.getD t undef=v→Sat c.N c.w0 c.bl a w ⟨(t,.v v)::st.s,st.m,st.nx⟩:=fun v hv=>by
  refine ⟨E,⟨hs0.defers,hs0.size,hs0.inv,hs0.mem,fun t'=>?_⟩,hn,hm⟩
  simp only [getS]
  split
  ·rename_i e;subst e;simp only [Rep,CRep];exact hv
  ·exact hs0.slots t'
 cases p with
 | none=>obtain rfl:=hp rfl;exact h1 a w (key _ hx)
 | some p=>exact h2 p n a w (key _ hx)
theorem sat_tidyM {N:Nat} {w0:World} {bl:Bk} {a:Act} {w:World} {s:List (Nat×AV)} {m:List (Nat×AO)} {nx:Nat}:Sat N w0 bl a w ⟨s,tidyM m,nx⟩↔Sat N w0 bl a w ⟨s,m,nx⟩:=by
 unfold Sat
 have e2:getM (tidyM m)=getM m:=funext fun t=>getM_tidy
 simp only [e2]
theorem le_of2 {n:Nat} {s s':List (Nat×AV)} {m m':List (Nat×AO)} {nx nx':Nat} (hn:n≤nx') (hs:∀ p∈s',AVle (getS s p.1) p.2∧p.2.under nx') (hm:∀ p∈tidyM m',AOle (getM m p.1) p.2∧p.2.under nx'∧p.1<nx') :
  Le n ⟨s,m,nx⟩ ⟨s',m',nx'⟩:=fun N w0 bl a w hb h=>sat_tidyM.1 (le_of hn hs hm N w0 bl a w hb h)
theorem aw_loopK {c:Cx} {st:St} {Q:Exit→St→Prop} {ι:Type} (ks:List Nat) (V:ι→List (Nat×AV)) (W:ι→List (Nat×AO)) (μ:ι→Nat) (i0:ι) {x:Code} {s0:List (Nat×AV)} {m0:List (Nat×AO)}
  (_hs:keepS ks st.s=s0) (_hm:tidyM st.m=m0) (h0:Le c.bl.n st ⟨V i0++s0,W i0++m0,st.nx⟩)
  (round:∀ i,AW c x ⟨V i++s0,W i++m0,st.nx⟩ (thenQ (fun st'=>∃ i',Le c.bl.n st' ⟨V i'++s0,W i'++m0,st.nx⟩∧μ i'<μ i) Q)):AW c (.loop x) st Q :=
 aw_loop (fun i=>⟨V i++s0,W i++m0,st.nx⟩) μ i0 h0 round
@[simp] theorem nat_beq (n m:Nat):Nat.beq n m=decide (n=m):=by
 rw [Bool.eq_iff_iff,decide_eq_true_iff]
 exact ⟨Nat.eq_of_beq_eq_true,fun h=>by subst h;exact Nat.beq_refl n⟩
attribute [simp] tidyM remK
def unI:List (List AV)→Option (List Int)
 | []=>some []
 | [.v (.int .i64 x)]::r=>match unI r with
  | some l=>some (x::l)
  | none=>none
 | _=>none
theorem unI_eq:∀ {xs:List (List AV)} {l:List Int},unI xs=some l→xs=irows l
 | [],l,h=>by simp only [unI,Option.some.injEq] at h;subst h;rfl
 | e::r,l,h=>by
  unfold unI at h
  split at h
  ·simp at *
  ·rename_i x r' heq
   simp only [List.cons.injEq] at heq
   obtain ⟨rfl,rfl⟩:=heq
   cases hr:unI r<;>simp only [hr,reduceCtorEq,Option.some.injEq] at h
   subst h
   rw [unI_eq hr];rfl
  ·simp at h
theorem body_ok {P : Program} {f : FuncId} (fn : Func) (h : P.funcs[f]? = some fn) (h2 : (fn.body.isSome && !(fn.name == "runtime.NumGoroutine")) = true) : BodyOK P f := by
 simp only [Bool.and_eq_true,Bool.not_eq_true'] at h2
 exact ⟨fn,h,h2.1,h2.2⟩
def gi (l:List Int) (n:Nat):Int:=l.getD n 0
theorem irows_gi {l:List Int} {n:Nat} (h:n<l.length):(irows l)[n]?=some [I (gi l n)]:=irows_get h
theorem gi_eq {l:List Int} {n:Nat} (h:n<l.length):gi l n=l[n]:=by
 unfold gi
 rw [List.getD_eq_getElem?_getD,List.getElem?_eq_getElem h];rfl
theorem wrapU64 {n:Int} (h:0≤n∧n≤18446744073709551615):IntKind.u64.wrap n=n:=by
 have:IntKind.u64.wrap n=n%18446744073709551616:=rfl
 rw [this];omega
end Go.AM
namespace Go.AM
open Go
def AX.start (w:FuncId→Bool):AX:=⟨fun _ _ _ _=>.none,w,true,fun _=>false⟩
theorem xok_start (P:Program) (w:FuncId→Bool):XOK P (AX.start w) where
 calls:=fun f avs M nid r h=>by simp [AX.start] at h
 eqs:=fun t h=>by simp [AX.start] at h
 dom:=fun f avs M nid r h=>by simp [AX.start] at h
 anyW:=fun f _=>rfl
theorem xok_putM {P:Program} {X:AX} (h:XOK P X) {f:FuncId} {g:List AV→(Nat→AO)→Nat→Option (AV×List (Nat×AO))} (hw:X.writes f=true) (hg:(CallOK P f g∧BodyOK P f)∨ExtOK P f g)
  (hd:∀ avs M nid r,g avs M nid=some r→∀ b∈r.2.map (·.1),(nid≤b∧b<nid+16)∨M b≠.dead):XOK P (X.add f g) where
 calls:=fun k avs M nid r hr=>by
  simp only [AX.add] at hr ⊢
  split
  ·rename_i e;subst e;exact hg
  ·rename_i e
   rw [if_neg e] at hr
   exact h.calls k avs M nid r hr
 eqs:=h.eqs
 dom:=fun k avs M nid r hr b hb=>by
  simp only [AX.add] at hr ⊢
  split at hr
  ·rename_i e;subst e
   exact (hd avs M nid r hr b hb).imp id fun h=>⟨hw,h⟩
  ·exact h.dom k avs M nid r hr b hb
 anyW:=h.anyW
def AX.W (X:AX) (w:FuncId→Bool):Prop:=X.writes=w∧X.anyW=true
theorem AX.W.add {X:AX} {w:FuncId→Bool} (h:X.W w) (f:FuncId) (g:List AV→(Nat→AO)→Nat→Option (AV×List (Nat×AO))):(X.add f g).W w:=h
theorem ordB_w {X:AX} {w:FuncId→Bool} (h:X.W w) {ops:Array Oper}:ordB X ops=ordB (AX.start w) ops:=by
 obtain ⟨a,b,c,d⟩:=X
 obtain ⟨h1,h2⟩:=h
 simp only at h1 h2
 subst h1 h2
 rfl
end Go.AM
namespace Go.AM
open Go
inductive Sh where
 | int (k:IntKind)
 | bool
 | sl (s:List Sh)
mutual
def Fit:Sh→AV→Prop
 | .int k,a=>∃ n,a=.v (.int k n)∧(Lit.int k n).wf=true
 | .bool,a=>∃ b,a=.v (.bool b)
 | .sl s,a=>∃ xs,a=.rd s.length xs∧xs.length≤maxLen∧∀ e∈xs,FitL s e
def FitL:List Sh→List AV→Prop
 | [],[]=>True
 | s::r,a::as=>Fit s a∧FitL r as
 | _,_=>False
end
def fieldsOf (P:Program) (g:TypeId→Option (List Sh)):List Field→Nat→Option (List Sh)
 | [],_=>some []
 | f::r,off=>match g f.type,fieldsOf P g r (off+P.cellsOf f.type) with
  | some s,some l=>if f.offset=off∧s.length=P.cellsOf f.type then some (s++l) else none
  | _,_=>none
def shapeOf (P:Program):Nat→TypeId→Option (List Sh)
 | 0,_=>none
 | n+1,t=>match P.underlying t with
  | some .bool=>some [.bool]
  | some (.int k)=>some [.int k]
  | some (.slice e)=>match shapeOf P n e with
   | some s=>if s.length=P.cellsOf e∧1≤s.length then some [.sl s] else none
   | none=>none
  | some (.struct fs)=>match fieldsOf P (shapeOf P n) fs.toList 0 with
   | some s=>if s.length=P.cellsOf t then some s else none
   | none=>none
  | some (.array k e)=>match shapeOf P n e with
   | some s=>if s.length=P.cellsOf e∧k*s.length=P.cellsOf t then some (List.replicate k s).flatten else none
   | none=>none
  | _=>none
theorem FitL.append:∀ {s t:List Sh} {a b:List AV},FitL s a→FitL t b→FitL (s++t) (a++b)
 | [],_,[],_,_,h=>h
 | x::s,t,y::a,b,h,k=>by
  simp only [FitL,List.cons_append] at h ⊢
  exact ⟨h.1,h.2.append k⟩
 | [],_,_::_,_,h,_=>by simp [FitL] at h
 | _::_,_,[],_,h,_=>by simp [FitL] at h
theorem CRepL.append {w:World} {G:Nat→Prop}:∀ {a b:List AV} {xs ys:List Value},CRepL w G a xs→CRepL w G b ys→CRepL w G (a++b) (xs++ys)
 | [],_,[],_,_,h=>h
 | x::s,t,y::a,b,h,k=>by
  simp only [CRepL,List.cons_append] at h ⊢
  exact ⟨h.1,h.2.append k⟩
 | [],_,_::_,_,h,_=>by simp [CRepL] at h
 | _::_,_,[],_,h,_=>by simp [CRepL] at h
theorem FitL.length:∀ {s:List Sh} {a:List AV},FitL s a→a.length=s.length
 | [],[],_=>rfl
 | _::_,_::_,h=>by simp only [FitL] at h;simp [FitL.length h.2]
 | [],_::_,h=>by simp [FitL] at h
 | _::_,[],h=>by simp [FitL] at h
theorem CRepL.length {w:World} {G:Nat→Prop}:∀ {a:List AV} {xs:List Value},CRepL w G a xs→a.length=xs.length
 | [],[],_=>rfl
 | _::_,_::_,h=>by simp only [CRepL] at h;simp [CRepL.length h.2]
 | [],_::_,h=>by simp [CRepL] at h
 | _::_,[],h=>by simp [CRepL] at h
def Opened (w:World) (sh:List Sh) (cs:List Value):Prop:=∃ avs,FitL sh avs∧CRepL w (allG w) avs cs∧∀ y∈cs,y.oneCell'=true
theorem Opened.nil (w:World):Opened w [] []:=⟨[],by simp [FitL],by simp [CRepL],by simp⟩
theorem Opened.append {w:World} {s t:List Sh} {xs ys:List Value} (h:Opened w s xs) (k:Opened w t ys):Opened w (s++t) (xs++ys):=by
 obtain ⟨a,h1,h2,h3⟩:=h
 obtain ⟨b,k1,k2,k3⟩:=k
 refine ⟨a++b,h1.append k1,h2.append k2,fun y hy=>?_⟩
 rcases List.mem_append.1 hy with hy|hy
 ·exact h3 y hy
 ·exact k3 y hy
section
variable {H:Type} {enc:TypeId×Value→H} {P:Program} {w:World} {base:Nat} {spare:Nat→Bool} {held:Bool}
theorem fields_open {n:Nat} {cs:List Value} {g:TypeId→Option (List Sh)} (hg:∀ t sh fuel cs x,g t=some sh→DataW.trod enc P w base spare held fuel t cs=some x→Opened w sh cs) :
  ∀ {fs:List Field} {off:Nat} {sh:List Sh},fieldsOf P g fs off=some sh→(∀ f∈fs,∃ y,DataW.trod enc P w base spare held n f.type ((cs.drop f.offset).take (P.cellsOf f.type))=some y)→Opened w sh ((cs.drop off).take sh.length)
 | [],off,sh,h,_=>by
  simp only [fieldsOf,Option.some.injEq] at h
  subst h
  simpa using Opened.nil w
 | f::r,off,sh,h,hf=>by
  simp only [fieldsOf] at h
  cases h1:g f.type<;>simp only [h1,reduceCtorEq] at h
  rename_i s
  cases h2:fieldsOf P g r (off+P.cellsOf f.type)<;>simp only [h2,reduceCtorEq] at h
  rename_i l
  split at h
  case isFalse=>simp at h
  rename_i hc
  simp only [Option.some.injEq] at h
  subst h
  obtain ⟨y,hy⟩:=hf f (by simp)
  have a1:=hg _ _ _ _ _ h1 hy
  have a2:=fields_open hg h2 fun f' hf'=>hf f' (by simp [hf'])
  rw [List.length_append,List.take_add,List.drop_drop,hc.2]
  rw [hc.1] at a1
  exact a1.append a2
theorem array_open {n k c:Nat} {e:TypeId} {cs:List Value} {s:List Sh} (hg:∀ fuel cs x,DataW.trod enc P w base spare held fuel e cs=some x→Opened w s cs) (hc:s.length=c)
  (hf:∀ i,i<k→∃ y,DataW.trod enc P w base spare held n e ((cs.drop (i*c)).take c)=some y):∀ m i,i+m=k→Opened w (List.replicate m s).flatten ((cs.drop (i*c)).take (m*c))
 | 0,i,_=>by simpa using Opened.nil w
 | m+1,i,h=>by
  obtain ⟨y,hy⟩:=hf i (by omega)
  have a1:=hg _ _ _ hy
  have a2:=array_open hg hc hf m (i+1) (by omega)
  rw [List.replicate_succ,List.flatten_cons,Nat.add_mul,Nat.one_mul,Nat.add_comm (m*c) c,List.take_add,List.drop_drop,← Nat.succ_mul]
  exact a1.append a2
theorem shape_open:∀ (m:Nat) (t:TypeId) (sh:List Sh) (fuel:Nat) (cs:List Value) (x:DataW H×List MemPlace),shapeOf P m t=some sh→DataW.trod enc P w base spare held fuel t cs=some x→Opened w sh cs
 | 0,_,_,_,_,_,h,_=>by simp [shapeOf] at h
 | m+1,t,sh,fuel,cs,x,h,hd=>by
  simp only [shapeOf] at h
  cases hu:P.underlying t with
  | none=>simp [hu] at h
  | some u =>
   rw [hu] at h
   cases u<;>simp only [reduceCtorEq,Option.some.injEq] at h
   case bool =>
    subst h
    obtain ⟨b,rfl,_⟩:=DataW.trod_bool hu hd
    exact ⟨[.v (.bool b)],by simp [FitL,Fit],by simp [CRepL,CRep],by simp⟩
   case int k =>
    subst h
    obtain ⟨n,rfl,_,hw⟩:=DataW.trod_int hu hd
    exact ⟨[.v (.int k n)],by simp [FitL,Fit,hw],by simp [CRepL,CRep],by simp⟩
   case slice e =>
    cases hs:shapeOf P m e<;>simp only [hs,reduceCtorEq] at h
    rename_i s
    split at h
    case isFalse=>simp at h
    rename_i hc
    simp only [Option.some.injEq] at h
    subst h
    rcases DataW.trod_slice hu hd with ⟨rfl,_⟩|⟨a,len,cap,elems,rest,n,_,rfl,_,hb,hl,hm,hlen,hel,_,_⟩
    ·refine ⟨[.rd s.length []],by simp [FitL,Fit],?_,by simp⟩
     simp only [CRepL,CRep,and_true]
     exact ⟨none,0,rfl,by simp,fun _=>rfl,.inl trivial⟩
    ·have each:∀ i,i<len→∃ avs cs',FitL s avs∧CRepL w (allG w) avs cs'∧(∀ y∈cs',y.oneCell'=true)∧w.cells? base (a.add (i*P.cellsOf e)) (P.cellsOf e)=some cs':=fun i hi=>by
      have h1:=hel i hi
      have h2:elems[i]?=some (elems[i]'(by omega)):=List.getElem?_eq_getElem (by omega)
      rw [h2,Option.bind_eq_some_iff] at h1
      obtain ⟨cs',q1,q2⟩:=h1
      obtain ⟨avs,p1,p2,p3⟩:=shape_open m e s _ _ _ hs q2
      exact ⟨avs,cs',p1,p2,p3,q1⟩
     by_cases h0:len=0
     ·subst h0
      refine ⟨[.rd s.length []],by simp [FitL,Fit],?_,by simp⟩
      simp only [CRepL,CRep,and_true]
      exact ⟨some a,cap,rfl,by simp,by simp,.inl trivial⟩
     ·obtain ⟨avs0,cs0,f0,r0,_,c0⟩:=each 0 (by omega)
      have hcell0:=(World.cells?_some c0).2.2 0 (by have:=f0.length;have:=r0.length;have:=(World.cells?_some c0).2.1;omega)
      have hcs0:0<cs0.length:=by have:=f0.length;have:=r0.length;omega
      have hsp:a.spot=none:=by
       rw [List.getElem?_eq_getElem hcs0] at hcell0
       unfold World.cell? at hcell0
       split at hcell0
       ·split at hcell0
        ·simp at hcell0
        ·rename_i hns
         cases hq:a.spot with
         | none=>rfl
         | some z=>exfalso;apply hns;simp [Addr.add,hq]
       ·simp at hcell0
      have hat:∀ n,a.add n=⟨a.block,a.off+n,none⟩:=fun n=>by
       obtain ⟨b,o,sp⟩:=a
       simp only at hsp
       subst hsp
       unfold Addr.add
       split
       ·rename_i h;subst h;rfl
       ·rfl
      have hblk:a.block<w.heap.size:=by
       rw [List.getElem?_eq_getElem hcs0] at hcell0
       unfold World.cell? at hcell0
       split at hcell0
       ·rename_i hh
        have:=(Array.getElem?_eq_some_iff.1 hh).1
        rw [hat] at this
        simpa [Addr.add] using this
       ·simp at hcell0
      let f:Nat→List AV:=fun i=>if h:i<len then (each i h).choose else []
      have hf:∀ i (h:i<len),∃ cs',FitL s (f i)∧CRepL w (allG w) (f i) cs'∧(∀ y∈cs',y.oneCell'=true)∧w.cells? base (a.add (i*P.cellsOf e)) (P.cellsOf e)=some cs':=fun i h=>by
       simp only [f,dif_pos h]
       exact (each i h).choose_spec
      refine ⟨[.rd s.length ((List.range len).map f)],?_,?_,by simp⟩
      ·simp only [FitL,Fit,and_true]
       refine ⟨_,rfl,by simp;omega,fun e' he'=>?_⟩
       obtain ⟨i,hi,rfl⟩:=List.mem_map.1 he'
       obtain ⟨_,h1,_⟩:=hf i (List.mem_range.1 hi)
       exact h1
      ·simp only [CRepL,CRep,and_true]
       refine ⟨some a,cap,by simp,by simp;omega,by simp,.inr ⟨a.block,a.off,?_,hblk,CRows.of_get fun i e' he'=>?_⟩⟩
       ·obtain ⟨b,o,sp⟩:=a
        simp only at hsp
        rw [hsp]
       ·have hi:i<len:=by
         have:=(List.getElem?_eq_some_iff.1 he').1
         simpa using this
        have he2:e'=f i:=by
         rw [List.getElem?_map,List.getElem?_range hi] at he'
         simpa using he'.symm
        subst he2
        obtain ⟨cs',h1,h2,h3,h4⟩:=hf i hi
        have h5:=World.cells?_some h4
        refine ⟨h1.length,CCells.of_list h2 h3 fun j v hv=>?_⟩
        have hj:j<cs'.length:=(List.getElem?_eq_some_iff.1 hv).1
        have h6:=h5.2.2 j (by have:=h5.2.1;omega)
        rw [hv] at h6
        rw [← h6,hat]
        simp only [hc.1]
        unfold Addr.add
        split
        ·rename_i hz;rw [hz];rfl
        ·rfl
   case struct fs =>
    cases hs:fieldsOf P (shapeOf P m) fs.toList 0<;>simp only [hs,reduceCtorEq] at h
    rename_i s
    split at h
    case isFalse=>simp at h
    rename_i hc
    simp only [Option.some.injEq] at h
    subst h
    obtain ⟨xs,n,rfl,_,hl,hxl,hx⟩:=DataW.trod_struct hu hd
    have:=fields_open (n:=n) (cs:=cs) (fun t sh fuel cs x h1 h2=>shape_open m t sh fuel cs x h1 h2) hs fun f hf=>by
     obtain ⟨i,hi,rfl⟩:=List.getElem_of_mem hf
     have hi':i<fs.size:=by simpa using hi
     have:=hx i fs[i] (Array.getElem?_eq_getElem hi')
     rw [List.getElem?_eq_getElem (by omega)] at this
     exact ⟨_,by simpa using this⟩
    rw [List.drop_zero,List.take_of_length_le (by omega)] at this
    exact this
   case array k e =>
    cases hs:shapeOf P m e<;>simp only [hs,reduceCtorEq] at h
    rename_i s
    split at h
    case isFalse=>simp at h
    rename_i hc
    simp only [Option.some.injEq] at h
    subst h
    obtain ⟨xs,n,rfl,_,hl,hxl,hx⟩:=DataW.trod_array hu hd
    have:=array_open (n:=n) (k:=k) (c:=P.cellsOf e) (cs:=cs) (fun fuel cs x h=>shape_open m e s fuel cs x hs h) hc.1 (fun i hi=>by
     have:=hx i hi
     rw [List.getElem?_eq_getElem (by omega)] at this
     exact ⟨_,this⟩) k 0 (by omega)
    rw [Nat.zero_mul,List.drop_zero,List.take_of_length_le (by rw [hl,← hc.2,hc.1];exact Nat.le_refl _)] at this
    exact this
end
end Go.AM
namespace Go.AM
open Go
theorem specF_flat {ι:Type} {A:ι→List AV} {R:ι→AV} (h:∀ i,(R i).flat) {avs:List AV} {r:AV} (hr:specF A R avs=some r):r.flat:=by
 obtain ⟨i,_,rfl⟩:=specF_some hr
 exact h i
theorem callP_spec {ι:Type} {A:ι→List AV} {R:ι→AV} {avs:List AV} {M:Nat→AO} {n:Nat} (i:ι) (hp:peekVals M avs=some (A i)) (inj:∀ j,A j=A i→R j=R i) (ho:(openRet n (R i)).2.2≤n+16) :
  callP (specF A R) avs M n=some ((openRet n (R i)).1,(openRet n (R i)).2.1):=by
 unfold callP
 rw [hp]
 simp only [specF_eq i inj,if_pos ho]
theorem xok_spec {P : Program} {X : AX} (h : XOK P X) {f : FuncId} {fn : Func} {ι : Type} {A : ι → List AV} {R : ι → AV} (hs : PSound P f (specF A R)) (hfl : ∀ i, (R i).flat) (hf : P.funcs[f]? = some fn) (hn : (fn.body.isSome && !(fn.name == "runtime.NumGoroutine")) = true) :
  XOK P (X.add f (callP (specF A R))) :=
 xok_add h (.inl ⟨hs.callP fun _ _ h=>specF_flat hfl h,body_ok fn hf hn⟩) fun _ _ _ _ h=>callP_keys h
end Go.AM
