/- A part of the proof; no condition. -/
import Derived.Test.YtcfhmdljeeppfaaGreatQAmQ
import Derived.ProofKit
import Derived.OpenShut
import Derived.WalkKit
set_option linter.all false
namespace Go.AM
open Go
def remK {α:Type} (k:Nat) (l:List (Nat×α)):List (Nat×α):=l.filter fun p=>!(Nat.beq p.1 k)
def tidyS (l:List (Nat×AV)):List (Nat×AV):=l.foldr (fun p acc=>match p.2 with
 | .any=>remK p.1 acc
 | a=>(p.1,a)::remK p.1 acc) []
def tidyM (l:List (Nat×AO)):List (Nat×AO):=l.foldr (fun p acc=>match p.2 with
 | .dead=>remK p.1 acc
 | a=>(p.1,a)::remK p.1 acc) []
theorem getM_rem {k t:Nat}:∀ {l:List (Nat×AO)},getM (remK k l) t=if t=k then .dead else getM l t
 | []=>by simp [remK,getM]
 | p::r=>by
  obtain ⟨j,a⟩:=p
  have ih:=getM_rem (k:=k) (t:=t) (l:=r)
  simp only [remK] at ih ⊢
  by_cases h:j=k
  ·subst h
   rw [List.filter_cons_of_neg (by simp),ih]
   simp only [getM]
   by_cases e:t=j
   ·simp [e]
   ·simp [e,Ne.symm e]
  ·rw [List.filter_cons_of_pos (by rw [Bool.not_eq_true',Bool.eq_false_iff];exact fun hh=>h (Nat.eq_of_beq_eq_true hh))]
   simp only [getM,ih]
   by_cases e:t=k
   ·subst e;simp [h]
   ·simp [e]
theorem getM_tidy {t:Nat}:∀ {l:List (Nat×AO)},getM (tidyM l) t=getM l t
 | []=>rfl
 | p::r=>by
  obtain ⟨j,a⟩:=p
  have ih:=getM_tidy (t:=t) (l:=r)
  simp only [tidyM] at ih
  simp only [tidyM,List.foldr_cons,getM]
  by_cases e:j=t
  ·subst e
   rw [if_pos rfl]
   cases a<;>first|(simp only [getM_rem,if_true];done)|simp [getM]
  ·rw [if_neg e,← ih]
   cases a<;>first|(rw [getM_rem,if_neg (Ne.symm e)];done)|(simp only [getM,if_neg e];rw [getM_rem,if_neg (Ne.symm e)])
section
variable {β:Type}
def forceN (n:Nat) (k:Nat→β):β:=match n with
 | 0=>k 0
 | m+1=>k (m+1)
def forceI (n:Int) (k:Int→β):β:=match n with
 | .ofNat m=>forceN m fun m=>k (.ofNat m)
 | .negSucc m=>forceN m fun m=>k (.negSucc m)
def forceB (b:Bool) (k:Bool→β):β:=match b with
 | true=>k true
 | false=>k false
def forceV (x:Value) (k:Value→β):β:=match x with
 | .int t n=>forceI n fun n=>k (.int t n)
 | .bool b=>forceB b fun b=>k (.bool b)
 | x=>k x
def forceK:List Int→(List Int→β)→β
 | [],k=>k []
 | a::r,k=>forceI a fun a=>forceK r fun r=>k (a::r)
mutual
def AV.force:AV→(AV→β)→β
 | .any,k=>k .any
 | .v x,k=>forceV x fun x=>k (.v x)
 | .agg cs,k=>forceL cs fun cs=>k (.agg cs)
 | .tup cs,k=>forceL cs fun cs=>k (.tup cs)
 | .rd s xs,k=>forceN s fun s=>forceLL xs fun xs=>k (.rd s xs)
 | .ow s xs,k=>forceN s fun s=>forceLL xs fun xs=>k (.ow s xs)
 | .rp cs,k=>forceL cs fun cs=>k (.rp cs)
 | .rf cs,k=>forceL cs fun cs=>k (.rf cs)
 | .bp b o,k=>forceN b fun b=>forceN o fun o=>k (.bp b o)
 | .sl b m s o n,k=>forceN b fun b=>forceN m fun m=>forceN s fun s=>forceN o fun o=>forceN n fun n=>k (.sl b m s o n)
 | .ep b m s i j,k=>forceN b fun b=>forceN m fun m=>forceN s fun s=>forceN i fun i=>forceN j fun j=>k (.ep b m s i j)
 | .bs b o s n,k=>forceN b fun b=>forceN o fun o=>forceN s fun s=>forceN n fun n=>k (.bs b o s n)
 | .fn f cs,k=>forceL cs fun cs=>k (.fn f cs)
 | .ifc f cs,k=>forceL cs fun cs=>k (.ifc f cs)
 | .mp b m,k=>forceN b fun b=>forceN m fun m=>k (.mp b m)
 | .rm n es,k=>forceN n fun n=>forceE es fun es=>k (.rm n es)
 | .om n es,k=>forceN n fun n=>forceE es fun es=>k (.om n es)
def forceE:List (List Int×AV)→(List (List Int×AV)→β)→β
 | [],k=>k []
 | (q,a)::r,k=>forceK q fun q=>a.force fun a=>forceE r fun r=>k ((q,a)::r)
def forceL:List AV→(List AV→β)→β
 | [],k=>k []
 | a::r,k=>a.force fun a=>forceL r fun r=>k (a::r)
def forceLL:List (List AV)→(List (List AV)→β)→β
 | [],k=>k []
 | a::r,k=>forceL a fun a=>forceLL r fun r=>k (a::r)
end
def AO.force (o:AO) (k:AO→β):β:=match o with
 | .dead=>k .dead
 | .box cs=>forceL cs fun cs=>k (.box cs)
 | .vec m s f xs=>forceN m fun m=>forceN s fun s=>forceB f fun f=>forceLL xs fun xs=>k (.vec m s f xs)
 | .map m n es=>forceN m fun m=>forceN n fun n=>forceE es fun es=>k (.map m n es)
def forceM:List (Nat×AO)→(List (Nat×AO)→β)→β
 | [],k=>k []
 | (n,o)::r,k=>forceN n fun n=>o.force fun o=>forceM r fun r=>k ((n,o)::r)
def forceS:List (Nat×AV)→(List (Nat×AV)→β)→β
 | [],k=>k []
 | (n,o)::r,k=>forceN n fun n=>o.force fun o=>forceS r fun r=>k ((n,o)::r)
def setMf:List (Nat×AO)→Nat→AO→(List (Nat×AO)→β)→β
 | [],b,o,k=>k [(b,o)]
 | (j,p)::r,b,o,k=>match Nat.beq j b with
  | true=>k ((j,o)::r)
  | false=>setMf r b o fun r=>k ((j,p)::r)
def consU:List (Nat×AO)→List (Nat×AO)→(List (Nat×AO)→β)→β
 | [],M,k=>k M
 | (b,o)::r,M,k=>consU r M fun M=>setMf M b o k
def AV.sh (a:AV) (k:AV→β):β:=match a with
 | .any=>k .any
 | .v x=>k (.v x)
 | .agg cs=>k (.agg cs)
 | .tup cs=>k (.tup cs)
 | .rd s xs=>k (.rd s xs)
 | .ow s xs=>k (.ow s xs)
 | .rp cs=>k (.rp cs)
 | .rf cs=>k (.rf cs)
 | .bp b o=>k (.bp b o)
 | .sl b m s o n=>k (.sl b m s o n)
 | .ep b m s i j=>k (.ep b m s i j)
 | .bs b o s n=>k (.bs b o s n)
 | .fn f cs=>k (.fn f cs)
 | .ifc f cs=>k (.ifc f cs)
 | .mp b m=>k (.mp b m)
 | .rm n es=>k (.rm n es)
 | .om n es=>k (.om n es)
def AO.sh (o:AO) (k:AO→β):β:=match o with
 | .dead=>k .dead
 | .box cs=>k (.box cs)
 | .vec m s f xs=>k (.vec m s f xs)
 | .map m n es=>k (.map m n es)
def shM:List (Nat×AO)→(List (Nat×AO)→β)→β
 | [],k=>k []
 | (n,o)::r,k=>forceN n fun n=>o.sh fun o=>shM r fun r=>k ((n,o)::r)
def shS:List (Nat×AV)→(List (Nat×AV)→β)→β
 | [],k=>k []
 | (n,o)::r,k=>forceN n fun n=>o.sh fun o=>shS r fun r=>k ((n,o)::r)
end
def getSf (l:List (Nat×AV)) (t:Nat):AV :=
 match l with
 | []=>.any
 | (k,a)::r=>match Nat.beq k t with
  | true=>a
  | false=>getSf r t
def getMf (l:List (Nat×AO)) (t:Nat):AO :=
 match l with
 | []=>.dead
 | (k,a)::r=>match Nat.beq k t with
  | true=>a
  | false=>getMf r t
def aEvf (l:List (Nat×AV)):Operand→AV
 | .tmp t=>getSf l t
 | .const v=>.v v
 | .func f=>.fn f []
 | .global _=>.any
def dstOKf (N:Nat) (o:Oper):Bool:=match o.dst with|some d=>Nat.blt d N|none=>true
def arunF (T:TypeId→Option TD) (X:AX) (ops:Array Oper) (N base:Nat):List Oper→Nat→List (Nat×AV)→List (Nat×AO)→Option (List (Nat×AV)×List (Nat×AO))
 | [],_,l,M=>some (l,M)
 | o::r,i,l,M=>match dstOKf N o with
  | false=>none
  | true=>match o.guard with
   | none=>match astep T X o.op (aEvf l) (getMf M) (base+16*i) with
    | some (av,u)=>av.force fun av=>forceM u fun u=>consU u M fun M=>match o.dst with
     | some d=>arunF T X ops N base r (i+1) ((d,av)::l) M
     | none=>arunF T X ops N base r (i+1) l M
    | none=>none
   | some (j,want)=>match (ops[j]?).bind (·.dst) with
    | some d=>match yV (getSf l d) with
     | some (some b)=>match b == want with
      | true=>match astep T X o.op (aEvf ((d,.v (.bool want))::l)) (getMf M) (base+16*i) with
       | some (av,u)=>av.force fun av=>forceM u fun u=>consU u M fun M=>match o.dst with
        | some d'=>arunF T X ops N base r (i+1) ((d',av)::(d,.v (.bool want))::l) M
        | none=>arunF T X ops N base r (i+1) ((d,.v (.bool want))::l) M
       | none=>none
      | false=>match o.dst with
       | some d'=>arunF T X ops N base r (i+1) ((d',.u)::(d,.v (.bool (!want)))::l) M
       | none=>arunF T X ops N base r (i+1) ((d,.v (.bool (!want)))::l) M
     | some none=>match o.dst with
      | some d'=>arunF T X ops N base r (i+1) ((d',.u)::l) M
      | none=>arunF T X ops N base r (i+1) l M
     | none=>none
    | none=>none
def aregionF (T:TypeId→Option TD) (X:AX) (N:Nat) (ops:Array Oper) (st:St):Option St :=
 match arunF T X ops N st.nx ops.toList 0 st.s st.m with
 | some (s,m)=>forceN (st.nx+16*ops.size) fun n=>some ⟨s,m,n⟩
 | none=>none
def aexec (T:TypeId→Option TD) (X:AX) (N:Nat):Nat→Code→St→Option (Exit×St)
 | 0,_,_=>none
 | n+1,k,st=>match k with
  | .skip=>some (.normal,st)
  | .exit id=>some (.exit id,st)
  | .ret=>some (.ret,st)
  | .seq x y=>match aexec T X N n x st with
   | some (.normal,st')=>aexec T X N n y st'
   | r=>r
  | .region _ ops _=>match aregionF T X N ops st with
   | some st'=>some (.normal,st')
   | none=>none
  | .cond o x y=>match aEvf st.s o with
   | .v (.bool true)=>aexec T X N n x st
   | .v (.bool false)=>aexec T X N n y st
   | _=>none
  | .block id x=>match aexec T X N n x st with
   | some (.exit id',st')=>if id'=id then some (.normal,st') else some (.exit id',st')
   | r=>r
  | .loop x=>shS (tidyS st.s) fun s=>shM (tidyM st.m) fun m=>match aexec T X N n x ⟨s,m,st.nx⟩ with
   | some (.normal,st')=>aexec T X N n (.loop x) st'
   | r=>r
  | _=>none
def AV.plainB:AV→Bool
 | .any|.v _=>true
 | _=>false
def AV.flat1B:AV→Bool
 | .any|.v _=>true
 | .ow _ xs=>xs.all fun e=>e.all AV.plainB
 | _=>false
def AV.flatVB:AV→Bool
 | .agg cs=>cs.all AV.flat1B
 | a=>a.flat1B
def AV.flatB:AV→Bool
 | .tup cs=>cs.all AV.flatVB
 | a=>a.flatVB
def AV.flatOB:AV→Bool
 | .rf cs=>cs.all AV.flat1B
 | _=>true
def nodupB:List Nat→Bool
 | []=>true
 | a::r=>!(r.any fun b=>Nat.beq b a)&&nodupB r
def isEnd:Exit→Bool
 | .normal|.ret=>true
 | _=>false
def evalP (T:TypeId→Option TD) (X:AX) (fn:Func) (c:Code) (n:Nat) (avs:List AV):Option AV :=
 match Nat.ble avs.length fn.ntmps,(forceL avs fun avs=>forceS (enterS avs) fun s=>aexec T X fn.ntmps n c ⟨s,[],0⟩) with
 | true,some (e,st)=>match isEnd e,aResults T st fn.results.toList with
  | true,some as=>match leaveVals (getM st.m) as with
   | some (rs,ids)=>match nodupB ids&&Nat.beq rs.length fn.results.toList.length&&(retOf rs).flatB with
    | true=>some (retOf rs)
    | false=>none
   | none=>none
  | _,_=>none
 | _,_=>none
def isRf:AV→Bool
 | .rf _=>true
 | _=>false
def evalM (T:TypeId→Option TD) (X:AX) (fn:Func) (c:Code) (n:Nat) (a0:AV) (avs:List AV):Option (AV×AV) :=
 match Nat.ble (avs.length+1) fn.ntmps,(forceL avs fun avs=>a0.force fun a0=>forceS (enterS ((openArg 0 a0).1::avs)) fun s=>forceM (openArg 0 a0).2.1 fun m=>aexec T X fn.ntmps n c ⟨s,m,(openArg 0 a0).2.2⟩) with
 | true,some (e,st)=>match isEnd e,aResults T st fn.results.toList with
  | true,some as=>match leaveVals (getM st.m) as with
   | some (rs,ids)=>match (if isRf a0 then leaveArg (getM st.m) (openArg 0 a0).1 else some (.any,[])) with
    | some (o,is)=>match nodupB (is++ids)&&Nat.beq rs.length fn.results.toList.length&&(retOf rs).flatB&&o.flatOB with
     | true=>some (retOf rs,o)
     | false=>none
    | none=>none
   | none=>none
  | _,_=>none
 | _,_=>none
structure Ev where
 T:TypeId→Option TD
 base:AX
 isBase:FuncId→Bool
 isM:FuncId→Bool
 skip:FuncId→Bool
 sz:FuncId→Nat→Nat
def Ev.w (v:Ev) (f:FuncId):Bool:=if v.isBase f then v.base.writes f else v.isM f
def Ev.call (P:Program) (v:Ev):Nat→FuncId→List AV→(Nat→AO)→Nat→Option (AV×List (Nat×AO))
 | 0,f=>fun avs M nid=>match v.isBase f with
  | true=>v.base.call f avs M nid
  | false=>none
 | n+1,f=>fun avs M nid=>match v.isBase f with
  | true=>v.base.call f avs M nid
  | false=>match v.skip f with
   | true=>none
   | false=>match P.funcs[f]? with
    | none=>none
    | some fn=>match fn.body with
     | none=>none
     | some c=>match v.isM f with
      | true=>callM false (v.sz f) (evalM v.T ⟨Ev.call P v n,v.w,true,v.base.eqs⟩ fn c n) avs M nid
      | false=>callP (evalP v.T ⟨Ev.call P v n,v.w,true,v.base.eqs⟩ fn c n) avs M nid
end Go.AM
namespace Go.AM
open Go
theorem aw_cases_nil {c:Cx} {k:Code} {st:St} {Q:Exit→St→Prop} (t s:Nat) (h:getS st.s t=.rd s []) (h1:AW c k ⟨(t,.v (.slice none 0 0))::st.s,st.m,st.nx⟩ Q) (h2:∀ p n,AW c k ⟨(t,.v (.slice (some p) 0 n))::st.s,st.m,st.nx⟩ Q):AW c k st Q:=fun a w hs=>by
 obtain ⟨E,hs0,hn,hm⟩:=hs
 have ht:=hs0.slots t
 rw [h] at ht
 simp only [Rep,CRep] at ht
 obtain ⟨p,n,hx,_,hp,_⟩:=ht
 have key:∀ v,a.tmps.getD t undef=v→Sat c.N c.w0 c.bl a w ⟨(t,.v v)::st.s,st.m,st.nx⟩:=fun v hv=>by
  refine ⟨E,⟨hs0.defers,hs0.size,hs0.inv,hs0.mem,fun t'=>?_⟩,hn,hm⟩
  simp only [getS]
  split
  ·rename_i e;subst e;simp only [Rep,CRep];exact hv
  ·exact hs0.slots t'
 cases p with
 | none=>obtain rfl:=hp rfl;exact h1 a w (key _ hx)
 | some p=>exact h2 p n a w (key _ hx)
theorem sat_tidyM {N:Nat} {w0:World} {bl:Bk} {a:Act} {w:World} {s:List (Nat×AV)} {m:List (Nat×AO)} {nx:Nat}:Sat N w0 bl a w ⟨s,tidyM m,nx⟩↔Sat N w0 bl a w ⟨s,m,nx⟩:=by
 unfold Sat
 have e2:getM (tidyM m)=getM m:=funext fun t=>getM_tidy
 simp only [e2]
theorem le_of2 {n:Nat} {s s':List (Nat×AV)} {m m':List (Nat×AO)} {nx nx':Nat} (hn:n≤nx') (hs:∀ p∈s',AVle (getS s p.1) p.2∧p.2.under nx') (hm:∀ p∈tidyM m',AOle (getM m p.1) p.2∧p.2.under nx'∧p.1<nx') :
  Le n ⟨s,m,nx⟩ ⟨s',m',nx'⟩:=fun N w0 bl a w hb h=>sat_tidyM.1 (le_of hn hs hm N w0 bl a w hb h)
theorem aw_loopK {c:Cx} {st:St} {Q:Exit→St→Prop} {ι:Type} (ks:List Nat) (V:ι→List (Nat×AV)) (W:ι→List (Nat×AO)) (μ:ι→Nat) (i0:ι) {x:Code} {s0:List (Nat×AV)} {m0:List (Nat×AO)}
  (_hs:keepS ks st.s=s0) (_hm:tidyM st.m=m0) (h0:Le c.bl.n st ⟨V i0++s0,W i0++m0,st.nx⟩)
  (round:∀ i,AW c x ⟨V i++s0,W i++m0,st.nx⟩ (thenQ (fun st'=>∃ i',Le c.bl.n st' ⟨V i'++s0,W i'++m0,st.nx⟩∧μ i'<μ i) Q)):AW c (.loop x) st Q :=
 aw_loop (fun i=>⟨V i++s0,W i++m0,st.nx⟩) μ i0 h0 round
@[simp] theorem nat_beq (n m:Nat):Nat.beq n m=decide (n=m):=by
 rw [Bool.eq_iff_iff,decide_eq_true_iff]
 exact ⟨Nat.eq_of_beq_eq_true,fun h=>by subst h;exact Nat.beq_refl n⟩
attribute [simp] tidyM remK
def unI:List (List AV)→Option (List Int)
 | []=>some []
 | [.v (.int .i64 x)]::r=>match unI r with
  | some l=>some (x::l)
  | none=>none
 | _=>none
theorem unI_eq:∀ {xs:List (List AV)} {l:List Int},unI xs=some l→xs=irows l
 | [],l,h=>by simp only [unI,Option.some.injEq] at h;subst h;rfl
 | e::r,l,h=>by
  unfold unI at h
  split at h
  ·simp at *
  ·rename_i x r' heq
   simp only [List.cons.injEq] at heq
   obtain ⟨rfl,rfl⟩:=heq
   cases hr:unI r<;>simp only [hr,reduceCtorEq,Option.some.injEq] at h
   subst h
   rw [unI_eq hr];rfl
  ·simp at h
theorem body_ok {P : Program} {f : FuncId} (fn : Func) (h : P.funcs[f]? = some fn) (h2 : (fn.body.isSome && !(fn.name == "runtime.NumGoroutine")) = true) : BodyOK P f := by
 simp only [Bool.and_eq_true,Bool.not_eq_true'] at h2
 exact ⟨fn,h,h2.1,h2.2⟩
def gi (l:List Int) (n:Nat):Int:=l.getD n 0
theorem irows_gi {l:List Int} {n:Nat} (h:n<l.length):(irows l)[n]?=some [I (gi l n)]:=irows_get h
theorem gi_eq {l:List Int} {n:Nat} (h:n<l.length):gi l n=l[n]:=by
 unfold gi
 rw [List.getD_eq_getElem?_getD,List.getElem?_eq_getElem h];rfl
theorem wrapU64 {n:Int} (h:0≤n∧n≤18446744073709551615):IntKind.u64.wrap n=n:=by
 have:IntKind.u64.wrap n=n%18446744073709551616:=rfl
 rw [this];omega
end Go.AM
namespace Go.AM
open Go
def AX.start (w:FuncId→Bool):AX:=⟨fun _ _ _ _=>.none,w,true,fun _=>false⟩
theorem xok_start (P:Program) (w:FuncId→Bool):XOK P (AX.start w) where
 calls:=fun f avs M nid r h=>by simp [AX.start] at h
 eqs:=fun t h=>by simp [AX.start] at h
 dom:=fun f avs M nid r h=>by simp [AX.start] at h
 anyW:=fun f _=>rfl
theorem xok_putM {P:Program} {X:AX} (h:XOK P X) {f:FuncId} {g:List AV→(Nat→AO)→Nat→Option (AV×List (Nat×AO))} (hw:X.writes f=true) (hg:(CallOK P f g∧BodyOK P f)∨ExtOK P f g)
  (hd:∀ avs M nid r,g avs M nid=some r→∀ b∈r.2.map (·.1),(nid≤b∧b<nid+16)∨M b≠.dead):XOK P (X.add f g) where
 calls:=fun k avs M nid r hr=>by
  simp only [AX.add] at hr ⊢
  split
  ·rename_i e;subst e;exact hg
  ·rename_i e
   rw [if_neg e] at hr
   exact h.calls k avs M nid r hr
 eqs:=h.eqs
 dom:=fun k avs M nid r hr b hb=>by
  simp only [AX.add] at hr ⊢
  split at hr
  ·rename_i e;subst e
   exact (hd avs M nid r hr b hb).imp id fun h=>⟨hw,h⟩
  ·exact h.dom k avs M nid r hr b hb
 anyW:=h.anyW
def AX.W (X:AX) (w:FuncId→Bool):Prop:=X.writes=w∧X.anyW=true
theorem AX.W.add {X:AX} {w:FuncId→Bool} (h:X.W w) (f:FuncId) (g:List AV→(Nat→AO)→Nat→Option (AV×List (Nat×AO))):(X.add f g).W w:=h
theorem ordB_w {X:AX} {w:FuncId→Bool} (h:X.W w) {ops:Array Oper}:ordB X ops=ordB (AX.start w) ops:=by
 obtain ⟨a,b,c,d⟩:=X
 obtain ⟨h1,h2⟩:=h
 simp only at h1 h2
 subst h1 h2
 rfl
end Go.AM
namespace Go.AM
open Go
inductive Sh where
 | int (k:IntKind)
 | bool
 | sl (s:List Sh)
mutual
def Fit:Sh→AV→Prop
 | .int k,a=>∃ n,a=.v (.int k n)∧(Lit.int k n).wf=true
 | .bool,a=>∃ b,a=.v (.bool b)
 | .sl s,a=>∃ xs,a=.rd s.length xs∧xs.length≤maxLen∧∀ e∈xs,FitL s e
def FitL:List Sh→List AV→Prop
 | [],[]=>True
 | s::r,a::as=>Fit s a∧FitL r as
 | _,_=>False
end
def fieldsOf (P:Program) (g:TypeId→Option (List Sh)):List Field→Nat→Option (List Sh)
 | [],_=>some []
 | f::r,off=>match g f.type,fieldsOf P g r (off+P.cellsOf f.type) with
  | some s,some l=>if f.offset=off∧s.length=P.cellsOf f.type then some (s++l) else none
  | _,_=>none
def shapeOf (P:Program):Nat→TypeId→Option (List Sh)
 | 0,_=>none
 | n+1,t=>match P.underlying t with
  | some .bool=>some [.bool]
  | some (.int k)=>some [.int k]
  | some (.slice e)=>match shapeOf P n e with
   | some s=>if s.length=P.cellsOf e∧1≤s.length then some [.sl s] else none
   | none=>none
  | some (.struct fs)=>match fieldsOf P (shapeOf P n) fs.toList 0 with
   | some s=>if s.length=P.cellsOf t then some s else none
   | none=>none
  | some (.array k e)=>match shapeOf P n e with
   | some s=>if s.length=P.cellsOf e∧k*s.length=P.cellsOf t then some (List.replicate k s).flatten else none
   | none=>none
  | _=>none
theorem FitL.append:∀ {s t:List Sh} {a b:List AV},FitL s a→FitL t b→FitL (s++t) (a++b)
 | [],_,[],_,_,h=>h
 | x::s,t,y::a,b,h,k=>by
  simp only [FitL,List.cons_append] at h ⊢
  exact ⟨h.1,h.2.append k⟩
 | [],_,_::_,_,h,_=>by simp [FitL] at h
 | _::_,_,[],_,h,_=>by simp [FitL] at h
theorem CRepL.append {w:World} {G:Nat→Prop}:∀ {a b:List AV} {xs ys:List Value},CRepL w G a xs→CRepL w G b ys→CRepL w G (a++b) (xs++ys)
 | [],_,[],_,_,h=>h
 | x::s,t,y::a,b,h,k=>by
  simp only [CRepL,List.cons_append] at h ⊢
  exact ⟨h.1,h.2.append k⟩
 | [],_,_::_,_,h,_=>by simp [CRepL] at h
 | _::_,_,[],_,h,_=>by simp [CRepL] at h
theorem FitL.length:∀ {s:List Sh} {a:List AV},FitL s a→a.length=s.length
 | [],[],_=>rfl
 | _::_,_::_,h=>by simp only [FitL] at h;simp [FitL.length h.2]
 | [],_::_,h=>by simp [FitL] at h
 | _::_,[],h=>by simp [FitL] at h
theorem CRepL.length {w:World} {G:Nat→Prop}:∀ {a:List AV} {xs:List Value},CRepL w G a xs→a.length=xs.length
 | [],[],_=>rfl
 | _::_,_::_,h=>by simp only [CRepL] at h;simp [CRepL.length h.2]
 | [],_::_,h=>by simp [CRepL] at h
 | _::_,[],h=>by simp [CRepL] at h
def Opened (w:World) (sh:List Sh) (cs:List Value):Prop:=∃ avs,FitL sh avs∧CRepL w (allG w) avs cs∧∀ y∈cs,y.oneCell'=true
theorem Opened.nil (w:World):Opened w [] []:=⟨[],by simp [FitL],by simp [CRepL],by simp⟩
theorem Opened.append {w:World} {s t:List Sh} {xs ys:List Value} (h:Opened w s xs) (k:Opened w t ys):Opened w (s++t) (xs++ys):=by
 obtain ⟨a,h1,h2,h3⟩:=h
 obtain ⟨b,k1,k2,k3⟩:=k
 refine ⟨a++b,h1.append k1,h2.append k2,fun y hy=>?_⟩
 rcases List.mem_append.1 hy with hy|hy
 ·exact h3 y hy
 ·exact k3 y hy
section
variable {H:Type} {enc:TypeId×Value→H} {P:Program} {w:World} {base:Nat} {spare:Nat→Bool} {held:Bool}
theorem fields_open {n:Nat} {cs:List Value} {g:TypeId→Option (List Sh)} (hg:∀ t sh fuel cs x,g t=some sh→DataW.trod enc P w base spare held fuel t cs=some x→Opened w sh cs) :
  ∀ {fs:List Field} {off:Nat} {sh:List Sh},fieldsOf P g fs off=some sh→(∀ f∈fs,∃ y,DataW.trod enc P w base spare held n f.type ((cs.drop f.offset).take (P.cellsOf f.type))=some y)→Opened w sh ((cs.drop off).take sh.length)
 | [],off,sh,h,_=>by
  simp only [fieldsOf,Option.some.injEq] at h
  subst h
  simpa using Opened.nil w
 | f::r,off,sh,h,hf=>by
  simp only [fieldsOf] at h
  cases h1:g f.type<;>simp only [h1,reduceCtorEq] at h
  rename_i s
  cases h2:fieldsOf P g r (off+P.cellsOf f.type)<;>simp only [h2,reduceCtorEq] at h
  rename_i l
  split at h
  case isFalse=>simp at h
  rename_i hc
  simp only [Option.some.injEq] at h
  subst h
  obtain ⟨y,hy⟩:=hf f (by simp)
  have a1:=hg _ _ _ _ _ h1 hy
  have a2:=fields_open hg h2 fun f' hf'=>hf f' (by simp [hf'])
  rw [List.length_append,List.take_add,List.drop_drop,hc.2]
  rw [hc.1] at a1
  exact a1.append a2
theorem array_open {n k c:Nat} {e:TypeId} {cs:List Value} {s:List Sh} (hg:∀ fuel cs x,DataW.trod enc P w base spare held fuel e cs=some x→Opened w s cs) (hc:s.length=c)
  (hf:∀ i,i<k→∃ y,DataW.trod enc P w base spare held n e ((cs.drop (i*c)).take c)=some y):∀ m i,i+m=k→Opened w (List.replicate m s).flatten ((cs.drop (i*c)).take (m*c))
 | 0,i,_=>by simpa using Opened.nil w
 | m+1,i,h=>by
  obtain ⟨y,hy⟩:=hf i (by omega)
  have a1:=hg _ _ _ hy
  have a2:=array_open hg hc hf m (i+1) (by omega)
  rw [List.replicate_succ,List.flatten_cons,Nat.add_mul,Nat.one_mul,Nat.add_comm (m*c) c,List.take_add,List.drop_drop,← Nat.succ_mul]
  exact a1.append a2
theorem shape_open:∀ (m:Nat) (t:TypeId) (sh:List Sh) (fuel:Nat) (cs:List Value) (x:DataW H×List MemPlace),shapeOf P m t=some sh→DataW.trod enc P w base spare held fuel t cs=some x→Opened w sh cs
 | 0,_,_,_,_,_,h,_=>by simp [shapeOf] at h
 | m+1,t,sh,fuel,cs,x,h,hd=>by
  simp only [shapeOf] at h
  cases hu:P.underlying t with
  | none=>simp [hu] at h
  | some u =>
   rw [hu] at h
   cases u<;>simp only [reduceCtorEq,Option.some.injEq] at h
   case bool =>
    subst h
    obtain ⟨b,rfl,_⟩:=DataW.trod_bool hu hd
    exact ⟨[.v (.bool b)],by simp [FitL,Fit],by simp [CRepL,CRep],by simp⟩
   case int k =>
    subst h
    obtain ⟨n,rfl,_,hw⟩:=DataW.trod_int hu hd
    exact ⟨[.v (.int k n)],by simp [FitL,Fit,hw],by simp [CRepL,CRep],by simp⟩
   case slice e =>
    cases hs:shapeOf P m e<;>simp only [hs,reduceCtorEq] at h
    rename_i s
    split at h
    case isFalse=>simp at h
    rename_i hc
    simp only [Option.some.injEq] at h
    subst h
    rcases DataW.trod_slice hu hd with ⟨rfl,_⟩|⟨a,len,cap,elems,rest,n,_,rfl,_,hb,hl,hm,hlen,hel,_,_⟩
    ·refine ⟨[.rd s.length []],by simp [FitL,Fit],?_,by simp⟩
     simp only [CRepL,CRep,and_true]
     exact ⟨none,0,rfl,by simp,fun _=>rfl,.inl trivial⟩
    ·have each:∀ i,i<len→∃ avs cs',FitL s avs∧CRepL w (allG w) avs cs'∧(∀ y∈cs',y.oneCell'=true)∧w.cells? base (a.add (i*P.cellsOf e)) (P.cellsOf e)=some cs':=fun i hi=>by
      have h1:=hel i hi
      have h2:elems[i]?=some (elems[i]'(by omega)):=List.getElem?_eq_getElem (by omega)
      rw [h2,Option.bind_eq_some_iff] at h1
      obtain ⟨cs',q1,q2⟩:=h1
      obtain ⟨avs,p1,p2,p3⟩:=shape_open m e s _ _ _ hs q2
      exact ⟨avs,cs',p1,p2,p3,q1⟩
     by_cases h0:len=0
     ·subst h0
      refine ⟨[.rd s.length []],by simp [FitL,Fit],?_,by simp⟩
      simp only [CRepL,CRep,and_true]
      exact ⟨some a,cap,rfl,by simp,by simp,.inl trivial⟩
     ·obtain ⟨avs0,cs0,f0,r0,_,c0⟩:=each 0 (by omega)
      have hcell0:=(World.cells?_some c0).2.2 0 (by have:=f0.length;have:=r0.length;have:=(World.cells?_some c0).2.1;omega)
      have hcs0:0<cs0.length:=by have:=f0.length;have:=r0.length;omega
      have hsp:a.spot=none:=by
       rw [List.getElem?_eq_getElem hcs0] at hcell0
       unfold World.cell? at hcell0
       split at hcell0
       ·split at hcell0
        ·simp at hcell0
        ·rename_i hns
         cases hq:a.spot with
         | none=>rfl
         | some z=>exfalso;apply hns;simp [Addr.add,hq]
       ·simp at hcell0
      have hat:∀ n,a.add n=⟨a.block,a.off+n,none⟩:=fun n=>by
       obtain ⟨b,o,sp⟩:=a
       simp only at hsp
       subst hsp
       unfold Addr.add
       split
       ·rename_i h;subst h;rfl
       ·rfl
      have hblk:a.block<w.heap.size:=by
       rw [List.getElem?_eq_getElem hcs0] at hcell0
       unfold World.cell? at hcell0
       split at hcell0
       ·rename_i hh
        have:=(Array.getElem?_eq_some_iff.1 hh).1
        rw [hat] at this
        simpa [Addr.add] using this
       ·simp at hcell0
      let f:Nat→List AV:=fun i=>if h:i<len then (each i h).choose else []
      have hf:∀ i (h:i<len),∃ cs',FitL s (f i)∧CRepL w (allG w) (f i) cs'∧(∀ y∈cs',y.oneCell'=true)∧w.cells? base (a.add (i*P.cellsOf e)) (P.cellsOf e)=some cs':=fun i h=>by
       simp only [f,dif_pos h]
       exact (each i h).choose_spec
      refine ⟨[.rd s.length ((List.range len).map f)],?_,?_,by simp⟩
      ·simp only [FitL,Fit,and_true]
       refine ⟨_,rfl,by simp;omega,fun e' he'=>?_⟩
       obtain ⟨i,hi,rfl⟩:=List.mem_map.1 he'
       obtain ⟨_,h1,_⟩:=hf i (List.mem_range.1 hi)
       exact h1
      ·simp only [CRepL,CRep,and_true]
       refine ⟨some a,cap,by simp,by simp;omega,by simp,.inr ⟨a.block,a.off,?_,hblk,CRows.of_get fun i e' he'=>?_⟩⟩
       ·obtain ⟨b,o,sp⟩:=a
        simp only at hsp
        rw [hsp]
       ·have hi:i<len:=by
         have:=(List.getElem?_eq_some_iff.1 he').1
         simpa using this
        have he2:e'=f i:=by
         rw [List.getElem?_map,List.getElem?_range hi] at he'
         simpa using he'.symm
        subst he2
        obtain ⟨cs',h1,h2,h3,h4⟩:=hf i hi
        have h5:=World.cells?_some h4
        refine ⟨h1.length,CCells.of_list h2 h3 fun j v hv=>?_⟩
        have hj:j<cs'.length:=(List.getElem?_eq_some_iff.1 hv).1
        have h6:=h5.2.2 j (by have:=h5.2.1;omega)
        rw [hv] at h6
        rw [← h6,hat]
        simp only [hc.1]
        unfold Addr.add
        split
        ·rename_i hz;rw [hz];rfl
        ·rfl
   case struct fs =>
    cases hs:fieldsOf P (shapeOf P m) fs.toList 0<;>simp only [hs,reduceCtorEq] at h
    rename_i s
    split at h
    case isFalse=>simp at h
    rename_i hc
    simp only [Option.some.injEq] at h
    subst h
    obtain ⟨xs,n,rfl,_,hl,hxl,hx⟩:=DataW.trod_struct hu hd
    have:=fields_open (n:=n) (cs:=cs) (fun t sh fuel cs x h1 h2=>shape_open m t sh fuel cs x h1 h2) hs fun f hf=>by
     obtain ⟨i,hi,rfl⟩:=List.getElem_of_mem hf
     have hi':i<fs.size:=by simpa using hi
     have:=hx i fs[i] (Array.getElem?_eq_getElem hi')
     rw [List.getElem?_eq_getElem (by omega)] at this
     exact ⟨_,by simpa using this⟩
    rw [List.drop_zero,List.take_of_length_le (by omega)] at this
    exact this
   case array k e =>
    cases hs:shapeOf P m e<;>simp only [hs,reduceCtorEq] at h
    rename_i s
    split at h
    case isFalse=>simp at h
    rename_i hc
    simp only [Option.some.injEq] at h
    subst h
    obtain ⟨xs,n,rfl,_,hl,hxl,hx⟩:=DataW.trod_array hu hd
    have:=array_open (n:=n) (k:=k) (c:=P.cellsOf e) (cs:=cs) (fun fuel cs x h=>shape_open m e s fuel cs x hs h) hc.1 (fun i hi=>by
     have:=hx i hi
     rw [List.getElem?_eq_getElem (by omega)] at this
     exact ⟨_,this⟩) k 0 (by omega)
    rw [Nat.zero_mul,List.drop_zero,List.take_of_length_le (by rw [hl,← hc.2,hc.1];exact Nat.le_refl _)] at this
    exact this
end
end Go.AM
namespace Go.AM
open Go
theorem specF_flat {ι:Type} {A:ι→List AV} {R:ι→AV} (h:∀ i,(R i).flat) {avs:List AV} {r:AV} (hr:specF A R avs=some r):r.flat:=by
 obtain ⟨i,_,rfl⟩:=specF_some hr
 exact h i
theorem callP_spec {ι:Type} {A:ι→List AV} {R:ι→AV} {avs:List AV} {M:Nat→AO} {n:Nat} (i:ι) (hp:peekVals M avs=some (A i)) (inj:∀ j,A j=A i→R j=R i) (ho:(openRet n (R i)).2.2≤n+16) :
  callP (specF A R) avs M n=some ((openRet n (R i)).1,(openRet n (R i)).2.1):=by
 unfold callP
 rw [hp]
 simp only [specF_eq i inj,if_pos ho]
theorem xok_spec {P : Program} {X : AX} (h : XOK P X) {f : FuncId} {fn : Func} {ι : Type} {A : ι → List AV} {R : ι → AV} (hs : PSound P f (specF A R)) (hfl : ∀ i, (R i).flat) (hf : P.funcs[f]? = some fn) (hn : (fn.body.isSome && !(fn.name == "runtime.NumGoroutine")) = true) :
  XOK P (X.add f (callP (specF A R))) :=
 xok_add h (.inl ⟨hs.callP fun _ _ h=>specF_flat hfl h,body_ok fn hf hn⟩) fun _ _ _ _ h=>callP_keys h
end Go.AM
namespace Go.AM
open Go
theorem getM_hit {k:Nat} {o:AO} {r:List (Nat×AO)}:getM ((k,o)::r) k=o:=by simp [getM]
theorem getM_miss {k b:Nat} {o:AO} {r:List (Nat×AO)} (h:k≠b):getM ((k,o)::r) b=getM r b:=by simp [getM,h]
theorem getM_none {b:Nat}:getM [] b=.dead:=rfl
def vr (n b m:Nat):Nat:=if b<n then m else if m=0 then 0 else 1
mutual
def AV.iso (n:Nat) (σ:Nat→Nat):AV→AV
 | .bp b o=>.bp (σ b) o
 | .sl b m s o k=>.sl (σ b) (vr n b m) s o k
 | .ep b m s i j=>.ep (σ b) (vr n b m) s i j
 | .bs b o s k=>.bs (σ b) o s k
 | .agg cs=>.agg (isoL n σ cs)
 | .tup cs=>.tup (isoL n σ cs)
 | .fn f cs=>.fn f (isoL n σ cs)
 | .ifc f cs=>.ifc f (isoL n σ cs)
 | .any=>.any
 | .v x=>.v x
 | .rd s xs=>.rd s xs
 | .ow s xs=>.ow s xs
 | .rp cs=>.rp cs
 | .rf cs=>.rf cs
 | .mp b m=>.mp (σ b) (vr n b m)
 | .rm k es=>.rm k es
 | .om k es=>.om k es
def isoL (n:Nat) (σ:Nat→Nat):List AV→List AV
 | []=>[]
 | a::r=>a.iso n σ::isoL n σ r
end
mutual
def AV.cur (M:Nat→AO):AV→Prop
 | .sl b m _ _ _|.ep b m _ _ _=>∃ s f xs,M b=.vec m s f xs
 | .mp b m=>∃ k es,M b=.map m k es
 | .agg cs|.tup cs|.fn _ cs|.ifc _ cs=>curL M cs
 | _=>True
def curL (M:Nat→AO):List AV→Prop
 | []=>True
 | a::r=>a.cur M∧curL M r
end
def AO.iso (n:Nat) (σ:Nat→Nat) (b:Nat):AO→AO
 | .dead=>.dead
 | .box cs=>.box (isoL n σ cs)
 | .vec m s f xs=>.vec (vr n b m) s f xs
 | .map m k es=>.map (vr n b m) k es
def AO.cur (M:Nat→AO):AO→Prop
 | .box cs=>curL M cs
 | _=>True
def Env.iso (E:Env) (n:Nat) (τ:Nat→Nat):Env:={ G:=E.G,alive:=fun b=>E.alive (τ b),ver:=fun b=>vr n (τ b) (E.ver (τ b)),loc:=fun b=>E.loc (τ b) }
section
variable {E:Env} {w:World} {n:Nat} {σ τ:Nat→Nat} {M:Nat→AO}
mutual
theorem Rep.iso (hst:∀ b,τ (σ b)=b) (hM:MemOK E w M):∀ {a:AV} {x:Value},a.cur M→Rep E w a x→Rep (E.iso n τ) w (a.iso n σ) x
 | .bp b o,x,_,h=>by
  simp only [Rep,AV.iso,Env.iso,hst] at h ⊢
  obtain ⟨h1,h2,h3⟩:=h
  exact ⟨h1,by rw [h2];simp [vr],h3⟩
 | .sl b m s o k,x,hc,h=>by
  simp only [Rep,AV.iso,Env.iso,hst,AV.cur] at h hc ⊢
  obtain ⟨h1,h2,h3,p,c,h4,h5,h6,h7⟩:=h
  obtain ⟨s',f',xs',hb⟩:=hc
  have ho:=hM b h1
  rw [hb] at ho
  simp only [ObjRep] at ho
  obtain ⟨hv,_⟩:=ho
  refine ⟨h1,?_,?_,p,c,h4,h5,h6,fun _=>h7 hv.symm⟩
  ·unfold vr;split
   ·exact h2
   ·rw [if_neg (by omega)];exact Nat.le_refl _
  ·rw [hv];exact Nat.le_refl _
 | .ep b m s i j,x,hc,h=>by
  simp only [Rep,AV.iso,Env.iso,hst,AV.cur] at h hc ⊢
  obtain ⟨h1,h2,h3,a,h4,h5⟩:=h
  obtain ⟨s',f',xs',hb⟩:=hc
  have ho:=hM b h1
  rw [hb] at ho
  simp only [ObjRep] at ho
  obtain ⟨hv,_⟩:=ho
  refine ⟨h1,?_,?_,a,h4,fun _=>h5 hv.symm⟩
  ·unfold vr;split
   ·exact h2
   ·rw [if_neg (by omega)];exact Nat.le_refl _
  ·rw [hv];exact Nat.le_refl _
 | .bs b o s k,x,_,h=>by
  simp only [Rep,AV.iso,Env.iso,hst] at h ⊢
  obtain ⟨h1,h2,h3⟩:=h
  exact ⟨h1,by rw [h2];simp [vr],h3⟩
 | .mp b m,x,hc,h=>by
  simp only [Rep,AV.iso,Env.iso,hst,AV.cur] at h hc ⊢
  obtain ⟨h1,h2,h3,blk,h4,h5⟩:=h
  obtain ⟨k',es',hb⟩:=hc
  have ho:=hM b h1
  rw [hb] at ho
  simp only [ObjRep] at ho
  obtain ⟨hv,_⟩:=ho
  refine ⟨h1,?_,?_,blk,h4,fun _=>h5 hv.symm⟩
  ·unfold vr;split
   ·exact h2
   ·rw [if_neg (by omega)];exact Nat.le_refl _
  ·rw [hv];exact Nat.le_refl _
 | .rm ..,_,_,h=>by simp only [Rep,AV.iso] at h ⊢;exact h
 | .om ..,_,_,h=>by simp only [Rep,AV.iso] at h ⊢;exact h
 | .agg cs,x,hc,h=>by
  simp only [Rep,AV.iso,AV.cur] at h hc ⊢
  obtain ⟨vs,h1,h2,h3⟩:=h
  exact ⟨vs,h1,h2,RepL.iso hst hM hc h3⟩
 | .tup cs,x,hc,h=>by
  simp only [Rep,AV.iso,AV.cur] at h hc ⊢
  obtain ⟨vs,h1,h3⟩:=h
  exact ⟨vs,h1,RepL.iso hst hM hc h3⟩
 | .fn f cs,x,hc,h=>by
  simp only [Rep,AV.iso,AV.cur] at h hc ⊢
  obtain ⟨vs,h1,h3⟩:=h
  exact ⟨vs,h1,RepL.iso hst hM hc h3⟩
 | .ifc f cs,x,hc,h=>by
  simp only [Rep,AV.iso,AV.cur] at h hc ⊢
  obtain ⟨vs,h1,h3⟩:=h
  exact ⟨vs,h1,RepL.iso hst hM hc h3⟩
 | .any,_,_,h=>by simp only [Rep,AV.iso] at h ⊢;exact h
 | .v _,_,_,h=>by simp only [Rep,AV.iso] at h ⊢;exact h
 | .rd ..,_,_,h=>by simp only [Rep,AV.iso] at h ⊢;exact h
 | .ow ..,_,_,h=>by simp only [Rep,AV.iso] at h ⊢;exact h
 | .rp ..,_,_,h=>by simp only [Rep,AV.iso] at h ⊢;exact h
 | .rf ..,_,_,h=>by simp only [Rep,AV.iso] at h ⊢;exact h
theorem RepL.iso (hst:∀ b,τ (σ b)=b) (hM:MemOK E w M):∀ {as:List AV} {xs:List Value},curL M as→RepL E w as xs→RepL (E.iso n τ) w (isoL n σ as) xs
 | [],[],_,_=>by simp [RepL,isoL]
 | a::as,x::xs,hc,h=>by
  simp only [RepL,isoL,curL] at h hc ⊢
  exact ⟨Rep.iso hst hM hc.1 h.1,RepL.iso hst hM hc.2 h.2⟩
 | [],_::_,_,h=>by simp [RepL] at h
 | _::_,[],_,h=>by simp [RepL] at h
end
theorem ObjRep.iso (hst:∀ b,τ (σ b)=b) (hM:MemOK E w M) {b:Nat}:∀ {o:AO},o.cur M→ObjRep E w b o→ObjRep (E.iso n τ) w (σ b) (o.iso n σ b)
 | .dead,_,_=>trivial
 | .box cs,hc,h=>by
  simp only [ObjRep,AO.iso,Env.iso,hst,AO.cur] at h hc ⊢
  obtain ⟨h1,blk,t,vs,h2,h3,h4,h5⟩:=h
  exact ⟨by rw [h1];simp [vr],blk,t,vs,h2,h3,h4,RepL.iso hst hM hc h5⟩
 | .vec m s f xs,_,h=>by
  simp only [ObjRep,AO.iso,Env.iso,hst] at h ⊢
  obtain ⟨h1,h2,h3⟩:=h
  refine ⟨by rw [h1],?_,h3⟩
  unfold vr;split
  ·exact h2
  ·rw [if_neg (by omega)];exact Nat.le_refl _
 | .map m k es,_,h=>by
  simp only [ObjRep,AO.iso,Env.iso,hst] at h ⊢
  obtain ⟨h1,h2,h3⟩:=h
  refine ⟨by rw [h1],?_,h3⟩
  unfold vr;split
  ·exact h2
  ·rw [if_neg (by omega)];exact Nat.le_refl _
end
def St.iso (n:Nat) (σ:Nat→Nat) (st:St):St:=⟨st.s.map fun p=>(p.1,p.2.iso n σ),st.m.map fun p=>(σ p.1,p.2.iso n σ p.1),st.nx⟩
theorem getS_iso {n:Nat} {σ:Nat→Nat} {t:Nat}:∀ {l:List (Nat×AV)},getS (l.map fun p=>(p.1,p.2.iso n σ)) t=(getS l t).iso n σ
 | []=>by simp [getS,AV.iso]
 | p::r=>by
  simp only [List.map_cons,getS]
  split
  ·rfl
  ·exact getS_iso
theorem getM_iso {n:Nat} {σ τ:Nat→Nat} (hst:∀ b,τ (σ b)=b) (hts:∀ b,σ (τ b)=b) {t:Nat}:∀ {l:List (Nat×AO)},getM (l.map fun p=>(σ p.1,p.2.iso n σ p.1)) t=(getM l (τ t)).iso n σ (τ t)
 | []=>by simp [getM,AO.iso]
 | p::r=>by
  simp only [List.map_cons,getM]
  by_cases e:σ p.1=t
  ·have:p.1=τ t:=by rw [← e,hst]
   rw [if_pos e,if_pos this,this]
  ·have:¬ p.1=τ t:=fun h=>e (by rw [h,hts])
   rw [if_neg e,if_neg this]
   exact getM_iso hst hts
theorem le_iso {n:Nat} {st:St} {σ τ:Nat→Nat} (hst:∀ b,τ (σ b)=b) (hts:∀ b,σ (τ b)=b) (hfix:∀ b,b<n→σ b=b) (hnx:∀ b,b<st.nx→σ b<st.nx)
  (hs:∀ p∈st.s,p.2.cur (getM st.m)) (hm:∀ p∈st.m,p.2.cur (getM st.m)):Le n st (st.iso n σ):=fun N w0 bl a w hb ⟨E,h,h1,h2⟩=>by
 subst hb
 have hcs:∀ t,(getS st.s t).cur (getM st.m):=fun t=>by
  rcases getS_mem (s:=st.s) (t:=t) with e|⟨p,hp,_,e⟩
  ·rw [e];simp [AV.cur]
  ·rw [← e];exact hs p hp
 have hcm:∀ t,(getM st.m t).cur (getM st.m):=fun t=>by
  rcases getM_mem (m:=st.m) (t:=t) with e|⟨p,hp,_,e⟩
  ·rw [e];trivial
  ·rw [← e];exact hm p hp
 have hfix':∀ b,b<bl.n→τ b=b:=fun b hb=>by have:=hfix b hb;rw [← this,hst,this]
 refine ⟨E.iso bl.n τ,⟨h.defers,h.size,⟨h.inv.frame,⟨h.inv.gin.G,fun b hb=>?_,fun b hb=>?_⟩,h.inv.low,h.inv.gout,h.inv.good,fun b blk base sz hb hl=>h.inv.locs (τ b) blk base sz hb hl,fun b b' blk base sz base' sz' hb hb' hl hl'=>?_⟩,fun b hb=>?_,fun t=>?_⟩,fun k hk=>?_,fun k hk=>?_⟩
 ·have hlow:=h.inv.low b hb
  show E.alive (τ b)
  rw [hfix' b hlow];exact h.inv.gin.alive b hb
 ·have hlow:=h.inv.low b hb
  have:=h.inv.gin.same b hb
  simp only [Env.iso,hfix' b hlow,vr,if_pos hlow]
  exact this
 ·have:=h.inv.apart (τ b) (τ b') blk base sz base' sz' hb hb' hl hl'
  rw [← hts b,this,hts]
 ·have:=ObjRep.iso (n:=bl.n) hst h.mem (hcm (τ b)) (h.mem (τ b) hb)
  simp only [St.iso]
  rw [getM_iso hst hts]
  rwa [hts] at this
 ·simp only [St.iso]
  rw [getS_iso]
  exact Rep.iso hst h.mem (hcs t) (h.slots t)
 ·have h3:=h1 (τ k) hk
  have:=hnx (τ k) h3
  rwa [hts] at this
 ·simp only [St.iso] at hk
  rw [getM_iso hst hts] at hk
  have h3:=h2 (τ k) (fun e=>hk (by rw [e];rfl))
  have:=hnx (τ k) h3
  rwa [hts] at this
def swp (l:List (Nat×Nat)) (b:Nat):Nat:=match l with
 | []=>b
 | (i,j)::r=>if b=i then j else if b=j then i else swp r b
def swpL:List (Nat×Nat)→List Nat
 | []=>[]
 | (i,j)::r=>i::j::swpL r
theorem swp_or:∀ (l:List (Nat×Nat)) (b:Nat),swp l b=b∨swp l b∈swpL l
 | [],b=>.inl rfl
 | (i,j)::r,b=>by
  simp only [swp,swpL]
  split
  ·right;simp
  ·split
   ·right;simp
   ·rcases swp_or r b with h|h
    ·exact .inl h
    ·right;simp [h]
theorem swp_out:∀ {l:List (Nat×Nat)} {b:Nat},b ∉ swpL l→swp l b=b
 | [],b,_=>rfl
 | (i,j)::r,b,h=>by
  simp only [swpL,List.mem_cons,not_or] at h
  simp only [swp,if_neg h.1,if_neg h.2.1]
  exact swp_out h.2.2
theorem swp_inv:∀ {l:List (Nat×Nat)},(swpL l).Nodup→∀ b,swp l (swp l b)=b
 | [],_,_=>rfl
 | (i,j)::r,h,b=>by
  simp only [swpL,List.nodup_cons,List.mem_cons,not_or] at h
  obtain ⟨⟨h1,h2⟩,h3,h4⟩:=h
  have ih:=swp_inv h4
  by_cases e1:b=i
  ·subst e1
   simp only [swp,if_true]
   rw [if_neg (fun e=>h1 e.symm)]
  ·by_cases e2:b=j
   ·subst e2
    simp only [swp,if_neg e1,if_true]
   ·have:swp ((i,j)::r) b=swp r b:=by simp only [swp,if_neg e1,if_neg e2]
    rw [this]
    rcases swp_or r b with h|h
    ·rw [h];simp only [swp,if_neg e1,if_neg e2];exact h
    ·simp only [swp]
     have n1:¬ swp r b=i:=fun e=>h2 (by rw [← e];exact h)
     have n2:¬ swp r b=j:=fun e=>h3 (by rw [← e];exact h)
     rw [if_neg n1,if_neg n2]
     exact ih b
theorem le_swp {n:Nat} {st:St} (l:List (Nat×Nat)) (hl:(swpL l).Nodup) (hb:∀ b∈swpL l,n≤b∧b<st.nx) (hs:∀ p∈st.s,p.2.cur (getM st.m)) (hm:∀ p∈st.m,p.2.cur (getM st.m)):Le n st (st.iso n (swp l)) :=
 le_iso (swp_inv hl) (swp_inv hl) (fun b hb'=>swp_out fun h=>by have:=(hb b h).1;omega) (fun b hb'=>by
  rcases swp_or l b with h|h
  ·rw [h];exact hb'
  ·exact (hb _ h).2) hs hm
def keepM (ks:List Nat) (m:List (Nat×AO)):List (Nat×AO):=ks.map fun k=>(k,getM m k)
theorem getM_keepM {ks:List Nat} {m:List (Nat×AO)} {t:Nat}:getM (keepM ks m) t=if t∈ks then getM m t else .dead:=by
 induction ks with
 | nil=>rfl
 | cons k r ih =>
  simp only [keepM,List.map_cons,getM,List.mem_cons]
  by_cases e:k=t
  ·subst e;simp
  ·rw [if_neg e]
   simp only [keepM] at ih
   rw [ih]
   simp [Ne.symm e]
theorem le_keep2 (n:Nat) (ks km:List Nat) (st:St):Le n st ⟨keepS ks st.s,keepM km st.m,st.nx⟩:=fun N w0 bl a w _ ⟨E,h,h1,h2⟩=>by
 refine ⟨E,⟨h.defers,h.size,h.inv,fun b hb=>?_,fun t=>?_⟩,h1,fun k hk=>h2 k fun e=>hk ?_⟩
 ·rw [getM_keepM]
  split
  ·exact h.mem b hb
  ·trivial
 ·rw [getS_keepS]
  split
  ·exact h.slots t
  ·simp [Rep,CRep]
 ·rw [getM_keepM,e];simp
theorem le_turn {n:Nat} {s s':List (Nat×AV)} {m m':List (Nat×AO)} {nx nx':Nat} (l:List (Nat×Nat)) (ks km:List Nat) {s1:List (Nat×AV)} {m1:List (Nat×AO)}
  (e1:keepS ks s=s1) (e2:keepM km m=m1) (hl:(swpL l).Nodup) (hb:∀ b∈swpL l,n≤b∧b<nx) (hs:∀ p∈s1,p.2.cur (getM m1)) (hm:∀ p∈m1,p.2.cur (getM m1))
  (h:Le n ⟨s1.map fun p=>(p.1,p.2.iso n (swp l)),m1.map fun p=>(swp l p.1,p.2.iso n (swp l) p.1),nx⟩ ⟨s',m',nx'⟩):Le n ⟨s,m,nx⟩ ⟨s',m',nx'⟩:=by
 subst e1 e2
 exact ((le_keep2 n ks km ⟨s,m,nx⟩).trans (le_swp l hl hb hs hm)).trans h
theorem RepL.set' {E:Env} {w:World}:∀ {as:List AV} {xs:List Value} {i:Nat} {a:AV} {x:Value},RepL E w as xs→xs[i]?=some x→Rep E w a x→RepL E w (as.set i a) xs
 | [],[],i,a,x,_,h,_=>by simp at h
 | b::as,y::xs,0,a,x,h,hx,hr=>by
  simp only [RepL,List.set_cons_zero] at h ⊢
  simp only [List.getElem?_cons_zero,Option.some.injEq] at hx
  subst hx
  exact ⟨hr,h.2⟩
 | b::as,y::xs,i+1,a,x,h,hx,hr=>by
  simp only [RepL,List.set_cons_succ] at h ⊢
  exact ⟨h.1,RepL.set' h.2 (by simpa using hx) hr⟩
 | [],_::_,_,_,_,h,_,_=>by simp [RepL] at h
 | _::_,[],_,_,_,h,_,_=>by simp [RepL] at h
theorem le_nilcell {n:Nat} {s:List (Nat×AV)} {m:List (Nat×AO)} {nx b i sz:Nat} {cs:List AV} (hb:getM m b=.box cs) (hi:cs[i]?=some (.v (.slice none 0 0))) :
  Le n ⟨s,m,nx⟩ ⟨s,(b,.box (cs.set i (.sl nx 1 sz 0 0)))::(nx,.vec 1 sz false [])::m,nx+1⟩:=fun N w0 bl a w _ ⟨E,hs,h1,h2⟩=>by
 have hna:¬ E.alive nx:=fun hh=>by have:=h1 nx hh;simp at this
 have hbn:b<nx:=h2 b (by rw [hb];simp)
 have st:=StepTo.none hs.inv nx sz hna false
 have hmem:=st.mem hs.inv hs.mem
 refine ⟨_,⟨hs.defers,hs.size,st.inv,fun k hk=>?_,fun k=>st.rep hs.inv (hs.slots k)⟩,fun k hk=>?_,fun k hk=>?_⟩
 ·have:=hmem k hk
  simp only [updM] at this
  simp only [getM]
  by_cases e:b=k
  ·subst e
   rw [if_pos rfl]
   rw [if_neg (by omega),hb] at this
   simp only [ObjRep] at this ⊢
   obtain ⟨g1,blk,t,vs,g2,g3,g4,g5⟩:=this
   obtain ⟨x,q1,q2⟩:=g5.get hi
   simp only [Rep,CRep] at q2
   refine ⟨g1,blk,t,vs,g2,g3,g4,g5.set' q1 ?_⟩
   rw [q2]
   simp only [Rep]
   exact ⟨.inr rfl,Nat.le_refl _,by simp [Env.upd],none,0,rfl,Nat.le_refl _,fun _=>rfl,fun _=>by simp [Env.upd,SlAt]⟩
  ·rw [if_neg e]
   exact this
 ·rcases hk with hk|hk
  ·have:=h1 k hk;simp at this ⊢;omega
  ·simp;omega
 ·simp only [getM] at hk
  split at hk
  ·simp;omega
  ·split at hk
   ·simp;omega
   ·have:=h2 k hk;simp at this ⊢;omega
def AWR (c:Cx) (x:Code) (Q:Exit→St→Prop):Nat→St→Prop
 | 0,_=>False
 | n+1,st=>AW c x st (thenQ (AWR c x Q n) Q)
theorem aw_round {c:Cx} {x:Code} {Q:Exit→St→Prop} {n:Nat} {st:St} (h:AW c x st (thenQ (AWR c x Q n) Q)):AWR c x Q (n+1) st:=h
open Classical in
theorem aw_rounds {c:Cx} {x:Code} {Q:Exit→St→Prop} (n:Nat) {st:St} (h:AWR c x Q n st):AW c (.loop x) st Q :=
 aw_loop (ι:={p:Nat×St // AWR c x Q p.1 p.2}) (fun i=>i.1.2) (fun i=>i.1.1) ⟨(n,st),h⟩ (Le.refl _ _) fun ⟨⟨m,s⟩,hm⟩=>by
  cases m with
  | zero=>exact hm.elim
  | succ m =>
   exact aw_mono hm fun e s' hq=>by
    cases e with
    | normal=>exact ⟨⟨(m,s'),hq⟩,Le.refl _ _,by simp⟩
    | _=>exact hq
end Go.AM
namespace Go.AM
open Go
def nilA (s:Nat):AV→AV
 | .v (.slice none 0 0)=>.rd s []
 | a=>a
def nilV (s:Nat):AV→AV
 | .agg cs=>.agg (cs.map (nilA s))
 | a=>nilA s a
theorem nilA_ok {s:Nat} {w:World} {G:Nat→Prop} {a:AV} {x:Value} (h:CRep w G a x):CRep w G (nilA s a) x:=by
 unfold nilA
 split
 ·simp only [CRep] at h ⊢
  subst h
  exact ⟨none,0,rfl,by simp,fun _=>rfl,.inl trivial⟩
 ·exact h
theorem nilL_ok {s:Nat} {w:World} {G:Nat→Prop}:∀ {as:List AV} {xs:List Value},CRepL w G as xs→CRepL w G (as.map (nilA s)) xs
 | [],[],h=>h
 | a::as,x::xs,h=>by simp only [CRepL,List.map_cons] at h ⊢;exact ⟨nilA_ok h.1,nilL_ok h.2⟩
 | [],_::_,h=>by simp [CRepL] at h
 | _::_,[],h=>by simp [CRepL] at h
theorem nilV_ok {s:Nat} {w:World} {G:Nat→Prop} {a:AV} {x:Value} (h:CRep w G a x):CRep w G (nilV s a) x:=by
 unfold nilV
 split
 ·simp only [CRep] at h ⊢
  obtain ⟨vs,h1,h2,h3⟩:=h
  exact ⟨vs,h1,h2,nilL_ok h3⟩
 ·exact nilA_ok h
theorem nilVs_ok {s:Nat} {w:World} {G:Nat→Prop}:∀ {as:List AV} {xs:List Value},CRepL w G as xs→CRepL w G (as.map (nilV s)) xs
 | [],[],h=>h
 | a::as,x::xs,h=>by simp only [CRepL,List.map_cons] at h ⊢;exact ⟨nilV_ok h.1,nilVs_ok h.2⟩
 | [],_::_,h=>by simp [CRepL] at h
 | _::_,[],h=>by simp [CRepL] at h
theorem PSound.nil {P:Program} {f:FuncId} {F:List AV→Option AV} (h:PSound P f F) (s:Nat):PSound P f fun avs=>F (avs.map (nilV s)) :=
 fun w G args avs r hr hG ha=>h w G args _ r hr hG (nilVs_ok ha)
theorem xok_specn {P : Program} {X : AX} (h : XOK P X) {f : FuncId} {fn : Func} {ι : Type} {A : ι → List AV} {R : ι → AV} (s : Nat) (hs : PSound P f (specF A R)) (hfl : ∀ i, (R i).flat) (hf : P.funcs[f]? = some fn) (hn : (fn.body.isSome && !(fn.name == "runtime.NumGoroutine")) = true) :
  XOK P (X.add f (callP fun avs=>specF A R (avs.map (nilV s)))) :=
 xok_add h (.inl ⟨(hs.nil s).callP fun _ _ h=>specF_flat hfl h,body_ok fn hf hn⟩) fun _ _ _ _ h=>callP_keys h
attribute [simp] AV.iso isoL AV.cur curL AO.iso AO.cur swpL keepM
end Go.AM
namespace Go.AM
open Go
def RLe:AV→AV→Prop
 | .tup as,.tup bs=>SLeVs as bs
 | .tup _,_=>False
 | _,.tup _=>False
 | a,b=>SLeV a b
theorem RLe.ret {w:World} {G:Nat→Prop} {a b:AV} {x:Value} {bl:List Nat} (h:RLe a b) (ho:ORet w G a x bl) (hn:bl.Nodup) :
  ∃ bl',bl'.Sublist bl∧∀ G',(∀ k,G k→G' k)→(∀ k∈bl,k ∉ bl'→G' k)→ORet w G' b x bl':=by
 by_cases ha:∃ as,a=.tup as
 ·obtain ⟨as,rfl⟩:=ha
  cases b<;>simp only [RLe] at h
  rename_i bs
  simp only [ORet] at ho
  obtain ⟨vs,rfl,ho⟩:=ho
  obtain ⟨c,k1,k2⟩:=h.vals ho hn
  exact ⟨c,k1,fun G' p q=>by simp only [ORet];exact ⟨vs,rfl,k2 G' p q⟩⟩
 ·have h1:SLeV a b:=by cases a<;>first|exact absurd ⟨_,rfl⟩ ha|(cases b<;>first|exact h|exact h.elim)
  have h2:OVal w G a x bl:=by cases a<;>first|exact absurd ⟨_,rfl⟩ ha|exact ho
  obtain ⟨c,k1,k2⟩:=h1.val h2 hn
  refine ⟨c,k1,fun G' p q=>?_⟩
  have:=k2 G' p q
  cases b<;>first|exact this|(cases a<;>first|exact h.elim|exact absurd ⟨_,rfl⟩ ha)
theorem le_nilslot {n:Nat} {s:List (Nat×AV)} {m:List (Nat×AO)} {nx t sz:Nat} (hb:getS s t=.v (.slice none 0 0)) :
  Le n ⟨s,m,nx⟩ ⟨(t,.sl nx 1 sz 0 0)::s,(nx,.vec 1 sz false [])::m,nx+1⟩:=fun N w0 bl a w _ ⟨E,hs,h1,h2⟩=>by
 have hna:¬ E.alive nx:=fun hh=>by have:=h1 nx hh;simp at this
 have st:=StepTo.none hs.inv nx sz hna false
 have hmem:=st.mem hs.inv hs.mem
 refine ⟨_,⟨hs.defers,hs.size,st.inv,fun k hk=>?_,fun k=>?_⟩,fun k hk=>?_,fun k hk=>?_⟩
 ·have:=hmem k hk
  simpa only [updM,getM] using this
 ·simp only [getS]
  by_cases e:t=k
  ·subst e
   rw [if_pos rfl]
   have hr:=hs.slots t
   rw [hb] at hr
   simp only [Rep,CRep] at hr
   rw [hr]
   simp only [Rep]
   exact ⟨.inr rfl,Nat.le_refl _,by simp [Env.upd],none,0,rfl,Nat.le_refl _,fun _=>rfl,fun _=>by simp [Env.upd,SlAt]⟩
  ·rw [if_neg e]
   exact st.rep hs.inv (hs.slots k)
 ·rcases hk with hk|hk
  ·have:=h1 k hk;simp at this ⊢;omega
  ·simp;omega
 ·simp only [getM] at hk
  split at hk
  ·simp;omega
  ·have:=h2 k hk;simp at this ⊢;omega
end Go.AM
namespace Go.AM
open Go Go.ChangeShapes Go.WideShapes Go.ChangeAt Go.RowKit
theorem okWide_agg {P:Program} {w:World} {r:Reach} {base:Nat} {t:TypeId} {v:Value} (h:Value.okWide P w r base t v) :
    (∃ cs,v=.agg cs∧((∃ fs,P.underlying t=some (.struct fs))∨∃ n e,P.underlying t=some (.array n e))) ∨
    (v.cells=#[v]∧(∀ fs,P.underlying t≠some (.struct fs))∧∀ n e,P.underlying t≠some (.array n e)):=by
  unfold Value.okWide at h
  split at h
  · rename_i fs hu
    obtain ⟨cs,rfl,_⟩:=h
    exact .inl ⟨cs,rfl,.inl ⟨fs,hu⟩⟩
  · rename_i n e hu
    obtain ⟨cs,rfl,_⟩:=h
    exact .inl ⟨cs,rfl,.inr ⟨n,e,hu⟩⟩
  · rename_i h1 h2
    right
    refine ⟨?_,fun fs hu=>h1 fs hu,fun n e hu=>h2 n e hu⟩
    cases v with
    | agg cs =>
      exfalso
      unfold Cell.okWide at h
      split at h<;>try (rename_i heq;simp at heq;done)
      all_goals first
        | (rename_i heq;cases heq;done)
        | (unfold Cell.ok at h
           split at h<;>first|exact h|(rename_i heq;cases heq))
    | _=>rfl
def FitArg (P:Program) (t:TypeId) (a:AV):Prop:=∃ sh,shapeOf P 10 t=some sh ∧
  ((((∃ fs,P.underlying t=some (.struct fs))∨∃ n e,P.underlying t=some (.array n e))∧∃ cs,a=.agg cs∧FitL sh cs) ∨
   (((∀ fs,P.underlying t≠some (.struct fs))∧∀ n e,P.underlying t≠some (.array n e))∧FitL sh [a]))
def FitArgs (P:Program):List TypeId→List AV→Prop
 | [],[]=>True
 | t::ts,a::as=>FitArg P t a∧FitArgs P ts as
 | _,_=>False
section
variable {H:Type} {enc:TypeId×Value→H} {P:Program} {w:World}
theorem args_open {base:Nat} {sp:Nat→Bool} {b0:Nat} {r:Reach}:∀ {ts:List TypeId} {vs:List Value} {ds:List (DataW H)} {ps:List MemPlace},(∀ t∈ts,(shapeOf P 10 t).isSome=true) →
  (∀ (j:Nat) (t:TypeId) (v:Value),ts[j]?=some t→vs[j]?=some v→Value.okWide P w r b0 t v)→DataW.TrodAll enc P w base sp true ts vs ds ps→∃ avs,FitArgs P ts avs∧CRepL w (allG w) avs vs∧ds.length=ts.length
 | [],[],[],_,_,_,_=>⟨[],by simp [FitArgs],by simp [CRepL],rfl⟩
 | t::ts,v::vs,d::ds,ps,hs,ho,h=>by
  obtain ⟨p,q,h1,h2,_⟩:=h
  obtain ⟨avs,k1,k2,k3⟩:=args_open (fun t ht=>hs t (by simp [ht])) (fun j t v hj hv=>ho (j+1) t v (by simpa using hj) (by simpa using hv)) h2
  have hsh:=hs t (by simp)
  obtain ⟨sh,hsh⟩:=Option.isSome_iff_exists.1 hsh
  obtain ⟨fuel,hf⟩:=h1
  obtain ⟨as,q1,q2,q3⟩:=shape_open 10 t sh fuel _ _ hsh hf
  rcases okWide_agg (ho 0 t v rfl rfl) with ⟨cs,rfl,hu⟩|⟨hc,hu⟩
  ·simp only [Value.cells] at q2 q3
   refine ⟨.agg as::avs,?_,?_,by simp [k3]⟩
   ·simp only [FitArgs];exact ⟨⟨sh,hsh,.inl ⟨hu,as,rfl,q1⟩⟩,k1⟩
   ·simp only [CRepL,CRep];exact ⟨⟨cs.toList,by simp,q3,q2⟩,k2⟩
  ·rw [hc] at q2
   simp only [List.size_toArray,Array.toList] at q2
   match as,q1,q2 with
   | [a],q1,q2 =>
    simp only [CRepL] at q2
    refine ⟨a::avs,?_,?_,by simp [k3]⟩
    ·simp only [FitArgs];exact ⟨⟨sh,hsh,.inr ⟨hu,q1⟩⟩,k1⟩
    ·simp only [CRepL];exact ⟨q2.1,k2⟩
   | [],_,q2=>simp [CRepL] at q2
   | _::_::_,_,q2=>simp [CRepL] at q2
 | [],_::_,_,_,_,_,h=>by simp [DataW.TrodAll] at h
 | [],[],_::_,_,_,_,h=>by simp [DataW.TrodAll] at h
 | _::_,[],_,_,_,_,h=>by simp [DataW.TrodAll] at h
 | _::_,_::_,[],_,_,_,h=>by simp [DataW.TrodAll] at h
theorem args_stay (hl:laidOutB P=true) {W W':World} (hsize:∀ p:MemPlace,p.block<W.heap.size→W.sameAt W' p) {sp':Nat→Bool}:∀ {ts:List TypeId} {vs:List Value} {ds:List (DataW H)} {ps:List MemPlace},(∀ t∈ts,(P.readableRec t&&Nat.blt t P.types.size)=true) →
  DataW.TrodAll enc P W 0 (fun _=>true) true ts vs ds ps→(∀ p∈ps,p.block<W.heap.size)→(∀ p∈ps,sp' p.block=true)→DataW.TrodAll enc P W' 0 sp' true ts vs ds ps
 | [],[],[],_,_,h,_,_=>h
 | t::ts,v::vs,d::ds,ps,hs,h,hlt,hsp=>by
  obtain ⟨p,q,h1,h2,rfl⟩:=h
  have ht:=hs t (by simp)
  simp only [Bool.and_eq_true] at ht
  exact ⟨p,q,WideElems.Trod_stays hl ht.1 (by have:=ht.2;simp only [Nat.blt,Nat.ble_eq] at this;exact this) h1 (fun x hx=>hsize x (hlt x (by simp [hx]))) (fun x hx=>hsp x (by simp [hx])),
   args_stay hl hsize (fun t ht=>hs t (by simp [ht])) h2 (fun x hx=>hlt x (by simp [hx])) (fun x hx=>hsp x (by simp [hx])),rfl⟩
 | [],_::_,_,_,_,h,_,_=>by simp [DataW.TrodAll] at h
 | [],[],_::_,_,_,h,_,_=>by simp [DataW.TrodAll] at h
 | _::_,[],_,_,_,h,_,_=>by simp [DataW.TrodAll] at h
 | _::_,_::_,[],_,_,h,_,_=>by simp [DataW.TrodAll] at h
theorem post_stay {f:Func} {s:ChangeSpec} {apart fresh handsOn again:Bool} {W W':World} {args:Array Value} {v:Value} {ds gs:List (DataW H)} {before pa pv:List MemPlace}
  (hW:DataW.Whole enc P f.params.toList s.vars apart W args.toList ds gs before)
  (hres:∀ (b:Nat) (sp:Nat→Bool) (hd:Bool),DataW.TrodAll enc P W' b sp hd f.resultTypes.toList (v.resultList f.resultTypes.size) (s.fn H (ds++gs)).results [])
  (hargs:∀ sp:Nat→Bool,(∀ p∈before,sp p.block=true)→DataW.TrodAll enc P W' 0 sp true f.params.toList args.toList (s.fn H (ds++gs)).args pa)
  (hvars:∀ sp:Nat→Bool,(∀ p∈before,sp p.block=true)→DataW.TrodVars enc P W' sp s.vars (s.fn H (ds++gs)).vars pv)
  (hps:before=pa++pv) (hk:W.keptBut W' (·∈before)) (hfz:∀ a:Addr,a.block<W.heap.size→W'.frozen? a=W.frozen? a)
  (hok:∀ (j:Nat) (t:TypeId) (r:Value),f.resultTypes[j]?=some t→(v.resultList f.resultTypes.size)[j]?=some r→Value.okWide P W' .any 0 t r) :
  s.post enc P f apart fresh handsOn again W args v W':=by
 have hlt:=hW.lt
 have hthere:∀ p∈before,(fun b=>decide (b<W.heap.size)) p.block=true:=fun p hp=>by simpa using hlt p hp
 refine ⟨ds,gs,before,[],pa,pv,hW,hres _ _ _,hargs _ hthere,hvars _ hthere,World.keptBut_mono (fun p hp=>⟨hp,.inr (by rw [hps,List.mem_append] at hp;exact hp)⟩) hk,fun _=>?_⟩
 obtain ⟨_,_,_,_,_,hz,hn⟩:=hW
 have hmem:∀ p,p∈([]++pa)++pv→p∈before:=fun p hp=>by rw [hps];simpa using hp
 refine ⟨hok,_,_,([]++pa)++pv,⟨[]++pa,pv,trodAll_append (hargs _ (fun _ _=>rfl)) (hres _ _ _),hvars _ (fun _ _=>rfl),rfl,fun b off hp=>?_,fun ha=>?_⟩,fun p hp _=>?_⟩
 ·rw [hfz _ (hlt _ (hmem _ hp))]
  exact hz b off (hmem _ hp)
 ·have:=hn ha
  rw [hps] at this
  simpa using this
 ·rw [hps]
  simpa using hp
theorem law_contract {f:FuncId} {fn:Func} {s:ChangeSpec} {F:List AV→Option AV} {apart fresh handsOn again:Bool} {tb:TypeId} (hs:PSound P f F) (hl:laidOutB P=true)
  (hvars:s.vars=[]) (hspec:∀ (H:Type) (ds:List (DataW H)),ds.length=fn.params.size→(s.fn H ds).results=[.lit (.bool true)]∧(s.fn H ds).args=ds∧(s.fn H ds).vars=[])
  (hres:fn.resultTypes=#[tb]) (htb:P.underlying tb=some .bool) (hp:fn.params.toList.all (fun t=>(shapeOf P 10 t).isSome&&P.readableRec t&&Nat.blt t P.types.size)=true)
  (hF:∀ avs,FitArgs P fn.params.toList avs→F avs=some (B true))
  {W:World} {base:Nat} {args:Array Value} {ds gs:List (DataW H)} {before:List MemPlace}
  (hval:∀ (j:Nat) t v,fn.params[j]?=some t→args[j]?=some v→Value.okWide P W .any base t v)
  (hW:DataW.Whole enc P fn.params.toList s.vars apart W args.toList ds gs before) :
  Calls P f args W fun e W'=>∃ v,e=.returned v∧s.post enc P fn apart fresh handsOn again W args v W':=by
 have hW':=hW
 obtain ⟨p,q,hA,hV,rfl,hfz,hnd⟩:=hW
 rw [hvars] at hV
 obtain ⟨rfl,rfl⟩:=trodVars_none hV
 have hpp:∀ t∈fn.params.toList,(shapeOf P 10 t).isSome=true∧(P.readableRec t&&Nat.blt t P.types.size)=true:=fun t ht=>by
  have:=List.all_eq_true.1 hp t ht
  simp only [Bool.and_eq_true] at this ⊢
  exact ⟨this.1.1,this.1.2,this.2⟩
 obtain ⟨avs,h1,h2,h3⟩:=args_open (fun t ht=>(hpp t ht).1) (fun j t v hj hv=>hval j t v (by simpa using hj) (by simpa using hv)) hA
 refine (hs W (allG W) args avs (B true) (hF avs h1) (fun _ h=>h) h2).mono fun e W' ⟨x,G',bl,he,hf,_,_,ho,_,_⟩=>?_
 subst he
 have hx:x=.bool true:=by simp only [ORet,OVal,OLeaf,CRep] at ho;exact ho.2
 subst hx
 have hlt:∀ y∈p,y.block<W.heap.size:=fun y hy=>hW'.lt y (by simp [hy])
 have hold:∀ k,k<W.heap.size→W'.heap[k]?=W.heap[k]?:=fun k hk=>hf.old k hk (by simp)
 have hsame:∀ y:MemPlace,y.block<W.heap.size→W.sameAt W' y:=fun y hy=>by
  cases y with
  | cell b o=>exact World.cell?_of_block (w:=W) (hold b hy)
  | map b=>exact hold b hy
 have hfr:∀ a:Addr,a.block<W.heap.size→W'.frozen? a=W.frozen? a:=fun a ha=>World.frozen?_of_block (w:=W) (hold a.block ha)
 have hsp:=hspec H (ds++[]) (by rw [List.append_nil,h3];simp)
 simp only [List.append_nil] at hW' hsp
 refine ⟨_,rfl,post_stay (pa:=p) (pv:=[]) (by simpa using hW') (fun b sp hd=>?_) (fun sp hsp'=>?_) (fun sp hsp'=>?_) rfl ⟨hf.os,hf.out,fun i hi=>?_⟩ hfr (ok_one hres rfl (okWide_bool_mk htb _))⟩
 ·rw [List.append_nil,hsp.1,hres]
  exact trodAll_mk1 (shut_bool htb true)
 ·rw [List.append_nil,hsp.2.1]
  exact args_stay hl hsame (fun t ht=>(hpp t ht).2) hA hlt fun y hy=>hsp' y (by simp [hy])
 ·rw [List.append_nil,hsp.2.2,hvars]
  rfl
 ·rw [hold i hi]
  split<;>simp_all
end
end Go.AM
