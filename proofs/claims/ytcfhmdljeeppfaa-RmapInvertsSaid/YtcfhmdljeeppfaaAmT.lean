/- A part of the proof: what functions of the program compute, by abstract execution of their code. Its theorems hold without further condition. -/
import Derived.Test.YtcfhmdljeeppfaaAmQ
import Derived.ProofKit
import Derived.OpenShut
set_option linter.all false
namespace Go.AM
open Go
def remK {α:Type} (k:Nat) (l:List (Nat×α)):List (Nat×α):=l.filter fun p=>!(Nat.beq p.1 k)
def tidyS (l:List (Nat×AV)):List (Nat×AV):=l.foldr (fun p acc=>match p.2 with
 | .any=>remK p.1 acc
 | a=>(p.1,a)::remK p.1 acc) []
def tidyM (l:List (Nat×AO)):List (Nat×AO):=l.foldr (fun p acc=>match p.2 with
 | .dead=>remK p.1 acc
 | a=>(p.1,a)::remK p.1 acc) []
theorem getS_rem {k t:Nat}:∀ {l:List (Nat×AV)},getS (remK k l) t=if t=k then .any else getS l t
 | []=>by simp [remK,getS]
 | p::r=>by
  obtain ⟨j,a⟩:=p
  have ih:=getS_rem (k:=k) (t:=t) (l:=r)
  simp only [remK] at ih ⊢
  by_cases h:j=k
  ·subst h
   rw [List.filter_cons_of_neg (by simp),ih]
   simp only [getS]
   by_cases e:t=j
   ·simp [e]
   ·simp [e,Ne.symm e]
  ·rw [List.filter_cons_of_pos (by rw [Bool.not_eq_true',Bool.eq_false_iff];exact fun hh=>h (Nat.eq_of_beq_eq_true hh))]
   simp only [getS,ih]
   by_cases e:t=k
   ·subst e;simp [h]
   ·simp [e]
theorem getM_rem {k t:Nat}:∀ {l:List (Nat×AO)},getM (remK k l) t=if t=k then .dead else getM l t
 | []=>by simp [remK,getM]
 | p::r=>by
  obtain ⟨j,a⟩:=p
  have ih:=getM_rem (k:=k) (t:=t) (l:=r)
  simp only [remK] at ih ⊢
  by_cases h:j=k
  ·subst h
   rw [List.filter_cons_of_neg (by simp),ih]
   simp only [getM]
   by_cases e:t=j
   ·simp [e]
   ·simp [e,Ne.symm e]
  ·rw [List.filter_cons_of_pos (by rw [Bool.not_eq_true',Bool.eq_false_iff];exact fun hh=>h (Nat.eq_of_beq_eq_true hh))]
   simp only [getM,ih]
   by_cases e:t=k
   ·subst e;simp [h]
   ·simp [e]
theorem getS_tidy {t:Nat}:∀ {l:List (Nat×AV)},getS (tidyS l) t=getS l t
 | []=>rfl
 | p::r=>by
  obtain ⟨j,a⟩:=p
  have ih:=getS_tidy (t:=t) (l:=r)
  simp only [tidyS] at ih
  simp only [tidyS,List.foldr_cons,getS]
  by_cases e:j=t
  ·subst e
   rw [if_pos rfl]
   cases a<;>first|(simp only [getS_rem,if_true];done)|simp [getS]
  ·rw [if_neg e,← ih]
   cases a<;>first|(rw [getS_rem,if_neg (Ne.symm e)];done)|(simp only [getS,if_neg e];rw [getS_rem,if_neg (Ne.symm e)])
theorem getM_tidy {t:Nat}:∀ {l:List (Nat×AO)},getM (tidyM l) t=getM l t
 | []=>rfl
 | p::r=>by
  obtain ⟨j,a⟩:=p
  have ih:=getM_tidy (t:=t) (l:=r)
  simp only [tidyM] at ih
  simp only [tidyM,List.foldr_cons,getM]
  by_cases e:j=t
  ·subst e
   rw [if_pos rfl]
   cases a<;>first|(simp only [getM_rem,if_true];done)|simp [getM]
  ·rw [if_neg e,← ih]
   cases a<;>first|(rw [getM_rem,if_neg (Ne.symm e)];done)|(simp only [getM,if_neg e];rw [getM_rem,if_neg (Ne.symm e)])
def St.tidy (st:St):St:=⟨tidyS st.s,tidyM st.m,st.nx⟩
theorem sat_tidy {N:Nat} {w0:World} {bl:Bk} {a:Act} {w:World} {st:St} (h:Sat N w0 bl a w st):Sat N w0 bl a w st.tidy:=by
 unfold Sat at h ⊢
 have e1:getS st.tidy.s=getS st.s:=funext fun t=>getS_tidy
 have e2:getM st.tidy.m=getM st.m:=funext fun t=>getM_tidy
 rw [e1,e2]
 exact h
section
variable {β:Type}
def forceN (n:Nat) (k:Nat→β):β:=match n with
 | 0=>k 0
 | m+1=>k (m+1)
def forceI (n:Int) (k:Int→β):β:=match n with
 | .ofNat m=>forceN m fun m=>k (.ofNat m)
 | .negSucc m=>forceN m fun m=>k (.negSucc m)
def forceB (b:Bool) (k:Bool→β):β:=match b with
 | true=>k true
 | false=>k false
def forceV (x:Value) (k:Value→β):β:=match x with
 | .int t n=>forceI n fun n=>k (.int t n)
 | .bool b=>forceB b fun b=>k (.bool b)
 | x=>k x
def forceK:List Int→(List Int→β)→β
 | [],k=>k []
 | a::r,k=>forceI a fun a=>forceK r fun r=>k (a::r)
mutual
def AV.force:AV→(AV→β)→β
 | .any,k=>k .any
 | .v x,k=>forceV x fun x=>k (.v x)
 | .agg cs,k=>forceL cs fun cs=>k (.agg cs)
 | .tup cs,k=>forceL cs fun cs=>k (.tup cs)
 | .rd s xs,k=>forceN s fun s=>forceLL xs fun xs=>k (.rd s xs)
 | .ow s xs,k=>forceN s fun s=>forceLL xs fun xs=>k (.ow s xs)
 | .rp cs,k=>forceL cs fun cs=>k (.rp cs)
 | .rf cs,k=>forceL cs fun cs=>k (.rf cs)
 | .bp b o,k=>forceN b fun b=>forceN o fun o=>k (.bp b o)
 | .sl b m s o n,k=>forceN b fun b=>forceN m fun m=>forceN s fun s=>forceN o fun o=>forceN n fun n=>k (.sl b m s o n)
 | .ep b m s i j,k=>forceN b fun b=>forceN m fun m=>forceN s fun s=>forceN i fun i=>forceN j fun j=>k (.ep b m s i j)
 | .bs b o s n,k=>forceN b fun b=>forceN o fun o=>forceN s fun s=>forceN n fun n=>k (.bs b o s n)
 | .fn f cs,k=>forceL cs fun cs=>k (.fn f cs)
 | .ifc f cs,k=>forceL cs fun cs=>k (.ifc f cs)
 | .mp b m,k=>forceN b fun b=>forceN m fun m=>k (.mp b m)
 | .rm n es,k=>forceN n fun n=>forceE es fun es=>k (.rm n es)
 | .om n es,k=>forceN n fun n=>forceE es fun es=>k (.om n es)
def forceE:List (List Int×AV)→(List (List Int×AV)→β)→β
 | [],k=>k []
 | (q,a)::r,k=>forceK q fun q=>a.force fun a=>forceE r fun r=>k ((q,a)::r)
def forceL:List AV→(List AV→β)→β
 | [],k=>k []
 | a::r,k=>a.force fun a=>forceL r fun r=>k (a::r)
def forceLL:List (List AV)→(List (List AV)→β)→β
 | [],k=>k []
 | a::r,k=>forceL a fun a=>forceLL r fun r=>k (a::r)
end
def AO.force (o:AO) (k:AO→β):β:=match o with
 | .dead=>k .dead
 | .box cs=>forceL cs fun cs=>k (.box cs)
 | .vec m s f xs=>forceN m fun m=>forceN s fun s=>forceB f fun f=>forceLL xs fun xs=>k (.vec m s f xs)
 | .map m n es=>forceN m fun m=>forceN n fun n=>forceE es fun es=>k (.map m n es)
 | .vo m s xs i e=>forceN m fun m=>forceN s fun s=>forceN i fun i=>forceLL xs fun xs=>forceL e fun e=>k (.vo m s xs i e)
def forceM:List (Nat×AO)→(List (Nat×AO)→β)→β
 | [],k=>k []
 | (n,o)::r,k=>forceN n fun n=>o.force fun o=>forceM r fun r=>k ((n,o)::r)
def forceS:List (Nat×AV)→(List (Nat×AV)→β)→β
 | [],k=>k []
 | (n,o)::r,k=>forceN n fun n=>o.force fun o=>forceS r fun r=>k ((n,o)::r)
def setMf:List (Nat×AO)→Nat→AO→(List (Nat×AO)→β)→β
 | [],b,o,k=>k [(b,o)]
 | (j,p)::r,b,o,k=>match Nat.beq j b with
  | true=>k ((j,o)::r)
  | false=>setMf r b o fun r=>k ((j,p)::r)
theorem setMf_eq:∀ (M:List (Nat×AO)) (b:Nat) (o:AO) (k:List (Nat×AO)→β),setMf M b o k=k (setM M b o)
 | [],b,o,k=>rfl
 | (j,p)::r,b,o,k=>by
  simp only [setMf,setM]
  split
  ·rename_i h;rw [if_pos (Nat.eq_of_beq_eq_true h)]
  ·rename_i h;rw [if_neg (Nat.ne_of_beq_eq_false h),setMf_eq]
def consU:List (Nat×AO)→List (Nat×AO)→(List (Nat×AO)→β)→β
 | [],M,k=>k M
 | (b,o)::r,M,k=>consU r M fun M=>setMf M b o k
theorem consU_eq:∀ (u M:List (Nat×AO)) (k:List (Nat×AO)→β),consU u M k=k (updL M u)
 | [],M,k=>rfl
 | (b,o)::r,M,k=>by simp only [consU,consU_eq,updL,setMf_eq]
def AV.sh (a:AV) (k:AV→β):β:=match a with
 | .any=>k .any
 | .v x=>k (.v x)
 | .agg cs=>k (.agg cs)
 | .tup cs=>k (.tup cs)
 | .rd s xs=>k (.rd s xs)
 | .ow s xs=>k (.ow s xs)
 | .rp cs=>k (.rp cs)
 | .rf cs=>k (.rf cs)
 | .bp b o=>k (.bp b o)
 | .sl b m s o n=>k (.sl b m s o n)
 | .ep b m s i j=>k (.ep b m s i j)
 | .bs b o s n=>k (.bs b o s n)
 | .fn f cs=>k (.fn f cs)
 | .ifc f cs=>k (.ifc f cs)
 | .mp b m=>k (.mp b m)
 | .rm n es=>k (.rm n es)
 | .om n es=>k (.om n es)
def AO.sh (o:AO) (k:AO→β):β:=match o with
 | .dead=>k .dead
 | .box cs=>k (.box cs)
 | .vec m s f xs=>k (.vec m s f xs)
 | .map m n es=>k (.map m n es)
 | .vo m s xs i e=>k (.vo m s xs i e)
def shM:List (Nat×AO)→(List (Nat×AO)→β)→β
 | [],k=>k []
 | (n,o)::r,k=>forceN n fun n=>o.sh fun o=>shM r fun r=>k ((n,o)::r)
def shS:List (Nat×AV)→(List (Nat×AV)→β)→β
 | [],k=>k []
 | (n,o)::r,k=>forceN n fun n=>o.sh fun o=>shS r fun r=>k ((n,o)::r)
theorem forceN_eq (n:Nat) (k:Nat→β):forceN n k=k n:=by cases n<;>rfl
theorem forceI_eq (n:Int) (k:Int→β):forceI n k=k n:=by cases n<;>simp [forceI,forceN_eq]
theorem forceB_eq (n:Bool) (k:Bool→β):forceB n k=k n:=by cases n<;>rfl
theorem forceV_eq (n:Value) (k:Value→β):forceV n k=k n:=by cases n<;>simp [forceV,forceI_eq,forceB_eq]
theorem forceK_eq:∀ (a:List Int) (k:List Int→β),forceK a k=k a
 | [],k=>by simp only [forceK]
 | a::r,k=>by simp only [forceK,forceI_eq,forceK_eq]
mutual
theorem AV.force_eq:∀ (a:AV) (k:AV→β),a.force k=k a
 | .any,k=>by simp only [AV.force]
 | .v x,k=>by simp only [AV.force,forceV_eq]
 | .agg cs,k=>by simp only [AV.force,forceL_eq]
 | .tup cs,k=>by simp only [AV.force,forceL_eq]
 | .rd s xs,k=>by simp only [AV.force,forceN_eq,forceLL_eq]
 | .ow s xs,k=>by simp only [AV.force,forceN_eq,forceLL_eq]
 | .rp cs,k=>by simp only [AV.force,forceL_eq]
 | .rf cs,k=>by simp only [AV.force,forceL_eq]
 | .bp b o,k=>by simp only [AV.force,forceN_eq]
 | .sl b m s o n,k=>by simp only [AV.force,forceN_eq]
 | .ep b m s i j,k=>by simp only [AV.force,forceN_eq]
 | .bs b o s n,k=>by simp only [AV.force,forceN_eq]
 | .fn f cs,k=>by simp only [AV.force,forceL_eq]
 | .ifc f cs,k=>by simp only [AV.force,forceL_eq]
 | .mp b m,k=>by simp only [AV.force,forceN_eq]
 | .rm n es,k=>by simp only [AV.force,forceN_eq,forceE_eq]
 | .om n es,k=>by simp only [AV.force,forceN_eq,forceE_eq]
theorem forceE_eq:∀ (a:List (List Int×AV)) (k:List (List Int×AV)→β),forceE a k=k a
 | [],k=>by simp only [forceE]
 | (q,a)::r,k=>by simp only [forceE,forceK_eq,AV.force_eq,forceE_eq]
theorem forceL_eq:∀ (a:List AV) (k:List AV→β),forceL a k=k a
 | [],k=>by simp only [forceL]
 | a::r,k=>by simp only [forceL,AV.force_eq,forceL_eq]
theorem forceLL_eq:∀ (a:List (List AV)) (k:List (List AV)→β),forceLL a k=k a
 | [],k=>by simp only [forceLL]
 | a::r,k=>by simp only [forceLL,forceL_eq,forceLL_eq]
end
theorem AO.force_eq (a:AO) (k:AO→β):a.force k=k a:=by cases a<;>simp only [AO.force,forceL_eq,forceN_eq,forceB_eq,forceLL_eq,forceE_eq]
theorem forceM_eq:∀ (a:List (Nat×AO)) (k:List (Nat×AO)→β),forceM a k=k a
 | [],k=>by simp only [forceM]
 | (n,o)::r,k=>by simp only [forceM,forceN_eq,AO.force_eq,forceM_eq]
theorem AV.sh_eq (a:AV) (k:AV→β):a.sh k=k a:=by cases a<;>rfl
theorem AO.sh_eq (a:AO) (k:AO→β):a.sh k=k a:=by cases a<;>rfl
theorem shM_eq:∀ (a:List (Nat×AO)) (k:List (Nat×AO)→β),shM a k=k a
 | [],k=>by simp only [shM]
 | (n,o)::r,k=>by simp only [shM,forceN_eq,AO.sh_eq,shM_eq]
theorem shS_eq:∀ (a:List (Nat×AV)) (k:List (Nat×AV)→β),shS a k=k a
 | [],k=>by simp only [shS]
 | (n,o)::r,k=>by simp only [shS,forceN_eq,AV.sh_eq,shS_eq]
theorem forceS_eq:∀ (a:List (Nat×AV)) (k:List (Nat×AV)→β),forceS a k=k a
 | [],k=>by simp only [forceS]
 | (n,o)::r,k=>by simp only [forceS,forceN_eq,AV.force_eq,forceS_eq]
end
def getSf (l:List (Nat×AV)) (t:Nat):AV :=
 match l with
 | []=>.any
 | (k,a)::r=>match Nat.beq k t with
  | true=>a
  | false=>getSf r t
def getMf (l:List (Nat×AO)) (t:Nat):AO :=
 match l with
 | []=>.dead
 | (k,a)::r=>match Nat.beq k t with
  | true=>a
  | false=>getMf r t
theorem getSf_eq:∀ {l:List (Nat×AV)} {t:Nat},getSf l t=getS l t
 | [],_=>rfl
 | (k,a)::r,t=>by
  simp only [getSf,getS]
  split
  ·rename_i h;rw [if_pos (Nat.eq_of_beq_eq_true h)]
  ·rename_i h;rw [if_neg (Nat.ne_of_beq_eq_false h),getSf_eq]
theorem getMf_eq:∀ {l:List (Nat×AO)} {t:Nat},getMf l t=getM l t
 | [],_=>rfl
 | (k,a)::r,t=>by
  simp only [getMf,getM]
  split
  ·rename_i h;rw [if_pos (Nat.eq_of_beq_eq_true h)]
  ·rename_i h;rw [if_neg (Nat.ne_of_beq_eq_false h),getMf_eq]
def aEvf (l:List (Nat×AV)):Operand→AV
 | .tmp t=>getSf l t
 | .const v=>.v v
 | .func f=>.fn f []
 | .global _=>.any
theorem aEvf_eq (l:List (Nat×AV)):aEvf l=aEv l:=by
 funext x
 cases x<;>simp only [aEvf,aEv,getSf_eq]
theorem getMf_fun (l:List (Nat×AO)):getMf l=getM l:=funext fun _=>getMf_eq
def dstOKf (N:Nat) (o:Oper):Bool:=match o.dst with|some d=>Nat.blt d N|none=>true
theorem dstOKf_eq (N:Nat) (o:Oper):dstOKf N o=dstOK N o:=by
 unfold dstOKf dstOK
 cases o.dst with
 | none=>rfl
 | some d =>
  simp only [Nat.blt]
  rw [Bool.eq_iff_iff,decide_eq_true_iff,Nat.ble_eq]
  exact Nat.succ_le_iff
def arunF (T:TypeId→Option TD) (X:AX) (ops:Array Oper) (N base:Nat):List Oper→Nat→List (Nat×AV)→List (Nat×AO)→Option (List (Nat×AV)×List (Nat×AO))
 | [],_,l,M=>some (l,M)
 | o::r,i,l,M=>match dstOKf N o with
  | false=>none
  | true=>match o.guard with
   | none=>match astep T X o.op (aEvf l) (getMf M) (base+16*i) with
    | some (av,u)=>av.force fun av=>forceM u fun u=>consU u M fun M=>match o.dst with
     | some d=>arunF T X ops N base r (i+1) ((d,av)::l) M
     | none=>arunF T X ops N base r (i+1) l M
    | none=>none
   | some (j,want)=>match (ops[j]?).bind (·.dst) with
    | some d=>match yV (getSf l d) with
     | some (some b)=>match b == want with
      | true=>match astep T X o.op (aEvf ((d,.v (.bool want))::l)) (getMf M) (base+16*i) with
       | some (av,u)=>av.force fun av=>forceM u fun u=>consU u M fun M=>match o.dst with
        | some d'=>arunF T X ops N base r (i+1) ((d',av)::(d,.v (.bool want))::l) M
        | none=>arunF T X ops N base r (i+1) ((d,.v (.bool want))::l) M
       | none=>none
      | false=>match o.dst with
       | some d'=>arunF T X ops N base r (i+1) ((d',.u)::(d,.v (.bool (!want)))::l) M
       | none=>arunF T X ops N base r (i+1) ((d,.v (.bool (!want)))::l) M
     | some none=>match o.dst with
      | some d'=>arunF T X ops N base r (i+1) ((d',.u)::l) M
      | none=>arunF T X ops N base r (i+1) l M
     | none=>none
    | none=>none
theorem arunF_eq {T:TypeId→Option TD} {X:AX} {ops:Array Oper} {N base:Nat}:∀ {ol:List Oper} {i:Nat} {l:List (Nat×AV)} {M:List (Nat×AO)},arunF T X ops N base ol i l M=arun T X ops N base ol i l M
 | [],_,_,_=>rfl
 | o::r,i,l,M=>by
  simp only [arunF,arun,aEvf_eq,getMf_fun,getSf_eq,dstOKf_eq]
  cases hdo:o.dst<;>simp only [putS,AV.force_eq,forceM_eq,consU_eq]
  all_goals
  cases dstOK N o with
  | false=>rfl
  | true =>
   simp only [if_true]
   cases o.guard with
   | none =>
    simp only
    cases astep T X o.op (aEv l) (getM M) (base+16*i) with
    | none=>rfl
    | some p=>exact arunF_eq
   | some jw =>
    obtain ⟨j,want⟩:=jw
    simp only
    cases (ops[j]?).bind (·.dst) with
    | none=>rfl
    | some d =>
     simp only
     cases yV (getS l d) with
     | none=>rfl
     | some y =>
      cases y with
      | none=>exact arunF_eq
      | some b =>
       simp only
       by_cases h:b=want
       ·subst h
        simp only [beq_self_eq_true,if_true]
        cases astep T X o.op (aEv ((d,.v (.bool b))::l)) (getM M) (base+16*i) with
        | none=>rfl
        | some p=>exact arunF_eq
       ·have:(b == want)=false:=by cases b<;>cases want<;>simp at h ⊢
        simp only [this,if_neg h]
        exact arunF_eq
def aregionF (T:TypeId→Option TD) (X:AX) (N:Nat) (ops:Array Oper) (st:St):Option St :=
 match arunF T X ops N st.nx ops.toList 0 st.s st.m with
 | some (s,m)=>forceN (st.nx+16*ops.size) fun n=>some ⟨s,m,n⟩
 | none=>none
theorem aregionF_eq {T:TypeId→Option TD} {X:AX} {N:Nat} {ops:Array Oper} {st:St}:aregionF T X N ops st=aregion T X N ops st:=by
 simp only [aregionF,aregion,arunF_eq,forceN_eq]
 cases arun T X ops N st.nx ops.toList 0 st.s st.m<;>rfl
def aexec (T:TypeId→Option TD) (X:AX) (N:Nat):Nat→Code→St→Option (Exit×St)
 | 0,_,_=>none
 | n+1,k,st=>match k with
  | .skip=>some (.normal,st)
  | .exit id=>some (.exit id,st)
  | .ret=>some (.ret,st)
  | .seq x y=>match aexec T X N n x st with
   | some (.normal,st')=>aexec T X N n y st'
   | r=>r
  | .region _ ops _=>match aregionF T X N ops st with
   | some st'=>some (.normal,st')
   | none=>none
  | .cond o x y=>match aEvf st.s o with
   | .v (.bool true)=>aexec T X N n x st
   | .v (.bool false)=>aexec T X N n y st
   | _=>none
  | .block id x=>match aexec T X N n x st with
   | some (.exit id',st')=>if id'=id then some (.normal,st') else some (.exit id',st')
   | r=>r
  | .loop x=>shS (tidyS st.s) fun s=>shM (tidyM st.m) fun m=>match aexec T X N n x ⟨s,m,st.nx⟩ with
   | some (.normal,st')=>aexec T X N n (.loop x) st'
   | r=>r
  | _=>none
def codeOrd (X:AX):Code→Bool
 | .region _ ops d=>!d||ordB X ops
 | .seq x y=>codeOrd X x&&codeOrd X y
 | .cond _ x y=>codeOrd X x&&codeOrd X y
 | .block _ x=>codeOrd X x
 | .loop x=>codeOrd X x
 | _=>true
theorem aw_tidy {c:Cx} {k:Code} {st:St} {Q:Exit→St→Prop} (h:AW c k st.tidy Q):AW c k st Q:=fun a w hs=>h a w (sat_tidy hs)
theorem aexec_ok {c:Cx} (hc:c.OK):∀ (n:Nat) (k:Code) (st:St) (e:Exit) (st':St),codeOrd c.X k=true→aexec (Types c.P) c.X c.N n k st=some (e,st')→AW c k st (fun e' s=>e'=e∧s=st'):=by
 intro n
 induction n using Nat.strongRecOn with
 | _ n ih =>
  intro k st e st' ho h
  cases n with
  | zero=>simp [aexec] at h
  | succ n =>
   cases k<;>simp only [aexec,reduceCtorEq,Option.some.injEq,Prod.mk.injEq] at h
   case skip=>obtain ⟨rfl,rfl⟩:=h;exact aw_skip ⟨rfl,rfl⟩
   case exit=>obtain ⟨rfl,rfl⟩:=h;exact aw_exit ⟨rfl,rfl⟩
   case ret=>obtain ⟨rfl,rfl⟩:=h;exact aw_ret ⟨rfl,rfl⟩
   case seq x y =>
    simp only [codeOrd,Bool.and_eq_true] at ho
    cases hx:aexec (Types c.P) c.X c.N n x st with
    | none=>simp [hx] at h
    | some p =>
     obtain ⟨e1,s1⟩:=p
     refine aw_seq (aw_mono (ih n (by omega) x st e1 s1 ho.1 hx) fun e2 s2 ⟨p1,p2⟩=>?_)
     subst p1 p2
     rw [hx] at h
     cases e2<;>simp only [Option.some.injEq,Prod.mk.injEq] at h
     case normal=>exact ih n (by omega) y s2 e st' ho.2 h
     all_goals exact h
   case region id ops d =>
    rw [aregionF_eq] at h
    cases hr:aregion (Types c.P) c.X c.N ops st<;>simp only [hr,reduceCtorEq,Option.some.injEq,Prod.mk.injEq] at h
    rename_i s1
    obtain ⟨rfl,rfl⟩:=h
    refine aw_region hc (fun hd=>?_) ⟨s1,hr,rfl,rfl⟩
    subst hd
    simpa [codeOrd] using ho
   case cond o x y =>
    simp only [codeOrd,Bool.and_eq_true] at ho
    rw [aEvf_eq] at h
    split at h
    ·rename_i hb
     exact aw_cond hb (fun _=>ih n (by omega) x st e st' ho.1 h) (fun hf=>by simp at hf)
    ·rename_i hb
     exact aw_cond hb (fun hf=>by simp at hf) (fun _=>ih n (by omega) y st e st' ho.2 h)
    ·simp at h
   case block id x =>
    simp only [codeOrd] at ho
    cases hx:aexec (Types c.P) c.X c.N n x st with
    | none=>simp [hx] at h
    | some p =>
     obtain ⟨e1,s1⟩:=p
     refine aw_block (aw_mono (ih n (by omega) x st e1 s1 ho hx) fun e2 s2 ⟨p1,p2⟩=>?_)
     subst p1 p2
     rw [hx] at h
     cases e2<;>simp only [Option.some.injEq,Prod.mk.injEq] at h<;>simp only [blockQ]
     case exit id' =>
      split at h<;>simp only [Option.some.injEq,Prod.mk.injEq] at h
      ·rename_i hh;rw [if_pos hh];exact h
      ·rename_i hh;rw [if_neg hh];exact h
     all_goals exact h
   case loop x =>
    simp only [codeOrd] at ho
    have h0:aexec (Types c.P) c.X c.N (n+1) (.loop x) st=some (e,st'):=by simp only [aexec];exact h
    refine aw_loop (ι:={p:Nat×St // p.1≤n+1∧aexec (Types c.P) c.X c.N p.1 (.loop x) p.2=some (e,st')}) (fun i=>i.1.2) (fun i=>i.1.1) ⟨(n+1,st),Nat.le_refl _,h0⟩ (Le.refl _ _) ?_
    rintro ⟨⟨m,s⟩,hm,hs⟩
    simp only at hm hs
    cases m with
    | zero=>simp [aexec] at hs
    | succ m =>
     simp only [aexec,shS_eq,shM_eq] at hs
     change (match aexec (Types c.P) c.X c.N m x s.tidy with
      | some (.normal,st')=>aexec (Types c.P) c.X c.N m (.loop x) st'
      | r=>r)=_ at hs
     cases hx:aexec (Types c.P) c.X c.N m x s.tidy with
     | none=>simp [hx] at hs
     | some p =>
      obtain ⟨e1,s1⟩:=p
      refine aw_tidy (aw_mono (ih m (by omega) x s.tidy e1 s1 ho hx) fun e2 s2 ⟨p1,p2⟩=>?_)
      subst p1 p2
      rw [hx] at hs
      cases e2<;>simp only [Option.some.injEq,Prod.mk.injEq] at hs
      case normal=>exact ⟨⟨(m,s2),by simp only;omega,hs⟩,Le.refl _ _,by simp⟩
      all_goals exact hs
def AV.plainB:AV→Bool
 | .any|.v _=>true
 | _=>false
def AV.flat1B:AV→Bool
 | .any|.v _=>true
 | .ow _ xs=>xs.all fun e=>e.all AV.plainB
 | _=>false
def AV.flatVB:AV→Bool
 | .agg cs=>cs.all AV.flat1B
 | a=>a.flat1B
def AV.flatB:AV→Bool
 | .tup cs=>cs.all AV.flatVB
 | a=>a.flatVB
def AV.flatOB:AV→Bool
 | .rf cs=>cs.all AV.flat1B
 | _=>true
theorem plain_of {a:AV} (h:a.plainB=true):a.plain:=by cases a<;>simp_all [AV.plainB,AV.plain]
theorem flat1_of {a:AV} (h:a.flat1B=true):a.flat1:=by
 cases a<;>simp only [AV.flat1B,reduceCtorEq] at h<;>simp only [AV.flat1]
 intro e he x hx
 have:=List.all_eq_true.1 h e he
 exact plain_of (List.all_eq_true.1 this x hx)
theorem flatV_of {a:AV} (h:a.flatVB=true):a.flatV:=by
 by_cases hc:∃ cs,a=.agg cs
 ·obtain ⟨cs,rfl⟩:=hc
  intro x hx
  exact flat1_of (List.all_eq_true.1 h x hx)
 ·have h1:a.flat1B=true:=by cases a<;>first|exact h|exact absurd ⟨_,rfl⟩ hc
  have h2:=flat1_of h1
  cases a<;>first|exact h2|exact absurd ⟨_,rfl⟩ hc
theorem flat_of {a:AV} (h:a.flatB=true):a.flat:=by
 by_cases hc:∃ cs,a=.tup cs
 ·obtain ⟨cs,rfl⟩:=hc
  intro x hx
  exact flatV_of (List.all_eq_true.1 h x hx)
 ·have h1:a.flatVB=true:=by cases a<;>first|exact h|exact absurd ⟨_,rfl⟩ hc
  have h2:=flatV_of h1
  cases a<;>first|exact h2|exact absurd ⟨_,rfl⟩ hc
theorem flatO_of {a:AV} (h:a.flatOB=true):a.flatO:=by
 cases a<;>simp only [AV.flatOB] at h<;>simp only [AV.flatO]
 intro x hx
 exact flat1_of (List.all_eq_true.1 h x hx)
theorem SLeL.refl:∀ l:List AV,SLeL l l
 | []=>by simp [SLeL]
 | _::r=>by simp only [SLeL];exact ⟨.inl rfl,SLeL.refl r⟩
theorem SLeV.refl (a:AV):SLeV a a:=by
 cases a<;>first|exact SLeL.refl _|exact .inl rfl
theorem SLeVs.refl:∀ l:List AV,SLeVs l l
 | []=>by simp [SLeVs]
 | a::r=>by simp only [SLeVs];exact ⟨SLeV.refl a,SLeVs.refl r⟩
def nodupB:List Nat→Bool
 | []=>true
 | a::r=>!(r.any fun b=>Nat.beq b a)&&nodupB r
theorem nodup_of:∀ {l:List Nat},nodupB l=true→l.Nodup
 | [],_=>List.nodup_nil
 | a::r,h=>by
  simp only [nodupB,Bool.and_eq_true,Bool.not_eq_true',List.any_eq_false] at h
  refine List.nodup_cons.2 ⟨fun hm=>?_,nodup_of h.2⟩
  have:=h.1 a hm
  simp at this
def isEnd:Exit→Bool
 | .normal|.ret=>true
 | _=>false
def evalP (T:TypeId→Option TD) (X:AX) (fn:Func) (c:Code) (n:Nat) (avs:List AV):Option AV :=
 match Nat.ble avs.length fn.ntmps,(forceL avs fun avs=>forceS (enterS avs) fun s=>aexec T X fn.ntmps n c ⟨s,[],0⟩) with
 | true,some (e,st)=>match isEnd e,aResults T st fn.results.toList with
  | true,some as=>match leaveVals (getM st.m) as with
   | some (rs,ids)=>match nodupB ids&&Nat.beq rs.length fn.results.toList.length&&(retOf rs).flatB with
    | true=>some (retOf rs)
    | false=>none
   | none=>none
  | _,_=>none
 | _,_=>none
theorem isEnd_or {e:Exit} (h:isEnd e=true):e=.normal∨e=.ret:=by cases e<;>simp [isEnd] at h ⊢
theorem psound_eval {P:Program} {X:AX} {f:FuncId} {fn:Func} {c:Code} (n:Nat) (hX:XOK P X) (hmix:P.follows .mixedOrders=true) (hf:P.funcs[f]?=some fn) (hb:fn.body=some c) (ho:codeOrd X c=true):PSound P f (evalP (Types P) X fn c n):=by
 refine psound_of hX hmix hf hb rfl fun w0 G avs r h=>?_
 simp only [evalP,forceL_eq,forceS_eq] at h
 split at h
 case h_2=>simp at h
 rename_i e st h1 h2
 split at h
 case h_2=>simp at h
 rename_i as h3 h4
 cases h5:leaveVals (getM st.m) as<;>simp only [h5,reduceCtorEq] at h
 rename_i p
 obtain ⟨rs,ids⟩:=p
 split at h
 case h_2=>simp at h
 rename_i h6
 simp only [Bool.and_eq_true,Nat.beq_eq_true_eq] at h6
 simp only [Option.some.injEq] at h
 refine ⟨Nat.le_of_ble_eq_true h1,rs,h,by simpa using h6.1.2,?_⟩
 refine aw_mono (aexec_ok (c:=⟨P,X,fn.ntmps,w0,.pure G⟩) ⟨hX,hmix⟩ n c _ e st ho h2) fun e' s' ⟨q1,q2⟩=>?_
 subst q1 q2
 exact ⟨isEnd_or h3,as,rs,ids,h4,h5,nodup_of h6.1.1,SLeVs.refl _⟩
theorem evalP_flat {T:TypeId→Option TD} {X:AX} {fn:Func} {c:Code} {n:Nat} {avs:List AV} {r:AV} (h:evalP T X fn c n avs=some r):r.flat:=by
 simp only [evalP,forceL_eq,forceS_eq] at h
 split at h
 case h_2=>simp at h
 split at h
 case h_2=>simp at h
 split at h
 case h_2=>simp at h
 split at h
 case h_2=>simp at h
 rename_i h6
 simp only [Bool.and_eq_true] at h6
 simp only [Option.some.injEq] at h
 rw [← h]
 exact flat_of h6.2
def isRf:AV→Bool
 | .rf _=>true
 | _=>false
def evalM (T:TypeId→Option TD) (X:AX) (fn:Func) (c:Code) (n:Nat) (a0:AV) (avs:List AV):Option (AV×AV) :=
 match Nat.ble (avs.length+1) fn.ntmps,(forceL avs fun avs=>a0.force fun a0=>forceS (enterS ((openArg 0 a0).1::avs)) fun s=>forceM (openArg 0 a0).2.1 fun m=>aexec T X fn.ntmps n c ⟨s,m,(openArg 0 a0).2.2⟩) with
 | true,some (e,st)=>match isEnd e,aResults T st fn.results.toList with
  | true,some as=>match leaveVals (getM st.m) as with
   | some (rs,ids)=>match (if isRf a0 then leaveArg (getM st.m) (openArg 0 a0).1 else some (.any,[])) with
    | some (o,is)=>match nodupB (is++ids)&&Nat.beq rs.length fn.results.toList.length&&(retOf rs).flatB&&o.flatOB with
     | true=>some (retOf rs,o)
     | false=>none
    | none=>none
   | none=>none
  | _,_=>none
 | _,_=>none
theorem msound_eval {P:Program} {X:AX} {f:FuncId} {fn:Func} {c:Code} (n:Nat) (hX:XOK P X) (hmix:P.follows .mixedOrders=true) (hf:P.funcs[f]?=some fn) (hb:fn.body=some c) (ho:codeOrd X c=true):MSound P f (evalM (Types P) X fn c n):=by
 refine msound_of hf hb rfl fun w0 bl E a0 avs r out h=>?_
 simp only [evalM,forceL_eq,forceS_eq,forceM_eq,AV.force_eq] at h
 split at h
 case h_2=>simp at h
 rename_i e st h1 h2
 split at h
 case h_2=>simp at h
 rename_i as h3 h4
 cases h5:leaveVals (getM st.m) as<;>simp only [h5,reduceCtorEq] at h
 rename_i p
 obtain ⟨rs,ids⟩:=p
 cases h7:(if isRf a0 then leaveArg (getM st.m) (openArg 0 a0).1 else some (.any,[]))<;>simp only [h7,reduceCtorEq] at h
 rename_i q
 obtain ⟨o,is⟩:=q
 simp only at h
 split at h
 case h_2=>simp at h
 rename_i h6
 simp only [Bool.and_eq_true,Nat.beq_eq_true_eq] at h6
 simp only [Option.some.injEq,Prod.mk.injEq] at h
 refine ⟨Nat.le_of_ble_eq_true h1,rs,h.1,by simpa using h6.1.1.2,X,?_⟩
 refine aw_mono (aexec_ok (c:=⟨P,X,fn.ntmps,w0,⟨bl,E,(openArg 0 a0).2.2⟩⟩) ⟨hX,hmix⟩ n c _ e st ho h2) fun e' s' ⟨q1,q2⟩=>?_
 subst q1 q2
 refine ⟨isEnd_or h3,as,rs,ids,o,is,h4,h5,?_,nodup_of h6.1.1.1,SLeVs.refl _,.inl h.2.symm⟩
 split at h7
 ·exact .inl h7
 ·simp only [Option.some.injEq,Prod.mk.injEq] at h7
  exact .inr ⟨h7.1.symm,h7.2.symm⟩
theorem evalM_flat {T:TypeId→Option TD} {X:AX} {fn:Func} {c:Code} {n:Nat} {a0:AV} {avs:List AV} {r out:AV} (h:evalM T X fn c n a0 avs=some (r,out)):r.flat∧out.flatO:=by
 simp only [evalM,forceL_eq,forceS_eq,forceM_eq,AV.force_eq] at h
 split at h
 case h_2=>simp at h
 split at h
 case h_2=>simp at h
 split at h
 case h_2=>simp at h
 split at h
 case h_2=>simp at h
 split at h
 case h_2=>simp at h
 rename_i h6
 simp only [Bool.and_eq_true] at h6
 simp only [Option.some.injEq,Prod.mk.injEq] at h
 rw [← h.1,← h.2]
 exact ⟨flat_of h6.1.2,flatO_of h6.2⟩
structure Ev where
 T:TypeId→Option TD
 base:AX
 isBase:FuncId→Bool
 isM:FuncId→Bool
 skip:FuncId→Bool
 sz:FuncId→Nat→Nat
def Ev.w (v:Ev) (f:FuncId):Bool:=if v.isBase f then v.base.writes f else v.isM f
def Ev.call (P:Program) (v:Ev):Nat→FuncId→List AV→(Nat→AO)→Nat→Option (AV×List (Nat×AO))
 | 0,f=>fun avs M nid=>match v.isBase f with
  | true=>v.base.call f avs M nid
  | false=>none
 | n+1,f=>fun avs M nid=>match v.isBase f with
  | true=>v.base.call f avs M nid
  | false=>match v.skip f with
   | true=>none
   | false=>match P.funcs[f]? with
    | none=>none
    | some fn=>match fn.body with
     | none=>none
     | some c=>match v.isM f with
      | true=>callM false (v.sz f) (evalM v.T ⟨Ev.call P v n,v.w,true,v.base.eqs⟩ fn c n) avs M nid
      | false=>callP (evalP v.T ⟨Ev.call P v n,v.w,true,v.base.eqs⟩ fn c n) avs M nid
def Ev.ax (P:Program) (v:Ev) (n:Nat):AX:=⟨Ev.call P v n,v.w,true,v.base.eqs⟩
def Ev.check (P:Program) (v:Ev) (fs:List FuncId):Bool:=fs.all fun f=>match P.funcs[f]? with
 | none=>false
 | some fn=>match fn.body with
  | none=>false
  | some c => codeOrd (v.ax P 0) c && !(fn.name == "runtime.NumGoroutine")
theorem conflict_congr {X Y:AX} (h:X.writes=Y.writes) (h2:X.anyW=Y.anyW):codeOrd X=codeOrd Y:=by
 obtain ⟨a,b,c,d⟩:=X
 obtain ⟨a',b',c',d'⟩:=Y
 simp only at h h2
 subst h h2
 have hw:∀ o,opW ⟨a,b,c,d⟩ o=opW ⟨a',b,c,d'⟩ o:=fun o=>rfl
 have hc:conflict ⟨a,b,c,d⟩=conflict ⟨a',b,c,d'⟩:=rfl
 have ho:ordB ⟨a,b,c,d⟩=ordB ⟨a',b,c,d'⟩:=rfl
 funext k
 induction k<;>simp only [codeOrd]<;>simp_all
theorem xok_eval {P:Program} {v:Ev} (hT:v.T=Types P) (hmix:P.follows .mixedOrders=true) (hb:XOK P v.base) (fs:List FuncId) (hsk:∀ f,v.skip f=false→f∈fs) (hck:v.check P fs=true):∀ n,XOK P (v.ax P n):=by
 have hfn : ∀ f, v.skip f = false → ∃ fn c, P.funcs[f]? = some fn ∧ fn.body = some c ∧ (∀ n, codeOrd (v.ax P n) c = true) ∧ (fn.name == "runtime.NumGoroutine") = false := fun f hf => by
  have:=List.all_eq_true.1 hck f (hsk f hf)
  cases h1:P.funcs[f]?<;>simp only [h1,Bool.false_eq_true] at this
  rename_i fn
  cases h2:fn.body<;>simp only [h2,Bool.false_eq_true] at this
  rename_i c
  simp only [Bool.and_eq_true,Bool.not_eq_true'] at this
  exact ⟨fn,c,rfl,h2,fun n=>by rw [conflict_congr (X:=v.ax P n) (Y:=v.ax P 0) rfl rfl];exact this.1,this.2⟩
 intro n
 induction n with
 | zero =>
  refine ⟨fun f avs M nid r h=>?_,hb.eqs,fun f avs M nid r h=>?_,fun f _=>rfl⟩
  ·simp only [Ev.ax,Ev.call] at h
   split at h
   case h_2=>simp at h
   rename_i hB
   have e:(v.ax P 0).call f=v.base.call f:=by funext a b c;simp only [Ev.ax,Ev.call,hB]
   rw [e]
   exact hb.calls f avs M nid r h
  ·simp only [Ev.ax,Ev.call] at h
   split at h
   case h_2=>simp at h
   rename_i hB
   have:=hb.dom f avs M nid r h
   simpa only [Ev.ax,Ev.w,hB,if_true] using this
 | succ n ih =>
  have key:∀ f,v.isBase f=false→v.skip f=false→∃ fn c,P.funcs[f]?=some fn∧fn.body=some c∧(v.ax P (n+1)).call f=(if v.isM f then callM false (v.sz f) (evalM (Types P) (v.ax P n) fn c n) else callP (evalP (Types P) (v.ax P n) fn c n))∧codeOrd (v.ax P n) c=true∧BodyOK P f:=fun f hB hS=>by
   obtain ⟨fn,c,h1,h2,h3,h4⟩:=hfn f hS
   refine ⟨fn,c,h1,h2,?_,h3 n,fn,h1,by simp [h2],h4⟩
   funext avs M nid
   simp only [Ev.ax,Ev.call,hB,hS,h1,h2,hT]
   cases v.isM f<;>rfl
  refine ⟨fun f avs M nid r h=>?_,hb.eqs,fun f avs M nid r h=>?_,fun f _=>rfl⟩
  ·cases hB:v.isBase f with
   | true =>
    have e:(v.ax P (n+1)).call f=v.base.call f:=by funext a b c;simp only [Ev.ax,Ev.call,hB]
    rw [e] at h ⊢
    exact hb.calls f avs M nid r h
   | false =>
    cases hS:v.skip f with
    | true=>simp [Ev.ax,Ev.call,hB,hS] at h
    | false =>
     obtain ⟨fn,c,h1,h2,h3,h4,h5⟩:=key f hB hS
     rw [h3]
     left
     refine ⟨?_,h5⟩
     split
     ·exact (msound_eval n ih hmix h1 h2 h4).callM fun a0 avs r out h=>evalM_flat h
     ·exact (psound_eval n ih hmix h1 h2 h4).callP fun avs r h=>evalP_flat h
  ·cases hB:v.isBase f with
   | true =>
    have e:(v.ax P (n+1)).call f=v.base.call f:=by funext a b c;simp only [Ev.ax,Ev.call,hB]
    rw [e] at h
    have:=hb.dom f avs M nid r h
    simpa only [Ev.ax,Ev.w,hB,if_true] using this
   | false =>
    cases hS:v.skip f with
    | true=>simp [Ev.ax,Ev.call,hB,hS] at h
    | false =>
     obtain ⟨fn,c,h1,h2,h3,h4,h5⟩:=key f hB hS
     rw [h3] at h
     intro b hb'
     split at h
     ·rename_i hM
      exact (callM_keys h b hb').imp id fun h=>⟨by simp [Ev.ax,Ev.w,hB,hM],h⟩
     ·exact .inl (callP_keys h b hb')
end Go.AM
namespace Go.AM
open Go
theorem sat_tidyM {N:Nat} {w0:World} {bl:Bk} {a:Act} {w:World} {s:List (Nat×AV)} {m:List (Nat×AO)} {nx:Nat}:Sat N w0 bl a w ⟨s,tidyM m,nx⟩↔Sat N w0 bl a w ⟨s,m,nx⟩:=by
 unfold Sat
 have e2:getM (tidyM m)=getM m:=funext fun t=>getM_tidy
 simp only [e2]
theorem le_of2 {n:Nat} {s s':List (Nat×AV)} {m m':List (Nat×AO)} {nx nx':Nat} (hn:n≤nx') (hs:∀ p∈s',AVle (getS s p.1) p.2∧p.2.under nx') (hm:∀ p∈tidyM m',AOle (getM m p.1) p.2∧p.2.under nx'∧p.1<nx') :
  Le n ⟨s,m,nx⟩ ⟨s',m',nx'⟩:=fun N w0 bl a w hb h=>sat_tidyM.1 (le_of hn hs hm N w0 bl a w hb h)
theorem aw_loopK {c:Cx} {st:St} {Q:Exit→St→Prop} {ι:Type} (ks:List Nat) (V:ι→List (Nat×AV)) (W:ι→List (Nat×AO)) (μ:ι→Nat) (i0:ι) {x:Code} {s0:List (Nat×AV)} {m0:List (Nat×AO)}
  (_hs:keepS ks st.s=s0) (_hm:tidyM st.m=m0) (h0:Le c.bl.n st ⟨V i0++s0,W i0++m0,st.nx⟩)
  (round:∀ i,AW c x ⟨V i++s0,W i++m0,st.nx⟩ (thenQ (fun st'=>∃ i',Le c.bl.n st' ⟨V i'++s0,W i'++m0,st.nx⟩∧μ i'<μ i) Q)):AW c (.loop x) st Q :=
 aw_loop (fun i=>⟨V i++s0,W i++m0,st.nx⟩) μ i0 h0 round
@[simp] theorem nat_beq (n m:Nat):Nat.beq n m=decide (n=m):=by
 rw [Bool.eq_iff_iff,decide_eq_true_iff]
 exact ⟨Nat.eq_of_beq_eq_true,fun h=>by subst h;exact Nat.beq_refl n⟩
attribute [simp] tidyM remK
theorem PSound.weaken {P:Program} {f:FuncId} {F F':List AV→Option AV} (h:PSound P f F) (hle:∀ avs r,F' avs=some r→F avs=some r):PSound P f F' :=
 fun w G args avs r hr=>h w G args avs r (hle avs r hr)
theorem MSound.weaken {P:Program} {f:FuncId} {F F':AV→List AV→Option (AV×AV)} (h:MSound P f F) (hle:∀ a avs r o,F' a avs=some (r,o)→F a avs=some (r,o)):MSound P f F' :=
 fun w G x0 args a0 avs bl r o hr=>h w G x0 args a0 avs bl r o (hle a0 avs r o hr)
theorem body_ok {P : Program} {f : FuncId} (fn : Func) (h : P.funcs[f]? = some fn) (h2 : (fn.body.isSome && !(fn.name == "runtime.NumGoroutine")) = true) : BodyOK P f := by
 simp only [Bool.and_eq_true,Bool.not_eq_true'] at h2
 exact ⟨fn,h,h2.1,h2.2⟩
def gi (l:List Int) (n:Nat):Int:=l.getD n 0
theorem irows_gi {l:List Int} {n:Nat} (h:n<l.length):(irows l)[n]?=some [I (gi l n)]:=irows_get h
theorem gi_eq {l:List Int} {n:Nat} (h:n<l.length):gi l n=l[n]:=by
 unfold gi
 rw [List.getD_eq_getElem?_getD,List.getElem?_eq_getElem h];rfl
theorem wrapU64 {n:Int} (h:0≤n∧n≤18446744073709551615):IntKind.u64.wrap n=n:=by
 have:IntKind.u64.wrap n=n%18446744073709551616:=rfl
 rw [this];omega
end Go.AM
namespace Go.AM
open Go
def AX.start (w:FuncId→Bool):AX:=⟨fun _ _ _ _=>.none,w,true,fun _=>false⟩
theorem xok_start (P:Program) (w:FuncId→Bool):XOK P (AX.start w) where
 calls:=fun f avs M nid r h=>by simp [AX.start] at h
 eqs:=fun t h=>by simp [AX.start] at h
 dom:=fun f avs M nid r h=>by simp [AX.start] at h
 anyW:=fun f _=>rfl
theorem xok_putM {P:Program} {X:AX} (h:XOK P X) {f:FuncId} {g:List AV→(Nat→AO)→Nat→Option (AV×List (Nat×AO))} (hw:X.writes f=true) (hg:(CallOK P f g∧BodyOK P f)∨ExtOK P f g)
  (hd:∀ avs M nid r,g avs M nid=some r→∀ b∈r.2.map (·.1),(nid≤b∧b<nid+16)∨M b≠.dead):XOK P (X.add f g) where
 calls:=fun k avs M nid r hr=>by
  simp only [AX.add] at hr ⊢
  split
  ·rename_i e;subst e;exact hg
  ·rename_i e
   rw [if_neg e] at hr
   exact h.calls k avs M nid r hr
 eqs:=h.eqs
 dom:=fun k avs M nid r hr b hb=>by
  simp only [AX.add] at hr ⊢
  split at hr
  ·rename_i e;subst e
   exact (hd avs M nid r hr b hb).imp id fun h=>⟨hw,h⟩
  ·exact h.dom k avs M nid r hr b hb
 anyW:=h.anyW
def AX.W (X:AX) (w:FuncId→Bool):Prop:=X.writes=w∧X.anyW=true
theorem AX.W.add {X:AX} {w:FuncId→Bool} (h:X.W w) (f:FuncId) (g:List AV→(Nat→AO)→Nat→Option (AV×List (Nat×AO))):(X.add f g).W w:=h
theorem ordB_w {X:AX} {w:FuncId→Bool} (h:X.W w) {ops:Array Oper}:ordB X ops=ordB (AX.start w) ops:=by
 obtain ⟨a,b,c,d⟩:=X
 obtain ⟨h1,h2⟩:=h
 simp only at h1 h2
 subst h1 h2
 rfl
end Go.AM
namespace Go.AM
open Go
inductive Sh where
 | int (k:IntKind)
 | bool
 | sl (s:List Sh)
mutual
def Fit:Sh→AV→Prop
 | .int k,a=>∃ n,a=.v (.int k n)∧(Lit.int k n).wf=true
 | .bool,a=>∃ b,a=.v (.bool b)
 | .sl s,a=>∃ xs,a=.rd s.length xs∧xs.length≤maxLen∧∀ e∈xs,FitL s e
def FitL:List Sh→List AV→Prop
 | [],[]=>True
 | s::r,a::as=>Fit s a∧FitL r as
 | _,_=>False
end
def fieldsOf (P:Program) (g:TypeId→Option (List Sh)):List Field→Nat→Option (List Sh)
 | [],_=>some []
 | f::r,off=>match g f.type,fieldsOf P g r (off+P.cellsOf f.type) with
  | some s,some l=>if f.offset=off∧s.length=P.cellsOf f.type then some (s++l) else none
  | _,_=>none
def shapeOf (P:Program):Nat→TypeId→Option (List Sh)
 | 0,_=>none
 | n+1,t=>match P.underlying t with
  | some .bool=>some [.bool]
  | some (.int k)=>some [.int k]
  | some (.slice e)=>match shapeOf P n e with
   | some s=>if s.length=P.cellsOf e∧1≤s.length then some [.sl s] else none
   | none=>none
  | some (.struct fs)=>match fieldsOf P (shapeOf P n) fs.toList 0 with
   | some s=>if s.length=P.cellsOf t then some s else none
   | none=>none
  | some (.array k e)=>match shapeOf P n e with
   | some s=>if s.length=P.cellsOf e∧k*s.length=P.cellsOf t then some (List.replicate k s).flatten else none
   | none=>none
  | _=>none
theorem FitL.append:∀ {s t:List Sh} {a b:List AV},FitL s a→FitL t b→FitL (s++t) (a++b)
 | [],_,[],_,_,h=>h
 | x::s,t,y::a,b,h,k=>by
  simp only [FitL,List.cons_append] at h ⊢
  exact ⟨h.1,h.2.append k⟩
 | [],_,_::_,_,h,_=>by simp [FitL] at h
 | _::_,_,[],_,h,_=>by simp [FitL] at h
theorem CRepL.append {w:World} {G:Nat→Prop}:∀ {a b:List AV} {xs ys:List Value},CRepL w G a xs→CRepL w G b ys→CRepL w G (a++b) (xs++ys)
 | [],_,[],_,_,h=>h
 | x::s,t,y::a,b,h,k=>by
  simp only [CRepL,List.cons_append] at h ⊢
  exact ⟨h.1,h.2.append k⟩
 | [],_,_::_,_,h,_=>by simp [CRepL] at h
 | _::_,_,[],_,h,_=>by simp [CRepL] at h
theorem FitL.length:∀ {s:List Sh} {a:List AV},FitL s a→a.length=s.length
 | [],[],_=>rfl
 | _::_,_::_,h=>by simp only [FitL] at h;simp [FitL.length h.2]
 | [],_::_,h=>by simp [FitL] at h
 | _::_,[],h=>by simp [FitL] at h
theorem CRepL.length {w:World} {G:Nat→Prop}:∀ {a:List AV} {xs:List Value},CRepL w G a xs→a.length=xs.length
 | [],[],_=>rfl
 | _::_,_::_,h=>by simp only [CRepL] at h;simp [CRepL.length h.2]
 | [],_::_,h=>by simp [CRepL] at h
 | _::_,[],h=>by simp [CRepL] at h
def Opened (w:World) (sh:List Sh) (cs:List Value):Prop:=∃ avs,FitL sh avs∧CRepL w (allG w) avs cs∧∀ y∈cs,y.oneCell'=true
theorem Opened.nil (w:World):Opened w [] []:=⟨[],by simp [FitL],by simp [CRepL],by simp⟩
theorem Opened.append {w:World} {s t:List Sh} {xs ys:List Value} (h:Opened w s xs) (k:Opened w t ys):Opened w (s++t) (xs++ys):=by
 obtain ⟨a,h1,h2,h3⟩:=h
 obtain ⟨b,k1,k2,k3⟩:=k
 refine ⟨a++b,h1.append k1,h2.append k2,fun y hy=>?_⟩
 rcases List.mem_append.1 hy with hy|hy
 ·exact h3 y hy
 ·exact k3 y hy
section
variable {H:Type} {enc:TypeId×Value→H} {P:Program} {w:World} {base:Nat} {spare:Nat→Bool} {held:Bool}
theorem fields_open {n:Nat} {cs:List Value} {g:TypeId→Option (List Sh)} (hg:∀ t sh fuel cs x,g t=some sh→DataW.trod enc P w base spare held fuel t cs=some x→Opened w sh cs) :
  ∀ {fs:List Field} {off:Nat} {sh:List Sh},fieldsOf P g fs off=some sh→(∀ f∈fs,∃ y,DataW.trod enc P w base spare held n f.type ((cs.drop f.offset).take (P.cellsOf f.type))=some y)→Opened w sh ((cs.drop off).take sh.length)
 | [],off,sh,h,_=>by
  simp only [fieldsOf,Option.some.injEq] at h
  subst h
  simpa using Opened.nil w
 | f::r,off,sh,h,hf=>by
  simp only [fieldsOf] at h
  cases h1:g f.type<;>simp only [h1,reduceCtorEq] at h
  rename_i s
  cases h2:fieldsOf P g r (off+P.cellsOf f.type)<;>simp only [h2,reduceCtorEq] at h
  rename_i l
  split at h
  case isFalse=>simp at h
  rename_i hc
  simp only [Option.some.injEq] at h
  subst h
  obtain ⟨y,hy⟩:=hf f (by simp)
  have a1:=hg _ _ _ _ _ h1 hy
  have a2:=fields_open hg h2 fun f' hf'=>hf f' (by simp [hf'])
  rw [List.length_append,List.take_add,List.drop_drop,hc.2]
  rw [hc.1] at a1
  exact a1.append a2
theorem array_open {n k c:Nat} {e:TypeId} {cs:List Value} {s:List Sh} (hg:∀ fuel cs x,DataW.trod enc P w base spare held fuel e cs=some x→Opened w s cs) (hc:s.length=c)
  (hf:∀ i,i<k→∃ y,DataW.trod enc P w base spare held n e ((cs.drop (i*c)).take c)=some y):∀ m i,i+m=k→Opened w (List.replicate m s).flatten ((cs.drop (i*c)).take (m*c))
 | 0,i,_=>by simpa using Opened.nil w
 | m+1,i,h=>by
  obtain ⟨y,hy⟩:=hf i (by omega)
  have a1:=hg _ _ _ hy
  have a2:=array_open hg hc hf m (i+1) (by omega)
  rw [List.replicate_succ,List.flatten_cons,Nat.add_mul,Nat.one_mul,Nat.add_comm (m*c) c,List.take_add,List.drop_drop,← Nat.succ_mul]
  exact a1.append a2
theorem shape_open:∀ (m:Nat) (t:TypeId) (sh:List Sh) (fuel:Nat) (cs:List Value) (x:DataW H×List MemPlace),shapeOf P m t=some sh→DataW.trod enc P w base spare held fuel t cs=some x→Opened w sh cs
 | 0,_,_,_,_,_,h,_=>by simp [shapeOf] at h
 | m+1,t,sh,fuel,cs,x,h,hd=>by
  simp only [shapeOf] at h
  cases hu:P.underlying t with
  | none=>simp [hu] at h
  | some u =>
   rw [hu] at h
   cases u<;>simp only [reduceCtorEq,Option.some.injEq] at h
   case bool =>
    subst h
    obtain ⟨b,rfl,_⟩:=DataW.trod_bool hu hd
    exact ⟨[.v (.bool b)],by simp [FitL,Fit],by simp [CRepL,CRep],by simp⟩
   case int k =>
    subst h
    obtain ⟨n,rfl,_,hw⟩:=DataW.trod_int hu hd
    exact ⟨[.v (.int k n)],by simp [FitL,Fit,hw],by simp [CRepL,CRep],by simp⟩
   case slice e =>
    cases hs:shapeOf P m e<;>simp only [hs,reduceCtorEq] at h
    rename_i s
    split at h
    case isFalse=>simp at h
    rename_i hc
    simp only [Option.some.injEq] at h
    subst h
    rcases DataW.trod_slice hu hd with ⟨rfl,_⟩|⟨a,len,cap,elems,rest,n,_,rfl,_,hb,hl,hm,hlen,hel,_,_⟩
    ·refine ⟨[.rd s.length []],by simp [FitL,Fit],?_,by simp⟩
     simp only [CRepL,CRep,and_true]
     exact ⟨none,0,rfl,by simp,fun _=>rfl,.inl trivial⟩
    ·have each:∀ i,i<len→∃ avs cs',FitL s avs∧CRepL w (allG w) avs cs'∧(∀ y∈cs',y.oneCell'=true)∧w.cells? base (a.add (i*P.cellsOf e)) (P.cellsOf e)=some cs':=fun i hi=>by
      have h1:=hel i hi
      have h2:elems[i]?=some (elems[i]'(by omega)):=List.getElem?_eq_getElem (by omega)
      rw [h2,Option.bind_eq_some_iff] at h1
      obtain ⟨cs',q1,q2⟩:=h1
      obtain ⟨avs,p1,p2,p3⟩:=shape_open m e s _ _ _ hs q2
      exact ⟨avs,cs',p1,p2,p3,q1⟩
     by_cases h0:len=0
     ·subst h0
      refine ⟨[.rd s.length []],by simp [FitL,Fit],?_,by simp⟩
      simp only [CRepL,CRep,and_true]
      exact ⟨some a,cap,rfl,by simp,by simp,.inl trivial⟩
     ·obtain ⟨avs0,cs0,f0,r0,_,c0⟩:=each 0 (by omega)
      have hcell0:=(World.cells?_some c0).2.2 0 (by have:=f0.length;have:=r0.length;have:=(World.cells?_some c0).2.1;omega)
      have hcs0:0<cs0.length:=by have:=f0.length;have:=r0.length;omega
      have hsp:a.spot=none:=by
       rw [List.getElem?_eq_getElem hcs0] at hcell0
       unfold World.cell? at hcell0
       split at hcell0
       ·split at hcell0
        ·simp at hcell0
        ·rename_i hns
         cases hq:a.spot with
         | none=>rfl
         | some z=>exfalso;apply hns;simp [Addr.add,hq]
       ·simp at hcell0
      have hat:∀ n,a.add n=⟨a.block,a.off+n,none⟩:=fun n=>by
       obtain ⟨b,o,sp⟩:=a
       simp only at hsp
       subst hsp
       unfold Addr.add
       split
       ·rename_i h;subst h;rfl
       ·rfl
      have hblk:a.block<w.heap.size:=by
       rw [List.getElem?_eq_getElem hcs0] at hcell0
       unfold World.cell? at hcell0
       split at hcell0
       ·rename_i hh
        have:=(Array.getElem?_eq_some_iff.1 hh).1
        rw [hat] at this
        simpa [Addr.add] using this
       ·simp at hcell0
      let f:Nat→List AV:=fun i=>if h:i<len then (each i h).choose else []
      have hf:∀ i (h:i<len),∃ cs',FitL s (f i)∧CRepL w (allG w) (f i) cs'∧(∀ y∈cs',y.oneCell'=true)∧w.cells? base (a.add (i*P.cellsOf e)) (P.cellsOf e)=some cs':=fun i h=>by
       simp only [f,dif_pos h]
       exact (each i h).choose_spec
      refine ⟨[.rd s.length ((List.range len).map f)],?_,?_,by simp⟩
      ·simp only [FitL,Fit,and_true]
       refine ⟨_,rfl,by simp;omega,fun e' he'=>?_⟩
       obtain ⟨i,hi,rfl⟩:=List.mem_map.1 he'
       obtain ⟨_,h1,_⟩:=hf i (List.mem_range.1 hi)
       exact h1
      ·simp only [CRepL,CRep,and_true]
       refine ⟨some a,cap,by simp,by simp;omega,by simp,.inr ⟨a.block,a.off,?_,hblk,CRows.of_get fun i e' he'=>?_⟩⟩
       ·obtain ⟨b,o,sp⟩:=a
        simp only at hsp
        rw [hsp]
       ·have hi:i<len:=by
         have:=(List.getElem?_eq_some_iff.1 he').1
         simpa using this
        have he2:e'=f i:=by
         rw [List.getElem?_map,List.getElem?_range hi] at he'
         simpa using he'.symm
        subst he2
        obtain ⟨cs',h1,h2,h3,h4⟩:=hf i hi
        have h5:=World.cells?_some h4
        refine ⟨h1.length,CCells.of_list h2 h3 fun j v hv=>?_⟩
        have hj:j<cs'.length:=(List.getElem?_eq_some_iff.1 hv).1
        have h6:=h5.2.2 j (by have:=h5.2.1;omega)
        rw [hv] at h6
        rw [← h6,hat]
        simp only [hc.1]
        unfold Addr.add
        split
        ·rename_i hz;rw [hz];rfl
        ·rfl
   case struct fs =>
    cases hs:fieldsOf P (shapeOf P m) fs.toList 0<;>simp only [hs,reduceCtorEq] at h
    rename_i s
    split at h
    case isFalse=>simp at h
    rename_i hc
    simp only [Option.some.injEq] at h
    subst h
    obtain ⟨xs,n,rfl,_,hl,hxl,hx⟩:=DataW.trod_struct hu hd
    have:=fields_open (n:=n) (cs:=cs) (fun t sh fuel cs x h1 h2=>shape_open m t sh fuel cs x h1 h2) hs fun f hf=>by
     obtain ⟨i,hi,rfl⟩:=List.getElem_of_mem hf
     have hi':i<fs.size:=by simpa using hi
     have:=hx i fs[i] (Array.getElem?_eq_getElem hi')
     rw [List.getElem?_eq_getElem (by omega)] at this
     exact ⟨_,by simpa using this⟩
    rw [List.drop_zero,List.take_of_length_le (by omega)] at this
    exact this
   case array k e =>
    cases hs:shapeOf P m e<;>simp only [hs,reduceCtorEq] at h
    rename_i s
    split at h
    case isFalse=>simp at h
    rename_i hc
    simp only [Option.some.injEq] at h
    subst h
    obtain ⟨xs,n,rfl,_,hl,hxl,hx⟩:=DataW.trod_array hu hd
    have:=array_open (n:=n) (k:=k) (c:=P.cellsOf e) (cs:=cs) (fun fuel cs x h=>shape_open m e s fuel cs x hs h) hc.1 (fun i hi=>by
     have:=hx i hi
     rw [List.getElem?_eq_getElem (by omega)] at this
     exact ⟨_,this⟩) k 0 (by omega)
    rw [Nat.zero_mul,List.drop_zero,List.take_of_length_le (by rw [hl,← hc.2,hc.1];exact Nat.le_refl _)] at this
    exact this
end
end Go.AM
namespace Go.AM
open Go
def beqV:Value→Value→Bool
 | .int k a,.int k' b=>decide (k=k')&&decide (a=b)
 | .bool a,.bool b=>a == b
 | .slice none n c,.slice none n' c'=>Nat.beq n n'&&Nat.beq c c'
 | _,_=>false
theorem beqV_eq {x y:Value} (h:beqV x y=true):x=y:=by
 unfold beqV at h
 split at h
 ·simp only [Bool.and_eq_true,decide_eq_true_eq] at h;rw [h.1,h.2]
 ·rw [eq_of_beq h]
 ·simp only [Bool.and_eq_true] at h;rw [Nat.eq_of_beq_eq_true h.1,Nat.eq_of_beq_eq_true h.2]
 ·simp at h
mutual
def AV.beq:AV→AV→Bool
 | .any,b=>match b with|.any=>true|_=>false
 | .v x,b=>match b with|.v y=>beqV x y|_=>false
 | .agg cs,b=>match b with|.agg ds=>beqL cs ds|_=>false
 | .tup cs,b=>match b with|.tup ds=>beqL cs ds|_=>false
 | .rd s xs,b=>match b with|.rd t ys=>Nat.beq s t&&beqLL xs ys|_=>false
 | .ow s xs,b=>match b with|.ow t ys=>Nat.beq s t&&beqLL xs ys|_=>false
 | _,_=>false
def beqL:List AV→List AV→Bool
 | [],b=>match b with|[]=>true|_=>false
 | x::r,b=>match b with|y::s=>x.beq y&&beqL r s|_=>false
def beqLL:List (List AV)→List (List AV)→Bool
 | [],b=>match b with|[]=>true|_=>false
 | x::r,b=>match b with|y::s=>beqL x y&&beqLL r s|_=>false
end
mutual
theorem AV.beq_eq:∀ {a b:AV},a.beq b=true→a=b
 | .any,b,h=>by cases b<;>simp [AV.beq] at h;rfl
 | .v x,b,h=>by
  cases b<;>simp only [AV.beq,Bool.false_eq_true] at h
  rw [beqV_eq h]
 | .agg cs,b,h=>by
  cases b<;>simp only [AV.beq,Bool.false_eq_true] at h
  rw [beqL_eq h]
 | .tup cs,b,h=>by
  cases b<;>simp only [AV.beq,Bool.false_eq_true] at h
  rw [beqL_eq h]
 | .rd s xs,b,h=>by
  cases b<;>simp only [AV.beq,Bool.false_eq_true,Bool.and_eq_true] at h
  rw [Nat.eq_of_beq_eq_true h.1,beqLL_eq h.2]
 | .ow s xs,b,h=>by
  cases b<;>simp only [AV.beq,Bool.false_eq_true,Bool.and_eq_true] at h
  rw [Nat.eq_of_beq_eq_true h.1,beqLL_eq h.2]
 | .rp _,_,h=>by simp [AV.beq] at h
 | .rf _,_,h=>by simp [AV.beq] at h
 | .bp ..,_,h=>by simp [AV.beq] at h
 | .sl ..,_,h=>by simp [AV.beq] at h
 | .ep ..,_,h=>by simp [AV.beq] at h
 | .bs ..,_,h=>by simp [AV.beq] at h
 | .fn ..,_,h=>by simp [AV.beq] at h
 | .ifc ..,_,h=>by simp [AV.beq] at h
theorem beqL_eq:∀ {a b:List AV},beqL a b=true→a=b
 | [],b,h=>by cases b<;>simp [beqL] at h;rfl
 | x::r,b,h=>by
  cases b<;>simp only [beqL,Bool.false_eq_true,Bool.and_eq_true] at h
  rw [AV.beq_eq h.1,beqL_eq h.2]
theorem beqLL_eq:∀ {a b:List (List AV)},beqLL a b=true→a=b
 | [],b,h=>by cases b<;>simp [beqLL] at h;rfl
 | x::r,b,h=>by
  cases b<;>simp only [beqLL,Bool.false_eq_true,Bool.and_eq_true] at h
  rw [beqL_eq h.1,beqLL_eq h.2]
end
def memo (tab:List (List AV×AV)) (avs:List AV):Option AV:=match tab with
 | []=>none
 | (as,r)::t=>match beqL as avs with
  | true=>some r
  | false=>memo t avs
theorem memo_sound {P:Program} {f:FuncId} {F:List AV→Option AV} (h:PSound P f F):∀ {tab:List (List AV×AV)},(∀ p∈tab,F p.1=some p.2)→PSound P f (memo tab)
 | tab,ht=>h.weaken fun avs r hr=>by
  induction tab with
  | nil=>simp [memo] at hr
  | cons p t ih =>
   obtain ⟨as,q⟩:=p
   simp only [memo] at hr
   split at hr
   ·rename_i hb
    simp only [Option.some.injEq] at hr
    subst hr
    rw [← beqL_eq hb]
    exact ht (as,q) (by simp)
   ·exact ih (fun p hp=>ht p (by simp [hp])) hr
theorem memo_flat {tab:List (List AV×AV)} (h:tab.all (fun p=>p.2.flatB)=true):∀ {avs:List AV} {r:AV},memo tab avs=some r→r.flat:=by
 induction tab with
 | nil=>intro avs r hr;simp [memo] at hr
 | cons p t ih =>
  intro avs r hr
  simp only [List.all_cons,Bool.and_eq_true] at h
  obtain ⟨as,q⟩:=p
  simp only [memo] at hr
  split at hr
  ·simp only [Option.some.injEq] at hr
   subst hr
   exact flat_of h.1
  ·exact ih h.2 hr
end Go.AM
namespace Go.AM
open Go
theorem specF_flat {ι:Type} {A:ι→List AV} {R:ι→AV} (h:∀ i,(R i).flat) {avs:List AV} {r:AV} (hr:specF A R avs=some r):r.flat:=by
 obtain ⟨i,_,rfl⟩:=specF_some hr
 exact h i
theorem callP_spec {ι:Type} {A:ι→List AV} {R:ι→AV} {avs:List AV} {M:Nat→AO} {n:Nat} (i:ι) (hp:peekVals M avs=some (A i)) (inj:∀ j,A j=A i→R j=R i) (ho:(openRet n (R i)).2.2≤n+16) :
  callP (specF A R) avs M n=some ((openRet n (R i)).1,(openRet n (R i)).2.1):=by
 unfold callP
 rw [hp]
 simp only [specF_eq i inj,if_pos ho]
theorem xok_spec {P : Program} {X : AX} (h : XOK P X) {f : FuncId} {fn : Func} {ι : Type} {A : ι → List AV} {R : ι → AV} (hs : PSound P f (specF A R)) (hfl : ∀ i, (R i).flat) (hf : P.funcs[f]? = some fn) (hn : (fn.body.isSome && !(fn.name == "runtime.NumGoroutine")) = true) :
  XOK P (X.add f (callP (specF A R))) :=
 xok_add h (.inl ⟨hs.callP fun _ _ h=>specF_flat hfl h,body_ok fn hf hn⟩) fun _ _ _ _ h=>callP_keys h
end Go.AM
