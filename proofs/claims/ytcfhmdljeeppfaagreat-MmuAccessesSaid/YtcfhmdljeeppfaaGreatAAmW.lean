/- A part of the proof: what functions of the program compute, by abstract execution of their code. Its theorems hold without further condition. -/
import Derived.Test.YtcfhmdljeeppfaaGreatAAmQ
import Derived.ProofKit
import Derived.OpenShut
import Derived.WalkKit
set_option linter.all false
namespace Go.AM
open Go
inductive Sh where
 | int (k:IntKind)
 | bool
 | sl (s:List Sh)
mutual
def Fit:Sh→AV→Prop
 | .int k,a=>∃ n,a=.v (.int k n)∧(Lit.int k n).wf=true
 | .bool,a=>∃ b,a=.v (.bool b)
 | .sl s,a=>∃ xs,a=.rd s.length xs∧xs.length≤maxLen∧∀ e∈xs,FitL s e
def FitL:List Sh→List AV→Prop
 | [],[]=>True
 | s::r,a::as=>Fit s a∧FitL r as
 | _,_=>False
end
def fieldsOf (P:Program) (g:TypeId→Option (List Sh)):List Field→Nat→Option (List Sh)
 | [],_=>some []
 | f::r,off=>match g f.type,fieldsOf P g r (off+P.cellsOf f.type) with
  | some s,some l=>if f.offset=off∧s.length=P.cellsOf f.type then some (s++l) else none
  | _,_=>none
def shapeOf (P:Program):Nat→TypeId→Option (List Sh)
 | 0,_=>none
 | n+1,t=>match P.underlying t with
  | some .bool=>some [.bool]
  | some (.int k)=>some [.int k]
  | some (.slice e)=>match shapeOf P n e with
   | some s=>if s.length=P.cellsOf e∧1≤s.length then some [.sl s] else none
   | none=>none
  | some (.struct fs)=>match fieldsOf P (shapeOf P n) fs.toList 0 with
   | some s=>if s.length=P.cellsOf t then some s else none
   | none=>none
  | some (.array k e)=>match shapeOf P n e with
   | some s=>if s.length=P.cellsOf e∧k*s.length=P.cellsOf t then some (List.replicate k s).flatten else none
   | none=>none
  | _=>none
theorem FitL.append:∀ {s t:List Sh} {a b:List AV},FitL s a→FitL t b→FitL (s++t) (a++b)
 | [],_,[],_,_,h=>h
 | x::s,t,y::a,b,h,k=>by
  simp only [FitL,List.cons_append] at h ⊢
  exact ⟨h.1,h.2.append k⟩
 | [],_,_::_,_,h,_=>by simp [FitL] at h
 | _::_,_,[],_,h,_=>by simp [FitL] at h
theorem CRepL.append {w:World} {G:Nat→Prop}:∀ {a b:List AV} {xs ys:List Value},CRepL w G a xs→CRepL w G b ys→CRepL w G (a++b) (xs++ys)
 | [],_,[],_,_,h=>h
 | x::s,t,y::a,b,h,k=>by
  simp only [CRepL,List.cons_append] at h ⊢
  exact ⟨h.1,h.2.append k⟩
 | [],_,_::_,_,h,_=>by simp [CRepL] at h
 | _::_,_,[],_,h,_=>by simp [CRepL] at h
theorem FitL.length:∀ {s:List Sh} {a:List AV},FitL s a→a.length=s.length
 | [],[],_=>rfl
 | _::_,_::_,h=>by simp only [FitL] at h;simp [FitL.length h.2]
 | [],_::_,h=>by simp [FitL] at h
 | _::_,[],h=>by simp [FitL] at h
theorem CRepL.length {w:World} {G:Nat→Prop}:∀ {a:List AV} {xs:List Value},CRepL w G a xs→a.length=xs.length
 | [],[],_=>rfl
 | _::_,_::_,h=>by simp only [CRepL] at h;simp [CRepL.length h.2]
 | [],_::_,h=>by simp [CRepL] at h
 | _::_,[],h=>by simp [CRepL] at h
def Opened (w:World) (sh:List Sh) (cs:List Value):Prop:=∃ avs,FitL sh avs∧CRepL w (allG w) avs cs∧∀ y∈cs,y.oneCell'=true
theorem Opened.nil (w:World):Opened w [] []:=⟨[],by simp [FitL],by simp [CRepL],by simp⟩
theorem Opened.append {w:World} {s t:List Sh} {xs ys:List Value} (h:Opened w s xs) (k:Opened w t ys):Opened w (s++t) (xs++ys):=by
 obtain ⟨a,h1,h2,h3⟩:=h
 obtain ⟨b,k1,k2,k3⟩:=k
 refine ⟨a++b,h1.append k1,h2.append k2,fun y hy=>?_⟩
 rcases List.mem_append.1 hy with hy|hy
 ·exact h3 y hy
 ·exact k3 y hy
section
variable {H:Type} {enc:TypeId×Value→H} {P:Program} {w:World} {base:Nat} {spare:Nat→Bool} {held:Bool}
theorem fields_open {n:Nat} {cs:List Value} {g:TypeId→Option (List Sh)} (hg:∀ t sh fuel cs x,g t=some sh→DataW.trod enc P w base spare held fuel t cs=some x→Opened w sh cs) :
  ∀ {fs:List Field} {off:Nat} {sh:List Sh},fieldsOf P g fs off=some sh→(∀ f∈fs,∃ y,DataW.trod enc P w base spare held n f.type ((cs.drop f.offset).take (P.cellsOf f.type))=some y)→Opened w sh ((cs.drop off).take sh.length)
 | [],off,sh,h,_=>by
  simp only [fieldsOf,Option.some.injEq] at h
  subst h
  simpa using Opened.nil w
 | f::r,off,sh,h,hf=>by
  simp only [fieldsOf] at h
  cases h1:g f.type<;>simp only [h1,reduceCtorEq] at h
  rename_i s
  cases h2:fieldsOf P g r (off+P.cellsOf f.type)<;>simp only [h2,reduceCtorEq] at h
  rename_i l
  split at h
  case isFalse=>simp at h
  rename_i hc
  simp only [Option.some.injEq] at h
  subst h
  obtain ⟨y,hy⟩:=hf f (by simp)
  have a1:=hg _ _ _ _ _ h1 hy
  have a2:=fields_open hg h2 fun f' hf'=>hf f' (by simp [hf'])
  rw [List.length_append,List.take_add,List.drop_drop,hc.2]
  rw [hc.1] at a1
  exact a1.append a2
theorem array_open {n k c:Nat} {e:TypeId} {cs:List Value} {s:List Sh} (hg:∀ fuel cs x,DataW.trod enc P w base spare held fuel e cs=some x→Opened w s cs) (hc:s.length=c)
  (hf:∀ i,i<k→∃ y,DataW.trod enc P w base spare held n e ((cs.drop (i*c)).take c)=some y):∀ m i,i+m=k→Opened w (List.replicate m s).flatten ((cs.drop (i*c)).take (m*c))
 | 0,i,_=>by simpa using Opened.nil w
 | m+1,i,h=>by
  obtain ⟨y,hy⟩:=hf i (by omega)
  have a1:=hg _ _ _ hy
  have a2:=array_open hg hc hf m (i+1) (by omega)
  rw [List.replicate_succ,List.flatten_cons,Nat.add_mul,Nat.one_mul,Nat.add_comm (m*c) c,List.take_add,List.drop_drop,← Nat.succ_mul]
  exact a1.append a2
theorem shape_open:∀ (m:Nat) (t:TypeId) (sh:List Sh) (fuel:Nat) (cs:List Value) (x:DataW H×List MemPlace),shapeOf P m t=some sh→DataW.trod enc P w base spare held fuel t cs=some x→Opened w sh cs
 | 0,_,_,_,_,_,h,_=>by simp [shapeOf] at h
 | m+1,t,sh,fuel,cs,x,h,hd=>by
  simp only [shapeOf] at h
  cases hu:P.underlying t with
  | none=>simp [hu] at h
  | some u =>
   rw [hu] at h
   cases u<;>simp only [reduceCtorEq,Option.some.injEq] at h
   case bool =>
    subst h
    obtain ⟨b,rfl,_⟩:=DataW.trod_bool hu hd
    exact ⟨[.v (.bool b)],by simp [FitL,Fit],by simp [CRepL,CRep],by simp⟩
   case int k =>
    subst h
    obtain ⟨n,rfl,_,hw⟩:=DataW.trod_int hu hd
    exact ⟨[.v (.int k n)],by simp [FitL,Fit,hw],by simp [CRepL,CRep],by simp⟩
   case slice e =>
    cases hs:shapeOf P m e<;>simp only [hs,reduceCtorEq] at h
    rename_i s
    split at h
    case isFalse=>simp at h
    rename_i hc
    simp only [Option.some.injEq] at h
    subst h
    rcases DataW.trod_slice hu hd with ⟨rfl,_⟩|⟨a,len,cap,elems,rest,n,_,rfl,_,hb,hl,hm,hlen,hel,_,_⟩
    ·refine ⟨[.rd s.length []],by simp [FitL,Fit],?_,by simp⟩
     simp only [CRepL,CRep,and_true]
     exact ⟨none,0,rfl,by simp,fun _=>rfl,.inl trivial⟩
    ·have each:∀ i,i<len→∃ avs cs',FitL s avs∧CRepL w (allG w) avs cs'∧(∀ y∈cs',y.oneCell'=true)∧w.cells? base (a.add (i*P.cellsOf e)) (P.cellsOf e)=some cs':=fun i hi=>by
      have h1:=hel i hi
      have h2:elems[i]?=some (elems[i]'(by omega)):=List.getElem?_eq_getElem (by omega)
      rw [h2,Option.bind_eq_some_iff] at h1
      obtain ⟨cs',q1,q2⟩:=h1
      obtain ⟨avs,p1,p2,p3⟩:=shape_open m e s _ _ _ hs q2
      exact ⟨avs,cs',p1,p2,p3,q1⟩
     by_cases h0:len=0
     ·subst h0
      refine ⟨[.rd s.length []],by simp [FitL,Fit],?_,by simp⟩
      simp only [CRepL,CRep,and_true]
      exact ⟨some a,cap,rfl,by simp,by simp,.inl trivial⟩
     ·obtain ⟨avs0,cs0,f0,r0,_,c0⟩:=each 0 (by omega)
      have hcell0:=(World.cells?_some c0).2.2 0 (by have:=f0.length;have:=r0.length;have:=(World.cells?_some c0).2.1;omega)
      have hcs0:0<cs0.length:=by have:=f0.length;have:=r0.length;omega
      have hsp:a.spot=none:=by
       rw [List.getElem?_eq_getElem hcs0] at hcell0
       unfold World.cell? at hcell0
       split at hcell0
       ·split at hcell0
        ·simp at hcell0
        ·rename_i hns
         cases hq:a.spot with
         | none=>rfl
         | some z=>exfalso;apply hns;simp [Addr.add,hq]
       ·simp at hcell0
      have hat:∀ n,a.add n=⟨a.block,a.off+n,none⟩:=fun n=>by
       obtain ⟨b,o,sp⟩:=a
       simp only at hsp
       subst hsp
       unfold Addr.add
       split
       ·rename_i h;subst h;rfl
       ·rfl
      have hblk:a.block<w.heap.size:=by
       rw [List.getElem?_eq_getElem hcs0] at hcell0
       unfold World.cell? at hcell0
       split at hcell0
       ·rename_i hh
        have:=(Array.getElem?_eq_some_iff.1 hh).1
        rw [hat] at this
        simpa [Addr.add] using this
       ·simp at hcell0
      let f:Nat→List AV:=fun i=>if h:i<len then (each i h).choose else []
      have hf:∀ i (h:i<len),∃ cs',FitL s (f i)∧CRepL w (allG w) (f i) cs'∧(∀ y∈cs',y.oneCell'=true)∧w.cells? base (a.add (i*P.cellsOf e)) (P.cellsOf e)=some cs':=fun i h=>by
       simp only [f,dif_pos h]
       exact (each i h).choose_spec
      refine ⟨[.rd s.length ((List.range len).map f)],?_,?_,by simp⟩
      ·simp only [FitL,Fit,and_true]
       refine ⟨_,rfl,by simp;omega,fun e' he'=>?_⟩
       obtain ⟨i,hi,rfl⟩:=List.mem_map.1 he'
       obtain ⟨_,h1,_⟩:=hf i (List.mem_range.1 hi)
       exact h1
      ·simp only [CRepL,CRep,and_true]
       refine ⟨some a,cap,by simp,by simp;omega,by simp,.inr ⟨a.block,a.off,?_,hblk,CRows.of_get fun i e' he'=>?_⟩⟩
       ·obtain ⟨b,o,sp⟩:=a
        simp only at hsp
        rw [hsp]
       ·have hi:i<len:=by
         have:=(List.getElem?_eq_some_iff.1 he').1
         simpa using this
        have he2:e'=f i:=by
         rw [List.getElem?_map,List.getElem?_range hi] at he'
         simpa using he'.symm
        subst he2
        obtain ⟨cs',h1,h2,h3,h4⟩:=hf i hi
        have h5:=World.cells?_some h4
        refine ⟨h1.length,CCells.of_list h2 h3 fun j v hv=>?_⟩
        have hj:j<cs'.length:=(List.getElem?_eq_some_iff.1 hv).1
        have h6:=h5.2.2 j (by have:=h5.2.1;omega)
        rw [hv] at h6
        rw [← h6,hat]
        simp only [hc.1]
        unfold Addr.add
        split
        ·rename_i hz;rw [hz];rfl
        ·rfl
   case struct fs =>
    cases hs:fieldsOf P (shapeOf P m) fs.toList 0<;>simp only [hs,reduceCtorEq] at h
    rename_i s
    split at h
    case isFalse=>simp at h
    rename_i hc
    simp only [Option.some.injEq] at h
    subst h
    obtain ⟨xs,n,rfl,_,hl,hxl,hx⟩:=DataW.trod_struct hu hd
    have:=fields_open (n:=n) (cs:=cs) (fun t sh fuel cs x h1 h2=>shape_open m t sh fuel cs x h1 h2) hs fun f hf=>by
     obtain ⟨i,hi,rfl⟩:=List.getElem_of_mem hf
     have hi':i<fs.size:=by simpa using hi
     have:=hx i fs[i] (Array.getElem?_eq_getElem hi')
     rw [List.getElem?_eq_getElem (by omega)] at this
     exact ⟨_,by simpa using this⟩
    rw [List.drop_zero,List.take_of_length_le (by omega)] at this
    exact this
   case array k e =>
    cases hs:shapeOf P m e<;>simp only [hs,reduceCtorEq] at h
    rename_i s
    split at h
    case isFalse=>simp at h
    rename_i hc
    simp only [Option.some.injEq] at h
    subst h
    obtain ⟨xs,n,rfl,_,hl,hxl,hx⟩:=DataW.trod_array hu hd
    have:=array_open (n:=n) (k:=k) (c:=P.cellsOf e) (cs:=cs) (fun fuel cs x h=>shape_open m e s fuel cs x hs h) hc.1 (fun i hi=>by
     have:=hx i hi
     rw [List.getElem?_eq_getElem (by omega)] at this
     exact ⟨_,this⟩) k 0 (by omega)
    rw [Nat.zero_mul,List.drop_zero,List.take_of_length_le (by rw [hl,← hc.2,hc.1];exact Nat.le_refl _)] at this
    exact this
end
end Go.AM
namespace Go.AM
open Go
theorem specF_flat {ι:Type} {A:ι→List AV} {R:ι→AV} (h:∀ i,(R i).flat) {avs:List AV} {r:AV} (hr:specF A R avs=some r):r.flat:=by
 obtain ⟨i,_,rfl⟩:=specF_some hr
 exact h i
theorem callP_spec {ι:Type} {A:ι→List AV} {R:ι→AV} {avs:List AV} {M:Nat→AO} {n:Nat} (i:ι) (hp:peekVals M avs=some (A i)) (inj:∀ j,A j=A i→R j=R i) (ho:(openRet n (R i)).2.2≤n+16) :
  callP (specF A R) avs M n=some ((openRet n (R i)).1,(openRet n (R i)).2.1):=by
 unfold callP
 rw [hp]
 simp only [specF_eq i inj,if_pos ho]
theorem xok_spec {P : Program} {X : AX} (h : XOK P X) {f : FuncId} {fn : Func} {ι : Type} {A : ι → List AV} {R : ι → AV} (hs : PSound P f (specF A R)) (hfl : ∀ i, (R i).flat) (hf : P.funcs[f]? = some fn) (hn : (fn.body.isSome && !(fn.name == "runtime.NumGoroutine")) = true) :
  XOK P (X.add f (callP (specF A R))) :=
 xok_add h (.inl ⟨hs.callP fun _ _ h=>specF_flat hfl h,body_ok fn hf hn⟩) fun _ _ _ _ h=>callP_keys h
end Go.AM
namespace Go.AM
open Go
theorem getM_hit {k:Nat} {o:AO} {r:List (Nat×AO)}:getM ((k,o)::r) k=o:=by simp [getM]
theorem getM_miss {k b:Nat} {o:AO} {r:List (Nat×AO)} (h:k≠b):getM ((k,o)::r) b=getM r b:=by simp [getM,h]
theorem getM_none {b:Nat}:getM [] b=.dead:=rfl
def vr (n b m:Nat):Nat:=if b<n then m else if m=0 then 0 else 1
mutual
def AV.iso (n:Nat) (σ:Nat→Nat):AV→AV
 | .bp b o=>.bp (σ b) o
 | .sl b m s o k=>.sl (σ b) (vr n b m) s o k
 | .ep b m s i j=>.ep (σ b) (vr n b m) s i j
 | .bs b o s k=>.bs (σ b) o s k
 | .agg cs=>.agg (isoL n σ cs)
 | .tup cs=>.tup (isoL n σ cs)
 | .fn f cs=>.fn f (isoL n σ cs)
 | .ifc f cs=>.ifc f (isoL n σ cs)
 | .any=>.any
 | .v x=>.v x
 | .rd s xs=>.rd s xs
 | .ow s xs=>.ow s xs
 | .rp cs=>.rp cs
 | .rf cs=>.rf cs
 | .mp b m=>.mp (σ b) (vr n b m)
 | .rm k es=>.rm k es
 | .om k es=>.om k es
def isoL (n:Nat) (σ:Nat→Nat):List AV→List AV
 | []=>[]
 | a::r=>a.iso n σ::isoL n σ r
end
mutual
def AV.cur (M:Nat→AO):AV→Prop
 | .sl b m _ _ _|.ep b m _ _ _=>∃ s f xs,M b=.vec m s f xs
 | .mp b m=>∃ k es,M b=.map m k es
 | .agg cs|.tup cs|.fn _ cs|.ifc _ cs=>curL M cs
 | _=>True
def curL (M:Nat→AO):List AV→Prop
 | []=>True
 | a::r=>a.cur M∧curL M r
end
def AO.iso (n:Nat) (σ:Nat→Nat) (b:Nat):AO→AO
 | .dead=>.dead
 | .box cs=>.box (isoL n σ cs)
 | .vec m s f xs=>.vec (vr n b m) s f xs
 | .map m k es=>.map (vr n b m) k es
def AO.cur (M:Nat→AO):AO→Prop
 | .box cs=>curL M cs
 | _=>True
def Env.iso (E:Env) (n:Nat) (τ:Nat→Nat):Env:={ G:=E.G,alive:=fun b=>E.alive (τ b),ver:=fun b=>vr n (τ b) (E.ver (τ b)),loc:=fun b=>E.loc (τ b) }
section
variable {E:Env} {w:World} {n:Nat} {σ τ:Nat→Nat} {M:Nat→AO}
mutual
theorem Rep.iso (hst:∀ b,τ (σ b)=b) (hM:MemOK E w M):∀ {a:AV} {x:Value},a.cur M→Rep E w a x→Rep (E.iso n τ) w (a.iso n σ) x
 | .bp b o,x,_,h=>by
  simp only [Rep,AV.iso,Env.iso,hst] at h ⊢
  obtain ⟨h1,h2,h3⟩:=h
  exact ⟨h1,by rw [h2];simp [vr],h3⟩
 | .sl b m s o k,x,hc,h=>by
  simp only [Rep,AV.iso,Env.iso,hst,AV.cur] at h hc ⊢
  obtain ⟨h1,h2,h3,p,c,h4,h5,h6,h7⟩:=h
  obtain ⟨s',f',xs',hb⟩:=hc
  have ho:=hM b h1
  rw [hb] at ho
  simp only [ObjRep] at ho
  obtain ⟨hv,_⟩:=ho
  refine ⟨h1,?_,?_,p,c,h4,h5,h6,fun _=>h7 hv.symm⟩
  ·unfold vr;split
   ·exact h2
   ·rw [if_neg (by omega)];exact Nat.le_refl _
  ·rw [hv];exact Nat.le_refl _
 | .ep b m s i j,x,hc,h=>by
  simp only [Rep,AV.iso,Env.iso,hst,AV.cur] at h hc ⊢
  obtain ⟨h1,h2,h3,a,h4,h5⟩:=h
  obtain ⟨s',f',xs',hb⟩:=hc
  have ho:=hM b h1
  rw [hb] at ho
  simp only [ObjRep] at ho
  obtain ⟨hv,_⟩:=ho
  refine ⟨h1,?_,?_,a,h4,fun _=>h5 hv.symm⟩
  ·unfold vr;split
   ·exact h2
   ·rw [if_neg (by omega)];exact Nat.le_refl _
  ·rw [hv];exact Nat.le_refl _
 | .bs b o s k,x,_,h=>by
  simp only [Rep,AV.iso,Env.iso,hst] at h ⊢
  obtain ⟨h1,h2,h3⟩:=h
  exact ⟨h1,by rw [h2];simp [vr],h3⟩
 | .mp b m,x,hc,h=>by
  simp only [Rep,AV.iso,Env.iso,hst,AV.cur] at h hc ⊢
  obtain ⟨h1,h2,h3,blk,h4,h5⟩:=h
  obtain ⟨k',es',hb⟩:=hc
  have ho:=hM b h1
  rw [hb] at ho
  simp only [ObjRep] at ho
  obtain ⟨hv,_⟩:=ho
  refine ⟨h1,?_,?_,blk,h4,fun _=>h5 hv.symm⟩
  ·unfold vr;split
   ·exact h2
   ·rw [if_neg (by omega)];exact Nat.le_refl _
  ·rw [hv];exact Nat.le_refl _
 | .rm ..,_,_,h=>by simp only [Rep,AV.iso] at h ⊢;exact h
 | .om ..,_,_,h=>by simp only [Rep,AV.iso] at h ⊢;exact h
 | .agg cs,x,hc,h=>by
  simp only [Rep,AV.iso,AV.cur] at h hc ⊢
  obtain ⟨vs,h1,h2,h3⟩:=h
  exact ⟨vs,h1,h2,RepL.iso hst hM hc h3⟩
 | .tup cs,x,hc,h=>by
  simp only [Rep,AV.iso,AV.cur] at h hc ⊢
  obtain ⟨vs,h1,h3⟩:=h
  exact ⟨vs,h1,RepL.iso hst hM hc h3⟩
 | .fn f cs,x,hc,h=>by
  simp only [Rep,AV.iso,AV.cur] at h hc ⊢
  obtain ⟨vs,h1,h3⟩:=h
  exact ⟨vs,h1,RepL.iso hst hM hc h3⟩
 | .ifc f cs,x,hc,h=>by
  simp only [Rep,AV.iso,AV.cur] at h hc ⊢
  obtain ⟨vs,h1,h3⟩:=h
  exact ⟨vs,h1,RepL.iso hst hM hc h3⟩
 | .any,_,_,h=>by simp only [Rep,AV.iso] at h ⊢;exact h
 | .v _,_,_,h=>by simp only [Rep,AV.iso] at h ⊢;exact h
 | .rd ..,_,_,h=>by simp only [Rep,AV.iso] at h ⊢;exact h
 | .ow ..,_,_,h=>by simp only [Rep,AV.iso] at h ⊢;exact h
 | .rp ..,_,_,h=>by simp only [Rep,AV.iso] at h ⊢;exact h
 | .rf ..,_,_,h=>by simp only [Rep,AV.iso] at h ⊢;exact h
theorem RepL.iso (hst:∀ b,τ (σ b)=b) (hM:MemOK E w M):∀ {as:List AV} {xs:List Value},curL M as→RepL E w as xs→RepL (E.iso n τ) w (isoL n σ as) xs
 | [],[],_,_=>by simp [RepL,isoL]
 | a::as,x::xs,hc,h=>by
  simp only [RepL,isoL,curL] at h hc ⊢
  exact ⟨Rep.iso hst hM hc.1 h.1,RepL.iso hst hM hc.2 h.2⟩
 | [],_::_,_,h=>by simp [RepL] at h
 | _::_,[],_,h=>by simp [RepL] at h
end
theorem ObjRep.iso (hst:∀ b,τ (σ b)=b) (hM:MemOK E w M) {b:Nat}:∀ {o:AO},o.cur M→ObjRep E w b o→ObjRep (E.iso n τ) w (σ b) (o.iso n σ b)
 | .dead,_,_=>trivial
 | .box cs,hc,h=>by
  simp only [ObjRep,AO.iso,Env.iso,hst,AO.cur] at h hc ⊢
  obtain ⟨h1,blk,t,vs,h2,h3,h4,h5⟩:=h
  exact ⟨by rw [h1];simp [vr],blk,t,vs,h2,h3,h4,RepL.iso hst hM hc h5⟩
 | .vec m s f xs,_,h=>by
  simp only [ObjRep,AO.iso,Env.iso,hst] at h ⊢
  obtain ⟨h1,h2,h3⟩:=h
  refine ⟨by rw [h1],?_,h3⟩
  unfold vr;split
  ·exact h2
  ·rw [if_neg (by omega)];exact Nat.le_refl _
 | .map m k es,_,h=>by
  simp only [ObjRep,AO.iso,Env.iso,hst] at h ⊢
  obtain ⟨h1,h2,h3⟩:=h
  refine ⟨by rw [h1],?_,h3⟩
  unfold vr;split
  ·exact h2
  ·rw [if_neg (by omega)];exact Nat.le_refl _
end
def St.iso (n:Nat) (σ:Nat→Nat) (st:St):St:=⟨st.s.map fun p=>(p.1,p.2.iso n σ),st.m.map fun p=>(σ p.1,p.2.iso n σ p.1),st.nx⟩
theorem getS_iso {n:Nat} {σ:Nat→Nat} {t:Nat}:∀ {l:List (Nat×AV)},getS (l.map fun p=>(p.1,p.2.iso n σ)) t=(getS l t).iso n σ
 | []=>by simp [getS,AV.iso]
 | p::r=>by
  simp only [List.map_cons,getS]
  split
  ·rfl
  ·exact getS_iso
theorem getM_iso {n:Nat} {σ τ:Nat→Nat} (hst:∀ b,τ (σ b)=b) (hts:∀ b,σ (τ b)=b) {t:Nat}:∀ {l:List (Nat×AO)},getM (l.map fun p=>(σ p.1,p.2.iso n σ p.1)) t=(getM l (τ t)).iso n σ (τ t)
 | []=>by simp [getM,AO.iso]
 | p::r=>by
  simp only [List.map_cons,getM]
  by_cases e:σ p.1=t
  ·have:p.1=τ t:=by rw [← e,hst]
   rw [if_pos e,if_pos this,this]
  ·have:¬ p.1=τ t:=fun h=>e (by rw [h,hts])
   rw [if_neg e,if_neg this]
   exact getM_iso hst hts
theorem le_iso {n:Nat} {st:St} {σ τ:Nat→Nat} (hst:∀ b,τ (σ b)=b) (hts:∀ b,σ (τ b)=b) (hfix:∀ b,b<n→σ b=b) (hnx:∀ b,b<st.nx→σ b<st.nx)
  (hs:∀ p∈st.s,p.2.cur (getM st.m)) (hm:∀ p∈st.m,p.2.cur (getM st.m)):Le n st (st.iso n σ):=fun N w0 bl a w hb ⟨E,h,h1,h2⟩=>by
 subst hb
 have hcs:∀ t,(getS st.s t).cur (getM st.m):=fun t=>by
  rcases getS_mem (s:=st.s) (t:=t) with e|⟨p,hp,_,e⟩
  ·rw [e];simp [AV.cur]
  ·rw [← e];exact hs p hp
 have hcm:∀ t,(getM st.m t).cur (getM st.m):=fun t=>by
  rcases getM_mem (m:=st.m) (t:=t) with e|⟨p,hp,_,e⟩
  ·rw [e];trivial
  ·rw [← e];exact hm p hp
 have hfix':∀ b,b<bl.n→τ b=b:=fun b hb=>by have:=hfix b hb;rw [← this,hst,this]
 refine ⟨E.iso bl.n τ,⟨h.defers,h.size,⟨h.inv.frame,⟨h.inv.gin.G,fun b hb=>?_,fun b hb=>?_⟩,h.inv.low,h.inv.gout,h.inv.good,fun b blk base sz hb hl=>h.inv.locs (τ b) blk base sz hb hl,fun b b' blk base sz base' sz' hb hb' hl hl'=>?_⟩,fun b hb=>?_,fun t=>?_⟩,fun k hk=>?_,fun k hk=>?_⟩
 ·have hlow:=h.inv.low b hb
  show E.alive (τ b)
  rw [hfix' b hlow];exact h.inv.gin.alive b hb
 ·have hlow:=h.inv.low b hb
  have:=h.inv.gin.same b hb
  simp only [Env.iso,hfix' b hlow,vr,if_pos hlow]
  exact this
 ·have:=h.inv.apart (τ b) (τ b') blk base sz base' sz' hb hb' hl hl'
  rw [← hts b,this,hts]
 ·have:=ObjRep.iso (n:=bl.n) hst h.mem (hcm (τ b)) (h.mem (τ b) hb)
  simp only [St.iso]
  rw [getM_iso hst hts]
  rwa [hts] at this
 ·simp only [St.iso]
  rw [getS_iso]
  exact Rep.iso hst h.mem (hcs t) (h.slots t)
 ·have h3:=h1 (τ k) hk
  have:=hnx (τ k) h3
  rwa [hts] at this
 ·simp only [St.iso] at hk
  rw [getM_iso hst hts] at hk
  have h3:=h2 (τ k) (fun e=>hk (by rw [e];rfl))
  have:=hnx (τ k) h3
  rwa [hts] at this
def swp (l:List (Nat×Nat)) (b:Nat):Nat:=match l with
 | []=>b
 | (i,j)::r=>if b=i then j else if b=j then i else swp r b
def swpL:List (Nat×Nat)→List Nat
 | []=>[]
 | (i,j)::r=>i::j::swpL r
theorem swp_or:∀ (l:List (Nat×Nat)) (b:Nat),swp l b=b∨swp l b∈swpL l
 | [],b=>.inl rfl
 | (i,j)::r,b=>by
  simp only [swp,swpL]
  split
  ·right;simp
  ·split
   ·right;simp
   ·rcases swp_or r b with h|h
    ·exact .inl h
    ·right;simp [h]
theorem swp_out:∀ {l:List (Nat×Nat)} {b:Nat},b ∉ swpL l→swp l b=b
 | [],b,_=>rfl
 | (i,j)::r,b,h=>by
  simp only [swpL,List.mem_cons,not_or] at h
  simp only [swp,if_neg h.1,if_neg h.2.1]
  exact swp_out h.2.2
theorem swp_inv:∀ {l:List (Nat×Nat)},(swpL l).Nodup→∀ b,swp l (swp l b)=b
 | [],_,_=>rfl
 | (i,j)::r,h,b=>by
  simp only [swpL,List.nodup_cons,List.mem_cons,not_or] at h
  obtain ⟨⟨h1,h2⟩,h3,h4⟩:=h
  have ih:=swp_inv h4
  by_cases e1:b=i
  ·subst e1
   simp only [swp,if_true]
   rw [if_neg (fun e=>h1 e.symm)]
  ·by_cases e2:b=j
   ·subst e2
    simp only [swp,if_neg e1,if_true]
   ·have:swp ((i,j)::r) b=swp r b:=by simp only [swp,if_neg e1,if_neg e2]
    rw [this]
    rcases swp_or r b with h|h
    ·rw [h];simp only [swp,if_neg e1,if_neg e2];exact h
    ·simp only [swp]
     have n1:¬ swp r b=i:=fun e=>h2 (by rw [← e];exact h)
     have n2:¬ swp r b=j:=fun e=>h3 (by rw [← e];exact h)
     rw [if_neg n1,if_neg n2]
     exact ih b
theorem le_swp {n:Nat} {st:St} (l:List (Nat×Nat)) (hl:(swpL l).Nodup) (hb:∀ b∈swpL l,n≤b∧b<st.nx) (hs:∀ p∈st.s,p.2.cur (getM st.m)) (hm:∀ p∈st.m,p.2.cur (getM st.m)):Le n st (st.iso n (swp l)) :=
 le_iso (swp_inv hl) (swp_inv hl) (fun b hb'=>swp_out fun h=>by have:=(hb b h).1;omega) (fun b hb'=>by
  rcases swp_or l b with h|h
  ·rw [h];exact hb'
  ·exact (hb _ h).2) hs hm
def keepM (ks:List Nat) (m:List (Nat×AO)):List (Nat×AO):=ks.map fun k=>(k,getM m k)
theorem getM_keepM {ks:List Nat} {m:List (Nat×AO)} {t:Nat}:getM (keepM ks m) t=if t∈ks then getM m t else .dead:=by
 induction ks with
 | nil=>rfl
 | cons k r ih =>
  simp only [keepM,List.map_cons,getM,List.mem_cons]
  by_cases e:k=t
  ·subst e;simp
  ·rw [if_neg e]
   simp only [keepM] at ih
   rw [ih]
   simp [Ne.symm e]
theorem le_keep2 (n:Nat) (ks km:List Nat) (st:St):Le n st ⟨keepS ks st.s,keepM km st.m,st.nx⟩:=fun N w0 bl a w _ ⟨E,h,h1,h2⟩=>by
 refine ⟨E,⟨h.defers,h.size,h.inv,fun b hb=>?_,fun t=>?_⟩,h1,fun k hk=>h2 k fun e=>hk ?_⟩
 ·rw [getM_keepM]
  split
  ·exact h.mem b hb
  ·trivial
 ·rw [getS_keepS]
  split
  ·exact h.slots t
  ·simp [Rep,CRep]
 ·rw [getM_keepM,e];simp
theorem le_turn {n:Nat} {s s':List (Nat×AV)} {m m':List (Nat×AO)} {nx nx':Nat} (l:List (Nat×Nat)) (ks km:List Nat) {s1:List (Nat×AV)} {m1:List (Nat×AO)}
  (e1:keepS ks s=s1) (e2:keepM km m=m1) (hl:(swpL l).Nodup) (hb:∀ b∈swpL l,n≤b∧b<nx) (hs:∀ p∈s1,p.2.cur (getM m1)) (hm:∀ p∈m1,p.2.cur (getM m1))
  (h:Le n ⟨s1.map fun p=>(p.1,p.2.iso n (swp l)),m1.map fun p=>(swp l p.1,p.2.iso n (swp l) p.1),nx⟩ ⟨s',m',nx'⟩):Le n ⟨s,m,nx⟩ ⟨s',m',nx'⟩:=by
 subst e1 e2
 exact ((le_keep2 n ks km ⟨s,m,nx⟩).trans (le_swp l hl hb hs hm)).trans h
theorem RepL.set' {E:Env} {w:World}:∀ {as:List AV} {xs:List Value} {i:Nat} {a:AV} {x:Value},RepL E w as xs→xs[i]?=some x→Rep E w a x→RepL E w (as.set i a) xs
 | [],[],i,a,x,_,h,_=>by simp at h
 | b::as,y::xs,0,a,x,h,hx,hr=>by
  simp only [RepL,List.set_cons_zero] at h ⊢
  simp only [List.getElem?_cons_zero,Option.some.injEq] at hx
  subst hx
  exact ⟨hr,h.2⟩
 | b::as,y::xs,i+1,a,x,h,hx,hr=>by
  simp only [RepL,List.set_cons_succ] at h ⊢
  exact ⟨h.1,RepL.set' h.2 (by simpa using hx) hr⟩
 | [],_::_,_,_,_,h,_,_=>by simp [RepL] at h
 | _::_,[],_,_,_,h,_,_=>by simp [RepL] at h
theorem le_nilcell {n:Nat} {s:List (Nat×AV)} {m:List (Nat×AO)} {nx b i sz:Nat} {cs:List AV} (hb:getM m b=.box cs) (hi:cs[i]?=some (.v (.slice none 0 0))) :
  Le n ⟨s,m,nx⟩ ⟨s,(b,.box (cs.set i (.sl nx 1 sz 0 0)))::(nx,.vec 1 sz false [])::m,nx+1⟩:=fun N w0 bl a w _ ⟨E,hs,h1,h2⟩=>by
 have hna:¬ E.alive nx:=fun hh=>by have:=h1 nx hh;simp at this
 have hbn:b<nx:=h2 b (by rw [hb];simp)
 have st:=StepTo.none hs.inv nx sz hna false
 have hmem:=st.mem hs.inv hs.mem
 refine ⟨_,⟨hs.defers,hs.size,st.inv,fun k hk=>?_,fun k=>st.rep hs.inv (hs.slots k)⟩,fun k hk=>?_,fun k hk=>?_⟩
 ·have:=hmem k hk
  simp only [updM] at this
  simp only [getM]
  by_cases e:b=k
  ·subst e
   rw [if_pos rfl]
   rw [if_neg (by omega),hb] at this
   simp only [ObjRep] at this ⊢
   obtain ⟨g1,blk,t,vs,g2,g3,g4,g5⟩:=this
   obtain ⟨x,q1,q2⟩:=g5.get hi
   simp only [Rep,CRep] at q2
   refine ⟨g1,blk,t,vs,g2,g3,g4,g5.set' q1 ?_⟩
   rw [q2]
   simp only [Rep]
   exact ⟨.inr rfl,Nat.le_refl _,by simp [Env.upd],none,0,rfl,Nat.le_refl _,fun _=>rfl,fun _=>by simp [Env.upd,SlAt]⟩
  ·rw [if_neg e]
   exact this
 ·rcases hk with hk|hk
  ·have:=h1 k hk;simp at this ⊢;omega
  ·simp;omega
 ·simp only [getM] at hk
  split at hk
  ·simp;omega
  ·split at hk
   ·simp;omega
   ·have:=h2 k hk;simp at this ⊢;omega
def AWR (c:Cx) (x:Code) (Q:Exit→St→Prop):Nat→St→Prop
 | 0,_=>False
 | n+1,st=>AW c x st (thenQ (AWR c x Q n) Q)
theorem aw_round {c:Cx} {x:Code} {Q:Exit→St→Prop} {n:Nat} {st:St} (h:AW c x st (thenQ (AWR c x Q n) Q)):AWR c x Q (n+1) st:=h
open Classical in
theorem aw_rounds {c:Cx} {x:Code} {Q:Exit→St→Prop} (n:Nat) {st:St} (h:AWR c x Q n st):AW c (.loop x) st Q :=
 aw_loop (ι:={p:Nat×St // AWR c x Q p.1 p.2}) (fun i=>i.1.2) (fun i=>i.1.1) ⟨(n,st),h⟩ (Le.refl _ _) fun ⟨⟨m,s⟩,hm⟩=>by
  cases m with
  | zero=>exact hm.elim
  | succ m =>
   exact aw_mono hm fun e s' hq=>by
    cases e with
    | normal=>exact ⟨⟨(m,s'),hq⟩,Le.refl _ _,by simp⟩
    | _=>exact hq
end Go.AM
namespace Go.AM
open Go
def nilA (s:Nat):AV→AV
 | .v (.slice none 0 0)=>.rd s []
 | a=>a
def nilV (s:Nat):AV→AV
 | .agg cs=>.agg (cs.map (nilA s))
 | a=>nilA s a
theorem nilA_ok {s:Nat} {w:World} {G:Nat→Prop} {a:AV} {x:Value} (h:CRep w G a x):CRep w G (nilA s a) x:=by
 unfold nilA
 split
 ·simp only [CRep] at h ⊢
  subst h
  exact ⟨none,0,rfl,by simp,fun _=>rfl,.inl trivial⟩
 ·exact h
theorem nilL_ok {s:Nat} {w:World} {G:Nat→Prop}:∀ {as:List AV} {xs:List Value},CRepL w G as xs→CRepL w G (as.map (nilA s)) xs
 | [],[],h=>h
 | a::as,x::xs,h=>by simp only [CRepL,List.map_cons] at h ⊢;exact ⟨nilA_ok h.1,nilL_ok h.2⟩
 | [],_::_,h=>by simp [CRepL] at h
 | _::_,[],h=>by simp [CRepL] at h
theorem nilV_ok {s:Nat} {w:World} {G:Nat→Prop} {a:AV} {x:Value} (h:CRep w G a x):CRep w G (nilV s a) x:=by
 unfold nilV
 split
 ·simp only [CRep] at h ⊢
  obtain ⟨vs,h1,h2,h3⟩:=h
  exact ⟨vs,h1,h2,nilL_ok h3⟩
 ·exact nilA_ok h
theorem nilVs_ok {s:Nat} {w:World} {G:Nat→Prop}:∀ {as:List AV} {xs:List Value},CRepL w G as xs→CRepL w G (as.map (nilV s)) xs
 | [],[],h=>h
 | a::as,x::xs,h=>by simp only [CRepL,List.map_cons] at h ⊢;exact ⟨nilV_ok h.1,nilVs_ok h.2⟩
 | [],_::_,h=>by simp [CRepL] at h
 | _::_,[],h=>by simp [CRepL] at h
theorem PSound.nil {P:Program} {f:FuncId} {F:List AV→Option AV} (h:PSound P f F) (s:Nat):PSound P f fun avs=>F (avs.map (nilV s)) :=
 fun w G args avs r hr hG ha=>h w G args _ r hr hG (nilVs_ok ha)
theorem xok_specn {P : Program} {X : AX} (h : XOK P X) {f : FuncId} {fn : Func} {ι : Type} {A : ι → List AV} {R : ι → AV} (s : Nat) (hs : PSound P f (specF A R)) (hfl : ∀ i, (R i).flat) (hf : P.funcs[f]? = some fn) (hn : (fn.body.isSome && !(fn.name == "runtime.NumGoroutine")) = true) :
  XOK P (X.add f (callP fun avs=>specF A R (avs.map (nilV s)))) :=
 xok_add h (.inl ⟨(hs.nil s).callP fun _ _ h=>specF_flat hfl h,body_ok fn hf hn⟩) fun _ _ _ _ h=>callP_keys h
attribute [simp] AV.iso isoL AV.cur curL AO.iso AO.cur swpL keepM
end Go.AM
namespace Go.AM
open Go
def RLe:AV→AV→Prop
 | .tup as,.tup bs=>SLeVs as bs
 | .tup _,_=>False
 | _,.tup _=>False
 | a,b=>SLeV a b
theorem RLe.ret {w:World} {G:Nat→Prop} {a b:AV} {x:Value} {bl:List Nat} (h:RLe a b) (ho:ORet w G a x bl) (hn:bl.Nodup) :
  ∃ bl',bl'.Sublist bl∧∀ G',(∀ k,G k→G' k)→(∀ k∈bl,k ∉ bl'→G' k)→ORet w G' b x bl':=by
 by_cases ha:∃ as,a=.tup as
 ·obtain ⟨as,rfl⟩:=ha
  cases b<;>simp only [RLe] at h
  rename_i bs
  simp only [ORet] at ho
  obtain ⟨vs,rfl,ho⟩:=ho
  obtain ⟨c,k1,k2⟩:=h.vals ho hn
  exact ⟨c,k1,fun G' p q=>by simp only [ORet];exact ⟨vs,rfl,k2 G' p q⟩⟩
 ·have h1:SLeV a b:=by cases a<;>first|exact absurd ⟨_,rfl⟩ ha|(cases b<;>first|exact h|exact h.elim)
  have h2:OVal w G a x bl:=by cases a<;>first|exact absurd ⟨_,rfl⟩ ha|exact ho
  obtain ⟨c,k1,k2⟩:=h1.val h2 hn
  refine ⟨c,k1,fun G' p q=>?_⟩
  have:=k2 G' p q
  cases b<;>first|exact this|(cases a<;>first|exact h.elim|exact absurd ⟨_,rfl⟩ ha)
theorem le_nilslot {n:Nat} {s:List (Nat×AV)} {m:List (Nat×AO)} {nx t sz:Nat} (hb:getS s t=.v (.slice none 0 0)) :
  Le n ⟨s,m,nx⟩ ⟨(t,.sl nx 1 sz 0 0)::s,(nx,.vec 1 sz false [])::m,nx+1⟩:=fun N w0 bl a w _ ⟨E,hs,h1,h2⟩=>by
 have hna:¬ E.alive nx:=fun hh=>by have:=h1 nx hh;simp at this
 have st:=StepTo.none hs.inv nx sz hna false
 have hmem:=st.mem hs.inv hs.mem
 refine ⟨_,⟨hs.defers,hs.size,st.inv,fun k hk=>?_,fun k=>?_⟩,fun k hk=>?_,fun k hk=>?_⟩
 ·have:=hmem k hk
  simpa only [updM,getM] using this
 ·simp only [getS]
  by_cases e:t=k
  ·subst e
   rw [if_pos rfl]
   have hr:=hs.slots t
   rw [hb] at hr
   simp only [Rep,CRep] at hr
   rw [hr]
   simp only [Rep]
   exact ⟨.inr rfl,Nat.le_refl _,by simp [Env.upd],none,0,rfl,Nat.le_refl _,fun _=>rfl,fun _=>by simp [Env.upd,SlAt]⟩
  ·rw [if_neg e]
   exact st.rep hs.inv (hs.slots k)
 ·rcases hk with hk|hk
  ·have:=h1 k hk;simp at this ⊢;omega
  ·simp;omega
 ·simp only [getM] at hk
  split at hk
  ·simp;omega
  ·have:=h2 k hk;simp at this ⊢;omega
end Go.AM
namespace Go.AM
open Go Go.ChangeShapes Go.WideShapes Go.ChangeAt Go.RowKit
theorem okWide_agg {P:Program} {w:World} {r:Reach} {base:Nat} {t:TypeId} {v:Value} (h:Value.okWide P w r base t v) :
    (∃ cs,v=.agg cs∧((∃ fs,P.underlying t=some (.struct fs))∨∃ n e,P.underlying t=some (.array n e))) ∨
    (v.cells=#[v]∧(∀ fs,P.underlying t≠some (.struct fs))∧∀ n e,P.underlying t≠some (.array n e)):=by
  unfold Value.okWide at h
  split at h
  · rename_i fs hu
    obtain ⟨cs,rfl,_⟩:=h
    exact .inl ⟨cs,rfl,.inl ⟨fs,hu⟩⟩
  · rename_i n e hu
    obtain ⟨cs,rfl,_⟩:=h
    exact .inl ⟨cs,rfl,.inr ⟨n,e,hu⟩⟩
  · rename_i h1 h2
    right
    refine ⟨?_,fun fs hu=>h1 fs hu,fun n e hu=>h2 n e hu⟩
    cases v with
    | agg cs =>
      exfalso
      unfold Cell.okWide at h
      split at h<;>try (rename_i heq;simp at heq;done)
      all_goals first
        | (rename_i heq;cases heq;done)
        | (unfold Cell.ok at h
           split at h<;>first|exact h|(rename_i heq;cases heq))
    | _=>rfl
def FitArg (P:Program) (t:TypeId) (a:AV):Prop:=∃ sh,shapeOf P 10 t=some sh ∧
  ((((∃ fs,P.underlying t=some (.struct fs))∨∃ n e,P.underlying t=some (.array n e))∧∃ cs,a=.agg cs∧FitL sh cs) ∨
   (((∀ fs,P.underlying t≠some (.struct fs))∧∀ n e,P.underlying t≠some (.array n e))∧FitL sh [a]))
def FitArgs (P:Program):List TypeId→List AV→Prop
 | [],[]=>True
 | t::ts,a::as=>FitArg P t a∧FitArgs P ts as
 | _,_=>False
section
variable {H:Type} {enc:TypeId×Value→H} {P:Program} {w:World}
theorem args_open {base:Nat} {sp:Nat→Bool} {b0:Nat} {r:Reach}:∀ {ts:List TypeId} {vs:List Value} {ds:List (DataW H)} {ps:List MemPlace},(∀ t∈ts,(shapeOf P 10 t).isSome=true) →
  (∀ (j:Nat) (t:TypeId) (v:Value),ts[j]?=some t→vs[j]?=some v→Value.okWide P w r b0 t v)→DataW.TrodAll enc P w base sp true ts vs ds ps→∃ avs,FitArgs P ts avs∧CRepL w (allG w) avs vs∧ds.length=ts.length
 | [],[],[],_,_,_,_=>⟨[],by simp [FitArgs],by simp [CRepL],rfl⟩
 | t::ts,v::vs,d::ds,ps,hs,ho,h=>by
  obtain ⟨p,q,h1,h2,_⟩:=h
  obtain ⟨avs,k1,k2,k3⟩:=args_open (fun t ht=>hs t (by simp [ht])) (fun j t v hj hv=>ho (j+1) t v (by simpa using hj) (by simpa using hv)) h2
  have hsh:=hs t (by simp)
  obtain ⟨sh,hsh⟩:=Option.isSome_iff_exists.1 hsh
  obtain ⟨fuel,hf⟩:=h1
  obtain ⟨as,q1,q2,q3⟩:=shape_open 10 t sh fuel _ _ hsh hf
  rcases okWide_agg (ho 0 t v rfl rfl) with ⟨cs,rfl,hu⟩|⟨hc,hu⟩
  ·simp only [Value.cells] at q2 q3
   refine ⟨.agg as::avs,?_,?_,by simp [k3]⟩
   ·simp only [FitArgs];exact ⟨⟨sh,hsh,.inl ⟨hu,as,rfl,q1⟩⟩,k1⟩
   ·simp only [CRepL,CRep];exact ⟨⟨cs.toList,by simp,q3,q2⟩,k2⟩
  ·rw [hc] at q2
   simp only [List.size_toArray,Array.toList] at q2
   match as,q1,q2 with
   | [a],q1,q2 =>
    simp only [CRepL] at q2
    refine ⟨a::avs,?_,?_,by simp [k3]⟩
    ·simp only [FitArgs];exact ⟨⟨sh,hsh,.inr ⟨hu,q1⟩⟩,k1⟩
    ·simp only [CRepL];exact ⟨q2.1,k2⟩
   | [],_,q2=>simp [CRepL] at q2
   | _::_::_,_,q2=>simp [CRepL] at q2
 | [],_::_,_,_,_,_,h=>by simp [DataW.TrodAll] at h
 | [],[],_::_,_,_,_,h=>by simp [DataW.TrodAll] at h
 | _::_,[],_,_,_,_,h=>by simp [DataW.TrodAll] at h
 | _::_,_::_,[],_,_,_,h=>by simp [DataW.TrodAll] at h
theorem args_stay (hl:laidOutB P=true) {W W':World} (hsize:∀ p:MemPlace,p.block<W.heap.size→W.sameAt W' p) {sp':Nat→Bool}:∀ {ts:List TypeId} {vs:List Value} {ds:List (DataW H)} {ps:List MemPlace},(∀ t∈ts,(P.readableRec t&&Nat.blt t P.types.size)=true) →
  DataW.TrodAll enc P W 0 (fun _=>true) true ts vs ds ps→(∀ p∈ps,p.block<W.heap.size)→(∀ p∈ps,sp' p.block=true)→DataW.TrodAll enc P W' 0 sp' true ts vs ds ps
 | [],[],[],_,_,h,_,_=>h
 | t::ts,v::vs,d::ds,ps,hs,h,hlt,hsp=>by
  obtain ⟨p,q,h1,h2,rfl⟩:=h
  have ht:=hs t (by simp)
  simp only [Bool.and_eq_true] at ht
  exact ⟨p,q,WideElems.Trod_stays hl ht.1 (by have:=ht.2;simp only [Nat.blt,Nat.ble_eq] at this;exact this) h1 (fun x hx=>hsize x (hlt x (by simp [hx]))) (fun x hx=>hsp x (by simp [hx])),
   args_stay hl hsize (fun t ht=>hs t (by simp [ht])) h2 (fun x hx=>hlt x (by simp [hx])) (fun x hx=>hsp x (by simp [hx])),rfl⟩
 | [],_::_,_,_,_,h,_,_=>by simp [DataW.TrodAll] at h
 | [],[],_::_,_,_,h,_,_=>by simp [DataW.TrodAll] at h
 | _::_,[],_,_,_,h,_,_=>by simp [DataW.TrodAll] at h
 | _::_,_::_,[],_,_,h,_,_=>by simp [DataW.TrodAll] at h
theorem post_stay {f:Func} {s:ChangeSpec} {apart fresh handsOn again:Bool} {W W':World} {args:Array Value} {v:Value} {ds gs:List (DataW H)} {before pa pv:List MemPlace}
  (hW:DataW.Whole enc P f.params.toList s.vars apart W args.toList ds gs before)
  (hres:∀ (b:Nat) (sp:Nat→Bool) (hd:Bool),DataW.TrodAll enc P W' b sp hd f.resultTypes.toList (v.resultList f.resultTypes.size) (s.fn H (ds++gs)).results [])
  (hargs:∀ sp:Nat→Bool,(∀ p∈before,sp p.block=true)→DataW.TrodAll enc P W' 0 sp true f.params.toList args.toList (s.fn H (ds++gs)).args pa)
  (hvars:∀ sp:Nat→Bool,(∀ p∈before,sp p.block=true)→DataW.TrodVars enc P W' sp s.vars (s.fn H (ds++gs)).vars pv)
  (hps:before=pa++pv) (hk:W.keptBut W' (·∈before)) (hfz:∀ a:Addr,a.block<W.heap.size→W'.frozen? a=W.frozen? a)
  (hok:∀ (j:Nat) (t:TypeId) (r:Value),f.resultTypes[j]?=some t→(v.resultList f.resultTypes.size)[j]?=some r→Value.okWide P W' .any 0 t r) :
  s.post enc P f apart fresh handsOn again W args v W':=by
 have hlt:=hW.lt
 have hthere:∀ p∈before,(fun b=>decide (b<W.heap.size)) p.block=true:=fun p hp=>by simpa using hlt p hp
 refine ⟨ds,gs,before,[],pa,pv,hW,hres _ _ _,hargs _ hthere,hvars _ hthere,World.keptBut_mono (fun p hp=>⟨hp,.inr (by rw [hps,List.mem_append] at hp;exact hp)⟩) hk,fun _=>?_⟩
 obtain ⟨_,_,_,_,_,hz,hn⟩:=hW
 have hmem:∀ p,p∈([]++pa)++pv→p∈before:=fun p hp=>by rw [hps];simpa using hp
 refine ⟨hok,_,_,([]++pa)++pv,⟨[]++pa,pv,trodAll_append (hargs _ (fun _ _=>rfl)) (hres _ _ _),hvars _ (fun _ _=>rfl),rfl,fun b off hp=>?_,fun ha=>?_⟩,fun p hp _=>?_⟩
 ·rw [hfz _ (hlt _ (hmem _ hp))]
  exact hz b off (hmem _ hp)
 ·have:=hn ha
  rw [hps] at this
  simpa using this
 ·rw [hps]
  simpa using hp
theorem law_contract {f:FuncId} {fn:Func} {s:ChangeSpec} {F:List AV→Option AV} {apart fresh handsOn again:Bool} {tb:TypeId} (hs:PSound P f F) (hl:laidOutB P=true)
  (hvars:s.vars=[]) (hspec:∀ (H:Type) (ds:List (DataW H)),ds.length=fn.params.size→(s.fn H ds).results=[.lit (.bool true)]∧(s.fn H ds).args=ds∧(s.fn H ds).vars=[])
  (hres:fn.resultTypes=#[tb]) (htb:P.underlying tb=some .bool) (hp:fn.params.toList.all (fun t=>(shapeOf P 10 t).isSome&&P.readableRec t&&Nat.blt t P.types.size)=true)
  (hF:∀ avs,FitArgs P fn.params.toList avs→F avs=some (B true))
  {W:World} {base:Nat} {args:Array Value} {ds gs:List (DataW H)} {before:List MemPlace}
  (hval:∀ (j:Nat) t v,fn.params[j]?=some t→args[j]?=some v→Value.okWide P W .any base t v)
  (hW:DataW.Whole enc P fn.params.toList s.vars apart W args.toList ds gs before) :
  Calls P f args W fun e W'=>∃ v,e=.returned v∧s.post enc P fn apart fresh handsOn again W args v W':=by
 have hW':=hW
 obtain ⟨p,q,hA,hV,rfl,hfz,hnd⟩:=hW
 rw [hvars] at hV
 obtain ⟨rfl,rfl⟩:=trodVars_none hV
 have hpp:∀ t∈fn.params.toList,(shapeOf P 10 t).isSome=true∧(P.readableRec t&&Nat.blt t P.types.size)=true:=fun t ht=>by
  have:=List.all_eq_true.1 hp t ht
  simp only [Bool.and_eq_true] at this ⊢
  exact ⟨this.1.1,this.1.2,this.2⟩
 obtain ⟨avs,h1,h2,h3⟩:=args_open (fun t ht=>(hpp t ht).1) (fun j t v hj hv=>hval j t v (by simpa using hj) (by simpa using hv)) hA
 refine (hs W (allG W) args avs (B true) (hF avs h1) (fun _ h=>h) h2).mono fun e W' ⟨x,G',bl,he,hf,_,_,ho,_,_⟩=>?_
 subst he
 have hx:x=.bool true:=by simp only [ORet,OVal,OLeaf,CRep] at ho;exact ho.2
 subst hx
 have hlt:∀ y∈p,y.block<W.heap.size:=fun y hy=>hW'.lt y (by simp [hy])
 have hold:∀ k,k<W.heap.size→W'.heap[k]?=W.heap[k]?:=fun k hk=>hf.old k hk (by simp)
 have hsame:∀ y:MemPlace,y.block<W.heap.size→W.sameAt W' y:=fun y hy=>by
  cases y with
  | cell b o=>exact World.cell?_of_block (w:=W) (hold b hy)
  | map b=>exact hold b hy
 have hfr:∀ a:Addr,a.block<W.heap.size→W'.frozen? a=W.frozen? a:=fun a ha=>World.frozen?_of_block (w:=W) (hold a.block ha)
 have hsp:=hspec H (ds++[]) (by rw [List.append_nil,h3];simp)
 simp only [List.append_nil] at hW' hsp
 refine ⟨_,rfl,post_stay (pa:=p) (pv:=[]) (by simpa using hW') (fun b sp hd=>?_) (fun sp hsp'=>?_) (fun sp hsp'=>?_) rfl ⟨hf.os,hf.out,fun i hi=>?_⟩ hfr (ok_one hres rfl (okWide_bool_mk htb _))⟩
 ·rw [List.append_nil,hsp.1,hres]
  exact trodAll_mk1 (shut_bool htb true)
 ·rw [List.append_nil,hsp.2.1]
  exact args_stay hl hsame (fun t ht=>(hpp t ht).2) hA hlt fun y hy=>hsp' y (by simp [hy])
 ·rw [List.append_nil,hsp.2.2,hvars]
  rfl
 ·rw [hold i hi]
  split<;>simp_all
end
end Go.AM
namespace Go.AM
open Go
def getL (ms:List AO) (b:Nat):AO:=(ms[b]?).getD .dead
def GSound (P:Program) (f:FuncId) (F:List AV→List AO→Option (AV×List AO)):Prop :=
 ∀ (w:World) (l:List Nat) (E:Env) (args:List Value) (avs:List AV) (ms:List AO) (r:AV) (ms':List AO),F avs ms=some (r,ms') →
  Inv w ⟨l,E,ms.length⟩ E w→(∀ b,b<ms.length→E.alive b)→MemOK E w (getL ms)→RepL E w avs args →
  Calls P f args.toArray w fun e w'=>∃ x E',e=.returned x∧Inv w ⟨l,E,ms.length⟩ E' w'∧(∀ b,E'.alive b→b<ms'.length)∧MemOK E' w' (getL ms')∧Rep E' w' r x
def idx:Nat→List AO→List (Nat×AO)
 | _,[]=>[]
 | k,o::r=>(k,o)::idx (k+1) r
theorem getM_idx:∀ {ms:List AO} {k b:Nat},getM (idx k ms) (k+b)=getL ms b
 | [],k,b=>by simp [idx,getM,getL]
 | o::r,k,0=>by simp [idx,getM,getL]
 | o::r,k,b+1=>by
  have ih:=getM_idx (ms:=r) (k:=k+1) (b:=b)
  simp only [idx,getM]
  rw [if_neg (by omega),show k+(b+1)=k+1+b by omega,ih]
  simp [getL]
theorem getM_idx0 {ms:List AO}:getM (idx 0 ms)=getL ms:=by
 funext b
 have:=getM_idx (ms:=ms) (k:=0) (b:=b)
 simpa using this
def LeavesG (T:TypeId→Option TD) (rv:List ResultVar) (n:Nat) (st:St) (r:AV) (ms':List AO):Prop :=
 ∃ as,aResults T st rv=some as∧Le n ⟨[(0,retOf as)],st.m,st.nx⟩ ⟨[(0,r)],idx 0 ms',ms'.length⟩
theorem gsound_of {P:Program} {f:FuncId} {fn:Func} {c:Code} {N:Nat} {F:List AV→List AO→Option (AV×List AO)} (hf:P.funcs[f]?=some fn) (hb:fn.body=some c) (hN:fn.ntmps=N)
  (h:∀ (w0:World) (l:List Nat) (E:Env) (avs:List AV) (ms:List AO) (r:AV) (ms':List AO),F avs ms=some (r,ms')→avs.length≤N∧∃ X,
   AW ⟨P,X,N,w0,⟨l,E,ms.length⟩⟩ c ⟨enterS avs,idx 0 ms,ms.length⟩ (fun e st=>(e=.normal∨e=.ret)∧LeavesG (Types P) fn.results.toList ms.length st r ms')) :
  GSound P f F:=by
 intro w l E args avs ms r ms' hF hI hal hM hr
 obtain ⟨hlen,X,haw⟩:=h w l E avs ms r ms' hF
 have hll:=hr.length
 have hsat:Sat N w ⟨l,E,ms.length⟩ { tmps:=args.toArray++Array.replicate (fn.ntmps - args.toArray.size) undef,defers:=[] } w ⟨enterS avs,idx 0 ms,ms.length⟩:=by
  refine ⟨E,⟨rfl,by simp [hN];omega,hI,by rw [getM_idx0];exact hM,fun t=>?_⟩,hI.low,fun k hk=>?_⟩
  ·rw [enterS,getS_enter]
   simp only [Nat.zero_le,if_true,Nat.sub_zero]
   cases ht:avs[t]? with
   | none=>simp [Rep,CRep]
   | some a =>
    obtain ⟨x,h1,h2⟩:=hr.get ht
    have hlt:=(List.getElem?_eq_some_iff.1 ht).1
    rw [Array.getD_eq_getD_getElem?,Array.getElem?_append_left (by simp;omega)]
    have:args.toArray[t]?=some x:=by simpa using h1
    rw [this]
    exact h2
  ·rw [getM_idx0] at hk
   unfold getL at hk
   by_cases e:k<ms.length
   ·exact e
   ·rw [List.getElem?_eq_none (by omega)] at hk
    exact absurd rfl hk
 refine calls_of_wp hf hb (wp_mono (haw _ _ hsat) fun e a w' ⟨st,⟨he,as,h1,h2⟩,E',hs,h3,h4⟩=>?_)
 obtain ⟨vs,k1,k2⟩:=aResults_ok hs h1
 have hrun:(results fn a.tmps).run P w'=.ok (if h:vs.toArray.size=1 then vs.toArray[0] else .tuple vs.toArray) w':=by
  unfold results
  rw [Sem.run_bind,← Array.toArray_toList (xs:=fn.results),List.mapM_toArray]
  simp only [Sem.run_map]
  have:(List.mapM (fun x=>match x with|.tmp t=>pure (a.tmps.getD t undef)|.cell b t=>do loadVar t (← asAddr (a.tmps.getD b undef))) fn.results.toList:Sem (List Value)).run P w'=.ok vs w':=k1
  erw [this]
  rfl
 have hrep:Rep E' w' (retOf as) (if h:vs.toArray.size=1 then vs.toArray[0] else .tuple vs.toArray):=by
  match as,vs,k2 with
  | [],[],_=>simp only [retOf,Rep];exact ⟨[],by simp,by simp [RepL]⟩
  | [a],[v],h =>
   simp only [RepL] at h
   simpa [retOf] using h.1
  | a::b::as,v::u::vs,h =>
   simp only [retOf,Rep]
   exact ⟨v::u::vs,by simp,h⟩
 have hs1:Sat 1 w ⟨l,E,ms.length⟩ { tmps:=#[if h:vs.toArray.size=1 then vs.toArray[0] else .tuple vs.toArray],defers:=[] } w' ⟨[(0,retOf as)],st.m,st.nx⟩:=by
  refine ⟨E',⟨rfl,rfl,hs.inv,hs.mem,fun t=>?_⟩,h3,h4⟩
  simp only [getS]
  split
  ·rename_i e;subst e;simpa using hrep
  ·simp [Rep,CRep]
 obtain ⟨E2,hs2,h5,_⟩:=h2 _ _ _ _ _ rfl hs1
 have hx:=hs2.slots 0
 simp only [getS,if_true] at hx
 have hfin:∃ x E',Ending.returned (if h:vs.toArray.size=1 then vs.toArray[0] else .tuple vs.toArray)=Ending.returned x∧Inv w ⟨l,E,ms.length⟩ E' w'∧(∀ b,E'.alive b→b<ms'.length)∧MemOK E' w' (getL ms')∧Rep E' w' r x :=
  ⟨_,E2,rfl,hs2.inv,h5,by have:=hs2.mem;rwa [getM_idx0] at this,by simpa using hx⟩
 rcases he with rfl|rfl
 ·exact ⟨hs.defers,_,hrun,hfin⟩
 ·exact ⟨hs.defers,_,hrun,hfin⟩
noncomputable def specG {ι:Type} (A:ι→List AV) (M:ι→List AO) (R:ι→AV) (O:ι→List AO) (avs:List AV) (ms:List AO):Option (AV×List AO) :=
 open Classical in if h:∃ i,A i=avs∧M i=ms then some (R h.choose,O h.choose) else none
theorem specG_eq {ι:Type} {A:ι→List AV} {M:ι→List AO} {R:ι→AV} {O:ι→List AO} (i:ι) (h:∀ j,A j=A i→M j=M i→R j=R i∧O j=O i):specG A M R O (A i) (M i)=some (R i,O i):=by
 unfold specG
 have hex:∃ j,A j=A i∧M j=M i:=⟨i,rfl,rfl⟩
 rw [dif_pos hex]
 obtain ⟨h1,h2⟩:=h _ hex.choose_spec.1 hex.choose_spec.2
 rw [h1,h2]
theorem specG_some {ι:Type} {A:ι→List AV} {M:ι→List AO} {R:ι→AV} {O:ι→List AO} {avs:List AV} {ms:List AO} {r:AV} {o:List AO} (h:specG A M R O avs ms=some (r,o)):∃ i,A i=avs∧M i=ms∧R i=r∧O i=o:=by
 unfold specG at h
 split at h
 ·rename_i hex
  simp only [Option.some.injEq,Prod.mk.injEq] at h
  exact ⟨_,hex.choose_spec.1,hex.choose_spec.2,h.1,h.2⟩
 ·simp at h
theorem gsound_spec {ι:Type} {A:ι→List AV} {M:ι→List AO} {R:ι→AV} {O:ι→List AO} {P:Program} {f:FuncId} {fn:Func} {c:Code} (hf:P.funcs[f]?=some fn) (hb:fn.body=some c) (X:AX)
  (h:∀ (i:ι) (w0:World) (l:List Nat) (E:Env),(A i).length≤fn.ntmps ∧
   AW ⟨P,X,fn.ntmps,w0,⟨l,E,(M i).length⟩⟩ c ⟨enterS (A i),idx 0 (M i),(M i).length⟩ (fun e st=>(e=.normal∨e=.ret)∧LeavesG (Types P) fn.results.toList (M i).length st (R i) (O i))) :
  GSound P f (specG A M R O) :=
 gsound_of hf hb rfl fun w0 l E avs ms r ms' hr=>by
  obtain ⟨i,rfl,rfl,rfl,rfl⟩:=specG_some hr
  exact ⟨(h i w0 l E).1,X,(h i w0 l E).2⟩
mutual
def AV.nms:AV→List Nat
 | .bp b _|.sl b _ _ _ _|.ep b _ _ _ _|.bs b _ _ _|.mp b _=>[b]
 | .agg cs|.tup cs|.fn _ cs|.ifc _ cs=>nmsL cs
 | _=>[]
def nmsL:List AV→List Nat
 | []=>[]
 | a::r=>a.nms++nmsL r
end
def AO.nms:AO→List Nat
 | .box cs=>nmsL cs
 | _=>[]
theorem mem_nmsL {b:Nat}:∀ {l:List AV},b∈nmsL l↔∃ a∈l,b∈a.nms
 | []=>by simp [nmsL]
 | a::r=>by simp [nmsL,mem_nmsL (l:=r)]
mutual
theorem Rep.nms_alive {E:Env} {w:World}:∀ {a:AV} {x:Value},Rep E w a x→∀ b∈a.nms,E.alive b
 | .bp b o,x,h,c,hc=>by simp only [Rep,AV.nms,List.mem_singleton] at h hc;subst hc;exact h.1
 | .sl b m s o n,x,h,c,hc=>by simp only [Rep,AV.nms,List.mem_singleton] at h hc;subst hc;exact h.1
 | .ep b m s i j,x,h,c,hc=>by simp only [Rep,AV.nms,List.mem_singleton] at h hc;subst hc;exact h.1
 | .bs b o s n,x,h,c,hc=>by simp only [Rep,AV.nms,List.mem_singleton] at h hc;subst hc;exact h.1
 | .mp b m,x,h,c,hc=>by simp only [Rep,AV.nms,List.mem_singleton] at h hc;subst hc;exact h.1
 | .agg cs,x,h,c,hc=>by
  simp only [Rep,AV.nms] at h hc
  obtain ⟨vs,_,_,h⟩:=h
  exact RepL.nms_alive h c hc
 | .tup cs,x,h,c,hc=>by
  simp only [Rep,AV.nms] at h hc
  obtain ⟨vs,_,h⟩:=h
  exact RepL.nms_alive h c hc
 | .fn _ cs,x,h,c,hc=>by
  simp only [Rep,AV.nms] at h hc
  obtain ⟨vs,_,h⟩:=h
  exact RepL.nms_alive h c hc
 | .ifc _ cs,x,h,c,hc=>by
  simp only [Rep,AV.nms] at h hc
  obtain ⟨vs,_,h⟩:=h
  exact RepL.nms_alive h c hc
 | .any,_,_,c,hc=>by simp [AV.nms] at hc
 | .v _,_,_,c,hc=>by simp [AV.nms] at hc
 | .rd ..,_,_,c,hc=>by simp [AV.nms] at hc
 | .ow ..,_,_,c,hc=>by simp [AV.nms] at hc
 | .rp ..,_,_,c,hc=>by simp [AV.nms] at hc
 | .rf ..,_,_,c,hc=>by simp [AV.nms] at hc
 | .rm ..,_,_,c,hc=>by simp [AV.nms] at hc
 | .om ..,_,_,c,hc=>by simp [AV.nms] at hc
theorem RepL.nms_alive {E:Env} {w:World}:∀ {as:List AV} {xs:List Value},RepL E w as xs→∀ b∈nmsL as,E.alive b
 | [],[],_,c,hc=>by simp [nmsL] at hc
 | a::as,x::xs,h,c,hc=>by
  simp only [RepL,nmsL,List.mem_append] at h hc
  rcases hc with hc|hc
  ·exact Rep.nms_alive h.1 c hc
  ·exact RepL.nms_alive h.2 c hc
 | [],_::_,h,_,_=>by simp [RepL] at h
 | _::_,[],h,_,_=>by simp [RepL] at h
end
theorem ObjRep.nms_alive {E:Env} {w:World} {b:Nat} {o:AO} (h:ObjRep E w b o):∀ c∈o.nms,E.alive c:=by
 intro c hc
 cases o with
 | box cs =>
  simp only [ObjRep,AO.nms] at h hc
  obtain ⟨_,_,_,_,_,_,_,h⟩:=h
  exact h.nms_alive c hc
 | _=>simp [AO.nms] at hc
def Led (M:Nat→AO):List Nat→List Nat→Prop
 | _,[]=>True
 | fr,b::r=>b∈fr∧Led M ((M b).nms++fr) r
theorem led_alive {E:Env} {w:World} {M:Nat→AO} (hM:MemOK E w M):∀ {σ fr:List Nat},(∀ b∈fr,E.alive b)→Led M fr σ→∀ b∈σ,E.alive b
 | [],_,_,_,b,hb=>by simp at hb
 | c::σ,fr,hfr,h,b,hb=>by
  simp only [Led] at h
  have hc:=hfr c h.1
  rcases List.mem_cons.1 hb with rfl|hb
  ·exact hc
  ·refine led_alive hM (fr:=(M c).nms++fr) (fun d hd=>?_) h.2 b hb
   rcases List.mem_append.1 hd with hd|hd
   ·exact (hM c hc).nms_alive d hd
   ·exact hfr d hd
mutual
def AV.ren (σ:Nat→Nat) (v:Nat→Nat→Nat):AV→AV
 | .bp b o=>.bp (σ b) o
 | .sl b m s o k=>.sl (σ b) (v b m) s o k
 | .ep b m s i j=>.ep (σ b) (v b m) s i j
 | .bs b o s k=>.bs (σ b) o s k
 | .agg cs=>.agg (renL σ v cs)
 | .tup cs=>.tup (renL σ v cs)
 | .fn f cs=>.fn f (renL σ v cs)
 | .ifc f cs=>.ifc f (renL σ v cs)
 | .any=>.any
 | .v x=>.v x
 | .rd s xs=>.rd s xs
 | .ow s xs=>.ow s xs
 | .rp cs=>.rp cs
 | .rf cs=>.rf cs
 | .mp b m=>.mp (σ b) (v b m)
 | .rm k es=>.rm k es
 | .om k es=>.om k es
def renL (σ:Nat→Nat) (v:Nat→Nat→Nat):List AV→List AV
 | []=>[]
 | a::r=>a.ren σ v::renL σ v r
end
def AO.ren (σ:Nat→Nat) (v:Nat→Nat→Nat) (b:Nat):AO→AO
 | .dead=>.dead
 | .box cs=>.box (renL σ v cs)
 | .vec m s f xs=>.vec (v b m) s f xs
 | .map m k es=>.map (v b m) k es
def verOf:AO→Nat
 | .vec m _ _ _|.map m _ _=>m
 | _=>0
mutual
def AV.curB (M:Nat→AO):AV→Bool
 | .sl b m _ _ _|.ep b m _ _ _|.mp b m=>Nat.beq m (verOf (M b))
 | .agg cs|.tup cs|.fn _ cs|.ifc _ cs=>curBL M cs
 | _=>true
def curBL (M:Nat→AO):List AV→Bool
 | []=>true
 | a::r=>a.curB M&&curBL M r
end
def AO.curB (M:Nat→AO):AO→Bool
 | .box cs=>curBL M cs
 | _=>true
theorem verOf_ver {E:Env} {w:World} {b m:Nat} {o:AO} (h:ObjRep E w b o) (h1:1≤m) (e:m=verOf o):E.ver b=m:=by
 cases o with
 | vec m' s f xs=>simp only [ObjRep,verOf] at h e;rw [h.1,e]
 | map m' n es=>simp only [ObjRep,verOf] at h e;rw [h.1,e]
 | _=>simp only [verOf] at e;omega
mutual
def AV.okR (D:Nat→Prop) (V:Nat→Nat→Prop):AV→Prop
 | .bp b _|.bs b _ _ _=>D b
 | .sl b m _ _ _|.ep b m _ _ _|.mp b m=>D b∧V b m
 | .agg cs|.tup cs|.fn _ cs|.ifc _ cs=>okRL D V cs
 | _=>True
def okRL (D:Nat→Prop) (V:Nat→Nat→Prop):List AV→Prop
 | []=>True
 | a::r=>a.okR D V∧okRL D V r
end
def AO.okR (D:Nat→Prop) (V:Nat→Nat→Prop):AO→Prop
 | .box cs=>okRL D V cs
 | _=>True
mutual
theorem okR_true:∀ {a:AV},a.okR (fun _=>True) (fun _ _=>True)
 | .bp ..|.bs ..|.sl ..|.ep ..|.mp ..=>by simp [AV.okR]
 | .agg cs|.tup cs|.fn _ cs|.ifc _ cs=>by simp only [AV.okR];exact okRL_true
 | .any|.v _|.rd ..|.ow ..|.rp ..|.rf ..|.rm ..|.om ..=>by simp [AV.okR]
theorem okRL_true:∀ {l:List AV},okRL (fun _=>True) (fun _ _=>True) l
 | []=>by simp [okRL]
 | a::r=>by simp only [okRL];exact ⟨okR_true,okRL_true⟩
end
theorem okRO_true {o:AO}:o.okR (fun _=>True) (fun _ _=>True):=by
 cases o<;>simp only [AO.okR]
 exact okRL_true
section
variable {D:Nat→Prop} {M:Nat→AO}
mutual
theorem okR_cur:∀ {a:AV},(∀ b∈a.nms,D b)→a.curB M=true→a.okR D (fun b m=>m=verOf (M b))
 | .bp ..,h,_|.bs ..,h,_=>by simpa [AV.okR,AV.nms] using h
 | .sl b m _ _ _,h,k|.ep b m _ _ _,h,k|.mp b m,h,k=>by
  simp only [AV.okR,AV.nms,List.mem_singleton,forall_eq,AV.curB] at h k ⊢
  exact ⟨h,Nat.eq_of_beq_eq_true k⟩
 | .agg cs,h,k|.tup cs,h,k|.fn _ cs,h,k|.ifc _ cs,h,k=>by simp only [AV.okR,AV.nms,AV.curB] at h k ⊢;exact okRL_cur h k
 | .any,_,_|.v _,_,_|.rd ..,_,_|.ow ..,_,_|.rp ..,_,_|.rf ..,_,_|.rm ..,_,_|.om ..,_,_=>by simp [AV.okR]
theorem okRL_cur:∀ {l:List AV},(∀ b∈nmsL l,D b)→curBL M l=true→okRL D (fun b m=>m=verOf (M b)) l
 | [],_,_=>by simp [okRL]
 | a::r,h,k=>by
  simp only [okRL,nmsL,List.mem_append,curBL,Bool.and_eq_true] at h k ⊢
  exact ⟨okR_cur (fun b hb=>h b (.inl hb)) k.1,okRL_cur (fun b hb=>h b (.inr hb)) k.2⟩
end
theorem okRO_cur {o:AO} (h:∀ b∈o.nms,D b) (k:o.curB M=true):o.okR D (fun b m=>m=verOf (M b)):=by
 cases o<;>simp only [AO.okR]
 exact okRL_cur h k
end
structure RenOK (E E':Env) (w w':World) (σ:Nat→Nat) (v:Nat→Nat→Nat) (D:Nat→Prop) (V:Nat→Nat→Prop):Prop where
 G:∀ k,E.G k→E'.G k
 alive:∀ b,E.alive b→D b→E'.alive (σ b)
 loc:∀ b,E.alive b→D b→E'.loc (σ b)=E.loc b
 box:∀ b,E.alive b→D b→E.ver b=0→E'.ver (σ b)=0
 ver:∀ b m,E.alive b→D b→V b m→1≤m→m≤E.ver b→1≤v b m∧v b m≤E'.ver (σ b)∧(v b m=E'.ver (σ b)→m=E.ver b)
 heap:∀ k,E.G k→w'.heap[k]?=w.heap[k]?
section
variable {E E':Env} {w w':World} {σ:Nat→Nat} {v:Nat→Nat→Nat} {D:Nat→Prop} {V:Nat→Nat→Prop}
mutual
theorem RenOK.rep (h:RenOK E E' w w' σ v D V):∀ {a:AV} {x:Value},a.okR D V→Rep E w a x→Rep E' w' (a.ren σ v) x
 | .bp b o,x,hd,hr=>by
  simp only [Rep,AV.ren,AV.okR] at hr hd ⊢
  obtain ⟨h1,h2,blk,sz,h3,h4⟩:=hr
  exact ⟨h.alive b h1 hd,h.box b h1 hd h2,blk,sz,by rw [h.loc b h1 hd];exact h3,h4⟩
 | .bs b o s n,x,hd,hr=>by
  simp only [Rep,AV.ren,AV.okR] at hr hd ⊢
  obtain ⟨h1,h2,blk,sz,p,c,h3,h4⟩:=hr
  exact ⟨h.alive b h1 hd,h.box b h1 hd h2,blk,sz,p,c,by rw [h.loc b h1 hd];exact h3,h4⟩
 | .sl b m s o n,x,hd,hr=>by
  simp only [Rep,AV.ren,AV.okR] at hr hd ⊢
  obtain ⟨hd,hv⟩:=hd
  obtain ⟨h1,h2,h3,p,c,h4,h5,h6,h7⟩:=hr
  obtain ⟨k1,k2,k3⟩:=h.ver b m h1 hd hv h2 h3
  exact ⟨h.alive b h1 hd,k1,k2,p,c,h4,h5,h6,fun e=>by rw [h.loc b h1 hd];exact h7 (k3 e)⟩
 | .ep b m s i j,x,hd,hr=>by
  simp only [Rep,AV.ren,AV.okR] at hr hd ⊢
  obtain ⟨hd,hv⟩:=hd
  obtain ⟨h1,h2,h3,a,h4,h5⟩:=hr
  obtain ⟨k1,k2,k3⟩:=h.ver b m h1 hd hv h2 h3
  exact ⟨h.alive b h1 hd,k1,k2,a,h4,fun e=>by rw [h.loc b h1 hd];exact h5 (k3 e)⟩
 | .mp b m,x,hd,hr=>by
  simp only [Rep,AV.ren,AV.okR] at hr hd ⊢
  obtain ⟨hd,hv⟩:=hd
  obtain ⟨h1,h2,h3,blk,h4,h5⟩:=hr
  obtain ⟨k1,k2,k3⟩:=h.ver b m h1 hd hv h2 h3
  exact ⟨h.alive b h1 hd,k1,k2,blk,h4,fun e=>by rw [h.loc b h1 hd];exact h5 (k3 e)⟩
 | .agg cs,_,hd,hr=>by
  simp only [Rep,AV.ren,AV.okR] at hr hd ⊢
  obtain ⟨vs,h1,h2,h3⟩:=hr
  exact ⟨vs,h1,h2,RenOK.repL h hd h3⟩
 | .tup cs,_,hd,hr=>by
  simp only [Rep,AV.ren,AV.okR] at hr hd ⊢
  obtain ⟨vs,h1,h3⟩:=hr
  exact ⟨vs,h1,RenOK.repL h hd h3⟩
 | .fn f cs,_,hd,hr=>by
  simp only [Rep,AV.ren,AV.okR] at hr hd ⊢
  obtain ⟨vs,h1,h3⟩:=hr
  exact ⟨vs,h1,RenOK.repL h hd h3⟩
 | .ifc f cs,_,hd,hr=>by
  simp only [Rep,AV.ren,AV.okR] at hr hd ⊢
  obtain ⟨vs,h1,h3⟩:=hr
  exact ⟨vs,h1,RenOK.repL h hd h3⟩
 | .any,_,_,hr=>by simp only [Rep,AV.ren] at hr ⊢;exact hr.mono h.G h.heap
 | .v _,_,_,hr=>by simp only [Rep,AV.ren] at hr ⊢;exact hr.mono h.G h.heap
 | .rd ..,_,_,hr=>by simp only [Rep,AV.ren] at hr ⊢;exact hr.mono h.G h.heap
 | .ow ..,_,_,hr=>by simp only [Rep,AV.ren] at hr ⊢;exact hr.mono h.G h.heap
 | .rp ..,_,_,hr=>by simp only [Rep,AV.ren] at hr ⊢;exact hr.mono h.G h.heap
 | .rf ..,_,_,hr=>by simp only [Rep,AV.ren] at hr ⊢;exact hr.mono h.G h.heap
 | .rm ..,_,_,hr=>by simp only [Rep,AV.ren] at hr ⊢;exact hr.mono h.G h.heap
 | .om ..,_,_,hr=>by simp only [Rep,AV.ren] at hr ⊢;exact hr.mono h.G h.heap
theorem RenOK.repL (h:RenOK E E' w w' σ v D V):∀ {as:List AV} {xs:List Value},okRL D V as→RepL E w as xs→RepL E' w' (renL σ v as) xs
 | [],[],_,_=>by simp [RepL,renL]
 | a::as,x::xs,hd,hr=>by
  simp only [RepL,renL,okRL] at hr hd ⊢
  exact ⟨RenOK.rep h hd.1 hr.1,RenOK.repL h hd.2 hr.2⟩
 | [],_::_,_,hr=>by simp [RepL] at hr
 | _::_,[],_,hr=>by simp [RepL] at hr
end
def AO.renV (σ:Nat→Nat) (v:Nat→Nat→Nat) (m':Nat):AO→AO
 | .dead=>.dead
 | .box cs=>.box (renL σ v cs)
 | .vec _ s f xs=>.vec m' s f xs
 | .map _ n es=>.map m' n es
theorem RenOK.obj (h:RenOK E E' w w' σ v D V) {b:Nat} {o:AO} {m':Nat} (hw:∀ blk base sz,E.loc b=some (blk,base,sz)→w'.heap[blk]?=w.heap[blk]?) (ha:E.alive b) (hb:D b) (hd:o.okR D V) (hm:1≤E.ver b→1≤m'∧E'.ver (σ b)=m') (ho:ObjRep E w b o) :
  ObjRep E' w' (σ b) (o.renV σ v m'):=by
 cases o with
 | dead=>trivial
 | box cs =>
  simp only [ObjRep,AO.okR,AO.renV] at ho hd ⊢
  obtain ⟨h1,blk,t,vs,h2,h3,h4,h5⟩:=ho
  exact ⟨h.box b ha hb h1,blk,t,vs,by rw [h.loc b ha hb];exact h2,by rw [hw blk _ _ h2];exact h3,h4,h.repL hd h5⟩
 | vec m s f xs =>
  simp only [ObjRep,AO.renV] at ho ⊢
  obtain ⟨h1,h2,h3⟩:=ho
  obtain ⟨k1,k2⟩:=hm (by omega)
  refine ⟨k2,k1,?_⟩
  rw [h.loc b ha hb]
  cases hl:E.loc b with
  | none=>simpa only [hl] using h3
  | some L =>
   obtain ⟨blk,base,sz⟩:=L
   simp only [hl] at h3 ⊢
   obtain ⟨c,t,q1,q2,q3,q4,q5,q6⟩:=h3
   have hh:=hw blk base sz hl
   exact ⟨c,t,by rw [hh];exact q1,q2,q3,q4,q5,q6.mono h.G h.heap (.inl hh)⟩
 | map m n es =>
  simp only [ObjRep,AO.renV] at ho ⊢
  obtain ⟨h1,h2,blk,ents,clk,h3,h4,h5⟩:=ho
  obtain ⟨k1,k2⟩:=hm (by omega)
  exact ⟨k2,k1,blk,ents,clk,by rw [h.loc b ha hb];exact h3,by rw [hw blk _ _ h3];exact h4,h5.mono h.G h.heap⟩
end
def posN:List Nat→Nat→Nat
 | [],_=>0
 | c::r,b=>if c=b then 0 else posN r b+1
def nmN (σ:List Nat) (nid i:Nat):Nat:=if h:i<σ.length then σ[i] else nid+(i - σ.length)
def shN (M:Nat→AO) (σ:List Nat) (i:Nat):Nat:=match σ[i]? with
 | some b=>verOf (M b) - 1
 | none=>0
def canO (σ:List Nat) (o:AO):AO:=match o with
 | .dead=>.dead
 | .box cs=>.box (renL (posN σ) (fun _ _=>1) cs)
 | .vec _ s _ xs=>.vec 1 s false xs
 | .map _ n es=>.map 1 n es
def notDead:AO→Bool
 | .dead=>false
 | _=>true
def updN (M:Nat→AO) (σ:List Nat) (nid:Nat):Nat→List AO→List (Nat×AO)
 | _,[]=>[]
 | i,o::r=>(nmN σ nid i,o.ren (nmN σ nid) (fun j m=>m+shN M σ j) i)::updN M σ nid (i+1) r
def rng:Nat→Nat→List Nat
 | _,0=>[]
 | i,n+1=>i::rng (i+1) n
def gat (M:Nat→AO):Nat→List Nat→List Nat→List Nat
 | 0,_,acc=>acc
 | _+1,[],acc=>acc
 | n+1,b::t,acc=>if b∈acc then gat M n t acc else gat M n ((M b).nms++t) (acc++[b])
def CallG (M:Nat→AO) (avs:List AV) (σ:List Nat):Prop :=
 σ.Nodup∧Led M (nmsL avs) σ∧(∀ b∈σ,notDead (M b)=true)∧(∀ b∈nmsL avs,b∈σ)∧(∀ b∈σ,∀ c∈(M b).nms,c∈σ)∧curBL M avs=true∧∀ b∈σ,(M b).curB M=true
def RetG (k:Nat) (r:AV) (ms':List AO):Prop :=
 (k≤ms'.length∧ms'.length≤k+16)∧Led (getL ms') (r.nms++(rng 0 k).flatMap fun i=>(getL ms' i).nms) (rng k (ms'.length - k))
open Classical in
noncomputable def callG (F:List AV→List AO→Option (AV×List AO)) (avs:List AV) (M:Nat→AO) (nid:Nat):Option (AV×List (Nat×AO)) :=
 let σ:=gat M 64 (nmsL avs) []
 if CallG M avs σ then
  match F (renL (posN σ) (fun _ _=>1) avs) (σ.map fun b=>canO σ (M b)) with
  | some (r,ms')=>if RetG σ.length r ms' then some (r.ren (nmN σ nid) (fun j m=>m+shN M σ j),updN M σ nid 0 ms') else none
  | none=>none
 else none
end Go.AM
