/- A part of the proof. -/
import Derived.Test.YtcfhmdljeeppfaaGreatCAmO
import Derived.ProofKit
import Derived.OpenShut
import Derived.WalkKit
set_option linter.all false
namespace Go.AM
open Go
inductive Sh where
 | int (k:IntKind)
 | bool
 | sl (s:List Sh)
mutual
def Fit:Sh→AV→Prop
 | .int k,a=>∃ n,a=.v (.int k n)∧(Lit.int k n).wf=true
 | .bool,a=>∃ b,a=.v (.bool b)
 | .sl s,a=>∃ xs,a=.rd s.length xs∧xs.length≤maxLen∧∀ e∈xs,FitL s e
def FitL:List Sh→List AV→Prop
 | [],[]=>True
 | s::r,a::as=>Fit s a∧FitL r as
 | _,_=>False
end
def fieldsOf (P:Program) (g:TypeId→Option (List Sh)):List Field→Nat→Option (List Sh)
 | [],_=>some []
 | f::r,off=>match g f.type,fieldsOf P g r (off+P.cellsOf f.type) with
  | some s,some l=>if f.offset=off∧s.length=P.cellsOf f.type then some (s++l) else none
  | _,_=>none
def shapeOf (P:Program):Nat→TypeId→Option (List Sh)
 | 0,_=>none
 | n+1,t=>match P.underlying t with
  | some .bool=>some [.bool]
  | some (.int k)=>some [.int k]
  | some (.slice e)=>match shapeOf P n e with
   | some s=>if s.length=P.cellsOf e∧1≤s.length then some [.sl s] else none
   | none=>none
  | some (.struct fs)=>match fieldsOf P (shapeOf P n) fs.toList 0 with
   | some s=>if s.length=P.cellsOf t then some s else none
   | none=>none
  | some (.array k e)=>match shapeOf P n e with
   | some s=>if s.length=P.cellsOf e∧k*s.length=P.cellsOf t then some (List.replicate k s).flatten else none
   | none=>none
  | _=>none
theorem FitL.append:∀ {s t:List Sh} {a b:List AV},FitL s a→FitL t b→FitL (s++t) (a++b)
 | [],_,[],_,_,h=>h
 | x::s,t,y::a,b,h,k=>by
  simp only [FitL,List.cons_append] at h ⊢
  exact ⟨h.1,h.2.append k⟩
 | [],_,_::_,_,h,_=>by simp [FitL] at h
 | _::_,_,[],_,h,_=>by simp [FitL] at h
theorem CRL.append {w:World} {G:Nat→Prop}:∀ {a b:List AV} {xs ys:List Value},CRL w G a xs→CRL w G b ys→CRL w G (a++b) (xs++ys)
 | [],_,[],_,_,h=>h
 | x::s,t,y::a,b,h,k=>by
  simp only [CRL,List.cons_append] at h ⊢
  exact ⟨h.1,h.2.append k⟩
 | [],_,_::_,_,h,_=>by simp [CRL] at h
 | _::_,_,[],_,h,_=>by simp [CRL] at h
theorem FitL.length:∀ {s:List Sh} {a:List AV},FitL s a→a.length=s.length
 | [],[],_=>rfl
 | _::_,_::_,h=>by simp only [FitL] at h;simp [FitL.length h.2]
 | [],_::_,h=>by simp [FitL] at h
 | _::_,[],h=>by simp [FitL] at h
theorem CRL.length {w:World} {G:Nat→Prop}:∀ {a:List AV} {xs:List Value},CRL w G a xs→a.length=xs.length
 | [],[],_=>rfl
 | _::_,_::_,h=>by simp only [CRL] at h;simp [CRL.length h.2]
 | [],_::_,h=>by simp [CRL] at h
 | _::_,[],h=>by simp [CRL] at h
def Opened (w:World) (sh:List Sh) (cs:List Value):Prop:=∃ avs,FitL sh avs∧CRL w (allG w) avs cs∧∀ y∈cs,y.oneCell'=true
theorem Opened.nil (w:World):Opened w [] []:=⟨[],by simp [FitL],by simp [CRL],by simp⟩
theorem Opened.append {w:World} {s t:List Sh} {xs ys:List Value} (h:Opened w s xs) (k:Opened w t ys):Opened w (s++t) (xs++ys):=by
 obtain ⟨a,h1,h2,h3⟩:=h
 obtain ⟨b,k1,k2,k3⟩:=k
 refine ⟨a++b,h1.append k1,h2.append k2,fun y hy=>?_⟩
 rcases List.mem_append.1 hy with hy|hy
 ·exact h3 y hy
 ·exact k3 y hy
section
variable {H:Type} {enc:TypeId×Value→H} {P:Program} {w:World} {base:Nat} {spare:Nat→Bool} {held:Bool}
theorem fields_open {n:Nat} {cs:List Value} {g:TypeId→Option (List Sh)} (hg:∀ t sh fuel cs x,g t=some sh→DataW.trod enc P w base spare held fuel t cs=some x→Opened w sh cs) :
  ∀ {fs:List Field} {off:Nat} {sh:List Sh},fieldsOf P g fs off=some sh→(∀ f∈fs,∃ y,DataW.trod enc P w base spare held n f.type ((cs.drop f.offset).take (P.cellsOf f.type))=some y)→Opened w sh ((cs.drop off).take sh.length)
 | [],off,sh,h,_=>by
  simp only [fieldsOf,oJ] at h
  subst h
  simpa using Opened.nil w
 | f::r,off,sh,h,hf=>by
  simp only [fieldsOf] at h
  cases h1:g f.type<;>simp only [h1,reduceCtorEq] at h
  rename_i s
  cases h2:fieldsOf P g r (off+P.cellsOf f.type)<;>simp only [h2,reduceCtorEq] at h
  rename_i l
  split at h
  case isFalse=>simp at h
  rename_i hc
  simp only [oJ] at h
  subst h
  obtain ⟨y,hy⟩:=hf f (by simp)
  have a1:=hg _ _ _ _ _ h1 hy
  have a2:=fields_open hg h2 fun f' hf'=>hf f' (by simp [hf'])
  rw [List.length_append,List.take_add,List.drop_drop,hc.2]
  rw [hc.1] at a1
  exact a1.append a2
theorem array_open {n k c:Nat} {e:TypeId} {cs:List Value} {s:List Sh} (hg:∀ fuel cs x,DataW.trod enc P w base spare held fuel e cs=some x→Opened w s cs) (hc:s.length=c)
  (hf:∀ i,i<k→∃ y,DataW.trod enc P w base spare held n e ((cs.drop (i*c)).take c)=some y):∀ m i,i+m=k→Opened w (List.replicate m s).flatten ((cs.drop (i*c)).take (m*c))
 | 0,i,_=>by simpa using Opened.nil w
 | m+1,i,h=>by
  obtain ⟨y,hy⟩:=hf i (by omega)
  have a1:=hg _ _ _ hy
  have a2:=array_open hg hc hf m (i+1) (by omega)
  rw [List.replicate_succ,List.flatten_cons,Nat.add_mul,Nat.one_mul,Nat.add_comm (m*c) c,List.take_add,List.drop_drop,← Nat.succ_mul]
  exact a1.append a2
theorem shape_open:∀ (m:Nat) (t:TypeId) (sh:List Sh) (fuel:Nat) (cs:List Value) (x:DataW H×List MemPlace),shapeOf P m t=some sh→DataW.trod enc P w base spare held fuel t cs=some x→Opened w sh cs
 | 0,_,_,_,_,_,h,_=>by simp [shapeOf] at h
 | m+1,t,sh,fuel,cs,x,h,hd=>by
  simp only [shapeOf] at h
  cases hu:P.underlying t with
  | none=>simp [hu] at h
  | some u =>
   rw [hu] at h
   cases u<;>simp only [reduceCtorEq,oJ] at h
   case bool =>
    subst h
    obtain ⟨b,rfl,_⟩:=DataW.trod_bool hu hd
    exact ⟨[.v (.bool b)],by simp [FitL,Fit],by simp [CRL,CRep],by simp⟩
   case int k =>
    subst h
    obtain ⟨n,rfl,_,hw⟩:=DataW.trod_int hu hd
    exact ⟨[.v (.int k n)],by simp [FitL,Fit,hw],by simp [CRL,CRep],by simp⟩
   case slice e =>
    cases hs:shapeOf P m e<;>simp only [hs,reduceCtorEq] at h
    rename_i s
    split at h
    case isFalse=>simp at h
    rename_i hc
    simp only [oJ] at h
    subst h
    rcases DataW.trod_slice hu hd with ⟨rfl,_⟩|⟨a,len,cap,elems,rest,n,_,rfl,_,hb,hl,hm,hlen,hel,_,_⟩
    ·refine ⟨[.rd s.length []],by simp [FitL,Fit],?_,by simp⟩
     simp only [CRL,CRep,and_true]
     exact ⟨none,0,rfl,by simp,fun _=>rfl,.inl trivial⟩
    ·have each:∀ i,i<len→∃ avs cs',FitL s avs∧CRL w (allG w) avs cs'∧(∀ y∈cs',y.oneCell'=true)∧w.cells? base (a.add (i*P.cellsOf e)) (P.cellsOf e)=some cs':=fun i hi=>by
      have h1:=hel i hi
      have h2:elems[i]?=some (elems[i]'(by omega)):=List.getElem?_eq_getElem (by omega)
      rw [h2,Option.bind_eq_some_iff] at h1
      obtain ⟨cs',q1,q2⟩:=h1
      obtain ⟨avs,p1,p2,p3⟩:=shape_open m e s _ _ _ hs q2
      exact ⟨avs,cs',p1,p2,p3,q1⟩
     by_cases h0:len=0
     ·subst h0
      refine ⟨[.rd s.length []],by simp [FitL,Fit],?_,by simp⟩
      simp only [CRL,CRep,and_true]
      exact ⟨some a,cap,rfl,by simp,by simp,.inl trivial⟩
     ·obtain ⟨avs0,cs0,f0,r0,_,c0⟩:=each 0 (by omega)
      have hcell0:=(World.cells?_some c0).2.2 0 (by have:=f0.length;have:=r0.length;have:=(World.cells?_some c0).2.1;omega)
      have hcs0:0<cs0.length:=by have:=f0.length;have:=r0.length;omega
      have hsp:a.spot=none:=by
       rw [List.getElem?_eq_getElem hcs0] at hcell0
       unfold World.cell? at hcell0
       split at hcell0
       ·split at hcell0
        ·simp at hcell0
        ·rename_i hns
         cases hq:a.spot with
         | none=>rfl
         | some z=>exfalso;apply hns;simp [Addr.add,hq]
       ·simp at hcell0
      have hat:∀ n,a.add n=⟨a.block,a.off+n,none⟩:=fun n=>by
       obtain ⟨b,o,sp⟩:=a
       simp only at hsp
       subst hsp
       unfold Addr.add
       split
       ·rename_i h;subst h;rfl
       ·rfl
      have hblk:a.block<w.heap.size:=by
       rw [List.getElem?_eq_getElem hcs0] at hcell0
       unfold World.cell? at hcell0
       split at hcell0
       ·rename_i hh
        have:=(Array.getElem?_eq_some_iff.1 hh).1
        rw [hat] at this
        simpa [Addr.add] using this
       ·simp at hcell0
      let f:Nat→List AV:=fun i=>if h:i<len then (each i h).choose else []
      have hf:∀ i (h:i<len),∃ cs',FitL s (f i)∧CRL w (allG w) (f i) cs'∧(∀ y∈cs',y.oneCell'=true)∧w.cells? base (a.add (i*P.cellsOf e)) (P.cellsOf e)=some cs':=fun i h=>by
       simp only [f,dif_pos h]
       exact (each i h).choose_spec
      refine ⟨[.rd s.length ((List.range len).map f)],?_,?_,by simp⟩
      ·simp only [FitL,Fit,and_true]
       refine ⟨_,rfl,by simp;omega,fun e' he'=>?_⟩
       obtain ⟨i,hi,rfl⟩:=List.mem_map.1 he'
       obtain ⟨_,h1,_⟩:=hf i (List.mem_range.1 hi)
       exact h1
      ·simp only [CRL,CRep,and_true]
       refine ⟨some a,cap,by simp,by simp;omega,by simp,.inr ⟨a.block,a.off,?_,hblk,CRows.of_get fun i e' he'=>?_⟩⟩
       ·obtain ⟨b,o,sp⟩:=a
        simp only at hsp
        rw [hsp]
       ·have hi:i<len:=by
         have:=(List.getElem?_eq_some_iff.1 he').1
         simpa using this
        have he2:e'=f i:=by
         rw [List.getElem?_map,List.getElem?_range hi] at he'
         simpa using he'.symm
        subst he2
        obtain ⟨cs',h1,h2,h3,h4⟩:=hf i hi
        have h5:=World.cells?_some h4
        refine ⟨h1.length,CCs.of_list h2 h3 fun j v hv=>?_⟩
        have hj:j<cs'.length:=(List.getElem?_eq_some_iff.1 hv).1
        have h6:=h5.2.2 j (by have:=h5.2.1;omega)
        rw [hv] at h6
        rw [← h6,hat]
        simp only [hc.1]
        unfold Addr.add
        split
        ·rename_i hz;rw [hz];rfl
        ·rfl
   case struct fs =>
    cases hs:fieldsOf P (shapeOf P m) fs.toList 0<;>simp only [hs,reduceCtorEq] at h
    rename_i s
    split at h
    case isFalse=>simp at h
    rename_i hc
    simp only [oJ] at h
    subst h
    obtain ⟨xs,n,rfl,_,hl,hxl,hx⟩:=DataW.trod_struct hu hd
    have:=fields_open (n:=n) (cs:=cs) (fun t sh fuel cs x h1 h2=>shape_open m t sh fuel cs x h1 h2) hs fun f hf=>by
     obtain ⟨i,hi,rfl⟩:=List.getElem_of_mem hf
     have hi':i<fs.size:=by simpa using hi
     have:=hx i fs[i] (Array.getElem?_eq_getElem hi')
     rw [List.getElem?_eq_getElem (by omega)] at this
     exact ⟨_,by simpa using this⟩
    rw [List.drop_zero,tkL (by omega)] at this
    exact this
   case array k e =>
    cases hs:shapeOf P m e<;>simp only [hs,reduceCtorEq] at h
    rename_i s
    split at h
    case isFalse=>simp at h
    rename_i hc
    simp only [oJ] at h
    subst h
    obtain ⟨xs,n,rfl,_,hl,hxl,hx⟩:=DataW.trod_array hu hd
    have:=array_open (n:=n) (k:=k) (c:=P.cellsOf e) (cs:=cs) (fun fuel cs x h=>shape_open m e s fuel cs x hs h) hc.1 (fun i hi=>by
     have:=hx i hi
     rw [List.getElem?_eq_getElem (by omega)] at this
     exact ⟨_,this⟩) k 0 (by omega)
    rw [Nat.zero_mul,List.drop_zero,tkL (by rw [hl,← hc.2,hc.1];exact Nat.le_refl _)] at this
    exact this
end
end Go.AM
namespace Go.AM
open Go
theorem specF_flat {ι:Type} {A:ι→List AV} {R:ι→AV} (h:∀ i,(R i).flat) {avs:List AV} {r:AV} (hr:spF A R avs=some r):r.flat:=by
 obtain ⟨i,_,rfl⟩:=specF_some hr
 exact h i
theorem cPs {ι:Type} {A:ι→List AV} {R:ι→AV} {avs:List AV} {M:Nat→AO} {n:Nat} (i:ι) (hp:peekVals M avs=some (A i)) (inj:∀ j,A j=A i→R j=R i) (ho:(oRt n (R i)).2.2≤n+16) :
  caP (spF A R) avs M n=some ((oRt n (R i)).1,(oRt n (R i)).2.1):=by
 unfold caP
 rw [hp]
 simp only [sFe i inj,if_pos ho]
theorem xoS {P : Program} {X : AX} (h : XOK P X) {f : FuncId} {fn : Func} {ι : Type} {A : ι → List AV} {R : ι → AV} (hs : PSd P f (spF A R)) (hfl : ∀ i, (R i).flat) (hf : P.funcs[f]? = some fn) (hn : (fn.body.isSome && !(fn.name == "runtime.NumGoroutine")) = true) :
  XOK P (X.add f (caP (spF A R))) :=
 xok_add h (.inl ⟨hs.caP fun _ _ h=>specF_flat hfl h,boK fn hf hn⟩) fun _ _ _ _ h=>callP_keys h
theorem gMh {k:Nat} {o:AO} {r:List (Nat×AO)}:getM ((k,o)::r) k=o:=by simp [getM]
theorem gMm {k b:Nat} {o:AO} {r:List (Nat×AO)} (h:k≠b):getM ((k,o)::r) b=getM r b:=by simp [getM,h]
theorem gMn {b:Nat}:getM [] b=.dead:=rfl
def vr (n b m:Nat):Nat:=if b<n then m else if m=0 then 0 else 1
mutual
def AV.iso (n:Nat) (σ:Nat→Nat):AV→AV
 | .bp b o=>.bp (σ b) o
 | .sl b m s o k=>.sl (σ b) (vr n b m) s o k
 | .ep b m s i j=>.ep (σ b) (vr n b m) s i j
 | .bs b o s k=>.bs (σ b) o s k
 | .agg cs=>.agg (isoL n σ cs)
 | .tup cs=>.tup (isoL n σ cs)
 | .fn f cs=>.fn f (isoL n σ cs)
 | .ifc f cs=>.ifc f (isoL n σ cs)
 | .any=>.any
 | .v x=>.v x
 | .rd s xs=>.rd s xs
 | .ow s xs=>.ow s xs
 | .rp cs=>.rp cs
 | .rf cs=>.rf cs
 | .mp b m=>.mp (σ b) (vr n b m)
 | .rm k es=>.rm k es
 | .om k es=>.om k es
def isoL (n:Nat) (σ:Nat→Nat):List AV→List AV
 | []=>[]
 | a::r=>a.iso n σ::isoL n σ r
end
mutual
def AV.cur (M:Nat→AO):AV→Prop
 | .sl b m _ _ _|.ep b m _ _ _=>∃ s f xs,M b=.vec m s f xs
 | .mp b m=>∃ k es,M b=.map m k es
 | .agg cs|.tup cs|.fn _ cs|.ifc _ cs=>curL M cs
 | _=>True
def curL (M:Nat→AO):List AV→Prop
 | []=>True
 | a::r=>a.cur M∧curL M r
end
def AO.iso (n:Nat) (σ:Nat→Nat) (b:Nat):AO→AO
 | .dead=>.dead
 | .box cs=>.box (isoL n σ cs)
 | .vec m s f xs=>.vec (vr n b m) s f xs
 | .map m k es=>.map (vr n b m) k es
def AO.cur (M:Nat→AO):AO→Prop
 | .box cs=>curL M cs
 | _=>True
def Env.iso (E:Env) (n:Nat) (τ:Nat→Nat):Env:={ G:=E.G,alive:=fun b=>E.alive (τ b),ver:=fun b=>vr n (τ b) (E.ver (τ b)),loc:=fun b=>E.loc (τ b) }
section
variable {E:Env} {w:World} {n:Nat} {σ τ:Nat→Nat} {M:Nat→AO}
mutual
theorem Rep.iso (hst:∀ b,τ (σ b)=b) (hM:MemOK E w M):∀ {a:AV} {x:Value},a.cur M→Rep E w a x→Rep (E.iso n τ) w (a.iso n σ) x
 | .bp b o,x,_,h=>by
  simp only [Rep,AV.iso,Env.iso,hst] at h ⊢
  obtain ⟨h1,h2,h3⟩:=h
  exact ⟨h1,by rw [h2];simp [vr],h3⟩
 | .sl b m s o k,x,hc,h=>by
  simp only [Rep,AV.iso,Env.iso,hst,AV.cur] at h hc ⊢
  obtain ⟨h1,h2,h3,p,c,h4,h5,h6,h7⟩:=h
  obtain ⟨s',f',xs',hb⟩:=hc
  have ho:=hM b h1
  rw [hb] at ho
  simp only [ObR] at ho
  obtain ⟨hv,_⟩:=ho
  refine ⟨h1,?_,?_,p,c,h4,h5,h6,fun _=>h7 hv.symm⟩
  ·unfold vr;split
   ·exact h2
   ·rw [if_neg (by omega)];exact Nat.le_refl _
  ·rw [hv];exact Nat.le_refl _
 | .ep b m s i j,x,hc,h=>by
  simp only [Rep,AV.iso,Env.iso,hst,AV.cur] at h hc ⊢
  obtain ⟨h1,h2,h3,a,h4,h5⟩:=h
  obtain ⟨s',f',xs',hb⟩:=hc
  have ho:=hM b h1
  rw [hb] at ho
  simp only [ObR] at ho
  obtain ⟨hv,_⟩:=ho
  refine ⟨h1,?_,?_,a,h4,fun _=>h5 hv.symm⟩
  ·unfold vr;split
   ·exact h2
   ·rw [if_neg (by omega)];exact Nat.le_refl _
  ·rw [hv];exact Nat.le_refl _
 | .bs b o s k,x,_,h=>by
  simp only [Rep,AV.iso,Env.iso,hst] at h ⊢
  obtain ⟨h1,h2,h3⟩:=h
  exact ⟨h1,by rw [h2];simp [vr],h3⟩
 | .mp b m,x,hc,h=>by
  simp only [Rep,AV.iso,Env.iso,hst,AV.cur] at h hc ⊢
  obtain ⟨h1,h2,h3,blk,h4,h5⟩:=h
  obtain ⟨k',es',hb⟩:=hc
  have ho:=hM b h1
  rw [hb] at ho
  simp only [ObR] at ho
  obtain ⟨hv,_⟩:=ho
  refine ⟨h1,?_,?_,blk,h4,fun _=>h5 hv.symm⟩
  ·unfold vr;split
   ·exact h2
   ·rw [if_neg (by omega)];exact Nat.le_refl _
  ·rw [hv];exact Nat.le_refl _
 | .rm ..,_,_,h=>by simp only [Rep,AV.iso] at h ⊢;exact h
 | .om ..,_,_,h=>by simp only [Rep,AV.iso] at h ⊢;exact h
 | .agg cs,x,hc,h=>by
  simp only [Rep,AV.iso,AV.cur] at h hc ⊢
  obtain ⟨vs,h1,h2,h3⟩:=h
  exact ⟨vs,h1,h2,RepL.iso hst hM hc h3⟩
 | .tup cs,x,hc,h=>by
  simp only [Rep,AV.iso,AV.cur] at h hc ⊢
  obtain ⟨vs,h1,h3⟩:=h
  exact ⟨vs,h1,RepL.iso hst hM hc h3⟩
 | .fn f cs,x,hc,h=>by
  simp only [Rep,AV.iso,AV.cur] at h hc ⊢
  obtain ⟨vs,h1,h3⟩:=h
  exact ⟨vs,h1,RepL.iso hst hM hc h3⟩
 | .ifc f cs,x,hc,h=>by
  simp only [Rep,AV.iso,AV.cur] at h hc ⊢
  obtain ⟨vs,h1,h3⟩:=h
  exact ⟨vs,h1,RepL.iso hst hM hc h3⟩
 | .any,_,_,h=>by simp only [Rep,AV.iso] at h ⊢;exact h
 | .v _,_,_,h=>by simp only [Rep,AV.iso] at h ⊢;exact h
 | .rd ..,_,_,h=>by simp only [Rep,AV.iso] at h ⊢;exact h
 | .ow ..,_,_,h=>by simp only [Rep,AV.iso] at h ⊢;exact h
 | .rp ..,_,_,h=>by simp only [Rep,AV.iso] at h ⊢;exact h
 | .rf ..,_,_,h=>by simp only [Rep,AV.iso] at h ⊢;exact h
theorem RepL.iso (hst:∀ b,τ (σ b)=b) (hM:MemOK E w M):∀ {as:List AV} {xs:List Value},curL M as→RepL E w as xs→RepL (E.iso n τ) w (isoL n σ as) xs
 | [],[],_,_=>by simp [RepL,isoL]
 | a::as,x::xs,hc,h=>by
  simp only [RepL,isoL,curL] at h hc ⊢
  exact ⟨Rep.iso hst hM hc.1 h.1,RepL.iso hst hM hc.2 h.2⟩
 | [],_::_,_,h=>by simp [RepL] at h
 | _::_,[],_,h=>by simp [RepL] at h
end
theorem ObR.iso (hst:∀ b,τ (σ b)=b) (hM:MemOK E w M) {b:Nat}:∀ {o:AO},o.cur M→ObR E w b o→ObR (E.iso n τ) w (σ b) (o.iso n σ b)
 | .dead,_,_=>trivial
 | .box cs,hc,h=>by
  simp only [ObR,AO.iso,Env.iso,hst,AO.cur] at h hc ⊢
  obtain ⟨h1,blk,t,vs,h2,h3,h4,h5⟩:=h
  exact ⟨by rw [h1];simp [vr],blk,t,vs,h2,h3,h4,RepL.iso hst hM hc h5⟩
 | .vec m s f xs,_,h=>by
  simp only [ObR,AO.iso,Env.iso,hst] at h ⊢
  obtain ⟨h1,h2,h3⟩:=h
  refine ⟨by rw [h1],?_,h3⟩
  unfold vr;split
  ·exact h2
  ·rw [if_neg (by omega)];exact Nat.le_refl _
 | .map m k es,_,h=>by
  simp only [ObR,AO.iso,Env.iso,hst] at h ⊢
  obtain ⟨h1,h2,h3⟩:=h
  refine ⟨by rw [h1],?_,h3⟩
  unfold vr;split
  ·exact h2
  ·rw [if_neg (by omega)];exact Nat.le_refl _
end
def St.iso (n:Nat) (σ:Nat→Nat) (st:St):St:=⟨st.s.map fun p=>(p.1,p.2.iso n σ),st.m.map fun p=>(σ p.1,p.2.iso n σ p.1),st.nx⟩
theorem getS_iso {n:Nat} {σ:Nat→Nat} {t:Nat}:∀ {l:List (Nat×AV)},getS (l.map fun p=>(p.1,p.2.iso n σ)) t=(getS l t).iso n σ
 | []=>by simp [getS,AV.iso]
 | p::r=>by
  simp only [List.map_cons,getS]
  split
  ·rfl
  ·exact getS_iso
theorem getM_iso {n:Nat} {σ τ:Nat→Nat} (hst:∀ b,τ (σ b)=b) (hts:∀ b,σ (τ b)=b) {t:Nat}:∀ {l:List (Nat×AO)},getM (l.map fun p=>(σ p.1,p.2.iso n σ p.1)) t=(getM l (τ t)).iso n σ (τ t)
 | []=>by simp [getM,AO.iso]
 | p::r=>by
  simp only [List.map_cons,getM]
  by_cases e:σ p.1=t
  ·have:p.1=τ t:=by rw [← e,hst]
   rw [if_pos e,if_pos this,this]
  ·have:¬ p.1=τ t:=fun h=>e (by rw [h,hts])
   rw [if_neg e,if_neg this]
   exact getM_iso hst hts
theorem le_iso {n:Nat} {st:St} {σ τ:Nat→Nat} (hst:∀ b,τ (σ b)=b) (hts:∀ b,σ (τ b)=b) (hfix:∀ b,b<n→σ b=b) (hnx:∀ b,b<st.nx→σ b<st.nx)
  (hs:∀ p∈st.s,p.2.cur (getM st.m)) (hm:∀ p∈st.m,p.2.cur (getM st.m)):Le n st (st.iso n σ):=fun N w0 bl a w hb ⟨E,h,h1,h2⟩=>by
 subst hb
 have hcs:∀ t,(getS st.s t).cur (getM st.m):=fun t=>by
  rcases getS_mem (s:=st.s) (t:=t) with e|⟨p,hp,_,e⟩
  ·rw [e];simp [AV.cur]
  ·rw [← e];exact hs p hp
 have hcm:∀ t,(getM st.m t).cur (getM st.m):=fun t=>by
  rcases getM_mem (m:=st.m) (t:=t) with e|⟨p,hp,_,e⟩
  ·rw [e];trivial
  ·rw [← e];exact hm p hp
 have hfix':∀ b,b<bl.n→τ b=b:=fun b hb=>by have:=hfix b hb;rw [← this,hst,this]
 refine ⟨E.iso bl.n τ,⟨h.defers,h.size,⟨h.inv.frame,⟨h.inv.gin.G,fun b hb=>?_,fun b hb=>?_⟩,h.inv.low,h.inv.gout,h.inv.good,fun b blk base sz hb hl=>h.inv.locs (τ b) blk base sz hb hl,fun b b' blk base sz base' sz' hb hb' hl hl'=>?_⟩,fun b hb=>?_,fun t=>?_⟩,fun k hk=>?_,fun k hk=>?_⟩
 ·have hlow:=h.inv.low b hb
  show E.alive (τ b)
  rw [hfix' b hlow];exact h.inv.gin.alive b hb
 ·have hlow:=h.inv.low b hb
  have:=h.inv.gin.same b hb
  simp only [Env.iso,hfix' b hlow,vr,if_pos hlow]
  exact this
 ·have:=h.inv.apart (τ b) (τ b') blk base sz base' sz' hb hb' hl hl'
  rw [← hts b,this,hts]
 ·have:=ObR.iso (n:=bl.n) hst h.mem (hcm (τ b)) (h.mem (τ b) hb)
  simp only [St.iso]
  rw [getM_iso hst hts]
  rwa [hts] at this
 ·simp only [St.iso]
  rw [getS_iso]
  exact Rep.iso hst h.mem (hcs t) (h.slots t)
 ·have h3:=h1 (τ k) hk
  have:=hnx (τ k) h3
  rwa [hts] at this
 ·simp only [St.iso] at hk
  rw [getM_iso hst hts] at hk
  have h3:=h2 (τ k) (fun e=>hk (by rw [e];rfl))
  have:=hnx (τ k) h3
  rwa [hts] at this
def swp (l:List (Nat×Nat)) (b:Nat):Nat:=match l with
 | []=>b
 | (i,j)::r=>if b=i then j else if b=j then i else swp r b
def swpL:List (Nat×Nat)→List Nat
 | []=>[]
 | (i,j)::r=>i::j::swpL r
theorem swp_or:∀ (l:List (Nat×Nat)) (b:Nat),swp l b=b∨swp l b∈swpL l
 | [],b=>.inl rfl
 | (i,j)::r,b=>by
  simp only [swp,swpL]
  split
  ·right;simp
  ·split
   ·right;simp
   ·rcases swp_or r b with h|h
    ·exact .inl h
    ·right;simp [h]
theorem swp_out:∀ {l:List (Nat×Nat)} {b:Nat},b ∉ swpL l→swp l b=b
 | [],b,_=>rfl
 | (i,j)::r,b,h=>by
  simp only [swpL,List.mem_cons,not_or] at h
  simp only [swp,if_neg h.1,if_neg h.2.1]
  exact swp_out h.2.2
theorem swp_inv:∀ {l:List (Nat×Nat)},(swpL l).Nodup→∀ b,swp l (swp l b)=b
 | [],_,_=>rfl
 | (i,j)::r,h,b=>by
  simp only [swpL,List.nodup_cons,List.mem_cons,not_or] at h
  obtain ⟨⟨h1,h2⟩,h3,h4⟩:=h
  have ih:=swp_inv h4
  by_cases e1:b=i
  ·subst e1
   simp only [swp,if_true]
   rw [if_neg (fun e=>h1 e.symm)]
  ·by_cases e2:b=j
   ·subst e2
    simp only [swp,if_neg e1,if_true]
   ·have:swp ((i,j)::r) b=swp r b:=by simp only [swp,if_neg e1,if_neg e2]
    rw [this]
    rcases swp_or r b with h|h
    ·rw [h];simp only [swp,if_neg e1,if_neg e2];exact h
    ·simp only [swp]
     have n1:¬ swp r b=i:=fun e=>h2 (by rw [← e];exact h)
     have n2:¬ swp r b=j:=fun e=>h3 (by rw [← e];exact h)
     rw [if_neg n1,if_neg n2]
     exact ih b
theorem le_swp {n:Nat} {st:St} (l:List (Nat×Nat)) (hl:(swpL l).Nodup) (hb:∀ b∈swpL l,n≤b∧b<st.nx) (hs:∀ p∈st.s,p.2.cur (getM st.m)) (hm:∀ p∈st.m,p.2.cur (getM st.m)):Le n st (st.iso n (swp l)) :=
 le_iso (swp_inv hl) (swp_inv hl) (fun b hb'=>swp_out fun h=>by have:=(hb b h).1;omega) (fun b hb'=>by
  rcases swp_or l b with h|h
  ·rw [h];exact hb'
  ·exact (hb _ h).2) hs hm
def keepM (ks:List Nat) (m:List (Nat×AO)):List (Nat×AO):=ks.map fun k=>(k,getM m k)
theorem getM_keepM {ks:List Nat} {m:List (Nat×AO)} {t:Nat}:getM (keepM ks m) t=if t∈ks then getM m t else .dead:=by
 induction ks with
 | nil=>rfl
 | cons k r ih =>
  simp only [keepM,List.map_cons,getM,List.mem_cons]
  by_cases e:k=t
  ·subst e;simp
  ·rw [if_neg e]
   simp only [keepM] at ih
   rw [ih]
   simp [Ne.symm e]
theorem le_keep2 (n:Nat) (ks km:List Nat) (st:St):Le n st ⟨kpS ks st.s,keepM km st.m,st.nx⟩:=fun N w0 bl a w _ ⟨E,h,h1,h2⟩=>by
 refine ⟨E,⟨h.defers,h.size,h.inv,fun b hb=>?_,fun t=>?_⟩,h1,fun k hk=>h2 k fun e=>hk ?_⟩
 ·rw [getM_keepM]
  split
  ·exact h.mem b hb
  ·trivial
 ·rw [getS_keepS]
  split
  ·exact h.slots t
  ·simp [Rep,CRep]
 ·rw [getM_keepM,e];simp
theorem le_turn {n:Nat} {s s':List (Nat×AV)} {m m':List (Nat×AO)} {nx nx':Nat} (l:List (Nat×Nat)) (ks km:List Nat) {s1:List (Nat×AV)} {m1:List (Nat×AO)}
  (e1:kpS ks s=s1) (e2:keepM km m=m1) (hl:(swpL l).Nodup) (hb:∀ b∈swpL l,n≤b∧b<nx) (hs:∀ p∈s1,p.2.cur (getM m1)) (hm:∀ p∈m1,p.2.cur (getM m1))
  (h:Le n ⟨s1.map fun p=>(p.1,p.2.iso n (swp l)),m1.map fun p=>(swp l p.1,p.2.iso n (swp l) p.1),nx⟩ ⟨s',m',nx'⟩):Le n ⟨s,m,nx⟩ ⟨s',m',nx'⟩:=by
 subst e1 e2
 exact ((le_keep2 n ks km ⟨s,m,nx⟩).trans (le_swp l hl hb hs hm)).trans h
theorem RepL.set' {E:Env} {w:World}:∀ {as:List AV} {xs:List Value} {i:Nat} {a:AV} {x:Value},RepL E w as xs→xs[i]?=some x→Rep E w a x→RepL E w (as.set i a) xs
 | [],[],i,a,x,_,h,_=>by simp at h
 | b::as,y::xs,0,a,x,h,hx,hr=>by
  simp only [RepL,List.set_cons_zero] at h ⊢
  simp only [List.getElem?_cons_zero,oJ] at hx
  subst hx
  exact ⟨hr,h.2⟩
 | b::as,y::xs,i+1,a,x,h,hx,hr=>by
  simp only [RepL,List.set_cons_succ] at h ⊢
  exact ⟨h.1,RepL.set' h.2 (by simpa using hx) hr⟩
 | [],_::_,_,_,_,h,_,_=>by simp [RepL] at h
 | _::_,[],_,_,_,h,_,_=>by simp [RepL] at h
theorem le_nilcell {n:Nat} {s:List (Nat×AV)} {m:List (Nat×AO)} {nx b i sz:Nat} {cs:List AV} (hb:getM m b=.box cs) (hi:cs[i]?=some (.v (.slice none 0 0))) :
  Le n ⟨s,m,nx⟩ ⟨s,(b,.box (cs.set i (.sl nx 1 sz 0 0)))::(nx,.vec 1 sz false [])::m,nx+1⟩:=fun N w0 bl a w _ ⟨E,hs,h1,h2⟩=>by
 have hna:¬ E.alive nx:=fun hh=>by have:=h1 nx hh;simp at this
 have hbn:b<nx:=h2 b (by rw [hb];simp)
 have st:=StT.none hs.inv nx sz hna false
 have hmem:=st.mem hs.inv hs.mem
 refine ⟨_,⟨hs.defers,hs.size,st.inv,fun k hk=>?_,fun k=>st.rep hs.inv (hs.slots k)⟩,fun k hk=>?_,fun k hk=>?_⟩
 ·have:=hmem k hk
  simp only [updM] at this
  simp only [getM]
  by_cases e:b=k
  ·subst e
   rw [if_pos rfl]
   rw [if_neg (by omega),hb] at this
   simp only [ObR] at this ⊢
   obtain ⟨g1,blk,t,vs,g2,g3,g4,g5⟩:=this
   obtain ⟨x,q1,q2⟩:=g5.get hi
   simp only [Rep,CRep] at q2
   refine ⟨g1,blk,t,vs,g2,g3,g4,g5.set' q1 ?_⟩
   rw [q2]
   simp only [Rep]
   exact ⟨.inr rfl,Nat.le_refl _,by simp [Env.upd],none,0,rfl,Nat.le_refl _,fun _=>rfl,fun _=>by simp [Env.upd,SlAt]⟩
  ·rw [if_neg e]
   exact this
 ·rcases hk with hk|hk
  ·have:=h1 k hk;simp at this ⊢;omega
  ·simp;omega
 ·simp only [getM] at hk
  split at hk
  ·simp;omega
  ·split at hk
   ·simp;omega
   ·have:=h2 k hk;simp at this ⊢;omega
def AWR (c:Cx) (x:Code) (Q:Exit→St→Prop):Nat→St→Prop
 | 0,_=>False
 | n+1,st=>AW c x st (thenQ (AWR c x Q n) Q)
theorem aRd {c:Cx} {x:Code} {Q:Exit→St→Prop} {n:Nat} {st:St} (h:AW c x st (thenQ (AWR c x Q n) Q)):AWR c x Q (n+1) st:=h
open Classical in
theorem aRs_ {c:Cx} {x:Code} {Q:Exit→St→Prop} (n:Nat) {st:St} (h:AWR c x Q n st):AW c (.loop x) st Q :=
 aw_loop (ι:={p:Nat×St // AWR c x Q p.1 p.2}) (fun i=>i.1.2) (fun i=>i.1.1) ⟨(n,st),h⟩ (Le.refl _ _) fun ⟨⟨m,s⟩,hm⟩=>by
  cases m with
  | zero=>exact hm.elim
  | succ m =>
   exact aw_mono hm fun e s' hq=>by
    cases e with
    | normal=>exact ⟨⟨(m,s'),hq⟩,Le.refl _ _,by simp⟩
    | _=>exact hq
end Go.AM
namespace Go.AM
open Go
def nilA (s:Nat):AV→AV
 | .v (.slice none 0 0)=>.rd s []
 | a=>a
def nilV (s:Nat):AV→AV
 | .agg cs=>.agg (cs.map (nilA s))
 | a=>nilA s a
theorem nilA_ok {s:Nat} {w:World} {G:Nat→Prop} {a:AV} {x:Value} (h:CRep w G a x):CRep w G (nilA s a) x:=by
 unfold nilA
 split
 ·simp only [CRep] at h ⊢
  subst h
  exact ⟨none,0,rfl,by simp,fun _=>rfl,.inl trivial⟩
 ·exact h
theorem nilL_ok {s:Nat} {w:World} {G:Nat→Prop}:∀ {as:List AV} {xs:List Value},CRL w G as xs→CRL w G (as.map (nilA s)) xs
 | [],[],h=>h
 | a::as,x::xs,h=>by simp only [CRL,List.map_cons] at h ⊢;exact ⟨nilA_ok h.1,nilL_ok h.2⟩
 | [],_::_,h=>by simp [CRL] at h
 | _::_,[],h=>by simp [CRL] at h
theorem nilV_ok {s:Nat} {w:World} {G:Nat→Prop} {a:AV} {x:Value} (h:CRep w G a x):CRep w G (nilV s a) x:=by
 unfold nilV
 split
 ·simp only [CRep] at h ⊢
  obtain ⟨vs,h1,h2,h3⟩:=h
  exact ⟨vs,h1,h2,nilL_ok h3⟩
 ·exact nilA_ok h
theorem nilVs_ok {s:Nat} {w:World} {G:Nat→Prop}:∀ {as:List AV} {xs:List Value},CRL w G as xs→CRL w G (as.map (nilV s)) xs
 | [],[],h=>h
 | a::as,x::xs,h=>by simp only [CRL,List.map_cons] at h ⊢;exact ⟨nilV_ok h.1,nilVs_ok h.2⟩
 | [],_::_,h=>by simp [CRL] at h
 | _::_,[],h=>by simp [CRL] at h
theorem PSd.nil {P:Program} {f:FuncId} {F:List AV→Option AV} (h:PSd P f F) (s:Nat):PSd P f fun avs=>F (avs.map (nilV s)) :=
 fun w G args avs r hr hG ha=>h w G args _ r hr hG (nilVs_ok ha)
theorem xok_specn {P : Program} {X : AX} (h : XOK P X) {f : FuncId} {fn : Func} {ι : Type} {A : ι → List AV} {R : ι → AV} (s : Nat) (hs : PSd P f (spF A R)) (hfl : ∀ i, (R i).flat) (hf : P.funcs[f]? = some fn) (hn : (fn.body.isSome && !(fn.name == "runtime.NumGoroutine")) = true) :
  XOK P (X.add f (caP fun avs=>spF A R (avs.map (nilV s)))) :=
 xok_add h (.inl ⟨(hs.nil s).caP fun _ _ h=>specF_flat hfl h,boK fn hf hn⟩) fun _ _ _ _ h=>callP_keys h
attribute [simp] AV.iso isoL AV.cur curL AO.iso AO.cur swpL keepM
def RLe:AV→AV→Prop
 | .tup as,.tup bs=>SLeVs as bs
 | .tup _,_=>False
 | _,.tup _=>False
 | a,b=>SLeV a b
theorem RLe.ret {w:World} {G:Nat→Prop} {a b:AV} {x:Value} {bl:List Nat} (h:RLe a b) (ho:ORet w G a x bl) (hn:bl.Nodup) :
  ∃ bl',bl'.Sublist bl∧∀ G',(∀ k,G k→G' k)→(∀ k∈bl,k ∉ bl'→G' k)→ORet w G' b x bl':=by
 by_cases ha:∃ as,a=.tup as
 ·obtain ⟨as,rfl⟩:=ha
  cases b<;>simp only [RLe] at h
  rename_i bs
  simp only [ORet] at ho
  obtain ⟨vs,rfl,ho⟩:=ho
  obtain ⟨c,k1,k2⟩:=h.vals ho hn
  exact ⟨c,k1,fun G' p q=>by simp only [ORet];exact ⟨vs,rfl,k2 G' p q⟩⟩
 ·have h1:SLeV a b:=by cases a<;>first|exact absurd ⟨_,rfl⟩ ha|(cases b<;>first|exact h|exact h.elim)
  have h2:OVal w G a x bl:=by cases a<;>first|exact absurd ⟨_,rfl⟩ ha|exact ho
  obtain ⟨c,k1,k2⟩:=h1.val h2 hn
  refine ⟨c,k1,fun G' p q=>?_⟩
  have:=k2 G' p q
  cases b<;>first|exact this|(cases a<;>first|exact h.elim|exact absurd ⟨_,rfl⟩ ha)
theorem PSd.soft {P:Program} {f:FuncId} {F F':List AV→Option AV} (h:PSd P f F) (hs:∀ avs r',F' avs=some r'→∃ r,F avs=some r∧RLe r r'):PSd P f F':=by
 intro w G args avs r' hr hG ha
 obtain ⟨r,h1,h2⟩:=hs avs r' hr
 refine (h w G args avs r h1 hG ha).mono fun e w' hq=>?_
 obtain ⟨x,G',bl,q1,q2,q3,q4,q5,q6,q7⟩:=hq
 obtain ⟨c,k1,k2⟩:=h2.ret q5 q6
 refine ⟨x,fun k=>G' k∨(k∈bl∧k ∉ c),c,q1,q2,fun k hk=>.inl (q3 k hk),fun k hk=>?_,k2 _ (fun k hk=>.inl hk) (fun k hk hn=>.inr ⟨hk,hn⟩),k1.nodup q6,fun k hk=>?_⟩
 ·rcases hk with hk|⟨hk,_⟩
  ·exact q4 k hk
  ·exact ⟨(q7 k hk).1,.inr (q7 k hk).2.2⟩
 ·have:=q7 k (k1.subset hk)
  exact ⟨this.1,fun hh=>hh.elim this.2.1 fun h3=>h3.2 hk,this.2.2⟩
theorem specF_soft {ι:Type} {A:ι→List AV} {R R':ι→AV} (h:∀ i,RLe (R i) (R' i)) {avs:List AV} {r':AV} (hr:spF A R' avs=some r'):∃ r,spF A R avs=some r∧RLe r r':=by
 unfold spF at hr ⊢
 split at hr
 ·rename_i hh
  simp only [oJ] at hr
  subst hr
  rw [dif_pos hh]
  exact ⟨_,rfl,h _⟩
 ·simp at hr
theorem PSd.softF {P:Program} {f:FuncId} {ι:Type} {A:ι→List AV} {R R':ι→AV} (h:PSd P f (spF A R)) (hs:∀ i,RLe (R i) (R' i)):PSd P f (spF A R'):=h.soft fun _ _ hr=>specF_soft hs hr
theorem le_nilslot {n:Nat} {s:List (Nat×AV)} {m:List (Nat×AO)} {nx t sz:Nat} (hb:getS s t=.v (.slice none 0 0)) :
  Le n ⟨s,m,nx⟩ ⟨(t,.sl nx 1 sz 0 0)::s,(nx,.vec 1 sz false [])::m,nx+1⟩:=fun N w0 bl a w _ ⟨E,hs,h1,h2⟩=>by
 have hna:¬ E.alive nx:=fun hh=>by have:=h1 nx hh;simp at this
 have st:=StT.none hs.inv nx sz hna false
 have hmem:=st.mem hs.inv hs.mem
 refine ⟨_,⟨hs.defers,hs.size,st.inv,fun k hk=>?_,fun k=>?_⟩,fun k hk=>?_,fun k hk=>?_⟩
 ·have:=hmem k hk
  simpa only [updM,getM] using this
 ·simp only [getS]
  by_cases e:t=k
  ·subst e
   rw [if_pos rfl]
   have hr:=hs.slots t
   rw [hb] at hr
   simp only [Rep,CRep] at hr
   rw [hr]
   simp only [Rep]
   exact ⟨.inr rfl,Nat.le_refl _,by simp [Env.upd],none,0,rfl,Nat.le_refl _,fun _=>rfl,fun _=>by simp [Env.upd,SlAt]⟩
  ·rw [if_neg e]
   exact st.rep hs.inv (hs.slots k)
 ·rcases hk with hk|hk
  ·have:=h1 k hk;simp at this ⊢;omega
  ·simp;omega
 ·simp only [getM] at hk
  split at hk
  ·simp;omega
  ·have:=h2 k hk;simp at this ⊢;omega
def AV.closedV:AV→Bool
 | .agg cs|.fn _ cs=>cs.all AV.isClosed
 | a=>a.isClosed
theorem Rep.to_cV {E:Env} {w:World} {a:AV} {x:Value} (hc:a.closedV=true) (h:Rep E w a x):CRep w E.G a x:=by
 by_cases ha:∃ cs,a=.agg cs
 ·obtain ⟨cs,rfl⟩:=ha
  simp only [Rep] at h
  obtain ⟨vs,h1,h2,h3⟩:=h
  simp only [CRep]
  exact ⟨vs,h1,h2,h3.to_c hc⟩
 ·by_cases hf:∃ g cs,a=.fn g cs
  ·obtain ⟨g,cs,rfl⟩:=hf
   simp only [Rep] at h
   obtain ⟨vs,h1,h3⟩:=h
   simp only [CRep]
   exact ⟨vs,h1,h3.to_c hc⟩
  have:a.isClosed=true:=by cases a<;>first|exact hc|exact absurd ⟨_,rfl⟩ ha|exact absurd ⟨_,_,rfl⟩ hf
  exact h.to_c this
theorem RepL.to_cV {E:Env} {w:World}:∀ {as:List AV} {xs:List Value},as.all AV.closedV=true→RepL E w as xs→CRL w E.G as xs
 | [],[],_,_=>by simp [CRL]
 | a::as,x::xs,hc,h=>by
  simp only [List.all_cons,Bool.and_eq_true] at hc
  simp only [RepL] at h
  simp only [CRL]
  exact ⟨Rep.to_cV hc.1 h.1,RepL.to_cV hc.2 h.2⟩
 | [],_::_,_,h=>by simp [RepL] at h
 | _::_,[],_,h=>by simp [RepL] at h
def callD (F:List AV→Option AV) (avs:List AV) (_M:Nat→AO) (nid:Nat):Option (AV×List (Nat×AO)) :=
 if avs.all AV.closedV=true then match F avs with
  | some r=>if (oRt nid r).2.2≤nid+16 then some ((oRt nid r).1,(oRt nid r).2.1) else none
  | none=>none
 else none
theorem PSd.callD {P:Program} {f:FuncId} {F:List AV→Option AV} (h:PSd P f F):CallOK P f (callD F):=by
 intro avs M nid av u hc w0 bl E w args hr hM hI hnid
 unfold AM.callD at hc
 split at hc
 case isFalse=>simp at hc
 rename_i hcl
 cases hF:F avs<;>simp only [hF,reduceCtorEq] at hc
 rename_i r
 split at hc
 case isFalse=>simp at hc
 rename_i hle
 simp only [oJ,pJ] at hc
 obtain ⟨rfl,rfl⟩:=hc
 refine (h w E.G args avs r hF hI.good (hr.to_cV hcl)).mono fun e w' ⟨x,G',bs,he,hf,hG,hG',ho,hnd,hb⟩=>?_
 have st:=StT.pure hI hf G' hG hG'
 have hsp:Spare w0 bl { E with G:=G' } w' bs:=fun k hk=>by
  have h1:=hb k hk
  refine ⟨h1.1,h1.2.1,.inl (Nat.le_trans hI.frame.size h1.2.2),fun b base sz hb' hl=>?_⟩
  have:=(hI.locs b k base sz hb' hl).1
  omega
 obtain ⟨E',o,hx⟩:=openRet_ok st.inv (nid:=nid) (a:=r) (fun k p q=>hnid k p (by omega)) ho hsp hnd
 exact ⟨x,E',he,st.trans o.step (by simp),hx⟩
theorem callD_keys {F:List AV→Option AV} {avs:List AV} {M:Nat→AO} {nid:Nat} {r:AV×List (Nat×AO)} (h:callD F avs M nid=some r):∀ b∈r.2.map (·.1),nid≤b∧b<nid+16:=by
 simp only [callD] at h
 split at h
 case isFalse=>simp at h
 split at h
 case h_2=>simp at h
 split at h
 case isFalse=>simp at h
 rename_i hle
 simp only [oJ] at h
 subst h
 intro b hb
 have:=openRet_keys b hb
 omega
end Go.AM
namespace Go.AM
open Go Go.ChangeShapes Go.WideShapes Go.ChangeAt Go.RowKit
theorem okWide_agg {P:Program} {w:World} {r:Reach} {base:Nat} {t:TypeId} {v:Value} (h:Value.okWide P w r base t v) :
    (∃ cs,v=.agg cs∧((∃ fs,P.underlying t=some (.struct fs))∨∃ n e,P.underlying t=some (.array n e))) ∨
    (v.cells=#[v]∧(∀ fs,P.underlying t≠some (.struct fs))∧∀ n e,P.underlying t≠some (.array n e)):=by
  unfold Value.okWide at h
  split at h
  · rename_i fs hu
    obtain ⟨cs,rfl,_⟩:=h
    exact .inl ⟨cs,rfl,.inl ⟨fs,hu⟩⟩
  · rename_i n e hu
    obtain ⟨cs,rfl,_⟩:=h
    exact .inl ⟨cs,rfl,.inr ⟨n,e,hu⟩⟩
  · rename_i h1 h2
    right
    refine ⟨?_,fun fs hu=>h1 fs hu,fun n e hu=>h2 n e hu⟩
    cases v with
    | agg cs =>
      exfalso
      unfold Cell.okWide at h
      split at h<;>try (rename_i heq;simp at heq;done)
      all_goals first
        | (rename_i heq;cases heq;done)
        | (unfold Cell.ok at h
           split at h<;>first|exact h|(rename_i heq;cases heq))
    | _=>rfl
def FitArg (P:Program) (t:TypeId) (a:AV):Prop:=∃ sh,shapeOf P 10 t=some sh ∧
  ((((∃ fs,P.underlying t=some (.struct fs))∨∃ n e,P.underlying t=some (.array n e))∧∃ cs,a=.agg cs∧FitL sh cs) ∨
   (((∀ fs,P.underlying t≠some (.struct fs))∧∀ n e,P.underlying t≠some (.array n e))∧FitL sh [a]))
def FitArgs (P:Program):List TypeId→List AV→Prop
 | [],[]=>True
 | t::ts,a::as=>FitArg P t a∧FitArgs P ts as
 | _,_=>False
section
variable {H:Type} {enc:TypeId×Value→H} {P:Program} {w:World}
theorem args_open {base:Nat} {sp:Nat→Bool} {b0:Nat} {r:Reach}:∀ {ts:List TypeId} {vs:List Value} {ds:List (DataW H)} {ps:List MemPlace},(∀ t∈ts,(shapeOf P 10 t).isSome=true) →
  (∀ (j:Nat) (t:TypeId) (v:Value),ts[j]?=some t→vs[j]?=some v→Value.okWide P w r b0 t v)→DataW.TrodAll enc P w base sp true ts vs ds ps→∃ avs,FitArgs P ts avs∧CRL w (allG w) avs vs∧ds.length=ts.length
 | [],[],[],_,_,_,_=>⟨[],by simp [FitArgs],by simp [CRL],rfl⟩
 | t::ts,v::vs,d::ds,ps,hs,ho,h=>by
  obtain ⟨p,q,h1,h2,_⟩:=h
  obtain ⟨avs,k1,k2,k3⟩:=args_open (fun t ht=>hs t (by simp [ht])) (fun j t v hj hv=>ho (j+1) t v (by simpa using hj) (by simpa using hv)) h2
  have hsh:=hs t (by simp)
  obtain ⟨sh,hsh⟩:=Option.isSome_iff_exists.1 hsh
  obtain ⟨fuel,hf⟩:=h1
  obtain ⟨as,q1,q2,q3⟩:=shape_open 10 t sh fuel _ _ hsh hf
  rcases okWide_agg (ho 0 t v rfl rfl) with ⟨cs,rfl,hu⟩|⟨hc,hu⟩
  ·simp only [Value.cells] at q2 q3
   refine ⟨.agg as::avs,?_,?_,by simp [k3]⟩
   ·simp only [FitArgs];exact ⟨⟨sh,hsh,.inl ⟨hu,as,rfl,q1⟩⟩,k1⟩
   ·simp only [CRL,CRep];exact ⟨⟨cs.toList,by simp,q3,q2⟩,k2⟩
  ·rw [hc] at q2
   simp only [List.size_toArray,Array.toList] at q2
   match as,q1,q2 with
   | [a],q1,q2 =>
    simp only [CRL] at q2
    refine ⟨a::avs,?_,?_,by simp [k3]⟩
    ·simp only [FitArgs];exact ⟨⟨sh,hsh,.inr ⟨hu,q1⟩⟩,k1⟩
    ·simp only [CRL];exact ⟨q2.1,k2⟩
   | [],_,q2=>simp [CRL] at q2
   | _::_::_,_,q2=>simp [CRL] at q2
 | [],_::_,_,_,_,_,h=>by simp [DataW.TrodAll] at h
 | [],[],_::_,_,_,_,h=>by simp [DataW.TrodAll] at h
 | _::_,[],_,_,_,_,h=>by simp [DataW.TrodAll] at h
 | _::_,_::_,[],_,_,_,h=>by simp [DataW.TrodAll] at h
theorem args_stay (hl:laidOutB P=true) {W W':World} (hsize:∀ p:MemPlace,p.block<W.heap.size→W.sameAt W' p) {sp':Nat→Bool}:∀ {ts:List TypeId} {vs:List Value} {ds:List (DataW H)} {ps:List MemPlace},(∀ t∈ts,(P.readableRec t&&Nat.blt t P.types.size)=true) →
  DataW.TrodAll enc P W 0 (fun _=>true) true ts vs ds ps→(∀ p∈ps,p.block<W.heap.size)→(∀ p∈ps,sp' p.block=true)→DataW.TrodAll enc P W' 0 sp' true ts vs ds ps
 | [],[],[],_,_,h,_,_=>h
 | t::ts,v::vs,d::ds,ps,hs,h,hlt,hsp=>by
  obtain ⟨p,q,h1,h2,rfl⟩:=h
  have ht:=hs t (by simp)
  simp only [Bool.and_eq_true] at ht
  exact ⟨p,q,WideElems.Trod_stays hl ht.1 (by have:=ht.2;simp only [Nat.blt,Nat.ble_eq] at this;exact this) h1 (fun x hx=>hsize x (hlt x (by simp [hx]))) (fun x hx=>hsp x (by simp [hx])),
   args_stay hl hsize (fun t ht=>hs t (by simp [ht])) h2 (fun x hx=>hlt x (by simp [hx])) (fun x hx=>hsp x (by simp [hx])),rfl⟩
 | [],_::_,_,_,_,h,_,_=>by simp [DataW.TrodAll] at h
 | [],[],_::_,_,_,h,_,_=>by simp [DataW.TrodAll] at h
 | _::_,[],_,_,_,h,_,_=>by simp [DataW.TrodAll] at h
 | _::_,_::_,[],_,_,h,_,_=>by simp [DataW.TrodAll] at h
theorem post_stay {f:Func} {s:ChangeSpec} {apart fresh handsOn again:Bool} {W W':World} {args:Array Value} {v:Value} {ds gs:List (DataW H)} {before pa pv:List MemPlace}
  (hW:DataW.Whole enc P f.params.toList s.vars apart W args.toList ds gs before)
  (hres:∀ (b:Nat) (sp:Nat→Bool) (hd:Bool),DataW.TrodAll enc P W' b sp hd f.resultTypes.toList (v.resultList f.resultTypes.size) (s.fn H (ds++gs)).results [])
  (hargs:∀ sp:Nat→Bool,(∀ p∈before,sp p.block=true)→DataW.TrodAll enc P W' 0 sp true f.params.toList args.toList (s.fn H (ds++gs)).args pa)
  (hvars:∀ sp:Nat→Bool,(∀ p∈before,sp p.block=true)→DataW.TrodVars enc P W' sp s.vars (s.fn H (ds++gs)).vars pv)
  (hps:before=pa++pv) (hk:W.keptBut W' (·∈before)) (hfz:∀ a:Addr,a.block<W.heap.size→W'.frozen? a=W.frozen? a)
  (hok:∀ (j:Nat) (t:TypeId) (r:Value),f.resultTypes[j]?=some t→(v.resultList f.resultTypes.size)[j]?=some r→Value.okWide P W' .any 0 t r) :
  s.post enc P f apart fresh handsOn again W args v W':=by
 have hlt:=hW.lt
 have hthere:∀ p∈before,(fun b=>decide (b<W.heap.size)) p.block=true:=fun p hp=>by simpa using hlt p hp
 refine ⟨ds,gs,before,[],pa,pv,hW,hres _ _ _,hargs _ hthere,hvars _ hthere,World.keptBut_mono (fun p hp=>⟨hp,.inr (by rw [hps,List.mem_append] at hp;exact hp)⟩) hk,fun _=>?_⟩
 obtain ⟨_,_,_,_,_,hz,hn⟩:=hW
 have hmem:∀ p,p∈([]++pa)++pv→p∈before:=fun p hp=>by rw [hps];simpa using hp
 refine ⟨hok,_,_,([]++pa)++pv,⟨[]++pa,pv,trodAll_append (hargs _ (fun _ _=>rfl)) (hres _ _ _),hvars _ (fun _ _=>rfl),rfl,fun b off hp=>?_,fun ha=>?_⟩,fun p hp _=>?_⟩
 ·rw [hfz _ (hlt _ (hmem _ hp))]
  exact hz b off (hmem _ hp)
 ·have:=hn ha
  rw [hps] at this
  simpa using this
 ·rw [hps]
  simpa using hp
theorem law_contract {f:FuncId} {fn:Func} {s:ChangeSpec} {F:List AV→Option AV} {apart fresh handsOn again:Bool} {tb:TypeId} (hs:PSd P f F) (hl:laidOutB P=true)
  (hvars:s.vars=[]) (hspec:∀ (H:Type) (ds:List (DataW H)),ds.length=fn.params.size→(s.fn H ds).results=[.lit (.bool true)]∧(s.fn H ds).args=ds∧(s.fn H ds).vars=[])
  (hres:fn.resultTypes=#[tb]) (htb:P.underlying tb=some .bool) (hp:fn.params.toList.all (fun t=>(shapeOf P 10 t).isSome&&P.readableRec t&&Nat.blt t P.types.size)=true)
  (hF:∀ avs,FitArgs P fn.params.toList avs→F avs=some (B true))
  {W:World} {base:Nat} {args:Array Value} {ds gs:List (DataW H)} {before:List MemPlace}
  (hval:∀ (j:Nat) t v,fn.params[j]?=some t→args[j]?=some v→Value.okWide P W .any base t v)
  (hW:DataW.Whole enc P fn.params.toList s.vars apart W args.toList ds gs before) :
  Calls P f args W fun e W'=>∃ v,e=.returned v∧s.post enc P fn apart fresh handsOn again W args v W':=by
 have hW':=hW
 obtain ⟨p,q,hA,hV,rfl,hfz,hnd⟩:=hW
 rw [hvars] at hV
 obtain ⟨rfl,rfl⟩:=trodVars_none hV
 have hpp:∀ t∈fn.params.toList,(shapeOf P 10 t).isSome=true∧(P.readableRec t&&Nat.blt t P.types.size)=true:=fun t ht=>by
  have:=List.all_eq_true.1 hp t ht
  simp only [Bool.and_eq_true] at this ⊢
  exact ⟨this.1.1,this.1.2,this.2⟩
 obtain ⟨avs,h1,h2,h3⟩:=args_open (fun t ht=>(hpp t ht).1) (fun j t v hj hv=>hval j t v (by simpa using hj) (by simpa using hv)) hA
 refine (hs W (allG W) args avs (B true) (hF avs h1) (fun _ h=>h) h2).mono fun e W' ⟨x,G',bl,he,hf,_,_,ho,_,_⟩=>?_
 subst he
 have hx:x=.bool true:=by simp only [ORet,OVal,OLeaf,CRep] at ho;exact ho.2
 subst hx
 have hlt:∀ y∈p,y.block<W.heap.size:=fun y hy=>hW'.lt y (by simp [hy])
 have hold:∀ k,k<W.heap.size→W'.heap[k]?=W.heap[k]?:=fun k hk=>hf.old k hk (by simp)
 have hsame:∀ y:MemPlace,y.block<W.heap.size→W.sameAt W' y:=fun y hy=>by
  cases y with
  | cell b o=>exact World.cell?_of_block (w:=W) (hold b hy)
  | map b=>exact hold b hy
 have hfr:∀ a:Addr,a.block<W.heap.size→W'.frozen? a=W.frozen? a:=fun a ha=>World.frozen?_of_block (w:=W) (hold a.block ha)
 have hsp:=hspec H (ds++[]) (by rw [List.append_nil,h3];simp)
 simp only [List.append_nil] at hW' hsp
 refine ⟨_,rfl,post_stay (pa:=p) (pv:=[]) (by simpa using hW') (fun b sp hd=>?_) (fun sp hsp'=>?_) (fun sp hsp'=>?_) rfl ⟨hf.os,hf.out,fun i hi=>?_⟩ hfr (ok_one hres rfl (okWide_bool_mk htb _))⟩
 ·rw [List.append_nil,hsp.1,hres]
  exact trodAll_mk1 (shut_bool htb true)
 ·rw [List.append_nil,hsp.2.1]
  exact args_stay hl hsame (fun t ht=>(hpp t ht).2) hA hlt fun y hy=>hsp' y (by simp [hy])
 ·rw [List.append_nil,hsp.2.2,hvars]
  rfl
 ·rw [hold i hi]
  split<;>simp_all
end
end Go.AM
namespace Go.AM
open Go
def getL (ms:List AO) (b:Nat):AO:=(ms[b]?).getD .dead
def GSd (P:Program) (f:FuncId) (F:List AV→List AO→Option (AV×List AO)):Prop :=
 ∀ (w:World) (l:List Nat) (E:Env) (args:List Value) (avs:List AV) (ms:List AO) (r:AV) (ms':List AO),F avs ms=some (r,ms') →
  Inv w ⟨l,E,ms.length⟩ E w→(∀ b,b<ms.length→E.alive b)→MemOK E w (getL ms)→RepL E w avs args →
  Calls P f args.toArray w fun e w'=>∃ x E',e=.returned x∧Inv w ⟨l,E,ms.length⟩ E' w'∧(∀ b,E'.alive b→b<ms'.length)∧MemOK E' w' (getL ms')∧Rep E' w' r x
def idx:Nat→List AO→List (Nat×AO)
 | _,[]=>[]
 | k,o::r=>(k,o)::idx (k+1) r
theorem getM_idx:∀ {ms:List AO} {k b:Nat},getM (idx k ms) (k+b)=getL ms b
 | [],k,b=>by simp [idx,getM,getL]
 | o::r,k,0=>by simp [idx,getM,getL]
 | o::r,k,b+1=>by
  have ih:=getM_idx (ms:=r) (k:=k+1) (b:=b)
  simp only [idx,getM]
  rw [if_neg (by omega),show k+(b+1)=k+1+b by omega,ih]
  simp [getL]
theorem getM_idx0 {ms:List AO}:getM (idx 0 ms)=getL ms:=by
 funext b
 have:=getM_idx (ms:=ms) (k:=0) (b:=b)
 simpa using this
def LeavesG (T:TypeId→Option TD) (rv:List ResultVar) (n:Nat) (st:St) (r:AV) (ms':List AO):Prop :=
 ∃ as,aRs T st rv=some as∧Le n ⟨[(0,rtO as)],st.m,st.nx⟩ ⟨[(0,r)],idx 0 ms',ms'.length⟩
theorem gsound_of {P:Program} {f:FuncId} {fn:Func} {c:Code} {N:Nat} {F:List AV→List AO→Option (AV×List AO)} (hf:P.funcs[f]?=some fn) (hb:fn.body=some c) (hN:fn.ntmps=N)
  (h:∀ (w0:World) (l:List Nat) (E:Env) (avs:List AV) (ms:List AO) (r:AV) (ms':List AO),F avs ms=some (r,ms')→avs.length≤N∧∃ X,
   AW ⟨P,X,N,w0,⟨l,E,ms.length⟩⟩ c ⟨eSt avs,idx 0 ms,ms.length⟩ (fun e st=>(e=.normal∨e=.ret)∧LeavesG (Types P) fn.results.toList ms.length st r ms')) :
  GSd P f F:=by
 intro w l E args avs ms r ms' hF hI hal hM hr
 obtain ⟨hlen,X,haw⟩:=h w l E avs ms r ms' hF
 have hll:=hr.length
 have hsat:Sat N w ⟨l,E,ms.length⟩ { tmps:=args.toArray++Array.replicate (fn.ntmps - args.toArray.size) undef,defers:=[] } w ⟨eSt avs,idx 0 ms,ms.length⟩:=by
  refine ⟨E,⟨rfl,by simp [hN];omega,hI,by rw [getM_idx0];exact hM,fun t=>?_⟩,hI.low,fun k hk=>?_⟩
  ·rw [eSt,getS_enter]
   simp only [Nat.zero_le,if_true,Nat.sub_zero]
   cases ht:avs[t]? with
   | none=>simp [Rep,CRep]
   | some a =>
    obtain ⟨x,h1,h2⟩:=hr.get ht
    have hlt:=(List.getElem?_eq_some_iff.1 ht).1
    rw [Array.getD_eq_getD_getElem?,Array.getElem?_append_left (by simp;omega)]
    have:args.toArray[t]?=some x:=by simpa using h1
    rw [this]
    exact h2
  ·rw [getM_idx0] at hk
   unfold getL at hk
   by_cases e:k<ms.length
   ·exact e
   ·rw [List.getElem?_eq_none (by omega)] at hk
    exact absurd rfl hk
 refine calls_of_wp hf hb (wp_mono (haw _ _ hsat) fun e a w' ⟨st,⟨he,as,h1,h2⟩,E',hs,h3,h4⟩=>?_)
 obtain ⟨vs,k1,k2⟩:=aResults_ok hs h1
 have hrun:(results fn a.tmps).run P w'=.ok (if h:vs.toArray.size=1 then vs.toArray[0] else .tuple vs.toArray) w':=by
  unfold results
  rw [Sem.run_bind,← Array.toArray_toList (xs:=fn.results),List.mapM_toArray]
  simp only [Sem.run_map]
  have:(List.mapM (fun x=>match x with|.tmp t=>pure (a.tmps.getD t undef)|.cell b t=>do loadVar t (← asAddr (a.tmps.getD b undef))) fn.results.toList:Sem (List Value)).run P w'=.ok vs w':=k1
  erw [this]
  rfl
 have hrep:Rep E' w' (rtO as) (if h:vs.toArray.size=1 then vs.toArray[0] else .tuple vs.toArray):=by
  match as,vs,k2 with
  | [],[],_=>simp only [rtO,Rep];exact ⟨[],by simp,by simp [RepL]⟩
  | [a],[v],h =>
   simp only [RepL] at h
   simpa [rtO] using h.1
  | a::b::as,v::u::vs,h =>
   simp only [rtO,Rep]
   exact ⟨v::u::vs,by simp,h⟩
 have hs1:Sat 1 w ⟨l,E,ms.length⟩ { tmps:=#[if h:vs.toArray.size=1 then vs.toArray[0] else .tuple vs.toArray],defers:=[] } w' ⟨[(0,rtO as)],st.m,st.nx⟩:=by
  refine ⟨E',⟨rfl,rfl,hs.inv,hs.mem,fun t=>?_⟩,h3,h4⟩
  simp only [getS]
  split
  ·rename_i e;subst e;simpa using hrep
  ·simp [Rep,CRep]
 obtain ⟨E2,hs2,h5,_⟩:=h2 _ _ _ _ _ rfl hs1
 have hx:=hs2.slots 0
 simp only [getS,if_true] at hx
 have hfin:∃ x E',Ending.returned (if h:vs.toArray.size=1 then vs.toArray[0] else .tuple vs.toArray)=Ending.returned x∧Inv w ⟨l,E,ms.length⟩ E' w'∧(∀ b,E'.alive b→b<ms'.length)∧MemOK E' w' (getL ms')∧Rep E' w' r x :=
  ⟨_,E2,rfl,hs2.inv,h5,by have:=hs2.mem;rwa [getM_idx0] at this,by simpa using hx⟩
 rcases he with rfl|rfl
 ·exact ⟨hs.defers,_,hrun,hfin⟩
 ·exact ⟨hs.defers,_,hrun,hfin⟩
noncomputable def specG {ι:Type} (A:ι→List AV) (M:ι→List AO) (R:ι→AV) (O:ι→List AO) (avs:List AV) (ms:List AO):Option (AV×List AO) :=
 open Classical in if h:∃ i,A i=avs∧M i=ms then some (R h.choose,O h.choose) else none
theorem sGe {ι:Type} {A:ι→List AV} {M:ι→List AO} {R:ι→AV} {O:ι→List AO} (i:ι) (h:∀ j,A j=A i→M j=M i→R j=R i∧O j=O i):specG A M R O (A i) (M i)=some (R i,O i):=by
 unfold specG
 have hex:∃ j,A j=A i∧M j=M i:=⟨i,rfl,rfl⟩
 rw [dif_pos hex]
 obtain ⟨h1,h2⟩:=h _ hex.choose_spec.1 hex.choose_spec.2
 rw [h1,h2]
theorem specG_some {ι:Type} {A:ι→List AV} {M:ι→List AO} {R:ι→AV} {O:ι→List AO} {avs:List AV} {ms:List AO} {r:AV} {o:List AO} (h:specG A M R O avs ms=some (r,o)):∃ i,A i=avs∧M i=ms∧R i=r∧O i=o:=by
 unfold specG at h
 split at h
 ·rename_i hex
  simp only [oJ,pJ] at h
  exact ⟨_,hex.choose_spec.1,hex.choose_spec.2,h.1,h.2⟩
 ·simp at h
theorem gsS {ι:Type} {A:ι→List AV} {M:ι→List AO} {R:ι→AV} {O:ι→List AO} {P:Program} {f:FuncId} {fn:Func} {c:Code} (hf:P.funcs[f]?=some fn) (hb:fn.body=some c) (X:AX)
  (h:∀ (i:ι) (w0:World) (l:List Nat) (E:Env),(A i).length≤fn.ntmps ∧
   AW ⟨P,X,fn.ntmps,w0,⟨l,E,(M i).length⟩⟩ c ⟨eSt (A i),idx 0 (M i),(M i).length⟩ (fun e st=>(e=.normal∨e=.ret)∧LeavesG (Types P) fn.results.toList (M i).length st (R i) (O i))) :
  GSd P f (specG A M R O) :=
 gsound_of hf hb rfl fun w0 l E avs ms r ms' hr=>by
  obtain ⟨i,rfl,rfl,rfl,rfl⟩:=specG_some hr
  exact ⟨(h i w0 l E).1,X,(h i w0 l E).2⟩
mutual
def AV.nms:AV→List Nat
 | .bp b _|.sl b _ _ _ _|.ep b _ _ _ _|.bs b _ _ _|.mp b _=>[b]
 | .agg cs|.tup cs|.fn _ cs|.ifc _ cs=>nmsL cs
 | _=>[]
def nmsL:List AV→List Nat
 | []=>[]
 | a::r=>a.nms++nmsL r
end
def AO.nms:AO→List Nat
 | .box cs=>nmsL cs
 | _=>[]
theorem mem_nmsL {b:Nat}:∀ {l:List AV},b∈nmsL l↔∃ a∈l,b∈a.nms
 | []=>by simp [nmsL]
 | a::r=>by simp [nmsL,mem_nmsL (l:=r)]
mutual
theorem Rep.nms_alive {E:Env} {w:World}:∀ {a:AV} {x:Value},Rep E w a x→∀ b∈a.nms,E.alive b
 | .bp b o,x,h,c,hc=>by simp only [Rep,AV.nms,List.mem_singleton] at h hc;subst hc;exact h.1
 | .sl b m s o n,x,h,c,hc=>by simp only [Rep,AV.nms,List.mem_singleton] at h hc;subst hc;exact h.1
 | .ep b m s i j,x,h,c,hc=>by simp only [Rep,AV.nms,List.mem_singleton] at h hc;subst hc;exact h.1
 | .bs b o s n,x,h,c,hc=>by simp only [Rep,AV.nms,List.mem_singleton] at h hc;subst hc;exact h.1
 | .mp b m,x,h,c,hc=>by simp only [Rep,AV.nms,List.mem_singleton] at h hc;subst hc;exact h.1
 | .agg cs,x,h,c,hc=>by
  simp only [Rep,AV.nms] at h hc
  obtain ⟨vs,_,_,h⟩:=h
  exact RepL.nms_alive h c hc
 | .tup cs,x,h,c,hc=>by
  simp only [Rep,AV.nms] at h hc
  obtain ⟨vs,_,h⟩:=h
  exact RepL.nms_alive h c hc
 | .fn _ cs,x,h,c,hc=>by
  simp only [Rep,AV.nms] at h hc
  obtain ⟨vs,_,h⟩:=h
  exact RepL.nms_alive h c hc
 | .ifc _ cs,x,h,c,hc=>by
  simp only [Rep,AV.nms] at h hc
  obtain ⟨vs,_,h⟩:=h
  exact RepL.nms_alive h c hc
 | .any,_,_,c,hc=>by simp [AV.nms] at hc
 | .v _,_,_,c,hc=>by simp [AV.nms] at hc
 | .rd ..,_,_,c,hc=>by simp [AV.nms] at hc
 | .ow ..,_,_,c,hc=>by simp [AV.nms] at hc
 | .rp ..,_,_,c,hc=>by simp [AV.nms] at hc
 | .rf ..,_,_,c,hc=>by simp [AV.nms] at hc
 | .rm ..,_,_,c,hc=>by simp [AV.nms] at hc
 | .om ..,_,_,c,hc=>by simp [AV.nms] at hc
theorem RepL.nms_alive {E:Env} {w:World}:∀ {as:List AV} {xs:List Value},RepL E w as xs→∀ b∈nmsL as,E.alive b
 | [],[],_,c,hc=>by simp [nmsL] at hc
 | a::as,x::xs,h,c,hc=>by
  simp only [RepL,nmsL,List.mem_append] at h hc
  rcases hc with hc|hc
  ·exact Rep.nms_alive h.1 c hc
  ·exact RepL.nms_alive h.2 c hc
 | [],_::_,h,_,_=>by simp [RepL] at h
 | _::_,[],h,_,_=>by simp [RepL] at h
end
theorem ObR.nms_alive {E:Env} {w:World} {b:Nat} {o:AO} (h:ObR E w b o):∀ c∈o.nms,E.alive c:=by
 intro c hc
 cases o with
 | box cs =>
  simp only [ObR,AO.nms] at h hc
  obtain ⟨_,_,_,_,_,_,_,h⟩:=h
  exact h.nms_alive c hc
 | _=>simp [AO.nms] at hc
def Led (M:Nat→AO):List Nat→List Nat→Prop
 | _,[]=>True
 | fr,b::r=>b∈fr∧Led M ((M b).nms++fr) r
theorem led_alive {E:Env} {w:World} {M:Nat→AO} (hM:MemOK E w M):∀ {σ fr:List Nat},(∀ b∈fr,E.alive b)→Led M fr σ→∀ b∈σ,E.alive b
 | [],_,_,_,b,hb=>by simp at hb
 | c::σ,fr,hfr,h,b,hb=>by
  simp only [Led] at h
  have hc:=hfr c h.1
  rcases List.mem_cons.1 hb with rfl|hb
  ·exact hc
  ·refine led_alive hM (fr:=(M c).nms++fr) (fun d hd=>?_) h.2 b hb
   rcases List.mem_append.1 hd with hd|hd
   ·exact (hM c hc).nms_alive d hd
   ·exact hfr d hd
mutual
def AV.ren (σ:Nat→Nat) (v:Nat→Nat→Nat):AV→AV
 | .bp b o=>.bp (σ b) o
 | .sl b m s o k=>.sl (σ b) (v b m) s o k
 | .ep b m s i j=>.ep (σ b) (v b m) s i j
 | .bs b o s k=>.bs (σ b) o s k
 | .agg cs=>.agg (renL σ v cs)
 | .tup cs=>.tup (renL σ v cs)
 | .fn f cs=>.fn f (renL σ v cs)
 | .ifc f cs=>.ifc f (renL σ v cs)
 | .any=>.any
 | .v x=>.v x
 | .rd s xs=>.rd s xs
 | .ow s xs=>.ow s xs
 | .rp cs=>.rp cs
 | .rf cs=>.rf cs
 | .mp b m=>.mp (σ b) (v b m)
 | .rm k es=>.rm k es
 | .om k es=>.om k es
def renL (σ:Nat→Nat) (v:Nat→Nat→Nat):List AV→List AV
 | []=>[]
 | a::r=>a.ren σ v::renL σ v r
end
def AO.ren (σ:Nat→Nat) (v:Nat→Nat→Nat) (b:Nat):AO→AO
 | .dead=>.dead
 | .box cs=>.box (renL σ v cs)
 | .vec m s f xs=>.vec (v b m) s f xs
 | .map m k es=>.map (v b m) k es
def verOf:AO→Nat
 | .vec m _ _ _|.map m _ _=>m
 | _=>0
mutual
def AV.curB (M:Nat→AO):AV→Bool
 | .sl b m _ _ _|.ep b m _ _ _|.mp b m=>Nat.beq m (verOf (M b))
 | .agg cs|.tup cs|.fn _ cs|.ifc _ cs=>curBL M cs
 | _=>true
def curBL (M:Nat→AO):List AV→Bool
 | []=>true
 | a::r=>a.curB M&&curBL M r
end
def AO.curB (M:Nat→AO):AO→Bool
 | .box cs=>curBL M cs
 | _=>true
theorem verOf_ver {E:Env} {w:World} {b m:Nat} {o:AO} (h:ObR E w b o) (h1:1≤m) (e:m=verOf o):E.ver b=m:=by
 cases o with
 | vec m' s f xs=>simp only [ObR,verOf] at h e;rw [h.1,e]
 | map m' n es=>simp only [ObR,verOf] at h e;rw [h.1,e]
 | _=>simp only [verOf] at e;omega
mutual
def AV.okR (D:Nat→Prop) (V:Nat→Nat→Prop):AV→Prop
 | .bp b _|.bs b _ _ _=>D b
 | .sl b m _ _ _|.ep b m _ _ _|.mp b m=>D b∧V b m
 | .agg cs|.tup cs|.fn _ cs|.ifc _ cs=>okRL D V cs
 | _=>True
def okRL (D:Nat→Prop) (V:Nat→Nat→Prop):List AV→Prop
 | []=>True
 | a::r=>a.okR D V∧okRL D V r
end
def AO.okR (D:Nat→Prop) (V:Nat→Nat→Prop):AO→Prop
 | .box cs=>okRL D V cs
 | _=>True
mutual
theorem okR_true:∀ {a:AV},a.okR (fun _=>True) (fun _ _=>True)
 | .bp ..|.bs ..|.sl ..|.ep ..|.mp ..=>by simp [AV.okR]
 | .agg cs|.tup cs|.fn _ cs|.ifc _ cs=>by simp only [AV.okR];exact okRL_true
 | .any|.v _|.rd ..|.ow ..|.rp ..|.rf ..|.rm ..|.om ..=>by simp [AV.okR]
theorem okRL_true:∀ {l:List AV},okRL (fun _=>True) (fun _ _=>True) l
 | []=>by simp [okRL]
 | a::r=>by simp only [okRL];exact ⟨okR_true,okRL_true⟩
end
theorem okRO_true {o:AO}:o.okR (fun _=>True) (fun _ _=>True):=by
 cases o<;>simp only [AO.okR]
 exact okRL_true
section
variable {D:Nat→Prop} {M:Nat→AO}
mutual
theorem okR_cur:∀ {a:AV},(∀ b∈a.nms,D b)→a.curB M=true→a.okR D (fun b m=>m=verOf (M b))
 | .bp ..,h,_|.bs ..,h,_=>by simpa [AV.okR,AV.nms] using h
 | .sl b m _ _ _,h,k|.ep b m _ _ _,h,k|.mp b m,h,k=>by
  simp only [AV.okR,AV.nms,List.mem_singleton,forall_eq,AV.curB] at h k ⊢
  exact ⟨h,Nat.eq_of_beq_eq_true k⟩
 | .agg cs,h,k|.tup cs,h,k|.fn _ cs,h,k|.ifc _ cs,h,k=>by simp only [AV.okR,AV.nms,AV.curB] at h k ⊢;exact okRL_cur h k
 | .any,_,_|.v _,_,_|.rd ..,_,_|.ow ..,_,_|.rp ..,_,_|.rf ..,_,_|.rm ..,_,_|.om ..,_,_=>by simp [AV.okR]
theorem okRL_cur:∀ {l:List AV},(∀ b∈nmsL l,D b)→curBL M l=true→okRL D (fun b m=>m=verOf (M b)) l
 | [],_,_=>by simp [okRL]
 | a::r,h,k=>by
  simp only [okRL,nmsL,List.mem_append,curBL,Bool.and_eq_true] at h k ⊢
  exact ⟨okR_cur (fun b hb=>h b (.inl hb)) k.1,okRL_cur (fun b hb=>h b (.inr hb)) k.2⟩
end
theorem okRO_cur {o:AO} (h:∀ b∈o.nms,D b) (k:o.curB M=true):o.okR D (fun b m=>m=verOf (M b)):=by
 cases o<;>simp only [AO.okR]
 exact okRL_cur h k
end
structure RenOK (E E':Env) (w w':World) (σ:Nat→Nat) (v:Nat→Nat→Nat) (D:Nat→Prop) (V:Nat→Nat→Prop):Prop where
 G:∀ k,E.G k→E'.G k
 alive:∀ b,E.alive b→D b→E'.alive (σ b)
 loc:∀ b,E.alive b→D b→E'.loc (σ b)=E.loc b
 box:∀ b,E.alive b→D b→E.ver b=0→E'.ver (σ b)=0
 ver:∀ b m,E.alive b→D b→V b m→1≤m→m≤E.ver b→1≤v b m∧v b m≤E'.ver (σ b)∧(v b m=E'.ver (σ b)→m=E.ver b)
 heap:∀ k,E.G k→w'.heap[k]?=w.heap[k]?
section
variable {E E':Env} {w w':World} {σ:Nat→Nat} {v:Nat→Nat→Nat} {D:Nat→Prop} {V:Nat→Nat→Prop}
mutual
theorem RenOK.rep (h:RenOK E E' w w' σ v D V):∀ {a:AV} {x:Value},a.okR D V→Rep E w a x→Rep E' w' (a.ren σ v) x
 | .bp b o,x,hd,hr=>by
  simp only [Rep,AV.ren,AV.okR] at hr hd ⊢
  obtain ⟨h1,h2,blk,sz,h3,h4⟩:=hr
  exact ⟨h.alive b h1 hd,h.box b h1 hd h2,blk,sz,by rw [h.loc b h1 hd];exact h3,h4⟩
 | .bs b o s n,x,hd,hr=>by
  simp only [Rep,AV.ren,AV.okR] at hr hd ⊢
  obtain ⟨h1,h2,blk,sz,p,c,h3,h4⟩:=hr
  exact ⟨h.alive b h1 hd,h.box b h1 hd h2,blk,sz,p,c,by rw [h.loc b h1 hd];exact h3,h4⟩
 | .sl b m s o n,x,hd,hr=>by
  simp only [Rep,AV.ren,AV.okR] at hr hd ⊢
  obtain ⟨hd,hv⟩:=hd
  obtain ⟨h1,h2,h3,p,c,h4,h5,h6,h7⟩:=hr
  obtain ⟨k1,k2,k3⟩:=h.ver b m h1 hd hv h2 h3
  exact ⟨h.alive b h1 hd,k1,k2,p,c,h4,h5,h6,fun e=>by rw [h.loc b h1 hd];exact h7 (k3 e)⟩
 | .ep b m s i j,x,hd,hr=>by
  simp only [Rep,AV.ren,AV.okR] at hr hd ⊢
  obtain ⟨hd,hv⟩:=hd
  obtain ⟨h1,h2,h3,a,h4,h5⟩:=hr
  obtain ⟨k1,k2,k3⟩:=h.ver b m h1 hd hv h2 h3
  exact ⟨h.alive b h1 hd,k1,k2,a,h4,fun e=>by rw [h.loc b h1 hd];exact h5 (k3 e)⟩
 | .mp b m,x,hd,hr=>by
  simp only [Rep,AV.ren,AV.okR] at hr hd ⊢
  obtain ⟨hd,hv⟩:=hd
  obtain ⟨h1,h2,h3,blk,h4,h5⟩:=hr
  obtain ⟨k1,k2,k3⟩:=h.ver b m h1 hd hv h2 h3
  exact ⟨h.alive b h1 hd,k1,k2,blk,h4,fun e=>by rw [h.loc b h1 hd];exact h5 (k3 e)⟩
 | .agg cs,_,hd,hr=>by
  simp only [Rep,AV.ren,AV.okR] at hr hd ⊢
  obtain ⟨vs,h1,h2,h3⟩:=hr
  exact ⟨vs,h1,h2,RenOK.repL h hd h3⟩
 | .tup cs,_,hd,hr=>by
  simp only [Rep,AV.ren,AV.okR] at hr hd ⊢
  obtain ⟨vs,h1,h3⟩:=hr
  exact ⟨vs,h1,RenOK.repL h hd h3⟩
 | .fn f cs,_,hd,hr=>by
  simp only [Rep,AV.ren,AV.okR] at hr hd ⊢
  obtain ⟨vs,h1,h3⟩:=hr
  exact ⟨vs,h1,RenOK.repL h hd h3⟩
 | .ifc f cs,_,hd,hr=>by
  simp only [Rep,AV.ren,AV.okR] at hr hd ⊢
  obtain ⟨vs,h1,h3⟩:=hr
  exact ⟨vs,h1,RenOK.repL h hd h3⟩
 | .any,_,_,hr=>by simp only [Rep,AV.ren] at hr ⊢;exact hr.mono h.G h.heap
 | .v _,_,_,hr=>by simp only [Rep,AV.ren] at hr ⊢;exact hr.mono h.G h.heap
 | .rd ..,_,_,hr=>by simp only [Rep,AV.ren] at hr ⊢;exact hr.mono h.G h.heap
 | .ow ..,_,_,hr=>by simp only [Rep,AV.ren] at hr ⊢;exact hr.mono h.G h.heap
 | .rp ..,_,_,hr=>by simp only [Rep,AV.ren] at hr ⊢;exact hr.mono h.G h.heap
 | .rf ..,_,_,hr=>by simp only [Rep,AV.ren] at hr ⊢;exact hr.mono h.G h.heap
 | .rm ..,_,_,hr=>by simp only [Rep,AV.ren] at hr ⊢;exact hr.mono h.G h.heap
 | .om ..,_,_,hr=>by simp only [Rep,AV.ren] at hr ⊢;exact hr.mono h.G h.heap
theorem RenOK.repL (h:RenOK E E' w w' σ v D V):∀ {as:List AV} {xs:List Value},okRL D V as→RepL E w as xs→RepL E' w' (renL σ v as) xs
 | [],[],_,_=>by simp [RepL,renL]
 | a::as,x::xs,hd,hr=>by
  simp only [RepL,renL,okRL] at hr hd ⊢
  exact ⟨RenOK.rep h hd.1 hr.1,RenOK.repL h hd.2 hr.2⟩
 | [],_::_,_,hr=>by simp [RepL] at hr
 | _::_,[],_,hr=>by simp [RepL] at hr
end
def AO.renV (σ:Nat→Nat) (v:Nat→Nat→Nat) (m':Nat):AO→AO
 | .dead=>.dead
 | .box cs=>.box (renL σ v cs)
 | .vec _ s f xs=>.vec m' s f xs
 | .map _ n es=>.map m' n es
theorem RenOK.obj (h:RenOK E E' w w' σ v D V) {b:Nat} {o:AO} {m':Nat} (hw:∀ blk base sz,E.loc b=some (blk,base,sz)→w'.heap[blk]?=w.heap[blk]?) (ha:E.alive b) (hb:D b) (hd:o.okR D V) (hm:1≤E.ver b→1≤m'∧E'.ver (σ b)=m') (ho:ObR E w b o) :
  ObR E' w' (σ b) (o.renV σ v m'):=by
 cases o with
 | dead=>trivial
 | box cs =>
  simp only [ObR,AO.okR,AO.renV] at ho hd ⊢
  obtain ⟨h1,blk,t,vs,h2,h3,h4,h5⟩:=ho
  exact ⟨h.box b ha hb h1,blk,t,vs,by rw [h.loc b ha hb];exact h2,by rw [hw blk _ _ h2];exact h3,h4,h.repL hd h5⟩
 | vec m s f xs =>
  simp only [ObR,AO.renV] at ho ⊢
  obtain ⟨h1,h2,h3⟩:=ho
  obtain ⟨k1,k2⟩:=hm (by omega)
  refine ⟨k2,k1,?_⟩
  rw [h.loc b ha hb]
  cases hl:E.loc b with
  | none=>simpa only [hl] using h3
  | some L =>
   obtain ⟨blk,base,sz⟩:=L
   simp only [hl] at h3 ⊢
   obtain ⟨c,t,q1,q2,q3,q4,q5,q6⟩:=h3
   have hh:=hw blk base sz hl
   exact ⟨c,t,by rw [hh];exact q1,q2,q3,q4,q5,q6.mono h.G h.heap (.inl hh)⟩
 | map m n es =>
  simp only [ObR,AO.renV] at ho ⊢
  obtain ⟨h1,h2,blk,ents,clk,h3,h4,h5⟩:=ho
  obtain ⟨k1,k2⟩:=hm (by omega)
  exact ⟨k2,k1,blk,ents,clk,by rw [h.loc b ha hb];exact h3,by rw [hw blk _ _ h3];exact h4,h5.mono h.G h.heap⟩
end
def posN:List Nat→Nat→Nat
 | [],_=>0
 | c::r,b=>if c=b then 0 else posN r b+1
def nmN (σ:List Nat) (nid i:Nat):Nat:=if h:i<σ.length then σ[i] else nid+(i - σ.length)
def shN (M:Nat→AO) (σ:List Nat) (i:Nat):Nat:=match σ[i]? with
 | some b=>verOf (M b) - 1
 | none=>0
def canO (σ:List Nat) (o:AO):AO:=match o with
 | .dead=>.dead
 | .box cs=>.box (renL (posN σ) (fun _ _=>1) cs)
 | .vec _ s _ xs=>.vec 1 s false xs
 | .map _ n es=>.map 1 n es
def nDd:AO→Bool
 | .dead=>false
 | _=>true
def updN (M:Nat→AO) (σ:List Nat) (nid:Nat):Nat→List AO→List (Nat×AO)
 | _,[]=>[]
 | i,o::r=>(nmN σ nid i,o.ren (nmN σ nid) (fun j m=>m+shN M σ j) i)::updN M σ nid (i+1) r
def rng:Nat→Nat→List Nat
 | _,0=>[]
 | i,n+1=>i::rng (i+1) n
def gat (M:Nat→AO):Nat→List Nat→List Nat→List Nat
 | 0,_,acc=>acc
 | _+1,[],acc=>acc
 | n+1,b::t,acc=>if b∈acc then gat M n t acc else gat M n ((M b).nms++t) (acc++[b])
def CallG (M:Nat→AO) (avs:List AV) (σ:List Nat):Prop :=
 σ.Nodup∧Led M (nmsL avs) σ∧(∀ b∈σ,nDd (M b)=true)∧(∀ b∈nmsL avs,b∈σ)∧(∀ b∈σ,∀ c∈(M b).nms,c∈σ)∧curBL M avs=true∧∀ b∈σ,(M b).curB M=true
def RetG (k:Nat) (r:AV) (ms':List AO):Prop :=
 (k≤ms'.length∧ms'.length≤k+16)∧Led (getL ms') (r.nms++(rng 0 k).flatMap fun i=>(getL ms' i).nms) (rng k (ms'.length - k))
open Classical in
noncomputable def caG (F:List AV→List AO→Option (AV×List AO)) (avs:List AV) (M:Nat→AO) (nid:Nat):Option (AV×List (Nat×AO)) :=
 let σ:=gat M 64 (nmsL avs) []
 if CallG M avs σ then
  match F (renL (posN σ) (fun _ _=>1) avs) (σ.map fun b=>canO σ (M b)) with
  | some (r,ms')=>if RetG σ.length r ms' then some (r.ren (nmN σ nid) (fun j m=>m+shN M σ j),updN M σ nid 0 ms') else none
  | none=>none
 else none
end Go.AM
namespace Go.AM
open Go
theorem posN_mem:∀ {σ:List Nat} {b:Nat},b∈σ→posN σ b<σ.length∧σ[posN σ b]?=some b
 | [],b,h=>by simp at h
 | c::r,b,h=>by
  simp only [posN]
  by_cases e:c=b
  ·rw [if_pos e];simp [e]
  ·rw [if_neg e]
   have:=posN_mem (σ:=r) ((List.mem_cons.1 h).resolve_left fun h=>e h.symm)
   simpa using this
theorem posN_at:∀ {σ:List Nat} {i b:Nat},σ.Nodup→σ[i]?=some b→posN σ b=i
 | [],i,b,_,h=>by simp at h
 | c::r,0,b,_,h=>by simp at h;simp [posN,h]
 | c::r,i+1,b,hn,h=>by
  obtain ⟨h1,h2⟩:=List.nodup_cons.1 hn
  simp only [List.getElem?_cons_succ] at h
  have hb:b∈r:=List.mem_of_getElem? h
  have hne:¬ c=b:=fun e=>h1 (e ▸ hb)
  simp only [posN,if_neg hne,posN_at h2 h]
def Env.sub (E:Env) (σ:List Nat):Env :=
 {G:=E.G,alive:=fun i=>i<σ.length,ver:=fun i=>match σ[i]? with|some b=>if E.ver b=0 then 0 else 1|none=>0,loc:=fun i=>(σ[i]?).bind E.loc }
def cn (σ:List Nat) (nid n:Nat) (b:Nat):Option Nat :=
 if b∈σ then some (posN σ b) else if nid≤b∧b<nid+(n - σ.length) then some (σ.length+(b - nid)) else none
def Env.back (E E':Env) (σ:List Nat) (nid n:Nat):Env :=
 {G:=E'.G,alive:=fun b=>E.alive b∨∃ i,cn σ nid n b=some i∧E'.alive i,
  ver:=fun b=>match cn σ nid n b with|some i=>E'.ver i+(if b∈σ then E.ver b - 1 else 0)|none=>E.ver b,
  loc:=fun b=>match cn σ nid n b with|some i=>E'.loc i|none=>E.loc b }
theorem mem_updN {M:Nat→AO} {σ:List Nat} {nid:Nat} {b:Nat} {o:AO}:∀ {ms:List AO} {i:Nat},(b,o)∈updN M σ nid i ms→∃ j p,ms[j]?=some p∧b=nmN σ nid (i+j)∧o=p.ren (nmN σ nid) (fun j m=>m+shN M σ j) (i+j)
 | [],i,h=>by simp [updN] at h
 | p::r,i,h=>by
  simp only [updN,List.mem_cons,pJ] at h
  rcases h with ⟨rfl,rfl⟩|h
  ·exact ⟨0,p,by simp,rfl,rfl⟩
  ·obtain ⟨j,q,h1,h2,h3⟩:=mem_updN h
   exact ⟨j+1,q,by simpa using h1,by rw [h2];congr 1;omega,by rw [h3,show i+1+j=i+(j+1) by omega]⟩
theorem updN_keys {M:Nat→AO} {σ:List Nat} {nid:Nat} {j:Nat}:∀ {ms:List AO} {i:Nat},j<ms.length→nmN σ nid (i+j)∈(updN M σ nid i ms).map (·.1)
 | [],i,h=>by simp at h
 | p::r,i,h=>by
  simp only [updN,List.map_cons,List.mem_cons]
  cases j with
  | zero=>exact .inl rfl
  | succ j =>
   right
   have:=updN_keys (M:=M) (σ:=σ) (nid:=nid) (j:=j) (ms:=r) (i:=i+1) (by simpa using h)
   rwa [show i+1+j=i+(j+1) by omega] at this
theorem mem_rng {i n b:Nat}:b∈rng i n↔i≤b∧b<i+n:=by
 induction n generalizing i with
 | zero=>simp [rng]
 | succ n ih=>simp only [rng,List.mem_cons,ih];omega
theorem nmN_lt {σ:List Nat} {nid i:Nat} (h:i<σ.length):σ[i]?=some (nmN σ nid i):=by
 unfold nmN
 rw [dif_pos h,List.getElem?_eq_getElem h]
theorem nmN_ge {σ:List Nat} {nid i:Nat} (h:¬ i<σ.length):nmN σ nid i=nid+(i - σ.length):=by
 unfold nmN
 rw [dif_neg h]
theorem ren_obj {σ:Nat→Nat} {v:Nat→Nat→Nat} {b m':Nat} {o:AO} (h:∀ m,(∃ s f xs,o=.vec m s f xs)∨(∃ n es,o=.map m n es)→v b m=m') :
  o.renV σ v m'=o.ren σ v b:=by
 cases o with
 | dead=>rfl
 | box cs=>rfl
 | vec m s f xs=>simp only [AO.ren,AO.renV];rw [h m (.inl ⟨s,f,xs,rfl⟩)]
 | map m n es=>simp only [AO.ren,AO.renV];rw [h m (.inr ⟨n,es,rfl⟩)]
theorem GSd.caG {P:Program} {f:FuncId} {F:List AV→List AO→Option (AV×List AO)} (h:GSd P f F):CallOK P f (caG F):=by
 intro avs M nid av u hc w0 bl E w args hr hM hI hnid
 obtain ⟨args⟩:=args
 unfold AM.caG at hc
 simp only at hc
 obtain ⟨σ,hσ⟩:∃ σ,σ=gat M 64 (nmsL avs) []:=⟨_,rfl⟩
 rw [← hσ] at hc
 split at hc
 case isFalse=>simp at hc
 rename_i hC
 obtain ⟨hnd,hled,hdom,hargs,hobjs,hcurA,hcurO⟩:=hC
 split at hc
 case h_2=>simp at hc
 rename_i r ms' hF
 split at hc
 case isFalse=>simp at hc
 rename_i hR
 obtain ⟨⟨hk1,hk2⟩,hled2⟩:=hR
 simp only [oJ,pJ] at hc
 obtain ⟨rfl,rfl⟩:=hc
 obtain ⟨n,hn⟩:∃ n,n=ms'.length:=⟨_,rfl⟩
 obtain ⟨k,hk⟩:∃ k,k=σ.length:=⟨_,rfl⟩
 have hlen:(σ.map fun b=>canO σ (M b)).length=k:=by simp [hk]
 have hal:∀ b∈σ,E.alive b:=led_alive hM (fun b hb=>hr.nms_alive b hb) hled
 obtain ⟨l,hl⟩:∃ l:List Nat,l=σ.filterMap fun b=>(E.loc b).map (·.1):=⟨_,rfl⟩
 have hlm:∀ blk,blk∈l↔∃ b∈σ,∃ base sz,E.loc b=some (blk,base,sz):=fun blk=>by
  rw [hl,List.mem_filterMap]
  constructor
  ·rintro ⟨b,hb,e⟩
   cases hh:E.loc b with
   | none=>rw [hh] at e;simp at e
   | some L =>
    obtain ⟨x,y,z⟩:=L
    rw [hh] at e
    simp at e
    subst e
    exact ⟨b,hb,y,z,hh⟩
  ·rintro ⟨b,hb,base,sz,e⟩
   exact ⟨b,hb,by rw [e];rfl⟩
 have hlb:∀ blk∈l,blk<w.heap.size∧¬ E.G blk∧(w0.heap.size≤blk∨blk∈bl.l):=fun blk hb=>by
  obtain ⟨b,h1,base,sz,h2⟩:=(hlm blk).1 hb
  exact hI.locs b blk base sz (hal b h1) h2
 obtain ⟨Ec,hEc⟩:∃ Ec,Ec=E.sub σ:=⟨_,rfl⟩
 have ecG:Ec.G=E.G:=by rw [hEc];rfl
 have ecA:∀ i,Ec.alive i↔i<k:=fun i=>by rw [hEc,hk];rfl
 have ecV:∀ i b,σ[i]?=some b→Ec.ver i=if E.ver b=0 then 0 else 1:=fun i b e=>by rw [hEc];simp only [Env.sub,e]
 have ecL:∀ i b,σ[i]?=some b→Ec.loc i=E.loc b:=fun i b e=>by rw [hEc];simp only [Env.sub,e,Option.bind_some]
 have ecX:∀ i,i<k→∃ b,σ[i]?=some b∧b∈σ:=fun i hi=>⟨σ[i]'(by omega),List.getElem?_eq_getElem _,List.getElem_mem _⟩
 have hIc:Inv w ⟨l,Ec,k⟩ Ec w:=by
  refine ⟨⟨rfl,rfl,Nat.le_refl _,fun _ _ _=>rfl⟩,Env.Le.refl _,fun i hi=>(ecA i).1 hi,fun x hx=>.inl hx,fun x hx=>hI.good x (by rw [ecG] at hx;exact hx),fun i blk base sz hi hloc=>?_,fun i j blk base sz base' sz' hi hj hloc hloc'=>?_⟩
  ·obtain ⟨b,h1,h2⟩:=ecX i ((ecA i).1 hi)
   rw [ecL i b h1] at hloc
   have:=hI.locs b blk base sz (hal b h2) hloc
   exact ⟨this.1,by rw [ecG];exact this.2.1,.inr ((hlm blk).2 ⟨b,h2,base,sz,hloc⟩)⟩
  ·obtain ⟨b,h1,h2⟩:=ecX i ((ecA i).1 hi)
   obtain ⟨c,h3,h4⟩:=ecX j ((ecA j).1 hj)
   rw [ecL i b h1] at hloc
   rw [ecL j c h3] at hloc'
   have:=hI.apart b c blk base sz base' sz' (hal b h2) (hal c h4) hloc hloc'
   subst this
   rw [← posN_at hnd h1,← posN_at hnd h3]
 have hren:RenOK E Ec w w (posN σ) (fun _ _=>1) (·∈σ) (fun b m=>m=verOf (M b)):=by
  refine ⟨fun x hx=>by rw [ecG];exact hx,fun b _ hb=>(ecA _).2 (by rw [hk];exact (posN_mem hb).1),fun b _ hb=>ecL _ _ (posN_mem hb).2,fun b _ hb h0=>by rw [ecV _ _ (posN_mem hb).2,if_pos h0],fun b m hb1 hb hv hm hm2=>?_,fun _ _=>rfl⟩
  rw [ecV _ _ (posN_mem hb).2,if_neg (by omega)]
  refine ⟨Nat.le_refl _,Nat.le_refl _,fun _=>?_⟩
  exact (verOf_ver (hM b hb1) hm hv).symm
 have hMc:MemOK Ec w (getL (σ.map fun b=>canO σ (M b))):=fun i hi=>by
  obtain ⟨b,h1,h2⟩:=ecX i ((ecA i).1 hi)
  have e:getL (σ.map fun b=>canO σ (M b)) i=canO σ (M b):=by
   unfold getL
   rw [List.getElem?_map,h1];rfl
  rw [e]
  have hp:=posN_at hnd h1
  have ho:=hM b (hal b h2)
  have:=hren.obj (b:=b) (o:=M b) (m':=1) (fun _ _ _ _=>rfl) (hal b h2) h2 (okRO_cur (hobjs b h2) (hcurO b h2)) (fun hv=>⟨Nat.le_refl _,by rw [hp,ecV i b h1,if_neg (by omega)]⟩) ho
  rw [hp] at this
  unfold canO
  cases hMb:M b with
  | dead=>trivial
  | box cs=>rw [hMb] at this;exact this
  | vec m s f xs =>
   rw [hMb] at this
   simp only [ObR] at this ⊢
   obtain ⟨q1,q2,q3⟩:=this
   refine ⟨q1,q2,?_⟩
   cases hlc:Ec.loc i with
   | none=>simpa only [hlc] using q3
   | some L =>
    obtain ⟨blk,base,sz⟩:=L
    simp only [hlc] at q3 ⊢
    obtain ⟨c,t,p1,p2,p3,p4,p5,p6⟩:=q3
    exact ⟨c,t,p1,p2,p3,p4,fun e=>by simp at e,p6⟩
  | map m n es=>rw [hMb] at this;exact this
 have hrc:RepL Ec w (renL (posN σ) (fun _ _=>1) avs) args:=hren.repL (okRL_cur hargs hcurA) hr
 refine (h w l Ec args _ _ r ms' hF (by rw [hlen];exact hIc) (fun b hb=>(ecA b).2 (by rw [hlen] at hb;exact hb)) hMc hrc).mono fun e w' ⟨x,E',he,hI',hal',hM',hx⟩=>?_
 rw [hlen] at hI'
 have hcnσ:∀ b,b∈σ→cn σ nid n b=some (posN σ b):=fun b hb=>by unfold cn;rw [if_pos hb]
 have hσn:∀ b∈σ,¬ (nid≤b∧b<nid+16):=fun b hb hh=>hnid b hh.1 hh.2 (hal b hb)
 have hcnE:∀ b,E.alive b→b ∉ σ→cn σ nid n b=none:=fun b hb hn'=>by
  unfold cn
  rw [if_neg hn',if_neg]
  rintro ⟨h1,h2⟩
  exact hnid b h1 (by omega) hb
 have hcnN:∀ i,i<n→cn σ nid n (nmN σ nid i)=some i:=fun i hi=>by
  by_cases h1:i<σ.length
  ·have h2:=nmN_lt (nid:=nid) h1
   have hm:nmN σ nid i∈σ:=List.mem_of_getElem? h2
   rw [hcnσ _ hm,posN_at hnd h2]
  ·rw [nmN_ge h1]
   have hm:nid+(i - σ.length) ∉ σ:=fun hm=>hσn _ hm ⟨by omega,by omega⟩
   unfold cn
   rw [if_neg hm,if_pos ⟨by omega,by omega⟩]
   congr 1
   omega
 have hcnB:∀ b i,cn σ nid n b=some i→i<n∧nmN σ nid i=b:=fun b i e=>by
  unfold cn at e
  split at e
  ·rename_i hb
   simp only [oJ] at e
   subst e
   obtain ⟨h1,h2⟩:=posN_mem hb
   have h3:=nmN_lt (nid:=nid) h1
   rw [h2] at h3
   exact ⟨by omega,by simpa using h3.symm⟩
  ·split at e
   ·rename_i hb hh
    simp only [oJ] at e
    subst e
    exact ⟨by omega,by rw [nmN_ge (by omega)];omega⟩
   ·simp at e
 obtain ⟨E2,hE2⟩:∃ E2,E2=E.back E' σ nid n:=⟨_,rfl⟩
 have e2G:E2.G=E'.G:=by rw [hE2];rfl
 have e2A:∀ b,E2.alive b↔(E.alive b∨∃ i,cn σ nid n b=some i∧E'.alive i):=fun b=>by rw [hE2];rfl
 have e2L:∀ b i,cn σ nid n b=some i→E2.loc b=E'.loc i:=fun b i e=>by rw [hE2];simp only [Env.back,e]
 have e2V:∀ b i,cn σ nid n b=some i→E2.ver b=E'.ver i+(if b∈σ then E.ver b - 1 else 0):=fun b i e=>by rw [hE2];simp only [Env.back,e]
 have e2L0:∀ b,cn σ nid n b=none→E2.loc b=E.loc b:=fun b e=>by rw [hE2];simp only [Env.back,e]
 have e2V0:∀ b,cn σ nid n b=none→E2.ver b=E.ver b:=fun b e=>by rw [hE2];simp only [Env.back,e]
 have hE'k:∀ i,i<k→E'.alive i:=fun i hi=>hI'.gin.alive i ((ecA i).2 hi)
 have e2Ai:∀ b i,E2.alive b→cn σ nid n b=some i→E'.alive i:=fun b i hb e=>by
  rcases (e2A b).1 hb with h1|⟨j,h1,h2⟩
  ·by_cases hbσ:b∈σ
   ·rw [hcnσ b hbσ,oJ] at e
    rw [← e]
    exact hE'k _ (by rw [hk];exact (posN_mem hbσ).1)
   ·rw [hcnE b h1 hbσ] at e;simp at e
  ·rw [h1,oJ] at e
   rw [← e];exact h2
 have e2A0:∀ b,E2.alive b→cn σ nid n b=none→E.alive b∧b ∉ σ:=fun b hb e=>by
  rcases (e2A b).1 hb with h1|⟨j,h1,_⟩
  ·exact ⟨h1,fun hbσ=>by rw [hcnσ b hbσ] at e;simp at e⟩
  ·rw [h1] at e;simp at e
 have e2An:∀ i,E'.alive i→E2.alive (nmN σ nid i):=fun i hi=>(e2A _).2 (.inr ⟨i,hcnN i (by have:=hal' i hi;omega),hi⟩)
 have hlE:E.Le E2:=by
  refine ⟨fun x hx=>by rw [e2G];exact hI'.gin.G x (by show Ec.G x;rw [ecG];exact hx),fun b hb=>(e2A b).2 (.inl hb),fun b hb=>?_⟩
  by_cases hbσ:b∈σ
  ·have hcb:=hcnσ b hbσ
   obtain ⟨hp1,hp2⟩:=posN_mem hbσ
   rw [e2V b _ hcb,e2L b _ hcb,if_pos hbσ]
   have hs:=hI'.gin.same (posN σ b) ((ecA _).2 (by omega))
   have hv:=ecV _ b hp2
   have hloc:=ecL _ b hp2
   rcases hs with ⟨h1,h2⟩|⟨h1,h2⟩
   ·have h1':E'.ver (posN σ b)=Ec.ver (posN σ b):=h1
    have h2':E'.loc (posN σ b)=Ec.loc (posN σ b):=h2
    left
    rw [h1',h2',hv,hloc]
    split
    ·exact ⟨by omega,rfl⟩
    ·exact ⟨by omega,rfl⟩
   ·have h1':1≤Ec.ver (posN σ b):=h1
    have h2':Ec.ver (posN σ b)<E'.ver (posN σ b):=h2
    rw [hv] at h1' h2'
    right
    split at h1'
    ·omega
    ·rename_i hne
     rw [if_neg hne] at h2'
     exact ⟨by omega,by omega⟩
  ·have:=hcnE b hb hbσ
   exact .inl ⟨e2V0 b this,e2L0 b this⟩
 have hsz:w.heap.size≤w'.heap.size:=hI'.frame.size
 have hInv:Inv w0 bl E2 w':=by
  refine ⟨⟨hI'.frame.os.trans hI.frame.os,hI'.frame.out.trans hI.frame.out,Nat.le_trans hI.frame.size hsz,fun x hx hxb=>?_⟩,hI.gin.trans hlE,hI.low,fun x hx=>?_,fun x hx=>hI'.good x (by rw [e2G] at hx;exact hx),fun b blk base sz hb hloc=>?_,fun b b' blk base sz base' sz' hb hb' hloc hloc'=>?_⟩
  ·have hxl:x ∉ l:=fun hxl=>by
    rcases (hlb x hxl).2.2 with h1|h1
    ·omega
    ·exact hxb h1
   rw [hI'.frame.old x (by have:=hI.frame.size;omega) hxl]
   exact hI.frame.old x hx hxb
  ·rw [e2G] at hx
   rcases hI'.gout x hx with h1|h1|h1
   ·exact hI.gout x (by have h1':Ec.G x:=h1;rw [ecG] at h1';exact h1')
   ·exact .inr (.inl (by have:=hI.frame.size;omega))
   ·exact .inr (hlb x h1).2.2
  ·cases hcb:cn σ nid n b with
   | some i =>
    rw [e2L b i hcb] at hloc
    have:=hI'.locs i blk base sz (e2Ai b i hb hcb) hloc
    refine ⟨this.1,by rw [e2G];exact this.2.1,?_⟩
    rcases this.2.2 with h1|h1
    ·exact .inl (by have:=hI.frame.size;omega)
    ·exact (hlb blk h1).2.2
   | none =>
    rw [e2L0 b hcb] at hloc
    obtain ⟨hb1,hb2⟩:=e2A0 b hb hcb
    have h1:=hI.locs b blk base sz hb1 hloc
    refine ⟨by omega,fun hg=>?_,h1.2.2⟩
    rw [e2G] at hg
    rcases hI'.gout blk hg with h2|h2|h2
    ·have h2':Ec.G blk:=h2
     rw [ecG] at h2'
     exact h1.2.1 h2'
    ·omega
    ·obtain ⟨c,h3,base',sz',h4⟩:=(hlm blk).1 h2
     have:=hI.apart b c blk base sz base' sz' hb1 (hal c h3) hloc h4
     exact hb2 (this ▸ h3)
  ·have key:∀ b c i base sz base' sz',E2.alive b→cn σ nid n b=some i→E'.loc i=some (blk,base,sz)→E2.alive c→cn σ nid n c=none→E.loc c=some (blk,base',sz')→False:=fun b c i base sz base' sz' hb hcb hlb' hc hcc hlc=>by
    obtain ⟨hc1,hc2⟩:=e2A0 c hc hcc
    have h1:=hI.locs c blk base' sz' hc1 hlc
    rcases (hI'.locs i blk base sz (e2Ai b i hb hcb) hlb').2.2 with h2|h2
    ·omega
    ·obtain ⟨d,h3,base2,sz2,h4⟩:=(hlm blk).1 h2
     have:=hI.apart c d blk base' sz' base2 sz2 hc1 (hal d h3) hlc h4
     exact hc2 (this ▸ h3)
   cases hcb:cn σ nid n b with
   | some i =>
    rw [e2L b i hcb] at hloc
    cases hcb':cn σ nid n b' with
    | some j =>
     rw [e2L b' j hcb'] at hloc'
     have:=hI'.apart i j blk base sz base' sz' (e2Ai b i hb hcb) (e2Ai b' j hb' hcb') hloc hloc'
     rw [← (hcnB b i hcb).2,← (hcnB b' j hcb').2,this]
    | none =>
     rw [e2L0 b' hcb'] at hloc'
     exact (key b b' i base sz base' sz' hb hcb hloc hb' hcb' hloc').elim
   | none =>
    rw [e2L0 b hcb] at hloc
    cases hcb':cn σ nid n b' with
    | some j =>
     rw [e2L b' j hcb'] at hloc'
     exact (key b' b j base' sz' base sz hb' hcb' hloc' hb hcb hloc).elim
    | none =>
     rw [e2L0 b' hcb'] at hloc'
     exact hI.apart b b' blk base sz base' sz' (e2A0 b hb hcb).1 (e2A0 b' hb' hcb').1 hloc hloc'
 have hsh:∀ i b,σ[i]?=some b→1≤E.ver b→shN M σ i=E.ver b - 1:=fun i b e hv=>by
  unfold shN
  rw [e]
  simp only
  have hbσ:b∈σ:=List.mem_of_getElem? e
  have ho:=hM b (hal b hbσ)
  have hd:=hdom b hbσ
  cases hMb:M b with
  | dead=>rw [hMb] at hd;simp [nDd] at hd
  | box cs=>rw [hMb] at ho;simp only [ObR] at ho;omega
  | vec m s f xs=>rw [hMb] at ho;simp only [ObR] at ho;simp only [verOf];omega
  | map m n es=>rw [hMb] at ho;simp only [ObR] at ho;simp only [verOf];omega
 have hver:∀ i,E'.alive i→(E'.ver i=0→E2.ver (nmN σ nid i)=0)∧(1≤E'.ver i→E2.ver (nmN σ nid i)=E'.ver i+shN M σ i):=fun i hi=>by
  have hin:=hal' i hi
  rw [e2V _ i (hcnN i (by omega))]
  by_cases h1:i<σ.length
  ·have h2:=nmN_lt (nid:=nid) h1
   have hm:nmN σ nid i∈σ:=List.mem_of_getElem? h2
   rw [if_pos hm]
   have hs:=hI'.gin.same i ((ecA _).2 (by omega))
   have hv:=ecV i _ h2
   refine ⟨fun h0=>?_,fun h0=>?_⟩
   ·rcases hs with ⟨h3,_⟩|⟨h3,h4⟩
    ·have h3':E'.ver i=Ec.ver i:=h3
     rw [h0,hv] at h3'
     split at h3'<;>omega
    ·have h4':Ec.ver i<E'.ver i:=h4
     omega
   ·have hpos:1≤E.ver (nmN σ nid i):=by
     rcases hs with ⟨h3,_⟩|⟨h3,h4⟩
     ·have h3':E'.ver i=Ec.ver i:=h3
      rw [hv] at h3'
      split at h3'<;>omega
     ·have h3':1≤Ec.ver i:=h3
      rw [hv] at h3'
      split at h3'<;>omega
    rw [hsh i _ h2 hpos]
  ·have hm:nmN σ nid i ∉ σ:=fun hm=>by
    rw [nmN_ge h1] at hm
    exact hσn _ hm ⟨by omega,by omega⟩
   rw [if_neg hm]
   have:shN M σ i=0:=by
    unfold shN
    rw [List.getElem?_eq_none (by omega)]
   rw [this]
   exact ⟨fun h=>by omega,fun _=>rfl⟩
 have hren2:RenOK E' E2 w' w' (nmN σ nid) (fun j m=>m+shN M σ j) (fun _=>True) (fun _ _=>True):=by
  refine ⟨fun x hx=>by rw [e2G];exact hx,fun b hb _=>e2An b hb,fun b hb _=>e2L _ _ (hcnN b (by have:=hal' b hb;omega)),fun b hb _ h0=>(hver b hb).1 h0,fun b m hb _ _ hm hm2=>?_,fun _ _=>rfl⟩
  have:=(hver b hb).2 (by omega)
  rw [this]
  exact ⟨by omega,by omega,fun e=>by omega⟩
 have hrx:Rep E2 w' (r.ren (nmN σ nid) fun j m=>m+shN M σ j) x:=hren2.rep okR_true hx
 have hnew:∀ i,i<n→E'.alive i:=fun i hi=>by
  by_cases h1:i<k
  ·exact hE'k i h1
  ·refine led_alive hM' (fun b hb=>?_) hled2 i (mem_rng.2 ⟨by omega,by omega⟩)
   rcases List.mem_append.1 hb with hb|hb
   ·exact hx.nms_alive b hb
   ·obtain ⟨j,hj,hb⟩:=List.mem_flatMap.1 hb
    have:=mem_rng.1 hj
    exact (hM' j (hE'k j (by omega))).nms_alive b hb
 refine ⟨x,E2,he,⟨hlE,hInv,hsz,fun x hx hn'=>?_,fun b hb=>?_,fun b hb hn'=>?_,fun b o hbo=>?_⟩,hrx⟩
 ·refine hI'.frame.old x hx fun hxl=>?_
  obtain ⟨b,h1,base,sz,h2⟩:=(hlm x).1 hxl
  obtain ⟨hp1,hp2⟩:=posN_mem h1
  refine hn' b base sz (hal b h1) ?_ h2
  have:=updN_keys (M:=M) (σ:=σ) (nid:=nid) (j:=posN σ b) (ms:=ms') (i:=0) (by omega)
  rw [Nat.zero_add] at this
  have h3:=nmN_lt (nid:=nid) hp1
  rw [hp2,oJ] at h3
  rwa [← h3] at this
 ·rcases (e2A b).1 hb with h1|⟨i,h1,h2⟩
  ·exact .inl h1
  ·right
   obtain ⟨h3,h4⟩:=hcnB b i h1
   have:=updN_keys (M:=M) (σ:=σ) (nid:=nid) (j:=i) (ms:=ms') (i:=0) (by omega)
   rwa [Nat.zero_add,h4] at this
 ·have hbσ:b ∉ σ:=fun hbσ=>by
   obtain ⟨hp1,hp2⟩:=posN_mem hbσ
   have:=updN_keys (M:=M) (σ:=σ) (nid:=nid) (j:=posN σ b) (ms:=ms') (i:=0) (by omega)
   rw [Nat.zero_add] at this
   have h3:=nmN_lt (nid:=nid) hp1
   rw [hp2,oJ] at h3
   rw [← h3] at this
   exact hn' this
  have:=hcnE b hb hbσ
  exact ⟨e2V0 b this,e2L0 b this⟩
 ·obtain ⟨j,p,h1,h2,h3⟩:=mem_updN hbo
  rw [Nat.zero_add] at h2 h3
  have hj:j<n:=by rw [hn];exact (List.getElem?_eq_some_iff.1 h1).1
  have haj:=hnew j hj
  subst h2 h3
  refine ⟨e2An j haj,?_⟩
  have ho:=hM' j haj
  have hg:getL ms' j=p:=by unfold getL;rw [h1];rfl
  rw [hg] at ho
  have hob:=hren2.obj (b:=j) (o:=p) (m':=E'.ver j+shN M σ j) (fun _ _ _ _=>rfl) haj trivial okRO_true (fun hv=>⟨by omega,(hver j haj).2 hv⟩) ho
  rwa [ren_obj (b:=j) (fun m hm=>?_)] at hob
  rcases hm with ⟨s,f,xs,rfl⟩|⟨q,es,rfl⟩
  ·simp only [ObR] at ho
   rw [ho.1]
  ·simp only [ObR] at ho
   rw [ho.1]
theorem cGk {F:List AV→List AO→Option (AV×List AO)} {avs:List AV} {M:Nat→AO} {nid:Nat} {r:AV×List (Nat×AO)} (h:caG F avs M nid=some r):∀ b∈r.2.map (·.1),(nid≤b∧b<nid+16)∨M b≠.dead:=by
 unfold AM.caG at h
 simp only at h
 split at h
 case isFalse=>simp at h
 rename_i hC
 split at h
 case h_2=>simp at h
 split at h
 case isFalse=>simp at h
 rename_i hR
 simp only [oJ] at h
 subst h
 intro b hb
 obtain ⟨⟨b',o⟩,hp,rfl⟩:=List.mem_map.1 hb
 obtain ⟨j,p,h1,h2,_⟩:=mem_updN hp
 rw [Nat.zero_add] at h2
 simp only
 subst h2
 have hj:=(List.getElem?_eq_some_iff.1 h1).1
 by_cases h3:j<(gat M 64 (nmsL avs) []).length
 ·right
  have h4:=nmN_lt (nid:=nid) h3
  have h5:=hC.2.2.1 _ (List.mem_of_getElem? h4)
  intro e
  rw [e] at h5
  simp [nDd] at h5
 ·left
  rw [nmN_ge h3]
  have:=hR.1
  omega
end Go.AM
namespace Go.AM
attribute [simp] CallG RetG gat AV.nms nmsL AO.nms Led nDd AV.curB curBL AO.curB verOf renL AV.ren posN canO shN updN AO.ren rng getL idx
end Go.AM
namespace Go.AM
open Go
def restr (S:List Nat) (M:Nat→AO):Nat→AO:=fun b=>if b∈S then M b else .dead
abbrev RecF:=List Nat×Rec
def RecsF (T:TypeId→Option TD) (X:AX) (ops:Array Oper) (N base:Nat):List Oper→Nat→(Nat→AV)→(Nat→AO)→List RecF→(Nat→AV)→(Nat→AO)→Prop
 | [],_,g,m,[],g',m'=>g'=g∧m'=m
 | o::ol,i,g,m,r::rs,g',m'=>stepRel T X ops N o g (restr r.1 m) (base+16*i) r.2∧RecsF T X ops N base ol (i+1) (putF g o.dst r.2.1) (updM m r.2.2) rs g' m'
 | _,_,_,_,_,_,_=>False
theorem recsF_at {T:TypeId→Option TD} {X:AX} {ops:Array Oper} {N base:Nat}:∀ {ol:List Oper} {i:Nat} {g g':Nat→AV} {m m':Nat→AO} {rs:List RecF},RecsF T X ops N base ol i g m rs g' m' →
  rs.length=ol.length∧g'=gF (ol.zip (rs.map (·.2))) i (fun _=>true) g∧m'=mF (ol.zip (rs.map (·.2))) i (fun _=>true) m ∧
  ∀ k o S r,ol[k]?=some o→rs[k]?=some (S,r)→stepRel T X ops N o (gF (ol.zip (rs.map (·.2))) i (fun j=>decide (j<i+k)) g) (restr S (mF (ol.zip (rs.map (·.2))) i (fun j=>decide (j<i+k)) m)) (base+16*(i+k)) r
 | [],i,g,g',m,m',[],h=>by
  obtain ⟨rfl,rfl⟩:=h
  exact ⟨rfl,rfl,rfl,fun k o S r hk=>by simp at hk⟩
 | o::ol,i,g,g',m,m',r::rs,h=>by
  obtain ⟨h1,h2⟩:=h
  obtain ⟨k1,k2,k3,k4⟩:=recsF_at h2
  refine ⟨by simp [k1],by simpa [gF] using k2,by simpa [mF] using k3,fun k o' S r' hk hr=>?_⟩
  cases k with
  | zero =>
   simp only [List.getElem?_cons_zero,oJ] at hk hr
   subst hk
   subst hr
   rw [gF_none (fun j hj=>by simp;omega),mF_none (fun j hj=>by simp;omega)]
   exact h1
  | succ k =>
   simp only [List.getElem?_cons_succ] at hk hr
   have:=k4 k o' S r' hk hr
   simp only [List.map_cons,List.zip_cons_cons,gF,mF]
   rw [if_pos (by simp),if_pos (by simp)]
   rwa [show i+(k+1)=i+1+k from by omega]
 | [],_,_,_,_,_,_::_,h=>by simp [RecsF] at h
 | _::_,_,_,_,_,_,[],h=>by simp [RecsF] at h
structure OrdF (ops:Array Oper) (rs:List RecF):Prop where
 back:∀ j o,ops[j]?=some o→∀ e∈o.after,Region.binds .any e=true→e.on<j
 slot:∀ i j x y,ops[i]?=some x→ops[j]?=some y→i<j→Oper.apart ops x y=false→Anc ops i j
 mem:∀ i j p q,rs[i]?=some p→rs[j]?=some q→i<j→(∃ b,(b∈p.2.2.map (·.1)∧(b∈q.1∨b∈q.2.2.map (·.1)))∨(b∈q.2.2.map (·.1)∧b∈p.1))→Anc ops i j
section
variable {P:Program} {X:AX} {ops:Array Oper} {N base:Nat} {rs:List RecF} {g0 g':Nat→AV} {m0 m':Nat→AO}
theorem live_ofF (hX:XOK P X) (hz:∀ k o S r,ops.toList[k]?=some o→rs[k]?=some (S,r)→stepRel (Types P) X ops N o (gF (ops.toList.zip (rs.map (·.2))) 0 (fun j=>decide (j<0+k)) g0) (restr S (mF (ops.toList.zip (rs.map (·.2))) 0 (fun j=>decide (j<0+k)) m0)) (base+16*(0+k)) r)
  (hm0:∀ b,m0 b≠.dead→b<base):∀ k b,mF (ops.toList.zip (rs.map (·.2))) 0 (fun j=>decide (j<k)) m0 b≠.dead→b<base∨∃ j,j<k∧base+16*j≤b∧b<base+16*j+16∧∃ p,rs[j]?=some p∧b∈p.2.2.map (·.1):=by
 intro k
 induction k with
 | zero =>
  intro b hb
  rw [mF_none (fun j _=>by simp)] at hb
  exact .inl (hm0 b hb)
 | succ k ih =>
  intro b hb
  cases hk:(ops.toList.zip (rs.map (·.2)))[k]? with
  | none =>
   have:mF (ops.toList.zip (rs.map (·.2))) 0 (fun j=>decide (j<k+1)) m0 b=mF (ops.toList.zip (rs.map (·.2))) 0 (fun j=>decide (j<k)) m0 b:=mF_at rfl fun j o r hj _=>by
    have h1:=(List.getElem?_eq_some_iff.1 hj).1
    have h2:=List.getElem?_eq_none_iff.1 hk
    simp only [Nat.zero_add,decide_eq_decide]
    omega
   rw [this] at hb
   rcases ih b hb with h1|⟨j,h1,h2⟩
   ·exact .inl h1
   ·exact .inr ⟨j,by omega,h2⟩
  | some p =>
   obtain ⟨o,r⟩:=p
   obtain ⟨S,hS⟩:∃ S,rs[k]?=some (S,r)∧ops.toList[k]?=some o:=by
    rw [List.getElem?_zip_eq_some] at hk
    obtain ⟨h1,h2⟩:=hk
    rw [List.getElem?_map] at h2
    cases hr:rs[k]? with
    | none=>rw [hr] at h2;simp at h2
    | some q=>rw [hr] at h2;simp at h2;exact ⟨q.1,by rw [← h2],h1⟩
   by_cases hd:b∈r.2.map (·.1)
   ·rcases stepRel_dom hX (hz k o S r hS.2 hS.1) b hd with h1|⟨_,h1⟩
    ·exact .inr ⟨k,by omega,by omega,by omega,(S,r),hS.1,hd⟩
    ·simp only [Nat.zero_add] at h1
     have h1':mF (ops.toList.zip (rs.map (·.2))) 0 (fun j=>decide (j<k)) m0 b≠.dead:=fun e=>h1 (by unfold restr;split;exact e;rfl)
     rcases ih b h1' with h2|⟨j,h2,h3⟩
     ·exact .inl h2
     ·exact .inr ⟨j,by omega,h3⟩
   ·have:mF (ops.toList.zip (rs.map (·.2))) 0 (fun j=>decide (j<k+1)) m0 b=mF (ops.toList.zip (rs.map (·.2))) 0 (fun j=>decide (j<k)) m0 b:=mF_at rfl fun j o' r' hj hb'=>by
     have:j≠k:=fun e=>by subst e;rw [hk] at hj;simp at hj;rw [hj.2] at hd;exact hd hb'
     simp only [Nat.zero_add,decide_eq_decide]
     omega
    rw [this] at hb
    rcases ih b hb with h1|⟨j,h1,h2⟩
    ·exact .inl h1
    ·exact .inr ⟨j,by omega,h2⟩
theorem run_anyF {w0:World} {bl:Bk} {Q:Exit→Act→World→Prop} (hX:XOK P X) (hO:OrdF ops rs) (hrecs:RecsF (Types P) X ops N base ops.toList 0 g0 m0 rs g' m') (hm0:∀ b,m0 b≠.dead→b<base)
  (hq:∀ E a w,SatF N w0 bl E a w g' m'→(∀ b,E.alive b→b<base+16*ops.size)→Q .normal a w) :
  ∀ (fuel:Nat) (listed:Array Bool) (E:Env) (a:Act) (w:World),listed.size=ops.size→(List.range ops.size).countP (fun j=>!(listed.getD j false))≤fuel →
   (∀ j o,ops[j]?=some o→listed.getD j false=true→∀ e∈o.after,Region.binds .any e=true→listed.getD e.on false=true) →
   SatF N w0 bl E a w (gF (ops.toList.zip (rs.map (·.2))) 0 (fun j=>listed.getD j false) g0) (mF (ops.toList.zip (rs.map (·.2))) 0 (fun j=>listed.getD j false) m0) →
   (∀ b,E.alive b→b<base∨∃ j,listed.getD j false=true∧base+16*j≤b∧b<base+16*j+16)→wpAny P .any ops Q fuel listed a w:=by
 obtain ⟨hlen,hg',hm',hz⟩:=recsF_at hrecs
 have hzl:(ops.toList.zip (rs.map (·.2))).length=ops.size:=by simp [hlen]
 have hzget:∀ j o,ops[j]?=some o→∃ r,(ops.toList.zip (rs.map (·.2)))[j]?=some (o,r):=fun j o ho=>by
  have hj:j<ops.size:=(Array.getElem?_eq_some_iff.1 ho).1
  have:j<(ops.toList.zip (rs.map (·.2))).length:=by omega
  refine ⟨(rs[j]'(by rw [hlen];simpa using hj)).2,?_⟩
  rw [List.getElem?_eq_getElem this,List.getElem_zip,List.getElem_map]
  congr 2
  have:=(Array.getElem?_eq_some_iff.1 ho).2
  simpa using this
 have hzop:∀ {j o r},(ops.toList.zip (rs.map (·.2)))[j]?=some (o,r)→ops[j]?=some o:=fun {j o r} h=>by
  have h1:=(List.getElem?_eq_some_iff.1 h).2
  have hj:=(List.getElem?_eq_some_iff.1 h).1
  rw [List.getElem_zip] at h1
  simp only [pJ] at h1
  have hj':j<ops.size:=by omega
  rw [Array.getElem?_eq_getElem hj']
  congr 1
  simpa using h1.1
 have done:∀ (listed:Array Bool) (E:Env) (a:Act) (w:World),(∀ j,j<ops.size→listed.getD j false=true)→SatF N w0 bl E a w (gF (ops.toList.zip (rs.map (·.2))) 0 (fun j=>listed.getD j false) g0) (mF (ops.toList.zip (rs.map (·.2))) 0 (fun j=>listed.getD j false) m0) →
   (∀ b,E.alive b→b<base∨∃ j,listed.getD j false=true∧base+16*j≤b∧b<base+16*j+16)→listed.size=ops.size→Q .normal a w:=fun listed E a w hall hs hal hsz=>by
  have e1:gF (ops.toList.zip (rs.map (·.2))) 0 (fun j=>listed.getD j false) g0=g':=by
   rw [hg']
   funext t
   exact gF_at rfl fun j o r hj _=>by
    simp only [Nat.zero_add]
    exact hall j (by have:=(List.getElem?_eq_some_iff.1 hj).1;omega)
  have e2:mF (ops.toList.zip (rs.map (·.2))) 0 (fun j=>listed.getD j false) m0=m':=by
   rw [hm']
   funext t
   exact mF_at rfl fun j o r hj _=>by
    simp only [Nat.zero_add]
    exact hall j (by have:=(List.getElem?_eq_some_iff.1 hj).1;omega)
  rw [e1,e2] at hs
  refine hq E a w hs fun b hb=>?_
  rcases hal b hb with h1|⟨j,h1,h2,h3⟩
  ·omega
  ·have:j<ops.size:=by
    rw [← hsz]
    by_cases hj:j<listed.size
    ·exact hj
    ·rw [Array.getD_eq_getD_getElem?,Array.getElem?_eq_none (by omega)] at h1;simp at h1
   omega
 intro fuel
 induction fuel with
 | zero =>
  intro listed E a w hsz hcnt hdown hs hal
  have hall:∀ j,j<ops.size→listed.getD j false=true:=fun j hj=>by
   have h0:(List.range ops.size).countP (fun j=>!(listed.getD j false))=0:=by omega
   have:=List.countP_eq_zero.1 h0 j (List.mem_range.2 hj)
   simpa using this
  refine ⟨?_,done listed E a w hall hs hal hsz⟩
  apply List.eq_nil_iff_forall_not_mem.2
  intro j hj
  obtain ⟨h1,o,ho,_⟩:=mem_ready.1 hj
  have hj':j<ops.size:=(Array.getElem?_eq_some_iff.1 ho).1
  have h2:=hall j hj'
  rw [Array.getD_eq_getD_getElem?,Array.getElem?_eq_getElem (by omega)] at h1 h2
  simp at h1 h2
  rw [h1] at h2
  simp at h2
 | succ fuel ih =>
  intro listed E a w hsz hcnt hdown hs hal
  refine ⟨fun hnil=>?_,fun i hi=>?_⟩
  ·refine done listed E a w ?_ hs hal hsz
   intro j
   induction j using Nat.strongRecOn with
   | _ j ihj =>
    intro hj
    cases hl:listed.getD j false with
    | true=>rfl
    | false =>
     exfalso
     have ho:ops[j]?=some ops[j]:=Array.getElem?_eq_getElem hj
     have:j∈Region.ready .any ops listed:=mem_ready.2 ⟨?_,_,ho,fun e he hb=>?_⟩
     ·rw [hnil] at this;simp at this
     ·rw [Array.getD_eq_getD_getElem?,Array.getElem?_eq_getElem (by omega)] at hl ⊢
      simpa using hl
     ·have hlt:=hO.back j _ ho e he hb
      exact ihj e.on hlt (by omega)
  ·obtain ⟨hi0,o,ho,hdeps⟩:=mem_ready.1 hi
   have hilt:i<ops.size:=(Array.getElem?_eq_some_iff.1 ho).1
   have hLi:listed.getD i false=false:=by
    rw [Array.getD_eq_getD_getElem?,Array.getElem?_eq_getElem (by omega)] at hi0 ⊢
    simpa using hi0
   obtain ⟨r,hzi⟩:=hzget i o ho
   have hzS:∀ {j y ry},(ops.toList.zip (rs.map (·.2)))[j]?=some (y,ry)→∃ S,rs[j]?=some (S,ry):=fun {j y ry} h=>by
    rw [List.getElem?_zip_eq_some] at h
    obtain ⟨h1,h2⟩:=h
    rw [List.getElem?_map] at h2
    cases hr:rs[j]? with
    | none=>rw [hr] at h2;simp at h2
    | some q=>rw [hr] at h2;simp at h2;exact ⟨q.1,by rw [← h2];exact hr⟩
   obtain ⟨S,hSi⟩:=hzS hzi
   have hstep:=hz i o S r (by simpa using ho) hSi
   simp only [Nat.zero_add] at hstep
   have before:∀ {j},Anc ops j i→listed.getD j false=true:=fun h=>anc_listed hdown h (.inr ⟨o,ho,hdeps⟩)
   have behind:∀ {j},Anc ops i j→listed.getD j false=false:=fun {j} h=>by
    cases hj:listed.getD j false with
    | false=>rfl
    | true=>have:=anc_listed hdown h (.inl hj);rw [hLi] at this;simp at this
   have conf:∀ {j y},ops[j]?=some y→j≠i→(Oper.apart ops y o=false∧Oper.apart ops o y=false)→listed.getD j false=decide (j<i):=fun {j y} hy hne hc=>by
    rcases Nat.lt_or_gt_of_ne hne with hlt|hgt
    ·rw [before (hO.slot j i y o hy ho hlt hc.1)];simp [hlt]
    ·rw [behind (hO.slot i j o y ho hy hgt hc.2)];simp;omega
   have confM:∀ {j b} {p:RecF},rs[j]?=some p→j≠i→(b∈p.2.2.map (·.1))→(b∈S∨b∈r.2.map (·.1))→listed.getD j false=decide (j<i):=fun {j b p} hp hne hb hc=>by
    rcases Nat.lt_or_gt_of_ne hne with hlt|hgt
    ·rw [before (hO.mem j i p (S,r) hp hSi hlt ⟨b,.inl ⟨hb,hc⟩⟩)];simp [hlt]
    ·rw [behind (hO.mem i j (S,r) p hSi hp hgt ⟨b,hc.elim (fun h=>.inr ⟨hb,h⟩) fun h=>.inl ⟨h,.inr hb⟩⟩)];simp;omega
   have slotc:∀ {y:Oper} {t:Nat},y.dst=some t→(t∈o.looksAt ops∨o.dst=some t)→Oper.apart ops y o=false∧Oper.apart ops o y=false:=fun {y t} hy ht=>by
    have h1:Oper.apart ops y o=false:=by
     cases hap:Oper.apart ops y o with
     | false=>rfl
     | true =>
      obtain ⟨p1,p2,p3⟩:=Oper.apart_spec hap
      rcases ht with ht|ht
      ·exact absurd ht (p1 t hy)
      ·exact absurd ht (p2 t hy)
    have h2:Oper.apart ops o y=false:=by
     cases hap:Oper.apart ops o y with
     | false=>rfl
     | true =>
      obtain ⟨p1,p2,p3⟩:=Oper.apart_spec hap
      rcases ht with ht|ht
      ·exact absurd ht (p3 t hy)
      ·exact absurd hy (p2 t ht)
    exact ⟨h1,h2⟩
   have hgeq:∀ t∈o.looksAt ops,gF (ops.toList.zip (rs.map (·.2))) 0 (fun j=>decide (j<i)) g0 t=gF (ops.toList.zip (rs.map (·.2))) 0 (fun j=>listed.getD j false) g0 t:=fun t ht=>gF_at rfl fun j y ry hj hd=>by
    simp only [Nat.zero_add]
    by_cases hji:j=i
    ·subst hji;rw [hLi];simp
    ·exact (conf (hzop hj) hji (slotc hd (.inl ht))).symm
   have hlive:=live_ofF hX hz hm0 i
   have hmeq:∀ b∈S,mF (ops.toList.zip (rs.map (·.2))) 0 (fun j=>decide (j<i)) m0 b=mF (ops.toList.zip (rs.map (·.2))) 0 (fun j=>listed.getD j false) m0 b:=fun b hb=>mF_at rfl fun j y ry hj hd=>by
    simp only [Nat.zero_add]
    by_cases hji:j=i
    ·subst hji;rw [hLi];simp
    ·obtain ⟨Sj,hSj⟩:=hzS hj
     exact (confM hSj hji hd (.inl hb)).symm
   have hst:∃ mm,stepRel (Types P) X ops N o (gF (ops.toList.zip (rs.map (·.2))) 0 (fun j=>listed.getD j false) g0) mm (base+16*i) r∧MemOK E w mm:=by
    refine ⟨_,stepRel_congr hstep hgeq (.inl rfl),fun b hb=>?_⟩
    unfold restr
    split
    ·rename_i hbS
     rw [hmeq b hbS];exact hs.mem b hb
    ·trivial
   obtain ⟨mm,hst1,hst2⟩:=hst
   have hs':SatF N w0 bl E a w (gF (ops.toList.zip (rs.map (·.2))) 0 (fun j=>listed.getD j false) g0) mm:=⟨hs.defers,hs.size,hs.inv,hst2,hs.slots⟩
   have hfree:∀ k,base+16*i≤k→k<base+16*i+16→¬ E.alive k:=fun k h1 h2 h3=>by
    rcases hal k h3 with h4|⟨j,h4,h5,h6⟩
    ·omega
    ·have:j=i:=by omega
     subst this;rw [hLi] at h4;simp at h4
   have hset:∀ j,(listed.setIfInBounds i true).getD j false=if i=j then true else listed.getD j false:=fun j=>by
    by_cases e:i=j
    ·subst e;simp [Array.getD_eq_getD_getElem?,hsz,hilt]
    ·simp [Array.getD_eq_getD_getElem?,Array.getElem?_setIfInBounds_ne e,e]
   have hgnew:gF (ops.toList.zip (rs.map (·.2))) 0 (fun j=>(listed.setIfInBounds i true).getD j false) g0=putF (gF (ops.toList.zip (rs.map (·.2))) 0 (fun j=>listed.getD j false) g0) o.dst r.1:=by
    funext t
    by_cases hd:o.dst=some t
    ·rw [putF,if_pos hd]
     refine gF_last hzi (by simp [hset]) hd fun j y ry hij hj hyd=>?_
     simp only [Nat.zero_add,hset]
     rw [if_neg (by omega)]
     have:=conf (hzop hj) (by omega) (slotc hyd (.inr hd))
     rw [this];simp;omega
    ·rw [putF,if_neg hd]
     refine gF_at rfl fun j y ry hj hyd=>?_
     simp only [Nat.zero_add,hset]
     rw [if_neg fun e=>?_]
     subst e
     rw [hzi] at hj
     simp only [oJ,pJ] at hj
     rw [hj.1] at hd
     exact hd hyd
   have hmnew:mF (ops.toList.zip (rs.map (·.2))) 0 (fun j=>(listed.setIfInBounds i true).getD j false) m0=updM (mF (ops.toList.zip (rs.map (·.2))) 0 (fun j=>listed.getD j false) m0) r.2:=by
    funext b
    by_cases hd:b∈r.2.map (·.1)
    ·refine mF_last hzi (by simp [hset]) hd (fun j y ry hij hj hyd=>?_) _
     simp only [Nat.zero_add,hset]
     rw [if_neg (by omega)]
     obtain ⟨Sj,hSj⟩:=hzS hj
     rw [confM hSj (by omega) hyd (.inr hd)];simp;omega
    ·rw [updM_not hd]
     refine mF_at rfl fun j y ry hj hyd=>?_
     simp only [Nat.zero_add,hset]
     rw [if_neg fun e=>?_]
     subst e
     rw [hzi] at hj
     simp only [oJ,pJ] at hj
     rw [hj.2] at hd
     exact hd hyd
   have key:=step_wp hX (Q:=Q) (next:=wpAny P .any ops Q fuel (listed.setIfInBounds i true)) hs' hst1 hfree fun E' a' w' st hs2=>by
    refine ih _ E' a' w' (by simp [hsz]) ?_ ?_ ?_ ?_
    ·have:(List.range ops.size).countP (fun j=>!((listed.setIfInBounds i true).getD j false))<(List.range ops.size).countP (fun j=>!(listed.getD j false)):=by
      refine countP_lt (fun x hx=>?_) ⟨i,List.mem_range.2 hilt,by simp [hLi],by simp [hset]⟩
      rw [hset] at hx
      split at hx
      ·simp at hx
      ·exact hx
     omega
    ·intro j y hy hj e he hb
     rw [hset] at hj ⊢
     split
     ·rfl
     ·split at hj
      ·rename_i hij;subst hij;rw [ho] at hy;simp at hy;subst hy;exact hdeps e he hb
      ·exact hdown j y hy hj e he hb
    ·rw [hgnew,hmnew]
     exact ⟨hs2.defers,hs2.size,hs2.inv,st.mem hs.inv hs.mem,hs2.slots⟩
    ·intro b hb
     rcases st.alive b hb with h1|h1
     ·rcases hal b h1 with h2|⟨j,h2,h3⟩
      ·exact .inl h2
      ·exact .inr ⟨j,by rw [hset,h2];simp,h3⟩
     ·rcases stepRel_dom hX hstep b h1 with h2|⟨h2,h3⟩
      ·exact .inr ⟨i,by simp [hset],h2.1,h2.2⟩
      ·have hbS:b∈S:=by
        by_cases hbS:b∈S
        ·exact hbS
        ·exact absurd (by unfold restr;rw [if_neg hbS]) h3
       have h3':mF (ops.toList.zip (rs.map (·.2))) 0 (fun j=>decide (j<i)) m0 b≠.dead:=fun e=>h3 (by unfold restr;rw [if_pos hbS];exact e)
       rcases hlive b h3' with h4|⟨j,h4,h5,h6,p,h7,h8⟩
       ·exact .inl h4
       ·refine .inr ⟨j,?_,h5,h6⟩
        rw [hset,before (hO.mem j i p (S,r) h7 hSi h4 ⟨b,.inl ⟨h8,.inl hbS⟩⟩)]
        simp
   unfold wpOp
   simp only [ho]
   split
   ·rename_i hw;rw [if_pos hw] at key;exact .inl key
   ·rename_i hw;rw [if_neg hw] at key;exact key
end
end Go.AM
namespace Go.AM
open Go
def opFoot (op:Op) (ev:Operand→AV) (M:Nat→AO):List Nat:=match op with
 | .load _ x=>(ev x).nms
 | .store _ x _=>(ev x).nms
 | .call c=>match c.callee with
  | .builtin b=>match b with
   | .len=>match c.args.toList.map ev with
    | [.mp b _]=>[b]
    | _=>[]
   | .min|.max|.cap=>[]
   | _=>nmsL (c.args.toList.map ev)
  | .value f=>gat M 64 (nmsL (ev f::c.args.toList.map ev)) []
  | _=>[]
 | .lookup _ x _ _=>(ev x).nms
 | .mapUpdate _ x _ _=>(ev x).nms
 | _=>[]
abbrev Foot:=List Nat×List Nat
def arunFt (T:TypeId→Option TD) (X:AX) (ops:Array Oper) (N base:Nat):List Oper→Nat→List (Nat×AV)→List (Nat×AO)→List Foot→Option (List (Nat×AV)×List (Nat×AO)×List Foot)
 | [],_,l,M,fs=>some (l,M,fs)
 | o::r,i,l,M,fs =>
  if dstOK N o=true then
   match o.guard with
   | none=>match astep T X o.op (aEv l) (restr (opFoot o.op (aEv l) (getM M)) (getM M)) (base+16*i) with
    | some (av,u)=>arunFt T X ops N base r (i+1) (putS l o.dst av) (updL M u) ((opFoot o.op (aEv l) (getM M),u.map (·.1))::fs)
    | none=>none
   | some (j,want)=>match (ops[j]?).bind (·.dst) with
    | some d=>match yV (getS l d) with
     | some (some b) =>
      if b=want then
       match astep T X o.op (aEv ((d,.v (.bool want))::l)) (restr (opFoot o.op (aEv ((d,.v (.bool want))::l)) (getM M)) (getM M)) (base+16*i) with
       | some (av,u)=>arunFt T X ops N base r (i+1) (putS ((d,.v (.bool want))::l) o.dst av) (updL M u) ((opFoot o.op (aEv ((d,.v (.bool want))::l)) (getM M),u.map (·.1))::fs)
       | none=>none
      else arunFt T X ops N base r (i+1) (putS ((d,.v (.bool (!want)))::l) o.dst .u) M (([],[])::fs)
     | some none=>arunFt T X ops N base r (i+1) (putS l o.dst .u) M (([],[])::fs)
     | none=>none
    | none=>none
  else none
def footOf (r:RecF):Foot:=(r.1,r.2.2.map (·.1))
theorem recsF_of_run {T:TypeId→Option TD} {X:AX} {ops:Array Oper} {N base:Nat}:∀ {ol:List Oper} {i:Nat} {l l':List (Nat×AV)} {M M':List (Nat×AO)} {fs fs':List Foot},arunFt T X ops N base ol i l M fs=some (l',M',fs') →
  ∃ rs,RecsF T X ops N base ol i (getS l) (getM M) rs (getS l') (getM M')∧fs'=(rs.map footOf).reverse++fs
 | [],i,l,l',M,M',fs,fs',h=>by
  simp only [arunFt,oJ,pJ] at h
  obtain ⟨rfl,rfl,rfl⟩:=h
  exact ⟨[],⟨rfl,rfl⟩,rfl⟩
 | o::ol,i,l,l',M,M',fs,fs',h=>by
  simp only [arunFt] at h
  split at h
  case isFalse=>simp at h
  rename_i hd
  cases hg:o.guard with
  | none =>
   simp only [hg] at h
   cases hs:astep T X o.op (aEv l) (restr (opFoot o.op (aEv l) (getM M)) (getM M)) (base+16*i)<;>simp only [hs,reduceCtorEq] at h
   rename_i r
   obtain ⟨av,u⟩:=r
   obtain ⟨rs,hrs,hfs⟩:=recsF_of_run h
   refine ⟨(opFoot o.op (aEv l) (getM M),av,u)::rs,?_,by rw [hfs];simp [footOf]⟩
   simp only [RecsF,stepRel,hg,hd,true_and]
   rw [getS_putS,getM_updL] at hrs
   exact ⟨by rw [← aEv_eq];exact hs,hrs⟩
  | some jw =>
   obtain ⟨j,want⟩:=jw
   simp only [hg] at h
   cases hdj:(ops[j]?).bind (·.dst)<;>simp only [hdj,reduceCtorEq] at h
   rename_i d
   cases hy:yV (getS l d)<;>simp only [hy,reduceCtorEq] at h
   rename_i y
   cases y with
   | none =>
    simp only at h
    obtain ⟨rs,hrs,hfs⟩:=recsF_of_run h
    refine ⟨([],.u,[])::rs,?_,by rw [hfs];simp [footOf]⟩
    simp only [RecsF,stepRel,hg,hd,true_and]
    rw [getS_putS] at hrs
    exact ⟨⟨d,none,hdj,hy,by simp⟩,hrs⟩
   | some b =>
   simp only at h
   have hgd:=yV_bool hy
   split at h
   ·rename_i hb
    subst hb
    have hsame:=getS_same l d _ hgd
    cases hs:astep T X o.op (aEv ((d,.v (.bool b))::l)) (restr (opFoot o.op (aEv ((d,.v (.bool b))::l)) (getM M)) (getM M)) (base+16*i)<;>simp only [hs,reduceCtorEq] at h
    rename_i r
    obtain ⟨av,u⟩:=r
    obtain ⟨rs,hrs,hfs⟩:=recsF_of_run h
    refine ⟨(opFoot o.op (aEv ((d,.v (.bool b))::l)) (getM M),av,u)::rs,?_,by rw [hfs];simp [footOf]⟩
    simp only [RecsF,stepRel,hg,hd,true_and]
    rw [getS_putS,getM_updL,hsame] at hrs
    have e1:aEv ((d,.v (.bool b))::l)=aEvF (getS l):=by rw [aEv_eq,hsame]
    rw [e1] at hs ⊢
    exact ⟨⟨d,some b,hdj,hy,by rw [if_pos rfl];exact hs⟩,hrs⟩
   ·rename_i hb
    have hnb:(!want)=b:=by cases b<;>cases want<;>simp at hb ⊢
    rw [hnb] at h
    have hsame:=getS_same l d _ hgd
    obtain ⟨rs,hrs,hfs⟩:=recsF_of_run h
    refine ⟨([],.u,[])::rs,?_,by rw [hfs];simp [footOf]⟩
    simp only [RecsF,stepRel,hg,hd,true_and]
    rw [getS_putS,hsame] at hrs
    exact ⟨⟨d,some b,hdj,hy,by rw [if_neg (by simpa using hb)];trivial⟩,hrs⟩
def memB (l:List Nat) (b:Nat):Bool:=l.any fun c=>Nat.beq c b
theorem memB_iff {l:List Nat} {b:Nat}:memB l b=true↔b∈l:=by
 unfold memB
 rw [List.any_eq_true]
 constructor
 ·rintro ⟨c,hc,e⟩
  rw [← Nat.eq_of_beq_eq_true e];exact hc
 ·exact fun h=>⟨b,h,Nat.beq_refl b⟩
def clashB (p q:Foot):Bool:=p.2.any (fun b=>memB q.1 b||memB q.2 b)||q.2.any fun b=>memB p.1 b
theorem clashB_iff {p q:Foot} (h:clashB p q=false):¬ ∃ b,(b∈p.2∧(b∈q.1∨b∈q.2))∨(b∈q.2∧b∈p.1):=by
 rintro ⟨b,hb⟩
 simp only [clashB,Bool.or_eq_false_iff,List.any_eq_false,Bool.or_eq_true,memB_iff] at h
 rcases hb with ⟨h1,h2⟩|⟨h1,h2⟩
 ·exact h.1 b h1 h2
 ·exact h.2 b h1 h2
def okD (ops:Array Oper) (fsr:List Foot):Bool :=
 ops.toList.zipIdx.all (fun p=>p.1.after.all fun e=>!Region.binds .any e||decide (e.on<p.2)) &&
 (ops.toList.zip fsr.reverse).zipIdx.all (fun p=>(ops.toList.zip fsr.reverse).zipIdx.all fun q=>!(decide (p.2<q.2))||(Oper.apart ops p.1.1 q.1.1&&!clashB p.1.2 q.1.2)||((ancAll ops.toList []).getD q.2 0).testBit p.2)
theorem ordF_of {ops:Array Oper} {rs:List RecF} (hl:rs.length=ops.toList.length) (h:okD ops (rs.map footOf).reverse=true):OrdF ops rs:=by
 simp only [okD,List.reverse_reverse,Bool.and_eq_true] at h
 obtain ⟨h1,h2⟩:=h
 have hz:∀ j o,ops[j]?=some o→(o,j)∈ops.toList.zipIdx:=fun j o ho=>by
  rw [List.mem_zipIdx_iff_getElem?]
  simpa using ho
 have hz2:∀ j o r,ops[j]?=some o→rs[j]?=some r→((o,footOf r),j)∈(ops.toList.zip (rs.map footOf)).zipIdx:=fun j o r ho hr=>by
  rw [List.mem_zipIdx_iff_getElem?,List.getElem?_zip_eq_some]
  exact ⟨by simpa using ho,by rw [List.getElem?_map,hr];rfl⟩
 have hanc:∀ i j x y p q,ops[i]?=some x→ops[j]?=some y→rs[i]?=some p→rs[j]?=some q→i<j→(Oper.apart ops x y&&!clashB (footOf p) (footOf q))=false→Anc ops i j:=fun i j x y p q hx hy hp hq hij hc=>by
  have h3:=List.all_eq_true.1 (List.all_eq_true.1 h2 _ (hz2 i x p hx hp)) _ (hz2 j y q hy hq)
  simp only [hij,decide_true,Bool.not_true,hc,Bool.false_or] at h3
  exact ancAll_spec ops.toList [] (fun j=>by simp) (fun j i hb=>by simp at hb) j i h3
 have hrs:∀ j o,ops[j]?=some o→∃ r,rs[j]?=some r:=fun j o ho=>by
  have hj:j<ops.size:=(Array.getElem?_eq_some_iff.1 ho).1
  exact ⟨rs[j]'(by rw [hl];simpa using hj),List.getElem?_eq_getElem _⟩
 have hos:∀ j (r:RecF),rs[j]?=some r→∃ o,ops[j]?=some o:=fun j r hr=>by
  have hj:j<rs.length:=(List.getElem?_eq_some_iff.1 hr).1
  rw [hl] at hj
  have hj:j<ops.size:=by simpa using hj
  exact ⟨_,Array.getElem?_eq_getElem hj⟩
 refine ⟨fun j o ho e he hb=>?_,fun i j x y hx hy hij hc=>?_,fun i j p q hp hq hij hc=>?_⟩
 ·have:=List.all_eq_true.1 h1 _ (hz j o ho)
  simp only [Array.all_eq_true'] at this
  have:=this e he
  simpa [hb] using this
 ·obtain ⟨p,hp⟩:=hrs i x hx
  obtain ⟨q,hq⟩:=hrs j y hy
  exact hanc i j x y p q hx hy hp hq hij (by rw [hc];rfl)
 ·obtain ⟨x,hx⟩:=hos i p hp
  obtain ⟨y,hy⟩:=hos j q hq
  refine hanc i j x y p q hx hy hp hq hij ?_
  cases hcl:clashB (footOf p) (footOf q) with
  | true=>simp
  | false=>exact absurd hc (clashB_iff hcl)
theorem region_drawnF {P:Program} {X:AX} (hX:XOK P X) (hmix:P.follows .mixedOrders=true) {id N:Nat} {ops:Array Oper} {w0:World} {bl:Bk} {a:Act} {w:World} {st:St} {s:List (Nat×AV)} {m:List (Nat×AO)} {fs:List Foot} {Q:Exit→Act→World→Prop}
  (hs:Sat N w0 bl a w st) (hh:arunFt (Types P) X ops N st.nx ops.toList 0 st.s st.m []=some (s,m,fs)) (hO:okD ops fs=true) (hq:∀ a' w',Sat N w0 bl a' w' ⟨s,m,st.nx+16*ops.size⟩→Q .normal a' w'):(Code.region id ops true).wp P Q a w:=by
 obtain ⟨rs,hrs,hfs⟩:=recsF_of_run hh
 rw [List.append_nil] at hfs
 subst hfs
 obtain ⟨E,h1,h2,h3⟩:=hs
 have hinv:Inv w0 bl E { w with drawn:=w.drawn+1 }:=(StT.refl (w':={ w with drawn:=w.drawn+1 }) h1.inv rfl rfl rfl).inv
 have hs1:SatF N w0 bl E a { w with drawn:=w.drawn+1 } (getS st.s) (getM st.m) :=
  ⟨h1.defers,h1.size,hinv,fun b hb=>ObR.mono (w:=w) (w':={ w with drawn:=w.drawn+1 }) (Env.Le.refl E) (fun _ _=>rfl) rfl rfl (fun _ _ _ _=>rfl) (h1.mem b hb),fun t=>Rep.mono (w:=w) (w':={ w with drawn:=w.drawn+1 }) (Env.Le.refl E) (fun _ _=>rfl) (h1.slots t)⟩
 have hlist:∀ j,(Array.replicate ops.size false).getD j false=false:=fun j=>by
  rw [Array.getD_eq_getD_getElem?,Array.getElem?_replicate]
  split<;>rfl
 obtain ⟨hlen,hg',hm',hz⟩:=recsF_at hrs
 have hord:=ordF_of hlen hO
 have hfin:∀ k,getM m k≠.dead→k<st.nx+16*ops.size:=fun k hk=>by
  rw [hm'] at hk
  have hk':mF (ops.toList.zip (rs.map (·.2))) 0 (fun j=>decide (j<ops.size)) (getM st.m) k≠.dead:=by
   rwa [mF_at (L':=fun _=>true) rfl fun j o r hj _=>by
    have:=(List.getElem?_eq_some_iff.1 hj).1
    simp at this
    simp;omega]
  rcases live_ofF hX hz h3 ops.size k hk' with h4|⟨j,h4,h5,h6,_⟩
  ·omega
  ·omega
 refine wp_region_any hmix (run_anyF hX hord hrs h3 (fun E' a' w' k1 k2=>hq a' w' ⟨E',k1,k2,hfin⟩) ops.size _ E a _ (by simp) ?_ (fun j o _ hj=>by rw [hlist] at hj;simp at hj) ?_ (fun b hb=>.inl (h2 b hb)))
 ·refine Nat.le_trans List.countP_le_length ?_
  simp
 ·rw [gF_none (fun j _=>hlist j),mF_none (fun j _=>hlist j)]
  exact hs1
def RunFt (T:TypeId→Option TD) (X:AX) (ops:Array Oper) (N base:Nat) (l:List Oper) (i:Nat) (s:List (Nat×AV)) (m:List (Nat×AO)) (fs:List Foot) (Q:List (Nat×AV)→List (Nat×AO)→Prop):Prop :=
 ∃ s' m' fs',arunFt T X ops N base l i s m fs=some (s',m',fs')∧okD ops fs'=true∧Q s' m'
def StepFt (T:TypeId→Option TD) (X:AX) (ops:Array Oper) (N base:Nat) (r:List Oper) (i:Nat) (s:List (Nat×AV)) (m:List (Nat×AO)) (fs:List Foot) (dst:Option Nat) (Q:List (Nat×AV)→List (Nat×AO)→Prop) (S:List Nat) (a:Option (AV×List (Nat×AO))):Prop :=
 ∃ av u,a=some (av,u)∧RunFt T X ops N base r (i+1) (putS s dst av) (updL m u) ((S,u.map (·.1))::fs) Q
def StepSt (T:TypeId→Option TD) (X:AX) (ops:Array Oper) (N base:Nat) (r:List Oper) (i:Nat) (s:List (Nat×AV)) (m:List (Nat×AO)) (fs:List Foot) (dst:Option Nat) (op:Op) (Q:List (Nat×AV)→List (Nat×AO)→Prop) (S:List Nat):Prop :=
 StepFt T X ops N base r i s m fs dst Q S (astep T X op (aEv s) (restr S (getM m)) (base+16*i))
section
variable {T:TypeId→Option TD} {X:AX} {ops:Array Oper} {N base:Nat} {l r:List Oper} {i:Nat} {s:List (Nat×AV)} {m:List (Nat×AO)} {fs:List Foot} {Q:List (Nat×AV)→List (Nat×AO)→Prop} {dst:Option Nat} {op:Op} {ty:TypeId} {pos:String} {aft:Array Edge}
@[simp] theorem runFt_nil:RunFt T X ops N base [] i s m fs Q↔okD ops fs=true∧Q s m:=by
 simp only [RunFt,arunFt,oJ,pJ]
 constructor
 ·rintro ⟨_,_,_,⟨rfl,rfl,rfl⟩,h⟩;exact h
 ·exact fun h=>⟨_,_,_,⟨rfl,rfl,rfl⟩,h⟩
@[simp] theorem stepFt_some {av:AV} {u:List (Nat×AO)} {S:List Nat}:StepFt T X ops N base r i s m fs dst Q S (some (av,u))↔RunFt T X ops N base r (i+1) (putS s dst av) (updL m u) ((S,u.map (·.1))::fs) Q:=by
 constructor
 ·rintro ⟨_,_,h,k⟩
  simp only [oJ,pJ] at h
  obtain ⟨rfl,rfl⟩:=h
  exact k
 ·exact fun k=>⟨_,_,rfl,k⟩
@[simp] theorem stepSt_cons {b:Nat} {S:List Nat}:StepSt T X ops N base r i s m fs dst op Q (b::S)↔StepFt T X ops N base r i s m fs dst Q (b::S) (astep T X op (aEv s) (restr (b::S) (getM m)) (base+16*i)):=Iff.rfl
@[simp] theorem stepSt_nil:StepSt T X ops N base r i s m fs dst op Q []↔StepFt T X ops N base r i s m fs dst Q [] (astep T X op (aEv s) (restr [] (getM m)) (base+16*i)):=Iff.rfl
@[simp] theorem runFt_plain:RunFt T X ops N base (⟨dst,op,ty,pos,aft,.none⟩::r) i s m fs Q↔dstOK N ⟨dst,op,ty,pos,aft,.none⟩=true∧StepSt T X ops N base r i s m fs dst op Q (opFoot op (aEv s) (getM m)):=by
 simp only [RunFt,arunFt,StepSt,StepFt]
 by_cases hd:dstOK N ⟨dst,op,ty,pos,aft,.none⟩=true
 ·simp only [hd,if_true,true_and]
  cases astep T X op (aEv s) (restr (opFoot op (aEv s) (getM m)) (getM m)) (base+16*i) with
  | none=>simp
  | some p =>
   obtain ⟨av,u⟩:=p
   simp only [oJ,pJ]
   constructor
   ·rintro ⟨s',m',fs',h,k⟩;exact ⟨av,u,⟨rfl,rfl⟩,s',m',fs',h,k⟩
   ·rintro ⟨av',u',⟨rfl,rfl⟩,s',m',fs',h,k⟩;exact ⟨s',m',fs',h,k⟩
 ·simp only [hd]
  simp
theorem aw_runFt {c:Cx} {st:St} {Q:Exit→St→Prop} {id:Nat} {ops:Array Oper} (hc:c.OK)
  (h:RunFt (Types c.P) c.X ops c.N st.nx ops.toList 0 st.s st.m [] fun s m=>Q .normal ⟨s,m,st.nx+16*ops.size⟩):AW c (.region id ops true) st Q:=fun a w hs=>by
 obtain ⟨s,m,fs,h1,h2,h3⟩:=h
 exact region_drawnF hc.x hc.mixed hs h1 h2 fun a' w' hs'=>⟨_,h3,hs'⟩
end
@[simp] theorem restr_at {S:List Nat} {M:Nat→AO} {b:Nat}:restr S M b=if b∈S then M b else .dead:=rfl
attribute [simp] opFoot AV.nms nmsL AO.nms gat
end Go.AM
