/- A part of the proof: what functions of the program compute, by abstract execution of their code. Its theorems hold without further condition. -/
import Derived.Test.YtcfhmdljeeppfaaGreatSAmZa
set_option linter.all false
namespace Go.AM
open Go
def getL (ms:List AO) (b:Nat):AO:=(ms[b]?).getD .dead
def GSound (P:Program) (f:FuncId) (F:List AV→List AO→Option (AV×List AO)):Prop :=
 ∀ (w:World) (l:List Nat) (E:Env) (args:List Value) (avs:List AV) (ms:List AO) (r:AV) (ms':List AO),F avs ms=some (r,ms') →
  Inv w ⟨l,E,ms.length⟩ E w→(∀ b,b<ms.length→E.alive b)→MemOK E w (getL ms)→RepL E w avs args →
  Calls P f args.toArray w fun e w'=>∃ x E',e=.returned x∧Inv w ⟨l,E,ms.length⟩ E' w'∧(∀ b,E'.alive b→b<ms'.length)∧MemOK E' w' (getL ms')∧Rep E' w' r x
def idx:Nat→List AO→List (Nat×AO)
 | _,[]=>[]
 | k,o::r=>(k,o)::idx (k+1) r
theorem getM_idx:∀ {ms:List AO} {k b:Nat},getM (idx k ms) (k+b)=getL ms b
 | [],k,b=>by simp [idx,getM,getL]
 | o::r,k,0=>by simp [idx,getM,getL]
 | o::r,k,b+1=>by
  have ih:=getM_idx (ms:=r) (k:=k+1) (b:=b)
  simp only [idx,getM]
  rw [if_neg (by omega),show k+(b+1)=k+1+b by omega,ih]
  simp [getL]
theorem getM_idx0 {ms:List AO}:getM (idx 0 ms)=getL ms:=by
 funext b
 have:=getM_idx (ms:=ms) (k:=0) (b:=b)
 simpa using this
def LeavesG (T:TypeId→Option TD) (rv:List ResultVar) (n:Nat) (st:St) (r:AV) (ms':List AO):Prop :=
 ∃ as,aResults T st rv=some as∧Le n ⟨[(0,retOf as)],st.m,st.nx⟩ ⟨[(0,r)],idx 0 ms',ms'.length⟩
theorem gsound_of {P:Program} {f:FuncId} {fn:Func} {c:Code} {N:Nat} {F:List AV→List AO→Option (AV×List AO)} (hf:P.funcs[f]?=some fn) (hb:fn.body=some c) (hN:fn.ntmps=N)
  (h:∀ (w0:World) (l:List Nat) (E:Env) (avs:List AV) (ms:List AO) (r:AV) (ms':List AO),F avs ms=some (r,ms')→avs.length≤N∧∃ X,
   AW ⟨P,X,N,w0,⟨l,E,ms.length⟩⟩ c ⟨enterS avs,idx 0 ms,ms.length⟩ (fun e st=>(e=.normal∨e=.ret)∧LeavesG (Types P) fn.results.toList ms.length st r ms')) :
  GSound P f F:=by
 intro w l E args avs ms r ms' hF hI hal hM hr
 obtain ⟨hlen,X,haw⟩:=h w l E avs ms r ms' hF
 have hll:=hr.length
 have hsat:Sat N w ⟨l,E,ms.length⟩ { tmps:=args.toArray++Array.replicate (fn.ntmps - args.toArray.size) undef,defers:=[] } w ⟨enterS avs,idx 0 ms,ms.length⟩:=by
  refine ⟨E,⟨rfl,by simp [hN];omega,hI,by rw [getM_idx0];exact hM,fun t=>?_⟩,hI.low,fun k hk=>?_⟩
  ·rw [enterS,getS_enter]
   simp only [Nat.zero_le,if_true,Nat.sub_zero]
   cases ht:avs[t]? with
   | none=>simp [Rep,CRep]
   | some a =>
    obtain ⟨x,h1,h2⟩:=hr.get ht
    have hlt:=(List.getElem?_eq_some_iff.1 ht).1
    rw [Array.getD_eq_getD_getElem?,Array.getElem?_append_left (by simp;omega)]
    have:args.toArray[t]?=some x:=by simpa using h1
    rw [this]
    exact h2
  ·rw [getM_idx0] at hk
   unfold getL at hk
   by_cases e:k<ms.length
   ·exact e
   ·rw [List.getElem?_eq_none (by omega)] at hk
    exact absurd rfl hk
 refine calls_of_wp hf hb (wp_mono (haw _ _ hsat) fun e a w' ⟨st,⟨he,as,h1,h2⟩,E',hs,h3,h4⟩=>?_)
 obtain ⟨vs,k1,k2⟩:=aResults_ok hs h1
 have hrun:(results fn a.tmps).run P w'=.ok (if h:vs.toArray.size=1 then vs.toArray[0] else .tuple vs.toArray) w':=by
  unfold results
  rw [Sem.run_bind,← Array.toArray_toList (xs:=fn.results),List.mapM_toArray]
  simp only [Sem.run_map]
  have:(List.mapM (fun x=>match x with|.tmp t=>pure (a.tmps.getD t undef)|.cell b t=>do loadVar t (← asAddr (a.tmps.getD b undef))) fn.results.toList:Sem (List Value)).run P w'=.ok vs w':=k1
  erw [this]
  rfl
 have hrep:Rep E' w' (retOf as) (if h:vs.toArray.size=1 then vs.toArray[0] else .tuple vs.toArray):=by
  match as,vs,k2 with
  | [],[],_=>simp only [retOf,Rep];exact ⟨[],by simp,by simp [RepL]⟩
  | [a],[v],h =>
   simp only [RepL] at h
   simpa [retOf] using h.1
  | a::b::as,v::u::vs,h =>
   simp only [retOf,Rep]
   exact ⟨v::u::vs,by simp,h⟩
 have hs1:Sat 1 w ⟨l,E,ms.length⟩ { tmps:=#[if h:vs.toArray.size=1 then vs.toArray[0] else .tuple vs.toArray],defers:=[] } w' ⟨[(0,retOf as)],st.m,st.nx⟩:=by
  refine ⟨E',⟨rfl,rfl,hs.inv,hs.mem,fun t=>?_⟩,h3,h4⟩
  simp only [getS]
  split
  ·rename_i e;subst e;simpa using hrep
  ·simp [Rep,CRep]
 obtain ⟨E2,hs2,h5,_⟩:=h2 _ _ _ _ _ rfl hs1
 have hx:=hs2.slots 0
 simp only [getS,if_true] at hx
 have hfin:∃ x E',Ending.returned (if h:vs.toArray.size=1 then vs.toArray[0] else .tuple vs.toArray)=Ending.returned x∧Inv w ⟨l,E,ms.length⟩ E' w'∧(∀ b,E'.alive b→b<ms'.length)∧MemOK E' w' (getL ms')∧Rep E' w' r x :=
  ⟨_,E2,rfl,hs2.inv,h5,by have:=hs2.mem;rwa [getM_idx0] at this,by simpa using hx⟩
 rcases he with rfl|rfl
 ·exact ⟨hs.defers,_,hrun,hfin⟩
 ·exact ⟨hs.defers,_,hrun,hfin⟩
noncomputable def specG {ι:Type} (A:ι→List AV) (M:ι→List AO) (R:ι→AV) (O:ι→List AO) (avs:List AV) (ms:List AO):Option (AV×List AO) :=
 open Classical in if h:∃ i,A i=avs∧M i=ms then some (R h.choose,O h.choose) else none
theorem specG_eq {ι:Type} {A:ι→List AV} {M:ι→List AO} {R:ι→AV} {O:ι→List AO} (i:ι) (h:∀ j,A j=A i→M j=M i→R j=R i∧O j=O i):specG A M R O (A i) (M i)=some (R i,O i):=by
 unfold specG
 have hex:∃ j,A j=A i∧M j=M i:=⟨i,rfl,rfl⟩
 rw [dif_pos hex]
 obtain ⟨h1,h2⟩:=h _ hex.choose_spec.1 hex.choose_spec.2
 rw [h1,h2]
theorem specG_some {ι:Type} {A:ι→List AV} {M:ι→List AO} {R:ι→AV} {O:ι→List AO} {avs:List AV} {ms:List AO} {r:AV} {o:List AO} (h:specG A M R O avs ms=some (r,o)):∃ i,A i=avs∧M i=ms∧R i=r∧O i=o:=by
 unfold specG at h
 split at h
 ·rename_i hex
  simp only [Option.some.injEq,Prod.mk.injEq] at h
  exact ⟨_,hex.choose_spec.1,hex.choose_spec.2,h.1,h.2⟩
 ·simp at h
theorem gsound_spec {ι:Type} {A:ι→List AV} {M:ι→List AO} {R:ι→AV} {O:ι→List AO} {P:Program} {f:FuncId} {fn:Func} {c:Code} (hf:P.funcs[f]?=some fn) (hb:fn.body=some c) (X:AX)
  (h:∀ (i:ι) (w0:World) (l:List Nat) (E:Env),(A i).length≤fn.ntmps ∧
   AW ⟨P,X,fn.ntmps,w0,⟨l,E,(M i).length⟩⟩ c ⟨enterS (A i),idx 0 (M i),(M i).length⟩ (fun e st=>(e=.normal∨e=.ret)∧LeavesG (Types P) fn.results.toList (M i).length st (R i) (O i))) :
  GSound P f (specG A M R O) :=
 gsound_of hf hb rfl fun w0 l E avs ms r ms' hr=>by
  obtain ⟨i,rfl,rfl,rfl,rfl⟩:=specG_some hr
  exact ⟨(h i w0 l E).1,X,(h i w0 l E).2⟩
mutual
def AV.nms:AV→List Nat
 | .bp b _|.sl b _ _ _ _|.ep b _ _ _ _|.bs b _ _ _|.mp b _=>[b]
 | .agg cs|.tup cs|.fn _ cs|.ifc _ cs=>nmsL cs
 | _=>[]
def nmsL:List AV→List Nat
 | []=>[]
 | a::r=>a.nms++nmsL r
end
def AO.nms:AO→List Nat
 | .box cs=>nmsL cs
 | _=>[]
theorem mem_nmsL {b:Nat}:∀ {l:List AV},b∈nmsL l↔∃ a∈l,b∈a.nms
 | []=>by simp [nmsL]
 | a::r=>by simp [nmsL,mem_nmsL (l:=r)]
mutual
theorem Rep.nms_alive {E:Env} {w:World}:∀ {a:AV} {x:Value},Rep E w a x→∀ b∈a.nms,E.alive b
 | .bp b o,x,h,c,hc=>by simp only [Rep,AV.nms,List.mem_singleton] at h hc;subst hc;exact h.1
 | .sl b m s o n,x,h,c,hc=>by simp only [Rep,AV.nms,List.mem_singleton] at h hc;subst hc;exact h.1
 | .ep b m s i j,x,h,c,hc=>by simp only [Rep,AV.nms,List.mem_singleton] at h hc;subst hc;exact h.1
 | .bs b o s n,x,h,c,hc=>by simp only [Rep,AV.nms,List.mem_singleton] at h hc;subst hc;exact h.1
 | .mp b m,x,h,c,hc=>by simp only [Rep,AV.nms,List.mem_singleton] at h hc;subst hc;exact h.1
 | .agg cs,x,h,c,hc=>by
  simp only [Rep,AV.nms] at h hc
  obtain ⟨vs,_,_,h⟩:=h
  exact RepL.nms_alive h c hc
 | .tup cs,x,h,c,hc=>by
  simp only [Rep,AV.nms] at h hc
  obtain ⟨vs,_,h⟩:=h
  exact RepL.nms_alive h c hc
 | .fn _ cs,x,h,c,hc=>by
  simp only [Rep,AV.nms] at h hc
  obtain ⟨vs,_,h⟩:=h
  exact RepL.nms_alive h c hc
 | .ifc _ cs,x,h,c,hc=>by
  simp only [Rep,AV.nms] at h hc
  obtain ⟨vs,_,h⟩:=h
  exact RepL.nms_alive h c hc
 | .any,_,_,c,hc=>by simp [AV.nms] at hc
 | .v _,_,_,c,hc=>by simp [AV.nms] at hc
 | .rd ..,_,_,c,hc=>by simp [AV.nms] at hc
 | .ow ..,_,_,c,hc=>by simp [AV.nms] at hc
 | .rp ..,_,_,c,hc=>by simp [AV.nms] at hc
 | .rf ..,_,_,c,hc=>by simp [AV.nms] at hc
 | .rm ..,_,_,c,hc=>by simp [AV.nms] at hc
 | .om ..,_,_,c,hc=>by simp [AV.nms] at hc
theorem RepL.nms_alive {E:Env} {w:World}:∀ {as:List AV} {xs:List Value},RepL E w as xs→∀ b∈nmsL as,E.alive b
 | [],[],_,c,hc=>by simp [nmsL] at hc
 | a::as,x::xs,h,c,hc=>by
  simp only [RepL,nmsL,List.mem_append] at h hc
  rcases hc with hc|hc
  ·exact Rep.nms_alive h.1 c hc
  ·exact RepL.nms_alive h.2 c hc
 | [],_::_,h,_,_=>by simp [RepL] at h
 | _::_,[],h,_,_=>by simp [RepL] at h
end
theorem ObjRep.nms_alive {E:Env} {w:World} {b:Nat} {o:AO} (h:ObjRep E w b o):∀ c∈o.nms,E.alive c:=by
 intro c hc
 cases o with
 | box cs =>
  simp only [ObjRep,AO.nms] at h hc
  obtain ⟨_,_,_,_,_,_,_,h⟩:=h
  exact h.nms_alive c hc
 | _=>simp [AO.nms] at hc
def Led (M:Nat→AO):List Nat→List Nat→Prop
 | _,[]=>True
 | fr,b::r=>b∈fr∧Led M ((M b).nms++fr) r
theorem led_alive {E:Env} {w:World} {M:Nat→AO} (hM:MemOK E w M):∀ {σ fr:List Nat},(∀ b∈fr,E.alive b)→Led M fr σ→∀ b∈σ,E.alive b
 | [],_,_,_,b,hb=>by simp at hb
 | c::σ,fr,hfr,h,b,hb=>by
  simp only [Led] at h
  have hc:=hfr c h.1
  rcases List.mem_cons.1 hb with rfl|hb
  ·exact hc
  ·refine led_alive hM (fr:=(M c).nms++fr) (fun d hd=>?_) h.2 b hb
   rcases List.mem_append.1 hd with hd|hd
   ·exact (hM c hc).nms_alive d hd
   ·exact hfr d hd
mutual
def AV.ren (σ:Nat→Nat) (v:Nat→Nat→Nat):AV→AV
 | .bp b o=>.bp (σ b) o
 | .sl b m s o k=>.sl (σ b) (v b m) s o k
 | .ep b m s i j=>.ep (σ b) (v b m) s i j
 | .bs b o s k=>.bs (σ b) o s k
 | .agg cs=>.agg (renL σ v cs)
 | .tup cs=>.tup (renL σ v cs)
 | .fn f cs=>.fn f (renL σ v cs)
 | .ifc f cs=>.ifc f (renL σ v cs)
 | .any=>.any
 | .v x=>.v x
 | .rd s xs=>.rd s xs
 | .ow s xs=>.ow s xs
 | .rp cs=>.rp cs
 | .rf cs=>.rf cs
 | .mp b m=>.mp (σ b) (v b m)
 | .rm k es=>.rm k es
 | .om k es=>.om k es
def renL (σ:Nat→Nat) (v:Nat→Nat→Nat):List AV→List AV
 | []=>[]
 | a::r=>a.ren σ v::renL σ v r
end
def AO.ren (σ:Nat→Nat) (v:Nat→Nat→Nat) (b:Nat):AO→AO
 | .dead=>.dead
 | .box cs=>.box (renL σ v cs)
 | .vec m s f xs=>.vec (v b m) s f xs
 | .map m k es=>.map (v b m) k es
def verOf:AO→Nat
 | .vec m _ _ _|.map m _ _=>m
 | _=>0
mutual
def AV.curB (M:Nat→AO):AV→Bool
 | .sl b m _ _ _|.ep b m _ _ _|.mp b m=>Nat.beq m (verOf (M b))
 | .agg cs|.tup cs|.fn _ cs|.ifc _ cs=>curBL M cs
 | _=>true
def curBL (M:Nat→AO):List AV→Bool
 | []=>true
 | a::r=>a.curB M&&curBL M r
end
def AO.curB (M:Nat→AO):AO→Bool
 | .box cs=>curBL M cs
 | _=>true
theorem verOf_ver {E:Env} {w:World} {b m:Nat} {o:AO} (h:ObjRep E w b o) (h1:1≤m) (e:m=verOf o):E.ver b=m:=by
 cases o with
 | vec m' s f xs=>simp only [ObjRep,verOf] at h e;rw [h.1,e]
 | map m' n es=>simp only [ObjRep,verOf] at h e;rw [h.1,e]
 | _=>simp only [verOf] at e;omega
mutual
def AV.okR (D:Nat→Prop) (V:Nat→Nat→Prop):AV→Prop
 | .bp b _|.bs b _ _ _=>D b
 | .sl b m _ _ _|.ep b m _ _ _|.mp b m=>D b∧V b m
 | .agg cs|.tup cs|.fn _ cs|.ifc _ cs=>okRL D V cs
 | _=>True
def okRL (D:Nat→Prop) (V:Nat→Nat→Prop):List AV→Prop
 | []=>True
 | a::r=>a.okR D V∧okRL D V r
end
def AO.okR (D:Nat→Prop) (V:Nat→Nat→Prop):AO→Prop
 | .box cs=>okRL D V cs
 | _=>True
mutual
theorem okR_true:∀ {a:AV},a.okR (fun _=>True) (fun _ _=>True)
 | .bp ..|.bs ..|.sl ..|.ep ..|.mp ..=>by simp [AV.okR]
 | .agg cs|.tup cs|.fn _ cs|.ifc _ cs=>by simp only [AV.okR];exact okRL_true
 | .any|.v _|.rd ..|.ow ..|.rp ..|.rf ..|.rm ..|.om ..=>by simp [AV.okR]
theorem okRL_true:∀ {l:List AV},okRL (fun _=>True) (fun _ _=>True) l
 | []=>by simp [okRL]
 | a::r=>by simp only [okRL];exact ⟨okR_true,okRL_true⟩
end
theorem okRO_true {o:AO}:o.okR (fun _=>True) (fun _ _=>True):=by
 cases o<;>simp only [AO.okR]
 exact okRL_true
section
variable {D:Nat→Prop} {M:Nat→AO}
mutual
theorem okR_cur:∀ {a:AV},(∀ b∈a.nms,D b)→a.curB M=true→a.okR D (fun b m=>m=verOf (M b))
 | .bp ..,h,_|.bs ..,h,_=>by simpa [AV.okR,AV.nms] using h
 | .sl b m _ _ _,h,k|.ep b m _ _ _,h,k|.mp b m,h,k=>by
  simp only [AV.okR,AV.nms,List.mem_singleton,forall_eq,AV.curB] at h k ⊢
  exact ⟨h,Nat.eq_of_beq_eq_true k⟩
 | .agg cs,h,k|.tup cs,h,k|.fn _ cs,h,k|.ifc _ cs,h,k=>by simp only [AV.okR,AV.nms,AV.curB] at h k ⊢;exact okRL_cur h k
 | .any,_,_|.v _,_,_|.rd ..,_,_|.ow ..,_,_|.rp ..,_,_|.rf ..,_,_|.rm ..,_,_|.om ..,_,_=>by simp [AV.okR]
theorem okRL_cur:∀ {l:List AV},(∀ b∈nmsL l,D b)→curBL M l=true→okRL D (fun b m=>m=verOf (M b)) l
 | [],_,_=>by simp [okRL]
 | a::r,h,k=>by
  simp only [okRL,nmsL,List.mem_append,curBL,Bool.and_eq_true] at h k ⊢
  exact ⟨okR_cur (fun b hb=>h b (.inl hb)) k.1,okRL_cur (fun b hb=>h b (.inr hb)) k.2⟩
end
theorem okRO_cur {o:AO} (h:∀ b∈o.nms,D b) (k:o.curB M=true):o.okR D (fun b m=>m=verOf (M b)):=by
 cases o<;>simp only [AO.okR]
 exact okRL_cur h k
end
structure RenOK (E E':Env) (w w':World) (σ:Nat→Nat) (v:Nat→Nat→Nat) (D:Nat→Prop) (V:Nat→Nat→Prop):Prop where
 G:∀ k,E.G k→E'.G k
 alive:∀ b,E.alive b→D b→E'.alive (σ b)
 loc:∀ b,E.alive b→D b→E'.loc (σ b)=E.loc b
 box:∀ b,E.alive b→D b→E.ver b=0→E'.ver (σ b)=0
 ver:∀ b m,E.alive b→D b→V b m→1≤m→m≤E.ver b→1≤v b m∧v b m≤E'.ver (σ b)∧(v b m=E'.ver (σ b)→m=E.ver b)
 heap:∀ k,E.G k→w'.heap[k]?=w.heap[k]?
section
variable {E E':Env} {w w':World} {σ:Nat→Nat} {v:Nat→Nat→Nat} {D:Nat→Prop} {V:Nat→Nat→Prop}
mutual
theorem RenOK.rep (h:RenOK E E' w w' σ v D V):∀ {a:AV} {x:Value},a.okR D V→Rep E w a x→Rep E' w' (a.ren σ v) x
 | .bp b o,x,hd,hr=>by
  simp only [Rep,AV.ren,AV.okR] at hr hd ⊢
  obtain ⟨h1,h2,blk,sz,h3,h4⟩:=hr
  exact ⟨h.alive b h1 hd,h.box b h1 hd h2,blk,sz,by rw [h.loc b h1 hd];exact h3,h4⟩
 | .bs b o s n,x,hd,hr=>by
  simp only [Rep,AV.ren,AV.okR] at hr hd ⊢
  obtain ⟨h1,h2,blk,sz,p,c,h3,h4⟩:=hr
  exact ⟨h.alive b h1 hd,h.box b h1 hd h2,blk,sz,p,c,by rw [h.loc b h1 hd];exact h3,h4⟩
 | .sl b m s o n,x,hd,hr=>by
  simp only [Rep,AV.ren,AV.okR] at hr hd ⊢
  obtain ⟨hd,hv⟩:=hd
  obtain ⟨h1,h2,h3,p,c,h4,h5,h6,h7⟩:=hr
  obtain ⟨k1,k2,k3⟩:=h.ver b m h1 hd hv h2 h3
  exact ⟨h.alive b h1 hd,k1,k2,p,c,h4,h5,h6,fun e=>by rw [h.loc b h1 hd];exact h7 (k3 e)⟩
 | .ep b m s i j,x,hd,hr=>by
  simp only [Rep,AV.ren,AV.okR] at hr hd ⊢
  obtain ⟨hd,hv⟩:=hd
  obtain ⟨h1,h2,h3,a,h4,h5⟩:=hr
  obtain ⟨k1,k2,k3⟩:=h.ver b m h1 hd hv h2 h3
  exact ⟨h.alive b h1 hd,k1,k2,a,h4,fun e=>by rw [h.loc b h1 hd];exact h5 (k3 e)⟩
 | .mp b m,x,hd,hr=>by
  simp only [Rep,AV.ren,AV.okR] at hr hd ⊢
  obtain ⟨hd,hv⟩:=hd
  obtain ⟨h1,h2,h3,blk,h4,h5⟩:=hr
  obtain ⟨k1,k2,k3⟩:=h.ver b m h1 hd hv h2 h3
  exact ⟨h.alive b h1 hd,k1,k2,blk,h4,fun e=>by rw [h.loc b h1 hd];exact h5 (k3 e)⟩
 | .agg cs,_,hd,hr=>by
  simp only [Rep,AV.ren,AV.okR] at hr hd ⊢
  obtain ⟨vs,h1,h2,h3⟩:=hr
  exact ⟨vs,h1,h2,RenOK.repL h hd h3⟩
 | .tup cs,_,hd,hr=>by
  simp only [Rep,AV.ren,AV.okR] at hr hd ⊢
  obtain ⟨vs,h1,h3⟩:=hr
  exact ⟨vs,h1,RenOK.repL h hd h3⟩
 | .fn f cs,_,hd,hr=>by
  simp only [Rep,AV.ren,AV.okR] at hr hd ⊢
  obtain ⟨vs,h1,h3⟩:=hr
  exact ⟨vs,h1,RenOK.repL h hd h3⟩
 | .ifc f cs,_,hd,hr=>by
  simp only [Rep,AV.ren,AV.okR] at hr hd ⊢
  obtain ⟨vs,h1,h3⟩:=hr
  exact ⟨vs,h1,RenOK.repL h hd h3⟩
 | .any,_,_,hr=>by simp only [Rep,AV.ren] at hr ⊢;exact hr.mono h.G h.heap
 | .v _,_,_,hr=>by simp only [Rep,AV.ren] at hr ⊢;exact hr.mono h.G h.heap
 | .rd ..,_,_,hr=>by simp only [Rep,AV.ren] at hr ⊢;exact hr.mono h.G h.heap
 | .ow ..,_,_,hr=>by simp only [Rep,AV.ren] at hr ⊢;exact hr.mono h.G h.heap
 | .rp ..,_,_,hr=>by simp only [Rep,AV.ren] at hr ⊢;exact hr.mono h.G h.heap
 | .rf ..,_,_,hr=>by simp only [Rep,AV.ren] at hr ⊢;exact hr.mono h.G h.heap
 | .rm ..,_,_,hr=>by simp only [Rep,AV.ren] at hr ⊢;exact hr.mono h.G h.heap
 | .om ..,_,_,hr=>by simp only [Rep,AV.ren] at hr ⊢;exact hr.mono h.G h.heap
theorem RenOK.repL (h:RenOK E E' w w' σ v D V):∀ {as:List AV} {xs:List Value},okRL D V as→RepL E w as xs→RepL E' w' (renL σ v as) xs
 | [],[],_,_=>by simp [RepL,renL]
 | a::as,x::xs,hd,hr=>by
  simp only [RepL,renL,okRL] at hr hd ⊢
  exact ⟨RenOK.rep h hd.1 hr.1,RenOK.repL h hd.2 hr.2⟩
 | [],_::_,_,hr=>by simp [RepL] at hr
 | _::_,[],_,hr=>by simp [RepL] at hr
end
def AO.renV (σ:Nat→Nat) (v:Nat→Nat→Nat) (m':Nat):AO→AO
 | .dead=>.dead
 | .box cs=>.box (renL σ v cs)
 | .vec _ s f xs=>.vec m' s f xs
 | .map _ n es=>.map m' n es
theorem RenOK.obj (h:RenOK E E' w w' σ v D V) {b:Nat} {o:AO} {m':Nat} (hw:∀ blk base sz,E.loc b=some (blk,base,sz)→w'.heap[blk]?=w.heap[blk]?) (ha:E.alive b) (hb:D b) (hd:o.okR D V) (hm:1≤E.ver b→1≤m'∧E'.ver (σ b)=m') (ho:ObjRep E w b o) :
  ObjRep E' w' (σ b) (o.renV σ v m'):=by
 cases o with
 | dead=>trivial
 | box cs =>
  simp only [ObjRep,AO.okR,AO.renV] at ho hd ⊢
  obtain ⟨h1,blk,t,vs,h2,h3,h4,h5⟩:=ho
  exact ⟨h.box b ha hb h1,blk,t,vs,by rw [h.loc b ha hb];exact h2,by rw [hw blk _ _ h2];exact h3,h4,h.repL hd h5⟩
 | vec m s f xs =>
  simp only [ObjRep,AO.renV] at ho ⊢
  obtain ⟨h1,h2,h3⟩:=ho
  obtain ⟨k1,k2⟩:=hm (by omega)
  refine ⟨k2,k1,?_⟩
  rw [h.loc b ha hb]
  cases hl:E.loc b with
  | none=>simpa only [hl] using h3
  | some L =>
   obtain ⟨blk,base,sz⟩:=L
   simp only [hl] at h3 ⊢
   obtain ⟨c,t,q1,q2,q3,q4,q5,q6⟩:=h3
   have hh:=hw blk base sz hl
   exact ⟨c,t,by rw [hh];exact q1,q2,q3,q4,q5,q6.mono h.G h.heap (.inl hh)⟩
 | map m n es =>
  simp only [ObjRep,AO.renV] at ho ⊢
  obtain ⟨h1,h2,blk,ents,clk,h3,h4,h5⟩:=ho
  obtain ⟨k1,k2⟩:=hm (by omega)
  exact ⟨k2,k1,blk,ents,clk,by rw [h.loc b ha hb];exact h3,by rw [hw blk _ _ h3];exact h4,h5.mono h.G h.heap⟩
end
def posN:List Nat→Nat→Nat
 | [],_=>0
 | c::r,b=>if c=b then 0 else posN r b+1
def nmN (σ:List Nat) (nid i:Nat):Nat:=if h:i<σ.length then σ[i] else nid+(i - σ.length)
def shN (M:Nat→AO) (σ:List Nat) (i:Nat):Nat:=match σ[i]? with
 | some b=>verOf (M b) - 1
 | none=>0
def canO (σ:List Nat) (o:AO):AO:=match o with
 | .dead=>.dead
 | .box cs=>.box (renL (posN σ) (fun _ _=>1) cs)
 | .vec _ s _ xs=>.vec 1 s false xs
 | .map _ n es=>.map 1 n es
def notDead:AO→Bool
 | .dead=>false
 | _=>true
def updN (M:Nat→AO) (σ:List Nat) (nid:Nat):Nat→List AO→List (Nat×AO)
 | _,[]=>[]
 | i,o::r=>(nmN σ nid i,o.ren (nmN σ nid) (fun j m=>m+shN M σ j) i)::updN M σ nid (i+1) r
def rng:Nat→Nat→List Nat
 | _,0=>[]
 | i,n+1=>i::rng (i+1) n
def gat (M:Nat→AO):Nat→List Nat→List Nat→List Nat
 | 0,_,acc=>acc
 | _+1,[],acc=>acc
 | n+1,b::t,acc=>if b∈acc then gat M n t acc else gat M n ((M b).nms++t) (acc++[b])
def CallG (M:Nat→AO) (avs:List AV) (σ:List Nat):Prop :=
 σ.Nodup∧Led M (nmsL avs) σ∧(∀ b∈σ,notDead (M b)=true)∧(∀ b∈nmsL avs,b∈σ)∧(∀ b∈σ,∀ c∈(M b).nms,c∈σ)∧curBL M avs=true∧∀ b∈σ,(M b).curB M=true
def RetG (k:Nat) (r:AV) (ms':List AO):Prop :=
 (k≤ms'.length∧ms'.length≤k+16)∧Led (getL ms') (r.nms++(rng 0 k).flatMap fun i=>(getL ms' i).nms) (rng k (ms'.length - k))
open Classical in
noncomputable def callG (F:List AV→List AO→Option (AV×List AO)) (avs:List AV) (M:Nat→AO) (nid:Nat):Option (AV×List (Nat×AO)) :=
 let σ:=gat M 64 (nmsL avs) []
 if CallG M avs σ then
  match F (renL (posN σ) (fun _ _=>1) avs) (σ.map fun b=>canO σ (M b)) with
  | some (r,ms')=>if RetG σ.length r ms' then some (r.ren (nmN σ nid) (fun j m=>m+shN M σ j),updN M σ nid 0 ms') else none
  | none=>none
 else none
end Go.AM
