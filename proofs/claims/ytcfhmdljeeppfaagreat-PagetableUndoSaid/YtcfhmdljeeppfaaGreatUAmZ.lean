/- A part of the proof: what functions of the program compute, by abstract execution of their code. Its theorems hold without further condition. -/
import Derived.Test.YtcfhmdljeeppfaaGreatUAmT
import Derived.WalkKit
set_option linter.all false
namespace Go.AM
open Go Go.ChangeShapes Go.WideShapes Go.ChangeAt Go.RowKit
theorem okWide_agg {P:Program} {w:World} {r:Reach} {base:Nat} {t:TypeId} {v:Value} (h:Value.okWide P w r base t v) :
    (∃ cs,v=.agg cs∧((∃ fs,P.underlying t=some (.struct fs))∨∃ n e,P.underlying t=some (.array n e))) ∨
    (v.cells=#[v]∧(∀ fs,P.underlying t≠some (.struct fs))∧∀ n e,P.underlying t≠some (.array n e)):=by
  unfold Value.okWide at h
  split at h
  · rename_i fs hu
    obtain ⟨cs,rfl,_⟩:=h
    exact .inl ⟨cs,rfl,.inl ⟨fs,hu⟩⟩
  · rename_i n e hu
    obtain ⟨cs,rfl,_⟩:=h
    exact .inl ⟨cs,rfl,.inr ⟨n,e,hu⟩⟩
  · rename_i h1 h2
    right
    refine ⟨?_,fun fs hu=>h1 fs hu,fun n e hu=>h2 n e hu⟩
    cases v with
    | agg cs =>
      exfalso
      unfold Cell.okWide at h
      split at h<;>try (rename_i heq;simp at heq;done)
      all_goals first
        | (rename_i heq;cases heq;done)
        | (unfold Cell.ok at h
           split at h<;>first|exact h|(rename_i heq;cases heq))
    | _=>rfl
def FitArg (P:Program) (t:TypeId) (a:AV):Prop:=∃ sh,shapeOf P 10 t=some sh ∧
  ((((∃ fs,P.underlying t=some (.struct fs))∨∃ n e,P.underlying t=some (.array n e))∧∃ cs,a=.agg cs∧FitL sh cs) ∨
   (((∀ fs,P.underlying t≠some (.struct fs))∧∀ n e,P.underlying t≠some (.array n e))∧FitL sh [a]))
def FitArgs (P:Program):List TypeId→List AV→Prop
 | [],[]=>True
 | t::ts,a::as=>FitArg P t a∧FitArgs P ts as
 | _,_=>False
section
variable {H:Type} {enc:TypeId×Value→H} {P:Program} {w:World}
theorem args_open {base:Nat} {sp:Nat→Bool} {b0:Nat} {r:Reach}:∀ {ts:List TypeId} {vs:List Value} {ds:List (DataW H)} {ps:List MemPlace},(∀ t∈ts,(shapeOf P 10 t).isSome=true) →
  (∀ (j:Nat) (t:TypeId) (v:Value),ts[j]?=some t→vs[j]?=some v→Value.okWide P w r b0 t v)→DataW.TrodAll enc P w base sp true ts vs ds ps→∃ avs,FitArgs P ts avs∧CRepL w (allG w) avs vs∧ds.length=ts.length
 | [],[],[],_,_,_,_=>⟨[],by simp [FitArgs],by simp [CRepL],rfl⟩
 | t::ts,v::vs,d::ds,ps,hs,ho,h=>by
  obtain ⟨p,q,h1,h2,_⟩:=h
  obtain ⟨avs,k1,k2,k3⟩:=args_open (fun t ht=>hs t (by simp [ht])) (fun j t v hj hv=>ho (j+1) t v (by simpa using hj) (by simpa using hv)) h2
  have hsh:=hs t (by simp)
  obtain ⟨sh,hsh⟩:=Option.isSome_iff_exists.1 hsh
  obtain ⟨fuel,hf⟩:=h1
  obtain ⟨as,q1,q2,q3⟩:=shape_open 10 t sh fuel _ _ hsh hf
  rcases okWide_agg (ho 0 t v rfl rfl) with ⟨cs,rfl,hu⟩|⟨hc,hu⟩
  ·simp only [Value.cells] at q2 q3
   refine ⟨.agg as::avs,?_,?_,by simp [k3]⟩
   ·simp only [FitArgs];exact ⟨⟨sh,hsh,.inl ⟨hu,as,rfl,q1⟩⟩,k1⟩
   ·simp only [CRepL,CRep];exact ⟨⟨cs.toList,by simp,q3,q2⟩,k2⟩
  ·rw [hc] at q2
   simp only [List.size_toArray,Array.toList] at q2
   match as,q1,q2 with
   | [a],q1,q2 =>
    simp only [CRepL] at q2
    refine ⟨a::avs,?_,?_,by simp [k3]⟩
    ·simp only [FitArgs];exact ⟨⟨sh,hsh,.inr ⟨hu,q1⟩⟩,k1⟩
    ·simp only [CRepL];exact ⟨q2.1,k2⟩
   | [],_,q2=>simp [CRepL] at q2
   | _::_::_,_,q2=>simp [CRepL] at q2
 | [],_::_,_,_,_,_,h=>by simp [DataW.TrodAll] at h
 | [],[],_::_,_,_,_,h=>by simp [DataW.TrodAll] at h
 | _::_,[],_,_,_,_,h=>by simp [DataW.TrodAll] at h
 | _::_,_::_,[],_,_,_,h=>by simp [DataW.TrodAll] at h
theorem args_stay (hl:laidOutB P=true) {W W':World} (hsize:∀ p:MemPlace,p.block<W.heap.size→W.sameAt W' p) {sp':Nat→Bool}:∀ {ts:List TypeId} {vs:List Value} {ds:List (DataW H)} {ps:List MemPlace},(∀ t∈ts,(P.readableRec t&&Nat.blt t P.types.size)=true) →
  DataW.TrodAll enc P W 0 (fun _=>true) true ts vs ds ps→(∀ p∈ps,p.block<W.heap.size)→(∀ p∈ps,sp' p.block=true)→DataW.TrodAll enc P W' 0 sp' true ts vs ds ps
 | [],[],[],_,_,h,_,_=>h
 | t::ts,v::vs,d::ds,ps,hs,h,hlt,hsp=>by
  obtain ⟨p,q,h1,h2,rfl⟩:=h
  have ht:=hs t (by simp)
  simp only [Bool.and_eq_true] at ht
  exact ⟨p,q,WideElems.Trod_stays hl ht.1 (by have:=ht.2;simp only [Nat.blt,Nat.ble_eq] at this;exact this) h1 (fun x hx=>hsize x (hlt x (by simp [hx]))) (fun x hx=>hsp x (by simp [hx])),
   args_stay hl hsize (fun t ht=>hs t (by simp [ht])) h2 (fun x hx=>hlt x (by simp [hx])) (fun x hx=>hsp x (by simp [hx])),rfl⟩
 | [],_::_,_,_,_,h,_,_=>by simp [DataW.TrodAll] at h
 | [],[],_::_,_,_,h,_,_=>by simp [DataW.TrodAll] at h
 | _::_,[],_,_,_,h,_,_=>by simp [DataW.TrodAll] at h
 | _::_,_::_,[],_,_,h,_,_=>by simp [DataW.TrodAll] at h
theorem post_stay {f:Func} {s:ChangeSpec} {apart fresh handsOn again:Bool} {W W':World} {args:Array Value} {v:Value} {ds gs:List (DataW H)} {before pa pv:List MemPlace}
  (hW:DataW.Whole enc P f.params.toList s.vars apart W args.toList ds gs before)
  (hres:∀ (b:Nat) (sp:Nat→Bool) (hd:Bool),DataW.TrodAll enc P W' b sp hd f.resultTypes.toList (v.resultList f.resultTypes.size) (s.fn H (ds++gs)).results [])
  (hargs:∀ sp:Nat→Bool,(∀ p∈before,sp p.block=true)→DataW.TrodAll enc P W' 0 sp true f.params.toList args.toList (s.fn H (ds++gs)).args pa)
  (hvars:∀ sp:Nat→Bool,(∀ p∈before,sp p.block=true)→DataW.TrodVars enc P W' sp s.vars (s.fn H (ds++gs)).vars pv)
  (hps:before=pa++pv) (hk:W.keptBut W' (·∈before)) (hfz:∀ a:Addr,a.block<W.heap.size→W'.frozen? a=W.frozen? a)
  (hok:∀ (j:Nat) (t:TypeId) (r:Value),f.resultTypes[j]?=some t→(v.resultList f.resultTypes.size)[j]?=some r→Value.okWide P W' .any 0 t r) :
  s.post enc P f apart fresh handsOn again W args v W':=by
 have hlt:=hW.lt
 have hthere:∀ p∈before,(fun b=>decide (b<W.heap.size)) p.block=true:=fun p hp=>by simpa using hlt p hp
 refine ⟨ds,gs,before,[],pa,pv,hW,hres _ _ _,hargs _ hthere,hvars _ hthere,World.keptBut_mono (fun p hp=>⟨hp,.inr (by rw [hps,List.mem_append] at hp;exact hp)⟩) hk,fun _=>?_⟩
 obtain ⟨_,_,_,_,_,hz,hn⟩:=hW
 have hmem:∀ p,p∈([]++pa)++pv→p∈before:=fun p hp=>by rw [hps];simpa using hp
 refine ⟨hok,_,_,([]++pa)++pv,⟨[]++pa,pv,trodAll_append (hargs _ (fun _ _=>rfl)) (hres _ _ _),hvars _ (fun _ _=>rfl),rfl,fun b off hp=>?_,fun ha=>?_⟩,fun p hp _=>?_⟩
 ·rw [hfz _ (hlt _ (hmem _ hp))]
  exact hz b off (hmem _ hp)
 ·have:=hn ha
  rw [hps] at this
  simpa using this
 ·rw [hps]
  simpa using hp
theorem law_contract {f:FuncId} {fn:Func} {s:ChangeSpec} {F:List AV→Option AV} {apart fresh handsOn again:Bool} {tb:TypeId} (hs:PSound P f F) (hl:laidOutB P=true)
  (hvars:s.vars=[]) (hspec:∀ (H:Type) (ds:List (DataW H)),ds.length=fn.params.size→(s.fn H ds).results=[.lit (.bool true)]∧(s.fn H ds).args=ds∧(s.fn H ds).vars=[])
  (hres:fn.resultTypes=#[tb]) (htb:P.underlying tb=some .bool) (hp:fn.params.toList.all (fun t=>(shapeOf P 10 t).isSome&&P.readableRec t&&Nat.blt t P.types.size)=true)
  (hF:∀ avs,FitArgs P fn.params.toList avs→F avs=some (B true))
  {W:World} {base:Nat} {args:Array Value} {ds gs:List (DataW H)} {before:List MemPlace}
  (hval:∀ (j:Nat) t v,fn.params[j]?=some t→args[j]?=some v→Value.okWide P W .any base t v)
  (hW:DataW.Whole enc P fn.params.toList s.vars apart W args.toList ds gs before) :
  Calls P f args W fun e W'=>∃ v,e=.returned v∧s.post enc P fn apart fresh handsOn again W args v W':=by
 have hW':=hW
 obtain ⟨p,q,hA,hV,rfl,hfz,hnd⟩:=hW
 rw [hvars] at hV
 obtain ⟨rfl,rfl⟩:=trodVars_none hV
 have hpp:∀ t∈fn.params.toList,(shapeOf P 10 t).isSome=true∧(P.readableRec t&&Nat.blt t P.types.size)=true:=fun t ht=>by
  have:=List.all_eq_true.1 hp t ht
  simp only [Bool.and_eq_true] at this ⊢
  exact ⟨this.1.1,this.1.2,this.2⟩
 obtain ⟨avs,h1,h2,h3⟩:=args_open (fun t ht=>(hpp t ht).1) (fun j t v hj hv=>hval j t v (by simpa using hj) (by simpa using hv)) hA
 refine (hs W (allG W) args avs (B true) (hF avs h1) (fun _ h=>h) h2).mono fun e W' ⟨x,G',bl,he,hf,_,_,ho,_,_⟩=>?_
 subst he
 have hx:x=.bool true:=by simp only [ORet,OVal,OLeaf,CRep] at ho;exact ho.2
 subst hx
 have hlt:∀ y∈p,y.block<W.heap.size:=fun y hy=>hW'.lt y (by simp [hy])
 have hold:∀ k,k<W.heap.size→W'.heap[k]?=W.heap[k]?:=fun k hk=>hf.old k hk (by simp)
 have hsame:∀ y:MemPlace,y.block<W.heap.size→W.sameAt W' y:=fun y hy=>by
  cases y with
  | cell b o=>exact World.cell?_of_block (w:=W) (hold b hy)
  | map b=>exact hold b hy
 have hfr:∀ a:Addr,a.block<W.heap.size→W'.frozen? a=W.frozen? a:=fun a ha=>World.frozen?_of_block (w:=W) (hold a.block ha)
 have hsp:=hspec H (ds++[]) (by rw [List.append_nil,h3];simp)
 simp only [List.append_nil] at hW' hsp
 refine ⟨_,rfl,post_stay (pa:=p) (pv:=[]) (by simpa using hW') (fun b sp hd=>?_) (fun sp hsp'=>?_) (fun sp hsp'=>?_) rfl ⟨hf.os,hf.out,fun i hi=>?_⟩ hfr (ok_one hres rfl (okWide_bool_mk htb _))⟩
 ·rw [List.append_nil,hsp.1,hres]
  exact trodAll_mk1 (shut_bool htb true)
 ·rw [List.append_nil,hsp.2.1]
  exact args_stay hl hsame (fun t ht=>(hpp t ht).2) hA hlt fun y hy=>hsp' y (by simp [hy])
 ·rw [List.append_nil,hsp.2.2,hvars]
  rfl
 ·rw [hold i hi]
  split<;>simp_all
end
end Go.AM
namespace Go.AM
open Go
def getL (ms:List AO) (b:Nat):AO:=(ms[b]?).getD .dead
def GSound (P:Program) (f:FuncId) (F:List AV→List AO→Option (AV×List AO)):Prop :=
 ∀ (w:World) (l:List Nat) (E:Env) (args:List Value) (avs:List AV) (ms:List AO) (r:AV) (ms':List AO),F avs ms=some (r,ms') →
  Inv w ⟨l,E,ms.length⟩ E w→(∀ b,b<ms.length→E.alive b)→MemOK E w (getL ms)→RepL E w avs args →
  Calls P f args.toArray w fun e w'=>∃ x E',e=.returned x∧Inv w ⟨l,E,ms.length⟩ E' w'∧(∀ b,E'.alive b→b<ms'.length)∧MemOK E' w' (getL ms')∧Rep E' w' r x
def idx:Nat→List AO→List (Nat×AO)
 | _,[]=>[]
 | k,o::r=>(k,o)::idx (k+1) r
theorem getM_idx:∀ {ms:List AO} {k b:Nat},getM (idx k ms) (k+b)=getL ms b
 | [],k,b=>by simp [idx,getM,getL]
 | o::r,k,0=>by simp [idx,getM,getL]
 | o::r,k,b+1=>by
  have ih:=getM_idx (ms:=r) (k:=k+1) (b:=b)
  simp only [idx,getM]
  rw [if_neg (by omega),show k+(b+1)=k+1+b by omega,ih]
  simp [getL]
theorem getM_idx0 {ms:List AO}:getM (idx 0 ms)=getL ms:=by
 funext b
 have:=getM_idx (ms:=ms) (k:=0) (b:=b)
 simpa using this
def LeavesG (T:TypeId→Option TD) (rv:List ResultVar) (n:Nat) (st:St) (r:AV) (ms':List AO):Prop :=
 ∃ as,aResults T st rv=some as∧Le n ⟨[(0,retOf as)],st.m,st.nx⟩ ⟨[(0,r)],idx 0 ms',ms'.length⟩
theorem gsound_of {P:Program} {f:FuncId} {fn:Func} {c:Code} {N:Nat} {F:List AV→List AO→Option (AV×List AO)} (hf:P.funcs[f]?=some fn) (hb:fn.body=some c) (hN:fn.ntmps=N)
  (h:∀ (w0:World) (l:List Nat) (E:Env) (avs:List AV) (ms:List AO) (r:AV) (ms':List AO),F avs ms=some (r,ms')→avs.length≤N∧∃ X,
   AW ⟨P,X,N,w0,⟨l,E,ms.length⟩⟩ c ⟨enterS avs,idx 0 ms,ms.length⟩ (fun e st=>(e=.normal∨e=.ret)∧LeavesG (Types P) fn.results.toList ms.length st r ms')) :
  GSound P f F:=by
 intro w l E args avs ms r ms' hF hI hal hM hr
 obtain ⟨hlen,X,haw⟩:=h w l E avs ms r ms' hF
 have hll:=hr.length
 have hsat:Sat N w ⟨l,E,ms.length⟩ { tmps:=args.toArray++Array.replicate (fn.ntmps - args.toArray.size) undef,defers:=[] } w ⟨enterS avs,idx 0 ms,ms.length⟩:=by
  refine ⟨E,⟨rfl,by simp [hN];omega,hI,by rw [getM_idx0];exact hM,fun t=>?_⟩,hI.low,fun k hk=>?_⟩
  ·rw [enterS,getS_enter]
   simp only [Nat.zero_le,if_true,Nat.sub_zero]
   cases ht:avs[t]? with
   | none=>simp [Rep,CRep]
   | some a =>
    obtain ⟨x,h1,h2⟩:=hr.get ht
    have hlt:=(List.getElem?_eq_some_iff.1 ht).1
    rw [Array.getD_eq_getD_getElem?,Array.getElem?_append_left (by simp;omega)]
    have:args.toArray[t]?=some x:=by simpa using h1
    rw [this]
    exact h2
  ·rw [getM_idx0] at hk
   unfold getL at hk
   by_cases e:k<ms.length
   ·exact e
   ·rw [List.getElem?_eq_none (by omega)] at hk
    exact absurd rfl hk
 refine calls_of_wp hf hb (wp_mono (haw _ _ hsat) fun e a w' ⟨st,⟨he,as,h1,h2⟩,E',hs,h3,h4⟩=>?_)
 obtain ⟨vs,k1,k2⟩:=aResults_ok hs h1
 have hrun:(results fn a.tmps).run P w'=.ok (if h:vs.toArray.size=1 then vs.toArray[0] else .tuple vs.toArray) w':=by
  unfold results
  rw [Sem.run_bind,← Array.toArray_toList (xs:=fn.results),List.mapM_toArray]
  simp only [Sem.run_map]
  have:(List.mapM (fun x=>match x with|.tmp t=>pure (a.tmps.getD t undef)|.cell b t=>do loadVar t (← asAddr (a.tmps.getD b undef))) fn.results.toList:Sem (List Value)).run P w'=.ok vs w':=k1
  erw [this]
  rfl
 have hrep:Rep E' w' (retOf as) (if h:vs.toArray.size=1 then vs.toArray[0] else .tuple vs.toArray):=by
  match as,vs,k2 with
  | [],[],_=>simp only [retOf,Rep];exact ⟨[],by simp,by simp [RepL]⟩
  | [a],[v],h =>
   simp only [RepL] at h
   simpa [retOf] using h.1
  | a::b::as,v::u::vs,h =>
   simp only [retOf,Rep]
   exact ⟨v::u::vs,by simp,h⟩
 have hs1:Sat 1 w ⟨l,E,ms.length⟩ { tmps:=#[if h:vs.toArray.size=1 then vs.toArray[0] else .tuple vs.toArray],defers:=[] } w' ⟨[(0,retOf as)],st.m,st.nx⟩:=by
  refine ⟨E',⟨rfl,rfl,hs.inv,hs.mem,fun t=>?_⟩,h3,h4⟩
  simp only [getS]
  split
  ·rename_i e;subst e;simpa using hrep
  ·simp [Rep,CRep]
 obtain ⟨E2,hs2,h5,_⟩:=h2 _ _ _ _ _ rfl hs1
 have hx:=hs2.slots 0
 simp only [getS,if_true] at hx
 have hfin:∃ x E',Ending.returned (if h:vs.toArray.size=1 then vs.toArray[0] else .tuple vs.toArray)=Ending.returned x∧Inv w ⟨l,E,ms.length⟩ E' w'∧(∀ b,E'.alive b→b<ms'.length)∧MemOK E' w' (getL ms')∧Rep E' w' r x :=
  ⟨_,E2,rfl,hs2.inv,h5,by have:=hs2.mem;rwa [getM_idx0] at this,by simpa using hx⟩
 rcases he with rfl|rfl
 ·exact ⟨hs.defers,_,hrun,hfin⟩
 ·exact ⟨hs.defers,_,hrun,hfin⟩
noncomputable def specG {ι:Type} (A:ι→List AV) (M:ι→List AO) (R:ι→AV) (O:ι→List AO) (avs:List AV) (ms:List AO):Option (AV×List AO) :=
 open Classical in if h:∃ i,A i=avs∧M i=ms then some (R h.choose,O h.choose) else none
theorem specG_eq {ι:Type} {A:ι→List AV} {M:ι→List AO} {R:ι→AV} {O:ι→List AO} (i:ι) (h:∀ j,A j=A i→M j=M i→R j=R i∧O j=O i):specG A M R O (A i) (M i)=some (R i,O i):=by
 unfold specG
 have hex:∃ j,A j=A i∧M j=M i:=⟨i,rfl,rfl⟩
 rw [dif_pos hex]
 obtain ⟨h1,h2⟩:=h _ hex.choose_spec.1 hex.choose_spec.2
 rw [h1,h2]
theorem specG_some {ι:Type} {A:ι→List AV} {M:ι→List AO} {R:ι→AV} {O:ι→List AO} {avs:List AV} {ms:List AO} {r:AV} {o:List AO} (h:specG A M R O avs ms=some (r,o)):∃ i,A i=avs∧M i=ms∧R i=r∧O i=o:=by
 unfold specG at h
 split at h
 ·rename_i hex
  simp only [Option.some.injEq,Prod.mk.injEq] at h
  exact ⟨_,hex.choose_spec.1,hex.choose_spec.2,h.1,h.2⟩
 ·simp at h
theorem gsound_spec {ι:Type} {A:ι→List AV} {M:ι→List AO} {R:ι→AV} {O:ι→List AO} {P:Program} {f:FuncId} {fn:Func} {c:Code} (hf:P.funcs[f]?=some fn) (hb:fn.body=some c) (X:AX)
  (h:∀ (i:ι) (w0:World) (l:List Nat) (E:Env),(A i).length≤fn.ntmps ∧
   AW ⟨P,X,fn.ntmps,w0,⟨l,E,(M i).length⟩⟩ c ⟨enterS (A i),idx 0 (M i),(M i).length⟩ (fun e st=>(e=.normal∨e=.ret)∧LeavesG (Types P) fn.results.toList (M i).length st (R i) (O i))) :
  GSound P f (specG A M R O) :=
 gsound_of hf hb rfl fun w0 l E avs ms r ms' hr=>by
  obtain ⟨i,rfl,rfl,rfl,rfl⟩:=specG_some hr
  exact ⟨(h i w0 l E).1,X,(h i w0 l E).2⟩
mutual
def AV.nms:AV→List Nat
 | .bp b _|.sl b _ _ _ _|.ep b _ _ _ _|.bs b _ _ _|.mp b _=>[b]
 | .agg cs|.tup cs|.fn _ cs|.ifc _ cs=>nmsL cs
 | _=>[]
def nmsL:List AV→List Nat
 | []=>[]
 | a::r=>a.nms++nmsL r
end
def AO.nms:AO→List Nat
 | .box cs=>nmsL cs
 | _=>[]
theorem mem_nmsL {b:Nat}:∀ {l:List AV},b∈nmsL l↔∃ a∈l,b∈a.nms
 | []=>by simp [nmsL]
 | a::r=>by simp [nmsL,mem_nmsL (l:=r)]
mutual
theorem Rep.nms_alive {E:Env} {w:World}:∀ {a:AV} {x:Value},Rep E w a x→∀ b∈a.nms,E.alive b
 | .bp b o,x,h,c,hc=>by simp only [Rep,AV.nms,List.mem_singleton] at h hc;subst hc;exact h.1
 | .sl b m s o n,x,h,c,hc=>by simp only [Rep,AV.nms,List.mem_singleton] at h hc;subst hc;exact h.1
 | .ep b m s i j,x,h,c,hc=>by simp only [Rep,AV.nms,List.mem_singleton] at h hc;subst hc;exact h.1
 | .bs b o s n,x,h,c,hc=>by simp only [Rep,AV.nms,List.mem_singleton] at h hc;subst hc;exact h.1
 | .mp b m,x,h,c,hc=>by simp only [Rep,AV.nms,List.mem_singleton] at h hc;subst hc;exact h.1
 | .agg cs,x,h,c,hc=>by
  simp only [Rep,AV.nms] at h hc
  obtain ⟨vs,_,_,h⟩:=h
  exact RepL.nms_alive h c hc
 | .tup cs,x,h,c,hc=>by
  simp only [Rep,AV.nms] at h hc
  obtain ⟨vs,_,h⟩:=h
  exact RepL.nms_alive h c hc
 | .fn _ cs,x,h,c,hc=>by
  simp only [Rep,AV.nms] at h hc
  obtain ⟨vs,_,h⟩:=h
  exact RepL.nms_alive h c hc
 | .ifc _ cs,x,h,c,hc=>by
  simp only [Rep,AV.nms] at h hc
  obtain ⟨vs,_,h⟩:=h
  exact RepL.nms_alive h c hc
 | .any,_,_,c,hc=>by simp [AV.nms] at hc
 | .v _,_,_,c,hc=>by simp [AV.nms] at hc
 | .rd ..,_,_,c,hc=>by simp [AV.nms] at hc
 | .ow ..,_,_,c,hc=>by simp [AV.nms] at hc
 | .rp ..,_,_,c,hc=>by simp [AV.nms] at hc
 | .rf ..,_,_,c,hc=>by simp [AV.nms] at hc
 | .rm ..,_,_,c,hc=>by simp [AV.nms] at hc
 | .om ..,_,_,c,hc=>by simp [AV.nms] at hc
theorem RepL.nms_alive {E:Env} {w:World}:∀ {as:List AV} {xs:List Value},RepL E w as xs→∀ b∈nmsL as,E.alive b
 | [],[],_,c,hc=>by simp [nmsL] at hc
 | a::as,x::xs,h,c,hc=>by
  simp only [RepL,nmsL,List.mem_append] at h hc
  rcases hc with hc|hc
  ·exact Rep.nms_alive h.1 c hc
  ·exact RepL.nms_alive h.2 c hc
 | [],_::_,h,_,_=>by simp [RepL] at h
 | _::_,[],h,_,_=>by simp [RepL] at h
end
theorem ObjRep.nms_alive {E:Env} {w:World} {b:Nat} {o:AO} (h:ObjRep E w b o):∀ c∈o.nms,E.alive c:=by
 intro c hc
 cases o with
 | box cs =>
  simp only [ObjRep,AO.nms] at h hc
  obtain ⟨_,_,_,_,_,_,_,h⟩:=h
  exact h.nms_alive c hc
 | _=>simp [AO.nms] at hc
def Led (M:Nat→AO):List Nat→List Nat→Prop
 | _,[]=>True
 | fr,b::r=>b∈fr∧Led M ((M b).nms++fr) r
theorem led_alive {E:Env} {w:World} {M:Nat→AO} (hM:MemOK E w M):∀ {σ fr:List Nat},(∀ b∈fr,E.alive b)→Led M fr σ→∀ b∈σ,E.alive b
 | [],_,_,_,b,hb=>by simp at hb
 | c::σ,fr,hfr,h,b,hb=>by
  simp only [Led] at h
  have hc:=hfr c h.1
  rcases List.mem_cons.1 hb with rfl|hb
  ·exact hc
  ·refine led_alive hM (fr:=(M c).nms++fr) (fun d hd=>?_) h.2 b hb
   rcases List.mem_append.1 hd with hd|hd
   ·exact (hM c hc).nms_alive d hd
   ·exact hfr d hd
mutual
def AV.ren (σ:Nat→Nat) (v:Nat→Nat→Nat):AV→AV
 | .bp b o=>.bp (σ b) o
 | .sl b m s o k=>.sl (σ b) (v b m) s o k
 | .ep b m s i j=>.ep (σ b) (v b m) s i j
 | .bs b o s k=>.bs (σ b) o s k
 | .agg cs=>.agg (renL σ v cs)
 | .tup cs=>.tup (renL σ v cs)
 | .fn f cs=>.fn f (renL σ v cs)
 | .ifc f cs=>.ifc f (renL σ v cs)
 | .any=>.any
 | .v x=>.v x
 | .rd s xs=>.rd s xs
 | .ow s xs=>.ow s xs
 | .rp cs=>.rp cs
 | .rf cs=>.rf cs
 | .mp b m=>.mp (σ b) (v b m)
 | .rm k es=>.rm k es
 | .om k es=>.om k es
def renL (σ:Nat→Nat) (v:Nat→Nat→Nat):List AV→List AV
 | []=>[]
 | a::r=>a.ren σ v::renL σ v r
end
def AO.ren (σ:Nat→Nat) (v:Nat→Nat→Nat) (b:Nat):AO→AO
 | .dead=>.dead
 | .box cs=>.box (renL σ v cs)
 | .vec m s f xs=>.vec (v b m) s f xs
 | .map m k es=>.map (v b m) k es
def verOf:AO→Nat
 | .vec m _ _ _|.map m _ _=>m
 | _=>0
mutual
def AV.curB (M:Nat→AO):AV→Bool
 | .sl b m _ _ _|.ep b m _ _ _|.mp b m=>Nat.beq m (verOf (M b))
 | .agg cs|.tup cs|.fn _ cs|.ifc _ cs=>curBL M cs
 | _=>true
def curBL (M:Nat→AO):List AV→Bool
 | []=>true
 | a::r=>a.curB M&&curBL M r
end
def AO.curB (M:Nat→AO):AO→Bool
 | .box cs=>curBL M cs
 | _=>true
theorem verOf_ver {E:Env} {w:World} {b m:Nat} {o:AO} (h:ObjRep E w b o) (h1:1≤m) (e:m=verOf o):E.ver b=m:=by
 cases o with
 | vec m' s f xs=>simp only [ObjRep,verOf] at h e;rw [h.1,e]
 | map m' n es=>simp only [ObjRep,verOf] at h e;rw [h.1,e]
 | _=>simp only [verOf] at e;omega
mutual
def AV.okR (D:Nat→Prop) (V:Nat→Nat→Prop):AV→Prop
 | .bp b _|.bs b _ _ _=>D b
 | .sl b m _ _ _|.ep b m _ _ _|.mp b m=>D b∧V b m
 | .agg cs|.tup cs|.fn _ cs|.ifc _ cs=>okRL D V cs
 | _=>True
def okRL (D:Nat→Prop) (V:Nat→Nat→Prop):List AV→Prop
 | []=>True
 | a::r=>a.okR D V∧okRL D V r
end
def AO.okR (D:Nat→Prop) (V:Nat→Nat→Prop):AO→Prop
 | .box cs=>okRL D V cs
 | _=>True
mutual
theorem okR_true:∀ {a:AV},a.okR (fun _=>True) (fun _ _=>True)
 | .bp ..|.bs ..|.sl ..|.ep ..|.mp ..=>by simp [AV.okR]
 | .agg cs|.tup cs|.fn _ cs|.ifc _ cs=>by simp only [AV.okR];exact okRL_true
 | .any|.v _|.rd ..|.ow ..|.rp ..|.rf ..|.rm ..|.om ..=>by simp [AV.okR]
theorem okRL_true:∀ {l:List AV},okRL (fun _=>True) (fun _ _=>True) l
 | []=>by simp [okRL]
 | a::r=>by simp only [okRL];exact ⟨okR_true,okRL_true⟩
end
theorem okRO_true {o:AO}:o.okR (fun _=>True) (fun _ _=>True):=by
 cases o<;>simp only [AO.okR]
 exact okRL_true
section
variable {D:Nat→Prop} {M:Nat→AO}
mutual
theorem okR_cur:∀ {a:AV},(∀ b∈a.nms,D b)→a.curB M=true→a.okR D (fun b m=>m=verOf (M b))
 | .bp ..,h,_|.bs ..,h,_=>by simpa [AV.okR,AV.nms] using h
 | .sl b m _ _ _,h,k|.ep b m _ _ _,h,k|.mp b m,h,k=>by
  simp only [AV.okR,AV.nms,List.mem_singleton,forall_eq,AV.curB] at h k ⊢
  exact ⟨h,Nat.eq_of_beq_eq_true k⟩
 | .agg cs,h,k|.tup cs,h,k|.fn _ cs,h,k|.ifc _ cs,h,k=>by simp only [AV.okR,AV.nms,AV.curB] at h k ⊢;exact okRL_cur h k
 | .any,_,_|.v _,_,_|.rd ..,_,_|.ow ..,_,_|.rp ..,_,_|.rf ..,_,_|.rm ..,_,_|.om ..,_,_=>by simp [AV.okR]
theorem okRL_cur:∀ {l:List AV},(∀ b∈nmsL l,D b)→curBL M l=true→okRL D (fun b m=>m=verOf (M b)) l
 | [],_,_=>by simp [okRL]
 | a::r,h,k=>by
  simp only [okRL,nmsL,List.mem_append,curBL,Bool.and_eq_true] at h k ⊢
  exact ⟨okR_cur (fun b hb=>h b (.inl hb)) k.1,okRL_cur (fun b hb=>h b (.inr hb)) k.2⟩
end
theorem okRO_cur {o:AO} (h:∀ b∈o.nms,D b) (k:o.curB M=true):o.okR D (fun b m=>m=verOf (M b)):=by
 cases o<;>simp only [AO.okR]
 exact okRL_cur h k
end
structure RenOK (E E':Env) (w w':World) (σ:Nat→Nat) (v:Nat→Nat→Nat) (D:Nat→Prop) (V:Nat→Nat→Prop):Prop where
 G:∀ k,E.G k→E'.G k
 alive:∀ b,E.alive b→D b→E'.alive (σ b)
 loc:∀ b,E.alive b→D b→E'.loc (σ b)=E.loc b
 box:∀ b,E.alive b→D b→E.ver b=0→E'.ver (σ b)=0
 ver:∀ b m,E.alive b→D b→V b m→1≤m→m≤E.ver b→1≤v b m∧v b m≤E'.ver (σ b)∧(v b m=E'.ver (σ b)→m=E.ver b)
 heap:∀ k,E.G k→w'.heap[k]?=w.heap[k]?
section
variable {E E':Env} {w w':World} {σ:Nat→Nat} {v:Nat→Nat→Nat} {D:Nat→Prop} {V:Nat→Nat→Prop}
mutual
theorem RenOK.rep (h:RenOK E E' w w' σ v D V):∀ {a:AV} {x:Value},a.okR D V→Rep E w a x→Rep E' w' (a.ren σ v) x
 | .bp b o,x,hd,hr=>by
  simp only [Rep,AV.ren,AV.okR] at hr hd ⊢
  obtain ⟨h1,h2,blk,sz,h3,h4⟩:=hr
  exact ⟨h.alive b h1 hd,h.box b h1 hd h2,blk,sz,by rw [h.loc b h1 hd];exact h3,h4⟩
 | .bs b o s n,x,hd,hr=>by
  simp only [Rep,AV.ren,AV.okR] at hr hd ⊢
  obtain ⟨h1,h2,blk,sz,p,c,h3,h4⟩:=hr
  exact ⟨h.alive b h1 hd,h.box b h1 hd h2,blk,sz,p,c,by rw [h.loc b h1 hd];exact h3,h4⟩
 | .sl b m s o n,x,hd,hr=>by
  simp only [Rep,AV.ren,AV.okR] at hr hd ⊢
  obtain ⟨hd,hv⟩:=hd
  obtain ⟨h1,h2,h3,p,c,h4,h5,h6,h7⟩:=hr
  obtain ⟨k1,k2,k3⟩:=h.ver b m h1 hd hv h2 h3
  exact ⟨h.alive b h1 hd,k1,k2,p,c,h4,h5,h6,fun e=>by rw [h.loc b h1 hd];exact h7 (k3 e)⟩
 | .ep b m s i j,x,hd,hr=>by
  simp only [Rep,AV.ren,AV.okR] at hr hd ⊢
  obtain ⟨hd,hv⟩:=hd
  obtain ⟨h1,h2,h3,a,h4,h5⟩:=hr
  obtain ⟨k1,k2,k3⟩:=h.ver b m h1 hd hv h2 h3
  exact ⟨h.alive b h1 hd,k1,k2,a,h4,fun e=>by rw [h.loc b h1 hd];exact h5 (k3 e)⟩
 | .mp b m,x,hd,hr=>by
  simp only [Rep,AV.ren,AV.okR] at hr hd ⊢
  obtain ⟨hd,hv⟩:=hd
  obtain ⟨h1,h2,h3,blk,h4,h5⟩:=hr
  obtain ⟨k1,k2,k3⟩:=h.ver b m h1 hd hv h2 h3
  exact ⟨h.alive b h1 hd,k1,k2,blk,h4,fun e=>by rw [h.loc b h1 hd];exact h5 (k3 e)⟩
 | .agg cs,_,hd,hr=>by
  simp only [Rep,AV.ren,AV.okR] at hr hd ⊢
  obtain ⟨vs,h1,h2,h3⟩:=hr
  exact ⟨vs,h1,h2,RenOK.repL h hd h3⟩
 | .tup cs,_,hd,hr=>by
  simp only [Rep,AV.ren,AV.okR] at hr hd ⊢
  obtain ⟨vs,h1,h3⟩:=hr
  exact ⟨vs,h1,RenOK.repL h hd h3⟩
 | .fn f cs,_,hd,hr=>by
  simp only [Rep,AV.ren,AV.okR] at hr hd ⊢
  obtain ⟨vs,h1,h3⟩:=hr
  exact ⟨vs,h1,RenOK.repL h hd h3⟩
 | .ifc f cs,_,hd,hr=>by
  simp only [Rep,AV.ren,AV.okR] at hr hd ⊢
  obtain ⟨vs,h1,h3⟩:=hr
  exact ⟨vs,h1,RenOK.repL h hd h3⟩
 | .any,_,_,hr=>by simp only [Rep,AV.ren] at hr ⊢;exact hr.mono h.G h.heap
 | .v _,_,_,hr=>by simp only [Rep,AV.ren] at hr ⊢;exact hr.mono h.G h.heap
 | .rd ..,_,_,hr=>by simp only [Rep,AV.ren] at hr ⊢;exact hr.mono h.G h.heap
 | .ow ..,_,_,hr=>by simp only [Rep,AV.ren] at hr ⊢;exact hr.mono h.G h.heap
 | .rp ..,_,_,hr=>by simp only [Rep,AV.ren] at hr ⊢;exact hr.mono h.G h.heap
 | .rf ..,_,_,hr=>by simp only [Rep,AV.ren] at hr ⊢;exact hr.mono h.G h.heap
 | .rm ..,_,_,hr=>by simp only [Rep,AV.ren] at hr ⊢;exact hr.mono h.G h.heap
 | .om ..,_,_,hr=>by simp only [Rep,AV.ren] at hr ⊢;exact hr.mono h.G h.heap
theorem RenOK.repL (h:RenOK E E' w w' σ v D V):∀ {as:List AV} {xs:List Value},okRL D V as→RepL E w as xs→RepL E' w' (renL σ v as) xs
 | [],[],_,_=>by simp [RepL,renL]
 | a::as,x::xs,hd,hr=>by
  simp only [RepL,renL,okRL] at hr hd ⊢
  exact ⟨RenOK.rep h hd.1 hr.1,RenOK.repL h hd.2 hr.2⟩
 | [],_::_,_,hr=>by simp [RepL] at hr
 | _::_,[],_,hr=>by simp [RepL] at hr
end
def AO.renV (σ:Nat→Nat) (v:Nat→Nat→Nat) (m':Nat):AO→AO
 | .dead=>.dead
 | .box cs=>.box (renL σ v cs)
 | .vec _ s f xs=>.vec m' s f xs
 | .map _ n es=>.map m' n es
theorem RenOK.obj (h:RenOK E E' w w' σ v D V) {b:Nat} {o:AO} {m':Nat} (hw:∀ blk base sz,E.loc b=some (blk,base,sz)→w'.heap[blk]?=w.heap[blk]?) (ha:E.alive b) (hb:D b) (hd:o.okR D V) (hm:1≤E.ver b→1≤m'∧E'.ver (σ b)=m') (ho:ObjRep E w b o) :
  ObjRep E' w' (σ b) (o.renV σ v m'):=by
 cases o with
 | dead=>trivial
 | box cs =>
  simp only [ObjRep,AO.okR,AO.renV] at ho hd ⊢
  obtain ⟨h1,blk,t,vs,h2,h3,h4,h5⟩:=ho
  exact ⟨h.box b ha hb h1,blk,t,vs,by rw [h.loc b ha hb];exact h2,by rw [hw blk _ _ h2];exact h3,h4,h.repL hd h5⟩
 | vec m s f xs =>
  simp only [ObjRep,AO.renV] at ho ⊢
  obtain ⟨h1,h2,h3⟩:=ho
  obtain ⟨k1,k2⟩:=hm (by omega)
  refine ⟨k2,k1,?_⟩
  rw [h.loc b ha hb]
  cases hl:E.loc b with
  | none=>simpa only [hl] using h3
  | some L =>
   obtain ⟨blk,base,sz⟩:=L
   simp only [hl] at h3 ⊢
   obtain ⟨c,t,q1,q2,q3,q4,q5,q6⟩:=h3
   have hh:=hw blk base sz hl
   exact ⟨c,t,by rw [hh];exact q1,q2,q3,q4,q5,q6.mono h.G h.heap (.inl hh)⟩
 | map m n es =>
  simp only [ObjRep,AO.renV] at ho ⊢
  obtain ⟨h1,h2,blk,ents,clk,h3,h4,h5⟩:=ho
  obtain ⟨k1,k2⟩:=hm (by omega)
  exact ⟨k2,k1,blk,ents,clk,by rw [h.loc b ha hb];exact h3,by rw [hw blk _ _ h3];exact h4,h5.mono h.G h.heap⟩
end
def posN:List Nat→Nat→Nat
 | [],_=>0
 | c::r,b=>if c=b then 0 else posN r b+1
def nmN (σ:List Nat) (nid i:Nat):Nat:=if h:i<σ.length then σ[i] else nid+(i - σ.length)
def shN (M:Nat→AO) (σ:List Nat) (i:Nat):Nat:=match σ[i]? with
 | some b=>verOf (M b) - 1
 | none=>0
def canO (σ:List Nat) (o:AO):AO:=match o with
 | .dead=>.dead
 | .box cs=>.box (renL (posN σ) (fun _ _=>1) cs)
 | .vec _ s _ xs=>.vec 1 s false xs
 | .map _ n es=>.map 1 n es
def notDead:AO→Bool
 | .dead=>false
 | _=>true
def updN (M:Nat→AO) (σ:List Nat) (nid:Nat):Nat→List AO→List (Nat×AO)
 | _,[]=>[]
 | i,o::r=>(nmN σ nid i,o.ren (nmN σ nid) (fun j m=>m+shN M σ j) i)::updN M σ nid (i+1) r
def rng:Nat→Nat→List Nat
 | _,0=>[]
 | i,n+1=>i::rng (i+1) n
def gat (M:Nat→AO):Nat→List Nat→List Nat→List Nat
 | 0,_,acc=>acc
 | _+1,[],acc=>acc
 | n+1,b::t,acc=>if b∈acc then gat M n t acc else gat M n ((M b).nms++t) (acc++[b])
def CallG (M:Nat→AO) (avs:List AV) (σ:List Nat):Prop :=
 σ.Nodup∧Led M (nmsL avs) σ∧(∀ b∈σ,notDead (M b)=true)∧(∀ b∈nmsL avs,b∈σ)∧(∀ b∈σ,∀ c∈(M b).nms,c∈σ)∧curBL M avs=true∧∀ b∈σ,(M b).curB M=true
def RetG (k:Nat) (r:AV) (ms':List AO):Prop :=
 (k≤ms'.length∧ms'.length≤k+16)∧Led (getL ms') (r.nms++(rng 0 k).flatMap fun i=>(getL ms' i).nms) (rng k (ms'.length - k))
open Classical in
noncomputable def callG (F:List AV→List AO→Option (AV×List AO)) (avs:List AV) (M:Nat→AO) (nid:Nat):Option (AV×List (Nat×AO)) :=
 let σ:=gat M 64 (nmsL avs) []
 if CallG M avs σ then
  match F (renL (posN σ) (fun _ _=>1) avs) (σ.map fun b=>canO σ (M b)) with
  | some (r,ms')=>if RetG σ.length r ms' then some (r.ren (nmN σ nid) (fun j m=>m+shN M σ j),updN M σ nid 0 ms') else none
  | none=>none
 else none
end Go.AM
namespace Go.AM
open Go
theorem posN_mem:∀ {σ:List Nat} {b:Nat},b∈σ→posN σ b<σ.length∧σ[posN σ b]?=some b
 | [],b,h=>by simp at h
 | c::r,b,h=>by
  simp only [posN]
  by_cases e:c=b
  ·rw [if_pos e];simp [e]
  ·rw [if_neg e]
   have:=posN_mem (σ:=r) ((List.mem_cons.1 h).resolve_left fun h=>e h.symm)
   simpa using this
theorem posN_at:∀ {σ:List Nat} {i b:Nat},σ.Nodup→σ[i]?=some b→posN σ b=i
 | [],i,b,_,h=>by simp at h
 | c::r,0,b,_,h=>by simp at h;simp [posN,h]
 | c::r,i+1,b,hn,h=>by
  obtain ⟨h1,h2⟩:=List.nodup_cons.1 hn
  simp only [List.getElem?_cons_succ] at h
  have hb:b∈r:=List.mem_of_getElem? h
  have hne:¬ c=b:=fun e=>h1 (e ▸ hb)
  simp only [posN,if_neg hne,posN_at h2 h]
def Env.sub (E:Env) (σ:List Nat):Env :=
 {G:=E.G,alive:=fun i=>i<σ.length,ver:=fun i=>match σ[i]? with|some b=>if E.ver b=0 then 0 else 1|none=>0,loc:=fun i=>(σ[i]?).bind E.loc }
def cn (σ:List Nat) (nid n:Nat) (b:Nat):Option Nat :=
 if b∈σ then some (posN σ b) else if nid≤b∧b<nid+(n - σ.length) then some (σ.length+(b - nid)) else none
def Env.back (E E':Env) (σ:List Nat) (nid n:Nat):Env :=
 {G:=E'.G,alive:=fun b=>E.alive b∨∃ i,cn σ nid n b=some i∧E'.alive i,
  ver:=fun b=>match cn σ nid n b with|some i=>E'.ver i+(if b∈σ then E.ver b - 1 else 0)|none=>E.ver b,
  loc:=fun b=>match cn σ nid n b with|some i=>E'.loc i|none=>E.loc b }
theorem mem_updN {M:Nat→AO} {σ:List Nat} {nid:Nat} {b:Nat} {o:AO}:∀ {ms:List AO} {i:Nat},(b,o)∈updN M σ nid i ms→∃ j p,ms[j]?=some p∧b=nmN σ nid (i+j)∧o=p.ren (nmN σ nid) (fun j m=>m+shN M σ j) (i+j)
 | [],i,h=>by simp [updN] at h
 | p::r,i,h=>by
  simp only [updN,List.mem_cons,Prod.mk.injEq] at h
  rcases h with ⟨rfl,rfl⟩|h
  ·exact ⟨0,p,by simp,rfl,rfl⟩
  ·obtain ⟨j,q,h1,h2,h3⟩:=mem_updN h
   exact ⟨j+1,q,by simpa using h1,by rw [h2];congr 1;omega,by rw [h3,show i+1+j=i+(j+1) by omega]⟩
theorem updN_keys {M:Nat→AO} {σ:List Nat} {nid:Nat} {j:Nat}:∀ {ms:List AO} {i:Nat},j<ms.length→nmN σ nid (i+j)∈(updN M σ nid i ms).map (·.1)
 | [],i,h=>by simp at h
 | p::r,i,h=>by
  simp only [updN,List.map_cons,List.mem_cons]
  cases j with
  | zero=>exact .inl rfl
  | succ j =>
   right
   have:=updN_keys (M:=M) (σ:=σ) (nid:=nid) (j:=j) (ms:=r) (i:=i+1) (by simpa using h)
   rwa [show i+1+j=i+(j+1) by omega] at this
theorem mem_rng {i n b:Nat}:b∈rng i n↔i≤b∧b<i+n:=by
 induction n generalizing i with
 | zero=>simp [rng]
 | succ n ih=>simp only [rng,List.mem_cons,ih];omega
theorem nmN_lt {σ:List Nat} {nid i:Nat} (h:i<σ.length):σ[i]?=some (nmN σ nid i):=by
 unfold nmN
 rw [dif_pos h,List.getElem?_eq_getElem h]
theorem nmN_ge {σ:List Nat} {nid i:Nat} (h:¬ i<σ.length):nmN σ nid i=nid+(i - σ.length):=by
 unfold nmN
 rw [dif_neg h]
theorem ren_obj {σ:Nat→Nat} {v:Nat→Nat→Nat} {b m':Nat} {o:AO} (h:∀ m,(∃ s f xs,o=.vec m s f xs)∨(∃ n es,o=.map m n es)→v b m=m') :
  o.renV σ v m'=o.ren σ v b:=by
 cases o with
 | dead=>rfl
 | box cs=>rfl
 | vec m s f xs=>simp only [AO.ren,AO.renV];rw [h m (.inl ⟨s,f,xs,rfl⟩)]
 | map m n es=>simp only [AO.ren,AO.renV];rw [h m (.inr ⟨n,es,rfl⟩)]
theorem GSound.callG {P:Program} {f:FuncId} {F:List AV→List AO→Option (AV×List AO)} (h:GSound P f F):CallOK P f (callG F):=by
 intro avs M nid av u hc w0 bl E w args hr hM hI hnid
 obtain ⟨args⟩:=args
 unfold AM.callG at hc
 simp only at hc
 obtain ⟨σ,hσ⟩:∃ σ,σ=gat M 64 (nmsL avs) []:=⟨_,rfl⟩
 rw [← hσ] at hc
 split at hc
 case isFalse=>simp at hc
 rename_i hC
 obtain ⟨hnd,hled,hdom,hargs,hobjs,hcurA,hcurO⟩:=hC
 split at hc
 case h_2=>simp at hc
 rename_i r ms' hF
 split at hc
 case isFalse=>simp at hc
 rename_i hR
 obtain ⟨⟨hk1,hk2⟩,hled2⟩:=hR
 simp only [Option.some.injEq,Prod.mk.injEq] at hc
 obtain ⟨rfl,rfl⟩:=hc
 obtain ⟨n,hn⟩:∃ n,n=ms'.length:=⟨_,rfl⟩
 obtain ⟨k,hk⟩:∃ k,k=σ.length:=⟨_,rfl⟩
 have hlen:(σ.map fun b=>canO σ (M b)).length=k:=by simp [hk]
 have hal:∀ b∈σ,E.alive b:=led_alive hM (fun b hb=>hr.nms_alive b hb) hled
 obtain ⟨l,hl⟩:∃ l:List Nat,l=σ.filterMap fun b=>(E.loc b).map (·.1):=⟨_,rfl⟩
 have hlm:∀ blk,blk∈l↔∃ b∈σ,∃ base sz,E.loc b=some (blk,base,sz):=fun blk=>by
  rw [hl,List.mem_filterMap]
  constructor
  ·rintro ⟨b,hb,e⟩
   cases hh:E.loc b with
   | none=>rw [hh] at e;simp at e
   | some L =>
    obtain ⟨x,y,z⟩:=L
    rw [hh] at e
    simp at e
    subst e
    exact ⟨b,hb,y,z,hh⟩
  ·rintro ⟨b,hb,base,sz,e⟩
   exact ⟨b,hb,by rw [e];rfl⟩
 have hlb:∀ blk∈l,blk<w.heap.size∧¬ E.G blk∧(w0.heap.size≤blk∨blk∈bl.l):=fun blk hb=>by
  obtain ⟨b,h1,base,sz,h2⟩:=(hlm blk).1 hb
  exact hI.locs b blk base sz (hal b h1) h2
 obtain ⟨Ec,hEc⟩:∃ Ec,Ec=E.sub σ:=⟨_,rfl⟩
 have ecG:Ec.G=E.G:=by rw [hEc];rfl
 have ecA:∀ i,Ec.alive i↔i<k:=fun i=>by rw [hEc,hk];rfl
 have ecV:∀ i b,σ[i]?=some b→Ec.ver i=if E.ver b=0 then 0 else 1:=fun i b e=>by rw [hEc];simp only [Env.sub,e]
 have ecL:∀ i b,σ[i]?=some b→Ec.loc i=E.loc b:=fun i b e=>by rw [hEc];simp only [Env.sub,e,Option.bind_some]
 have ecX:∀ i,i<k→∃ b,σ[i]?=some b∧b∈σ:=fun i hi=>⟨σ[i]'(by omega),List.getElem?_eq_getElem _,List.getElem_mem _⟩
 have hIc:Inv w ⟨l,Ec,k⟩ Ec w:=by
  refine ⟨⟨rfl,rfl,Nat.le_refl _,fun _ _ _=>rfl⟩,Env.Le.refl _,fun i hi=>(ecA i).1 hi,fun x hx=>.inl hx,fun x hx=>hI.good x (by rw [ecG] at hx;exact hx),fun i blk base sz hi hloc=>?_,fun i j blk base sz base' sz' hi hj hloc hloc'=>?_⟩
  ·obtain ⟨b,h1,h2⟩:=ecX i ((ecA i).1 hi)
   rw [ecL i b h1] at hloc
   have:=hI.locs b blk base sz (hal b h2) hloc
   exact ⟨this.1,by rw [ecG];exact this.2.1,.inr ((hlm blk).2 ⟨b,h2,base,sz,hloc⟩)⟩
  ·obtain ⟨b,h1,h2⟩:=ecX i ((ecA i).1 hi)
   obtain ⟨c,h3,h4⟩:=ecX j ((ecA j).1 hj)
   rw [ecL i b h1] at hloc
   rw [ecL j c h3] at hloc'
   have:=hI.apart b c blk base sz base' sz' (hal b h2) (hal c h4) hloc hloc'
   subst this
   rw [← posN_at hnd h1,← posN_at hnd h3]
 have hren:RenOK E Ec w w (posN σ) (fun _ _=>1) (·∈σ) (fun b m=>m=verOf (M b)):=by
  refine ⟨fun x hx=>by rw [ecG];exact hx,fun b _ hb=>(ecA _).2 (by rw [hk];exact (posN_mem hb).1),fun b _ hb=>ecL _ _ (posN_mem hb).2,fun b _ hb h0=>by rw [ecV _ _ (posN_mem hb).2,if_pos h0],fun b m hb1 hb hv hm hm2=>?_,fun _ _=>rfl⟩
  rw [ecV _ _ (posN_mem hb).2,if_neg (by omega)]
  refine ⟨Nat.le_refl _,Nat.le_refl _,fun _=>?_⟩
  exact (verOf_ver (hM b hb1) hm hv).symm
 have hMc:MemOK Ec w (getL (σ.map fun b=>canO σ (M b))):=fun i hi=>by
  obtain ⟨b,h1,h2⟩:=ecX i ((ecA i).1 hi)
  have e:getL (σ.map fun b=>canO σ (M b)) i=canO σ (M b):=by
   unfold getL
   rw [List.getElem?_map,h1];rfl
  rw [e]
  have hp:=posN_at hnd h1
  have ho:=hM b (hal b h2)
  have:=hren.obj (b:=b) (o:=M b) (m':=1) (fun _ _ _ _=>rfl) (hal b h2) h2 (okRO_cur (hobjs b h2) (hcurO b h2)) (fun hv=>⟨Nat.le_refl _,by rw [hp,ecV i b h1,if_neg (by omega)]⟩) ho
  rw [hp] at this
  unfold canO
  cases hMb:M b with
  | dead=>trivial
  | box cs=>rw [hMb] at this;exact this
  | vec m s f xs =>
   rw [hMb] at this
   simp only [ObjRep] at this ⊢
   obtain ⟨q1,q2,q3⟩:=this
   refine ⟨q1,q2,?_⟩
   cases hlc:Ec.loc i with
   | none=>simpa only [hlc] using q3
   | some L =>
    obtain ⟨blk,base,sz⟩:=L
    simp only [hlc] at q3 ⊢
    obtain ⟨c,t,p1,p2,p3,p4,p5,p6⟩:=q3
    exact ⟨c,t,p1,p2,p3,p4,fun e=>by simp at e,p6⟩
  | map m n es=>rw [hMb] at this;exact this
 have hrc:RepL Ec w (renL (posN σ) (fun _ _=>1) avs) args:=hren.repL (okRL_cur hargs hcurA) hr
 refine (h w l Ec args _ _ r ms' hF (by rw [hlen];exact hIc) (fun b hb=>(ecA b).2 (by rw [hlen] at hb;exact hb)) hMc hrc).mono fun e w' ⟨x,E',he,hI',hal',hM',hx⟩=>?_
 rw [hlen] at hI'
 have hcnσ:∀ b,b∈σ→cn σ nid n b=some (posN σ b):=fun b hb=>by unfold cn;rw [if_pos hb]
 have hσn:∀ b∈σ,¬ (nid≤b∧b<nid+16):=fun b hb hh=>hnid b hh.1 hh.2 (hal b hb)
 have hcnE:∀ b,E.alive b→b ∉ σ→cn σ nid n b=none:=fun b hb hn'=>by
  unfold cn
  rw [if_neg hn',if_neg]
  rintro ⟨h1,h2⟩
  exact hnid b h1 (by omega) hb
 have hcnN:∀ i,i<n→cn σ nid n (nmN σ nid i)=some i:=fun i hi=>by
  by_cases h1:i<σ.length
  ·have h2:=nmN_lt (nid:=nid) h1
   have hm:nmN σ nid i∈σ:=List.mem_of_getElem? h2
   rw [hcnσ _ hm,posN_at hnd h2]
  ·rw [nmN_ge h1]
   have hm:nid+(i - σ.length) ∉ σ:=fun hm=>hσn _ hm ⟨by omega,by omega⟩
   unfold cn
   rw [if_neg hm,if_pos ⟨by omega,by omega⟩]
   congr 1
   omega
 have hcnB:∀ b i,cn σ nid n b=some i→i<n∧nmN σ nid i=b:=fun b i e=>by
  unfold cn at e
  split at e
  ·rename_i hb
   simp only [Option.some.injEq] at e
   subst e
   obtain ⟨h1,h2⟩:=posN_mem hb
   have h3:=nmN_lt (nid:=nid) h1
   rw [h2] at h3
   exact ⟨by omega,by simpa using h3.symm⟩
  ·split at e
   ·rename_i hb hh
    simp only [Option.some.injEq] at e
    subst e
    exact ⟨by omega,by rw [nmN_ge (by omega)];omega⟩
   ·simp at e
 obtain ⟨E2,hE2⟩:∃ E2,E2=E.back E' σ nid n:=⟨_,rfl⟩
 have e2G:E2.G=E'.G:=by rw [hE2];rfl
 have e2A:∀ b,E2.alive b↔(E.alive b∨∃ i,cn σ nid n b=some i∧E'.alive i):=fun b=>by rw [hE2];rfl
 have e2L:∀ b i,cn σ nid n b=some i→E2.loc b=E'.loc i:=fun b i e=>by rw [hE2];simp only [Env.back,e]
 have e2V:∀ b i,cn σ nid n b=some i→E2.ver b=E'.ver i+(if b∈σ then E.ver b - 1 else 0):=fun b i e=>by rw [hE2];simp only [Env.back,e]
 have e2L0:∀ b,cn σ nid n b=none→E2.loc b=E.loc b:=fun b e=>by rw [hE2];simp only [Env.back,e]
 have e2V0:∀ b,cn σ nid n b=none→E2.ver b=E.ver b:=fun b e=>by rw [hE2];simp only [Env.back,e]
 have hE'k:∀ i,i<k→E'.alive i:=fun i hi=>hI'.gin.alive i ((ecA i).2 hi)
 have e2Ai:∀ b i,E2.alive b→cn σ nid n b=some i→E'.alive i:=fun b i hb e=>by
  rcases (e2A b).1 hb with h1|⟨j,h1,h2⟩
  ·by_cases hbσ:b∈σ
   ·rw [hcnσ b hbσ,Option.some.injEq] at e
    rw [← e]
    exact hE'k _ (by rw [hk];exact (posN_mem hbσ).1)
   ·rw [hcnE b h1 hbσ] at e;simp at e
  ·rw [h1,Option.some.injEq] at e
   rw [← e];exact h2
 have e2A0:∀ b,E2.alive b→cn σ nid n b=none→E.alive b∧b ∉ σ:=fun b hb e=>by
  rcases (e2A b).1 hb with h1|⟨j,h1,_⟩
  ·exact ⟨h1,fun hbσ=>by rw [hcnσ b hbσ] at e;simp at e⟩
  ·rw [h1] at e;simp at e
 have e2An:∀ i,E'.alive i→E2.alive (nmN σ nid i):=fun i hi=>(e2A _).2 (.inr ⟨i,hcnN i (by have:=hal' i hi;omega),hi⟩)
 have hlE:E.Le E2:=by
  refine ⟨fun x hx=>by rw [e2G];exact hI'.gin.G x (by show Ec.G x;rw [ecG];exact hx),fun b hb=>(e2A b).2 (.inl hb),fun b hb=>?_⟩
  by_cases hbσ:b∈σ
  ·have hcb:=hcnσ b hbσ
   obtain ⟨hp1,hp2⟩:=posN_mem hbσ
   rw [e2V b _ hcb,e2L b _ hcb,if_pos hbσ]
   have hs:=hI'.gin.same (posN σ b) ((ecA _).2 (by omega))
   have hv:=ecV _ b hp2
   have hloc:=ecL _ b hp2
   rcases hs with ⟨h1,h2⟩|⟨h1,h2⟩
   ·have h1':E'.ver (posN σ b)=Ec.ver (posN σ b):=h1
    have h2':E'.loc (posN σ b)=Ec.loc (posN σ b):=h2
    left
    rw [h1',h2',hv,hloc]
    split
    ·exact ⟨by omega,rfl⟩
    ·exact ⟨by omega,rfl⟩
   ·have h1':1≤Ec.ver (posN σ b):=h1
    have h2':Ec.ver (posN σ b)<E'.ver (posN σ b):=h2
    rw [hv] at h1' h2'
    right
    split at h1'
    ·omega
    ·rename_i hne
     rw [if_neg hne] at h2'
     exact ⟨by omega,by omega⟩
  ·have:=hcnE b hb hbσ
   exact .inl ⟨e2V0 b this,e2L0 b this⟩
 have hsz:w.heap.size≤w'.heap.size:=hI'.frame.size
 have hInv:Inv w0 bl E2 w':=by
  refine ⟨⟨hI'.frame.os.trans hI.frame.os,hI'.frame.out.trans hI.frame.out,Nat.le_trans hI.frame.size hsz,fun x hx hxb=>?_⟩,hI.gin.trans hlE,hI.low,fun x hx=>?_,fun x hx=>hI'.good x (by rw [e2G] at hx;exact hx),fun b blk base sz hb hloc=>?_,fun b b' blk base sz base' sz' hb hb' hloc hloc'=>?_⟩
  ·have hxl:x ∉ l:=fun hxl=>by
    rcases (hlb x hxl).2.2 with h1|h1
    ·omega
    ·exact hxb h1
   rw [hI'.frame.old x (by have:=hI.frame.size;omega) hxl]
   exact hI.frame.old x hx hxb
  ·rw [e2G] at hx
   rcases hI'.gout x hx with h1|h1|h1
   ·exact hI.gout x (by have h1':Ec.G x:=h1;rw [ecG] at h1';exact h1')
   ·exact .inr (.inl (by have:=hI.frame.size;omega))
   ·exact .inr (hlb x h1).2.2
  ·cases hcb:cn σ nid n b with
   | some i =>
    rw [e2L b i hcb] at hloc
    have:=hI'.locs i blk base sz (e2Ai b i hb hcb) hloc
    refine ⟨this.1,by rw [e2G];exact this.2.1,?_⟩
    rcases this.2.2 with h1|h1
    ·exact .inl (by have:=hI.frame.size;omega)
    ·exact (hlb blk h1).2.2
   | none =>
    rw [e2L0 b hcb] at hloc
    obtain ⟨hb1,hb2⟩:=e2A0 b hb hcb
    have h1:=hI.locs b blk base sz hb1 hloc
    refine ⟨by omega,fun hg=>?_,h1.2.2⟩
    rw [e2G] at hg
    rcases hI'.gout blk hg with h2|h2|h2
    ·have h2':Ec.G blk:=h2
     rw [ecG] at h2'
     exact h1.2.1 h2'
    ·omega
    ·obtain ⟨c,h3,base',sz',h4⟩:=(hlm blk).1 h2
     have:=hI.apart b c blk base sz base' sz' hb1 (hal c h3) hloc h4
     exact hb2 (this ▸ h3)
  ·have key:∀ b c i base sz base' sz',E2.alive b→cn σ nid n b=some i→E'.loc i=some (blk,base,sz)→E2.alive c→cn σ nid n c=none→E.loc c=some (blk,base',sz')→False:=fun b c i base sz base' sz' hb hcb hlb' hc hcc hlc=>by
    obtain ⟨hc1,hc2⟩:=e2A0 c hc hcc
    have h1:=hI.locs c blk base' sz' hc1 hlc
    rcases (hI'.locs i blk base sz (e2Ai b i hb hcb) hlb').2.2 with h2|h2
    ·omega
    ·obtain ⟨d,h3,base2,sz2,h4⟩:=(hlm blk).1 h2
     have:=hI.apart c d blk base' sz' base2 sz2 hc1 (hal d h3) hlc h4
     exact hc2 (this ▸ h3)
   cases hcb:cn σ nid n b with
   | some i =>
    rw [e2L b i hcb] at hloc
    cases hcb':cn σ nid n b' with
    | some j =>
     rw [e2L b' j hcb'] at hloc'
     have:=hI'.apart i j blk base sz base' sz' (e2Ai b i hb hcb) (e2Ai b' j hb' hcb') hloc hloc'
     rw [← (hcnB b i hcb).2,← (hcnB b' j hcb').2,this]
    | none =>
     rw [e2L0 b' hcb'] at hloc'
     exact (key b b' i base sz base' sz' hb hcb hloc hb' hcb' hloc').elim
   | none =>
    rw [e2L0 b hcb] at hloc
    cases hcb':cn σ nid n b' with
    | some j =>
     rw [e2L b' j hcb'] at hloc'
     exact (key b' b j base' sz' base sz hb' hcb' hloc' hb hcb hloc).elim
    | none =>
     rw [e2L0 b' hcb'] at hloc'
     exact hI.apart b b' blk base sz base' sz' (e2A0 b hb hcb).1 (e2A0 b' hb' hcb').1 hloc hloc'
 have hsh:∀ i b,σ[i]?=some b→1≤E.ver b→shN M σ i=E.ver b - 1:=fun i b e hv=>by
  unfold shN
  rw [e]
  simp only
  have hbσ:b∈σ:=List.mem_of_getElem? e
  have ho:=hM b (hal b hbσ)
  have hd:=hdom b hbσ
  cases hMb:M b with
  | dead=>rw [hMb] at hd;simp [notDead] at hd
  | box cs=>rw [hMb] at ho;simp only [ObjRep] at ho;omega
  | vec m s f xs=>rw [hMb] at ho;simp only [ObjRep] at ho;simp only [verOf];omega
  | map m n es=>rw [hMb] at ho;simp only [ObjRep] at ho;simp only [verOf];omega
 have hver:∀ i,E'.alive i→(E'.ver i=0→E2.ver (nmN σ nid i)=0)∧(1≤E'.ver i→E2.ver (nmN σ nid i)=E'.ver i+shN M σ i):=fun i hi=>by
  have hin:=hal' i hi
  rw [e2V _ i (hcnN i (by omega))]
  by_cases h1:i<σ.length
  ·have h2:=nmN_lt (nid:=nid) h1
   have hm:nmN σ nid i∈σ:=List.mem_of_getElem? h2
   rw [if_pos hm]
   have hs:=hI'.gin.same i ((ecA _).2 (by omega))
   have hv:=ecV i _ h2
   refine ⟨fun h0=>?_,fun h0=>?_⟩
   ·rcases hs with ⟨h3,_⟩|⟨h3,h4⟩
    ·have h3':E'.ver i=Ec.ver i:=h3
     rw [h0,hv] at h3'
     split at h3'<;>omega
    ·have h4':Ec.ver i<E'.ver i:=h4
     omega
   ·have hpos:1≤E.ver (nmN σ nid i):=by
     rcases hs with ⟨h3,_⟩|⟨h3,h4⟩
     ·have h3':E'.ver i=Ec.ver i:=h3
      rw [hv] at h3'
      split at h3'<;>omega
     ·have h3':1≤Ec.ver i:=h3
      rw [hv] at h3'
      split at h3'<;>omega
    rw [hsh i _ h2 hpos]
  ·have hm:nmN σ nid i ∉ σ:=fun hm=>by
    rw [nmN_ge h1] at hm
    exact hσn _ hm ⟨by omega,by omega⟩
   rw [if_neg hm]
   have:shN M σ i=0:=by
    unfold shN
    rw [List.getElem?_eq_none (by omega)]
   rw [this]
   exact ⟨fun h=>by omega,fun _=>rfl⟩
 have hren2:RenOK E' E2 w' w' (nmN σ nid) (fun j m=>m+shN M σ j) (fun _=>True) (fun _ _=>True):=by
  refine ⟨fun x hx=>by rw [e2G];exact hx,fun b hb _=>e2An b hb,fun b hb _=>e2L _ _ (hcnN b (by have:=hal' b hb;omega)),fun b hb _ h0=>(hver b hb).1 h0,fun b m hb _ _ hm hm2=>?_,fun _ _=>rfl⟩
  have:=(hver b hb).2 (by omega)
  rw [this]
  exact ⟨by omega,by omega,fun e=>by omega⟩
 have hrx:Rep E2 w' (r.ren (nmN σ nid) fun j m=>m+shN M σ j) x:=hren2.rep okR_true hx
 have hnew:∀ i,i<n→E'.alive i:=fun i hi=>by
  by_cases h1:i<k
  ·exact hE'k i h1
  ·refine led_alive hM' (fun b hb=>?_) hled2 i (mem_rng.2 ⟨by omega,by omega⟩)
   rcases List.mem_append.1 hb with hb|hb
   ·exact hx.nms_alive b hb
   ·obtain ⟨j,hj,hb⟩:=List.mem_flatMap.1 hb
    have:=mem_rng.1 hj
    exact (hM' j (hE'k j (by omega))).nms_alive b hb
 refine ⟨x,E2,he,⟨hlE,hInv,hsz,fun x hx hn'=>?_,fun b hb=>?_,fun b hb hn'=>?_,fun b o hbo=>?_⟩,hrx⟩
 ·refine hI'.frame.old x hx fun hxl=>?_
  obtain ⟨b,h1,base,sz,h2⟩:=(hlm x).1 hxl
  obtain ⟨hp1,hp2⟩:=posN_mem h1
  refine hn' b base sz (hal b h1) ?_ h2
  have:=updN_keys (M:=M) (σ:=σ) (nid:=nid) (j:=posN σ b) (ms:=ms') (i:=0) (by omega)
  rw [Nat.zero_add] at this
  have h3:=nmN_lt (nid:=nid) hp1
  rw [hp2,Option.some.injEq] at h3
  rwa [← h3] at this
 ·rcases (e2A b).1 hb with h1|⟨i,h1,h2⟩
  ·exact .inl h1
  ·right
   obtain ⟨h3,h4⟩:=hcnB b i h1
   have:=updN_keys (M:=M) (σ:=σ) (nid:=nid) (j:=i) (ms:=ms') (i:=0) (by omega)
   rwa [Nat.zero_add,h4] at this
 ·have hbσ:b ∉ σ:=fun hbσ=>by
   obtain ⟨hp1,hp2⟩:=posN_mem hbσ
   have:=updN_keys (M:=M) (σ:=σ) (nid:=nid) (j:=posN σ b) (ms:=ms') (i:=0) (by omega)
   rw [Nat.zero_add] at this
   have h3:=nmN_lt (nid:=nid) hp1
   rw [hp2,Option.some.injEq] at h3
   rw [← h3] at this
   exact hn' this
  have:=hcnE b hb hbσ
  exact ⟨e2V0 b this,e2L0 b this⟩
 ·obtain ⟨j,p,h1,h2,h3⟩:=mem_updN hbo
  rw [Nat.zero_add] at h2 h3
  have hj:j<n:=by rw [hn];exact (List.getElem?_eq_some_iff.1 h1).1
  have haj:=hnew j hj
  subst h2 h3
  refine ⟨e2An j haj,?_⟩
  have ho:=hM' j haj
  have hg:getL ms' j=p:=by unfold getL;rw [h1];rfl
  rw [hg] at ho
  have hob:=hren2.obj (b:=j) (o:=p) (m':=E'.ver j+shN M σ j) (fun _ _ _ _=>rfl) haj trivial okRO_true (fun hv=>⟨by omega,(hver j haj).2 hv⟩) ho
  rwa [ren_obj (b:=j) (fun m hm=>?_)] at hob
  rcases hm with ⟨s,f,xs,rfl⟩|⟨q,es,rfl⟩
  ·simp only [ObjRep] at ho
   rw [ho.1]
  ·simp only [ObjRep] at ho
   rw [ho.1]
theorem callG_keys {F:List AV→List AO→Option (AV×List AO)} {avs:List AV} {M:Nat→AO} {nid:Nat} {r:AV×List (Nat×AO)} (h:callG F avs M nid=some r):∀ b∈r.2.map (·.1),(nid≤b∧b<nid+16)∨M b≠.dead:=by
 unfold AM.callG at h
 simp only at h
 split at h
 case isFalse=>simp at h
 rename_i hC
 split at h
 case h_2=>simp at h
 split at h
 case isFalse=>simp at h
 rename_i hR
 simp only [Option.some.injEq] at h
 subst h
 intro b hb
 obtain ⟨⟨b',o⟩,hp,rfl⟩:=List.mem_map.1 hb
 obtain ⟨j,p,h1,h2,_⟩:=mem_updN hp
 rw [Nat.zero_add] at h2
 simp only
 subst h2
 have hj:=(List.getElem?_eq_some_iff.1 h1).1
 by_cases h3:j<(gat M 64 (nmsL avs) []).length
 ·right
  have h4:=nmN_lt (nid:=nid) h3
  have h5:=hC.2.2.1 _ (List.mem_of_getElem? h4)
  intro e
  rw [e] at h5
  simp [notDead] at h5
 ·left
  rw [nmN_ge h3]
  have:=hR.1
  omega
end Go.AM
namespace Go.AM
attribute [simp] CallG RetG gat AV.nms nmsL AO.nms Led notDead AV.curB curBL AO.curB verOf renL AV.ren posN canO shN updN AO.ren rng getL idx
end Go.AM
