/- A part of the proof: what functions of the program compute, by abstract execution of their code. Its theorems hold without further condition. -/
import Derived.Test.YtcfhmdljeeppfaaGreatSAmO
import Derived.Laws.BitsLemmas
set_option linter.all false
namespace Go.AM
open Go
def RunQ (T:TypeId→Option TD) (X:AX) (ops:Array Oper) (N base:Nat) (l:List Oper) (i:Nat) (s:List (Nat×AV)) (m:List (Nat×AO)) (Q:List (Nat×AV)→List (Nat×AO)→Prop):Prop :=
 ∃ s' m',arun T X ops N base l i s m=some (s',m')∧Q s' m'
def StepQ (T:TypeId→Option TD) (X:AX) (ops:Array Oper) (N base:Nat) (r:List Oper) (i:Nat) (s:List (Nat×AV)) (m:List (Nat×AO)) (dst:Option Nat) (Q:List (Nat×AV)→List (Nat×AO)→Prop) (a:Option (AV×List (Nat×AO))):Prop :=
 ∃ av u,a=some (av,u)∧RunQ T X ops N base r (i+1) (putS s dst av) (updL m u) Q
def GuardQ (T:TypeId→Option TD) (X:AX) (ops:Array Oper) (N base:Nat) (r:List Oper) (i:Nat) (s:List (Nat×AV)) (m:List (Nat×AO)) (dst:Option Nat) (op:Op) (d:Option Nat) (want:Bool) (Q:List (Nat×AV)→List (Nat×AO)→Prop) (g:AV):Prop :=
 ∃ k b,d=some k∧yV g=some b ∧
  (b=some want→StepQ T X ops N base r i ((k,.v (.bool want))::s) m dst Q (astep T X op (aEv ((k,.v (.bool want))::s)) (getM m) (base+16*i))) ∧
  (b=some (!want)→RunQ T X ops N base r (i+1) (putS ((k,.v (.bool (!want)))::s) dst .u) m Q) ∧
  (b=none→RunQ T X ops N base r (i+1) (putS s dst .u) m Q)
section
variable {T:TypeId→Option TD} {X:AX} {ops:Array Oper} {N base:Nat} {l r:List Oper} {i:Nat} {s:List (Nat×AV)} {m:List (Nat×AO)} {Q:List (Nat×AV)→List (Nat×AO)→Prop} {dst:Option Nat} {op:Op} {ty:TypeId} {pos:String} {aft:Array Edge}
@[simp] theorem runQ_nil:RunQ T X ops N base [] i s m Q↔Q s m:=by
 simp only [RunQ,arun,Option.some.injEq,Prod.mk.injEq]
 constructor
 ·rintro ⟨_,_,⟨rfl,rfl⟩,h⟩;exact h
 ·exact fun h=>⟨_,_,⟨rfl,rfl⟩,h⟩
@[simp] theorem stepQ_some {av:AV} {u:List (Nat×AO)}:StepQ T X ops N base r i s m dst Q (some (av,u))↔RunQ T X ops N base r (i+1) (putS s dst av) (updL m u) Q:=by
 constructor
 ·rintro ⟨_,_,h,k⟩
  simp only [Option.some.injEq,Prod.mk.injEq] at h
  obtain ⟨rfl,rfl⟩:=h
  exact k
 ·exact fun k=>⟨_,_,rfl,k⟩
theorem stepQ_eq {a:Option (AV×List (Nat×AO))}:StepQ T X ops N base r i s m dst Q a↔∃ s' m',(match (generalizing:=false) a with|some (av,u)=>arun T X ops N base r (i+1) (putS s dst av) (updL m u)|none=>none)=some (s',m')∧Q s' m':=by
 cases a with
 | none=>simp [StepQ]
 | some p=>obtain ⟨av,u⟩:=p;exact stepQ_some
theorem runQ_plain' (hd:dstOK N ⟨dst,op,ty,pos,aft,.none⟩=true):RunQ T X ops N base (⟨dst,op,ty,pos,aft,.none⟩::r) i s m Q↔StepQ T X ops N base r i s m dst Q (astep T X op (aEv s) (getM m) (base+16*i)):=by
 rw [stepQ_eq]
 simp only [RunQ,arun,hd,if_true]
 cases astep T X op (aEv s) (getM m) (base+16*i)<;>exact Iff.rfl
def dstAt (ops:Array Oper) (j:Nat):Option Nat:=(ops[j]?).bind (·.dst)
def slotAt (s:List (Nat×AV)):Option Nat→AV
 | some k=>getS s k
 | none=>.any
theorem runQ_guard' {j:Nat} {want:Bool} (hd:dstOK N ⟨dst,op,ty,pos,aft,.some (j,want)⟩=true):RunQ T X ops N base (⟨dst,op,ty,pos,aft,.some (j,want)⟩::r) i s m Q↔GuardQ T X ops N base r i s m dst op (dstAt ops j) want Q (slotAt s (dstAt ops j)):=by
 simp only [RunQ,arun,hd,if_true,GuardQ,dstAt]
 cases h1:(ops[j]?).bind (·.dst) with
 | none=>simp
 | some k =>
  simp only [slotAt]
  cases hy:yV (getS s k) with
  | none=>simp [hy]
  | some y =>
   skip
   cases y with
   | none =>
    constructor
    ·rintro ⟨s',m',h,q⟩
     exact ⟨k,none,rfl,rfl,by simp,by simp,fun _=>⟨s',m',h,q⟩⟩
    ·rintro ⟨k',b,hk,hb,_,_,h3⟩
     simp only [Option.some.injEq] at hk hb
     subst hk hb
     exact h3 rfl
   | some b =>
    constructor
    ·rintro ⟨s',m',h,q⟩
     refine ⟨k,some b,rfl,rfl,fun e=>?_,fun e=>?_,by simp⟩
     ·simp only [Option.some.injEq] at e
      subst e
      simp only [if_true] at h
      exact stepQ_eq.2 ⟨s',m',h,q⟩
     ·simp only [Option.some.injEq] at e
      simp only at h
      rw [if_neg (by rw [e];cases want<;>simp)] at h
      exact ⟨s',m',h,q⟩
    ·rintro ⟨k',b',hk,hb,h2,h3,_⟩
     simp only [Option.some.injEq] at hk hb
     subst hk hb
     by_cases e:b=want
     ·subst e
      simp only [if_true]
      exact stepQ_eq.1 (h2 rfl)
     ·simp only [if_neg e]
      exact h3 (by cases b<;>cases want<;>simp at e ⊢)
theorem runQ_dst {o:Oper} (h:RunQ T X ops N base (o::r) i s m Q):dstOK N o=true:=by
 obtain ⟨s',m',h,_⟩:=h
 simp only [arun] at h
 split at h
 ·rename_i hd;exact hd
 ·simp at h
@[simp] theorem runQ_plain:RunQ T X ops N base (⟨dst,op,ty,pos,aft,.none⟩::r) i s m Q↔dstOK N ⟨dst,op,ty,pos,aft,.none⟩=true∧StepQ T X ops N base r i s m dst Q (astep T X op (aEv s) (getM m) (base+16*i)) :=
 ⟨fun h=>⟨runQ_dst h,(runQ_plain' (runQ_dst h)).1 h⟩,fun h=>(runQ_plain' h.1).2 h.2⟩
@[simp] theorem runQ_guard {j:Nat} {want:Bool}:RunQ T X ops N base (⟨dst,op,ty,pos,aft,.some (j,want)⟩::r) i s m Q↔dstOK N ⟨dst,op,ty,pos,aft,.some (j,want)⟩=true∧GuardQ T X ops N base r i s m dst op (dstAt ops j) want Q (slotAt s (dstAt ops j)) :=
 ⟨fun h=>⟨runQ_dst h,(runQ_guard' (runQ_dst h)).1 h⟩,fun h=>(runQ_guard' h.1).2 h.2⟩
theorem guardQ_split {d:Nat} {want b:Bool} (h1:b=want→StepQ T X ops N base r i ((d,.v (.bool want))::s) m dst Q (astep T X op (aEv ((d,.v (.bool want))::s)) (getM m) (base+16*i)))
  (h2:b=!want→RunQ T X ops N base r (i+1) (putS ((d,.v (.bool (!want)))::s) dst .u) m Q):GuardQ T X ops N base r i s m dst op (some d) want Q (.v (.bool b)) :=
 ⟨d,some b,rfl,rfl,fun e=>h1 (by simpa using e),fun e=>h2 (by simpa using e),by simp⟩
@[simp] theorem guardQ_tt {d:Nat}:GuardQ T X ops N base r i s m dst op (some d) true Q (.v (.bool true))↔StepQ T X ops N base r i ((d,.v (.bool true))::s) m dst Q (astep T X op (aEv ((d,.v (.bool true))::s)) (getM m) (base+16*i)):=by simp [GuardQ,yV]
@[simp] theorem guardQ_ff {d:Nat}:GuardQ T X ops N base r i s m dst op (some d) false Q (.v (.bool false))↔StepQ T X ops N base r i ((d,.v (.bool false))::s) m dst Q (astep T X op (aEv ((d,.v (.bool false))::s)) (getM m) (base+16*i)):=by simp [GuardQ,yV]
@[simp] theorem guardQ_tf {d:Nat}:GuardQ T X ops N base r i s m dst op (some d) true Q (.v (.bool false))↔RunQ T X ops N base r (i+1) (putS ((d,.v (.bool false))::s) dst .u) m Q:=by simp [GuardQ,yV]
@[simp] theorem guardQ_ft {d:Nat}:GuardQ T X ops N base r i s m dst op (some d) false Q (.v (.bool true))↔RunQ T X ops N base r (i+1) (putS ((d,.v (.bool true))::s) dst .u) m Q:=by simp [GuardQ,yV]
@[simp] theorem guardQ_u {d:Nat} {want:Bool}:GuardQ T X ops N base r i s m dst op (some d) want Q .u↔RunQ T X ops N base r (i+1) (putS s dst .u) m Q:=by simp [GuardQ,yV]
end
theorem aw_run {c:Cx} {st:St} {Q:Exit→St→Prop} {id:Nat} {ops:Array Oper} {d:Bool} (hc:c.OK) (hO:d=true→ordB c.X ops=true)
  (h:RunQ (Types c.P) c.X ops c.N st.nx ops.toList 0 st.s st.m fun s m=>Q .normal ⟨s,m,st.nx+16*ops.size⟩):AW c (.region id ops d) st Q :=
 aw_region hc hO (by
  obtain ⟨s,m,h1,h2⟩:=h
  exact ⟨⟨s,m,_⟩,by simp [aregion,h1],h2⟩)
theorem aw_nod {p:Prop} (h:false=true):p:=absurd h (by simp)
attribute [simp] dstAt slotAt
attribute [simp] mapT mapK keyA keyB intsOf zA isI64 aLenX aLenM entsOf aMakeMap okTup mgetZ aLookup aMapSet aMapDel
attribute [simp] astep sameK enterS aEv getS putS updL setM getM updM aBox aAlloc aNew AV.cells dstOK pureR aBin binI aUn aConv aLen aMinMax aLoad loadA aStore aFieldAddr aField aPart aIndex aIndexAddr aInt aSlice aBounds aAppend aRows aBuild aFill aBuildSlice aParts aMakeSlice aCallOp TK.isOther TK.agg setL putL AV.isClosed AV.leaf callP callC openRet openVal openVals openLeaf openLeaves peekVal peekVals peekLeaf peekLeaves peekPtr peekPtrs peekFn peekFns peekCap peekCaps chunk capOf aSlice3 aCap aCopy aClear aApp aAppendZ aResult aResults retOf leaveVal leaveVals leaveLeaf leaveLeaves SLeVs SLeV SLeL SLe thenQ blockQ keepS
@[simp] theorem one_int {k:IntKind} {n:Int}:(Value.int k n).oneCell'=true:=rfl
@[simp] theorem one_bool {b:Bool}:(Value.bool b).oneCell'=true:=rfl
@[simp] theorem one_slice {p:Option Addr} {n c:Nat}:(Value.slice p n c).oneCell'=true:=rfl
@[simp] theorem one_ptr {p:Option Addr}:(Value.pointer p).oneCell'=true:=rfl
@[simp] theorem toNat_add2 (a b:Nat):((a:Int)+(b:Int)).toNat=a+b:=by omega
abbrev I (n:Int):AV:=.v (.int .i64 n)
abbrev B (b:Bool):AV:=.v (.bool b)
theorem wrap64 {n:Int} (h:-9223372036854775808≤n∧n≤9223372036854775807):IntKind.i64.wrap n=n:=by
 rw [IntKind.wrap_i64];omega
def irows (l:List Int):List (List AV):=l.map fun x=>[I x]
@[simp] theorem irows_length (l:List Int):(irows l).length=l.length:=by simp [irows]
theorem irows_get {l:List Int} {n:Nat} (h:n<l.length):(irows l)[n]?=some [I (l.getD n 0)]:=by
 simp [irows,List.getD_eq_getElem?_getD,List.getElem?_eq_getElem h]
theorem irows_append (l m:List Int):irows l++irows m=irows (l++m):=by simp [irows]
theorem irows_inj {l m:List Int}:irows l=irows m↔l=m:=by
 constructor
 ·intro h
  have:Function.Injective fun x:Int=>[I x]:=fun a b e=>by simpa [I] using e
  exact List.map_inj_right (f:=fun x:Int=>[I x]) (fun a b e=>this e) |>.1 h
 ·rintro rfl;rfl
theorem leaves_iff {T:TypeId→Option TD} {rv:List ResultVar} {st:St} {r:List AV}:Leaves T rv st r↔(match (generalizing:=false) aResults T st rv with
  | some as=>(match (generalizing:=false) leaveVals (getM st.m) as with|some (rs,ids)=>ids.Nodup∧SLeVs rs r|none=>False)
  | none=>False):=by
 unfold Leaves
 cases aResults T st rv with
 | none=>simp only [reduceCtorEq,false_and,exists_const]
 | some as =>
  simp only
  cases h:leaveVals (getM st.m) as with
  | none =>
   simp only [iff_false]
   rintro ⟨_,_,_,e,h2,_⟩
   simp only [Option.some.injEq] at e
   subst e
   rw [h] at h2
   simp at h2
  | some p =>
   obtain ⟨rs,ids⟩:=p
   simp only
   constructor
   ·rintro ⟨_,_,_,e,h2,h3⟩
    simp only [Option.some.injEq] at e
    subst e
    rw [h] at h2
    simp only [Option.some.injEq,Prod.mk.injEq] at h2
    obtain ⟨rfl,rfl⟩:=h2
    exact h3
   ·exact fun h3=>⟨as,rs,ids,rfl,h,h3⟩
def AX.none:AX:=⟨fun _ _ _ _=>.none,fun _=>false,false,fun _=>false⟩
def AX.add (X:AX) (f:FuncId) (g:List AV→(Nat→AO)→Nat→Option (AV×List (Nat×AO))):AX:={ X with call:=fun k=>if k=f then g else X.call k }
def AX.eqAt (X:AX) (t:TypeId):AX:={ X with eqs:=fun k=>k=t||X.eqs k }
theorem xok_add {P:Program} {X:AX} (h:XOK P X) {f:FuncId} {g:List AV→(Nat→AO)→Nat→Option (AV×List (Nat×AO))} (hg:(CallOK P f g∧BodyOK P f)∨ExtOK P f g)
  (hd:∀ avs M nid r,g avs M nid=some r→∀ b∈r.2.map (·.1),nid≤b∧b<nid+16):XOK P (X.add f g) where
 calls:=fun k avs M nid r hr=>by
  simp only [AX.add] at hr ⊢
  split
  ·rename_i e;subst e;exact hg
  ·rename_i e
   rw [if_neg e] at hr
   exact h.calls k avs M nid r hr
 eqs:=h.eqs
 dom:=fun k avs M nid r hr b hb=>by
  simp only [AX.add] at hr ⊢
  split at hr
  ·exact .inl (hd avs M nid r hr b hb)
  ·exact h.dom k avs M nid r hr b hb
 anyW:=h.anyW
theorem xok_eq {P:Program} {X:AX} (h:XOK P X) {t:TypeId} (ht:EqOK P t):XOK P (X.eqAt t) where
 calls:=h.calls
 eqs:=fun k hk=>by
  simp only [AX.eqAt,Bool.or_eq_true,decide_eq_true_eq] at hk
  rcases hk with rfl|hk
  ·exact ht
  ·exact h.eqs k hk
 dom:=h.dom
 anyW:=h.anyW
theorem openLeaf_keys {nid:Nat} {a:AV}:∀ b∈(openLeaf nid a).2.1.map (·.1),nid≤b∧b<(openLeaf nid a).2.2:=by
 intro b hb
 cases a<;>simp [openLeaf] at hb ⊢
 all_goals omega
theorem openLeaves_keys:∀ {as:List AV} {nid:Nat},∀ b∈(openLeaves nid as).2.1.map (·.1),nid≤b∧b<(openLeaves nid as).2.2
 | [],nid=>by simp [openLeaves]
 | a::as,nid=>fun b hb=>by
  simp only [openLeaves,List.map_append,List.mem_append] at hb ⊢
  rcases hb with hb|hb
  ·exact ⟨(openLeaf_keys b hb).1,Nat.lt_of_lt_of_le (openLeaf_keys b hb).2 openLeaves_le⟩
  ·exact ⟨Nat.le_trans openLeaf_le (openLeaves_keys b hb).1,(openLeaves_keys b hb).2⟩
theorem openVal_keys {nid:Nat} {a:AV}:∀ b∈(openVal nid a).2.1.map (·.1),nid≤b∧b<(openVal nid a).2.2:=by
 intro b hb
 cases a<;>first|exact openLeaves_keys b hb|exact openLeaf_keys b hb
theorem openVals_keys:∀ {as:List AV} {nid:Nat},∀ b∈(openVals nid as).2.1.map (·.1),nid≤b∧b<(openVals nid as).2.2
 | [],nid=>by simp [openVals]
 | a::as,nid=>fun b hb=>by
  simp only [openVals,List.map_append,List.mem_append] at hb ⊢
  rcases hb with hb|hb
  ·exact ⟨(openVal_keys b hb).1,Nat.lt_of_lt_of_le (openVal_keys b hb).2 openVals_le⟩
  ·exact ⟨Nat.le_trans openVal_le (openVals_keys b hb).1,(openVals_keys b hb).2⟩
theorem openRet_keys {nid:Nat} {a:AV}:∀ b∈(openRet nid a).2.1.map (·.1),nid≤b∧b<(openRet nid a).2.2:=by
 intro b hb
 cases a<;>first|exact openVals_keys b hb|exact openVal_keys b hb
theorem callC_keys {F:List AV→Option AV} {avs:List AV} {M:Nat→AO} {nid:Nat} {r:AV×List (Nat×AO)} (h:callC F avs M nid=some r):∀ b∈r.2.map (·.1),nid≤b∧b<nid+16:=by
 simp only [callC] at h
 split at h
 case isFalse=>simp at h
 split at h
 case h_2=>simp at h
 split at h
 case isFalse=>simp at h
 rename_i hle
 simp only [Option.some.injEq] at h
 subst h
 intro b hb
 have:=openRet_keys b hb
 omega
theorem callP_keys {F:List AV→Option AV} {avs:List AV} {M:Nat→AO} {nid:Nat} {r:AV×List (Nat×AO)} (h:callP F avs M nid=some r):∀ b∈r.2.map (·.1),nid≤b∧b<nid+16:=by
 simp only [callP] at h
 split at h
 case h_2=>simp at h
 split at h
 case h_2=>simp at h
 split at h
 case isFalse=>simp at h
 rename_i hle
 simp only [Option.some.injEq] at h
 subst h
 intro b hb
 have:=openRet_keys b hb
 omega
theorem psound_spec {ι:Type} {A:ι→List AV} {rl:ι→List AV} {P:Program} {X:AX} {f:FuncId} {fn:Func} {c:Code} (hX:XOK P X) (hmix:P.follows .mixedOrders=true) (hf:P.funcs[f]?=some fn) (hb:fn.body=some c)
  (h:∀ (i:ι) (w0:World) (G:Nat→Prop),(A i).length≤fn.ntmps∧(rl i).length=fn.results.size∧AW ⟨P,X,fn.ntmps,w0,.pure G⟩ c ⟨enterS (A i),[],0⟩ (fun e st=>(e=.normal∨e=.ret)∧Leaves (Types P) fn.results.toList st (rl i))) :
  PSound P f (specF A fun i=>retOf (rl i)) :=
 psound_of hX hmix hf hb rfl fun w0 G avs r hr=>by
  obtain ⟨i,rfl,rfl⟩:=specF_some hr
  have:=h i w0 G
  exact ⟨this.1,rl i,rfl,this.2.1,this.2.2⟩
end Go.AM
namespace Go.AM
open Go
def OArg (w:World) (G:Nat→Prop):AV→Value→List Nat→Prop
 | .rf cs,x,bl=>∃ blk t vs b1,x=.pointer (some ⟨blk,0,none⟩)∧bl=blk::b1∧w.heap[blk]?=some (.cells (List.toArray vs) t (0,0))∧(∀ y∈vs,y.oneCell'=true)∧OLeaves w G cs vs b1
 | a,x,bl=>OVal w G a x bl
def MSound (P:Program) (f:FuncId) (F:AV→List AV→Option (AV×AV)):Prop :=
 ∀ (w:World) (G:Nat→Prop) (x0:Value) (args:List Value) (a0:AV) (avs:List AV) (bl:List Nat) (r out:AV),F a0 avs=some (r,out)→(∀ k,G k→k<w.heap.size)→OArg w G a0 x0 bl→CRepL w G avs args →
  bl.Nodup→(∀ k∈bl,k<w.heap.size∧¬ G k) →
  Calls P f (x0::args).toArray w fun e w'=>∃ x G' b1 b2,e=.returned x∧Frame w bl w'∧OArg w' G' out x0 b1∧ORet w' G' r x b2∧(b1++b2).Nodup∧∀ k∈b1++b2,k<w'.heap.size∧(w.heap.size≤k∨k∈bl)
def openArg (nid:Nat):AV→AV×List (Nat×AO)×Nat
 | .rf cs=>(.bp (openLeaves nid cs).2.2 0,(openLeaves nid cs).2.1++[((openLeaves nid cs).2.2,.box (openLeaves nid cs).1)],(openLeaves nid cs).2.2+1)
 | a=>openVal nid a
theorem Opens.congr {w0:World} {bl:Bk} {E E':Env} {w:World} {nid n:Nat} {u:List (Nat×AO)} {bs bs':List Nat} (o:Opens w0 bl E w nid n u bs E') (h:∀ k,k∈bs↔k∈bs'):Opens w0 bl E w nid n u bs' E' :=
 ⟨o.step,o.le,o.keys,o.G,fun b base sz k hb hl=>(o.locs b base sz k hb hl).imp id (h k).1⟩
theorem openArg_ok {w0:World} {bl:Bk} {E:Env} {w:World} (hI:Inv w0 bl E w) {nid:Nat} {a:AV} (hn:∀ k,nid≤k→k<(openArg nid a).2.2→¬ E.alive k) {x:Value} {bs:List Nat} (h:OArg w E.G a x bs) (hs:Spare w0 bl E w bs) (hnd:bs.Nodup) :
  ∃ E',Opens w0 bl E w nid (openArg nid a).2.2 (openArg nid a).2.1 bs E'∧Rep E' w (openArg nid a).1 x:=by
 by_cases ha:∃ cs,a=.rf cs
 ·obtain ⟨cs,rfl⟩:=ha
  simp only [OArg] at h
  obtain ⟨blk,t,vs,b1,rfl,rfl,h1,h2,h3⟩:=h
  have hnd':=List.nodup_cons.1 hnd
  simp only [openArg] at hn ⊢
  obtain ⟨E1,o,r⟩:=openLeaves_ok hI (nid:=nid) (as:=cs) (fun k p q=>hn k p (by omega)) h3 (fun k hk=>hs k (by simp [hk])) hnd'.2
  have hna:=o.fresh hn (openLeaves nid cs).2.2 (Nat.le_refl _) (by omega)
  have hsp:=o.spare (bs':=[blk]) (fun k hk=>hs k (by simp at hk;simp [hk])) (fun k p q=>by simp at q;subst q;exact hnd'.1 p) blk (by simp)
  have ho:ObjRep (E1.upd (openLeaves nid cs).2.2 0 (some (blk,0,vs.length))) w (openLeaves nid cs).2.2 (.box (openLeaves nid cs).1):=by
   simp only [ObjRep]
   refine ⟨by simp [Env.upd],blk,t,vs,by simp [Env.upd],h1,h2,?_⟩
   exact r.mono (Env.le_upd fun hh=>absurd hh hna) fun _ _=>rfl
  have st:=StepTo.adopt o.step.inv (openLeaves nid cs).2.2 _ 0 (some (blk,0,vs.length)) hna (fun blk' base' sz' e=>by
   simp only [Option.some.injEq,Prod.mk.injEq] at e
   rw [← e.1];exact hsp) ho
  refine ⟨_,(o.trans (n2:=(openLeaves nid cs).2.2+1) (bs':=[blk]) ⟨st,by omega,fun b hb=>?_,rfl,fun b base sz k hb hl=>?_⟩).congr (by intro k;simp [or_comm]),?_⟩
  ·simp only [List.map_cons,List.map_nil,List.mem_singleton] at hb;omega
  ·by_cases e:b=(openLeaves nid cs).2.2
   ·subst e;simp only [Env.upd,if_true,Option.some.injEq,Prod.mk.injEq] at hl;exact .inr (by simp [hl.1])
   ·simp only [Env.upd,e,if_false,or_false] at hb hl
    exact .inl ⟨hb,hl⟩
  ·simp only [Rep]
   exact ⟨.inr rfl,by simp [Env.upd],blk,vs.length,by simp [Env.upd],rfl⟩
 ·have e:openArg nid a=openVal nid a:=by cases a<;>first|rfl|exact absurd ⟨_,rfl⟩ ha
  have h2:OVal w E.G a x bs:=by cases a<;>first|exact h|exact absurd ⟨_,rfl⟩ ha
  rw [e] at hn ⊢
  exact openVal_ok hI hn h2 hs hnd
def leaveArg (M:Nat→AO):AV→Option (AV×List Nat)
 | .bp b 0=>match M b with
  | .box cs=>match leaveLeaves M cs with
   | some (rs,is)=>some (.rf rs,b::is)
   | none=>none
  | _=>none
 | .sl b m s o n=>match leaveLeaf M (.sl b m s o n) with
  | some r=>some r
  | none=>some (.any,[])
 | _=>some (.any,[])
theorem leaveArg_ok {M:Nat→AO} {a r:AV} {ids:List Nat} {E:Env} {w:World} {x:Value} (h:leaveArg M a=some (r,ids)) (hr:Rep E w a x) (hM:MemOK E w M):∃ bl,OArg w E.G r x bl∧Cov E ids bl:=by
 have hany:some (AV.any,([]:List Nat))=some (r,ids)→∃ bl,OArg w E.G r x bl∧Cov E ids bl:=fun e=>by
  simp only [Option.some.injEq,Prod.mk.injEq] at e
  obtain ⟨rfl,rfl⟩:=e
  exact ⟨[],by simp only [OArg,OVal,OLeaf,CRep];exact ⟨trivial,trivial⟩,Cov.nil⟩
 unfold leaveArg at h
 split at h
 ·rename_i b
  have ho:=hM b (by simp only [Rep] at hr;exact hr.1)
  cases hb:M b<;>simp only [hb,reduceCtorEq] at h ho
  rename_i cs
  cases h2:leaveLeaves M cs<;>simp only [h2,reduceCtorEq] at h
  rename_i p
  obtain ⟨rs,is⟩:=p
  simp only [Option.some.injEq,Prod.mk.injEq] at h
  obtain ⟨rfl,rfl⟩:=h
  simp only [Rep] at hr
  obtain ⟨k1,k2,blk,sz,k3,rfl⟩:=hr
  simp only [ObjRep] at ho
  obtain ⟨_,blk',t,vs,q1,q2,q3,q4⟩:=ho
  rw [k3] at q1
  simp only [Option.some.injEq,Prod.mk.injEq] at q1
  obtain ⟨rfl,_,rfl⟩:=q1
  obtain ⟨b1,p1,p2⟩:=leaveLeaves_ok hM h2 q4
  refine ⟨blk::b1,by simp only [OArg];exact ⟨blk,t,vs,b1,rfl,rfl,q2,q3,p1⟩,?_⟩
  have:Cov E [b] [blk]:=⟨[b],by simp,by simp [k3],by simpa using k1⟩
  exact this.append p2
 ·rename_i b m s o n
  cases h2:leaveLeaf M (.sl b m s o n)<;>simp only [h2] at h
  ·exact hany h
  ·simp only [Option.some.injEq] at h
   subst h
   obtain ⟨bl,p1,p2⟩:=leaveLeaf_ok h2 hr hM
   refine ⟨bl,?_,p2⟩
   unfold leaveLeaf at h2
   simp only at h2
   split at h2
   ·split at h2
    ·simp only [Option.some.injEq,Prod.mk.injEq] at h2
     obtain ⟨rfl,_⟩:=h2
     exact p1
    ·simp at h2
   ·simp at h2
 ·exact hany h
theorem OLeaves.mono {w:World} {G G':Nat→Prop} (hG:∀ k,G k→G' k):∀ {as:List AV} {xs:List Value} {bl:List Nat},OLeaves w G as xs bl→OLeaves w G' as xs bl
 | [],[],_,h=>by simpa only [OLeaves] using h
 | a::as,x::xs,bl,h=>by
  simp only [OLeaves] at h ⊢
  obtain ⟨b1,b2,e,h1,h2⟩:=h
  exact ⟨b1,b2,e,h1.mono hG,OLeaves.mono hG h2⟩
 | [],_::_,_,h=>by simp [OLeaves] at h
 | _::_,[],_,h=>by simp [OLeaves] at h
theorem OVal.mono {w:World} {G G':Nat→Prop} (hG:∀ k,G k→G' k) {a:AV} {x:Value} {bl:List Nat} (h:OVal w G a x bl):OVal w G' a x bl:=by
 by_cases hc:∃ cs,a=.agg cs
 ·obtain ⟨cs,rfl⟩:=hc
  simp only [OVal] at h ⊢
  obtain ⟨vs,h1,h2,h3⟩:=h
  exact ⟨vs,h1,h2,OLeaves.mono hG h3⟩
 ·have h1:OLeaf w G a x bl:=by cases a<;>first|exact h|exact absurd ⟨_,rfl⟩ hc
  have h2:=OLeaf.mono hG h1
  cases a<;>first|exact h2|exact absurd ⟨_,rfl⟩ hc
theorem OArg.mono {w:World} {G G':Nat→Prop} (hG:∀ k,G k→G' k) {a:AV} {x:Value} {bl:List Nat} (h:OArg w G a x bl):OArg w G' a x bl:=by
 by_cases hc:∃ cs,a=.rf cs
 ·obtain ⟨cs,rfl⟩:=hc
  simp only [OArg] at h ⊢
  obtain ⟨blk,t,vs,b1,h1,h2,h3,h4,h5⟩:=h
  exact ⟨blk,t,vs,b1,h1,h2,h3,h4,OLeaves.mono hG h5⟩
 ·have h1:OVal w G a x bl:=by cases a<;>first|exact h|exact absurd ⟨_,rfl⟩ hc
  have h2:=OVal.mono hG h1
  cases a<;>first|exact h2|exact absurd ⟨_,rfl⟩ hc
theorem OArg.of_le {w:World} {G:Nat→Prop} {a a':AV} {x:Value} {bl:List Nat} (h:OArg w G a x bl) (he:a'=a∨a'=.any):∃ bl',bl'.Sublist bl∧OArg w G a' x bl':=by
 rcases he with rfl|rfl
 ·exact ⟨bl,List.Sublist.refl _,h⟩
 ·exact ⟨[],by simp,by simp only [OArg,OVal,OLeaf,CRep];exact ⟨trivial,trivial⟩⟩
def LeavesM (T:TypeId→Option TD) (rv:List ResultVar) (st:St) (a0:AV) (r:List AV) (out:AV):Prop :=
 ∃ as rs ids o is,aResults T st rv=some as∧leaveVals (getM st.m) as=some (rs,ids)∧(leaveArg (getM st.m) a0=some (o,is)∨(o=.any∧is=[]))∧(is++ids).Nodup∧SLeVs rs r∧(out=o∨out=.any)
theorem getM_updM {u:List (Nat×AO)} {b:Nat}:updM (fun _=>.dead) u b=getM u b:=by
 induction u with
 | nil=>rfl
 | cons p r ih=>obtain ⟨k,o⟩:=p;simp only [updM,getM,ih]
theorem getS_enter0 {a:AV} {avs:List AV} {t:Nat}:getS (enterS (a::avs)) t=((a::avs)[t]?).getD .any:=by
 rw [enterS,getS_enter]
 simp
theorem msound_body {P:Program} {X:AX} {f:FuncId} {fn:Func} {c:Code} {N:Nat} (hf:P.funcs[f]?=some fn) (hb:fn.body=some c) (hN:fn.ntmps=N) {w:World} {G:Nat→Prop} {x0:Value} {args:List Value} {avs:List AV} {bl:List Nat} {r out:AV} (hargs:CRepL w G avs args)
  (hbl:∀ k∈bl,k<w.heap.size∧¬ G k) {E1:Env} {a1:AV} {u1:List (Nat×AO)} {n1:Nat} (hI:Inv w ⟨bl,Env.start G,0⟩ (Env.start G) w) (o:Opens w ⟨bl,Env.start G,0⟩ (Env.start G) w 0 n1 u1 bl E1) (r1:Rep E1 w a1 x0) (hlen:avs.length+1≤N) {rl:List AV} (hrl:retOf rl=r)
  (haw:AW ⟨P,X,N,w,⟨bl,E1,n1⟩⟩ c ⟨enterS (a1::avs),u1,n1⟩ (fun e st=>(e=.normal∨e=.ret)∧LeavesM (Types P) fn.results.toList st a1 rl out)) :
  Calls P f (x0::args).toArray w fun e w'=>∃ x G' b1 b2,e=.returned x∧Frame w bl w'∧OArg w' G' out x0 b1∧ORet w' G' r x b2∧(b1++b2).Nodup∧∀ k∈b1++b2,k<w'.heap.size∧(w.heap.size≤k∨k∈bl):=by
 have hal:args.length=avs.length:=by
  have:∀ {as:List AV} {xs:List Value},CRepL w G as xs→xs.length=as.length:=by
   intro as
   induction as with
   | nil=>intro xs h;cases xs<;>simp [CRepL] at h ⊢
   | cons a r ih=>intro xs h;cases xs<;>simp only [CRepL] at h ⊢;simp [ih h.2]
  exact this hargs
 have hM1:MemOK E1 w (getM u1):=fun b hb=>by
  have:=o.step.mem hI (M:=fun _=>.dead) (fun b hb=>hb.elim) b hb
  rwa [getM_updM] at this
 have hlow:∀ k,E1.alive k→k<n1:=fun k hk=>by
  rcases o.step.alive k hk with h1|h1
  ·exact h1.elim
  ·exact (o.keys k h1).2
 have hI1:Inv w ⟨bl,E1,n1⟩ E1 w:=⟨o.step.inv.frame,Env.Le.refl _,hlow,fun k hk=>.inl hk,o.step.inv.good,o.step.inv.locs,o.step.inv.apart⟩
 have hsat:Sat N w ⟨bl,E1,n1⟩ { tmps:=(x0::args).toArray++Array.replicate (fn.ntmps - (x0::args).toArray.size) undef,defers:=[] } w ⟨enterS (a1::avs),u1,n1⟩:=by
  refine ⟨E1,⟨rfl,by simp [hN];omega,hI1,hM1,fun t=>?_⟩,hlow,fun k hk=>?_⟩
  ·rw [getS_enter0]
   cases t with
   | zero =>
    have:((x0::args).toArray++Array.replicate (fn.ntmps - (x0::args).toArray.size) undef).getD 0 undef=x0:=by
     rw [Array.getD_eq_getD_getElem?,Array.getElem?_append_left (by simp)];simp
    simp only [this]
    exact r1
   | succ t =>
    simp only [List.getElem?_cons_succ]
    cases ht:avs[t]? with
    | none=>simp [Rep,CRep]
    | some a =>
     obtain ⟨x,h1,h2⟩:=hargs.get ht
     have hlt:=(List.getElem?_eq_some_iff.1 ht).1
     rw [Array.getD_eq_getD_getElem?,Array.getElem?_append_left (by simp;omega)]
     have:(x0::args).toArray[t+1]?=some x:=by simpa using h1
     rw [this]
     exact Rep.of_c (E:=E1) (by rw [o.G];exact h2)
  ·have:k∈u1.map (·.1):=by
    rcases getM_mem (m:=u1) (t:=k) with e|⟨p,hp,e,_⟩
    ·exact absurd e hk
    ·exact List.mem_map.2 ⟨p,hp,e⟩
   exact (o.keys k this).2
 refine calls_of_wp hf hb (wp_mono (haw _ _ hsat) fun e a w' ⟨st,⟨he,as,rs,ids,oa,is,h1,h2,h2',h3,h4,h5⟩,E',hs,_,_⟩=>?_)
 obtain ⟨vs,k1,k2⟩:=aResults_ok hs h1
 have hrep0:Rep E' w' a1 x0:=r1.mono hs.inv.gin fun k hk=>hs.inv.frame.old k (o.step.inv.good k hk) fun hkb=>(hbl k hkb).2 (by rw [o.G] at hk;exact hk)
 obtain ⟨bl1,j1,j2⟩:∃ bl,OArg w' E'.G oa x0 bl∧Cov E' is bl:=by
  rcases h2' with h2'|⟨rfl,rfl⟩
  ·exact leaveArg_ok h2' hrep0 hs.mem
  ·exact ⟨[],by simp only [OArg,OVal,OLeaf,CRep];exact ⟨trivial,trivial⟩,Cov.nil⟩
 obtain ⟨bl2,k3,k4⟩:=leaveVals_ok hs.mem h2 k2
 have hnd2:(bl1++bl2).Nodup:=(j2.append k4).nodup hs.inv h3
 obtain ⟨n1,n2,n3⟩:=List.nodup_append.1 hnd2
 obtain ⟨bl1',q3,q4⟩:=j1.of_le h5
 obtain ⟨bl2',q1,q2⟩:=h4.vals k3 n2
 have hblk:∀ k∈bl1++bl2,k<w'.heap.size∧(w.heap.size≤k∨k∈bl):=fun k hk=>by
  obtain ⟨b,_,base,sz,hb1,hb2⟩:=(j2.append k4).mem hk
  have:=hs.inv.locs b k base sz hb1 hb2
  exact ⟨this.1,this.2.2⟩
 let G':Nat→Prop:=fun k=>E'.G k∨(k∈bl2∧k ∉ bl2')
 have hret:OVals w' G' rl vs bl2':=q2 G' (fun k hk=>.inl hk) fun k hk hk'=>.inr ⟨hk,hk'⟩
 have hvl:vs.length=rl.length:=by
  have:∀ {as:List AV} {xs:List Value} {b:List Nat},OVals w' G' as xs b→xs.length=as.length:=by
   intro as
   induction as with
   | nil=>intro xs b h;cases xs<;>simp [OVals] at h ⊢
   | cons a r ih=>intro xs b h;cases xs<;>simp only [OVals] at h<;>first|exact h.elim|(obtain ⟨_,b2,_,_,h2⟩:=h;simp [ih h2])
  exact this hret
 have hrun:(results fn a.tmps).run P w'=.ok (if h:vs.toArray.size=1 then vs.toArray[0] else .tuple vs.toArray) w':=by
  unfold results
  rw [Sem.run_bind,← Array.toArray_toList (xs:=fn.results),List.mapM_toArray]
  simp only [Sem.run_map]
  have:(List.mapM (fun x=>match x with|.tmp t=>pure (a.tmps.getD t undef)|.cell b t=>do loadVar t (← asAddr (a.tmps.getD b undef))) fn.results.toList:Sem (List Value)).run P w'=.ok vs w':=k1
  erw [this]
  rfl
 have hnt:=leaveVals_tup h2 h4
 have hfin:∃ x G' b1 b2,Ending.returned (if h:vs.toArray.size=1 then vs.toArray[0] else .tuple vs.toArray)=Ending.returned x∧Frame w bl w'∧OArg w' G' out x0 b1∧ORet w' G' r x b2∧(b1++b2).Nodup∧∀ k∈b1++b2,k<w'.heap.size∧(w.heap.size≤k∨k∈bl):=by
  refine ⟨_,G',bl1',bl2',rfl,hs.inv.frame,OArg.mono (fun k hk=>.inl hk) q4,?_,?_,fun k hk=>hblk k ?_⟩
  ·subst hrl
   match rl,vs,hvl,hret,hnt with
   | [],[],_,hret,_=>exact ⟨[],by simp,hret⟩
   | [r],[v],_,hret,hnt =>
    simp only [OVals] at hret
    obtain ⟨b1,b2,e,h5,rfl⟩:=hret
    simp only [List.append_nil] at e
    subst e
    simp only [List.size_toArray,List.length_cons,List.length_nil,Nat.zero_add,dite_true,List.getElem_toArray,List.getElem_cons_zero,retOf]
    have hn':=hnt r (by simp)
    cases r<;>first|exact h5|exact absurd rfl (hn' _)
   | r1::r2::rl,v1::v2::vs,_,hret,_ =>
    simp only [retOf,ORet]
    exact ⟨v1::v2::vs,by simp,hret⟩
  ·exact List.nodup_append.2 ⟨q3.nodup n1,q1.nodup n2,fun x hx y hy=>n3 x (q3.subset hx) y (q1.subset hy)⟩
  ·rcases List.mem_append.1 hk with hk|hk
   ·exact List.mem_append.2 (.inl (q3.subset hk))
   ·exact List.mem_append.2 (.inr (q1.subset hk))
 rcases he with rfl|rfl
 ·exact ⟨hs.defers,_,hrun,hfin⟩
 ·exact ⟨hs.defers,_,hrun,hfin⟩
theorem msound_of {P:Program} {f:FuncId} {fn:Func} {c:Code} {N:Nat} {F:AV→List AV→Option (AV×AV)} (hf:P.funcs[f]?=some fn) (hb:fn.body=some c) (hN:fn.ntmps=N)
  (h:∀ (w0:World) (bl:List Nat) (E:Env) (a0:AV) (avs:List AV) (r out:AV),F a0 avs=some (r,out)→avs.length+1≤N∧∃ rl,retOf rl=r∧rl.length=fn.results.size∧∃ X,
   AW ⟨P,X,N,w0,⟨bl,E,(openArg 0 a0).2.2⟩⟩ c ⟨enterS ((openArg 0 a0).1::avs),(openArg 0 a0).2.1,(openArg 0 a0).2.2⟩ (fun e st=>(e=.normal∨e=.ret)∧LeavesM (Types P) fn.results.toList st (openArg 0 a0).1 rl out)) :
  MSound P f F:=by
 intro w G x0 args a0 avs bl r out hF hG h0 hargs hnd hbl
 have hI:Inv w ⟨bl,Env.start G,0⟩ (Env.start G) w:=⟨⟨rfl,rfl,Nat.le_refl _,fun _ _ _=>rfl⟩,Env.Le.refl _,fun _ hb=>hb.elim,fun _ h=>.inl h,hG,fun b _ _ _ hb=>hb.elim,fun b _ _ _ _ _ _ hb=>hb.elim⟩
 obtain ⟨E1,o,r1⟩:=openArg_ok hI (nid:=0) (a:=a0) (fun k _ _ hk=>hk.elim) h0 (fun k hk=>⟨(hbl k hk).1,(hbl k hk).2,.inr hk,fun b _ _ hb=>hb.elim⟩) hnd
 obtain ⟨hlen,rl,hrl,hrlen,X,haw⟩:=h w bl E1 a0 avs r out hF
 exact msound_body hf hb hN hargs hbl hI o r1 hlen hrl haw
def anyRows (s n:Nat):List (List AV):=List.replicate n (List.replicate s .any)
theorem msound_cap {P:Program} {f:FuncId} {fn:Func} {c:Code} {N:Nat} {F:AV→List AV→Option (AV×AV)} (hf:P.funcs[f]?=some fn) (hb:fn.body=some c) (hN:fn.ntmps=N)
  (h:∀ (w0:World) (bl:List Nat) (E:Env) (a0:AV) (avs:List AV) (r out:AV),F a0 avs=some (r,out)→avs.length+1≤N∧∃ s xs,a0=.ow s xs∧∃ rl,retOf rl=r∧rl.length=fn.results.size∧∃ X,∀ m,
   AW ⟨P,X,N,w0,⟨bl,E,1⟩⟩ c ⟨enterS (.sl 0 1 s 0 xs.length::avs),[(0,.vec 1 s true (xs++anyRows s m))],1⟩ (fun e st=>(e=.normal∨e=.ret)∧LeavesM (Types P) fn.results.toList st (.sl 0 1 s 0 xs.length) rl out)) :
  MSound P f F:=by
 intro w G x0 args a0 avs bl r out hF hG h0 hargs hnd hbl
 have hI:Inv w ⟨bl,Env.start G,0⟩ (Env.start G) w:=⟨⟨rfl,rfl,Nat.le_refl _,fun _ _ _=>rfl⟩,Env.Le.refl _,fun _ hb=>hb.elim,fun _ h=>.inl h,hG,fun b _ _ _ hb=>hb.elim,fun b _ _ _ _ _ _ hb=>hb.elim⟩
 have hop:∀ s xs,a0=.ow s xs→∃ E1 m,Opens w ⟨bl,Env.start G,0⟩ (Env.start G) w 0 1 [(0,.vec 1 s true (xs++anyRows s m))] bl E1∧Rep E1 w (.sl 0 1 s 0 xs.length) x0:=by
  rintro s xs rfl
  simp only [OArg,OVal,OLeaf] at h0
  obtain ⟨p,cc,rfl,h2,h3,h4⟩:=h0
  have hna:¬ (Env.start G).alive 0:=fun hh=>hh.elim
  rcases h4 with ⟨rfl,rfl⟩|⟨blk,base,arr,t,rfl,rfl,k3,k4,k4',k5⟩
  ·have hx:xs=[]:=List.length_eq_zero_iff.1 (by omega)
   subst hx
   refine ⟨(Env.start G).upd 0 1 none,0,⟨by simpa [anyRows] using StepTo.none hI 0 s hna true,by omega,by simp,rfl,fun b base sz k hb hl=>?_⟩,?_⟩
   ·by_cases e:b=0
    ·subst e;simp [Env.upd] at hl
    ·simp only [Env.upd,e,if_false,or_false] at hb hl
     exact .inl ⟨hb,hl⟩
   ·simp only [Rep]
    exact ⟨.inr rfl,Nat.le_refl _,by simp [Env.upd],p,0,rfl,by simp,h3,fun _=>by simp [Env.upd,SlAt]⟩
  ·have hlen:(xs++anyRows s (cc - xs.length)).length=cc:=by simp [anyRows];omega
   have hb0:=hbl blk (by simp)
   refine ⟨(Env.start G).upd 0 1 (some (blk,base,base+cc*s)),cc - xs.length,⟨StepTo.adopt hI 0 _ 1 _ hna (fun blk' base' sz' e=>?_) ?_,by omega,by simp,rfl,fun b base' sz k hb hl=>?_⟩,?_⟩
   ·simp only [Option.some.injEq,Prod.mk.injEq] at e
    obtain ⟨rfl,_,_⟩:=e
    exact ⟨hb0.1,hb0.2,.inr (by simp),fun b _ _ hb=>hb.elim⟩
   ·simp only [ObjRep,Env.upd,if_true]
    refine ⟨trivial,Nat.le_refl _,arr,t,k3,k4,k4',by rw [hlen];exact Nat.le_refl _,by rw [hlen];simp,CRows.cons_left k5 (CRows.of_get fun i e he=>?_)⟩
    have hi:i<cc - xs.length:=by
     have:=(List.getElem?_eq_some_iff.1 he).1
     simpa [anyRows] using this
    have he':e=List.replicate s .any:=by
     rw [anyRows,List.getElem?_replicate,if_pos hi] at he
     simpa using he.symm
    subst he'
    refine ⟨by simp,CCells.of_get fun j a ha=>?_⟩
    have hj:j<s:=by
     have:=(List.getElem?_eq_some_iff.1 ha).1
     simpa using this
    have ha':a=.any:=by
     rw [List.getElem?_replicate,if_pos hj] at ha
     simpa using ha.symm
    subst ha'
    have h5:(xs.length+i+1)*s≤cc*s:=Nat.mul_le_mul_right s (by omega)
    have h6:(xs.length+i+1)*s=xs.length*s+i*s+s:=by rw [Nat.add_mul,Nat.add_mul];omega
    have hk:base+xs.length*s+i*s+j<arr.size:=by omega
    refine ⟨arr[base+xs.length*s+i*s+j],?_,k4' _ (Array.mem_toList_iff.2 (Array.getElem_mem _)),by simp [CRep]⟩
    rw [cell_of_row _ _ _ arr t _ k3,Array.getElem?_eq_getElem hk]
   ·by_cases e:b=0
    ·subst e;simp only [Env.upd,if_true,Option.some.injEq,Prod.mk.injEq] at hl;exact .inr (by simp [hl.1])
    ·simp only [Env.upd,e,if_false,or_false] at hb hl
     exact .inl ⟨hb,hl⟩
   ·simp only [Rep]
    exact ⟨.inr rfl,Nat.le_refl _,by simp [Env.upd],_,cc,rfl,h2,fun e=>by simp at e,fun _=>by simp [Env.upd,SlAt]⟩
 obtain ⟨E',m',_⟩:∃ E':Env,∃ m':Nat,True:=⟨Env.start G,0,trivial⟩
 have h1:=h w bl E' a0 avs r out hF
 obtain ⟨hlen,s,xs,rfl,_⟩:=h1
 obtain ⟨E1,m,o,r1⟩:=hop s xs rfl
 obtain ⟨hlen,s',xs',e,rl,hrl,hrlen,X,haw⟩:=h w bl E1 _ avs r out hF
 simp only [AV.ow.injEq] at e
 obtain ⟨rfl,rfl⟩:=e
 exact msound_body hf hb hN hargs hbl hI o r1 hlen hrl (haw m)
end Go.AM
