/- A part of the proof: what functions of the program compute, by abstract execution of their code. Its theorems hold without further condition. -/
import Derived.Test.YtcfhmdljeeppfaaUAmG1
import Derived.Test.YtcfhmdljeeppfaaUAmW
import Derived.Test.YtcfhmdljeeppfaaProg
import Derived.ProofKit
import Derived.Laws.StructEq
import Derived.ChangeKeysEq
import Derived.Test.YtcfhmdljeeppfaaUAmH
set_option linter.all false
namespace Go.AM
open Go
def opFoot (op:Op) (ev:Operand→AV) (M:Nat→AO):List Nat:=match op with
 | .load _ x=>(ev x).nms
 | .store _ x _=>(ev x).nms
 | .call c=>match c.callee with
  | .builtin b=>match b with
   | .len=>match c.args.toList.map ev with
    | [.mp b _]=>[b]
    | _=>[]
   | .min|.max|.cap=>[]
   | _=>nmsL (c.args.toList.map ev)
  | .value f=>gat M 64 (nmsL (ev f::c.args.toList.map ev)) []
  | _=>[]
 | .lookup _ x _ _=>(ev x).nms
 | .mapUpdate _ x _ _=>(ev x).nms
 | _=>[]
abbrev Foot:=List Nat×List Nat
def arunFt (T:TypeId→Option TD) (X:AX) (ops:Array Oper) (N base:Nat):List Oper→Nat→List (Nat×AV)→List (Nat×AO)→List Foot→Option (List (Nat×AV)×List (Nat×AO)×List Foot)
 | [],_,l,M,fs=>some (l,M,fs)
 | o::r,i,l,M,fs =>
  if dstOK N o=true then
   match o.guard with
   | none=>match astep T X o.op (aEv l) (restr (opFoot o.op (aEv l) (getM M)) (getM M)) (base+16*i) with
    | some (av,u)=>arunFt T X ops N base r (i+1) (putS l o.dst av) (updL M u) ((opFoot o.op (aEv l) (getM M),u.map (·.1))::fs)
    | none=>none
   | some (j,want)=>match (ops[j]?).bind (·.dst) with
    | some d=>match yV (getS l d) with
     | some (some b) =>
      if b=want then
       match astep T X o.op (aEv ((d,.v (.bool want))::l)) (restr (opFoot o.op (aEv ((d,.v (.bool want))::l)) (getM M)) (getM M)) (base+16*i) with
       | some (av,u)=>arunFt T X ops N base r (i+1) (putS ((d,.v (.bool want))::l) o.dst av) (updL M u) ((opFoot o.op (aEv ((d,.v (.bool want))::l)) (getM M),u.map (·.1))::fs)
       | none=>none
      else arunFt T X ops N base r (i+1) (putS ((d,.v (.bool (!want)))::l) o.dst .u) M (([],[])::fs)
     | some none=>arunFt T X ops N base r (i+1) (putS l o.dst .u) M (([],[])::fs)
     | none=>none
    | none=>none
  else none
def footOf (r:RecF):Foot:=(r.1,r.2.2.map (·.1))
theorem recsF_of_run {T:TypeId→Option TD} {X:AX} {ops:Array Oper} {N base:Nat}:∀ {ol:List Oper} {i:Nat} {l l':List (Nat×AV)} {M M':List (Nat×AO)} {fs fs':List Foot},arunFt T X ops N base ol i l M fs=some (l',M',fs') →
  ∃ rs,RecsF T X ops N base ol i (getS l) (getM M) rs (getS l') (getM M')∧fs'=(rs.map footOf).reverse++fs
 | [],i,l,l',M,M',fs,fs',h=>by
  simp only [arunFt,Option.some.injEq,Prod.mk.injEq] at h
  obtain ⟨rfl,rfl,rfl⟩:=h
  exact ⟨[],⟨rfl,rfl⟩,rfl⟩
 | o::ol,i,l,l',M,M',fs,fs',h=>by
  simp only [arunFt] at h
  split at h
  case isFalse=>simp at h
  rename_i hd
  cases hg:o.guard with
  | none =>
   simp only [hg] at h
   cases hs:astep T X o.op (aEv l) (restr (opFoot o.op (aEv l) (getM M)) (getM M)) (base+16*i)<;>simp only [hs,reduceCtorEq] at h
   rename_i r
   obtain ⟨av,u⟩:=r
   obtain ⟨rs,hrs,hfs⟩:=recsF_of_run h
   refine ⟨(opFoot o.op (aEv l) (getM M),av,u)::rs,?_,by rw [hfs];simp [footOf]⟩
   simp only [RecsF,stepRel,hg,hd,true_and]
   rw [getS_putS,getM_updL] at hrs
   exact ⟨by rw [← aEv_eq];exact hs,hrs⟩
  | some jw =>
   obtain ⟨j,want⟩:=jw
   simp only [hg] at h
   cases hdj:(ops[j]?).bind (·.dst)<;>simp only [hdj,reduceCtorEq] at h
   rename_i d
   cases hy:yV (getS l d)<;>simp only [hy,reduceCtorEq] at h
   rename_i y
   cases y with
   | none =>
    simp only at h
    obtain ⟨rs,hrs,hfs⟩:=recsF_of_run h
    refine ⟨([],.u,[])::rs,?_,by rw [hfs];simp [footOf]⟩
    simp only [RecsF,stepRel,hg,hd,true_and]
    rw [getS_putS] at hrs
    exact ⟨⟨d,none,hdj,hy,by simp⟩,hrs⟩
   | some b =>
   simp only at h
   have hgd:=yV_bool hy
   split at h
   ·rename_i hb
    subst hb
    have hsame:=getS_same l d _ hgd
    cases hs:astep T X o.op (aEv ((d,.v (.bool b))::l)) (restr (opFoot o.op (aEv ((d,.v (.bool b))::l)) (getM M)) (getM M)) (base+16*i)<;>simp only [hs,reduceCtorEq] at h
    rename_i r
    obtain ⟨av,u⟩:=r
    obtain ⟨rs,hrs,hfs⟩:=recsF_of_run h
    refine ⟨(opFoot o.op (aEv ((d,.v (.bool b))::l)) (getM M),av,u)::rs,?_,by rw [hfs];simp [footOf]⟩
    simp only [RecsF,stepRel,hg,hd,true_and]
    rw [getS_putS,getM_updL,hsame] at hrs
    have e1:aEv ((d,.v (.bool b))::l)=aEvF (getS l):=by rw [aEv_eq,hsame]
    rw [e1] at hs ⊢
    exact ⟨⟨d,some b,hdj,hy,by rw [if_pos rfl];exact hs⟩,hrs⟩
   ·rename_i hb
    have hnb:(!want)=b:=by cases b<;>cases want<;>simp at hb ⊢
    rw [hnb] at h
    have hsame:=getS_same l d _ hgd
    obtain ⟨rs,hrs,hfs⟩:=recsF_of_run h
    refine ⟨([],.u,[])::rs,?_,by rw [hfs];simp [footOf]⟩
    simp only [RecsF,stepRel,hg,hd,true_and]
    rw [getS_putS,hsame] at hrs
    exact ⟨⟨d,some b,hdj,hy,by rw [if_neg (by simpa using hb)];trivial⟩,hrs⟩
def memB (l:List Nat) (b:Nat):Bool:=l.any fun c=>Nat.beq c b
theorem memB_iff {l:List Nat} {b:Nat}:memB l b=true↔b∈l:=by
 unfold memB
 rw [List.any_eq_true]
 constructor
 ·rintro ⟨c,hc,e⟩
  rw [← Nat.eq_of_beq_eq_true e];exact hc
 ·exact fun h=>⟨b,h,Nat.beq_refl b⟩
def clashB (p q:Foot):Bool:=p.2.any (fun b=>memB q.1 b||memB q.2 b)||q.2.any fun b=>memB p.1 b
theorem clashB_iff {p q:Foot} (h:clashB p q=false):¬ ∃ b,(b∈p.2∧(b∈q.1∨b∈q.2))∨(b∈q.2∧b∈p.1):=by
 rintro ⟨b,hb⟩
 simp only [clashB,Bool.or_eq_false_iff,List.any_eq_false,Bool.or_eq_true,memB_iff] at h
 rcases hb with ⟨h1,h2⟩|⟨h1,h2⟩
 ·exact h.1 b h1 h2
 ·exact h.2 b h1 h2
def okD (ops:Array Oper) (fsr:List Foot):Bool :=
 ops.toList.zipIdx.all (fun p=>p.1.after.all fun e=>!Region.binds .any e||decide (e.on<p.2)) &&
 (ops.toList.zip fsr.reverse).zipIdx.all (fun p=>(ops.toList.zip fsr.reverse).zipIdx.all fun q=>!(decide (p.2<q.2))||(Oper.apart ops p.1.1 q.1.1&&!clashB p.1.2 q.1.2)||((ancAll ops.toList []).getD q.2 0).testBit p.2)
theorem ordF_of {ops:Array Oper} {rs:List RecF} (hl:rs.length=ops.toList.length) (h:okD ops (rs.map footOf).reverse=true):OrdF ops rs:=by
 simp only [okD,List.reverse_reverse,Bool.and_eq_true] at h
 obtain ⟨h1,h2⟩:=h
 have hz:∀ j o,ops[j]?=some o→(o,j)∈ops.toList.zipIdx:=fun j o ho=>by
  rw [List.mem_zipIdx_iff_getElem?]
  simpa using ho
 have hz2:∀ j o r,ops[j]?=some o→rs[j]?=some r→((o,footOf r),j)∈(ops.toList.zip (rs.map footOf)).zipIdx:=fun j o r ho hr=>by
  rw [List.mem_zipIdx_iff_getElem?,List.getElem?_zip_eq_some]
  exact ⟨by simpa using ho,by rw [List.getElem?_map,hr];rfl⟩
 have hanc:∀ i j x y p q,ops[i]?=some x→ops[j]?=some y→rs[i]?=some p→rs[j]?=some q→i<j→(Oper.apart ops x y&&!clashB (footOf p) (footOf q))=false→Anc ops i j:=fun i j x y p q hx hy hp hq hij hc=>by
  have h3:=List.all_eq_true.1 (List.all_eq_true.1 h2 _ (hz2 i x p hx hp)) _ (hz2 j y q hy hq)
  simp only [hij,decide_true,Bool.not_true,hc,Bool.false_or] at h3
  exact ancAll_spec ops.toList [] (fun j=>by simp) (fun j i hb=>by simp at hb) j i h3
 have hrs:∀ j o,ops[j]?=some o→∃ r,rs[j]?=some r:=fun j o ho=>by
  have hj:j<ops.size:=(Array.getElem?_eq_some_iff.1 ho).1
  exact ⟨rs[j]'(by rw [hl];simpa using hj),List.getElem?_eq_getElem _⟩
 have hos:∀ j (r:RecF),rs[j]?=some r→∃ o,ops[j]?=some o:=fun j r hr=>by
  have hj:j<rs.length:=(List.getElem?_eq_some_iff.1 hr).1
  rw [hl] at hj
  have hj:j<ops.size:=by simpa using hj
  exact ⟨_,Array.getElem?_eq_getElem hj⟩
 refine ⟨fun j o ho e he hb=>?_,fun i j x y hx hy hij hc=>?_,fun i j p q hp hq hij hc=>?_⟩
 ·have:=List.all_eq_true.1 h1 _ (hz j o ho)
  simp only [Array.all_eq_true'] at this
  have:=this e he
  simpa [hb] using this
 ·obtain ⟨p,hp⟩:=hrs i x hx
  obtain ⟨q,hq⟩:=hrs j y hy
  exact hanc i j x y p q hx hy hp hq hij (by rw [hc];rfl)
 ·obtain ⟨x,hx⟩:=hos i p hp
  obtain ⟨y,hy⟩:=hos j q hq
  refine hanc i j x y p q hx hy hp hq hij ?_
  cases hcl:clashB (footOf p) (footOf q) with
  | true=>simp
  | false=>exact absurd hc (clashB_iff hcl)
theorem region_drawnF {P:Program} {X:AX} (hX:XOK P X) (hmix:P.follows .mixedOrders=true) {id N:Nat} {ops:Array Oper} {w0:World} {bl:Bk} {a:Act} {w:World} {st:St} {s:List (Nat×AV)} {m:List (Nat×AO)} {fs:List Foot} {Q:Exit→Act→World→Prop}
  (hs:Sat N w0 bl a w st) (hh:arunFt (Types P) X ops N st.nx ops.toList 0 st.s st.m []=some (s,m,fs)) (hO:okD ops fs=true) (hq:∀ a' w',Sat N w0 bl a' w' ⟨s,m,st.nx+16*ops.size⟩→Q .normal a' w'):(Code.region id ops true).wp P Q a w:=by
 obtain ⟨rs,hrs,hfs⟩:=recsF_of_run hh
 rw [List.append_nil] at hfs
 subst hfs
 obtain ⟨E,h1,h2,h3⟩:=hs
 have hinv:Inv w0 bl E { w with drawn:=w.drawn+1 }:=(StepTo.refl (w':={ w with drawn:=w.drawn+1 }) h1.inv rfl rfl rfl).inv
 have hs1:SatF N w0 bl E a { w with drawn:=w.drawn+1 } (getS st.s) (getM st.m) :=
  ⟨h1.defers,h1.size,hinv,fun b hb=>ObjRep.mono (w:=w) (w':={ w with drawn:=w.drawn+1 }) (Env.Le.refl E) (fun _ _=>rfl) rfl rfl (fun _ _ _ _=>rfl) (h1.mem b hb),fun t=>Rep.mono (w:=w) (w':={ w with drawn:=w.drawn+1 }) (Env.Le.refl E) (fun _ _=>rfl) (h1.slots t)⟩
 have hlist:∀ j,(Array.replicate ops.size false).getD j false=false:=fun j=>by
  rw [Array.getD_eq_getD_getElem?,Array.getElem?_replicate]
  split<;>rfl
 obtain ⟨hlen,hg',hm',hz⟩:=recsF_at hrs
 have hord:=ordF_of hlen hO
 have hfin:∀ k,getM m k≠.dead→k<st.nx+16*ops.size:=fun k hk=>by
  rw [hm'] at hk
  have hk':mF (ops.toList.zip (rs.map (·.2))) 0 (fun j=>decide (j<ops.size)) (getM st.m) k≠.dead:=by
   rwa [mF_at (L':=fun _=>true) rfl fun j o r hj _=>by
    have:=(List.getElem?_eq_some_iff.1 hj).1
    simp at this
    simp;omega]
  rcases live_ofF hX hz h3 ops.size k hk' with h4|⟨j,h4,h5,h6,_⟩
  ·omega
  ·omega
 refine wp_region_any hmix (run_anyF hX hord hrs h3 (fun E' a' w' k1 k2=>hq a' w' ⟨E',k1,k2,hfin⟩) ops.size _ E a _ (by simp) ?_ (fun j o _ hj=>by rw [hlist] at hj;simp at hj) ?_ (fun b hb=>.inl (h2 b hb)))
 ·refine Nat.le_trans List.countP_le_length ?_
  simp
 ·rw [gF_none (fun j _=>hlist j),mF_none (fun j _=>hlist j)]
  exact hs1
def RunFt (T:TypeId→Option TD) (X:AX) (ops:Array Oper) (N base:Nat) (l:List Oper) (i:Nat) (s:List (Nat×AV)) (m:List (Nat×AO)) (fs:List Foot) (Q:List (Nat×AV)→List (Nat×AO)→Prop):Prop :=
 ∃ s' m' fs',arunFt T X ops N base l i s m fs=some (s',m',fs')∧okD ops fs'=true∧Q s' m'
def StepFt (T:TypeId→Option TD) (X:AX) (ops:Array Oper) (N base:Nat) (r:List Oper) (i:Nat) (s:List (Nat×AV)) (m:List (Nat×AO)) (fs:List Foot) (dst:Option Nat) (Q:List (Nat×AV)→List (Nat×AO)→Prop) (S:List Nat) (a:Option (AV×List (Nat×AO))):Prop :=
 ∃ av u,a=some (av,u)∧RunFt T X ops N base r (i+1) (putS s dst av) (updL m u) ((S,u.map (·.1))::fs) Q
def StepSt (T:TypeId→Option TD) (X:AX) (ops:Array Oper) (N base:Nat) (r:List Oper) (i:Nat) (s:List (Nat×AV)) (m:List (Nat×AO)) (fs:List Foot) (dst:Option Nat) (op:Op) (Q:List (Nat×AV)→List (Nat×AO)→Prop) (S:List Nat):Prop :=
 StepFt T X ops N base r i s m fs dst Q S (astep T X op (aEv s) (restr S (getM m)) (base+16*i))
section
variable {T:TypeId→Option TD} {X:AX} {ops:Array Oper} {N base:Nat} {l r:List Oper} {i:Nat} {s:List (Nat×AV)} {m:List (Nat×AO)} {fs:List Foot} {Q:List (Nat×AV)→List (Nat×AO)→Prop} {dst:Option Nat} {op:Op} {ty:TypeId} {pos:String} {aft:Array Edge}
@[simp] theorem runFt_nil:RunFt T X ops N base [] i s m fs Q↔okD ops fs=true∧Q s m:=by
 simp only [RunFt,arunFt,Option.some.injEq,Prod.mk.injEq]
 constructor
 ·rintro ⟨_,_,_,⟨rfl,rfl,rfl⟩,h⟩;exact h
 ·exact fun h=>⟨_,_,_,⟨rfl,rfl,rfl⟩,h⟩
@[simp] theorem stepFt_some {av:AV} {u:List (Nat×AO)} {S:List Nat}:StepFt T X ops N base r i s m fs dst Q S (some (av,u))↔RunFt T X ops N base r (i+1) (putS s dst av) (updL m u) ((S,u.map (·.1))::fs) Q:=by
 constructor
 ·rintro ⟨_,_,h,k⟩
  simp only [Option.some.injEq,Prod.mk.injEq] at h
  obtain ⟨rfl,rfl⟩:=h
  exact k
 ·exact fun k=>⟨_,_,rfl,k⟩
@[simp] theorem stepSt_cons {b:Nat} {S:List Nat}:StepSt T X ops N base r i s m fs dst op Q (b::S)↔StepFt T X ops N base r i s m fs dst Q (b::S) (astep T X op (aEv s) (restr (b::S) (getM m)) (base+16*i)):=Iff.rfl
@[simp] theorem stepSt_nil:StepSt T X ops N base r i s m fs dst op Q []↔StepFt T X ops N base r i s m fs dst Q [] (astep T X op (aEv s) (restr [] (getM m)) (base+16*i)):=Iff.rfl
@[simp] theorem runFt_plain:RunFt T X ops N base (⟨dst,op,ty,pos,aft,.none⟩::r) i s m fs Q↔dstOK N ⟨dst,op,ty,pos,aft,.none⟩=true∧StepSt T X ops N base r i s m fs dst op Q (opFoot op (aEv s) (getM m)):=by
 simp only [RunFt,arunFt,StepSt,StepFt]
 by_cases hd:dstOK N ⟨dst,op,ty,pos,aft,.none⟩=true
 ·simp only [hd,if_true,true_and]
  cases astep T X op (aEv s) (restr (opFoot op (aEv s) (getM m)) (getM m)) (base+16*i) with
  | none=>simp
  | some p =>
   obtain ⟨av,u⟩:=p
   simp only [Option.some.injEq,Prod.mk.injEq]
   constructor
   ·rintro ⟨s',m',fs',h,k⟩;exact ⟨av,u,⟨rfl,rfl⟩,s',m',fs',h,k⟩
   ·rintro ⟨av',u',⟨rfl,rfl⟩,s',m',fs',h,k⟩;exact ⟨s',m',fs',h,k⟩
 ·simp only [hd]
  simp
theorem aw_runFt {c:Cx} {st:St} {Q:Exit→St→Prop} {id:Nat} {ops:Array Oper} (hc:c.OK)
  (h:RunFt (Types c.P) c.X ops c.N st.nx ops.toList 0 st.s st.m [] fun s m=>Q .normal ⟨s,m,st.nx+16*ops.size⟩):AW c (.region id ops true) st Q:=fun a w hs=>by
 obtain ⟨s,m,fs,h1,h2,h3⟩:=h
 exact region_drawnF hc.x hc.mixed hs h1 h2 fun a' w' hs'=>⟨_,h3,hs'⟩
end
@[simp] theorem restr_at {S:List Nat} {M:Nat→AO} {b:Nat}:restr S M b=if b∈S then M b else .dead:=rfl
attribute [simp] opFoot AV.nms nmsL AO.nms gat
end Go.AM
namespace Go.AM
open Go
structure Hold (p:Prop):Prop where
 out:p
theorem jj {A B:Prop} (a:A) (b:B):A∧B:=⟨a,b⟩
theorem dM64 {G G':Prop} (h:G') (k:Hold G'→G:=by
 intro hEnd
 repeat' (first|(apply aw_seq_k;intro K hK)|(refine aw_run hc (by first|exact aw_nod|(intro _;rw [ordB_w hw];kernel_rfl)|(intro _;rw [ordB_w0 hw0];kernel_rfl)|(intro _;kernel_rfl)) ?_;simp [List.zipIdx,enterS,idx,zS,-getM,getM_hit,getM_miss,getM_none];(repeat (simp (disch:=first|omega|assumption|fail) only [if_pos,if_neg,wrap64];try simp [List.zipIdx,enterS,idx,zS,-getM,getM_hit,getM_miss,getM_none]));try (repeat' (refine guardQ_split (fun h=>?_) (fun h=>?_)<;>simp at h<;>(simp [List.zipIdx,enterS,idx,zS,-getM,getM_hit,getM_miss,getM_none];(repeat (simp (disch:=first|omega|assumption|fail) only [if_pos,if_neg,wrap64];try simp [List.zipIdx,enterS,idx,zS,-getM,getM_hit,getM_miss,getM_none]))))))|(refine aw_cond (b:=_) (by exact rfl) (fun h=>?_) (fun h=>?_)<;>(try simp at h))|(refine aw_block ?_)|(refine aw_skip ?_;simp only [thenQ,blockQ,if_true])|(refine aw_exit ?_;simp [thenQ,blockQ])|(refine aw_ret ?_;simp only [thenQ,blockQ])|(refine aw_round ?_)|(refine hK _ ?_;clear hK)|(clear hK;refine hK _ ?_;clear hK)|(clear hK;clear hK;refine hK _ ?_;clear hK)|(clear hK;clear hK;clear hK;refine hK _ ?_;clear hK))
 repeat (first|(rename St→Prop=>K;clear K)|(rename St→Prop=>K;revert K))
 exact hEnd.out):G:=k ⟨h⟩
theorem dM64o {G G':Prop} (h:G') (k:Hold G'→G:=by
 intro hEnd
 repeat' (first|(apply aw_seq_k;intro K hK)|(refine aw_run hc (by first|exact aw_nod|(intro _;rw [ordB_w hw];kernel_rfl)|(intro _;rw [ordB_w0 hw0];kernel_rfl)|(intro _;kernel_rfl)) ?_;simp [List.zipIdx,enterS,idx,-getM,getM_hit,getM_miss,getM_none];(repeat (simp (disch:=first|omega|assumption|fail) only [if_pos,if_neg,wrap64];try simp [List.zipIdx,enterS,idx,-getM,getM_hit,getM_miss,getM_none]));try (repeat' (refine guardQ_split (fun h=>?_) (fun h=>?_)<;>simp at h<;>(simp [List.zipIdx,enterS,idx,-getM,getM_hit,getM_miss,getM_none];(repeat (simp (disch:=first|omega|assumption|fail) only [if_pos,if_neg,wrap64];try simp [List.zipIdx,enterS,idx,-getM,getM_hit,getM_miss,getM_none]))))))|(refine aw_cond (b:=_) (by exact rfl) (fun h=>?_) (fun h=>?_)<;>(try simp at h))|(refine aw_block ?_)|(refine aw_skip ?_;simp only [thenQ,blockQ,if_true])|(refine aw_exit ?_;simp [thenQ,blockQ])|(refine aw_ret ?_;simp only [thenQ,blockQ])|(refine aw_round ?_)|(refine hK _ ?_;clear hK)|(clear hK;refine hK _ ?_;clear hK)|(clear hK;clear hK;refine hK _ ?_;clear hK)|(clear hK;clear hK;clear hK;refine hK _ ?_;clear hK))
 repeat (first|(rename St→Prop=>K;clear K)|(rename St→Prop=>K;revert K))
 exact hEnd.out):G:=k ⟨h⟩
theorem dM8 {G G':Prop} (h:G') (k:Hold G'→G:=by
 intro hEnd
 repeat' (first|(apply aw_seq_k;intro K hK)|(refine aw_run hc (by first|exact aw_nod|(intro _;rw [ordB_w hw];kernel_rfl)|(intro _;rw [ordB_w0 hw0];kernel_rfl)|(intro _;kernel_rfl)) ?_;simp [List.zipIdx,enterS,idx,zS,-getM,getM_hit,getM_miss,getM_none];(repeat (simp (disch:=first|omega|assumption|fail) only [if_pos,if_neg,wrap8];try simp [List.zipIdx,enterS,idx,zS,-getM,getM_hit,getM_miss,getM_none]));try (repeat' (refine guardQ_split (fun h=>?_) (fun h=>?_)<;>simp at h<;>(simp [List.zipIdx,enterS,idx,zS,-getM,getM_hit,getM_miss,getM_none];(repeat (simp (disch:=first|omega|assumption|fail) only [if_pos,if_neg,wrap8];try simp [List.zipIdx,enterS,idx,zS,-getM,getM_hit,getM_miss,getM_none]))))))|(refine aw_cond (b:=_) (by exact rfl) (fun h=>?_) (fun h=>?_)<;>(try simp at h))|(refine aw_block ?_)|(refine aw_skip ?_;simp only [thenQ,blockQ,if_true])|(refine aw_exit ?_;simp [thenQ,blockQ])|(refine aw_ret ?_;simp only [thenQ,blockQ])|(refine aw_round ?_)|(refine hK _ ?_;clear hK)|(clear hK;refine hK _ ?_;clear hK)|(clear hK;clear hK;refine hK _ ?_;clear hK)|(clear hK;clear hK;clear hK;refine hK _ ?_;clear hK))
 repeat (first|(rename St→Prop=>K;clear K)|(rename St→Prop=>K;revert K))
 exact hEnd.out):G:=k ⟨h⟩
theorem dM8o {G G':Prop} (h:G') (k:Hold G'→G:=by
 intro hEnd
 repeat' (first|(apply aw_seq_k;intro K hK)|(refine aw_run hc (by first|exact aw_nod|(intro _;rw [ordB_w hw];kernel_rfl)|(intro _;rw [ordB_w0 hw0];kernel_rfl)|(intro _;kernel_rfl)) ?_;simp [List.zipIdx,enterS,idx,-getM,getM_hit,getM_miss,getM_none];(repeat (simp (disch:=first|omega|assumption|fail) only [if_pos,if_neg,wrap8];try simp [List.zipIdx,enterS,idx,-getM,getM_hit,getM_miss,getM_none]));try (repeat' (refine guardQ_split (fun h=>?_) (fun h=>?_)<;>simp at h<;>(simp [List.zipIdx,enterS,idx,-getM,getM_hit,getM_miss,getM_none];(repeat (simp (disch:=first|omega|assumption|fail) only [if_pos,if_neg,wrap8];try simp [List.zipIdx,enterS,idx,-getM,getM_hit,getM_miss,getM_none]))))))|(refine aw_cond (b:=_) (by exact rfl) (fun h=>?_) (fun h=>?_)<;>(try simp at h))|(refine aw_block ?_)|(refine aw_skip ?_;simp only [thenQ,blockQ,if_true])|(refine aw_exit ?_;simp [thenQ,blockQ])|(refine aw_ret ?_;simp only [thenQ,blockQ])|(refine aw_round ?_)|(refine hK _ ?_;clear hK)|(clear hK;refine hK _ ?_;clear hK)|(clear hK;clear hK;refine hK _ ?_;clear hK)|(clear hK;clear hK;clear hK;refine hK _ ?_;clear hK))
 repeat (first|(rename St→Prop=>K;clear K)|(rename St→Prop=>K;revert K))
 exact hEnd.out):G:=k ⟨h⟩
theorem dF64 {G G':Prop} (h:G') (k:Hold G'→G:=by
 intro hEnd
 repeat' (first|(apply aw_seq_k;intro K hK)|(refine aw_run hc (by exact aw_nod) ?_;simp [List.zipIdx,enterS,idx,zS,-getM,getM_hit,getM_miss,getM_none];(repeat (simp (disch:=first|omega|assumption|fail) only [if_pos,if_neg,wrap64];try simp [List.zipIdx,enterS,idx,zS,-getM,getM_hit,getM_miss,getM_none]));try (repeat' (refine guardQ_split (fun h=>?_) (fun h=>?_)<;>simp at h<;>(simp [List.zipIdx,enterS,idx,zS,-getM,getM_hit,getM_miss,getM_none];(repeat (simp (disch:=first|omega|assumption|fail) only [if_pos,if_neg,wrap64];try simp [List.zipIdx,enterS,idx,zS,-getM,getM_hit,getM_miss,getM_none]))))))|(refine aw_runFt hc ?_;simp [List.zipIdx,enterS,idx,zS,-getM,getM_hit,getM_miss,getM_none];(repeat (simp (disch:=first|omega|assumption|fail) only [if_pos,if_neg,wrap64];try simp [List.zipIdx,enterS,idx,zS,-getM,getM_hit,getM_miss,getM_none]));refine ⟨by kernel_rfl,?_⟩)|(refine aw_run hc (by first|(intro _;rw [ordB_w hw];kernel_rfl)|(intro _;rw [ordB_w0 hw0];kernel_rfl)|(intro _;kernel_rfl)) ?_;simp [List.zipIdx,enterS,idx,zS,-getM,getM_hit,getM_miss,getM_none];(repeat (simp (disch:=first|omega|assumption|fail) only [if_pos,if_neg,wrap64];try simp [List.zipIdx,enterS,idx,zS,-getM,getM_hit,getM_miss,getM_none]));try (repeat' (refine guardQ_split (fun h=>?_) (fun h=>?_)<;>simp at h<;>(simp [List.zipIdx,enterS,idx,zS,-getM,getM_hit,getM_miss,getM_none];(repeat (simp (disch:=first|omega|assumption|fail) only [if_pos,if_neg,wrap64];try simp [List.zipIdx,enterS,idx,zS,-getM,getM_hit,getM_miss,getM_none]))))))|(refine aw_cond (b:=_) (by exact rfl) (fun h=>?_) (fun h=>?_)<;>(try simp at h))|(refine aw_block ?_)|(refine aw_skip ?_;simp only [thenQ,blockQ,if_true])|(refine aw_exit ?_;simp [thenQ,blockQ])|(refine aw_ret ?_;simp only [thenQ,blockQ])|(refine aw_round ?_)|(refine hK _ ?_;clear hK)|(clear hK;refine hK _ ?_;clear hK)|(clear hK;clear hK;refine hK _ ?_;clear hK)|(clear hK;clear hK;clear hK;refine hK _ ?_;clear hK))
 repeat (first|(rename St→Prop=>K;clear K)|(rename St→Prop=>K;revert K))
 exact hEnd.out):G:=k ⟨h⟩
theorem eM64 {G G':Prop} (h:G') (k:Hold G'→G:=by
 intro hEnd
 first
  | (refine aw_run hc (by first|exact aw_nod|(intro _;rw [ordB_w hw];kernel_rfl)|(intro _;rw [ordB_w0 hw0];kernel_rfl)|(intro _;kernel_rfl)) ?_;simp [List.zipIdx,enterS,idx,zS,-getM,getM_hit,getM_miss,getM_none];(repeat (simp (disch:=first|omega|assumption|fail) only [if_pos,if_neg,wrap64];try simp [List.zipIdx,enterS,idx,zS,-getM,getM_hit,getM_miss,getM_none]));try (repeat' (refine guardQ_split (fun h=>?_) (fun h=>?_)<;>simp at h<;>(simp [List.zipIdx,enterS,idx,zS,-getM,getM_hit,getM_miss,getM_none];(repeat (simp (disch:=first|omega|assumption|fail) only [if_pos,if_neg,wrap64];try simp [List.zipIdx,enterS,idx,zS,-getM,getM_hit,getM_miss,getM_none]))))))
 exact hEnd.out):G:=k ⟨h⟩
theorem eM64o {G G':Prop} (h:G') (k:Hold G'→G:=by
 intro hEnd
 first
  | (refine aw_run hc (by first|exact aw_nod|(intro _;rw [ordB_w hw];kernel_rfl)|(intro _;rw [ordB_w0 hw0];kernel_rfl)|(intro _;kernel_rfl)) ?_;simp [List.zipIdx,enterS,idx,-getM,getM_hit,getM_miss,getM_none];(repeat (simp (disch:=first|omega|assumption|fail) only [if_pos,if_neg,wrap64];try simp [List.zipIdx,enterS,idx,-getM,getM_hit,getM_miss,getM_none]));try (repeat' (refine guardQ_split (fun h=>?_) (fun h=>?_)<;>simp at h<;>(simp [List.zipIdx,enterS,idx,-getM,getM_hit,getM_miss,getM_none];(repeat (simp (disch:=first|omega|assumption|fail) only [if_pos,if_neg,wrap64];try simp [List.zipIdx,enterS,idx,-getM,getM_hit,getM_miss,getM_none]))))))
 exact hEnd.out):G:=k ⟨h⟩
theorem eF64 {G G':Prop} (h:G') (k:Hold G'→G:=by
 intro hEnd
 first
  | (refine aw_run hc (by exact aw_nod) ?_;simp [List.zipIdx,enterS,idx,zS,-getM,getM_hit,getM_miss,getM_none];(repeat (simp (disch:=first|omega|assumption|fail) only [if_pos,if_neg,wrap64];try simp [List.zipIdx,enterS,idx,zS,-getM,getM_hit,getM_miss,getM_none]));try (repeat' (refine guardQ_split (fun h=>?_) (fun h=>?_)<;>simp at h<;>(simp [List.zipIdx,enterS,idx,zS,-getM,getM_hit,getM_miss,getM_none];(repeat (simp (disch:=first|omega|assumption|fail) only [if_pos,if_neg,wrap64];try simp [List.zipIdx,enterS,idx,zS,-getM,getM_hit,getM_miss,getM_none]))))))
  | (refine aw_runFt hc ?_;simp [List.zipIdx,enterS,idx,zS,-getM,getM_hit,getM_miss,getM_none];(repeat (simp (disch:=first|omega|assumption|fail) only [if_pos,if_neg,wrap64];try simp [List.zipIdx,enterS,idx,zS,-getM,getM_hit,getM_miss,getM_none]));refine ⟨by kernel_rfl,?_⟩)
  | (refine aw_run hc (by first|(intro _;rw [ordB_w hw];kernel_rfl)|(intro _;rw [ordB_w0 hw0];kernel_rfl)|(intro _;kernel_rfl)) ?_;simp [List.zipIdx,enterS,idx,zS,-getM,getM_hit,getM_miss,getM_none];(repeat (simp (disch:=first|omega|assumption|fail) only [if_pos,if_neg,wrap64];try simp [List.zipIdx,enterS,idx,zS,-getM,getM_hit,getM_miss,getM_none]));try (repeat' (refine guardQ_split (fun h=>?_) (fun h=>?_)<;>simp at h<;>(simp [List.zipIdx,enterS,idx,zS,-getM,getM_hit,getM_miss,getM_none];(repeat (simp (disch:=first|omega|assumption|fail) only [if_pos,if_neg,wrap64];try simp [List.zipIdx,enterS,idx,zS,-getM,getM_hit,getM_miss,getM_none]))))))
 exact hEnd.out):G:=k ⟨h⟩
theorem eB {G G':Prop} (h:G') (k:Hold G'→G:=by
 intro hEnd
 first
  | (refine aw_block ?_)
  | (refine aw_skip ?_;simp only [thenQ,blockQ,if_true])
  | (refine aw_exit ?_;simp [thenQ,blockQ])
  | (refine aw_ret ?_;simp only [thenQ,blockQ])
  | (refine aw_round ?_)
 exact hEnd.out):G:=k ⟨h⟩
theorem eqLs:eqL [] []=some true∧(∀ k a xs k' b ys,eqL (.v (.int k a)::xs) (.v (.int k' b)::ys)=if k=k' then (eqL xs ys).map (decide (a=b)&&·) else none)∧∀ a xs b ys,eqL (.v (.bool a)::xs) (.v (.bool b)::ys)=(eqL xs ys).map ((a == b)&&·):=⟨rfl,fun _ _ _ _ _ _=>rfl,fun _ _ _ _=>rfl⟩
theorem sameKs:sameK [] []=true∧(∀ k z r k' x s,sameK (.int k z::r) (.v (.int k' x)::s)=(decide (k=k')&&sameK r s))∧∀ z r x s,sameK (.bool z::r) (.v (.bool x)::s)=sameK r s:=⟨rfl,fun _ _ _ _ _ _=>rfl,fun _ _ _ _=>rfl⟩
theorem dt {G:Prop} (h:G:=by first|omega|(refine decide_eq_decide.2 ?_;omega)|(refine decide_eq_false ?_;omega)|(refine decide_eq_true ?_;omega)):G:=h
theorem dle {G:Prop} (h:G:=by exact le_of2 (by simp) (by simp [AVle,AV.under,AV.underL]<;>omega) (by simp [AOle,AO.under,AV.underL,AV.under]<;>omega)):G:=h
end Go.AM
namespace Go.AM
open Go Go.Proofs
@[simp] theorem ty3:Types Try.prog 3=some ⟨.int .i64,1,8,[.int .i64 0]⟩:=by kernel_rfl
@[simp] theorem ty4:Types Try.prog 4=some ⟨.bool,1,1,[.bool false]⟩:=by kernel_rfl
@[simp] theorem tyU:Types Try.prog 51=some ⟨.int .u64,1,8,[.int .u64 0]⟩:=by kernel_rfl
@[simp] theorem tyE:Types Try.prog 65=some ⟨.struct [(0,3,1),(1,3,1),(2,4,1),(3,4,1),(4,4,1),(5,4,1)],6,24,[.int .i64 0,.int .i64 0,.bool false,.bool false,.bool false,.bool false]⟩:=by kernel_rfl
@[simp] theorem tyTab:Types Try.prog 27=some ⟨.struct [(0,3,1),(1,24,1),(2,25,1)],3,56,[.int .i64 0,.slice none 0 0,.slice none 0 0]⟩:=by kernel_rfl
@[simp] theorem tyNs:Types Try.prog 24=some ⟨.slice 54,1,24,[.slice none 0 0]⟩:=by kernel_rfl
@[simp] theorem tyDs:Types Try.prog 25=some ⟨.slice 102,1,24,[.slice none 0 0]⟩:=by kernel_rfl
@[simp] theorem tyN:Types Try.prog 54=some ⟨.struct [(0,3,1),(1,52,8)],9,72,.int .i64 0::List.replicate 8 (.int .u64 0)⟩:=by kernel_rfl
@[simp] theorem tyW8:Types Try.prog 52=some ⟨.array 8 51,8,64,List.replicate 8 (.int .u64 0)⟩:=by kernel_rfl
@[simp] theorem tyD:Types Try.prog 102=some ⟨.struct [(0,3,1),(1,3,1)],2,16,[.int .i64 0,.int .i64 0]⟩:=by kernel_rfl
@[simp] theorem tyIs:Types Try.prog 36=some ⟨.slice 3,1,24,[.slice none 0 0]⟩:=by kernel_rfl
@[simp] theorem tyBs:Types Try.prog 118=some ⟨.slice 4,1,24,[.slice none 0 0]⟩:=by kernel_rfl
@[simp] theorem tySt:Types Try.prog 124=some ⟨.struct [(0,3,1),(1,3,1),(2,51,1)],3,24,[.int .i64 0,.int .i64 0,.int .u64 0]⟩:=by kernel_rfl
theorem mixed:Try.prog.follows .mixedOrders=true:=by kernel_rfl
theorem und3:Try.prog.underlying 3=some (.int .i64):=by kernel_rfl
end Go.AM
namespace Go.AM
open Go Go.Proofs
set_option maxRecDepth 20000
noncomputable def FitV (t:TypeId):Value→Prop
 | .int q _=>Try.prog.underlying t=some (.int q)
 | .bool _=>Try.prog.underlying t=some .bool
 | _=>False
noncomputable def fitB (t:TypeId):Value→Bool
 | .int q _=>match Try.prog.underlying t with
  | some (.int q')=>decide (q'=q)
  | _=>false
 | .bool _=>match Try.prog.underlying t with
  | some .bool=>true
  | _=>false
 | _=>false
theorem fitB_ok {t:TypeId} {v:Value} (h:fitB t v=true):FitV t v:=by
 cases v<;>simp only [fitB,Bool.false_eq_true] at h
 all_goals (split at h<;>simp only [Bool.false_eq_true,decide_eq_true_eq] at h)
 ·assumption
 ·subst h;assumption
noncomputable def plB:List Field→Nat→List Value→Bool
 | [],_,[]=>true
 | f :: fs, k, z :: Z => (f.name != "_" && decide (f.offset = k) && Try.prog.plainKey f.type && fitB f.type z) && plB fs (k + 1) Z
 | _,_,_=>false
noncomputable def PlF:List Field→Nat→List Value→Prop
 | [],_,[]=>True
 | f :: fs, k, z :: Z => (f.name ≠ "_" ∧ f.offset = k ∧ Try.prog.plainKey f.type = true ∧ FitV f.type z) ∧ PlF fs (k + 1) Z
 | _,_,_=>False
theorem plB_ok:∀ {fs:List Field} {k:Nat} {Z:List Value},plB fs k Z=true→PlF fs k Z
 | [],_,[],_=>trivial
 | f::fs,k,z::Z,h=>by
  simp only [plB,Bool.and_eq_true,bne_iff_ne,decide_eq_true_eq] at h
  obtain ⟨⟨⟨⟨h1,h2⟩,h3⟩,h4⟩,h5⟩:=h
  exact ⟨⟨h1,h2,h3,fitB_ok h4⟩,plB_ok h5⟩
 | [],_,_::_,h=>by simp [plB] at h
 | _::_,_,[],h=>by simp [plB] at h
theorem eqG (w:World):∀ {Z:List Value} {fs:List Field} {k:Nat},PlF fs k Z→∀ {px py xs ys:List Value} {b:Bool},px.length=k→py.length=k→sameKV Z xs=true→eqV xs ys=some b →
  (Op.eqFields 9999 (px++xs).toArray (py++ys).toArray fs).run Try.prog w=.ok b w
 | [],[],k,_,px,py,xs,ys,b,_,_,hs,he=>by
  cases xs with
  | nil =>
   cases ys with
   | nil=>simp [eqV] at he;subst he;rfl
   | cons y ys=>simp [eqV] at he
  | cons x xs=>simp [sameKV] at hs
 | z::Z,f::fs,k,h,px,py,xs,ys,b,hp,hq,hs,he=>by
  simp only [PlF] at h
  obtain ⟨⟨n1,o1,p1,t1⟩,h⟩:=h
  cases xs with
  | nil=>cases z<;>simp [sameKV] at hs
  | cons x xs =>
   cases ys with
   | nil=>cases x<;>simp [eqV] at he
   | cons y ys =>
    have hx:(px++x::xs).toArray[k]?=some x:=by simp [← hp]
    have hy:(py++y::ys).toArray[k]?=some y:=by simp [← hq]
    have ex:px++x::xs=(px++[x])++xs:=by simp
    have ey:py++y::ys=(py++[y])++ys:=by simp
    simp only [Op.eqFields]
    rw [if_pos n1,o1]
    simp only [Sem.run_bind]
    rw [run_part_plain w p1 hx]
    simp only [Result.andThen_ok]
    rw [run_part_plain w p1 hy]
    simp only [Result.andThen_ok]
    cases z<;>simp only [FitV] at t1<;>cases x<;>simp only [sameKV,Bool.and_eq_true,decide_eq_true_eq,Bool.false_eq_true] at hs<;>cases y<;>simp only [eqV,reduceCtorEq] at he
    ·rename_i b1 b2 b3
     cases hr:eqV xs ys with
     | none=>simp [hr] at he
     | some r =>
      simp only [hr,Option.map_some,Option.some.injEq] at he
      have ih:=eqG w h (px:=px++[.bool b2]) (py:=py++[.bool b3]) (by simp [hp]) (by simp [hq]) hs hr
      rw [← ex,← ey] at ih
      rw [run_equalIn_bool' w _ f.type _ _ t1]
      simp only [Result.andThen_ok]
      by_cases e:(b2 == b3)=true
      ·simp only [e,Bool.not_true,Bool.false_eq_true,if_false,ih,Bool.true_and] at he ⊢
       rw [he]
      ·simp only [Bool.not_eq_true] at e
       simp only [e,Bool.false_and] at he ⊢
       simp [← he]
    ·rename_i q0 n0 q1 n1' q2 n2
     split at he
     case isFalse=>simp at he
     rename_i hk
     subst hk
     obtain ⟨rfl,hs⟩:=hs
     cases hr:eqV xs ys with
     | none=>simp [hr] at he
     | some r =>
      simp only [hr,Option.map_some,Option.some.injEq] at he
      have ih:=eqG w h (px:=px++[.int q0 n1']) (py:=py++[.int q0 n2]) (by simp [hp]) (by simp [hq]) hs hr
      rw [← ex,← ey] at ih
      rw [run_equalIn_int w _ f.type q0 q0 _ _ t1]
      simp only [Result.andThen_ok]
      by_cases e:n1'=n2
      ·subst e
       simp only [beq_self_eq_true,Bool.not_true,Bool.false_eq_true,if_false,ih,decide_true,Bool.true_and] at he ⊢
       rw [he]
      ·have hb:(n1' == n2)=false:=by simpa using e
       simp only [hb,Bool.not_false,if_true,Sem.run_pure]
       simp only [e,decide_false,Bool.false_and] at he
       rw [← he]
 | [],_::_,_,h,_,_,_,_,_,_,_,_,_=>by simp [PlF] at h
 | _::_,[],_,h,_,_,_,_,_,_,_,_,_=>by simp [PlF] at h
theorem ckP {w:World} {t:TypeId} {v:Value} {b:Bool} {d:Nat} (h:Try.prog.plainKey t=true) (hv:FitV t v):(Instr.checkKey b (d+1) t v).run Try.prog w=.ok () w:=by
 cases v<;>simp only [FitV] at hv<;>(rw [Instr.checkKey];simp [run_underlying hv])
theorem ckG (w:World) (em:Bool) (d:Nat):∀ {Z:List Value} {fs:List Field} {k:Nat},PlF fs k Z→∀ {px xs:List Value},px.length=k→sameKV Z xs=true →
  (forIn fs PUnit.unit fun f (_ : PUnit) => (if f.name ≠ "_" then do
    let a ← part f.type (px++xs).toArray f.offset
    Instr.checkKey em (d+1) f.type a
    pure (ForInStep.yield PUnit.unit)
   else pure (ForInStep.yield PUnit.unit):Sem (ForInStep PUnit))).run Try.prog w=.ok PUnit.unit w
 | [],[],k,_,px,xs,_,_=>rfl
 | z::Z,f::fs,k,h,px,xs,hp,hs=>by
  simp only [PlF] at h
  obtain ⟨⟨n1,o1,p1,t1⟩,h⟩:=h
  cases xs with
  | nil=>cases z<;>simp [sameKV] at hs
  | cons x xs =>
   have hx:(px++x::xs).toArray[k]?=some x:=by simp [← hp]
   have ex:px++x::xs=(px++[x])++xs:=by simp
   have key:sameKV Z xs=true∧FitV f.type x:=by
    clear hx ex
    cases z<;>simp only [FitV] at t1<;>cases x<;>simp only [sameKV,Bool.and_eq_true,decide_eq_true_eq,Bool.false_eq_true] at hs
    ·exact ⟨hs,t1⟩
    ·obtain ⟨rfl,hs⟩:=hs
     exact ⟨hs,t1⟩
   have ih:=ckG w em d h (px:=px++[x]) (xs:=xs) (by simp [hp]) key.1
   rw [← ex] at ih
   simp only [List.forIn_cons,Sem.run_bind]
   rw [if_pos n1,o1]
   simp only [Sem.run_bind]
   rw [run_part_plain w p1 hx]
   simp only [Result.andThen_ok,ckP p1 key.2,Sem.run_pure]
   exact ih
 | [],_::_,_,h,_,_,_,_=>by simp [PlF] at h
 | _::_,[],_,h,_,_,_,_=>by simp [PlF] at h
theorem eqok_plain {t:TypeId} (hu:Try.prog.underlying t=some (.struct (Try.prog.fieldsOf t))) (hf:∀ d,Types Try.prog t=some d→PlF (Try.prog.fieldsOf t).toList 0 d.zero) (hp:Try.prog.stoodInHeld t=false) (hg:Try.prog.eqGuardType Try.prog.depth t=false):EqOK Try.prog t:=by
 intro d hd
 refine ⟨fun w xs b hk=>?_,fun w xs ys b hk he=>⟨?_,hg⟩⟩
 ·rw [show (10000:Nat)=9998+1+1 from rfl,Instr.checkKey]
  simp only [Sem.run_bind,run_underlying hu,Result.andThen_ok]
  rw [← Array.forIn_toList]
  have:=ckG w b 9998 (hf d hd) (px:=[]) rfl hk
  rw [List.nil_append] at this
  rw [this]
  rfl
 ·unfold Op.equal
  rw [show Op.maxDepth=9999+1 from rfl,run_equalIn_agg w _ t _ _ hu hp]
  have:=eqG w (hf d hd) (px:=[]) (py:=[]) rfl rfl hk he
  simpa using this
theorem eqE:EqOK Try.prog 65:=eqok_plain (by kernel_rfl) (fun d hd=>by
 rw [tyE,Option.some.injEq] at hd
 subst hd
 exact plB_ok (by kernel_rfl)) (by kernel_rfl) (by kernel_rfl)
theorem eqD:EqOK Try.prog 102:=eqok_plain (by kernel_rfl) (fun d hd=>by
 rw [tyD,Option.some.injEq] at hd
 subst hd
 exact plB_ok (by kernel_rfl)) (by kernel_rfl) (by kernel_rfl)
theorem eqPE:EqOK Try.prog 63:=eqok_plain (by kernel_rfl) (fun d hd=>by
 have h:Types Try.prog 63=some ⟨.struct [(0,3,1),(1,51,1)],2,16,[.int .i64 0,.int .u64 0]⟩:=by kernel_rfl
 rw [h,Option.some.injEq] at hd
 subst hd
 exact plB_ok (by kernel_rfl)) (by kernel_rfl) (by kernel_rfl)
end Go.AM
set_option maxHeartbeats 1000000
namespace Go.AM
open Go Go.Proofs
abbrev En:=Int×Int×Bool×Bool×Bool×Bool
def EnV (e:En):AV:=.agg [I e.1,I e.2.1,B e.2.2.1,B e.2.2.2.1,B e.2.2.2.2.1,B e.2.2.2.2.2]
def U (n:Int):AV:=.v (.int .u64 n)
theorem EnV_inj {a b:En}:EnV a=EnV b↔a=b:=by
 obtain ⟨a1,a2,a3,a4,a5,a6⟩:=a
 obtain ⟨b1,b2,b3,b4,b5,b6⟩:=b
 simp [EnV,I,B]
def noFl (e:En):Bool:=!e.2.2.1&&(!e.2.2.2.1&&(!e.2.2.2.2.1&&!e.2.2.2.2.2))
def frmE (e:En):Bool :=
 if e.1=1 then true
 else if e.1=3 then !e.2.2.2.1&&(!e.2.2.2.2.1&&!e.2.2.2.2.2)
 else if e.1=0 then decide (e.2.1=0)&&noFl e
 else if e.1=2∨e.1=4 then noFl e else false
def wT (f:FuncId):Bool:=Nat.beq f 69||Nat.beq f 84||Nat.beq f 999999||Nat.beq f 999999||Nat.beq f 106||Nat.beq f 999999||Nat.beq f 999999||Nat.beq f 999999||Nat.beq f 999999||Nat.beq f 999999||Nat.beq f 45||Nat.beq f 999999||Nat.beq f 999999||Nat.beq f 999999||Nat.beq f 999999||Nat.beq f 999999||Nat.beq f 999999||Nat.beq f 999999||Nat.beq f 999999||Nat.beq f 999999||Nat.beq f 999999||Nat.beq f 999999||Nat.beq f 999999||Nat.beq f 999999||Nat.beq f 999999||Nat.beq f 102||Nat.beq f 141||Nat.beq f 133||Nat.beq f 999999||Nat.beq f 999999||Nat.beq f 999999||Nat.beq f 999999||Nat.beq f 999999||Nat.beq f 999999||Nat.beq f 999999||Nat.beq f 999999||Nat.beq f 999999||Nat.beq f 999999||Nat.beq f 88||Nat.beq f 999999||Nat.beq f 92||Nat.beq f 91||Nat.beq f 40||Nat.beq f 41||Nat.beq f 74||Nat.beq f 999999
def fb (b:Bool) (n:Int):Int:=if b then n else 0
theorem s123 (X:AX) (hX:XOK Try.prog X):PSound Try.prog 123 (specF (ι:=Bool×Int) (fun x=>[B x.1,U x.2]) fun x=>retOf [U (fb x.1 x.2)]):=by
 refine psound_spec hX mixed Try.func123 rfl fun ⟨b,n⟩ w0 G=>⟨by show 2≤7;decide,rfl,?_⟩
 show AW ⟨Try.prog,X,7,w0,.pure G⟩ _ _ _
 have hc:Cx.OK ⟨Try.prog,X,7,w0,.pure G⟩:=⟨hX,mixed⟩
 unfold U
 cases b
 ·refine dM8o ?_
  repeat (intro K hK)
  refine ⟨by simp,?_⟩
  simp [leaves_iff,Try.f123,fb]
  try exact dt
 ·refine dM8o ?_
  repeat (intro K hK)
  refine ⟨by simp,?_⟩
  simp [leaves_iff,Try.f123,fb]
  try exact dt
theorem s140 (X:AX) (hX:XOK Try.prog X):PSound Try.prog 140 (specF (ι:=Bool×Int) (fun x=>[B x.1,U x.2]) fun x=>retOf [U (fb x.1 x.2)]):=by
 refine psound_spec hX mixed Try.func140 rfl fun ⟨b,n⟩ w0 G=>⟨by show 2≤7;decide,rfl,?_⟩
 show AW ⟨Try.prog,X,7,w0,.pure G⟩ _ _ _
 have hc:Cx.OK ⟨Try.prog,X,7,w0,.pure G⟩:=⟨hX,mixed⟩
 unfold U
 cases b
 ·refine dM8o ?_
  repeat (intro K hK)
  refine ⟨by simp,?_⟩
  simp [leaves_iff,Try.f140,fb]
  try exact dt
 ·refine dM8o ?_
  repeat (intro K hK)
  refine ⟨by simp,?_⟩
  simp [leaves_iff,Try.f140,fb]
  try exact dt
theorem s122 (X:AX) (hX:XOK Try.prog X) (hw:X.W wT) (he:X.eqs 65=true):PSound Try.prog 122 (specF (ι:={e:En // 0≤e.1∧e.1≤4}) (fun x=>[EnV x.1]) fun x=>retOf [B (frmE x.1)]):=by
 refine psound_spec hX mixed Try.func122 rfl fun ⟨⟨k,f,d,a,x,h⟩,hk1,hk2⟩ w0 G=>⟨by show 1≤32;decide,rfl,?_⟩
 show AW ⟨Try.prog,X,32,w0,.pure G⟩ _ _ _
 have hc:Cx.OK ⟨Try.prog,X,32,w0,.pure G⟩:=⟨hX,mixed⟩
 simp only at hk1 hk2
 unfold EnV
 simp only
 have hk:k=0∨k=1∨k=2∨k=3∨k=4:=by omega
 rcases hk with rfl|rfl|rfl|rfl|rfl
 ·have zS:=jj he<|jj eqLs<|sameKs
  refine dM8 ?_
  repeat (intro K hK)
  clear zS
  refine ⟨by simp,?_⟩
  simp [leaves_iff,Try.f122,frmE,noFl]
  try exact dt
 ·have zS:=jj he<|jj eqLs<|sameKs
  refine dM8 ?_
  repeat (intro K hK)
  clear zS
  refine ⟨by simp,?_⟩
  simp [leaves_iff,Try.f122,frmE,noFl]
  try exact dt
 ·have zS:=jj he<|jj eqLs<|sameKs
  refine dM8 ?_
  repeat (intro K hK)
  clear zS
  refine ⟨by simp,?_⟩
  simp [leaves_iff,Try.f122,frmE,noFl]
  try exact dt
 ·have zS:=jj he<|jj eqLs<|sameKs
  refine dM8 ?_
  repeat (intro K hK)
  clear zS
  refine ⟨by simp,?_⟩
  simp [leaves_iff,Try.f122,frmE,noFl]
  try exact dt
 ·have zS:=jj he<|jj eqLs<|sameKs
  refine dM8 ?_
  repeat (intro K hK)
  clear zS
  refine ⟨by simp,?_⟩
  simp [leaves_iff,Try.f122,frmE,noFl]
  try exact dt
theorem s139 (X:AX) (hX:XOK Try.prog X) (hw:X.W wT) (he:X.eqs 65=true):PSound Try.prog 139 (specF (ι:={e:En // 0≤e.1∧e.1≤4}) (fun x=>[EnV x.1]) fun x=>retOf [B (frmE x.1)]):=by
 refine psound_spec hX mixed Try.func139 rfl fun ⟨⟨k,f,d,a,x,h⟩,hk1,hk2⟩ w0 G=>⟨by show 1≤45;decide,rfl,?_⟩
 show AW ⟨Try.prog,X,45,w0,.pure G⟩ _ _ _
 have hc:Cx.OK ⟨Try.prog,X,45,w0,.pure G⟩:=⟨hX,mixed⟩
 simp only at hk1 hk2
 unfold EnV
 simp only
 have hk:k=0∨k=1∨k=2∨k=3∨k=4:=by omega
 rcases hk with rfl|rfl|rfl|rfl|rfl
 ·have zS:=jj he<|jj eqLs<|sameKs
  refine dM8 ?_
  repeat (intro K hK)
  clear zS
  refine ⟨by simp,?_⟩
  simp [leaves_iff,Try.f139,frmE,noFl]
  try exact dt
 ·repeat' (first|(apply aw_seq_k;intro K hK)|(refine aw_run hc (by first|exact aw_nod|(intro _;rw [ordB_w hw];kernel_rfl)|(intro _;rw [ordB_w0 hw0];kernel_rfl)|(intro _;kernel_rfl)) ?_;simp [List.zipIdx,he,eqL,sameK,-getM,getM_hit,getM_miss,getM_none];(repeat (simp (disch:=first|omega|assumption|fail) only [if_pos,if_neg,wrap8];try simp [List.zipIdx,he,eqL,sameK,-getM,getM_hit,getM_miss,getM_none]));try (repeat' (refine guardQ_split (fun h=>?_) (fun h=>?_)<;>simp at h<;>(simp [List.zipIdx,he,eqL,sameK,-getM,getM_hit,getM_miss,getM_none];(repeat (simp (disch:=first|omega|assumption|fail) only [if_pos,if_neg,wrap8];try simp [List.zipIdx,he,eqL,sameK,-getM,getM_hit,getM_miss,getM_none]))))))|(refine aw_cond (b:=_) (by exact rfl) (fun h=>?_) (fun h=>?_)<;>(try simp at h))|(refine aw_block ?_)|(refine aw_skip ?_;simp only [thenQ,blockQ,if_true])|(refine aw_exit ?_;simp [thenQ,blockQ])|(refine aw_ret ?_;simp only [thenQ,blockQ])|(refine aw_round ?_)|(refine hK _ ?_;clear hK)|(clear hK;refine hK _ ?_;clear hK)|(clear hK;clear hK;refine hK _ ?_;clear hK)|(clear hK;clear hK;clear hK;refine hK _ ?_;clear hK))
  refine ⟨by simp,?_⟩
  simp [leaves_iff,Try.f139,frmE,noFl]
  try exact dt
 ·repeat' (first|(apply aw_seq_k;intro K hK)|(refine aw_run hc (by first|exact aw_nod|(intro _;rw [ordB_w hw];kernel_rfl)|(intro _;rw [ordB_w0 hw0];kernel_rfl)|(intro _;kernel_rfl)) ?_;simp [List.zipIdx,he,eqL,sameK,-getM,getM_hit,getM_miss,getM_none];(repeat (simp (disch:=first|omega|assumption|fail) only [if_pos,if_neg,wrap8];try simp [List.zipIdx,he,eqL,sameK,-getM,getM_hit,getM_miss,getM_none]));try (repeat' (refine guardQ_split (fun h=>?_) (fun h=>?_)<;>simp at h<;>(simp [List.zipIdx,he,eqL,sameK,-getM,getM_hit,getM_miss,getM_none];(repeat (simp (disch:=first|omega|assumption|fail) only [if_pos,if_neg,wrap8];try simp [List.zipIdx,he,eqL,sameK,-getM,getM_hit,getM_miss,getM_none]))))))|(refine aw_cond (b:=_) (by exact rfl) (fun h=>?_) (fun h=>?_)<;>(try simp at h))|(refine aw_block ?_)|(refine aw_skip ?_;simp only [thenQ,blockQ,if_true])|(refine aw_exit ?_;simp [thenQ,blockQ])|(refine aw_ret ?_;simp only [thenQ,blockQ])|(refine aw_round ?_)|(refine hK _ ?_;clear hK)|(clear hK;refine hK _ ?_;clear hK)|(clear hK;clear hK;refine hK _ ?_;clear hK)|(clear hK;clear hK;clear hK;refine hK _ ?_;clear hK))
  all_goals (refine ⟨by simp,?_⟩;simp_all [leaves_iff,frmE,noFl])
 ·repeat' (first|(apply aw_seq_k;intro K hK)|(refine aw_run hc (by first|exact aw_nod|(intro _;rw [ordB_w hw];kernel_rfl)|(intro _;rw [ordB_w0 hw0];kernel_rfl)|(intro _;kernel_rfl)) ?_;simp [List.zipIdx,he,eqL,sameK,-getM,getM_hit,getM_miss,getM_none];(repeat (simp (disch:=first|omega|assumption|fail) only [if_pos,if_neg,wrap8];try simp [List.zipIdx,he,eqL,sameK,-getM,getM_hit,getM_miss,getM_none]));try (repeat' (refine guardQ_split (fun h=>?_) (fun h=>?_)<;>simp at h<;>(simp [List.zipIdx,he,eqL,sameK,-getM,getM_hit,getM_miss,getM_none];(repeat (simp (disch:=first|omega|assumption|fail) only [if_pos,if_neg,wrap8];try simp [List.zipIdx,he,eqL,sameK,-getM,getM_hit,getM_miss,getM_none]))))))|(refine aw_cond (b:=_) (by exact rfl) (fun h=>?_) (fun h=>?_)<;>(try simp at h))|(refine aw_block ?_)|(refine aw_skip ?_;simp only [thenQ,blockQ,if_true])|(refine aw_exit ?_;simp [thenQ,blockQ])|(refine aw_ret ?_;simp only [thenQ,blockQ])|(refine aw_round ?_)|(refine hK _ ?_;clear hK)|(clear hK;refine hK _ ?_;clear hK)|(clear hK;clear hK;refine hK _ ?_;clear hK)|(clear hK;clear hK;clear hK;refine hK _ ?_;clear hK))
  all_goals (refine ⟨by simp,?_⟩;simp_all [leaves_iff,frmE,noFl])
 ·repeat' (first|(apply aw_seq_k;intro K hK)|(refine aw_run hc (by first|exact aw_nod|(intro _;rw [ordB_w hw];kernel_rfl)|(intro _;rw [ordB_w0 hw0];kernel_rfl)|(intro _;kernel_rfl)) ?_;simp [List.zipIdx,he,eqL,sameK,-getM,getM_hit,getM_miss,getM_none];(repeat (simp (disch:=first|omega|assumption|fail) only [if_pos,if_neg,wrap8];try simp [List.zipIdx,he,eqL,sameK,-getM,getM_hit,getM_miss,getM_none]));try (repeat' (refine guardQ_split (fun h=>?_) (fun h=>?_)<;>simp at h<;>(simp [List.zipIdx,he,eqL,sameK,-getM,getM_hit,getM_miss,getM_none];(repeat (simp (disch:=first|omega|assumption|fail) only [if_pos,if_neg,wrap8];try simp [List.zipIdx,he,eqL,sameK,-getM,getM_hit,getM_miss,getM_none]))))))|(refine aw_cond (b:=_) (by exact rfl) (fun h=>?_) (fun h=>?_)<;>(try simp at h))|(refine aw_block ?_)|(refine aw_skip ?_;simp only [thenQ,blockQ,if_true])|(refine aw_exit ?_;simp [thenQ,blockQ])|(refine aw_ret ?_;simp only [thenQ,blockQ])|(refine aw_round ?_)|(refine hK _ ?_;clear hK)|(clear hK;refine hK _ ?_;clear hK)|(clear hK;clear hK;refine hK _ ?_;clear hK)|(clear hK;clear hK;clear hK;refine hK _ ?_;clear hK))
  all_goals (refine ⟨by simp,?_⟩;simp_all [leaves_iff,frmE,noFl])
end Go.AM
namespace Go.AM
open Go
theorem wrapU {n:Nat} (h:n<2^64):IntKind.u64.wrap (n:Int)=n:=by
 have:(2:Nat)^64=18446744073709551616:=by decide
 simp [IntKind.wrap,IntKind.signed,IntKind.bits]
 omega
theorem toNat_u {n:Nat} (h:n<2^64):(BitVec.ofInt 64 (n:Int)).toNat=n:=by
 rw [BitVec.toNat_ofInt]
 omega
theorem bitI_or {x y j:Nat} (hx:x<2^j) (h:x+y*2^j<2^64):bitI .or .u64 (x:Int) ((y*2^j:Nat):Int)=((x+y*2^j:Nat):Int):=by
 unfold bitI
 have e:(BitVec.ofInt 64 (x:Int) ||| BitVec.ofInt 64 ((y*2^j:Nat):Int)).toNat=x+y*2^j:=by
  rw [BitVec.toNat_or,toNat_u (by omega),toNat_u (by omega)]
  have:=Nat.shiftLeft_add_eq_or_of_lt hx y
  rw [Nat.shiftLeft_eq] at this
  rw [Nat.or_comm,← this,Nat.add_comm]
 show IntKind.u64.wrap (((BitVec.ofInt 64 (x:Int) ||| BitVec.ofInt 64 ((y*2^j:Nat):Int)).toNat:Nat):Int)=_
 rw [e]
 exact wrapU h
theorem bitI_and {x y:Nat} (hx:x<2^64) (hy:y<2^64):bitI .and .u64 (x:Int) (y:Int)=((x &&& y:Nat):Int):=by
 unfold bitI
 show IntKind.u64.wrap (((BitVec.ofInt 64 (x:Int) &&& BitVec.ofInt 64 (y:Int)).toNat:Nat):Int)=_
 rw [BitVec.toNat_and,toNat_u hx,toNat_u hy]
 exact wrapU (Nat.lt_of_le_of_lt Nat.and_le_left hx)
theorem and_mask (x j:Nat):x &&& (2^j - 1)=x%2^j:=Nat.and_two_pow_sub_one_eq_mod x j
theorem and_bit (x j:Nat):x &&& 2^j=if x.testBit j then 2^j else 0:=by
 refine Nat.eq_of_testBit_eq fun i=>?_
 rw [Nat.testBit_and,Nat.testBit_two_pow]
 by_cases h:j=i
 ·subst h
  cases hx:x.testBit j<;>simp [Nat.testBit_two_pow]
 ·have:¬ i=j:=fun e=>h e.symm
  cases hx:x.testBit j<;>simp [Nat.testBit_two_pow,h]
end Go.AM
namespace Go.AM
open Go Go.Proofs
theorem fb_rng (b:Bool) {n:Int} (h:0≤n):0≤fb b n∧fb b n≤n:=by
 unfold fb;cases b<;>simp<;>omega
theorem or_fb {x:Int} (b:Bool) {j:Nat} (h0:0≤x) (h1:x<2^j) (h2:j<63):bitI .or .u64 x (fb b (2^j))=x+fb b (2^j):=by
 obtain ⟨n,rfl⟩:∃ n:Nat,x=n:=⟨x.toNat,by omega⟩
 have hn:n<2^j:=by exact_mod_cast h1
 have hp:2^j≤2^62:=Nat.pow_le_pow_right (by omega) (by omega)
 have h62:(2:Nat)^62=4611686018427387904:=by decide
 have h64:(2:Nat)^64=18446744073709551616:=by decide
 have:=bitI_or (x:=n) (y:=if b then 1 else 0) (j:=j) hn (by cases b<;>simp<;>omega)
 unfold fb
 cases b
 ·simpa using this
 ·simpa using this
theorem or8 {x:Int} (b:Bool) (h0:0≤x) (h1:x<8):bitI .or .u64 x (fb b 8)=x+fb b 8:=or_fb b (j:=3) h0 h1 (by omega)
theorem or16 {x:Int} (b:Bool) (h0:0≤x) (h1:x<16):bitI .or .u64 x (fb b 16)=x+fb b 16:=or_fb b (j:=4) h0 h1 (by omega)
theorem or32 {x:Int} (b:Bool) (h0:0≤x) (h1:x<32):bitI .or .u64 x (fb b 32)=x+fb b 32:=or_fb b (j:=5) h0 h1 (by omega)
theorem or64 {x:Int} (b:Bool) (h0:0≤x) (h1:x<64):bitI .or .u64 x (fb b 64)=x+fb b 64:=or_fb b (j:=6) h0 h1 (by omega)
theorem or_top {x f:Int} (h0:0≤x) (h1:x<256) (h2:0≤f) (h3:f≤4294967295):bitI .or .u64 x (f*256)=x+f*256:=by
 obtain ⟨n,rfl⟩:∃ n:Nat,x=n:=⟨x.toNat,by omega⟩
 obtain ⟨m,rfl⟩:∃ m:Nat,f=m:=⟨f.toNat,by omega⟩
 have h64:(2:Nat)^64=18446744073709551616:=by decide
 have:=bitI_or (x:=n) (y:=m) (j:=8) (by omega) (by omega)
 simpa using this
def encW (e:En):Int:=e.1+fb e.2.2.1 8+fb e.2.2.2.1 16+fb e.2.2.2.2.1 32+fb e.2.2.2.2.2 64+e.2.1*256
def badF (e:En):Prop:=e.2.1<0∨4294967295<e.2.1∨e.1=1∧e.2.2.2.2.2=true∧4294967288<e.2.1
instance (e:En):Decidable (badF e):=by unfold badF;infer_instance
def encR (e:En):Int×Int:=if 0≤e.1∧e.1≤4 then (if badF e then (0,2) else if frmE e=true then (encW e,0) else (0,3)) else (0,1)
theorem encR_k {e:En} (h:¬ (0≤e.1∧e.1≤4)):encR e=(0,1):=by unfold encR;rw [if_neg h]
theorem encR_f {e:En} (h:0≤e.1∧e.1≤4) (h2:badF e):encR e=(0,2):=by unfold encR;rw [if_pos h,if_pos h2]
theorem encR_m {e:En} (h:0≤e.1∧e.1≤4) (h2:¬ badF e) (h3:frmE e=false):encR e=(0,3):=by unfold encR;rw [if_pos h,if_neg h2,h3];rfl
theorem encR_z {e:En} (h:0≤e.1∧e.1≤4) (h2:¬ badF e) (h3:frmE e=true):encR e=(encW e,0):=by unfold encR;rw [if_pos h,if_neg h2,if_pos h3]
theorem encSteps {k f:Int} {d a x h:Bool} (hk:0≤k∧k≤4) (hf:0≤f∧f≤4294967295):∃ w1 w2 w3 w4:Int,bitI .or .u64 k (fb d 8)=w1∧bitI .or .u64 w1 (fb a 16)=w2∧bitI .or .u64 w2 (fb x 32)=w3∧bitI .or .u64 w3 (fb h 64)=w4∧bitI .or .u64 w4 (f*256)=encW (k,f,d,a,x,h):=by
 have r1:=fb_rng d (n:=8) (by omega)
 have r2:=fb_rng a (n:=16) (by omega)
 have r3:=fb_rng x (n:=32) (by omega)
 have r4:=fb_rng h (n:=64) (by omega)
 refine ⟨_,_,_,_,or8 d (by omega) (by omega),or16 a (by omega) (by omega),or32 x (by omega) (by omega),or64 h (by omega) (by omega),?_⟩
 rw [or_top (by omega) (by omega) hf.1 hf.2]
 rfl
theorem wrapF {f:Int} (hf:0≤f∧f≤4294967295):IntKind.u64.wrap f=f∧IntKind.u64.wrap (f*256)=f*256:=by
 constructor
 ·exact wrapU64 ⟨by omega,by omega⟩
 ·exact wrapU64 ⟨by omega,by omega⟩
theorem encAll {k f:Int} {d a x h:Bool} (hk:0≤k∧k≤4) (hf:0≤f∧f≤4294967295) :
  bitI .or .u64 (bitI .or .u64 (bitI .or .u64 (bitI .or .u64 (bitI .or .u64 (IntKind.u64.wrap k) (fb d 8)) (fb a 16)) (fb x 32)) (fb h 64)) (IntKind.u64.wrap (IntKind.u64.wrap f*2^min 8 IntKind.u64.bits))=encW (k,f,d,a,x,h):=by
 obtain ⟨w1,w2,w3,w4,v1,v2,v3,v4,v5⟩:=encSteps (d:=d) (a:=a) (x:=x) (h:=h) hk hf
 have e1:f*2^min 8 IntKind.u64.bits=f*256:=by simp [IntKind.bits]
 have e2:IntKind.u64.wrap k=k:=wrapU64 ⟨by omega,by omega⟩
 rw [(wrapF hf).1,e1,e2,(wrapF hf).2,v1,v2,v3,v4,v5]
set_option maxHeartbeats 2000000 in
theorem s73 (X:AX) (hX:XOK Try.prog X) (hw:X.W wT) (hfo:∀ k f d a x h,0≤k∧k≤4→∀ M n,X.call 122 [.agg [I k,I f,B d,B a,B x,B h]] M n=some (B (frmE (k,f,d,a,x,h)),[]))
  (hfl:∀ b c M n,X.call 123 [B b,.v (.int .u64 c)] M n=some (.v (.int .u64 (fb b c)),[])):PSound Try.prog 73 (specF (ι:=En) (fun x=>[EnV x]) fun x=>retOf [U (encR x).1,I (encR x).2]):=by
 refine psound_spec hX mixed Try.func73 rfl fun ⟨k,f,d,a,x,h⟩ w0 G=>⟨by show 1≤63;decide,rfl,?_⟩
 show AW ⟨Try.prog,X,63,w0,.pure G⟩ _ _ _
 have hc:Cx.OK ⟨Try.prog,X,63,w0,.pure G⟩:=⟨hX,mixed⟩
 unfold EnV U
 simp only
 rcases Decidable.em (0≤k∧k≤4) with hk|hk
 ·have hfo':=hfo k f d a x h hk
  rcases Decidable.em (badF (k,f,d,a,x,h)) with hb|hb
  ·rw [encR_f hk hb]
   unfold badF at hb
   simp only at hb
   rcases (by omega:k=0∨k=1∨k=2∨k=3∨k=4) with rfl|rfl|rfl|rfl|rfl
   ·rcases Decidable.em (f<0) with g1|g1
    ·have zS:=g1
     refine dM8 ?_
     repeat (intro K hK)
     clear zS
     refine ⟨by simp,?_⟩
     simp [leaves_iff,Try.f73]
     try exact dt
    ·have g2:4294967295<f:=by
      rcases hb with hb|hb|hb
      ·exact absurd hb g1
      ·exact hb
      ·exact absurd hb.1 (by omega)
     have zS:=jj g1<|g2
     refine dM8 ?_
     repeat (intro K hK)
     clear zS
     refine ⟨by simp,?_⟩
     simp [leaves_iff,Try.f73]
     try exact dt
   ·rcases Decidable.em (f<0) with g1|g1
    ·have zS:=g1
     refine dM8 ?_
     repeat (intro K hK)
     clear zS
     refine ⟨by simp,?_⟩
     simp [leaves_iff,Try.f73]
     try exact dt
    ·rcases Decidable.em (4294967295<f) with g2|g2
     ·have zS:=jj g1<|g2
      refine dM8 ?_
      repeat (intro K hK)
      clear zS
      refine ⟨by simp,?_⟩
      simp [leaves_iff,Try.f73]
      try exact dt
     ·have g3:h=true∧4294967288<f:=by
       rcases hb with hb|hb|hb
       ·exact absurd hb g1
       ·exact absurd hb g2
       ·exact hb.2
      obtain ⟨rfl,g3⟩:=g3
      have zS:=jj g1<|jj g2<|g3
      refine dM8 ?_
      repeat (intro K hK)
      clear zS
      refine ⟨by simp,?_⟩
      simp [leaves_iff,Try.f73]
      try exact dt
   ·rcases Decidable.em (f<0) with g1|g1
    ·have zS:=g1
     refine dM8 ?_
     repeat (intro K hK)
     clear zS
     refine ⟨by simp,?_⟩
     simp [leaves_iff,Try.f73]
     try exact dt
    ·have g2:4294967295<f:=by
      rcases hb with hb|hb|hb
      ·exact absurd hb g1
      ·exact hb
      ·exact absurd hb.1 (by omega)
     have zS:=jj g1<|g2
     refine dM8 ?_
     repeat (intro K hK)
     clear zS
     refine ⟨by simp,?_⟩
     simp [leaves_iff,Try.f73]
     try exact dt
   ·rcases Decidable.em (f<0) with g1|g1
    ·have zS:=g1
     refine dM8 ?_
     repeat (intro K hK)
     clear zS
     refine ⟨by simp,?_⟩
     simp [leaves_iff,Try.f73]
     try exact dt
    ·have g2:4294967295<f:=by
      rcases hb with hb|hb|hb
      ·exact absurd hb g1
      ·exact hb
      ·exact absurd hb.1 (by omega)
     have zS:=jj g1<|g2
     refine dM8 ?_
     repeat (intro K hK)
     clear zS
     refine ⟨by simp,?_⟩
     simp [leaves_iff,Try.f73]
     try exact dt
   ·rcases Decidable.em (f<0) with g1|g1
    ·have zS:=g1
     refine dM8 ?_
     repeat (intro K hK)
     clear zS
     refine ⟨by simp,?_⟩
     simp [leaves_iff,Try.f73]
     try exact dt
    ·have g2:4294967295<f:=by
      rcases hb with hb|hb|hb
      ·exact absurd hb g1
      ·exact hb
      ·exact absurd hb.1 (by omega)
     have zS:=jj g1<|g2
     refine dM8 ?_
     repeat (intro K hK)
     clear zS
     refine ⟨by simp,?_⟩
     simp [leaves_iff,Try.f73]
     try exact dt
  ·have hb':=hb
   unfold badF at hb'
   simp only [not_or] at hb'
   have g1:¬ f<0:=hb'.1
   have g2:¬ 4294967295<f:=hb'.2.1
   have g3:=hb'.2.2
   have e5:=@encR_m (k,f,d,a,x,h) hk hb
   have e6:=@encR_z (k,f,d,a,x,h) hk hb
   obtain ⟨W,hW⟩:∃ W,W=encW (k,f,d,a,x,h):=⟨_,rfl⟩
   rw [← hW] at e6
   cases hfm:frmE (k,f,d,a,x,h) with
   | false =>
    rw [e5 hfm]
    rw [hfm] at hfo'
    rcases (by omega:k=0∨k=1∨k=2∨k=3∨k=4) with rfl|rfl|rfl|rfl|rfl
    ·have zS:=jj g1<|jj g2<|hfo'
     refine dM8 ?_
     repeat (intro K hK)
     clear zS
     refine ⟨by simp,?_⟩
     simp [leaves_iff,Try.f73]
     try exact dt
    ·have g4:¬ (h=true∧4294967288<f):=fun hh=>g3 ⟨rfl,hh⟩
     cases h
     ·have zS:=jj g1<|jj g2<|hfo'
      refine dM8 ?_
      repeat (intro K hK)
      clear zS
      refine ⟨by simp,?_⟩
      simp [leaves_iff,Try.f73]
      try exact dt
     ·have g5:¬ 4294967288<f:=fun hh=>g4 ⟨rfl,hh⟩
      have zS:=jj g1<|jj g2<|jj g5<|hfo'
      refine dM8 ?_
      repeat (intro K hK)
      clear zS
      refine ⟨by simp,?_⟩
      simp [leaves_iff,Try.f73]
      try exact dt
    ·have zS:=jj g1<|jj g2<|hfo'
     refine dM8 ?_
     repeat (intro K hK)
     clear zS
     refine ⟨by simp,?_⟩
     simp [leaves_iff,Try.f73]
     try exact dt
    ·have zS:=jj g1<|jj g2<|hfo'
     refine dM8 ?_
     repeat (intro K hK)
     clear zS
     refine ⟨by simp,?_⟩
     simp [leaves_iff,Try.f73]
     try exact dt
    ·have zS:=jj g1<|jj g2<|hfo'
     refine dM8 ?_
     repeat (intro K hK)
     clear zS
     refine ⟨by simp,?_⟩
     simp [leaves_iff,Try.f73]
     try exact dt
   | true =>
    rw [e6 hfm]
    rw [hfm] at hfo'
    clear e5 e6 hfm
    rcases (by omega:k=0∨k=1∨k=2∨k=3∨k=4) with rfl|rfl|rfl|rfl|rfl
    ·have zS:=jj g1<|jj g2<|jj hfo'<|hfl
     refine dM8 ?_
     repeat (intro K hK)
     clear zS
     refine ⟨by simp,?_⟩
     simp [leaves_iff,Try.f73]
     try exact dt
     (rw [hW];refine (encAll ?_ ?_).symm<;>constructor<;>omega)
    ·have g4:¬ (h=true∧4294967288<f):=fun hh=>g3 ⟨rfl,hh⟩
     cases h
     ·have zS:=jj g1<|jj g2<|jj hfo'<|hfl
      refine dM8 ?_
      repeat (intro K hK)
      clear zS
      refine ⟨by simp,?_⟩
      simp [leaves_iff,Try.f73]
      try exact dt
      (rw [hW];refine (encAll ?_ ?_).symm<;>constructor<;>omega)
     ·have g5:¬ 4294967288<f:=fun hh=>g4 ⟨rfl,hh⟩
      have zS:=jj g1<|jj g2<|jj g5<|jj hfo'<|hfl
      refine dM8 ?_
      repeat (intro K hK)
      clear zS
      refine ⟨by simp,?_⟩
      simp [leaves_iff,Try.f73]
      try exact dt
      (rw [hW];refine (encAll ?_ ?_).symm<;>constructor<;>omega)
    ·have zS:=jj g1<|jj g2<|jj hfo'<|hfl
     refine dM8 ?_
     repeat (intro K hK)
     clear zS
     refine ⟨by simp,?_⟩
     simp [leaves_iff,Try.f73]
     try exact dt
     (rw [hW];refine (encAll ?_ ?_).symm<;>constructor<;>omega)
    ·have zS:=jj g1<|jj g2<|jj hfo'<|hfl
     refine dM8 ?_
     repeat (intro K hK)
     clear zS
     refine ⟨by simp,?_⟩
     simp [leaves_iff,Try.f73]
     try exact dt
     (rw [hW];refine (encAll ?_ ?_).symm<;>constructor<;>omega)
    ·have zS:=jj g1<|jj g2<|jj hfo'<|hfl
     refine dM8 ?_
     repeat (intro K hK)
     clear zS
     refine ⟨by simp,?_⟩
     simp [leaves_iff,Try.f73]
     try exact dt
     (rw [hW];refine (encAll ?_ ?_).symm<;>constructor<;>omega)
 ·rw [encR_k hk]
  have e0:¬ k=0:=by omega
  have e1:¬ k=1:=by omega
  have e2:¬ k=2:=by omega
  have e3:¬ k=3:=by omega
  have e4:¬ k=4:=by omega
  have zS:=jj e0<|jj e1<|jj e2<|jj e3<|e4
  refine dM8 ?_
  repeat (intro K hK)
  clear zS
  refine ⟨by simp,?_⟩
  simp [leaves_iff,Try.f73]
  try exact dt
end Go.AM
