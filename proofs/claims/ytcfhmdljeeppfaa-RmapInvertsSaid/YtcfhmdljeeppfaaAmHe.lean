/- A part of the proof: what functions of the program compute, by abstract execution of their code. Its theorems hold without further condition. -/
import Derived.Test.YtcfhmdljeeppfaaTPt57
import Derived.Test.YtcfhmdljeeppfaaAmG2
set_option linter.all false
namespace Go.AM
open Go
structure HidE (w0:World) (l0:List Nat) (G:Nat→Prop) (E:Env) (M:Nat→AO) (F:List Nat) (w:World):Prop where
 inv:Inv w0 ⟨l0,Env.start G,0⟩ E w
 mem:MemOK E w M
 loc:∀ b blk base sz,E.alive b→E.loc b=some (blk,base,sz)→blk∈F
 gs:∀ k,E.G k→G k∨k∈F
 low:∀ k∈F,w0.heap.size≤k∨k∈l0
 gw:∀ k,G k→k<w0.heap.size∧k ∉ l0
theorem HidE.keep {w0:World} {l0:List Nat} {G:Nat→Prop} {E:Env} {M:Nat→AO} {F:List Nat} {w w':World} (h:HidE w0 l0 G E M F w) (hF:∀ k∈F,w'.heap[k]?=w.heap[k]?) (hfr:Frame w0 l0 w') (hsz:w.heap.size≤w'.heap.size):HidE w0 l0 G E M F w':=by
 have hG:∀ k,E.G k→w'.heap[k]?=w.heap[k]?:=fun k hk=>by
  rcases h.gs k hk with q|q
  ·obtain ⟨q1,q2⟩:=h.gw k q
   exact (hfr.old k q1 q2).trans (h.inv.frame.old k q1 q2).symm
  ·exact hF k q
 refine ⟨⟨hfr,h.inv.gin,h.inv.low,h.inv.gout,fun k hk=>Nat.lt_of_lt_of_le (h.inv.good k hk) hsz,fun b blk base sz k1 k2=>?_,h.inv.apart⟩,fun b hb=>?_,h.loc,h.gs,h.low,h.gw⟩
 ·obtain ⟨q1,q2,q3⟩:=h.inv.locs b blk base sz k1 k2
  exact ⟨by omega,q2,q3⟩
 ·exact (h.mem b hb).mono (Env.Le.refl E) hG rfl rfl fun blk base sz k1=>hF blk (h.loc b blk base sz hb k1)
theorem HidE.obj {w0:World} {l0:List Nat} {G:Nat→Prop} {E:Env} {M M':Nat→AO} {F:List Nat} {w:World} (h:HidE w0 l0 G E M F w) (hm:MemOK E w M'):HidE w0 l0 G E M' F w:=⟨h.inv,hm,h.loc,h.gs,h.low,h.gw⟩
theorem HidE.base {w0:World} {l0:List Nat} {G:Nat→Prop} {E:Env} {M:Nat→AO} {F:List Nat} {w:World} (h:HidE w0 l0 G E M F w):Inv w ⟨F,Env.start E.G,0⟩ E w :=
 ⟨⟨rfl,rfl,Nat.le_refl _,fun _ _ _=>rfl⟩,⟨fun _ h=>h,fun _ h=>h.elim,fun _ h=>h.elim⟩,fun _ h=>h.elim,fun k hk=>.inl hk,h.inv.good,
  fun b blk base sz k1 k2=>⟨(h.inv.locs b blk base sz k1 k2).1,(h.inv.locs b blk base sz k1 k2).2.1,.inr (h.loc b blk base sz k1 k2)⟩,h.inv.apart⟩
theorem HidE.frame {w0:World} {l0:List Nat} {G:Nat→Prop} {E:Env} {M:Nat→AO} {F:List Nat} {w w':World} (h:HidE w0 l0 G E M F w) (hfr:Frame w F w'):Frame w0 l0 w':=by
 have:=h.inv.frame.size
 refine ⟨hfr.os.trans h.inv.frame.os,hfr.out.trans h.inv.frame.out,Nat.le_trans this hfr.size,fun k hk hl=>?_⟩
 rw [hfr.old k (by omega) fun hm=>?_]
 ·exact h.inv.frame.old k hk hl
 ·rcases h.low k hm with q|q
  ·omega
  ·exact hl q
theorem HidE.step {w0:World} {l0:List Nat} {G:Nat→Prop} {E E':Env} {M:Nat→AO} {F:List Nat} {w w':World} {u:List (Nat×AO)} (h:HidE w0 l0 G E M F w) (st:StepTo w ⟨F,Env.start E.G,0⟩ E w u E' w') :
  HidE w0 l0 G E' (updM M u) (F++List.range' w.heap.size (w'.heap.size - w.heap.size)) w'∧Frame w F w':=by
 have hsz:=st.size
 have hw0:w0.heap.size≤w.heap.size:=h.inv.frame.size
 have hlow:∀ k∈F++List.range' w.heap.size (w'.heap.size - w.heap.size),w0.heap.size≤k∨k∈l0:=fun k hk=>by
  rcases List.mem_append.1 hk with hk|hk
  ·exact h.low k hk
  ·have:=List.mem_range'_1.1 hk;exact .inl (by omega)
 have hnew:∀ k,k<w'.heap.size→(w.heap.size≤k∨k∈F)→k∈F++List.range' w.heap.size (w'.heap.size - w.heap.size):=fun k h1 h2=>by
  rcases h2 with h2|h2
  ·exact List.mem_append.2 (.inr (List.mem_range'_1.2 ⟨h2,by omega⟩))
  ·exact List.mem_append.2 (.inl h2)
 have hfr:Frame w F w':=⟨st.inv.frame.os,st.inv.frame.out,hsz,fun k hk hkF=>st.keep k hk fun b base sz hb _ hl=>hkF (h.loc b k base sz hb hl)⟩
 have hfr0:=h.frame hfr
 refine ⟨⟨⟨hfr0,⟨fun k hk=>st.le.G k (h.inv.gin.G k hk),fun _ h=>h.elim,fun _ h=>h.elim⟩,fun _ h=>h.elim,fun k hk=>?_,st.inv.good,fun b blk base sz hb hl=>?_,st.inv.apart⟩,
  st.mem h.base h.mem,fun b blk base sz hb hl=>?_,fun k hk=>?_,hlow,h.gw⟩,hfr⟩
 ·rcases st.inv.gout k hk with q|q|q
  ·exact h.inv.gout k q
  ·exact .inr (.inl (by have:w.heap.size≤k:=q;omega))
  ·exact .inr (h.low k q)
 ·obtain ⟨q1,q2,q3⟩:=st.inv.locs b blk base sz hb hl
  refine ⟨q1,q2,?_⟩
  rcases q3 with q|q
  ·have:w.heap.size≤blk:=q;exact .inl (by omega)
  ·exact h.low blk q
 ·obtain ⟨q1,q2,q3⟩:=st.inv.locs b blk base sz hb hl
  exact hnew blk q1 q3
 ·rcases st.inv.gout k hk with q|q|q
  ·rcases h.gs k q with q'|q'
   ·exact .inl q'
   ·exact .inr (List.mem_append.2 (.inl q'))
  ·exact .inr (hnew k (st.inv.good k hk) (.inl q))
  ·exact .inr (hnew k (st.inv.good k hk) (.inr q))
theorem HidE.call {P:Program} {g:FuncId} {cf:List AV→(Nat→AO)→Nat→Option (AV×List (Nat×AO))} (hco:CallOK P g cf) {w0:World} {l0:List Nat} {G:Nat→Prop} {E:Env} {M:Nat→AO} {F:List Nat} {w:World} (h:HidE w0 l0 G E M F w)
  {avs:List AV} {vs:List Value} {nid:Nat} {av:AV} {u:List (Nat×AO)} (hr:RepL E w avs vs) (hn:∀ k,nid≤k→k<nid+16→¬ E.alive k) (hc:cf avs M nid=some (av,u)) :
  Calls P g vs.toArray w fun e w'=>∃ r E',e=.returned r∧Rep E' w' av r∧StepTo w ⟨F,Env.start E.G,0⟩ E w u E' w'∧HidE w0 l0 G E' (updM M u) (F++List.range' w.heap.size (w'.heap.size - w.heap.size)) w'∧Frame w F w' :=
 Calls.mono (hco avs M nid av u hc w ⟨F,Env.start E.G,0⟩ E w vs.toArray (by simpa using hr) h.mem h.base hn) fun e w' ⟨x,E',h1,h2,h3⟩=>⟨x,E',h1,h3,h2,h.step h2⟩
theorem clo_nms:∀ {cs:List AV},cs.all AV.isClosed=true→nmsL cs=[]
 | [],_=>rfl
 | a::r,h=>by
  simp only [List.all_cons,Bool.and_eq_true] at h
  have ih:=clo_nms h.2
  cases a<;>simp_all [AV.isClosed,nmsL,AV.nms]
theorem clo_ren {σ:Nat→Nat} {f:Nat→Nat→Nat}:∀ {cs:List AV},cs.all AV.isClosed=true→renL σ f cs=cs
 | [],_=>rfl
 | a::r,h=>by
  simp only [List.all_cons,Bool.and_eq_true] at h
  have ih:=clo_ren (σ:=σ) (f:=f) h.2
  cases a<;>simp_all [AV.isClosed,renL,AV.ren]
theorem clo_curB {M:Nat→AO}:∀ {cs:List AV},cs.all AV.isClosed=true→curBL M cs=true
 | [],_=>rfl
 | a::r,h=>by
  simp only [List.all_cons,Bool.and_eq_true] at h
  have ih:=clo_curB (M:=M) h.2
  cases a<;>simp_all [AV.isClosed,curBL,AV.curB]
theorem clo_under {n:Nat}:∀ {cs:List AV},cs.all AV.isClosed=true→AV.underL n cs
 | [],_=>by simp [AV.underL]
 | a::r,h=>by
  simp only [List.all_cons,Bool.and_eq_true] at h
  have ih:=clo_under (n:=n) h.2
  cases a<;>simp_all [AV.isClosed,AV.underL,AV.under]
theorem HidE.more {w0:World} {l0:List Nat} {G:Nat→Prop} {E:Env} {M:Nat→AO} {F F':List Nat} {w:World} (h:HidE w0 l0 G E M F w) (hs:∀ k∈F,k∈F') (hl:∀ k∈F',w0.heap.size≤k∨k∈l0):HidE w0 l0 G E M F' w :=
 ⟨h.inv,h.mem,fun b blk base sz k1 k2=>hs _ (h.loc b blk base sz k1 k2),fun k k1=>(h.gs k k1).imp id (hs k),hl,h.gw⟩
end Go.AM
set_option maxHeartbeats 4000000
namespace Go.AM
open Go Go.Proofs
@[simp] theorem tyMpssF:Types Try.prog 59=some ⟨.slice 29,1,24,[.slice none 0 0]⟩:=by kernel_rfl
def vset (vs:List Value) (i:Nat) (a:AV):List AV:=(vs.map AV.v).set i a
@[simp] theorem vset_len {vs:List Value} {i:Nat} {a:AV}:(vset vs i a).length=vs.length:=by simp [vset]
theorem vset_get {vs:List Value} {i:Nat} (h:i<vs.length) (a:AV):(vset vs i a)[i]?=some a:=by simp [vset,h]
@[simp] theorem vset_set {vs:List Value} {i:Nat} {a b:AV}:(vset vs i a).set i b=vset vs i b:=by simp [vset]
theorem vm_cl {vs:List Value}:(vs.map AV.v).all AV.isClosed=true:=by simp [List.all_eq_true,AV.isClosed]
@[simp] theorem vm_nms {vs:List Value}:nmsL (vs.map AV.v)=[]:=clo_nms vm_cl
@[simp] theorem vm_ren {vs:List Value} {σ:Nat→Nat} {f:Nat→Nat→Nat}:renL σ f (vs.map AV.v)=vs.map AV.v:=clo_ren vm_cl
@[simp] theorem vm_curB {vs:List Value} {M:Nat→AO}:curBL M (vs.map AV.v)=true:=clo_curB vm_cl
@[simp] theorem vm_under {vs:List Value} {n:Nat}:AV.underL n (vs.map AV.v):=clo_under vm_cl
theorem underL_set {n:Nat} {a:AV} (ha:a.under n):∀ {l:List AV} {i:Nat},AV.underL n l→AV.underL n (l.set i a)
 | [],_,h=>by simp [AV.underL]
 | _::_,0,h=>by simp only [List.set_cons_zero,AV.underL] at h ⊢;exact ⟨ha,h.2⟩
 | _::_,i+1,h=>by simp only [List.set_cons_succ,AV.underL] at h ⊢;exact ⟨h.1,underL_set ha h.2⟩
@[simp] theorem vset_under {vs:List Value} {i n b m s o k:Nat} (h:b<n):AV.underL n (vset vs i (.sl b m s o k)):=underL_set (a:=.sl b m s o k) h vm_under
theorem renL_set {σ:Nat→Nat} {f:Nat→Nat→Nat} {a:AV}:∀ {l:List AV} {i:Nat},renL σ f (l.set i a)=(renL σ f l).set i (a.ren σ f)
 | [],_=>by simp [renL]
 | _::_,0=>by simp [renL]
 | _::_,i+1=>by simp [renL,renL_set]
@[simp] theorem vset_ren {vs:List Value} {i:Nat} {a:AV} {σ:Nat→Nat} {f:Nat→Nat→Nat}:renL σ f (vset vs i a)=vset vs i (a.ren σ f):=by
 unfold vset;rw [renL_set,vm_ren]
theorem vset_nms {a:AV}:∀ {vs:List Value} {i:Nat},i<vs.length→nmsL (vset vs i a)=a.nms
 | [],_,h=>by simp at h
 | _::vs,0,_=>by simp [vset,nmsL,AV.nms]
 | _::vs,i+1,h=>by
  have:=vset_nms (a:=a) (vs:=vs) (i:=i) (by simpa using h)
  unfold vset at this
  simp [vset,nmsL,AV.nms,this]
theorem vset_curB {a:AV} {M:Nat→AO}:∀ {vs:List Value} {i:Nat},i<vs.length→curBL M (vset vs i a)=a.curB M
 | [],_,h=>by simp at h
 | _::vs,0,_=>by simp [vset,curBL]
 | _::vs,i+1,h=>by
  have:=vset_curB (a:=a) (M:=M) (vs:=vs) (i:=i) (by simpa using h)
  unfold vset at this
  simp [vset,curBL,AV.curB,this]
def inM (xs:List (List AV)) (ins:Bool) (L:List Value) (o:Nat) (i:Nat) (v:Nat) (R:List Dp) (s:Int):List AO :=
 [.box [.rd 1 xs],.box [B ins],.box [.bs 3 o 1 xs.length],.box (vset L (o+i) (.sl 4 v 2 0 R.length)),.vec v 2 false (prows R),.box [I s]]
def inN (xs:List (List AV)) (ins:Bool) (L:List Value) (o:Nat) (s:Int):List AO :=
 [.box [.rd 1 xs],.box [B ins],.box [.bs 3 o 1 xs.length],.box (L.map AV.v),.box [I s]]
structure InD where
 xs:List (List AV)
 ins:Bool
 L:List Value
 o:Nat
 i:Nat
 R:List Dp
 s:Int
 pg:Int
structure InOK (x:InD):Prop where
 L:x.o+x.xs.length≤x.L.length
 i:x.i<x.xs.length
 n:x.xs.length≤1000000
 R:x.R.length≤1000000
noncomputable def inS:List AV→List AO→Option (AV×List AO) :=
 specG (ι:={x:InD // InOK x}) (fun x=>[I x.1.pg,I x.1.i,.bp 0 0,.bp 1 0,.bp 2 0,.bp 5 0]) (fun x=>inM x.1.xs x.1.ins x.1.L x.1.o x.1.i 1 x.1.R x.1.s) (fun _=>.tup [])
  fun x=>inM x.1.xs x.1.ins x.1.L x.1.o x.1.i 2 (x.1.R++[(x.1.s,x.1.pg)]) x.1.s
theorem s74 (X:AX) (hX:XOK Try.prog X) (hw:X.W wT):GSound Try.prog 74 inS:=by
 unfold inS
 refine gsound_spec Try.func74 rfl X fun ⟨⟨xs,ins,L,o,i,R,s,pg⟩,hL,hi,hx,hl⟩ w0 B E=>⟨by show 6≤24;decide,?_⟩
 simp only at hL hi hx hl ⊢
 simp only [inM,List.length_append,List.length_cons,List.length_nil,Nat.zero_add]
 have hiI:(i:Int)<(xs.length:Int):=by omega
 have hiN:¬ (xs.length:Int)≤(i:Int):=by omega
 have hiL:o+i<L.length:=by omega
 have hgs:=vset_get hiL
 have hge:∀ (x:AV) (h:o+i<(vset L (o+i) x).length),(vset L (o+i) x)[o+i]=x:=fun x h=>by simp [vset]
 show AW ⟨Try.prog,X,24,w0,⟨B,E,6⟩⟩ _ _ _
 have hc:Cx.OK ⟨Try.prog,X,24,w0,⟨B,E,6⟩⟩:=⟨hX,mixed⟩
 have zS:=jj hiI<|jj hiN<|jj hiL<|jj hgs<|jj hge<|jj prows_ap1<|tkPr
 refine dF64 ?_
 repeat (intro K hK)
 clear zS
 have hif:∀ a:AV,(if (o=0∧i=0)∧1=L.length then [a] else vset L (o+i) a)=vset L (o+i) a:=fun a=>by
  split
  ·rename_i h
   obtain ⟨⟨rfl,rfl⟩,h1⟩:=h
   match L,h1 with
   | [b],_=>simp [vset]
  ·rfl
 rw [hif]
 refine ⟨[],rfl,?_⟩
 simp only [idx]
 exact dle
noncomputable def inU:List AV→List AO→Option (AV×List AO) :=
 specG (ι:={x:InD×Int // (x.1.xs.length:Int)≤x.2}) (fun x=>[I x.1.1.pg,I x.1.2,.bp 0 0,.bp 1 0,.bp 2 0,.bp 4 0]) (fun x=>inN x.1.1.xs x.1.1.ins x.1.1.L x.1.1.o x.1.1.s) (fun _=>.tup [])
  fun x=>inN x.1.1.xs false x.1.1.L x.1.1.o x.1.1.s
theorem s74_o (X:AX) (hX:XOK Try.prog X) (hw:X.W wT):GSound Try.prog 74 inU:=by
 unfold inU
 refine gsound_spec Try.func74 rfl X fun ⟨⟨⟨xs,ins,L,o,i,R,s,pg⟩,nu⟩,hi⟩ w0 B E=>⟨by show 6≤24;decide,?_⟩
 simp only at hi ⊢
 simp only [inN]
 show AW ⟨Try.prog,X,24,w0,⟨B,E,5⟩⟩ _ _ _
 have hc:Cx.OK ⟨Try.prog,X,24,w0,⟨B,E,5⟩⟩:=⟨hX,mixed⟩
 have zS:=hi
 refine dM64 ?_
 repeat (intro K hK)
 clear zS
 refine ⟨by simp,[],rfl,?_⟩
 simp only [idx]
 exact dle
theorem inS_at {xs:List (List AV)} {ins:Bool} {L:List Value} {o i:Nat} {R:List Dp} {s pg:Int} (hL:o+xs.length≤L.length) (hi:i<xs.length) (hx:xs.length≤1000000) (hR:R.length≤1000000) :
  inS [I pg,I i,.bp 0 0,.bp 1 0,.bp 2 0,.bp 5 0] (inM xs ins L o i 1 R s)=some (.tup [],inM xs ins L o i 2 (R++[(s,pg)]) s):=by
 refine specG_eq (ι:={x:InD // InOK x}) (A:=fun x=>[I x.1.pg,I x.1.i,.bp 0 0,.bp 1 0,.bp 2 0,.bp 5 0]) (M:=fun x=>inM x.1.xs x.1.ins x.1.L x.1.o x.1.i 1 x.1.R x.1.s) (R:=fun _=>.tup [])
  (O:=fun x=>inM x.1.xs x.1.ins x.1.L x.1.o x.1.i 2 (x.1.R++[(x.1.s,x.1.pg)]) x.1.s) ⟨⟨xs,ins,L,o,i,R,s,pg⟩,hL,hi,hx,hR⟩ fun j hA hM=>⟨rfl,?_⟩
 obtain ⟨⟨xs',ins',L',o',i',R',s',pg'⟩,h'⟩:=j
 simp only [List.cons.injEq,I,AV.v.injEq,Value.int.injEq,true_and,and_true,Int.ofNat_inj] at hA
 obtain ⟨rfl,rfl⟩:=hA
 simp only [inM,List.cons.injEq,AO.box.injEq,AO.vec.injEq,AV.rd.injEq,B,I,AV.v.injEq,Value.int.injEq,Value.bool.injEq,prows_inj,true_and,and_true,AV.bs.injEq] at hM
 obtain ⟨rfl,rfl,⟨rfl,h3⟩,h4,rfl,rfl⟩:=hM
 have:=congrArg (fun l=>l.set (o'+i') (AV.sl 4 2 2 0 (R'.length+1))) h4
 simp only [vset_set] at this
 simp [inM,this]
theorem inU_at {xs:List (List AV)} {ins:Bool} {L:List Value} {o:Nat} {s pg nu:Int} (hn:(xs.length:Int)≤nu) :
  inU [I pg,I nu,.bp 0 0,.bp 1 0,.bp 2 0,.bp 4 0] (inN xs ins L o s)=some (.tup [],inN xs false L o s):=by
 refine specG_eq (ι:={x:InD×Int // (x.1.xs.length:Int)≤x.2}) (A:=fun x=>[I x.1.1.pg,I x.1.2,.bp 0 0,.bp 1 0,.bp 2 0,.bp 4 0]) (M:=fun x=>inN x.1.1.xs x.1.1.ins x.1.1.L x.1.1.o x.1.1.s) (R:=fun _=>.tup [])
  (O:=fun x=>inN x.1.1.xs false x.1.1.L x.1.1.o x.1.1.s) ⟨(⟨xs,ins,L,o,0,[],s,pg⟩,nu),hn⟩ fun j hA hM=>⟨rfl,?_⟩
 obtain ⟨⟨⟨xs',ins',L',o',i',R',s',pg'⟩,nu'⟩,h'⟩:=j
 simp only [inN,List.cons.injEq,AO.box.injEq,AV.rd.injEq,B,I,AV.v.injEq,Value.int.injEq,Value.bool.injEq,true_and,and_true,AV.bs.injEq] at hM
 obtain ⟨rfl,_,⟨rfl,_⟩,h4,rfl⟩:=hM
 simp [inN,h4]
end Go.AM
set_option maxHeartbeats 2000000
namespace Go.AM
open Go Go.Proofs
set_option maxRecDepth 4000 in
theorem callIn {xs:List (List AV)} {ins:Bool} {L:List Value} {o i v:Nat} {R:List Dp} {s:Int} (pg:Int) (hL:o+xs.length≤L.length) (hi:i<xs.length) (hx:xs.length≤1000000) (hR:R.length≤1000000) (hv:1≤v) {e:Nat} (he:5≤e)
  (M:Nat→AO) (nid:Nat) (h0:M 0=.box [.rd 1 xs]) (h1:M 1=.box [B ins]) (h2:M 2=.box [.bs 3 o 1 xs.length]) (h3:M 3=.box (vset L (o+i) (.sl e v 2 0 R.length))) (h4:M e=.vec v 2 false (prows R)) (h5:M 4=.box [I s]) :
  callG inS [I pg,I i,.bp 0 0,.bp 1 0,.bp 2 0,.bp 4 0] M nid=some (.tup [],[(0,.box [.rd 1 xs]),(1,.box [B ins]),(2,.box [.bs 3 o 1 xs.length]),(3,.box (vset L (o+i) (.sl e (v+1) 2 0 (R.length+1)))),(e,.vec (v+1) 2 false (prows (R++[(s,pg)]))),(4,.box [I s])]):=by
 have hF:=inS_at (ins:=ins) (s:=s) (pg:=pg) hL hi hx hR
 simp only [inM,List.length_append,List.length_cons,List.length_nil,Nat.zero_add] at hF
 obtain ⟨u,rfl⟩:∃ u,v=1+u:=⟨v - 1,by omega⟩
 have hiL:o+i<L.length:=by omega
 have n3:∀ a:AV,nmsL (vset L (o+i) a)=a.nms:=fun a=>vset_nms hiL
 have c3:∀ (a:AV) (M:Nat→AO),curBL M (vset L (o+i) a)=a.curB M:=fun a M=>vset_curB hiL
 have q0:e≠0:=by omega
 have q1:e≠1:=by omega
 have q2:e≠2:=by omega
 have q3:e≠3:=by omega
 have q4:e≠4:=by omega
 have p0:=q0.symm
 have p1:=q1.symm
 have p2:=q2.symm
 have p3:=q3.symm
 have p4:=q4.symm
 have e1:1+1+u=1+u+1:=by omega
 have e2:2+u=1+u+1:=by omega
 unfold callG
 have hg:gat M 64 (nmsL [I pg,I i,.bp 0 0,.bp 1 0,.bp 2 0,.bp 4 0]) []=[0,1,2,3,e,4]:=by
  simp [gat,nmsL,AV.nms,AO.nms,h0,h1,h2,h3,h4,h5,n3,q0,q1,q2,q3,q4,p0,p1,p2,p3,p4]
 simp only [hg]
 rw [if_pos ?cg]
 case cg=>simp [CallG,nmsL,AV.nms,AO.nms,Led,curBL,AV.curB,AO.curB,verOf,notDead,h0,h1,h2,h3,h4,h5,n3,c3,q0,q1,q2,q3,q4,p0,p1,p2,p3,p4]
 simp [renL,AV.ren,AO.ren,posN,canO,nmsL,h0,h1,h2,h3,h4,h5,n3,c3,q0,q1,q2,q3,q4,p0,p1,p2,p3,p4,hF,RetG,getL,AV.nms,AO.nms,updN,nmN,shN,verOf,rng,Led,e1,e2]
set_option maxRecDepth 4000 in
theorem callIu {xs:List (List AV)} {ins:Bool} {L:List Value} {o:Nat} {s:Int} (pg nu:Int) (hn:(xs.length:Int)≤nu)
  (M:Nat→AO) (nid:Nat) (h0:M 0=.box [.rd 1 xs]) (h1:M 1=.box [B ins]) (h2:M 2=.box [.bs 3 o 1 xs.length]) (h3:M 3=.box (L.map AV.v)) (h5:M 4=.box [I s]) :
  callG inU [I pg,I nu,.bp 0 0,.bp 1 0,.bp 2 0,.bp 4 0] M nid=some (.tup [],[(0,.box [.rd 1 xs]),(1,.box [B false]),(2,.box [.bs 3 o 1 xs.length]),(3,.box (L.map AV.v)),(4,.box [I s])]):=by
 have hF:=inU_at (ins:=ins) (L:=L) (o:=o) (s:=s) (pg:=pg) hn
 simp only [inN] at hF
 unfold callG
 have hg:gat M 64 (nmsL [I pg,I nu,.bp 0 0,.bp 1 0,.bp 2 0,.bp 4 0]) []=[0,1,2,3,4]:=by
  simp [gat,nmsL,AV.nms,AO.nms,h0,h1,h2,h3,h5]
 simp only [hg]
 rw [if_pos ?cg]
 case cg=>simp [CallG,nmsL,AV.nms,AO.nms,Led,curBL,AV.curB,AO.curB,verOf,notDead,h0,h1,h2,h3,h5]
 simp [renL,AV.ren,AO.ren,posN,canO,nmsL,h0,h1,h2,h3,h5,hF,RetG,getL,AV.nms,AO.nms,updN,nmN,shN,verOf,rng,Led]
end Go.AM
namespace Go.AM
open Go Go.Proofs
def hiM (xs:List (List AV)) (ins:Bool) (o:Nat) (L:List Value) (s:Int) (vers:Nat→Nat) (rows:List (List Dp)):Nat→AO
 | 0=>.box [.rd 1 xs]
 | 1=>.box [B ins]
 | 2=>.box [.bs 3 o 1 xs.length]
 | 3=>.box (L.map AV.v)
 | 4=>.box [I s]
 | e+5=>if e<xs.length then .vec (vers e) 2 false (prows (rows.getD e [])) else .dead
def HidI (w0:World) (l0:List Nat) (G:Nat→Prop) (k1 k2 k3 k4:Nat) (xs:List (List AV)) (s:Int) (x:Bool×List (List Dp)) (F:List Nat) (w:World):Prop :=
 ∃ (E:Env) (o:Nat) (L:List Value) (vers:Nat→Nat),HidE w0 l0 G E (hiM xs x.1 o L s vers x.2) F w∧(∀ b,E.alive b↔b<5+xs.length) ∧
  (E.loc 0=some (k1,0,1)∧E.loc 1=some (k2,0,1)∧E.loc 2=some (k3,0,1)∧E.loc 4=some (k4,0,1))∧x.2.length=xs.length∧o+xs.length≤L.length ∧
  ∀ i,i<xs.length→∃ v,L[o+i]?=some v∧Rep E w (.sl (5+i) (vers i) 2 0 (x.2.getD i []).length) v
def inP (s:Int) (x:Bool×List (List Dp)) (e:Int×Int):Bool×List (List Dp) :=
 if e.2<x.2.length then (x.1,x.2.set e.2.toNat (x.2.getD e.2.toNat []++[(s,e.1)])) else (false,x.2)
theorem HidI.keep {w0:World} {l0:List Nat} {G:Nat→Prop} {k1 k2 k3 k4:Nat} {xs:List (List AV)} {s:Int} {x:Bool×List (List Dp)} {F:List Nat} {w w':World} (h:HidI w0 l0 G k1 k2 k3 k4 xs s x F w)
  (hF:∀ k∈F,w'.heap[k]?=w.heap[k]?) (hfr:Frame w0 l0 w') (hsz:w.heap.size≤w'.heap.size):HidI w0 l0 G k1 k2 k3 k4 xs s x F w':=by
 obtain ⟨E,o,L,vers,h1,h2,h3,h4,h5,h6⟩:=h
 refine ⟨E,o,L,vers,h1.keep hF hfr hsz,h2,h3,h4,h5,fun i hi=>?_⟩
 obtain ⟨v,q1,q2⟩:=h6 i hi
 refine ⟨v,q1,?_⟩
 simp only [Rep] at q2 ⊢
 exact q2
theorem repL_vm {E:Env} {w:World}:∀ {L vs:List Value},RepL E w (L.map AV.v) vs↔vs=L
 | [],[]=>by simp [RepL]
 | [],_::_=>by simp [RepL]
 | _::_,[]=>by simp [RepL]
 | a::L,v::vs=>by
  simp only [List.map_cons,RepL,Rep,CRep,repL_vm (L:=L),List.cons.injEq]
theorem repL_vset {E:Env} {w:World} {a:AV} {x:Value}:∀ {L:List Value} {j:Nat},L[j]?=some x→Rep E w a x→RepL E w (vset L j a) L
 | [],_,h,_=>by simp at h
 | v::L,0,h,hr=>by
  simp only [List.getElem?_cons_zero,Option.some.injEq] at h
  subst h
  simp only [vset,List.map_cons,List.set_cons_zero,RepL]
  exact ⟨hr,repL_vm.2 rfl⟩
 | v::L,j+1,h,hr=>by
  have:=repL_vset (L:=L) (j:=j) (by simpa using h) hr
  simp only [vset,List.map_cons,List.set_cons_succ,RepL,Rep,CRep,true_and] at this ⊢
  exact this
theorem repL_vset_inv {E:Env} {w:World} {a:AV}:∀ {L vs:List Value} {j:Nat},RepL E w (vset L j a) vs→j<L.length→vs.length=L.length∧(∀ k,k≠j→vs[k]?=L[k]?)∧∃ x,vs[j]?=some x∧Rep E w a x
 | [],_,_,_,h=>by simp at h
 | v::L,[],0,h,_=>by simp [vset,RepL] at h
 | v::L,[],j+1,h,_=>by simp [vset,RepL] at h
 | v::L,u::vs,0,h,_=>by
  simp only [vset,List.map_cons,List.set_cons_zero,RepL] at h
  obtain ⟨h1,h2⟩:=h
  rw [repL_vm] at h2
  subst h2
  refine ⟨rfl,fun k hk=>?_,u,rfl,h1⟩
  cases k with
  | zero=>exact absurd rfl hk
  | succ k=>rfl
 | v::L,u::vs,j+1,h,hj=>by
  have hh:RepL E w (vset L j a) vs∧u=v:=by
   simp only [vset,List.map_cons,List.set_cons_succ,RepL,Rep,CRep] at h ⊢
   exact ⟨h.2,h.1⟩
  obtain ⟨q1,q2,q3⟩:=repL_vset_inv (j:=j) hh.1 (by simpa using hj)
  refine ⟨by simp [q1],fun k hk=>?_,by simpa using q3⟩
  cases k with
  | zero=>simp [hh.2]
  | succ k=>simpa using q2 k (by omega)
theorem box_ver {E:Env} {w:World} {b:Nat} {cs:List AV} (h:ObjRep E w b (.box cs)):E.ver b=0:=by
 simp only [ObjRep] at h
 exact h.1
theorem stay0 {E E':Env} (h:E.Le E') {b:Nat} (hb:E.alive b) (h0:E.ver b=0):E'.ver b=0∧E'.loc b=E.loc b:=by
 rcases h.same b hb with ⟨q1,q2⟩|⟨q1,_⟩
 ·exact ⟨q1.trans h0,q2⟩
 ·omega
def pK (k:Nat):Value:=.pointer (some ⟨k,0,none⟩)
theorem HidI.call {w0:World} {l0:List Nat} {G:Nat→Prop} {k1 k2 k3 k4:Nat} {xs:List (List AV)} {s:Int} {x:Bool×List (List Dp)} {F:List Nat} {w:World} {X:AX} (hX:XOK Try.prog X) (hw:X.W wT) (h:HidI w0 l0 G k1 k2 k3 k4 xs s x F w)
  (hn:xs.length≤1000000) (hR:∀ i,(x.2.getD i []).length≤1000000) (pg nu:Int) (hnu:0≤nu) :
  Calls Try.prog 74 [Value.int .i64 pg,.int .i64 nu,pK k1,pK k2,pK k3,pK k4].toArray w fun e w'=>∃ r,e=.returned r∧HidI w0 l0 G k1 k2 k3 k4 xs s (inP s x (pg,nu)) (F++List.range' w.heap.size (w'.heap.size - w.heap.size)) w'∧Frame w F w':=by
 obtain ⟨ins,rows⟩:=x
 obtain ⟨E,o,L,vers,h1,h2,⟨l1,l2,l3,l4⟩,h4,h5,h6⟩:=h
 simp only at h1 h4 h6 hR
 have al:∀ b,b<5→E.alive b:=fun b hb=>(h2 b).2 (by omega)
 have v0:E.ver 0=0:=box_ver (h1.mem 0 (al 0 (by omega)))
 have v1:E.ver 1=0:=box_ver (h1.mem 1 (al 1 (by omega)))
 have v2:E.ver 2=0:=box_ver (h1.mem 2 (al 2 (by omega)))
 have v3:E.ver 3=0:=box_ver (h1.mem 3 (al 3 (by omega)))
 have v4:E.ver 4=0:=box_ver (h1.mem 4 (al 4 (by omega)))
 have hr:RepL E w [I pg,I nu,.bp 0 0,.bp 1 0,.bp 2 0,.bp 4 0] [Value.int .i64 pg,.int .i64 nu,pK k1,pK k2,pK k3,pK k4]:=by
  simp only [RepL,Rep,CRep,I,and_true]
  exact ⟨trivial,trivial,⟨al 0 (by omega),v0,k1,1,l1,rfl⟩,⟨al 1 (by omega),v1,k2,1,l2,rfl⟩,⟨al 2 (by omega),v2,k3,1,l3,rfl⟩,⟨al 4 (by omega),v4,k4,1,l4,rfl⟩⟩
 have hfresh:∀ k,5+xs.length≤k→k<5+xs.length+16→¬ E.alive k:=fun k q1 _ q2=>by
  have:=(h2 k).1 q2;omega
 rcases Decidable.em (nu<(xs.length:Int)) with hlt|hge
 ·obtain ⟨i,rfl⟩:∃ i:Nat,nu=i:=⟨nu.toNat,by omega⟩
  have hi:i<xs.length:=by omega
  have hP:inP s (ins,rows) (pg,(i:Int))=(ins,rows.set i (rows.getD i []++[(s,pg)])):=by
   unfold inP
   simp only [h4]
   rw [if_pos hlt]
   simp
  rw [hP]
  obtain ⟨v,q1,q2⟩:=h6 i hi
  obtain ⟨R,hRd⟩:∃ R,R=rows.getD i []:=⟨_,rfl⟩
  have hRl:=hR i
  rw [← hRd] at hRl q2 ⊢
  let M2:Nat→AO:=fun b=>if b=3 then .box (vset L (o+i) (.sl (5+i) (vers i) 2 0 R.length)) else hiM xs ins o L s vers rows b
  have hm2:MemOK E w M2:=fun b hb=>by
   show ObjRep E w b (if b=3 then _ else _)
   split
   ·rename_i e
    subst e
    have hm:=h1.mem 3 hb
    simp only [hiM,ObjRep] at hm ⊢
    obtain ⟨a1,blk,t,vs,a2,a3,a4,a5⟩:=hm
    rw [repL_vm] at a5
    subst a5
    exact ⟨a1,blk,t,vs,a2,a3,a4,repL_vset q1 q2⟩
   ·exact h1.mem b hb
  have hvi:1≤vers i:=by
   simp only [Rep] at q2
   exact q2.2.1
  have e5:M2 (5+i)=.vec (vers i) 2 false (prows R):=by
   show (if 5+i=3 then _ else hiM xs ins o L s vers rows (5+i))=_
   rw [if_neg (by omega),show 5+i=i+5 by omega]
   simp [hiM,hi,hRd]
  have hcl:=callIn (xs:=xs) (ins:=ins) (L:=L) (o:=o) (i:=i) (v:=vers i) (R:=R) (s:=s) pg h5 hi hn hRl hvi (e:=5+i) (by omega) M2 (5+xs.length) rfl rfl rfl rfl e5 rfl
  refine Calls.mono (HidE.call (GSound.callG (s74 X hX hw)) (h1.obj hm2) hr hfresh hcl) fun e w' ⟨r,E',p1,p2,p3,p4,p5⟩=>⟨r,p1,?_,p5⟩
  have hm':=p4.mem
  have al':∀ b,b<5+xs.length→E'.alive b:=fun b hb=>p3.le.alive b ((h2 b).2 hb)
  have o3:=hm' 3 (al' 3 (by omega))
  simp only [updM,show (3:Nat)≠0 by omega] at o3
  have o3':ObjRep E' w' 3 (.box (vset L (o+i) (.sl (5+i) (vers i+1) 2 0 (R.length+1)))):=by simpa [updM] using o3
  simp only [ObjRep] at o3'
  obtain ⟨a1,blk,t,vs,a2,a3,a4,a5⟩:=o3'
  obtain ⟨b1,b2,y,b3,b4⟩:=repL_vset_inv a5 (by omega)
  refine ⟨E',o,vs,fun j=>if j=i then vers i+1 else vers j,p4.obj fun b hb=>?_,fun b=>⟨fun hb=>?_,fun hb=>al' b hb⟩,⟨?_,?_,?_,?_⟩,by simpa using h4,by omega,fun j hj=>?_⟩
  ·have hob:=hm' b hb
   match b,hb,hob with
   | 0,_,hob=>simpa [updM,hiM] using hob
   | 1,_,hob=>simpa [updM,hiM] using hob
   | 2,_,hob=>simpa [updM,hiM] using hob
   | 3,_,_ =>
    simp only [hiM,ObjRep]
    exact ⟨a1,blk,t,vs,a2,a3,a4,repL_vm.2 rfl⟩
   | 4,_,hob =>
    have e4:(5+i=4)=False:=by simp;omega
    simpa [updM,hiM,e4] using hob
   | j+5,hb,hob =>
    simp only [hiM]
    by_cases ej:j=i
    ·subst ej
     have e0:(5+j=j+5)=True:=by simp;omega
     have g1:(rows.set j (R++[(s,pg)])).getD j []=R++[(s,pg)]:=by
      rw [List.getD_eq_getElem?_getD,List.getElem?_set_self (by omega)];rfl
     simp only [hi,if_true,g1]
     simpa [updM,e0] using hob
    ·have e0:(5+i=j+5)=False:=by simp;omega
     have g1:(rows.set i (R++[(s,pg)])).getD j []=rows.getD j []:=by
      rw [List.getD_eq_getElem?_getD,List.getElem?_set_ne (Ne.symm ej),List.getD_eq_getElem?_getD]
     simp only [ej,if_false,g1]
     simpa [updM,e0,M2,hiM] using hob
  ·rcases p3.alive b hb with q|q
   ·exact (h2 b).1 q
   ·simp only [List.map_cons,List.map_nil,List.mem_cons,List.not_mem_nil,or_false] at q
    omega
  ·rw [(stay0 p3.le (al 0 (by omega)) v0).2];exact l1
  ·rw [(stay0 p3.le (al 1 (by omega)) v1).2];exact l2
  ·rw [(stay0 p3.le (al 2 (by omega)) v2).2];exact l3
  ·rw [(stay0 p3.le (al 4 (by omega)) v4).2];exact l4
  ·by_cases ej:j=i
   ·subst ej
    have g1:(rows.set j (R++[(s,pg)])).getD j []=R++[(s,pg)]:=by
     rw [List.getD_eq_getElem?_getD,List.getElem?_set_self (by omega)];rfl
    simp only [g1,if_true,List.length_append,List.length_cons,List.length_nil,Nat.zero_add]
    exact ⟨y,b3,b4⟩
   ·have g1:(rows.set i (R++[(s,pg)])).getD j []=rows.getD j []:=by
     rw [List.getD_eq_getElem?_getD,List.getElem?_set_ne (Ne.symm ej),List.getD_eq_getElem?_getD]
    obtain ⟨z,c1,c2⟩:=h6 j hj
    simp only [g1,ej,if_false]
    exact ⟨z,(b2 (o+j) (by omega)).trans c1,p3.rep h1.base c2⟩
 ·have hP:inP s (ins,rows) (pg,nu)=(false,rows):=by
   unfold inP
   simp only [h4]
   rw [if_neg hge]
  rw [hP]
  have hcl:=callIu (xs:=xs) (ins:=ins) (L:=L) (o:=o) (s:=s) pg nu (by omega) (hiM xs ins o L s vers rows) (5+xs.length) rfl rfl rfl rfl rfl
  refine Calls.mono (HidE.call (GSound.callG (s74_o X hX hw)) h1 hr hfresh hcl) fun e w' ⟨r,E',p1,p2,p3,p4,p5⟩=>⟨r,p1,?_,p5⟩
  have hm':=p4.mem
  have al':∀ b,b<5+xs.length→E'.alive b:=fun b hb=>p3.le.alive b ((h2 b).2 hb)
  refine ⟨E',o,L,vers,p4.obj fun b hb=>?_,fun b=>⟨fun hb=>?_,fun hb=>al' b hb⟩,⟨?_,?_,?_,?_⟩,h4,h5,fun j hj=>?_⟩
  ·have hob:=hm' b hb
   match b,hb,hob with
   | 0,_,hob=>simpa [updM,hiM] using hob
   | 1,_,hob=>simpa [updM,hiM] using hob
   | 2,_,hob=>simpa [updM,hiM] using hob
   | 3,_,hob=>simpa [updM,hiM] using hob
   | 4,_,hob=>simpa [updM,hiM] using hob
   | j+5,hb,hob=>simpa [updM,hiM] using hob
  ·rcases p3.alive b hb with q|q
   ·exact (h2 b).1 q
   ·simp only [List.map_cons,List.map_nil,List.mem_cons,List.not_mem_nil,or_false] at q
    omega
  ·rw [(stay0 p3.le (al 0 (by omega)) v0).2];exact l1
  ·rw [(stay0 p3.le (al 1 (by omega)) v1).2];exact l2
  ·rw [(stay0 p3.le (al 2 (by omega)) v2).2];exact l3
  ·rw [(stay0 p3.le (al 4 (by omega)) v4).2];exact l4
  ·obtain ⟨z,c1,c2⟩:=h6 j hj
   exact ⟨z,c1,p3.rep h1.base c2⟩
end Go.AM
set_option maxHeartbeats 16000000
namespace Go.AM
open Go Go.Proofs
set_option maxRecDepth 4000 in
theorem callOf {L:List Dp} (fr s pg nu:Int) {v:Nat} (hl:L.length≤1000000) (hv:1≤v) {a b c d:Nat} (hab:a≠b) (hac:a≠c) (had:a≠d) (hbc:b≠c) (hbd:b≠d) (hcd:c≠d) (M:Nat→AO) (nid:Nat) (h0:M a=.box [I fr]) (h1:M b=.box [.sl c v 2 0 L.length]) (h2:M c=.vec v 2 false (prows L)) (h3:M d=.box [I s]) :
  callG ofS [I pg,I nu,.bp a 0,.bp b 0,.bp d 0] M nid=some (.tup [],[(a,.box [I fr]),(b,.box [.sl c (v+(ofE fr s [(pg,nu)]).length) 2 0 (L.length+(ofE fr s [(pg,nu)]).length)]),(c,.vec (v+(ofE fr s [(pg,nu)]).length) 2 false (prows (L++ofE fr s [(pg,nu)]))),(d,.box [I s])]):=by
 have hF:=ofS_at fr s pg nu hl
 obtain ⟨N,hN⟩:∃ N,N=ofE fr s [(pg,nu)]:=⟨_,rfl⟩
 rw [← hN] at hF ⊢
 simp only [ofM,List.length_append] at hF
 obtain ⟨u,rfl⟩:∃ u,v=1+u:=⟨v - 1,by omega⟩
 have hba:=hab.symm
 have hca:=hac.symm
 have hda:=had.symm
 have hcb:=hbc.symm
 have hdb:=hbd.symm
 have hdc:=hcd.symm
 have e1:1+N.length+u=1+u+N.length:=by omega
 unfold callG
 have hg:gat M 64 (nmsL [I pg,I nu,.bp a 0,.bp b 0,.bp d 0]) []=[a,b,c,d]:=by
  simp [gat,nmsL,AV.nms,AO.nms,h0,h1,h2,h3, *]
 simp only [hg]
 rw [if_pos ?cg]
 case cg=>simp [CallG,nmsL,AV.nms,AO.nms,Led,curBL,AV.curB,AO.curB,verOf,notDead,h0,h1,h2,h3,hab,hac,had,hbc,hbd,hcd,hba,hca,hda,hcb,hdb,hdc]
 simp [renL,AV.ren,AO.ren,posN,canO,nmsL,h0,h1,h2,h3,hab,hac,had,hbc,hbd,hcd,hba,hca,hda,hcb,hdb,hdc,hF,RetG,getL,AV.nms,AO.nms,updN,nmN,shN,verOf,rng,Led,e1]
abbrev NaD:=Tb×List Dp×Int×Int
noncomputable def naS:List AV→List AO→Option (AV×List AO):=specG (ι:={x:NaD // tbOK x.1∧x.2.1.length≤900000}) (fun x=>[TbV x.1.1,.fn 41 [.bp 0 0,.bp 1 0,.bp 3 0]]) (fun x=>ofM x.1.2.1 1 x.1.2.2.1 x.1.2.2.2) (fun _=>.tup [])
 fun x=>ofM (x.1.2.1++ofE x.1.2.2.1 x.1.2.2.2 (nmT (lstT x.1.1))) (1+(ofE x.1.2.2.1 x.1.2.2.2 (nmT (lstT x.1.1))).length) x.1.2.2.1 x.1.2.2.2
theorem naS_at {t:Tb} {L:List Dp} (fr s:Int) (ht:tbOK t) (h:L.length≤900000):naS [TbV t,.fn 41 [.bp 0 0,.bp 1 0,.bp 3 0]] (ofM L 1 fr s)=some (.tup [],ofM (L++ofE fr s (nmT (lstT t))) (1+(ofE fr s (nmT (lstT t))).length) fr s):=by
 refine specG_eq (ι:={x:NaD // tbOK x.1∧x.2.1.length≤900000}) (A:=fun x=>[TbV x.1.1,.fn 41 [.bp 0 0,.bp 1 0,.bp 3 0]]) (M:=fun x=>ofM x.1.2.1 1 x.1.2.2.1 x.1.2.2.2) (R:=fun _=>.tup []) (O:=fun x=>ofM (x.1.2.1++ofE x.1.2.2.1 x.1.2.2.2 (nmT (lstT x.1.1))) (1+(ofE x.1.2.2.1 x.1.2.2.2 (nmT (lstT x.1.1))).length) x.1.2.2.1 x.1.2.2.2) ⟨(t,L,fr,s),ht,h⟩ fun j hA hM=>?_
 obtain ⟨⟨t',L',fr',s'⟩,h'⟩:=j
 obtain ⟨rfl,rfl,rfl⟩:=ofM_inj hM
 simp only [List.cons.injEq,TbV_inj,and_true] at hA
 subst hA
 exact ⟨rfl,rfl⟩
theorem s40 (X:AX) (hX:XOK Try.prog X) (hw:X.W wT) (hli:∀ t:Tb,tbOK t→∀ M n,X.call 29 [TbV t] M n=some (.sl n 1 2 0 (lstT t).length,[(n,.vec 1 2 false (erows (lstT t)))]))
  (hde:∀ w:Nat,w<2^64→∀ M k,X.call 30 [U w] M k=some (.tup [EnV (decR w).1,I (decR w).2],[])) (hcl:X.call 41=callG ofS):GSound Try.prog 40 naS:=by
 unfold naS
 refine gsound_spec Try.func40 rfl X fun ⟨⟨⟨r,ns,ds⟩,L,fr,s⟩,ht,hl⟩ w0 B E=>⟨by show 2≤60;decide,?_⟩
 simp only at hl ht ⊢
 have li:=hli _ ht
 have hlu:=lst_u64 ht
 have hlp:=@lst_pg (r,ns,ds)
 have hll:=@lstT_l5 (r,ns,ds)
 obtain ⟨l,hL⟩:∃ l,l=lstT (r,ns,ds):=⟨_,rfl⟩
 rw [← hL] at li hlu hlp hll ⊢
 simp only [ofM,List.length_append]
 simp only [TbV] at li ⊢
 have hll2:=@nmT_len l
 have hall:=@ofE_len fr s (nmT l)
 have hca:∀ (A:List Dp) (v:Nat) (pg nu:Int),A.length≤1000000→1≤v→∀ M n,M 0=.box [I fr]→M 1=.box [.sl 2 v 2 0 A.length]→M 2=.vec v 2 false (prows A)→M 3=.box [I s] →
   X.call 41 [I pg,I nu,.bp 0 0,.bp 1 0,.bp 3 0] M n=some (.tup [],[(0,.box [I fr]),(1,.box [.sl 2 (v+(ofE fr s [(pg,nu)]).length) 2 0 (A.length+(ofE fr s [(pg,nu)]).length)]),(2,.vec (v+(ofE fr s [(pg,nu)]).length) 2 false (prows (A++ofE fr s [(pg,nu)]))),(3,.box [I s])]) :=
  fun A v pg nu h1 h2 M n q0 q1 q2 q3=>by rw [hcl];exact callOf fr s pg nu h1 h2 (by decide) (by decide) (by decide) (by decide) (by decide) (by decide) M n q0 q1 q2 q3
 show AW ⟨Try.prog,X,60,w0,⟨B,E,4⟩⟩ _ _ _
 have hc:Cx.OK ⟨Try.prog,X,60,w0,⟨B,E,4⟩⟩:=⟨hX,mixed⟩
 have zS:=li
 repeat' (first|(apply aw_seq_k;intro K hK)|(refine eM64 ?_)|(refine aw_cond (b:=_) (by exact rfl) (fun h=>?_) (fun h=>?_)<;>(try simp at h))|(refine eB ?_)|(refine hK _ ?_;clear hK)|(clear hK;refine hK _ ?_;clear hK)|(clear hK;clear hK;refine hK _ ?_;clear hK)|(clear hK;clear hK;clear hK;refine hK _ ?_;clear hK))
 all_goals clear zS
 refine aw_loopK (s0:=?lps1) (m0:=?lpm1) (ι:={i:Nat // i≤l.length}) [1,10,11] (fun i=>[(12,I i.1)]) (fun i=>[(1,.box [.sl 2 (1+(ofE fr s (nmT (l.take i.1))).length) 2 0 (L++ofE fr s (nmT (l.take i.1))).length]),(2,.vec (1+(ofE fr s (nmT (l.take i.1))).length) 2 false (prows (L++ofE fr s (nmT (l.take i.1)))))]) (fun i=>l.length - i.1) ⟨0,by omega⟩ ?lhs1 ?lhm1 ?_ ?_
 case lhs1=>first|(simp [keepS];done)|(simp [keepS];rfl)
 case lhm1=>first|rfl|(simp;done)|(simp;rfl)
 ·simp only [show ofE fr s (nmT (l.take 0))=[] by simp [nmT,ofE],List.append_nil,List.length_nil,Nat.add_zero]
  exact dle
 ·rintro ⟨i,hi⟩
  simp only
  have hNl:(ofE fr s (nmT (l.take i))).length≤4096:=by
   have h1:=@ofE_len fr s (nmT (l.take i))
   have h2:=@nmT_len (l.take i)
   have h3:(l.take i).length≤512:=by simp;omega
   omega
  rcases Decidable.em (i<l.length) with hil|hil
  ·have hilI:(i:Int)<(l.length:Int):=by omega
   have hg:=erows_giM hil
   have hgE:=erows_gEM hil
   have hu:=hlu _ (gpe_mem hil)
   have hpg:=hlp _ (gpe_mem hil)
   have de:=hde _ hu
   have hrg:=decR_rng (gpe l i).2
   have hns:=nmT_s hil
   obtain ⟨N,hN⟩:∃ N,N=ofE fr s (nmT (l.take i)):=⟨_,rfl⟩
   have hNs:ofE fr s (nmT (l.take (i+1)))=N++ofE fr s (nmE (gpe l i)):=by rw [hns,ofE_app,hN]
   rw [← hN] at hNl ⊢
   obtain ⟨⟨pg,w⟩,hx⟩:∃ x,x=gpe l i:=⟨_,rfl⟩
   rw [← hx] at hg hgE hu hpg de hrg hNs
   simp only at hg hgE hu hpg de hrg
   have hnE:nmE (pg,w)=if (decR w).1.1=1∧(decR w).1.2.2.2.2.2=true then (List.range 8).map fun i=>(pg+(i:Nat),(decR w).1.2.1+(i:Nat)) else if (decR w).1.1=1∨(decR w).1.1=3 then [(pg,(decR w).1.2.1)] else []:=rfl
   obtain ⟨⟨⟨k,num,b1,b2,b3,hgh⟩,er⟩,hD⟩:∃ x,x=decR w:=⟨_,rfl⟩
   rw [← hD] at de hrg hnE
   simp only at de hrg hnE
   simp only [EnV] at de
   rcases Decidable.em (k=1) with hk|hk
   ·subst hk
    cases hgh with
    | true =>
     rw [if_pos (by simp)] at hnE
     have zS:=jj hilI<|jj hg<|jj hgE<|de
     repeat' (first|(apply aw_seq_k;intro K hK)|(refine eM64 ?_)|(refine aw_cond (b:=_) (by exact rfl) (fun h=>?_) (fun h=>?_)<;>(try simp at h))|(refine eB ?_)|(refine hK _ ?_;clear hK)|(clear hK;refine hK _ ?_;clear hK)|(clear hK;clear hK;refine hK _ ?_;clear hK)|(clear hK;clear hK;clear hK;refine hK _ ?_;clear hK))
     all_goals clear zS
     have hQs:∀ j,j<8→ofE fr s ((nmE (pg,w)).take (j+1))=ofE fr s ((nmE (pg,w)).take j)++ofE fr s [(pg+(j:Nat),num+(j:Nat))]:=fun j hj=>by
      rw [← ofE_app]
      congr 1
      rw [hnE,List.take_add_one]
      simp [List.getElem?_range,hj]
     have hQl:∀ j,(ofE fr s ((nmE (pg,w)).take j)).length≤8:=fun j=>by
      have h1:=@ofE_len fr s ((nmE (pg,w)).take j)
      have h2:=@nmE_len (pg,w)
      have h3:((nmE (pg,w)).take j).length≤(nmE (pg,w)).length:=by simp;omega
      omega
     have hQ8:(nmE (pg,w)).take 8=nmE (pg,w):=List.take_of_length_le nmE_len
     clear hnE
     obtain ⟨F,hF⟩:∃ F:Nat→List Dp,∀ j,F j=ofE fr s ((nmE (pg,w)).take j):=⟨_,fun _=>rfl⟩
     have hF0:F 0=[]:=by rw [hF];simp [ofE]
     have hF8:ofE fr s (nmE (pg,w))=F 8:=by rw [hF,hQ8]
     rw [hF8] at hNs
     simp only [← hF] at hQs hQl
     refine aw_loopK (s0:=?lps2) (m0:=?lpm2) (ι:={j:Nat // j≤8}) [1,5,6,10,11,12] (fun j=>[(30,I j.1)]) (fun j=>[(1,.box [.sl 2 (1+N.length+(F j.1).length) 2 0 (L.length+N.length+(F j.1).length)]),(2,.vec (1+N.length+(F j.1).length) 2 false (prows (L++(N++F j.1))))]) (fun j=>8 - j.1) ⟨0,by omega⟩ ?lhs2 ?lhm2 ?_ ?_
     case lhs2=>first|(simp [keepS];done)|(simp [keepS];rfl)
     case lhm2=>first|rfl|(simp;done)|(simp;rfl)
     ·simp only [hF0,List.append_nil,List.length_nil,Nat.add_zero]
      exact le_of2 (by simp) (by simp [AVle,AV.under,AV.underL,U]<;>omega) (by simp [AOle,AO.under,AV.underL,AV.under,U]<;>omega)
     ·rintro ⟨j,hj⟩
      simp only
      rcases Decidable.em (j<8) with hjl|hjl
      ·have hjI:(j:Int)<8:=by omega
       have hql:=hQl j
       have ca:=hca (L++(N++F j)) (1+N.length+(F j).length) (pg+(j:Nat)) (num+(j:Nat)) (by simp;omega) (by omega)
       have hqs:=hQs j hjl
       obtain ⟨Q,hQ⟩:∃ Q,Q=ofE fr s [(pg+(j:Nat),num+(j:Nat))]:=⟨_,rfl⟩
       rw [← hQ] at ca hqs
       obtain ⟨P,hP⟩:∃ P,P=F j:=⟨_,rfl⟩
       rw [← hP] at hql ca hqs ⊢
       simp only [List.length_append,← Nat.add_assoc] at ca
       have zS:=jj hjI<|ca
       repeat' (first|(apply aw_seq_k;intro K hK)|(refine eM64 ?_)|(refine aw_cond (b:=_) (by exact rfl) (fun h=>?_) (fun h=>?_)<;>(try simp at h))|(refine eB ?_)|(refine hK _ ?_;clear hK)|(clear hK;refine hK _ ?_;clear hK)|(clear hK;clear hK;refine hK _ ?_;clear hK)|(clear hK;clear hK;clear hK;refine hK _ ?_;clear hK))
       all_goals clear zS
       refine ⟨j+1,?_,by omega,by omega⟩
       simp only [hqs,List.length_append,← Nat.add_assoc,List.append_assoc]
       exact le_of2 (by simp) (by simp [AVle,AV.under,AV.underL,U]<;>omega) (by simp [AOle,AO.under,AV.underL,AV.under,U]<;>omega)
      ·obtain rfl:j=8:=by omega
       repeat' (first|(apply aw_seq_k;intro K hK)|(refine eM64o ?_)|(refine aw_cond (b:=_) (by exact rfl) (fun h=>?_) (fun h=>?_)<;>(try simp at h))|(refine eB ?_)|(refine hK _ ?_;clear hK)|(clear hK;refine hK _ ?_;clear hK)|(clear hK;clear hK;refine hK _ ?_;clear hK)|(clear hK;clear hK;clear hK;refine hK _ ?_;clear hK))
       refine ⟨i+1,?_,by omega,by omega⟩
       simp only [hNs,List.length_append,← Nat.add_assoc]
       exact dle
    | false =>
     rw [if_neg (by simp),if_pos (by simp)] at hnE
     have ca:=hca (L++N) (1+N.length) pg num (by simp;omega) (by omega)
     have hNs':(ofE fr s [(pg,num)])=(ofE fr s [(pg,num)]):=rfl
     rw [hnE] at hNs
     obtain ⟨Q,hQ⟩:∃ Q,Q=ofE fr s [(pg,num)]:=⟨_,rfl⟩
     rw [← hQ] at ca hNs
     simp only [List.length_append] at ca
     have zS:=jj hilI<|jj hg<|jj hgE<|jj de<|ca
     repeat' (first|(apply aw_seq_k;intro K hK)|(refine eM64 ?_)|(refine aw_cond (b:=_) (by exact rfl) (fun h=>?_) (fun h=>?_)<;>(try simp at h))|(refine eB ?_)|(refine hK _ ?_;clear hK)|(clear hK;refine hK _ ?_;clear hK)|(clear hK;clear hK;refine hK _ ?_;clear hK)|(clear hK;clear hK;clear hK;refine hK _ ?_;clear hK))
     all_goals clear zS
     refine ⟨i+1,?_,by omega,by omega⟩
     simp only [hNs,List.length_append,← Nat.add_assoc]
     exact dle
   ·rcases Decidable.em (k=3) with hk3|hk3
    ·subst hk3
     rw [if_neg (by simp),if_pos (by simp)] at hnE
     have ca:=hca (L++N) (1+N.length) pg num (by simp;omega) (by omega)
     rw [hnE] at hNs
     obtain ⟨Q,hQ⟩:∃ Q,Q=ofE fr s [(pg,num)]:=⟨_,rfl⟩
     rw [← hQ] at ca hNs
     simp only [List.length_append] at ca
     have zS:=jj hilI<|jj hg<|jj hgE<|jj de<|ca
     repeat' (first|(apply aw_seq_k;intro K hK)|(refine eM64 ?_)|(refine aw_cond (b:=_) (by exact rfl) (fun h=>?_) (fun h=>?_)<;>(try simp at h))|(refine eB ?_)|(refine hK _ ?_;clear hK)|(clear hK;refine hK _ ?_;clear hK)|(clear hK;clear hK;refine hK _ ?_;clear hK)|(clear hK;clear hK;clear hK;refine hK _ ?_;clear hK))
     all_goals clear zS
     refine ⟨i+1,?_,by omega,by omega⟩
     simp only [hNs,List.length_append,← Nat.add_assoc]
     exact dle
    ·rw [if_neg (by simp [hk]),if_neg (by simp [hk,hk3])] at hnE
     rw [hnE,show ofE fr s []=[] from rfl,List.append_nil] at hNs
     have zS:=jj hilI<|jj hg<|jj hgE<|jj de<|jj hk<|hk3
     repeat' (first|(apply aw_seq_k;intro K hK)|(refine eM64 ?_)|(refine aw_cond (b:=_) (by exact rfl) (fun h=>?_) (fun h=>?_)<;>(try simp at h))|(refine eB ?_)|(refine hK _ ?_;clear hK)|(clear hK;refine hK _ ?_;clear hK)|(clear hK;clear hK;refine hK _ ?_;clear hK)|(clear hK;clear hK;clear hK;refine hK _ ?_;clear hK))
     all_goals clear zS
     refine ⟨i+1,?_,by omega,by omega⟩
     simp only [hNs,List.length_append]
     exact dle
  ·obtain rfl:i=l.length:=by omega
   rw [List.take_length]
   repeat' (first|(apply aw_seq_k;intro K hK)|(refine eM64o ?_)|(refine aw_cond (b:=_) (by exact rfl) (fun h=>?_) (fun h=>?_)<;>(try simp at h))|(refine eB ?_)|(refine hK _ ?_;clear hK)|(clear hK;refine hK _ ?_;clear hK)|(clear hK;clear hK;refine hK _ ?_;clear hK)|(clear hK;clear hK;clear hK;refine hK _ ?_;clear hK))
   refine ⟨[],rfl,?_⟩
   simp only [idx,List.length_append]
   exact dle
end Go.AM
