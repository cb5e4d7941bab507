/- A part of the proof: what functions of the program compute, by abstract execution of their code. Its theorems hold without further condition. -/
import Derived.Test.YtcfhmdljeeppfaaUTPt81
import Derived.Test.YtcfhmdljeeppfaaUTMb0
import Derived.Test.YtcfhmdljeeppfaaUAmMp
set_option linter.all false
namespace Go.AM
open Go Go.Proofs
theorem rows_te:∀ {xs:List (List AV)},(∀ e∈xs,FitL [shI,shI,shQ] e)→∃ l,xs=trows l∧∀ x∈l,x.2.2<2^64
 | [],_=>⟨[],rfl,by simp⟩
 | e::r,h=>by
  obtain ⟨l,rfl,hl⟩:=rows_te (xs:=r) fun e' he=>h e' (by simp [he])
  obtain ⟨a,ar,rfl,ha,hr⟩:=fitL_cons (h e (by simp))
  obtain ⟨b,br,rfl,hb,hr2⟩:=fitL_cons hr
  obtain ⟨c,rfl,hc⟩:=fitL_one hr2
  obtain ⟨x,rfl,_⟩:=fit_int ha
  obtain ⟨y,rfl,_⟩:=fit_int hb
  obtain ⟨w,rfl,hw⟩:=fit_u64 hc
  refine ⟨(x,y,w)::l,rfl,fun z hz=>?_⟩
  rcases List.mem_cons.1 hz with rfl|hz
  ·exact hw
  ·exact hl z hz
def tlF (b:Tl):Prop:=∀ x∈b.2,x.2.2<2^64
theorem tlF_ok {b:Tl} (h:tlF b) (hl:b.2.length≤40):tlOK b:=⟨by omega,h⟩
theorem arg_tl {a:AV} (h:FitArg Try.prog 34 a):∃ b:Tl,a=TlV b∧tlF b:=by
 obtain ⟨cs,rfl,hf⟩:=arg_str (show shapeOf Try.prog 10 34=some [shI,.sl [shI,shI,shQ]] by kernel_rfl) Try.underlying34 h
 obtain ⟨x,ar,rfl,ha,hr⟩:=fitL_cons hf
 obtain ⟨y,rfl,hb⟩:=fitL_one hr
 obtain ⟨z,rfl,_⟩:=fit_int ha
 simp only [Fit] at hb
 obtain ⟨xs,rfl,_,hx⟩:=hb
 obtain ⟨l,rfl,hl⟩:=rows_te hx
 exact ⟨(z,l),rfl,hl⟩
theorem cLo (t:Tb) (p:Int) (wr:Bool) (h:tbOK t) (M:Nat→AO) (n:Nat):callP LoF [TbV t,I p,B wr] M n=some (.tup [I (loT t p wr).1,I (loT t p wr).2],[]):=by
 unfold LoF
 rw [callP_spec (ι:={x:Tb×Int×Bool // tbOK x.1}) (A:=fun x=>[TbV x.1.1,I x.1.2.1,B x.1.2.2]) (R:=fun x=>retOf [I (loT x.1.1 x.1.2.1 x.1.2.2).1,I (loT x.1.1 x.1.2.1 x.1.2.2).2]) ⟨(t,p,wr),h⟩ (by simp [TbV]) ?_ (by simp [retOf,openRet,openVals,openVal,openLeaves,openLeaf])]
 ·simp [retOf,openRet,openVals,openVal,openLeaves,openLeaf]
 ·rintro ⟨⟨t',p',w'⟩,h'⟩ e
  simp only [List.cons.injEq,TbV_inj,Iinj,Binj,and_true] at e
  obtain ⟨rfl,rfl,rfl⟩:=e;rfl
theorem cRr (b:Tl) (wr:Bool) (h:tlOK b) (M:Nat→AO) (n:Nat):callP RcF [TlV b,B wr] M n=some (.sl n 1 1 0 (rcT b wr).length,[(n,.vec 1 1 false (irows (rcT b wr)))]):=by
 unfold RcF
 rw [callP_spec (ι:={x:Tl×Bool // tlOK x.1}) (A:=fun x=>[TlV x.1.1,B x.1.2]) (R:=fun x=>retOf [.ow 1 (irows (rcT x.1.1 x.1.2))]) ⟨(b,wr),h⟩ (by simp [TlV]) ?_ (by rw [open_irow];simp only;omega),open_irow]
 rintro ⟨⟨b',wr'⟩,h'⟩ e
 simp only [List.cons.injEq,TlV_inj,Binj,and_true] at e
 obtain ⟨rfl,rfl⟩:=e;rfl
theorem rcT_len {b:Tl} {wr:Bool}:(rcT b wr).length≤128:=by
 unfold rcT
 split
 ·simp
 ·rename_i h
  have h2:=chB_z.1 (Decidable.not_not.1 h)
  have:=@rcL_len wr b.2 b.2.length
  simp
  omega
end Go.AM
namespace Go.AM
open Go Go.Proofs
theorem chB_pw {b:Tl}:chB b=0↔1≤b.1∧b.1≤16∧(b.2.length:Int)≤b.1∧(∀ x∈b.2,efE x=0)∧b.2.Pairwise fun x y=>ovB x y=false:=by
 rw [chB_z]
 constructor
 ·rintro ⟨h1,h2,h3,h4⟩
  refine ⟨h1,h2,h3,fun x hx=>?_,List.pairwise_iff_getElem.2 fun i j hi hj hij=>?_⟩
  ·obtain ⟨i,hi,rfl⟩:=List.mem_iff_getElem.1 hx
   rw [← gt_eq hi]
   exact (erE_z (h4 i hi)).1
  ·have:=(erE_z (h4 j hj)).2 (gt b.2 i) (by rw [gt_eq hi];exact List.mem_take_iff_getElem.2 ⟨i,by omega,rfl⟩)
   rw [gt_eq hi,gt_eq hj,ovB_comm] at this
   exact this
 ·rintro ⟨h1,h2,h3,h4,h5⟩
  refine ⟨h1,h2,h3,fun i hi=>?_⟩
  refine erE_0 (h4 _ (gt_mem hi)) ?_
  rw [List.any_eq_false]
  intro y hy
  obtain ⟨j,hj,rfl⟩:=List.mem_take_iff_getElem.1 hy
  have:=List.pairwise_iff_getElem.1 h5 j i (by omega) hi (by omega)
  rw [gt_eq hi,ovB_comm,this];simp
theorem chB_sub {z:Int} {l l':List Te} (h:chB (z,l)=0) (hs:l'.Sublist l):chB (z,l')=0:=by
 rw [chB_pw] at h ⊢
 obtain ⟨h1,h2,h3,h4,h5⟩:=h
 have:=hs.length_le
 exact ⟨h1,h2,by simp only at h3 ⊢;omega,fun x hx=>h4 x (hs.subset hx),h5.sublist hs⟩
theorem lk_cases {b:Tl} (h:chB b=0) (s p:Int):(∃ x∈b.2,cvB x s p=true∧lkT b s p=(x.2.2,true))∨(lkT b s p=(0,false)∧∀ x∈b.2,cvB x s p=false):=by
 unfold lkT
 rw [if_neg (by simp [h])]
 cases hf:b.2.find? fun x=>cvB x s p with
 | none =>
  right
  refine ⟨rfl,fun x hx=>?_⟩
  have:=List.find?_eq_none.1 hf x hx
  simpa using this
 | some x =>
  left
  exact ⟨x,List.mem_of_find?_eq_some hf,by have:=List.find?_some hf;simpa using this,rfl⟩
end Go.AM
namespace Go.AM
open Go Go.Proofs
theorem walk_nat {t:Tb} (h:chk t=0) {p:Nat} (hp:p<512):walkT t p=((lsT t p).2.2,(lsT t p).2.1,0):=by
 rw [walkT_z (ckd_z h (by omega) (by omega)),Int.toNat_natCast]
theorem tlOK_of {b:Tl} (h:chB b=0) (hw:∀ x∈b.2,x.2.2<2^64):tlOK b:=by
 have:=chB_z.1 h
 exact ⟨by omega,hw⟩
theorem frJ_mono {n:Int} {L:List Int} {y:Int} (h:y∈L):∀ {j:Nat},y∈frJ n L j
 | 0=>h
 | j+1=>dd1_mem.2 (.inl (frJ_mono h))
theorem frJ_mem {n:Int} {L:List Int} {i:Nat}:∀ {j:Nat},i<j→n+i∈frJ n L j
 | 0,h=>absurd h (by omega)
 | j+1,h=>by
  simp only [frJ,dd1_mem]
  rcases Nat.lt_succ_iff_lt_or_eq.1 h with h|rfl
  ·exact .inl (frJ_mem h)
  ·exact .inr rfl
theorem rcL_mono {wr:Bool} {l:List Te} {y:Int} {i:Nat} (h:y∈rcL wr l i):∀ {j:Nat},i≤j→y∈rcL wr l j
 | 0,hj=>by
  obtain rfl:i=0:=by omega
  exact h
 | j+1,hj=>by
  rcases Nat.lt_or_ge j i with h2|h2
  ·obtain rfl:i=j+1:=by omega
   exact h
  ·have ih:=rcL_mono h h2
   simp only [rcL]
   split
   ·exact ih
   ·exact frJ_mono ih
theorem hit_reach {b:Tl} {wr:Bool} {x:Te} (hc:chB b=0) (hx:x∈b.2) (hs:rcS wr x=false) {p:Int} (hp:0≤p):frmG (decR x.2.2).1 p∈rcT b wr:=by
 unfold rcT
 rw [if_neg (by simp [hc]),(sortL_perm _).mem_iff]
 obtain ⟨i,hi,rfl⟩:=List.mem_iff_getElem.1 hx
 refine rcL_mono (i:=i+1) ?_ (by omega)
 rw [← gt_eq hi] at hs ⊢
 simp only [rcL]
 rw [if_neg (by simp [hs])]
 unfold frmG rcJ rcE
 split
 ·have:=@frJ_mem (decR (gt b.2 i).2.2).1.2.1 (rcL wr b.2 i) (p%8).toNat 8 (by omega)
  rw [show (((p%8).toNat:Nat):Int)=p%8 by omega] at this
  exact this
 ·have:=@frJ_mem (decR (gt b.2 i).2.2).1.2.1 (rcL wr b.2 i) 0 1 (by omega)
  simpa using this
def b1:Tl:=(1,[])
def noT (r:Int):Tb:=(r,[(r,zs8)],[])
theorem noT_ok (r:Int):tbOK (noT r):=by
 refine ⟨fun n hn=>?_,by simp [noT],by simp [noT]⟩
 simp [noT] at hn
 subst hn
 exact ⟨rfl,fun w hw=>by simp [zs8] at hw;omega⟩
theorem noT_vt {r:Int} (h:0≤r∧r≤4294967295):Vt (noT r)∧∀ p,p<512→wlk (Mof (noT r).2.1) r p=(r,2,0):=by
 have hasc:ascN (noT r).2.1:=List.pairwise_singleton _ _
 have hM:Mof (noT r).2.1 r=some zs8:=(mem_Mof hasc).1 (by simp [noT])
 have hz:∀ i,wM (Mof (noT r).2.1) r i=0:=fun i=>by unfold wM;rw [hM];exact zs8_getD i
 have h1:∀ q,frP WA (Mof (noT r).2.1) r 1 q=none:=fun q=>by
  simp only [frP,Option.bind_some]
  rw [hz];exact tab0
 have h2:∀ q,frP WA (Mof (noT r).2.1) r 2 q=none:=fun q=>by
  have:=h1 (q/8)
  simp only [frP] at this ⊢
  rw [this];rfl
 have hcase:∀ d q,(d,q)∈Pos→∀ f,frP WA (Mof (noT r).2.1) r d q=some f→d=0∧q=0∧f=r:=fun d q hx f hf=>by
  rcases mem_Pos.1 hx with ⟨a,b⟩|⟨a,b⟩|⟨a,b⟩
  ·simp only at a b
   subst a b
   simp only [frP,Option.some.injEq] at hf
   exact ⟨rfl,rfl,hf.symm⟩
  ·simp only at a
   subst a
   rw [h1] at hf;cases hf
  ·simp only at a
   subst a
   rw [h2] at hf;cases hf
 have hvm:VM WA (Mof (noT r).2.1) r:=by
  refine ⟨fun d q hx f hf=>?_,fun d q d' q' hx hx' f hf hf'=>?_,fun f ws hf=>?_⟩
  ·obtain ⟨rfl,rfl,rfl⟩:=hcase d q hx f hf
   refine ⟨zs8,hM,rfl,fun i hi=>?_⟩
   rw [zs8_getD]
   rfl
  ·obtain ⟨rfl,rfl,rfl⟩:=hcase d q hx f hf
   obtain ⟨rfl,rfl,_⟩:=hcase d' q' hx' f hf'
   exact ⟨rfl,rfl⟩
  ·have:=(mem_Mof hasc).2 hf
   simp [noT] at this
   exact ⟨0,0,Pos0,by rw [this.1];rfl⟩
 refine ⟨⟨⟨fun n hn=>?_,by simp [noT],hasc,List.Pairwise.nil,by simp [noT],List.Pairwise.nil,⟨(r,zs8),by simp [noT],rfl⟩⟩,hvm,?_⟩,fun p hp=>?_⟩
 ·simp [noT] at hn
  subst hn
  exact h
 ·show []=hugM (Mof (noT r).2.1) r
  unfold hugM
  rw [List.filter_eq_nil_iff.2]
  ·rfl
  ·intro k hk
   unfold hugB
   rw [h1];simp
 ·rw [wlk_of (M:=Mof (noT r).2.1) (root:=r) hp (l:=2) (by omega) (f:=r) rfl (.inl (by rw [hz];exact tab0)),hz]
theorem noT_ls {r:Int} (h:0≤r∧r≤4294967295):chk (noT r)=0∧∀ p,p<512→(lsT (noT r) p).2.2=0:=by
 obtain ⟨h1,h2⟩:=noT_vt h
 refine ⟨(chk_iff (noT_ok r)).2 h1,fun p hp=>?_⟩
 have:=(h1.pv.walk hp).2.2
 rw [this]
 show (wlk (Mof (noT r).2.1) r p).2.2=0
 rw [h2 p hp]
theorem no_ac {r:Int} (h:0≤r∧r≤4294967295) {b:Tl} (hb:chB b=0) {s:Int} (hs:0≤s∧s<8) {p:Nat} (hp:p<512) (wr:Bool) :
  acT (noT r) b s p wr=if (lkT b s p).2=true∧(wr=false∨((decR (lkT b s p).1).1.2.2.1=true∧(decR (lkT b s p).1).1.2.2.2.2.1=true)) then (noT r,b,frmG (decR (lkT b s p).1).1 p,0) else (noT r,(b.1,b.2.filter fun y=>!cvB y s p),0,13):=by
 obtain ⟨h1,h2⟩:=noT_ls h
 have hpl:plcB s p=true:=by unfold plcB;exact decide_eq_true ⟨hs.1,hs.2,by omega,by omega⟩
 unfold acT
 rw [if_neg (by simp [h1]),if_neg (by simp [hb]),if_neg (by simp [hpl])]
 split
 ·rfl
 ·unfold acM
  rw [walk_nat h1 hp,h2 p hp]
  simp only
  have e:rfE (decR 0).1 wr=13:=by rw [decR_0];rfl
  rw [e,if_pos (by decide)]
  unfold inT
  rw [if_neg (by simp [hb]),if_neg (by simp [hpl])]
theorem stale_hit {b:Tl} (hb:chB b=0) {s:Int} {p:Nat} (wr:Bool) (h:(lkT b s p).2=true∧(wr=false∨((decR (lkT b s p).1).1.2.2.1=true∧(decR (lkT b s p).1).1.2.2.2.2.1=true))):frmG (decR (lkT b s p).1).1 p∈rcT b wr:=by
 rcases lk_cases hb s p with ⟨x,hx,_,e⟩|⟨e,_⟩
 ·rw [e] at h ⊢
  simp only at h ⊢
  refine hit_reach hb hx ?_ (by omega)
  unfold rcS rcE
  rcases h.2 with h|h
  ·rw [h];rfl
  ·rw [h.1,h.2];simp
 ·rw [e] at h;exact absurd h.1 (by decide)
theorem stale_miss {b:Tl} (hb:chB b=0) {s:Int} {p:Nat}:chB (b.1,b.2.filter fun y=>!cvB y s p)=0∧lkT (b.1,b.2.filter fun y=>!cvB y s p) s p=(0,false):=by
 have h:chB (b.1,b.2.filter fun y=>!cvB y s p)=0:=chB_sub hb List.filter_sublist
 refine ⟨h,?_⟩
 rcases lk_cases h s p with ⟨x,hx,hc,_⟩|⟨e,_⟩
 ·have:=(List.mem_filter.1 hx).2
  rw [hc] at this;cases this
 ·exact e
end Go.AM
namespace Go.AM
open Go Go.Proofs
set_option maxRecDepth 4000
@[simp] theorem tyTry:Types Try.prog 44=some ⟨.struct [(0,3,1),(1,3,1),(2,4,1)],3,24,[.int .i64 0,.int .i64 0,.bool false]⟩:=by kernel_rfl
noncomputable def acR (t:Tb) (b:Tl) (s p:Int) (wr:Bool) (n:Nat):Option (AV×List (Nat×AO)):=some (.tup [TbC (acT t b s p wr).1 n,TlC (acT t b s p wr).2.1 (n+2),I (acT t b s p wr).2.2.1,I (acT t b s p wr).2.2.2],outT (acT t b s p wr).1 n++outC (acT t b s p wr).2.1 (n+2))
theorem kAc3 {r:Int} {b:Tl} {s p:Int} {wr:Bool} (hb:tlOK b) {c vc:Nat} {fc:Bool} {M:Nat→AO} (h1:M c=.vec vc 9 fc [[I r,.v (.int .u64 0),.v (.int .u64 0),.v (.int .u64 0),.v (.int .u64 0),.v (.int .u64 0),.v (.int .u64 0),.v (.int .u64 0),.v (.int .u64 0)]]) (n:Nat) :
  callP (fun avs=>AcF (nilP [2,3] avs)) [.agg [I r,.sl c vc 9 0 1,.v (.slice none 0 0)],TlV b,I s,I p,B wr] M n=acR (noT r) b s p wr n :=
 oAc (noT_ok r) hb (by
  simp [h1,TlV,nilP,nilV,nilA]
  rfl) n
theorem kAc4 {r:Int} {b:Tl} {s p:Int} {wr:Bool} (hb:tlOK b) {c vc:Nat} {fc:Bool} {d vd:Nat} {fd:Bool} {M:Nat→AO} (h1:M c=.vec vc 9 fc [[I r,.v (.int .u64 0),.v (.int .u64 0),.v (.int .u64 0),.v (.int .u64 0),.v (.int .u64 0),.v (.int .u64 0),.v (.int .u64 0),.v (.int .u64 0)]]) (h2:M d=.vec vd 3 fd (trows b.2)) (n:Nat) :
  callP (fun avs=>AcF (nilP [2,3] avs)) [.agg [I r,.sl c vc 9 0 1,.v (.slice none 0 0)],.agg [I b.1,.sl d vd 3 0 b.2.length],I s,I p,B wr] M n=acR (noT r) b s p wr n :=
 oAc (noT_ok r) hb (by
  have tk:List.take b.2.length (trows b.2)=trows b.2:=tkT _
  have ll:(trows b.2).length=b.2.length:=by simp [trows]
  simp [h1,h2,tk,ll,TlV,nilP,nilV,nilA]
  rfl) n
theorem StlF_at {a b:Tl} (h1:a.2.length≤1000000) (h2:b.2.length≤1000000):StlF [TlV a,TlV b]=some (B (decide (a=b))):=by
 refine specF_eq (ι:={x:Tl×Tl // x.1.2.length≤1000000∧x.2.2.length≤1000000}) (A:=fun x=>[TlV x.1.1,TlV x.1.2]) (R:=fun x=>retOf [B (decide (x.1.1=x.1.2))]) ⟨(a,b),h1,h2⟩ fun j e=>?_
 obtain ⟨⟨a',b'⟩,h'⟩:=j
 simp only [List.cons.injEq,TlV_inj,and_true] at e
 obtain ⟨rfl,rfl⟩:=e;rfl
theorem kSt {b:Tl} (hb:b.2.length≤1000000) {avs:List AV} {M:Nat→AO} (hp:peekVals M avs=some [TlV b,TlV b]) (n:Nat):callP StlF avs M n=some (B true,[]):=by
 unfold callP
 simp only [hp,StlF_at hb hb]
 simp
def TryV (y:Int×Int×Bool):AV:=.agg [I y.1,I y.2.1,B y.2.2]
theorem arg_try {a:AV} (h:FitArg Try.prog 44 a):∃ y,a=TryV y:=by
 obtain ⟨cs,rfl,hf⟩:=arg_str (show shapeOf Try.prog 10 44=some [shI,shI,shB] by kernel_rfl) Try.underlying44 h
 obtain ⟨x,ar,rfl,ha,hr⟩:=fitL_cons hf
 obtain ⟨y,br,rfl,hb,hr2⟩:=fitL_cons hr
 obtain ⟨z,rfl,hc⟩:=fitL_one hr2
 obtain ⟨s,rfl,_⟩:=fit_int ha
 obtain ⟨p,rfl,_⟩:=fit_int hb
 obtain ⟨wr,rfl⟩:=fit_bool hc
 exact ⟨(s,p,wr),rfl⟩
theorem tl_try_int_F (avs:List AV) (h:FitArgs Try.prog [34,44,3] avs):specF (ι:={x:Tl×(Int×Int×Bool)×Int // tlF x.1}) (fun x=>[TlV x.1.1,TryV x.1.2.1,I x.1.2.2]) (fun _=>retOf [B true]) avs=some (B true):=by
 match avs,h with
 | [a,b,c],h =>
  simp only [FitArgs] at h
  obtain ⟨t,rfl,ht⟩:=arg_tl h.1
  obtain ⟨x,rfl⟩:=arg_try h.2.1
  obtain ⟨y,rfl⟩:=arg_int h.2.2.1
  exact specF_eq (A:=fun x:{x:Tl×(Int×Int×Bool)×Int // tlF x.1}=>[TlV x.1.1,TryV x.1.2.1,I x.1.2.2]) (R:=fun _=>retOf [B true]) ⟨(t,x,y),ht⟩ fun _ _=>rfl
 | [],h=>simp [FitArgs] at h
 | [_],h=>simp [FitArgs] at h
 | [_,_],h=>simp [FitArgs] at h
 | _::_::_::_::_,h=>simp [FitArgs] at h
structure LawK (X:AX):Prop where
 ok:XOK Try.prog X
 w:X.W wT
 few:∀ (t:Tb) M n,X.call 19 [TbV t] M n=some (B (decide (t.2.1.length≤80∧t.2.2.length≤70)),[])
 aw:∀ M n,X.call 15 [] M n=some (B true,[])
 ac:X.call 23=callP fun avs=>AcF (nilP [2,3] avs)
 ha:X.call 20=callP HaF
 rc:X.call 17=callP RcF
 sam:∀ t:Tb,tbOK t→SamO X t
 st:X.call 24=callP StlF
 ct:OwnI X
 ck:∀ (b:Tl),tlOK b→∀ M n,X.call 26 [TlV b] M n=some (I (chB b),[])
 lk:∀ (b:Tl) (s p:Int),tlOK b→p<1000000→∀ M n,X.call 27 [TlV b,I s,I p] M n=some (.tup [U (lkT b s p).1,B (lkT b s p).2],[])
theorem cLr (b:Tl) (s p:Int) (h:tlOK b) (hp:p<1000000) (M:Nat→AO) (n:Nat):callP LrF [TlV b,I s,I p] M n=some (.tup [U (lkT b s p).1,B (lkT b s p).2],[]):=by
 unfold LrF
 rw [callP_spec (ι:={x:Tl×Int×Int // tlOK x.1∧x.2.2<1000000}) (A:=fun x=>[TlV x.1.1,I x.1.2.1,I x.1.2.2]) (R:=fun x=>retOf [U (lkT x.1.1 x.1.2.1 x.1.2.2).1,B (lkT x.1.1 x.1.2.1 x.1.2.2).2]) ⟨(b,s,p),h,hp⟩ (by simp [TlV]) ?_ (by simp [retOf,openRet,openVals,openVal,openLeaves,openLeaf,U])]
 ·simp [retOf,openRet,openVals,openVal,openLeaves,openLeaf,U]
 ·rintro ⟨⟨b',s',p'⟩,h'⟩ e
  simp only [List.cons.injEq,TlV_inj,Iinj,and_true] at e
  obtain ⟨rfl,rfl,rfl⟩:=e;rfl
theorem lawK:LawK TmB:=⟨tmB,w0T,fun t M n=>cFew t M n,fun M n=>cAwM M n,rfl,rfl,rfl,fun t h=>samO rfl h,rfl,octR rfl,fun b h M n=>cCt b h M n,fun b s p h hp M n=>cLr b s p h hp M n⟩
end Go.AM
namespace Go.AM
open Go Go.Proofs
set_option maxRecDepth 4000
set_option maxHeartbeats 16000000 in
theorem s7 (X:AX) (L:LawK X):PSound Try.prog 7 (specF (ι:={x:Tl×(Int×Int×Bool)×Int // tlF x.1}) (fun x=>[TlV x.1.1,TryV x.1.2.1,I x.1.2.2]) fun _=>retOf [B true]):=by
 have hX:=L.ok
 have hw:=L.w
 refine psound_spec hX mixed Try.func7 rfl fun ⟨⟨⟨z,l⟩,⟨s,p,wr⟩,root⟩,htf⟩ w0 G=>⟨by show 3≤129;decide,rfl,?_⟩
 show AW ⟨Try.prog,X,129,w0,.pure G⟩ _ _ _
 have hc:Cx.OK ⟨Try.prog,X,129,w0,.pure G⟩:=⟨hX,mixed⟩
 have aw:=L.aw
 simp only at htf ⊢
 rcases Decidable.em (l.length≤40) with hf|hf
 ·have hfI:¬ (40:Int)<(l.length:Int):=by omega
  have hf2:¬ 40<l.length:=by omega
  have hb:=tlF_ok htf hf
  have ck:=L.ck _ hb
  have hb':=hb
  rcases Decidable.em (chB (z,l)=0) with hc0|hc0
  ·rw [hc0] at ck
   rcases Decidable.em (root<0) with r0|r0
   ·simp only [TlV,TryV] at ck ⊢
    have zS:=jj hf2<|jj hfI<|jj aw<|jj ck<|r0
    refine dF64 ?_
    repeat (intro K hK)
    clear zS
    all_goals refine ⟨by simp,?_⟩
    all_goals simp [leaves_iff,Try.f7]
    all_goals try exact dt
   ·skip
    rcases Decidable.em (1000<root) with r1|r1
    ·simp only [TlV,TryV] at ck ⊢
     have zS:=jj hf2<|jj hfI<|jj aw<|jj ck<|jj r0<|r1
     refine dF64 ?_
     repeat (intro K hK)
     clear zS
     all_goals refine ⟨by simp,?_⟩
     all_goals simp [leaves_iff,Try.f7]
     all_goals try exact dt
    ·skip
     rcases Decidable.em (s<0) with s0|s0
     ·simp only [TlV,TryV] at ck ⊢
      have zS:=jj hf2<|jj hfI<|jj aw<|jj ck<|jj r0<|jj r1<|s0
      refine dF64 ?_
      repeat (intro K hK)
      clear zS
      all_goals refine ⟨by simp,?_⟩
      all_goals simp [leaves_iff,Try.f7]
      all_goals try exact dt
     ·skip
      rcases Decidable.em (8≤s) with s1|s1
      ·simp only [TlV,TryV] at ck ⊢
       have zS:=jj hf2<|jj hfI<|jj aw<|jj ck<|jj r0<|jj r1<|jj s0<|s1
       refine dF64 ?_
       repeat (intro K hK)
       clear zS
       all_goals refine ⟨by simp,?_⟩
       all_goals simp [leaves_iff,Try.f7]
       all_goals try exact dt
      ·skip
       rcases Decidable.em (p<0) with p0|p0
       ·simp only [TlV,TryV] at ck ⊢
        have zS:=jj hf2<|jj hfI<|jj aw<|jj ck<|jj r0<|jj r1<|jj s0<|jj s1<|p0
        refine dF64 ?_
        repeat (intro K hK)
        clear zS
        all_goals refine ⟨by simp,?_⟩
        all_goals simp [leaves_iff,Try.f7]
        all_goals try exact dt
       ·skip
        rcases Decidable.em (512≤p) with p1|p1
        ·simp only [TlV,TryV] at ck ⊢
         have zS:=jj hf2<|jj hfI<|jj aw<|jj ck<|jj r0<|jj r1<|jj s0<|jj s1<|jj p0<|p1
         refine dF64 ?_
         repeat (intro K hK)
         clear zS
         all_goals refine ⟨by simp,?_⟩
         all_goals simp [leaves_iff,Try.f7]
         all_goals try exact dt
        ·skip
         obtain ⟨p,rfl⟩:=Int.eq_ofNat_of_zero_le (by omega:0≤p)
         have hp:p<512:=by omega
         have hs:0≤s∧s<8:=⟨by omega,by omega⟩
         have hr:0≤root∧root≤4294967295:=⟨by omega,by omega⟩
         have ac1:∀ (c vc:Nat) (fc:Bool) (M:Nat→AO) (n:Nat),M c=.vec vc 9 fc [[I root,.v (.int .u64 0),.v (.int .u64 0),.v (.int .u64 0),.v (.int .u64 0),.v (.int .u64 0),.v (.int .u64 0),.v (.int .u64 0),.v (.int .u64 0)]]→X.call 23 [.agg [I root,.sl c vc 9 0 1,.v (.slice none 0 0)],TlV (z,l),I s,I p,B wr] M n=acR (noT root) (z,l) s p wr n:=fun c vc fc M n h1=>by rw [L.ac];exact kAc3 hb h1 n
         unfold acR at ac1
         rw [no_ac hr hc0 hs hp wr] at ac1
         by_cases hm:(lkT (z,l) s p).2=true∧(wr=false∨((decR (lkT (z,l) s p).1).1.2.2.1=true∧(decR (lkT (z,l) s p).1).1.2.2.2.2.1=true))
         ·rw [if_pos hm] at ac1
          have mem:=stale_hit hc0 (p:=p) wr hm
          obtain ⟨f,hfr⟩:∃ f,f=frmG (decR (lkT (z,l) s p).1).1 p:=⟨_,rfl⟩
          rw [← hfr] at ac1 mem
          have rea:∀ M n,X.call 17 [TlV (z,l),B wr] M n=some (.sl n 1 1 0 (rcT (z,l) wr).length,[(n,AO.vec 1 1 false (irows (rcT (z,l) wr)))]):=fun M n=>by rw [L.rc];exact cRr _ wr hb M n
          have hl2:=@rcT_len (z,l) wr
          have ct:=L.ct.1 (rcT (z,l) wr) f (by omega)
          rw [decide_eq_true mem] at ct
          have stl:∀ (d vd:Nat) (fd:Bool) (M:Nat→AO) (n:Nat),M d=.vec vd 3 fd (trows l)→X.call 24 [TlV (z,l),.agg [I z,.sl d vd 3 0 l.length]] M n=some (B true,[]):=fun d vd fd M n h=>by
           rw [L.st]
           refine kSt (b:=(z,l)) hb.1 ?_ n
           have tk:=tkT l
           have ll:(trows l).length=l.length:=by simp [trows]
           simp [h,tk,ll,TlV]
          obtain ⟨rl,hR⟩:∃ x,x=rcT (z,l) wr:=⟨_,rfl⟩
          rw [← hR] at rea ct
          simp only [TbC,TlC,TlV,outT,outC,TryV,noT,prows,List.map_nil,List.length_nil,List.length_cons,List.cons_append,List.nil_append] at ck ac1 rea stl ct ⊢
          have zS:=jj hf2<|jj hfI<|jj aw<|jj ck<|jj r0<|jj r1<|jj s0<|jj s1<|jj p0<|jj p1<|jj ac1<|jj rea<|jj stl<|ct
          refine dF64 ?_
          repeat (intro K hK)
          clear zS
          all_goals refine ⟨by simp,?_⟩
          all_goals simp [leaves_iff,Try.f7]
          all_goals try exact dt
         ·rw [if_neg hm] at ac1
          obtain ⟨m1,m2⟩:=stale_miss hc0 (s:=s) (p:=p)
          obtain ⟨l2,hl2⟩:∃ l2,l2=l.filter fun y=>!cvB y s p:=⟨_,rfl⟩
          simp only [← hl2] at ac1 m1 m2
          have hb2:tlOK (z,l2):=tlOK_of m1 fun x hx=>by
           rw [hl2] at hx
           exact htf x (List.mem_filter.1 hx).1
          have ac2:∀ (c vc:Nat) (fc:Bool) (d vd:Nat) (fd:Bool) (M:Nat→AO) (n:Nat),M c=.vec vc 9 fc [[I root,.v (.int .u64 0),.v (.int .u64 0),.v (.int .u64 0),.v (.int .u64 0),.v (.int .u64 0),.v (.int .u64 0),.v (.int .u64 0),.v (.int .u64 0)]]→M d=.vec vd 3 fd (trows l2)→X.call 23 [.agg [I root,.sl c vc 9 0 1,.v (.slice none 0 0)],.agg [I z,.sl d vd 3 0 l2.length],I s,I p,B false] M n=acR (noT root) (z,l2) s p false n:=fun c vc fc d vd fd M n h1 h2=>by rw [L.ac];exact kAc4 hb2 h1 h2 n
          unfold acR at ac2
          rw [no_ac hr m1 hs hp false,if_neg (by rw [m2];rintro ⟨h,_⟩;cases h)] at ac2
          have lk:=L.lk _ s p hb (by omega)
          obtain ⟨⟨w,c⟩,hK2⟩:∃ x,x=lkT (z,l) s p:=⟨_,rfl⟩
          rw [← hK2] at lk hm
          simp only at hm
          obtain ⟨l3,hl3⟩:∃ l3,l3=l2.filter fun y=>!cvB y s p:=⟨_,rfl⟩
          simp only [← hl3] at ac2
          clear hl2 hl3 m1 m2
          simp only [TbC,TlC,TlV,outT,outC,TryV,noT,prows,U,List.map_nil,List.length_nil,List.length_cons,List.cons_append,List.nil_append] at ck ac1 ac2 lk ⊢
          cases wr with
          | true =>
           have zS:=jj hf2<|jj hfI<|jj aw<|jj ck<|jj r0<|jj r1<|jj s0<|jj s1<|jj p0<|jj p1<|jj ac1<|jj ac2<|lk
           refine dF64 ?_
           repeat (intro K hK)
           clear zS
           all_goals refine ⟨by simp,?_⟩
           all_goals simp [leaves_iff,Try.f7]
           all_goals try exact dt
          | false =>
           have hcf:c=false:=by
            cases c with
            | false=>rfl
            | true=>exact absurd ⟨rfl,.inl rfl⟩ hm
           subst hcf
           have zS:=jj hf2<|jj hfI<|jj aw<|jj ck<|jj r0<|jj r1<|jj s0<|jj s1<|jj p0<|jj p1<|jj ac1<|jj ac2<|lk
           refine dF64 ?_
           repeat (intro K hK)
           clear zS
           all_goals refine ⟨by simp,?_⟩
           all_goals simp [leaves_iff,Try.f7]
           all_goals try exact dt
  ·obtain ⟨c,hcz⟩:∃ c,c=chB (z,l):=⟨_,rfl⟩
   rw [← hcz] at ck hc0
   simp only [TlV,TryV] at ck ⊢
   have zS:=jj hf2<|jj hfI<|jj aw<|jj ck<|hc0
   refine dF64 ?_
   repeat (intro K hK)
   clear zS
   all_goals refine ⟨by simp,?_⟩
   all_goals simp [leaves_iff,Try.f7]
   all_goals try exact dt
 ·have hfI:(40:Int)<(l.length:Int):=by omega
  have hf2:40<l.length:=by omega
  simp only [TlV,TryV]
  have zS:=jj hf2<|jj hfI<|aw
  refine dF64 ?_
  repeat (intro K hK)
  clear zS
  all_goals refine ⟨by simp,?_⟩
  all_goals simp [leaves_iff,Try.f7]
  all_goals try exact dt
theorem stale':PSound Try.prog 7 (specF (ι:={x:Tl×(Int×Int×Bool)×Int // tlF x.1}) (fun x=>[TlV x.1.1,TryV x.1.2.1,I x.1.2.2]) fun _=>retOf [B true]):=s7 TmB lawK
end Go.AM
