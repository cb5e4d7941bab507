/- A part of the proof: what functions of the program compute, by abstract execution of their code. Its theorems hold without further condition. -/
import Derived.Test.YtcfhmdljeeppfaaUTPt81
import Derived.Test.YtcfhmdljeeppfaaUTMb0
import Derived.Test.YtcfhmdljeeppfaaUAmMp
set_option linter.all false
set_option maxHeartbeats 8000000
namespace Go.AM
open Go Go.Proofs
theorem arg_bool {a:AV} (h:FitArg Try.prog 4 a):∃ b,a=B b :=
 fit_bool (arg_one (show shapeOf Try.prog 10 4=some [shB] by kernel_rfl) (fun fs=>by simp [Try.underlying4]) (fun n e=>by simp [Try.underlying4]) h)
theorem rows_te:∀ {xs:List (List AV)},(∀ e∈xs,FitL [shI,shI,shQ] e)→∃ l,xs=trows l∧∀ x∈l,x.2.2<2^64
 | [],_=>⟨[],rfl,by simp⟩
 | e::r,h=>by
  obtain ⟨l,rfl,hl⟩:=rows_te (xs:=r) fun e' he=>h e' (by simp [he])
  obtain ⟨a,ar,rfl,ha,hr⟩:=fitL_cons (h e (by simp))
  obtain ⟨b,br,rfl,hb,hr2⟩:=fitL_cons hr
  obtain ⟨c,rfl,hc⟩:=fitL_one hr2
  obtain ⟨x,rfl,_⟩:=fit_int ha
  obtain ⟨y,rfl,_⟩:=fit_int hb
  obtain ⟨w,rfl,hw⟩:=fit_u64 hc
  refine ⟨(x,y,w)::l,rfl,fun z hz=>?_⟩
  rcases List.mem_cons.1 hz with rfl|hz
  ·exact hw
  ·exact hl z hz
def tlF (b:Tl):Prop:=∀ x∈b.2,x.2.2<2^64
theorem tlF_ok {b:Tl} (h:tlF b) (hl:b.2.length≤40):tlOK b:=⟨by omega,h⟩
theorem arg_tl {a:AV} (h:FitArg Try.prog 34 a):∃ b:Tl,a=TlV b∧tlF b:=by
 obtain ⟨cs,rfl,hf⟩:=arg_str (show shapeOf Try.prog 10 34=some [shI,.sl [shI,shI,shQ]] by kernel_rfl) Try.underlying34 h
 obtain ⟨x,ar,rfl,ha,hr⟩:=fitL_cons hf
 obtain ⟨y,rfl,hb⟩:=fitL_one hr
 obtain ⟨z,rfl,_⟩:=fit_int ha
 simp only [Fit] at hb
 obtain ⟨xs,rfl,_,hx⟩:=hb
 obtain ⟨l,rfl,hl⟩:=rows_te hx
 exact ⟨(z,l),rfl,hl⟩
theorem tl_bool_F (avs:List AV) (h:FitArgs Try.prog [34,4] avs):specF (ι:={x:Tl×Bool // tlF x.1}) (fun x=>[TlV x.1.1,B x.1.2]) (fun _=>retOf [B true]) avs=some (B true):=by
 match avs,h with
 | [a,c],h =>
  simp only [FitArgs] at h
  obtain ⟨t,rfl,ht⟩:=arg_tl h.1
  obtain ⟨y,rfl⟩:=arg_bool h.2.1
  exact specF_eq (A:=fun x:{x:Tl×Bool // tlF x.1}=>[TlV x.1.1,B x.1.2]) (R:=fun _=>retOf [B true]) ⟨(t,y),ht⟩ fun _ _=>rfl
 | [],h=>simp [FitArgs] at h
 | [_],h=>simp [FitArgs] at h
 | _::_::_::_,h=>simp [FitArgs] at h
theorem cLo (t:Tb) (p:Int) (wr:Bool) (h:tbOK t) (M:Nat→AO) (n:Nat):callP LoF [TbV t,I p,B wr] M n=some (.tup [I (loT t p wr).1,I (loT t p wr).2],[]):=by
 unfold LoF
 rw [callP_spec (ι:={x:Tb×Int×Bool // tbOK x.1}) (A:=fun x=>[TbV x.1.1,I x.1.2.1,B x.1.2.2]) (R:=fun x=>retOf [I (loT x.1.1 x.1.2.1 x.1.2.2).1,I (loT x.1.1 x.1.2.1 x.1.2.2).2]) ⟨(t,p,wr),h⟩ (by simp [TbV]) ?_ (by simp [retOf,openRet,openVals,openVal,openLeaves,openLeaf])]
 ·simp [retOf,openRet,openVals,openVal,openLeaves,openLeaf]
 ·rintro ⟨⟨t',p',w'⟩,h'⟩ e
  simp only [List.cons.injEq,TbV_inj,Iinj,Binj,and_true] at e
  obtain ⟨rfl,rfl,rfl⟩:=e;rfl
theorem looks':PSound Try.prog 9 (specF (ι:={x:Tb×Int×Bool // tbF x.1}) (fun x=>[TbV x.1.1,I x.1.2.1,B x.1.2.2]) fun _=>retOf [B true]):=by
 obtain ⟨X,hX,hw,few,aw,l1,l2⟩:∃ X:AX,XOK Try.prog X∧X.W wT∧(∀ (t:Tb) M n,X.call 19 [TbV t] M n=some (B (decide (t.2.1.length≤80∧t.2.2.length≤70)),[]))∧(∀ M n,X.call 15 [] M n=some (B true,[])) ∧
   (∀ (t:Tb) (p:Int) (wr:Bool),tbOK t→∀ M n,X.call 33 [TbV t,I p,B wr] M n=some (.tup [I (loT t p wr).1,I (loT t p wr).2],[]))∧(∀ (t:Tb) (p:Int) (wr:Bool),tbOK t→∀ M n,X.call 34 [TbV t,I p,B wr] M n=some (.tup [I (loT t p wr).1,I (loT t p wr).2],[])) :=
  ⟨TmB,tmB,w0T,fun t M n=>cFew t M n,fun M n=>cAwM M n,fun t p wr h M n=>cLo t p wr h M n,fun t p wr h M n=>cLo t p wr h M n⟩
 refine psound_spec hX mixed Try.func9 rfl fun ⟨⟨⟨r,ns,ds⟩,p,wr⟩,htf⟩ w0 G=>⟨by show 3≤40;decide,rfl,?_⟩
 show AW ⟨Try.prog,X,40,w0,.pure G⟩ _ _ _
 have hc:Cx.OK ⟨Try.prog,X,40,w0,.pure G⟩:=⟨hX,mixed⟩
 have few:=few (r,ns,ds)
 simp only at few htf ⊢
 rcases Decidable.em (ns.length≤80∧ds.length≤70) with hf|hf
 ·rw [decide_eq_true hf] at few
  have ht:=tbF_ok htf hf
  have l1:=l1 _ p wr ht
  have l2:=l2 _ p wr ht
  obtain ⟨⟨f,e⟩,hL⟩:∃ x,x=loT (r,ns,ds) p wr:=⟨_,rfl⟩
  rw [← hL] at l1 l2
  simp only [TbV] at few l1 l2 ⊢
  have zS:=jj few<|jj aw<|jj l1<|l2
  refine dF64 ?_
  repeat (intro K hK)
  clear zS
  all_goals refine ⟨by simp,?_⟩
  all_goals simp [leaves_iff,Try.f9]
  all_goals try exact dt
 ·rw [decide_eq_false hf] at few
  simp only [TbV] at few ⊢
  have zS:=jj few<|aw
  refine dF64 ?_
  repeat (intro K hK)
  clear zS
  all_goals refine ⟨by simp,?_⟩
  all_goals simp [leaves_iff,Try.f9]
  all_goals try exact dt
theorem cRr (b:Tl) (wr:Bool) (h:tlOK b) (M:Nat→AO) (n:Nat):callP RcF [TlV b,B wr] M n=some (.sl n 1 1 0 (rcT b wr).length,[(n,.vec 1 1 false (irows (rcT b wr)))]):=by
 unfold RcF
 rw [callP_spec (ι:={x:Tl×Bool // tlOK x.1}) (A:=fun x=>[TlV x.1.1,B x.1.2]) (R:=fun x=>retOf [.ow 1 (irows (rcT x.1.1 x.1.2))]) ⟨(b,wr),h⟩ (by simp [TlV]) ?_ (by rw [open_irow];simp only;omega),open_irow]
 rintro ⟨⟨b',wr'⟩,h'⟩ e
 simp only [List.cons.injEq,TlV_inj,Binj,and_true] at e
 obtain ⟨rfl,rfl⟩:=e;rfl
theorem cRd (b:Tl) (wr:Bool) (h:tlOK b) (M:Nat→AO) (n:Nat):callD RcD [TlV b,B wr] M n=some (.rd 1 (irows (rcT b wr)),[]):=by
 refine callD_ok (specF_eq (ι:={x:Tl×Bool // tlOK x.1}) (A:=fun x=>[TlV x.1.1,B x.1.2]) (R:=fun x=>retOf [.rd 1 (irows (rcT x.1.1 x.1.2))]) ⟨(b,wr),h⟩ ?_) (by simp [AV.closedV,TlV]) (by simp [openRet,openVal,openLeaf])
 rintro ⟨⟨b',wr'⟩,h'⟩ e
 simp only [List.cons.injEq,TlV_inj,Binj,and_true] at e
 obtain ⟨rfl,rfl⟩:=e;rfl
theorem oEr {l:List Int} (hl:l.length≤1000000) {c vc:Nat} {fc:Bool} {M:Nat→AO} (hc:M c=.vec vc 1 fc (irows l)) (n:Nat):callP EiF [.sl c vc 1 0 l.length,.rd 1 (irows l)] M n=some (B true,[]):=by
 have tk:List.take l.length (irows l)=irows l:=List.take_of_length_le (by simp)
 have h:callP EiF [.sl c vc 1 0 l.length,.rd 1 (irows l)] M n=some (B (decide (l=l)),[]):=callP_spec (ι:={x:List Int×List Int // x.1.length≤1000000∧x.2.length≤1000000}) (A:=fun x=>[.rd 1 (irows x.1.1),.rd 1 (irows x.1.2)]) (R:=fun x=>retOf [B (decide (x.1.1=x.1.2))]) (avs:=[.sl c vc 1 0 l.length,.rd 1 (irows l)]) (M:=M) (n:=n) ⟨(l,l),hl,hl⟩ (by simp [hc,tk]) (by
  rintro ⟨⟨l',m'⟩,h'⟩ e
  simp only [List.cons.injEq,AV.rd.injEq,irows_inj,true_and,and_true] at e
  obtain ⟨rfl,rfl⟩:=e;rfl) (by simp)
 rw [decide_eq_true rfl] at h
 exact h
theorem rcT_len {b:Tl} {wr:Bool}:(rcT b wr).length≤128:=by
 unfold rcT
 split
 ·simp
 ·rename_i h
  have h2:=chB_z.1 (Decidable.not_not.1 h)
  have:=@rcL_len wr b.2 b.2.length
  simp
  omega
theorem reaches':PSound Try.prog 4 (specF (ι:={x:Tl×Bool // tlF x.1}) (fun x=>[TlV x.1.1,B x.1.2]) fun _=>retOf [B true]):=by
 obtain ⟨X,hX,hw,aw,l1,l2,eq⟩:∃ X:AX,XOK Try.prog X∧X.W wT∧(∀ M n,X.call 15 [] M n=some (B true,[])) ∧
   (∀ (b:Tl) (wr:Bool),tlOK b→∀ M n,X.call 17 [TlV b,B wr] M n=some (.sl n 1 1 0 (rcT b wr).length,[(n,.vec 1 1 false (irows (rcT b wr)))]))∧(∀ (b:Tl) (wr:Bool),tlOK b→∀ M n,X.call 18 [TlV b,B wr] M n=some (.rd 1 (irows (rcT b wr)),[])) ∧
   (∀ (l:List Int),l.length≤1000000→∀ (c vc:Nat) (fc:Bool) (M:Nat→AO) n,M c=.vec vc 1 fc (irows l)→X.call 16 [.sl c vc 1 0 l.length,.rd 1 (irows l)] M n=some (B true,[])) :=
  ⟨TmB,tmB,w0T,fun M n=>cAwM M n,fun b wr h M n=>cRr b wr h M n,fun b wr h M n=>cRd b wr h M n,fun l h c vc fc M n hM=>oEr h hM n⟩
 refine psound_spec hX mixed Try.func4 rfl fun ⟨⟨⟨z,l⟩,wr⟩,htf⟩ w0 G=>⟨by show 2≤20;decide,rfl,?_⟩
 show AW ⟨Try.prog,X,20,w0,.pure G⟩ _ _ _
 have hc:Cx.OK ⟨Try.prog,X,20,w0,.pure G⟩:=⟨hX,mixed⟩
 simp only at htf ⊢
 rcases Decidable.em (l.length≤40) with hf|hf
 ·have hfI:¬ (40:Int)<(l.length:Int):=by omega
  have ht:=tlF_ok htf hf
  have l1:=l1 _ wr ht
  have l2:=l2 _ wr ht
  have eq:=eq (rcT (z,l) wr) (by have:=@rcT_len (z,l) wr;omega)
  obtain ⟨L,hL⟩:∃ x,x=rcT (z,l) wr:=⟨_,rfl⟩
  rw [← hL] at l1 l2 eq
  simp only [TlV] at l1 l2 ⊢
  have zS:=jj hf<|jj hfI<|jj aw<|jj l1<|jj l2<|eq
  refine dF64 ?_
  repeat (intro K hK)
  clear zS
  all_goals refine ⟨by simp,?_⟩
  all_goals simp [leaves_iff,Try.f4]
  all_goals try exact dt
 ·have hfI:(40:Int)<(l.length:Int):=by omega
  have hf2:40<l.length:=by omega
  simp only [TlV]
  have zS:=jj hf2<|jj hfI<|aw
  refine dF64 ?_
  repeat (intro K hK)
  clear zS
  all_goals refine ⟨by simp,?_⟩
  all_goals simp [leaves_iff,Try.f4]
  all_goals try exact dt
end Go.AM
namespace Go.AM
open Go Go.Proofs
def b1:Tl:=(1,[])
end Go.AM
