/- A part of the proof: what functions of the program compute, by abstract execution of their code. Its theorems hold without further condition. -/
import Derived.Test.YtcfhmdljeeppfaaUTPt81
import Derived.Test.YtcfhmdljeeppfaaUTMb0
import Derived.Test.YtcfhmdljeeppfaaUAmMp
set_option linter.all false
set_option maxHeartbeats 8000000
namespace Go.AM
open Go Go.Proofs
theorem tab_F (avs:List AV) (h:FitArgs Try.prog [27] avs):specF (ι:={x:Tb // tbF x}) (fun x=>[TbV x.1]) (fun _=>retOf [B true]) avs=some (B true):=by
 match avs,h with
 | [a],h =>
  simp only [FitArgs] at h
  obtain ⟨t,rfl,ht⟩:=arg_tab h.1
  exact specF_eq (A:=fun x:{x:Tb // tbF x}=>[TbV x.1]) (R:=fun _=>retOf [B true]) ⟨t,ht⟩ fun _ _=>rfl
 | [],h=>simp [FitArgs] at h
 | _::_::_,h=>simp [FitArgs] at h
theorem cLo (t:Tb) (p:Int) (wr:Bool) (h:tbOK t) (M:Nat→AO) (n:Nat):callP LoF [TbV t,I p,B wr] M n=some (.tup [I (loT t p wr).1,I (loT t p wr).2],[]):=by
 unfold LoF
 rw [callP_spec (ι:={x:Tb×Int×Bool // tbOK x.1}) (A:=fun x=>[TbV x.1.1,I x.1.2.1,B x.1.2.2]) (R:=fun x=>retOf [I (loT x.1.1 x.1.2.1 x.1.2.2).1,I (loT x.1.1 x.1.2.1 x.1.2.2).2]) ⟨(t,p,wr),h⟩ (by simp [TbV]) ?_ (by simp [retOf,openRet,openVals,openVal,openLeaves,openLeaf])]
 ·simp [retOf,openRet,openVals,openVal,openLeaves,openLeaf]
 ·rintro ⟨⟨t',p',w'⟩,h'⟩ e
  simp only [List.cons.injEq,TbV_inj,Iinj,Binj,and_true] at e
  obtain ⟨rfl,rfl,rfl⟩:=e;rfl
theorem looks':PSound Try.prog 9 (specF (ι:={x:Tb×Int×Bool // tbF x.1}) (fun x=>[TbV x.1.1,I x.1.2.1,B x.1.2.2]) fun _=>retOf [B true]):=by
 obtain ⟨X,hX,hw,few,aw,l1,l2⟩:∃ X:AX,XOK Try.prog X∧X.W wT∧(∀ (t:Tb) M n,X.call 19 [TbV t] M n=some (B (decide (t.2.1.length≤80∧t.2.2.length≤70)),[]))∧(∀ M n,X.call 15 [] M n=some (B true,[])) ∧
   (∀ (t:Tb) (p:Int) (wr:Bool),tbOK t→∀ M n,X.call 33 [TbV t,I p,B wr] M n=some (.tup [I (loT t p wr).1,I (loT t p wr).2],[]))∧(∀ (t:Tb) (p:Int) (wr:Bool),tbOK t→∀ M n,X.call 34 [TbV t,I p,B wr] M n=some (.tup [I (loT t p wr).1,I (loT t p wr).2],[])) :=
  ⟨TmB,tmB,w0T,fun t M n=>cFew t M n,fun M n=>cAwM M n,fun t p wr h M n=>cLo t p wr h M n,fun t p wr h M n=>cLo t p wr h M n⟩
 refine psound_spec hX mixed Try.func9 rfl fun ⟨⟨⟨r,ns,ds⟩,p,wr⟩,htf⟩ w0 G=>⟨by show 3≤40;decide,rfl,?_⟩
 show AW ⟨Try.prog,X,40,w0,.pure G⟩ _ _ _
 have hc:Cx.OK ⟨Try.prog,X,40,w0,.pure G⟩:=⟨hX,mixed⟩
 have few:=few (r,ns,ds)
 simp only at few htf ⊢
 rcases Decidable.em (ns.length≤80∧ds.length≤70) with hf|hf
 ·rw [decide_eq_true hf] at few
  have ht:=tbF_ok htf hf
  have l1:=l1 _ p wr ht
  have l2:=l2 _ p wr ht
  obtain ⟨⟨f,e⟩,hL⟩:∃ x,x=loT (r,ns,ds) p wr:=⟨_,rfl⟩
  rw [← hL] at l1 l2
  simp only [TbV] at few l1 l2 ⊢
  have zS:=jj few<|jj aw<|jj l1<|l2
  refine dF64 ?_
  repeat (intro K hK)
  clear zS
  all_goals refine ⟨by simp,?_⟩
  all_goals simp [leaves_iff,Try.f9]
  all_goals try exact dt
 ·rw [decide_eq_false hf] at few
  simp only [TbV] at few ⊢
  have zS:=jj few<|aw
  refine dF64 ?_
  repeat (intro K hK)
  clear zS
  all_goals refine ⟨by simp,?_⟩
  all_goals simp [leaves_iff,Try.f9]
  all_goals try exact dt
theorem cHa (t:Tb) (h:tbOK t) (M:Nat→AO) (n:Nat):callP HaF [TbV t] M n=some (.tup [TbC (haT t).1 n,.sl (n+2) 1 1 0 (haT t).2.1.length,I (haT t).2.2],outT (haT t).1 n++[(n+2,AO.vec 1 1 false (irows (haT t).2.1))]) :=
 cT1 (D:=tbOK) (R:=fun t=>retOf [TbO (haT t).1,.ow 1 (irows (haT t).2.1),I (haT t).2.2]) h M n open_ha (by omega)
theorem haT_ok {t:Tb} (ht:tbOK t):tbOK (haT t).1∧(haT t).2.1.length≤512:=by
 unfold haT
 split
 ·exact ⟨zT_okm,by simp⟩
 ·obtain ⟨h1,h2⟩:=haL_ok ht (lst_u64 ht) (Nat.le_refl _)
  have:=@lstT_l5 t
  exact ⟨h1,by simp only;omega⟩
theorem harvests':PSound Try.prog 5 (specF (ι:={x:Tb // tbF x}) (fun x=>[TbV x.1]) fun _=>retOf [B true]):=by
 obtain ⟨X,hX,hw,few,aw,l1,l2,sam,eq⟩:∃ X:AX,XOK Try.prog X∧X.W wT∧(∀ (t:Tb) M n,X.call 19 [TbV t] M n=some (B (decide (t.2.1.length≤80∧t.2.2.length≤70)),[]))∧(∀ M n,X.call 15 [] M n=some (B true,[])) ∧
   (∀ t:Tb,tbOK t→∀ M n,X.call 20 [TbV t] M n=some (.tup [TbC (haT t).1 n,.sl (n+2) 1 1 0 (haT t).2.1.length,I (haT t).2.2],outT (haT t).1 n++[(n+2,AO.vec 1 1 false (irows (haT t).2.1))])) ∧
   (∀ t:Tb,tbOK t→∀ M n,X.call 21 [TbV t] M n=some (.tup [TbC (haT t).1 n,.sl (n+2) 1 1 0 (haT t).2.1.length,I (haT t).2.2],outT (haT t).1 n++[(n+2,AO.vec 1 1 false (irows (haT t).2.1))])) ∧
   (∀ t:Tb,tbOK t→SamO X t)∧(∀ l:List Int,l.length≤1000000→EqiO X l) :=
  ⟨TmB,tmB,w0T,fun t M n=>cFew t M n,fun M n=>cAwM M n,fun t h M n=>cHa t h M n,fun t h M n=>cHa t h M n,fun t h=>samO rfl h,fun l h=>eqiO rfl h⟩
 refine psound_spec hX mixed Try.func5 rfl fun ⟨⟨r,ns,ds⟩,htf⟩ w0 G=>⟨by show 1≤41;decide,rfl,?_⟩
 show AW ⟨Try.prog,X,41,w0,.pure G⟩ _ _ _
 have hc:Cx.OK ⟨Try.prog,X,41,w0,.pure G⟩:=⟨hX,mixed⟩
 have few:=few (r,ns,ds)
 simp only at few htf ⊢
 rcases Decidable.em (ns.length≤80∧ds.length≤70) with hf|hf
 ·rw [decide_eq_true hf] at few
  have ht:=tbF_ok htf hf
  have l1:=l1 _ ht
  have l2:=l2 _ ht
  obtain ⟨k1,k2⟩:=haT_ok ht
  have sam:=sam _ k1
  have eq:=eq _ (by omega:(haT (r,ns,ds)).2.1.length≤1000000)
  obtain ⟨⟨⟨r',ns',ds'⟩,ps,e⟩,hT⟩:∃ x,x=haT (r,ns,ds):=⟨_,rfl⟩
  rw [← hT] at l1 l2 sam eq
  unfold SamO at sam
  unfold EqiO at eq
  simp only [TbV,TbC,outT,List.cons_append,List.nil_append] at few l1 l2 sam eq ⊢
  have zS:=jj few<|jj aw<|jj l1<|jj l2<|jj sam<|eq
  refine dF64 ?_
  repeat (intro K hK)
  clear zS
  all_goals refine ⟨by simp,?_⟩
  all_goals simp [leaves_iff,Try.f5]
  all_goals try exact dt
 ·rw [decide_eq_false hf] at few
  simp only [TbV] at few ⊢
  have zS:=jj few<|aw
  refine dF64 ?_
  repeat (intro K hK)
  clear zS
  all_goals refine ⟨by simp,?_⟩
  all_goals simp [leaves_iff,Try.f5]
  all_goals try exact dt
end Go.AM
namespace Go.AM
open Go Go.Proofs
def b1:Tl:=(1,[])
end Go.AM
