/- A part of the proof: what functions of the program compute, by abstract execution of their code. Its theorems hold without further condition. -/
import Derived.Test.YtcfhmdljeeppfaaGreatSCPtT
set_option linter.all false
set_option maxHeartbeats 4000000
namespace Go.AM
open Go Go.Proofs
noncomputable def unS:List AV→List AO→Option (AV×List AO):=specG (ι:={x:Tb×Nat // tbOK x.1∧x.2≤4294967295}) (fun x=>[tAV x.1.1,I x.1.2]) (fun x=>tMs x.1.1) (fun x=>.tup []) fun x=>tMs (x.1.1.1,unl (x.1.2*256+4) x.1.1.2.1,x.1.1.2.2)
theorem s147 (X:AX) (hX:XOK Tryz.prog X) (hw:X.W wT) (hwd:∀ f:Nat,f≤4294967295→∀ M n,X.call 150 [.agg [I 4,I f,B false,B false,B false,B false]] M n=some (U ((f*256+4:Nat)),[])):GSound Tryz.prog 147 unS:=by
 unfold unS
 refine gsound_spec Tryz.func147 rfl X fun ⟨⟨⟨r,ns,ds⟩,f⟩,ht,hf⟩ w0 L E=>⟨by show 2≤38;decide,?_⟩
 simp only at ht hf
 have hl1:ns.length≤1000000:=ht.2.1
 have hl2:ds.length≤1000000:=ht.2.2
 have hwd':=hwd f hf
 have hun:=uAll_unl (w:=f*256+4) ht.1
 have hok:=fun i hi=>uAll_ok (w:=f*256+4) ht.1 (i:=i) hi
 obtain ⟨w,hw0⟩:∃ w,w=f*256+4:=⟨_,rfl⟩
 rw [← hw0] at hwd' hun hok
 simp only [tAV,tMs,unl_len,← hw0,← hun]
 simp only [U] at hwd'
 show AW ⟨Tryz.prog,X,38,w0,⟨L,E,2⟩⟩ _ _ _
 have hc:Cx.OK ⟨Tryz.prog,X,38,w0,⟨L,E,2⟩⟩:=⟨hX,mixed⟩
 have zS:=hwd'
 repeat' (first|(apply aw_seq_k;intro K hK)|(refine eF64 ?_)|(refine aw_cond (b:=_) (by exact rfl) (fun h=>?_) (fun h=>?_)<;>(try simp at h))|(refine eB ?_)|(refine hK _ ?_;clear hK)|(clear hK;refine hK _ ?_;clear hK)|(clear hK;clear hK;refine hK _ ?_;clear hK)|(clear hK;clear hK;clear hK;refine hK _ ?_;clear hK))
 all_goals clear zS
 refine aw_loopK (s0:=?lps1) (m0:=?lpm1) (ι:={i:Nat // i≤ns.length}) [2,4,12] (fun s=>[(13,I s.1)]) (fun s=>[(0,.vec 1 9 false (nrows (uAll w ns s.1)))]) (fun s=>ns.length - s.1) ⟨0,by simp⟩ ?lhs1 ?lhm1 ?_ ?_
 case lhs1=>first|(simp [keepS];done)|(simp [keepS];rfl)
 case lhm1=>first|rfl|(simp;done)|(simp;rfl)
 ·simp only [uAll]
  exact dle
 ·rintro ⟨i,hi⟩
  simp only at hi ⊢
  rcases Decidable.em (i<ns.length) with hil|hil
  ·have hilI:(i:Int)<(ns.length:Int):=by omega
   have hS8:=hok i hi
   have hSl:(uAll w ns i).length=ns.length:=uAll_len
   have hnx:uAll w ns (i+1)=uRow w (uAll w ns i) i 8:=rfl
   obtain ⟨S,hS⟩:∃ S,S=uAll w ns i:=⟨_,rfl⟩
   rw [← hS] at hS8 hSl hnx ⊢
   have zS:=hilI
   repeat' (first|(apply aw_seq_k;intro K hK)|(refine eF64 ?_)|(refine aw_cond (b:=_) (by exact rfl) (fun h=>?_) (fun h=>?_)<;>(try simp at h))|(refine eB ?_)|(refine hK _ ?_;clear hK)|(clear hK;refine hK _ ?_;clear hK)|(clear hK;clear hK;refine hK _ ?_;clear hK)|(clear hK;clear hK;clear hK;refine hK _ ?_;clear hK))
   all_goals clear zS
   refine aw_loopK (s0:=?lps2) (m0:=?lpm2) (ι:={j:Nat // j≤8}) [2,4,5,12,13] (fun s=>[(16,I s.1)]) (fun s=>[(0,.vec 1 9 false (nrows (uRow w S i s.1)))]) (fun s=>8 - s.1) ⟨0,by simp⟩ ?lhs2 ?lhm2 ?_ ?_
   case lhs2=>first|(simp [keepS];done)|(simp [keepS];rfl)
   case lhm2=>first|rfl|(simp;done)|(simp;rfl)
   ·simp only [uRow]
    exact dle
   ·rintro ⟨j,hj⟩
    simp only at hj ⊢
    rcases Decidable.em (j<8) with hjl|hjl
    ·have hjI:(j:Int)<8:=by omega
     have hT8:=uRow_ok (w:=w) hS8 (i:=i) (by omega) (j:=j)
     have hTl:(uRow w S i j).length=ns.length:=by rw [uRow_len,hSl]
     have hnj:uRow w S i (j+1)=uStep w (uRow w S i j) i j:=rfl
     obtain ⟨T,hT⟩:∃ T,T=uRow w S i j:=⟨_,rfl⟩
     rw [← hT] at hT8 hTl hnj ⊢
     have hiT:i<T.length:=by omega
     have hgn:=nrows_gi hiT
     have hgnE:=nrows_gE hiT
     have h8:(gn T i).2.length=8:=(hT8 _ (gn_mem hiT)).1
     have hset:=@nrows_setN T i j 0 hiT
     have hw8:=wcs_gi (l:=(gn T i).2) (i:=j) (by omega)
     have hwE:=wcs_gE (l:=(gn T i).2) (i:=j) (by omega)
     have hwd2:(gn T i).2.getD j 0=wd T i j:=rfl
     rw [hwd2] at hw8 hwE
     have hwl:(wcs (gn T i).2).length=8:=by simp [h8]
     have hst:uStep w T i j=if wd T i j=w then setN T i j 0 else T:=rfl
     rw [hst] at hnj
     obtain ⟨x,hx⟩:∃ x,x=wd T i j:=⟨_,rfl⟩
     rw [← hx] at hw8 hwE hnj
     obtain ⟨⟨fr,ws⟩,hm⟩:∃ m,m=gn T i:=⟨_,rfl⟩
     rw [← hm] at hgn hgnE hw8 hwE hwl hset
     simp only at hgn hgnE hw8 hwE hwl hset
     obtain ⟨cs,hcs⟩:∃ cs,cs=wcs ws:=⟨_,rfl⟩
     rw [← hcs] at hgn hgnE hw8 hwE hwl hset
     have hs1:∀ w:Int,(I fr::cs).set (1+j) (AV.v (.int .u64 w))=I fr::cs.set j (AV.v (.int .u64 w)):=fun w=>by rw [Nat.add_comm];rfl
     clear hcs hm h8 hx hT hst
     simp only [U] at hw8 hwE hset
     have hi1:(I fr::cs)[1+j]?=some (AV.v (.int .u64 x)):=by rw [Nat.add_comm];exact hw8
     have hset':(nrows T).set i (I fr::cs.set j (AV.v (Value.int IntKind.u64 0)))=nrows (setN T i j 0):=hset
     rcases Decidable.em (x=w) with hxw|hxw
     ·have hxI:(x:Int)=(w:Int):=by omega
      rw [if_pos hxw] at hnj
      have zS:=jj hjI<|jj hjl<|jj hilI<|jj hiT<|jj hTl<|jj hil<|jj hgn<|jj hgnE<|jj hw8<|jj hwE<|jj hwl<|jj hi1<|jj hset'<|jj hs1<|jj hxI<|hxw
      repeat' (first|(apply aw_seq_k;intro K hK)|(refine eF64 ?_)|(refine aw_cond (b:=_) (by exact rfl) (fun h=>?_) (fun h=>?_)<;>(try simp at h))|(refine eB ?_)|(refine hK _ ?_;clear hK)|(clear hK;refine hK _ ?_;clear hK)|(clear hK;clear hK;refine hK _ ?_;clear hK)|(clear hK;clear hK;clear hK;refine hK _ ?_;clear hK))
      all_goals clear zS
      refine ⟨j+1,?_,by omega,by omega⟩
      simp only [hnj]
      exact dle
     ·have hxI:¬ (x:Int)=(w:Int):=by omega
      rw [if_neg hxw] at hnj
      have zS:=jj hjI<|jj hjl<|jj hilI<|jj hiT<|jj hTl<|jj hil<|jj hgn<|jj hgnE<|jj hw8<|jj hwE<|jj hwl<|jj hi1<|jj hxI<|hxw
      repeat' (first|(apply aw_seq_k;intro K hK)|(refine eF64 ?_)|(refine aw_cond (b:=_) (by exact rfl) (fun h=>?_) (fun h=>?_)<;>(try simp at h))|(refine eB ?_)|(refine hK _ ?_;clear hK)|(clear hK;refine hK _ ?_;clear hK)|(clear hK;clear hK;refine hK _ ?_;clear hK)|(clear hK;clear hK;clear hK;refine hK _ ?_;clear hK))
      all_goals clear zS
      refine ⟨j+1,?_,by omega,by omega⟩
      simp only [hnj]
      exact dle
    ·obtain rfl:j=8:=by omega
     rw [← hnx]
     repeat' (first|(apply aw_seq_k;intro K hK)|(refine eF64o ?_)|(refine aw_cond (b:=_) (by exact rfl) (fun h=>?_) (fun h=>?_)<;>(try simp at h))|(refine eB ?_)|(refine hK _ ?_;clear hK)|(clear hK;refine hK _ ?_;clear hK)|(clear hK;clear hK;refine hK _ ?_;clear hK)|(clear hK;clear hK;clear hK;refine hK _ ?_;clear hK))
     refine ⟨i+1,?_,by omega,by omega⟩
     exact dle
  ·obtain rfl:i=ns.length:=by omega
   repeat' (first|(apply aw_seq_k;intro K hK)|(refine eF64o ?_)|(refine aw_cond (b:=_) (by exact rfl) (fun h=>?_) (fun h=>?_)<;>(try simp at h))|(refine eB ?_)|(refine hK _ ?_;clear hK)|(clear hK;refine hK _ ?_;clear hK)|(clear hK;clear hK;refine hK _ ?_;clear hK)|(clear hK;clear hK;clear hK;refine hK _ ?_;clear hK))
   refine ⟨[],rfl,?_⟩
   simp only [idx]
   exact dle
theorem unS_at {t:Tb} {f:Nat} (ht:tbOK t) (hf:f≤4294967295):unS [tAV t,I f] (tMs t)=some (.tup [],tMs (t.1,unl (f*256+4) t.2.1,t.2.2)):=by
 refine specG_eq (ι:={x:Tb×Nat // tbOK x.1∧x.2≤4294967295}) (A:=fun x=>[tAV x.1.1,I x.1.2]) (M:=fun x=>tMs x.1.1) (R:=fun x=>.tup []) (O:=fun x=>tMs (x.1.1.1,unl (x.1.2*256+4) x.1.1.2.1,x.1.1.2.2)) ⟨(t,f),ht,hf⟩ fun j hA hM=>?_
 obtain ⟨⟨t',f'⟩,h'⟩:=j
 simp only [List.cons.injEq,and_true,I,AV.v.injEq,Value.int.injEq,true_and,Int.ofNat_inj] at hA
 have e1:=tAV_inj hA.1 hM
 subst e1
 obtain ⟨_,rfl⟩:=hA
 exact ⟨rfl,rfl⟩
set_option maxRecDepth 4000 in
theorem callUn {a b:Nat} (hab:a≠b) {r:Int} {ns:NdL} {ds:List Dp} {f:Nat} (ht:tbOK (r,ns,ds)) (hf:f≤4294967295) {v v2:Nat} (M:Nat→AO) (nid:Nat)
  (h0:M a=.vec (v+1) 9 false (nrows ns)) (h1:M b=.vec (v2+1) 2 false (prows ds)) :
  callG unS [.agg [I r,.sl a (v+1) 9 0 ns.length,.sl b (v2+1) 2 0 ds.length],I f] M nid=some (.tup [],[(a,.vec (v+1) 9 false (nrows (unl (f*256+4) ns))),(b,.vec (v2+1) 2 false (prows ds))]):=by
 have hF:=unS_at (t:=(r,ns,ds)) ht hf
 have hsl:(unl (f*256+4) ns).length=ns.length:=unl_len
 simp only [tAV,tMs] at hF
 unfold callG
 have hba:b≠a:=fun e=>hab e.symm
 have hg:gat M 64 (nmsL [.agg [I r,.sl a (v+1) 9 0 ns.length,.sl b (v2+1) 2 0 ds.length],I f]) []=[a,b]:=by
  simp [gat,nmsL,AV.nms,AO.nms,h0,h1,hab,hba]
 simp only [hg]
 rw [if_pos ?cg]
 case cg=>simp [CallG,nmsL,AV.nms,AO.nms,Led,curBL,AV.curB,AO.curB,verOf,notDead,h0,h1,hab,hba]
 have e1:1+v=v+1:=by omega
 have e2:1+v2=v2+1:=by omega
 simp [renL,AV.ren,AO.ren,posN,canO,nmsL,h0,h1,hF,RetG,getL,AV.nms,AO.nms,updN,nmN,shN,verOf,rng,Led,hab,hba,e1,e2]
end Go.AM
