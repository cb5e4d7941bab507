/- A part of the proof; no condition. -/
import Derived.Test.YtcfhmdljeeppfaaGreatHPt84
set_option linter.all false
set_option maxHeartbeats 2000000
namespace Go.AM
open Go Go.Proofs
set_option maxRecDepth 4000
theorem keS_at {t:Tb} {g f:Int} (ht:tbOK t):keepS2 [tAV t,I g,I f] (tMs t)=some (.agg [I t.1,.sl 0 1 9 0 t.2.1.length,.sl 2 1 2 0 (t.2.2.length+1)],tMs t++[.vec 1 2 false (prows (insK t.2.2 (g,f)))]):=by
 refine specG_eq (ι:={x:Tb×Int×Int // tbOK x.1}) (A:=fun x=>[tAV x.1.1,I x.1.2.1,I x.1.2.2]) (M:=fun x=>tMs x.1.1) (R:=fun x=>retOf [.agg [I x.1.1.1,.sl 0 1 9 0 x.1.1.2.1.length,.sl 2 1 2 0 (x.1.1.2.2.length+1)]]) (O:=fun x=>tMs x.1.1++[.vec 1 2 false (prows (insK x.1.1.2.2 (x.1.2.1,x.1.2.2)))]) ⟨(t,g,f),ht⟩ fun j hA hM=>?_
 obtain ⟨⟨t',g',f'⟩,h'⟩:=j
 simp only [List.cons.injEq,and_true,I,AV.v.injEq,Value.int.injEq,true_and] at hA
 have e1:=tAV_inj hA.1 hM
 subst e1
 obtain ⟨_,rfl,rfl⟩:=hA
 exact ⟨rfl,rfl⟩
theorem reS_at {t:Tb} {g:Int} (ht:tbOK t):relS [tAV t,I g] (tMs t)=some (.tup [.agg [I t.1,.sl 0 1 9 0 t.2.1.length,.sl 2 1 2 0 (delK t.2.2 g).length],I (lastK (-1) g t.2.2)],tMs t++[.vec 1 2 false (prows (delK t.2.2 g))]):=by
 refine specG_eq (ι:={x:Tb×Int // tbOK x.1}) (A:=fun x=>[tAV x.1.1,I x.1.2]) (M:=fun x=>tMs x.1.1) (R:=fun x=>retOf [.agg [I x.1.1.1,.sl 0 1 9 0 x.1.1.2.1.length,.sl 2 1 2 0 (delK x.1.1.2.2 x.1.2).length],I (lastK (-1) x.1.2 x.1.1.2.2)]) (O:=fun x=>tMs x.1.1++[.vec 1 2 false (prows (delK x.1.1.2.2 x.1.2))]) ⟨(t,g),ht⟩ fun j hA hM=>?_
 obtain ⟨⟨t',g'⟩,h'⟩:=j
 simp only [List.cons.injEq,and_true,I,AV.v.injEq,Value.int.injEq,true_and] at hA
 have e1:=tAV_inj hA.1 hM
 subst e1
 obtain ⟨_,rfl⟩:=hA
 exact ⟨rfl,rfl⟩
theorem rmS_at {t:Tb} {g:Int} (ht:tbOK t):remS [tAV t,I g] (tMs t)=some (.agg [I t.1,.sl 2 1 9 0 (delK t.2.1 g).length,.sl 1 1 2 0 t.2.2.length],tMs t++[.vec 1 9 false (nrows (delK t.2.1 g))]):=by
 refine specG_eq (ι:={x:Tb×Int // tbOK x.1}) (A:=fun x=>[tAV x.1.1,I x.1.2]) (M:=fun x=>tMs x.1.1) (R:=fun x=>retOf [.agg [I x.1.1.1,.sl 2 1 9 0 (delK x.1.1.2.1 x.1.2).length,.sl 1 1 2 0 x.1.1.2.2.length]]) (O:=fun x=>tMs x.1.1++[.vec 1 9 false (nrows (delK x.1.1.2.1 x.1.2))]) ⟨(t,g),ht⟩ fun j hA hM=>?_
 obtain ⟨⟨t',g'⟩,h'⟩:=j
 simp only [List.cons.injEq,and_true,I,AV.v.injEq,Value.int.injEq,true_and] at hA
 have e1:=tAV_inj hA.1 hM
 subst e1
 obtain ⟨_,rfl⟩:=hA
 exact ⟨rfl,rfl⟩
theorem callKe {a b:Nat} (hab:a≠b) {r:Int} {ns:NdL} {ds:List Dp} {g f:Int} (ht:tbOK (r,ns,ds)) {v v2:Nat} (M:Nat→AO) (nid:Nat) (ha:a<nid) (hb:b<nid)
  (h0:M a=.vec (v+1) 9 false (nrows ns)) (h1:M b=.vec (v2+1) 2 false (prows ds)) :
  callG keepS2 [.agg [I r,.sl a (v+1) 9 0 ns.length,.sl b (v2+1) 2 0 ds.length],I g,I f] M nid=some (.agg [I r,.sl a (v+1) 9 0 ns.length,.sl nid 1 2 0 (ds.length+1)],[(a,.vec (v+1) 9 false (nrows ns)),(b,.vec (v2+1) 2 false (prows ds)),(nid,.vec 1 2 false (prows (insK ds (g,f))))]):=by
 have hF:=keS_at (t:=(r,ns,ds)) (g:=g) (f:=f) ht
 simp only [tAV,tMs] at hF
 unfold callG
 have hba:b≠a:=fun e=>hab e.symm
 have hg:gat M 64 (nmsL [.agg [I r,.sl a (v+1) 9 0 ns.length,.sl b (v2+1) 2 0 ds.length],I g,I f]) []=[a,b]:=by
  simp [gat,nmsL,AV.nms,AO.nms,h0,h1,hab,hba]
 simp only [hg]
 rw [if_pos ?cg]
 case cg=>simp [CallG,nmsL,AV.nms,AO.nms,Led,curBL,AV.curB,AO.curB,verOf,notDead,h0,h1,hab,hba]
 have e1:1+v=v+1:=by omega
 have e2:1+v2=v2+1:=by omega
 simp [renL,AV.ren,AO.ren,posN,canO,nmsL,h0,h1,hF,RetG,getL,AV.nms,AO.nms,updN,nmN,shN,verOf,rng,Led,hab,hba,e1,e2]
theorem callRe {a b:Nat} (hab:a≠b) {r:Int} {ns:NdL} {ds:List Dp} {g:Int} (ht:tbOK (r,ns,ds)) {v v2:Nat} (M:Nat→AO) (nid:Nat) (ha:a<nid) (hb:b<nid)
  (h0:M a=.vec (v+1) 9 false (nrows ns)) (h1:M b=.vec (v2+1) 2 false (prows ds)) :
  callG relS [.agg [I r,.sl a (v+1) 9 0 ns.length,.sl b (v2+1) 2 0 ds.length],I g] M nid=some (.tup [.agg [I r,.sl a (v+1) 9 0 ns.length,.sl nid 1 2 0 (delK ds g).length],I (lastK (-1) g ds)],[(a,.vec (v+1) 9 false (nrows ns)),(b,.vec (v2+1) 2 false (prows ds)),(nid,.vec 1 2 false (prows (delK ds g)))]):=by
 have hF:=reS_at (t:=(r,ns,ds)) (g:=g) ht
 simp only [tAV,tMs] at hF
 unfold callG
 have hba:b≠a:=fun e=>hab e.symm
 have hg:gat M 64 (nmsL [.agg [I r,.sl a (v+1) 9 0 ns.length,.sl b (v2+1) 2 0 ds.length],I g]) []=[a,b]:=by
  simp [gat,nmsL,AV.nms,AO.nms,h0,h1,hab,hba]
 simp only [hg]
 rw [if_pos ?cg]
 case cg=>simp [CallG,nmsL,AV.nms,AO.nms,Led,curBL,AV.curB,AO.curB,verOf,notDead,h0,h1,hab,hba]
 have e1:1+v=v+1:=by omega
 have e2:1+v2=v2+1:=by omega
 simp [renL,AV.ren,AO.ren,posN,canO,nmsL,h0,h1,hF,RetG,getL,AV.nms,AO.nms,updN,nmN,shN,verOf,rng,Led,hab,hba,e1,e2]
theorem callRm {a b:Nat} (hab:a≠b) {r:Int} {ns:NdL} {ds:List Dp} {g:Int} (ht:tbOK (r,ns,ds)) {v v2:Nat} (M:Nat→AO) (nid:Nat) (ha:a<nid) (hb:b<nid)
  (h0:M a=.vec (v+1) 9 false (nrows ns)) (h1:M b=.vec (v2+1) 2 false (prows ds)) :
  callG remS [.agg [I r,.sl a (v+1) 9 0 ns.length,.sl b (v2+1) 2 0 ds.length],I g] M nid=some (.agg [I r,.sl nid 1 9 0 (delK ns g).length,.sl b (v2+1) 2 0 ds.length],[(a,.vec (v+1) 9 false (nrows ns)),(b,.vec (v2+1) 2 false (prows ds)),(nid,.vec 1 9 false (nrows (delK ns g)))]):=by
 have hF:=rmS_at (t:=(r,ns,ds)) (g:=g) ht
 simp only [tAV,tMs] at hF
 unfold callG
 have hba:b≠a:=fun e=>hab e.symm
 have hg:gat M 64 (nmsL [.agg [I r,.sl a (v+1) 9 0 ns.length,.sl b (v2+1) 2 0 ds.length],I g]) []=[a,b]:=by
  simp [gat,nmsL,AV.nms,AO.nms,h0,h1,hab,hba]
 simp only [hg]
 rw [if_pos ?cg]
 case cg=>simp [CallG,nmsL,AV.nms,AO.nms,Led,curBL,AV.curB,AO.curB,verOf,notDead,h0,h1,hab,hba]
 have e1:1+v=v+1:=by omega
 have e2:1+v2=v2+1:=by omega
 simp [renL,AV.ren,AO.ren,posN,canO,nmsL,h0,h1,hF,RetG,getL,AV.nms,AO.nms,updN,nmN,shN,verOf,rng,Led,hab,hba,e1,e2]
end Go.AM
set_option maxHeartbeats 4000000
namespace Go.AM
open Go Go.Proofs
noncomputable def unS:List AV→List AO→Option (AV×List AO):=specG (ι:={x:Tb×Nat // tbOK x.1∧x.2≤4294967295}) (fun x=>[tAV x.1.1,I x.1.2]) (fun x=>tMs x.1.1) (fun x=>.tup []) fun x=>tMs (x.1.1.1,unl (x.1.2*256+4) x.1.1.2.1,x.1.1.2.2)
theorem s147 (X:AX) (hX:XOK Tryz.prog X) (hw:X.W wT) (hwd:∀ f:Nat,f≤4294967295→∀ M n,X.call 150 [.agg [I 4,I f,B false,B false,B false,B false]] M n=some (U ((f*256+4:Nat)),[])):GSound Tryz.prog 147 unS:=by
 unfold unS
 refine gsound_spec Tryz.func147 rfl X fun ⟨⟨⟨r,ns,ds⟩,f⟩,ht,hf⟩ w0 L E=>⟨by show 2≤38;decide,?_⟩
 simp only at ht hf
 have hl1:ns.length≤1000000:=ht.2.1
 have hl2:ds.length≤1000000:=ht.2.2
 have hwd':=hwd f hf
 have hun:=uAll_unl (w:=f*256+4) ht.1
 have hok:=fun i hi=>uAll_ok (w:=f*256+4) ht.1 (i:=i) hi
 obtain ⟨w,hw0⟩:∃ w,w=f*256+4:=⟨_,rfl⟩
 rw [← hw0] at hwd' hun hok
 simp only [tAV,tMs,unl_len,← hw0,← hun]
 simp only [U] at hwd'
 show AW ⟨Tryz.prog,X,38,w0,⟨L,E,2⟩⟩ _ _ _
 have hc:Cx.OK ⟨Tryz.prog,X,38,w0,⟨L,E,2⟩⟩:=⟨hX,mixed⟩
 have zS:=hwd'
 repeat' (first|(apply aw_seq_k;intro K hK)|(refine eF64 ?_)|(refine aw_cond (b:=_) (by exact rfl) (fun h=>?_) (fun h=>?_)<;>(try simp at h))|(refine eB ?_)|(refine hK _ ?_;clear hK)|(clear hK;refine hK _ ?_;clear hK)|(clear hK;clear hK;refine hK _ ?_;clear hK)|(clear hK;clear hK;clear hK;refine hK _ ?_;clear hK))
 all_goals clear zS
 refine aw_loopK (s0:=?lps1) (m0:=?lpm1) (ι:={i:Nat // i≤ns.length}) [2,4,12] (fun s=>[(13,I s.1)]) (fun s=>[(0,.vec 1 9 false (nrows (uAll w ns s.1)))]) (fun s=>ns.length - s.1) ⟨0,by simp⟩ ?lhs1 ?lhm1 ?_ ?_
 case lhs1=>first|(simp [keepS];done)|(simp [keepS];rfl)
 case lhm1=>first|rfl|(simp;done)|(simp;rfl)
 ·simp only [uAll]
  exact dle
 ·rintro ⟨i,hi⟩
  simp only at hi ⊢
  rcases Decidable.em (i<ns.length) with hil|hil
  ·have hilI:(i:Int)<(ns.length:Int):=by omega
   have hS8:=hok i hi
   have hSl:(uAll w ns i).length=ns.length:=uAll_len
   have hnx:uAll w ns (i+1)=uRow w (uAll w ns i) i 8:=rfl
   obtain ⟨S,hS⟩:∃ S,S=uAll w ns i:=⟨_,rfl⟩
   rw [← hS] at hS8 hSl hnx ⊢
   have zS:=hilI
   repeat' (first|(apply aw_seq_k;intro K hK)|(refine eF64 ?_)|(refine aw_cond (b:=_) (by exact rfl) (fun h=>?_) (fun h=>?_)<;>(try simp at h))|(refine eB ?_)|(refine hK _ ?_;clear hK)|(clear hK;refine hK _ ?_;clear hK)|(clear hK;clear hK;refine hK _ ?_;clear hK)|(clear hK;clear hK;clear hK;refine hK _ ?_;clear hK))
   all_goals clear zS
   refine aw_loopK (s0:=?lps2) (m0:=?lpm2) (ι:={j:Nat // j≤8}) [2,4,5,12,13] (fun s=>[(16,I s.1)]) (fun s=>[(0,.vec 1 9 false (nrows (uRow w S i s.1)))]) (fun s=>8 - s.1) ⟨0,by simp⟩ ?lhs2 ?lhm2 ?_ ?_
   case lhs2=>first|(simp [keepS];done)|(simp [keepS];rfl)
   case lhm2=>first|rfl|(simp;done)|(simp;rfl)
   ·simp only [uRow]
    exact dle
   ·rintro ⟨j,hj⟩
    simp only at hj ⊢
    rcases Decidable.em (j<8) with hjl|hjl
    ·have hjI:(j:Int)<8:=by omega
     have hT8:=uRow_ok (w:=w) hS8 (i:=i) (by omega) (j:=j)
     have hTl:(uRow w S i j).length=ns.length:=by rw [uRow_len,hSl]
     have hnj:uRow w S i (j+1)=uStep w (uRow w S i j) i j:=rfl
     obtain ⟨T,hT⟩:∃ T,T=uRow w S i j:=⟨_,rfl⟩
     rw [← hT] at hT8 hTl hnj ⊢
     have hiT:i<T.length:=by omega
     have hgn:=nrows_gi hiT
     have hgnE:=nrows_gE hiT
     have h8:(gn T i).2.length=8:=(hT8 _ (gn_mem hiT)).1
     have hset:=@nrows_setN T i j 0 hiT
     have hw8:=wcs_gi (l:=(gn T i).2) (i:=j) (by omega)
     have hwE:=wcs_gE (l:=(gn T i).2) (i:=j) (by omega)
     have hwd2:(gn T i).2.getD j 0=wd T i j:=rfl
     rw [hwd2] at hw8 hwE
     have hwl:(wcs (gn T i).2).length=8:=by simp [h8]
     have hst:uStep w T i j=if wd T i j=w then setN T i j 0 else T:=rfl
     rw [hst] at hnj
     obtain ⟨x,hx⟩:∃ x,x=wd T i j:=⟨_,rfl⟩
     rw [← hx] at hw8 hwE hnj
     obtain ⟨⟨fr,ws⟩,hm⟩:∃ m,m=gn T i:=⟨_,rfl⟩
     rw [← hm] at hgn hgnE hw8 hwE hwl hset
     simp only at hgn hgnE hw8 hwE hwl hset
     obtain ⟨cs,hcs⟩:∃ cs,cs=wcs ws:=⟨_,rfl⟩
     rw [← hcs] at hgn hgnE hw8 hwE hwl hset
     have hs1:∀ w:Int,(I fr::cs).set (1+j) (AV.v (.int .u64 w))=I fr::cs.set j (AV.v (.int .u64 w)):=fun w=>by rw [Nat.add_comm];rfl
     clear hcs hm h8 hx hT hst
     simp only [U] at hw8 hwE hset
     have hi1:(I fr::cs)[1+j]?=some (AV.v (.int .u64 x)):=by rw [Nat.add_comm];exact hw8
     have hset':(nrows T).set i (I fr::cs.set j (AV.v (Value.int IntKind.u64 0)))=nrows (setN T i j 0):=hset
     rcases Decidable.em (x=w) with hxw|hxw
     ·have hxI:(x:Int)=(w:Int):=by omega
      rw [if_pos hxw] at hnj
      have zS:=jj hjI<|jj hjl<|jj hilI<|jj hiT<|jj hTl<|jj hil<|jj hgn<|jj hgnE<|jj hw8<|jj hwE<|jj hwl<|jj hi1<|jj hset'<|jj hs1<|jj hxI<|hxw
      repeat' (first|(apply aw_seq_k;intro K hK)|(refine eF64 ?_)|(refine aw_cond (b:=_) (by exact rfl) (fun h=>?_) (fun h=>?_)<;>(try simp at h))|(refine eB ?_)|(refine hK _ ?_;clear hK)|(clear hK;refine hK _ ?_;clear hK)|(clear hK;clear hK;refine hK _ ?_;clear hK)|(clear hK;clear hK;clear hK;refine hK _ ?_;clear hK))
      all_goals clear zS
      refine ⟨j+1,?_,by omega,by omega⟩
      simp only [hnj]
      exact dle
     ·have hxI:¬ (x:Int)=(w:Int):=by omega
      rw [if_neg hxw] at hnj
      have zS:=jj hjI<|jj hjl<|jj hilI<|jj hiT<|jj hTl<|jj hil<|jj hgn<|jj hgnE<|jj hw8<|jj hwE<|jj hwl<|jj hi1<|jj hxI<|hxw
      repeat' (first|(apply aw_seq_k;intro K hK)|(refine eF64 ?_)|(refine aw_cond (b:=_) (by exact rfl) (fun h=>?_) (fun h=>?_)<;>(try simp at h))|(refine eB ?_)|(refine hK _ ?_;clear hK)|(clear hK;refine hK _ ?_;clear hK)|(clear hK;clear hK;refine hK _ ?_;clear hK)|(clear hK;clear hK;clear hK;refine hK _ ?_;clear hK))
      all_goals clear zS
      refine ⟨j+1,?_,by omega,by omega⟩
      simp only [hnj]
      exact dle
    ·obtain rfl:j=8:=by omega
     rw [← hnx]
     repeat' (first|(apply aw_seq_k;intro K hK)|(refine eF64o ?_)|(refine aw_cond (b:=_) (by exact rfl) (fun h=>?_) (fun h=>?_)<;>(try simp at h))|(refine eB ?_)|(refine hK _ ?_;clear hK)|(clear hK;refine hK _ ?_;clear hK)|(clear hK;clear hK;refine hK _ ?_;clear hK)|(clear hK;clear hK;clear hK;refine hK _ ?_;clear hK))
     refine ⟨i+1,?_,by omega,by omega⟩
     exact dle
  ·obtain rfl:i=ns.length:=by omega
   repeat' (first|(apply aw_seq_k;intro K hK)|(refine eF64o ?_)|(refine aw_cond (b:=_) (by exact rfl) (fun h=>?_) (fun h=>?_)<;>(try simp at h))|(refine eB ?_)|(refine hK _ ?_;clear hK)|(clear hK;refine hK _ ?_;clear hK)|(clear hK;clear hK;refine hK _ ?_;clear hK)|(clear hK;clear hK;clear hK;refine hK _ ?_;clear hK))
   refine ⟨[],rfl,?_⟩
   simp only [idx]
   exact dle
theorem unS_at {t:Tb} {f:Nat} (ht:tbOK t) (hf:f≤4294967295):unS [tAV t,I f] (tMs t)=some (.tup [],tMs (t.1,unl (f*256+4) t.2.1,t.2.2)):=by
 refine specG_eq (ι:={x:Tb×Nat // tbOK x.1∧x.2≤4294967295}) (A:=fun x=>[tAV x.1.1,I x.1.2]) (M:=fun x=>tMs x.1.1) (R:=fun x=>.tup []) (O:=fun x=>tMs (x.1.1.1,unl (x.1.2*256+4) x.1.1.2.1,x.1.1.2.2)) ⟨(t,f),ht,hf⟩ fun j hA hM=>?_
 obtain ⟨⟨t',f'⟩,h'⟩:=j
 simp only [List.cons.injEq,and_true,I,AV.v.injEq,Value.int.injEq,true_and,Int.ofNat_inj] at hA
 have e1:=tAV_inj hA.1 hM
 subst e1
 obtain ⟨_,rfl⟩:=hA
 exact ⟨rfl,rfl⟩
set_option maxRecDepth 4000 in
theorem callUn {a b:Nat} (hab:a≠b) {r:Int} {ns:NdL} {ds:List Dp} {f:Nat} (ht:tbOK (r,ns,ds)) (hf:f≤4294967295) {v v2:Nat} (M:Nat→AO) (nid:Nat)
  (h0:M a=.vec (v+1) 9 false (nrows ns)) (h1:M b=.vec (v2+1) 2 false (prows ds)) :
  callG unS [.agg [I r,.sl a (v+1) 9 0 ns.length,.sl b (v2+1) 2 0 ds.length],I f] M nid=some (.tup [],[(a,.vec (v+1) 9 false (nrows (unl (f*256+4) ns))),(b,.vec (v2+1) 2 false (prows ds))]):=by
 have hF:=unS_at (t:=(r,ns,ds)) ht hf
 have hsl:(unl (f*256+4) ns).length=ns.length:=unl_len
 simp only [tAV,tMs] at hF
 unfold callG
 have hba:b≠a:=fun e=>hab e.symm
 have hg:gat M 64 (nmsL [.agg [I r,.sl a (v+1) 9 0 ns.length,.sl b (v2+1) 2 0 ds.length],I f]) []=[a,b]:=by
  simp [gat,nmsL,AV.nms,AO.nms,h0,h1,hab,hba]
 simp only [hg]
 rw [if_pos ?cg]
 case cg=>simp [CallG,nmsL,AV.nms,AO.nms,Led,curBL,AV.curB,AO.curB,verOf,notDead,h0,h1,hab,hba]
 have e1:1+v=v+1:=by omega
 have e2:1+v2=v2+1:=by omega
 simp [renL,AV.ren,AO.ren,posN,canO,nmsL,h0,h1,hF,RetG,getL,AV.nms,AO.nms,updN,nmN,shN,verOf,rng,Led,hab,hba,e1,e2]
end Go.AM
namespace Go.AM
open Go Go.Proofs
theorem dep_key {r:Int} {ns:NdL} {ds:List Dp} (hv:Vt (r,ns,ds)) {p:Nat} (hp:p<512) (hl:(lsT (r,ns,ds) p).2.1=1) (h0:(lsT (r,ns,ds) p).2.2≠0):((p/8:Nat):Int)∈ds.map (·.1):=by
 have hpv:=hv.pv
 obtain ⟨f,l,w,hw⟩:∃ f l w,wlk (Mof ns) r p=(f,l,w):=⟨_,_,_,rfl⟩
 have h1:=(hpv.walk hp).2.2
 simp only at h1
 rw [hw] at h1
 rw [h1] at h0 hl
 simp only at h0 hl
 subst hl
 obtain ⟨a1,a2,a3,a4,a5,a6⟩:=wlk_at hpv.vm hp hw
 have hk:(decR w).1.1≠0:=fun h=>h0 ((kind0 a6).1 h)
 have h4:(decR w).1.1≠4:=decR_tab.1 a5
 have a7:=a6
 unfold okWb at a7
 simp only [Bool.and_eq_true,decide_eq_true_eq] at a7
 obtain ⟨_,a7⟩:=a7
 unfold suitB at a7
 rw [if_neg hk,if_neg h4] at a7
 by_cases hk1:(decR w).1.1=1
 ·rw [if_pos hk1] at a7
  simp at a7
  have hd:=hv.dep
  simp only at hd
  rw [hd]
  refine mem_hugM.2 ⟨p/8,by omega,rfl,hugB_iff.2 ⟨f,?_,?_⟩⟩
  ·simp only at a3
   have:p/8^(1+1)=p/8/8:=by simp;omega
   rw [this] at a3
   exact a3
  ·simp only at a4
   rw [dgt1] at a4
   rw [← a4]
   unfold hugW
   rw [hk1,a7];rfl
 ·rw [if_neg hk1] at a7
  simp at a7
end Go.AM
namespace Go.AM
open Go Go.Proofs
theorem hug_lev {M:Mm} {root:Int} (hV:VM WA M root) {p:Nat} (hp:p<512) {f:Int} {l w:Nat} (hw:wlk M root p=(f,l,w)) (hh:(decR w).1.2.2.2.2.2=true):l=1∧(decR w).2=0:=by
 obtain ⟨a1,a2,a3,a4,a5,a6⟩:=wlk_at hV hp hw
 unfold okWb at a6
 simp only [Bool.and_eq_true,decide_eq_true_eq] at a6
 have hk:=kind_huge a6.1 hh
 have h2:=a6.2
 unfold suitB at h2
 rw [if_neg (by omega),if_neg (by omega),if_pos hk,hh] at h2
 refine ⟨?_,a6.1⟩
 by_cases h0:l=0
 ·rw [if_pos h0] at h2;simp at h2
 ·rw [if_neg h0] at h2
  by_cases h1:l=1
  ·exact h1
  ·rw [if_neg h1] at h2;simp at h2
set_option maxHeartbeats 16000000 in
theorem s65 (X:AX) (hX:XOK Tryz.prog X) (hw:X.W wT)
  (hch:∀ t:Tb,tbOK t→∀ M n,X.call 40 [TbV t] M n=some (I (chk t),[]))
  (hdp:∀ (t:Tb) f,tbOK t→∀ M n,X.call 124 [TbV t,I f] M n=some (I (fstG (fun n=>decide (n.1=f)) t.2.2),[]))
  (hsp:∀ (t:Tb) (p:Nat),ptO t p→∀ M n,X.call 111 [TbV t,I p] M n=some (.tup [I (lsT t p).1,I (lsT t p).2.1],[]))
  (hcl:∀ t:Tb,tbOK t→∀ M n,X.call 104 [TbV t] M n=some (TbC t n,[(n,.vec 1 9 false (nrows t.2.1)),(n+1,.vec 1 2 false (prows t.2.2))]))
  (hwd:∀ f:Nat,f≤4294967295→∀ M n,X.call 150 [.agg [I 4,I f,B false,B false,B false,B false]] M n=some (U ((f*256+4:Nat)),[]))
  (hpa:∀ (w:Nat) (i:Int),w<2^64→∀ M n,X.call 151 [U w,I i] M n=some (.tup [U (partR w i).1,I (partR w i).2],[]))
  (hre:X.call 144=callG relS) (hin:X.call 148=callG insS) (hpu:X.call 149=callG rpS) :
  PSound Tryz.prog 65 (specF (ι:={x:Tb×Int // tbOK x.1∧x.1.2.1.length≤999000}) (fun x=>[TbV x.1.1,I x.1.2]) fun x=>retOf [TbO (splP x.1.1 x.1.2).1,I (splP x.1.1 x.1.2).2]):=by
 refine psound_spec hX mixed Tryz.func65 rfl fun ⟨⟨⟨r,ns,ds⟩,pI⟩,ht,hl9⟩ w0 G=>⟨by show 2≤90;decide,rfl,?_⟩
 show AW ⟨Tryz.prog,X,90,w0,.pure G⟩ _ _ _
 have hc:Cx.OK ⟨Tryz.prog,X,90,w0,.pure G⟩:=⟨hX,mixed⟩
 simp only at hl9 ht ⊢
 have hch':=hch _ ht
 have hl1:ns.length≤1000000:=ht.2.1
 have hl2:ds.length≤1000000:=ht.2.2
 rcases Decidable.em (ckd (r,ns,ds) pI 64≠0) with hk|hk
 ·have e:splP (r,ns,ds) pI=(zT,ckd (r,ns,ds) pI 64):=by unfold splP;rw [if_pos hk]
  rw [e]
  rcases Decidable.em (chk (r,ns,ds)=0) with hcz|hcz
  ·have hr:pI<0∨64≤pI:=by
    by_cases h:pI<0∨64≤pI
    ·exact h
    ·exact absurd (ckd_z hcz (by omega) (by omega)) hk
   rw [ckd_r hcz hr]
   rw [hcz] at hch'
   simp only [TbV,TbO,zT] at hch' ⊢
   rcases hr with hr|hr
   ·have zS:=jj hch'<|hr
    refine dM64 ?_
    repeat (intro K hK)
    clear zS
    refine ⟨by simp,?_⟩
    simp [leaves_iff,Tryz.f65,nrows,prows]
    try exact dt
   ·have hr0:¬ pI<0:=by omega
    have zS:=jj hch'<|jj hr<|hr0
    refine dM64 ?_
    repeat (intro K hK)
    clear zS
    refine ⟨by simp,?_⟩
    simp [leaves_iff,Tryz.f65,nrows,prows]
    try exact dt
  ·rw [ckd_c hcz]
   obtain ⟨c,hc0⟩:∃ c,c=chk (r,ns,ds):=⟨_,rfl⟩
   rw [← hc0] at hch' hcz ⊢
   simp only [TbV,TbO,zT] at hch' ⊢
   have zS:=jj hch'<|hcz
   refine dM64 ?_
   repeat (intro K hK)
   clear zS
   refine ⟨by simp,?_⟩
   simp [leaves_iff,Tryz.f65,nrows,prows]
   try exact dt
 ·obtain ⟨hpv,hp0,hp1⟩:=ckd_pt ht hk
  have hvt:=ckd_vt ht hk
  obtain ⟨g,rfl⟩:=Int.eq_ofNat_of_zero_le hp0
  have hg:g<64:=by omega
  obtain ⟨p,hpg⟩:∃ p,p=g*8:=⟨_,rfl⟩
  have hp:p<512:=by omega
  have hcz:=(chk_iff ht).2 hvt
  have hz:ckd (r,ns,ds) g 64=0:=by omega
  have hdp':=hdp _ (g:Int) ht
  have hsp':=hsp _ p (hpv.pto ht hp)
  have hhg:=huge_eq ht (g:Int)
  unfold hugeT hugeR at hhg
  rw [if_pos hz,Int.toNat_natCast,← hpg] at hhg
  simp only at hhg
  obtain ⟨f0,l0,w,hwk⟩:∃ f l w,wlk (Mof ns) r p=(f,l,w):=⟨_,_,_,rfl⟩
  obtain ⟨e1,e2,e3,e4,e5⟩:=end_nd hpv hp hwk
  have hgm:(g:Int)*8=(p:Int):=by omega
  have hg0:¬ (g:Int)<0:=by omega
  have hg1:¬ (64:Int)≤(g:Int):=by omega
  have hg64:(g:Int)<64:=by omega
  rw [hcz] at hch'
  cases hh:(decR w).1.2.2.2.2.2 with
  | false =>
   have eS:splP (r,ns,ds) g=(zT,6):=by
    unfold splP
    rw [if_neg hk,Int.toNat_natCast,← hpg,e2,if_neg (by simp [hh])]
   rw [eS]
   rw [e2] at hhg
   simp only [hh] at hhg
   have hlt:fstG (fun n:Dp=>decide (n.1=(g:Int))) ds<0:=by
    have:=of_decide_eq_false hhg.symm
    by_cases h:0≤fstG (fun n:Dp=>decide (n.1=(g:Int))) ds
    ·exact absurd ⟨hcz,by omega,by omega,h⟩ this
    ·omega
   obtain ⟨q,hq⟩:∃ q,q=fstG (fun n:Dp=>decide (n.1=(g:Int))) ds:=⟨_,rfl⟩
   simp only at hdp'
   rw [← hq] at hdp' hlt
   simp only [TbV,TbO,zT] at hch' hdp' ⊢
   have zS:=jj hch'<|jj hg0<|jj hg1<|jj hg64<|jj hdp'<|hlt
   refine dM64 ?_
   repeat (intro K hK)
   clear zS
   refine ⟨by simp,?_⟩
   simp [leaves_iff,Tryz.f65,nrows,prows]
   try exact dt
  | true =>
   obtain ⟨rfl,hd0⟩:=hug_lev hpv.vm hp hwk hh
   have eS:splP (r,ns,ds) g=(splN (r,ns,ds) g w,0):=by
    unfold splP
    rw [if_neg hk,Int.toNat_natCast,← hpg,e2,if_pos ⟨rfl,hh⟩]
   rw [eS]
   rw [e2] at hhg
   simp only [hh] at hhg
   have hge:¬ fstG (fun n:Dp=>decide (n.1=(g:Int))) ds<0:=by
    have:=of_decide_eq_true hhg.symm
    omega
   obtain ⟨q,hq⟩:∃ q,q=fstG (fun n:Dp=>decide (n.1=(g:Int))) ds:=⟨_,rfl⟩
   simp only at hdp'
   rw [← hq] at hdp' hge
   have hcl':=hcl _ ht
   have hw64:w<2^64:=by
    have:=lsT_u64 ht hpv hp
    rw [e2] at this
    exact this
   have hnz:w≠0:=fun e=>by rw [e,dec_huge0] at hh;simp at hh
   obtain ⟨s1,s2,_,_⟩:=split_steps hvt ht hl9 hg hpg hwk hh
   have hkey:=(lowD_key hvt.num.dasc (show (g:Int)∈ds.map (·.1) by
    have:=dep_key hvt hp (by rw [e2]) (by rw [e2];exact hnz)
    rwa [show p/8=g by omega] at this)).2
   obtain ⟨d1,d2⟩:=delL_eq hvt.num.dasc s2 hkey
   obtain ⟨f,m,k,t1,t2,t3,t4,t5,t6,t7,t8,t9,t10⟩:=split_ref hvt ht hl9 hg hpg hwk hh
   have eN:splN (r,ns,ds) g w=(r,spN r ds p w (spB (r,ns,ds) p (gp ds (lowD ds g)).2) 8,delK ds (g:Int)):=by
    unfold splN
    rw [← hpg,d1]
   rw [eN,← t10]
   rw [d2.symm.trans rfl] at t1
   have hddl:(delK ds (g:Int)).length≤1000000:=by have h1:(delK ds (g:Int)).length≤ds.length:=List.length_filter_le _ _;omega
   have hre':=fun (a b:Nat) (hab:a≠b) M nid h1 h2=>@callRe a b hab r ns ds (g:Int) ht 0 0 M nid h1 h2
   rw [← hre,t1] at hre'
   obtain ⟨dd,hdd⟩:∃ dd,dd=delK ds (g:Int):=⟨_,rfl⟩
   rw [← hdd] at hre' hddl ⊢
   have ht1:tbOK (r,ns,dd):=⟨ht.1,hl1,hddl⟩
   have hin':=fun (a b:Nat) (hab:a≠b) M nid h1 h2=>@callIn a b hab r ns dd f ht1 0 0 M nid h1 h2
   rw [← hin] at hin'
   have hil:=@insK_len _ ((f:Int),zs8) ns
   have hIasc:=insK_asc (n:=((f:Int),zs8)) hpv.asc t3
   have hIok:∀ x∈insK ns ((f:Int),zs8),ndOK x:=fun x hx=>by
    rcases mem_insK.1 hx with e|hx
    ·rw [e];exact ⟨rfl,fun w hw=>by simp [zs8] at hw;omega⟩
    ·exact ht.1 x hx
   have hdgp:dgt p 1=g%8:=by rw [dgt1];omega
   rw [hdgp] at t6 t7 t8 t9 t10 ⊢
   have hrp:rpOK ((r,insK ns ((f:Int),zs8),dd),m,g%8,f*256+4):=⟨⟨hIok,by show (insK ns ((f:Int),zs8)).length≤1000000;omega,hddl⟩,hIasc,t4,by show g%8<8;omega,by show f*256+4<2^64;omega⟩
   have hpu0:=fun (a b:Nat) (hab:a≠b) M nid=>@callRp a b hab r (insK ns ((f:Int),zs8)) dd m (g%8) (f*256+4) _ hrp rfl 0 0 M nid
   rw [← hpu,t6,t5,e3,hil] at hpu0
   have hN2l:(insK (setN ns (lsT (r,ns,ds) p).1 (g%8) (f*256+4)) ((f:Int),zs8)).length=ns.length+1:=by rw [insK_len,setN_len]
   have hwd':=hwd f t2
   have hfr:(gn (insK (setN ns (lsT (r,ns,ds) p).1 (g%8) (f*256+4)) ((f:Int),zs8)) k).1=(f:Int):=fnd_frame t7
   have hkl:=fnd_lt t7
   have hw8k:∀ i,i<8→spW w i<2^64:=fun i hi=>(spW_ok s1 hh hi).2.1
   obtain ⟨N2,hN2⟩:∃ N,N=insK (setN ns (lsT (r,ns,ds) p).1 (g%8) (f*256+4)) ((f:Int),zs8):=⟨_,rfl⟩
   rw [← hN2] at hpu0 hN2l hfr hkl t7 t8 t9 ⊢
   obtain ⟨N1,hN1⟩:∃ N,N=insK ns ((f:Int),zs8):=⟨_,rfl⟩
   rw [← hN1] at hin' hpu0
   obtain ⟨a,ha⟩:∃ a,a=(lsT (r,ns,ds) p).1:=⟨_,rfl⟩
   rw [e2] at hsp'
   rw [← ha] at hsp' e5 e3
   simp only at hsp'
   have haI:(a:Int)<(ns.length:Int):=by omega
   have hgn:=nrows_gi e5
   have hgnE:=nrows_gE e5
   have h8:(gn ns a).2.length=8:=(ht.1 _ (gn_mem e5)).1
   have hw8:=wcs_gi (l:=(gn ns a).2) (i:=g%8) (by omega)
   have hwE:=wcs_gE (l:=(gn ns a).2) (i:=g%8) (by omega)
   have hwg:(gn ns a).2.getD (g%8) 0=w:=by
    have h1:=(wlk_at hpv.vm hp hwk).2.2.2.1
    rw [hdgp] at h1
    simp only at h1
    rw [h1]
    unfold wM
    rw [e4,← ha]
   rw [hwg] at hw8 hwE
   have hwl:(wcs (gn ns a).2).length=8:=by simp [h8]
   have hdl:g%8<8:=by omega
   have hdI:((g%8:Nat):Int)<8:=by omega
   have hrem:(g:Int).tmod 8=((g%8:Nat):Int):=by rw [Int.tmod_eq_emod_of_nonneg (by omega)];omega
   obtain ⟨⟨fr,ws⟩,hm⟩:∃ m,m=gn ns a:=⟨_,rfl⟩
   rw [← hm] at hgn hgnE hw8 hwE hwl e3
   simp only at hgn hgnE hw8 hwE hwl e3
   subst e3
   obtain ⟨cs,hcs⟩:∃ cs,cs=wcs ws:=⟨_,rfl⟩
   rw [← hcs] at hgn hgnE hw8 hwE hwl
   obtain ⟨dg,hdg0⟩:∃ dg,dg=g%8:=⟨_,rfl⟩
   rw [← hdg0] at hdl hdI hrem hw8 hwE hpu0
   obtain ⟨wd0,hwd0⟩:∃ wd,wd=f*256+4:=⟨_,rfl⟩
   rw [← hwd0] at hwd' hpu0
   clear hcs hm h8 hwg hdg0 hwd0 hN1 hN2 eS eN hq
   simp only [TbV,TbC,TbO,U,Nat.zero_add] at hch' hdp' hsp' hcl' hre' hin' hpu0 hwd' hw8 hwE ⊢
   have zS:=jj hch'<|jj hg0<|jj hg1<|jj hg64<|jj hdp'<|jj hge<|jj hgm<|jj hsp'<|jj hrem<|jj e5<|jj haI<|jj hgn<|jj hgnE<|jj hw8<|jj hwE<|jj hwl<|jj hdl<|jj hdI<|jj hcl'<|jj hre'<|jj hin'<|jj hwd'<|hpu0
   repeat' (first|(apply aw_seq_k;intro K hK)|(refine eF64 ?_)|(refine aw_cond (b:=_) (by exact rfl) (fun h=>?_) (fun h=>?_)<;>(try simp at h))|(refine eB ?_)|(refine hK _ ?_;clear hK)|(clear hK;refine hK _ ?_;clear hK)|(clear hK;clear hK;refine hK _ ?_;clear hK)|(clear hK;clear hK;clear hK;refine hK _ ?_;clear hK))
   all_goals clear zS
   refine aw_loopK (s0:=?lps1) (m0:=?lpm1) (ι:={i:Nat // i≤8}) [4,9,11,12] (fun s=>[(13,I s.1)]) (fun s=>[(896,.vec 1 9 false (nrows (spR k w N2 s.1)))]) (fun s=>8 - s.1) ⟨0,by simp⟩ ?lhs1 ?lhm1 ?_ ?_
   case lhs1=>first|(simp [keepS];done)|(simp [keepS];rfl)
   case lhm1=>first|rfl|(simp;done)|(simp;rfl)
   ·simp only [spR]
    exact dle
   ·rintro ⟨i,hi⟩
    simp only at hi ⊢
    have hsl:(spR k w N2 i).length=ns.length+1:=by rw [spR_len,hN2l]
    rcases Decidable.em (i<8) with hil8|hil8
    ·have hiI:(i:Int)<8:=by omega
     obtain ⟨g1,g2,g3,g4,g5⟩:=spR_st t8 t9 hkl hw8k (k:=i) (by omega)
     have hrp2:rpOK ((r,spR k w N2 i,dd),k,i,spW w i):=⟨⟨g2,by show (spR k w N2 i).length≤1000000;omega,hddl⟩,g1,by show k<(spR k w N2 i).length;omega,hil8,hw8k i hil8⟩
     have hpu':=fun (a b:Nat) (hab:a≠b) M nid=>@callRp a b hab r (spR k w N2 i) dd k i (spW w i) f hrp2 (by rw [g5,hfr]) 0 0 M nid
     have hnx:spR k w N2 (i+1)=setN (spR k w N2 i) k i (spW w i):=rfl
     rw [← hpu,← hnx,hsl] at hpu'
     have hpa':=hpa w i hw64
     rw [(spW_ok s1 hh hil8).1] at hpa'
     obtain ⟨sw,hsw⟩:∃ sw,sw=spW w i:=⟨_,rfl⟩
     rw [← hsw] at hpa' hpu'
     simp only [U,Nat.zero_add] at hpa' hpu'
     clear hrp2 hnx
     have zS:=jj hiI<|jj hpa'<|hpu'
     repeat' (first|(apply aw_seq_k;intro K hK)|(refine eF64 ?_)|(refine aw_cond (b:=_) (by exact rfl) (fun h=>?_) (fun h=>?_)<;>(try simp at h))|(refine eB ?_)|(refine hK _ ?_;clear hK)|(clear hK;refine hK _ ?_;clear hK)|(clear hK;clear hK;refine hK _ ?_;clear hK)|(clear hK;clear hK;clear hK;refine hK _ ?_;clear hK))
     all_goals clear zS
     refine ⟨i+1,?_,by omega,by omega⟩
     exact dle
    ·obtain rfl:i=8:=by omega
     have tkR:List.take (ns.length+1) (nrows (spR k w N2 8))=nrows (spR k w N2 8):=List.take_of_length_le (by simp;omega)
     have tkd:List.take dd.length (prows dd)=prows dd:=List.take_of_length_le (by simp)
     repeat' (first|(apply aw_seq_k;intro K hK)|(refine eF64o ?_)|(refine aw_cond (b:=_) (by exact rfl) (fun h=>?_) (fun h=>?_)<;>(try simp at h))|(refine eB ?_)|(refine hK _ ?_;clear hK)|(clear hK;refine hK _ ?_;clear hK)|(clear hK;clear hK;refine hK _ ?_;clear hK)|(clear hK;clear hK;clear hK;refine hK _ ?_;clear hK))
     refine ⟨by simp,?_⟩
     simp [leaves_iff,Tryz.f65,hsl,tkR,tkd]
     try exact dt
end Go.AM
namespace Go.AM
open Go Go.Proofs
def asN (t:Tb) (p w:Nat):NdL:=(setN t.2.1 ((ptL t p).getD 1 (0,0,0)).1 (dgt p 1) w).take (lsT t p).1++(setN t.2.1 ((ptL t p).getD 1 (0,0,0)).1 (dgt p 1) w).drop ((lsT t p).1+1)
noncomputable def asmP (t:Tb) (g:Int):Tb×Int :=
 if ckd t g 64≠0 then (zT,ckd t g 64)
 else if (lsT t (g.toNat*8)).2.1≠0 then (zT,6)
 else if (joinR (gn t.2.1 (lsT t (g.toNat*8)).1).2).2≠0 then (zT,(joinR (gn t.2.1 (lsT t (g.toNat*8)).1).2).2)
 else ((t.1,asN t (g.toNat*8) (joinR (gn t.2.1 (lsT t (g.toNat*8)).1).2).1.toNat,insK t.2.2 (g,(gn t.2.1 (lsT t (g.toNat*8)).1).1)),0)
theorem asm_eq {r:Int} {ns:NdL} {ds:List Dp} (h:Pv (r,ns,ds)) (ht:tbOK (r,ns,ds)) {p:Nat} (hp:p<512) (hl:(lsT (r,ns,ds) p).2.1=0) (w:Nat) :
  ∃ n2 w2 n1 w1 g1,∃ f:Nat,ptL (r,ns,ds) p=[(n2,2,w2),(n1,1,w1),lsT (r,ns,ds) p]∧n1<ns.length∧(gn ns (lsT (r,ns,ds) p).1).1=(f:Int)∧f≤4294967295∧Pv (r,unl (f*256+4) (delK ns (f:Int)),ds)∧tbOK (r,unl (f*256+4) (delK ns (f:Int)),ds) ∧
   wlk (Mof (unl (f*256+4) (delK ns (f:Int)))) r p=(g1,1,0)∧setN (unl (f*256+4) (delK ns (f:Int))) (lsT (r,unl (f*256+4) (delK ns (f:Int)),ds) p).1 (dgt p 1) w=asN (r,ns,ds) p w ∧
   (setN ns n1 (dgt p 1) w).take (lsT (r,ns,ds) p).1++(setN ns n1 (dgt p 1) w).drop ((lsT (r,ns,ds) p).1+1)=asN (r,ns,ds) p w ∧
   asN (r,ns,ds) p w=delK (setN ns n1 (dgt p 1) w) (f:Int):=by
 obtain ⟨g,l,w0,hw⟩:∃ f l w,wlk (Mof ns) r p=(f,l,w):=⟨_,_,_,rfl⟩
 obtain ⟨e1,e2,e3,e4,e5⟩:=end_nd h hp hw
 obtain rfl:l=0:=by rw [e2] at hl;exact hl
 obtain ⟨n2,w2,n1,w1,g1,g0,hpt,q2,q1,q0,f1,f0⟩:=path_f0 h hp hl
 obtain rfl:g0=g:=by
  have k1:=fnd_frame q0
  have k2:=fnd_frame e1
  rw [← k1,k2]
 have hlf:∀ j,j<8→tabW (wM (Mof ns) g0 j)=none:=fun j hj=>by
  obtain ⟨ws,m1,m2,m3⟩:=h.vm.nd 2 (p/8) (Pos2 (by omega)) g0 f0
  have:=m3 j hj
  have h1:=(WD_ok fun _=>true).flat _ this
  unfold wM
  rw [m1]
  exact h1
 obtain ⟨f,k,c1,c2,c3,c4,c5,c6,c7,c8,c9,c10,c11⟩:=round h ht hp hw (by omega) hlf
 have hfg:f=g1:=by
  rw [show 1 - 0=1 from rfl,show p/8^(0+2)=p/64 by simp,f1] at c1
  simpa using c1.symm
 subst hfg
 have hk:k=n1:=by
  rw [q1] at c3
  simpa using c3.symm
 subst hk
 obtain ⟨fn,rfl⟩:=Int.eq_ofNat_of_zero_le c5
 simp only [Int.toNat_natCast,Nat.zero_add] at c7 c8 c9 c10 c11
 have hkl:=fnd_lt c3
 have hn0:(lsT (r,ns,ds) p).1<ns.length:=e5
 have hsa:=setN_asc h.asc (i:=dgt p 1) (w:=w) hkl
 have hN:asN (r,ns,ds) p w=(setN ns k (dgt p 1) w).take (lsT (r,ns,ds) p).1++(setN ns k (dgt p 1) w).drop ((lsT (r,ns,ds) p).1+1):=by
  unfold asN
  rw [hpt]
  rfl
 have hfr:(gn (setN ns k (dgt p 1) w) (lsT (r,ns,ds) p).1).1=(fn:Int):=by
  rw [gn_setN hkl]
  split
  ·rename_i e
   exfalso
   apply c4
   have k1:=fnd_frame c3
   have k2:=fnd_frame e1
   rw [← k1,← k2,e]
  ·exact e3
 have hD:asN (r,ns,ds) p w=delK (setN ns k (dgt p 1) w) (fn:Int):=by
  have:=td_del (l:=setN ns k (dgt p 1) w) hsa (i:=(lsT (r,ns,ds) p).1) (by rw [setN_len];exact hn0)
  rw [hN,this,← hfr,gn_eq (by rw [setN_len];exact hn0)]
 obtain ⟨d1,d2,d3,d4,d5⟩:=end_nd c8 hp c10
 refine ⟨n2,w2,k,w1,f,fn,hpt,hkl,e3,by omega,c8,c9,c10,?_,hN.symm,hD⟩
 rw [hD]
 refine ext_asc (setN_asc c8.asc d5) (delK_asc hsa) fun x=>?_
 rw [Mof_set c8.asc d1,Mof_del hsa,c7,show Mof (setN ns k (dgt p 1) w)=updW (Mof ns) f (dgt p 1) w from Mof_ext (Mof_set h.asc c3)]
 unfold updM1 updW
 by_cases x1:x=f
 ·subst x1
  simp only [if_true,if_neg c4,Option.map_map]
  congr 1
  funext l
  simp
 ·by_cases x2:x=(fn:Int)
  ·simp [x2]
   try exact fun h=>absurd h.symm c4
  ·simp [x1,x2]
theorem joinR_ok {ws:List Nat} (h8:ws.length=8) (h:(joinR ws).2=0):∃ n:Nat,(joinR ws).1=(n:Int)∧n<2^64:=by
 unfold joinR joinL at h ⊢
 split at h
 ·rename_i hc
  rw [if_pos hc]
  have hall:=chain_0 (fun p hp hf=>by
   simp only [joinC,List.mem_cons,List.not_mem_nil,or_false] at hp
   rcases hp with rfl|rfl|rfl|rfl|rfl|rfl|rfl|rfl|rfl|rfl|rfl|rfl|rfl|rfl|rfl|rfl|rfl|rfl|rfl|rfl|rfl|rfl|rfl|rfl|rfl|rfl|rfl|rfl|rfl|rfl|rfl|rfl<;>first|(intro h;simp at h;done)|(have:=of_decide_eq_false hf;exact this)) hc
  have hk:=hall _ (by simp only [joinC];exact List.mem_cons_of_mem _ (List.mem_cons_of_mem _ (List.mem_cons_of_mem _ (List.mem_cons_of_mem _ (List.mem_cons_of_mem _ (List.mem_cons_of_mem _ (List.mem_cons_of_mem _ (List.mem_cons_of_mem _ (List.mem_cons_self ..)))))))))
  simp only [Bool.and_eq_true,decide_eq_true_eq] at hk
  obtain ⟨hk1,_⟩:=hk
  rw [hk1] at h ⊢
  have hr:=decR_rng (ws.getD 0 0)
  obtain ⟨E,hE⟩:∃ E,E=decR (ws.getD 0 0):=⟨_,rfl⟩
  rw [← hE] at h hr ⊢
  obtain ⟨a,ha⟩:∃ a:Bool,a=(E.1.2.2.2.1||E.1.2.2.2.1||(decR (ws.getD 1 0)).1.2.2.2.1||(decR (ws.getD 2 0)).1.2.2.2.1||(decR (ws.getD 3 0)).1.2.2.2.1||(decR (ws.getD 4 0)).1.2.2.2.1||(decR (ws.getD 5 0)).1.2.2.2.1||(decR (ws.getD 6 0)).1.2.2.2.1||(decR (ws.getD 7 0)).1.2.2.2.1):=⟨_,rfl⟩
  obtain ⟨d,hd⟩:∃ a:Bool,a=(E.1.2.2.2.2.1||E.1.2.2.2.2.1||(decR (ws.getD 1 0)).1.2.2.2.2.1||(decR (ws.getD 2 0)).1.2.2.2.2.1||(decR (ws.getD 3 0)).1.2.2.2.2.1||(decR (ws.getD 4 0)).1.2.2.2.2.1||(decR (ws.getD 5 0)).1.2.2.2.2.1||(decR (ws.getD 6 0)).1.2.2.2.2.1||(decR (ws.getD 7 0)).1.2.2.2.2.1):=⟨_,rfl⟩
  rw [← ha,← hd] at h ⊢
  by_cases hb:badF (1,E.1.2.1,E.1.2.2.1,a,d,true)
  ·rw [encR_f (by simp) hb] at h;simp at h
  ·obtain ⟨n,h1,h2,_⟩:=decR_enc (k:=1) (f:=E.1.2.1) (d:=E.1.2.2.1) (a:=a) (x:=d) (h:=true) (by decide) hr hb rfl
   rw [h1]
   exact ⟨n,rfl,h2⟩
 ·rename_i hc
  exact absurd h hc
end Go.AM
namespace Go.AM
open Go Go.Proofs
theorem callDelN {b v i j:Nat} {l:List Nd} {fl:Bool} (hi:i≤j∧j≤l.length∧l.length≤1000000) (M:Nat→AO) (nid:Nat) (hb:M b=.vec v 9 fl (nrows l)) :
  callM false nine9 FDelN [.sl b v 9 0 l.length,I i,I j] M nid=some (.sl nid 1 9 0 (l.length - (j - i)),[(nid,.vec 1 9 false (nrows (l.take i++l.drop j))),(b,.dead)]):=by
 have hF:=FDelN_at l i j hi
 have e1:min i l.length+(l.length - j)=l.length - (j - i):=by omega
 simp [callM,giveArg,takeArg,hb,hF,List.take_of_length_le,e1]
set_option maxHeartbeats 16000000 in
theorem s66 (X:AX) (hX:XOK Tryz.prog X) (hw:X.W wT)
  (hck:∀ t:Tb,tbOK t→∀ (n lim:Int) M k,X.call 109 [TbV t,I n,I lim] M k=some (I (ckd t n lim),[]))
  (hpa:∀ (t:Tb) (p:Nat),ptO t p→∀ M n,X.call 137 [TbV t,I p] M n=some (.sl n 1 3 0 (ptL t p).length,[(n,.vec 1 3 false (srows (ptL t p)))]))
  (hdg:∀ (p l:Nat),p<512→l≤2→∀ M n,X.call 139 [I p,I l] M n=some (I (dgt p l),[]))
  (hcl:∀ t:Tb,tbOK t→∀ M n,X.call 128 [TbV t] M n=some (TbC t n,[(n,.vec 1 9 false (nrows t.2.1)),(n+1,.vec 1 2 false (prows t.2.2))]))
  (hjo:∀ ws:List Nat,ws.length=8→(∀ w∈ws,w<2^64)→∀ M n,X.call 152 [.agg (wcs ws)] M n=some (.tup [U (joinR ws).1,I (joinR ws).2],[]))
  (hde:X.call 153=callM false nine9 FDelN) (hdp:X.call 135=callG dpS) :
  PSound Tryz.prog 66 (specF (ι:={x:Tb×Int // tbOK x.1∧x.1.2.1.length≤999000}) (fun x=>[TbV x.1.1,I x.1.2]) fun x=>retOf [TbO (asmP x.1.1 x.1.2).1,I (asmP x.1.1 x.1.2).2]):=by
 refine psound_spec hX mixed Tryz.func66 rfl fun ⟨⟨⟨r,ns,ds⟩,pI⟩,ht,hl9⟩ w0 G=>⟨by show 2≤79;decide,rfl,?_⟩
 show AW ⟨Tryz.prog,X,79,w0,.pure G⟩ _ _ _
 have hc:Cx.OK ⟨Tryz.prog,X,79,w0,.pure G⟩:=⟨hX,mixed⟩
 simp only at hl9 ht ⊢
 have hck':=hck _ ht pI 64
 have hl1:ns.length≤1000000:=ht.2.1
 have hl2:ds.length≤1000000:=ht.2.2
 rcases Decidable.em (ckd (r,ns,ds) pI 64≠0) with hk|hk
 ·have e:asmP (r,ns,ds) pI=(zT,ckd (r,ns,ds) pI 64):=by unfold asmP;rw [if_pos hk]
  rw [e]
  obtain ⟨c,hc0⟩:∃ c,c=ckd (r,ns,ds) pI 64:=⟨_,rfl⟩
  rw [← hc0] at hck' hk ⊢
  simp only [TbV,TbO,zT] at hck' ⊢
  have zS:=jj hck'<|hk
  refine dM64 ?_
  repeat (intro K hK)
  clear zS
  refine ⟨by simp,?_⟩
  simp [leaves_iff,Tryz.f66,nrows,prows]
  try exact dt
 ·obtain ⟨hpv,hp0,hp1⟩:=ckd_pt ht hk
  have hvt:=ckd_vt ht hk
  obtain ⟨g,rfl⟩:=Int.eq_ofNat_of_zero_le hp0
  have hg:g<64:=by omega
  obtain ⟨p,hpg⟩:∃ p,p=g*8:=⟨_,rfl⟩
  have hp:p<512:=by omega
  have hz:ckd (r,ns,ds) g 64=0:=by omega
  rw [hz] at hck'
  have hpa':=hpa _ _ (hpv.pto ht hp)
  have hgm:(g:Int)*8=(p:Int):=by omega
  have eS:asmP (r,ns,ds) g=if (lsT (r,ns,ds) p).2.1≠0 then (zT,6)
    else if (joinR (gn ns (lsT (r,ns,ds) p).1).2).2≠0 then (zT,(joinR (gn ns (lsT (r,ns,ds) p).1).2).2)
    else ((r,asN (r,ns,ds) p (joinR (gn ns (lsT (r,ns,ds) p).1).2).1.toNat,insK ds ((g:Int),(gn ns (lsT (r,ns,ds) p).1).1)),0):=by
   unfold asmP
   rw [if_neg hk,Int.toNat_natCast,← hpg]
  rw [eS]
  clear eS
  rcases Decidable.em ((lsT (r,ns,ds) p).2.1=0) with hl0|hl0
  ·rw [if_neg (by simp [hl0])]
   obtain ⟨f00,l00,w00,hwk⟩:∃ f l w,wlk (Mof ns) r p=(f,l,w):=⟨_,_,_,rfl⟩
   have hgab:∀ d∈ds,d.1≠(g:Int):=grp_abs hvt hg (by
    rw [← hpg]
    cases hh:(decR (lsT (r,ns,ds) p).2.2).1.2.2.2.2.2 with
    | false=>rfl
    | true =>
     have h1:=(hpv.walk hp).2.2
     simp only at h1
     rw [hwk] at h1
     rw [h1] at hh hl0
     simp only at hh hl0
     have:=(hug_lev hpv.vm hp hwk hh).1
     omega)
   have hlt:=(lsT_lt hpv hp).1
   simp only at hlt
   have h8:=(ht.1 _ (gn_mem hlt)).1
   have h64:=(ht.1 _ (gn_mem hlt)).2
   have hjo':=hjo _ h8 h64
   obtain ⟨n2,w2,n1,w1,g1,f,a1,a2,a3,a4,_,_,_,_,_,_⟩:=asm_eq hpv ht hp hl0 0
   obtain ⟨J,hJ⟩:∃ J,J=joinR (gn ns (lsT (r,ns,ds) p).1).2:=⟨_,rfl⟩
   have hJok:=@joinR_ok (gn ns (lsT (r,ns,ds) p).1).2 h8
   rw [← hJ] at hjo' hJok ⊢
   obtain ⟨jw,je⟩:=J
   simp only at hjo' hJok ⊢
   rw [a1] at hpa'
   have hgn:=nrows_gi hlt
   have hgnE:=nrows_gE hlt
   have hwl:(wcs (gn ns (lsT (r,ns,ds) p).1).2).length=8:=by simp [h8]
   have hcl':=hcl _ ht
   have hdg':=hdg p 1 hp (by omega)
   rw [show ((1:Nat):Int)=1 from rfl] at hdg'
   have hdl:=dgt_lt p 1
   have hdI:((dgt p 1:Nat):Int)<8:=by omega
   have hlI:(((lsT (r,ns,ds) p).1:Nat):Int)<(ns.length:Int):=by omega
   have hn1I:(n1:Int)<(ns.length:Int):=by omega
   rcases Decidable.em (je=0) with hje|hje
   ·subst hje
    rw [if_neg (by simp)]
    obtain ⟨w,hw1,hw64⟩:=hJok rfl
    subst hw1
    rw [Int.toNat_natCast]
    obtain ⟨n2',w2',n1',w1',g1',f',b1,b2,b3,b4,b5,b6,b7,b8,b9,b10⟩:=asm_eq hpv ht hp hl0 w
    obtain ⟨rfl,rfl,rfl,rfl⟩:n2'=n2∧w2'=w2∧n1'=n1∧w1'=w1:=by
     rw [a1] at b1
     simp only [List.cons.injEq,Prod.mk.injEq,true_and,and_true] at b1
     obtain ⟨⟨h1,h2⟩,h3,h4⟩:=b1
     exact ⟨h1.symm,h2.symm,h3.symm,h4.symm⟩
    have hgn1:=nrows_gi a2
    have hgn1E:=nrows_gE a2
    have h81:=(ht.1 _ (gn_mem a2)).1
    have hset:=@nrows_setN ns n1' (dgt p 1) w a2
    have hwl1:(wcs (gn ns n1').2).length=8:=by simp [h81]
    have hsl:(setN ns n1' (dgt p 1) w).length=ns.length:=setN_len
    have hde':=fun (b:Nat) M nid h=>@callDelN b 1 (lsT (r,ns,ds) p).1 ((lsT (r,ns,ds) p).1+1) (setN ns n1' (dgt p 1) w) false ⟨by omega,by rw [hsl];omega,by rw [hsl];exact hl1⟩ M nid h
    rw [← hde,b9,hsl,show (lsT (r,ns,ds) p).1+1 - (lsT (r,ns,ds) p).1=1 by omega,show (((lsT (r,ns,ds) p).1+1:Nat):Int)=(((lsT (r,ns,ds) p).1:Nat):Int)+1 by omega] at hde'
    have hAl:(asN (r,ns,ds) p w).length=ns.length - 1:=by
     rw [← b9]
     simp only [List.length_append,List.length_take,List.length_drop,hsl]
     omega
    have htA:tbOK (r,asN (r,ns,ds) p w,ds):=⟨by rw [b10];exact delK_ok (setN_ok ht.1 hw64 a2),by show (asN (r,ns,ds) p w).length≤_;omega,hl2⟩
    have hdp':=fun M nid=>@callDp 656 1072 641 (by decide) (by decide) (by decide) r (asN (r,ns,ds) p w) ds (g:Int) (f:Int) htA hvt.num.dasc 0 0 M nid
    rw [← hdp,hAl,insL_eq hvt.num.dasc hgab] at hdp'
    rw [a3] at hgn hgnE ⊢
    obtain ⟨R,hR⟩:∃ R,R=setN ns n1' (dgt p 1) w:=⟨_,rfl⟩
    rw [← hR] at hset hde' hsl
    obtain ⟨A,hA⟩:∃ A,A=asN (r,ns,ds) p w:=⟨_,rfl⟩
    rw [← hA] at hde' hdp' hAl ⊢
    obtain ⟨⟨n0,l0,w0⟩,hS⟩:∃ S,S=lsT (r,ns,ds) p:=⟨_,rfl⟩
    rw [← hS] at hpa' hjo' hgn hgnE hwl hlt hlI hl0 hde'
    simp only at hpa' hjo' hgn hgnE hwl hlt hlI hl0 hde' ⊢
    subst hl0
    obtain ⟨⟨fr0,ws0⟩,hm0⟩:∃ m,m=gn ns n0:=⟨_,rfl⟩
    rw [← hm0] at hgn hgnE hwl hjo'
    simp only at hgn hgnE hwl hjo'
    have hcx:∀ x,x∈wcs ws0→AV.isClosed x=true:=fun a ha=>by
     obtain ⟨w,_,rfl⟩:=List.mem_map.1 ha
     rfl
    obtain ⟨cs0,hcs0⟩:∃ cs,cs=wcs ws0:=⟨_,rfl⟩
    rw [← hcs0] at hgn hgnE hwl hjo' hcx
    simp only [AV.isClosed] at hcx
    have htk0:List.take 8 cs0=cs0:=List.take_of_length_le (by omega)
    obtain ⟨⟨fr1,ws1⟩,hm1⟩:∃ m,m=gn ns n1':=⟨_,rfl⟩
    rw [← hm1] at hgn1 hgn1E hwl1 hset
    simp only at hgn1 hgn1E hwl1 hset
    obtain ⟨cs1,hcs1⟩:∃ cs,cs=wcs ws1:=⟨_,rfl⟩
    rw [← hcs1] at hgn1 hgn1E hwl1 hset
    obtain ⟨dg,hdg0⟩:∃ dg,dg=dgt p 1:=⟨_,rfl⟩
    rw [← hdg0] at hdl hdI hdg' hset
    have hs1:∀ w:Int,(I fr1::cs1).set (1+dg) (AV.v (.int .u64 w))=I fr1::cs1.set dg (AV.v (.int .u64 w)):=fun w=>by rw [Nat.add_comm];rfl
    have hil:=@insK_len _ ((g:Int),(f:Int)) ds
    have tkR:List.take (ns.length - 1) (nrows A)=nrows A:=List.take_of_length_le (by simp;omega)
    have tkd:List.take (ds.length+1) (prows (insK ds ((g:Int),(f:Int))))=prows (insK ds ((g:Int),(f:Int))):=List.take_of_length_le (by simp;omega)
    clear hcs0 hm0 hcs1 hm1 hdg0 hS hA hR hJ h8 h64 h81 b1 b2 b3 b5 b6 b7 b8 b9 b10 a1 htA
    simp only [TbV,TbO,TbC,U,srows,srow,List.map_cons,List.map_nil,List.length_cons,List.length_nil,Nat.zero_add,Nat.reduceAdd] at hck' hpa' hjo' hcl' hset hde' hdp' ⊢
    have zS:=jj hck'<|jj hgm<|jj hpa'<|jj hlt<|jj hlI<|jj hgn<|jj hgnE<|jj hwl<|jj hcx<|jj htk0<|jj hjo'<|jj hcl'<|jj a2<|jj hn1I<|jj hgn1<|jj hgn1E<|jj hwl1<|jj hdg'<|jj hdl<|jj hdI<|jj hset<|jj hs1<|jj hsl<|jj hde'<|hdp'
    refine dF64 ?_
    repeat (intro K hK)
    clear zS
    refine ⟨by simp,?_⟩
    simp [leaves_iff,Tryz.f66,hAl,hil,tkR,tkd]
    try exact dt
   ·rw [if_pos hje]
    obtain ⟨⟨n0,l0,w0⟩,hS⟩:∃ S,S=lsT (r,ns,ds) p:=⟨_,rfl⟩
    rw [← hS] at hpa' hjo' hgn hgnE hwl hlt hlI hl0
    simp only at hpa' hjo' hgn hgnE hwl hlt hlI hl0 ⊢
    subst hl0
    obtain ⟨⟨fr0,ws0⟩,hm0⟩:∃ m,m=gn ns n0:=⟨_,rfl⟩
    rw [← hm0] at hgn hgnE hwl hjo'
    simp only at hgn hgnE hwl hjo'
    have hcx:∀ x,x∈wcs ws0→AV.isClosed x=true:=fun a ha=>by
     obtain ⟨w,_,rfl⟩:=List.mem_map.1 ha
     rfl
    obtain ⟨cs0,hcs0⟩:∃ cs,cs=wcs ws0:=⟨_,rfl⟩
    rw [← hcs0] at hgn hgnE hwl hjo' hcx
    simp only [AV.isClosed] at hcx
    have htk0:List.take 8 cs0=cs0:=List.take_of_length_le (by omega)
    clear hcs0 hm0 hS hJ h8 h64 a1 hJok
    simp only [TbV,TbO,TbC,zT,U,srows,srow,List.map_cons,List.map_nil,List.length_cons,List.length_nil,Nat.zero_add,Nat.reduceAdd] at hck' hpa' hjo' ⊢
    have zS:=jj hck'<|jj hgm<|jj hpa'<|jj hlt<|jj hlI<|jj hgn<|jj hgnE<|jj hwl<|jj hcx<|jj htk0<|jj hjo'<|hje
    refine dF64 ?_
    repeat (intro K hK)
    clear zS
    refine ⟨by simp,?_⟩
    simp [leaves_iff,Tryz.f66,nrows,prows]
    try exact dt
  ·rw [if_pos hl0]
   have hlen:((ptL (r,ns,ds) p).length:Int)=3↔False:=by
    rcases (by have:=(lsT_lt hpv hp).2;omega:(lsT (r,ns,ds) p).2.1=1∨(lsT (r,ns,ds) p).2.1=2) with h1|h1
    ·obtain ⟨_,_,_,h2⟩:=path_1 hpv hp h1
     rw [h2];simp
    ·have h2:=path_2 hpv hp h1
     rw [h2];simp
   have hlenN:(ptL (r,ns,ds) p).length=3↔False:=⟨fun h=>hlen.1 (by omega),False.elim⟩
   obtain ⟨L,hL⟩:∃ L,L=ptL (r,ns,ds) p:=⟨_,rfl⟩
   rw [← hL] at hpa' hlen hlenN
   simp only [TbV,TbO,zT] at hck' hpa' ⊢
   have zS:=jj hck'<|jj hgm<|jj hpa'<|jj hlen<|hlenN
   refine dF64 ?_
   repeat (intro K hK)
   clear zS
   refine ⟨by simp,?_⟩
   simp [leaves_iff,Tryz.f66,nrows,prows]
   try exact dt
end Go.AM
namespace Go.AM
open Go Go.Proofs
set_option maxHeartbeats 16000000 in
theorem s67 (X:AX) (hX:XOK Tryz.prog X) (hw:X.W wT)
  (hch:∀ t:Tb,tbOK t→∀ M n,X.call 40 [TbV t] M n=some (I (chk t),[]))
  (hsp:∀ (t:Tb) (p:Nat),ptO t p→∀ M n,X.call 111 [TbV t,I p] M n=some (.tup [I (lsT t p).1,I (lsT t p).2.1],[]))
  (hcl:∀ t:Tb,tbOK t→∀ M n,X.call 104 [TbV t] M n=some (TbC t n,[(n,.vec 1 9 false (nrows t.2.1)),(n+1,.vec 1 2 false (prows t.2.2))]))
  (hst:OwnR X 111 (fun t x=>0≤x∧ptO t x.toNat) fun t x=>.tup [I (lsT t x.toNat).1,I (lsT t x.toNat).2.1])
  (hjo:∀ ws:List Nat,ws.length=8→(∀ w∈ws,w<2^64)→∀ M n,X.call 154 [.agg (wcs ws)] M n=some (.tup [U (joinR ws).1,I (joinR ws).2],[]))
  (hrm:X.call 146=callG remS) (hun:X.call 147=callG unS) (hke:X.call 136=callG keepS2) :
  PSound Tryz.prog 67 (specF (ι:={x:Tb×Int // tbOK x.1∧x.1.2.1.length≤999000}) (fun x=>[TbV x.1.1,I x.1.2]) fun x=>retOf [TbO (asmP x.1.1 x.1.2).1,I (asmP x.1.1 x.1.2).2]):=by
 refine psound_spec hX mixed Tryz.func67 rfl fun ⟨⟨⟨r,ns,ds⟩,pI⟩,ht,hl9⟩ w0 G=>⟨by show 2≤83;decide,rfl,?_⟩
 show AW ⟨Tryz.prog,X,83,w0,.pure G⟩ _ _ _
 have hc:Cx.OK ⟨Tryz.prog,X,83,w0,.pure G⟩:=⟨hX,mixed⟩
 simp only at hl9 ht ⊢
 have hch':=hch _ ht
 have hl1:ns.length≤1000000:=ht.2.1
 have hl2:ds.length≤1000000:=ht.2.2
 rcases Decidable.em (ckd (r,ns,ds) pI 64≠0) with hk|hk
 ·have e:asmP (r,ns,ds) pI=(zT,ckd (r,ns,ds) pI 64):=by unfold asmP;rw [if_pos hk]
  rw [e]
  rcases Decidable.em (chk (r,ns,ds)=0) with hcz|hcz
  ·have hr:pI<0∨64≤pI:=by
    by_cases h:pI<0∨64≤pI
    ·exact h
    ·exact absurd (ckd_z hcz (by omega) (by omega)) hk
   rw [ckd_r hcz hr]
   rw [hcz] at hch'
   simp only [TbV,TbO,zT] at hch' ⊢
   rcases hr with hr|hr
   ·have zS:=jj hch'<|hr
    refine dM64 ?_
    repeat (intro K hK)
    clear zS
    refine ⟨by simp,?_⟩
    simp [leaves_iff,Tryz.f67,nrows,prows]
    try exact dt
   ·have hr0:¬ pI<0:=by omega
    have zS:=jj hch'<|jj hr<|hr0
    refine dM64 ?_
    repeat (intro K hK)
    clear zS
    refine ⟨by simp,?_⟩
    simp [leaves_iff,Tryz.f67,nrows,prows]
    try exact dt
  ·rw [ckd_c hcz]
   obtain ⟨c,hc0⟩:∃ c,c=chk (r,ns,ds):=⟨_,rfl⟩
   rw [← hc0] at hch' hcz ⊢
   simp only [TbV,TbO,zT] at hch' ⊢
   have zS:=jj hch'<|hcz
   refine dM64 ?_
   repeat (intro K hK)
   clear zS
   refine ⟨by simp,?_⟩
   simp [leaves_iff,Tryz.f67,nrows,prows]
   try exact dt
 ·obtain ⟨hpv,hp0,hp1⟩:=ckd_pt ht hk
  have hvt:=ckd_vt ht hk
  obtain ⟨g,rfl⟩:=Int.eq_ofNat_of_zero_le hp0
  have hg:g<64:=by omega
  obtain ⟨p,hpg⟩:∃ p,p=g*8:=⟨_,rfl⟩
  have hp:p<512:=by omega
  have hcz:=(chk_iff ht).2 hvt
  rw [hcz] at hch'
  have hsp':=hsp _ p (hpv.pto ht hp)
  have hgm:(g:Int)*8=(p:Int):=by omega
  have hg0:¬ (g:Int)<0:=by omega
  have hg1:¬ (64:Int)≤(g:Int):=by omega
  have hg64:(g:Int)<64:=by omega
  have eS:asmP (r,ns,ds) g=if (lsT (r,ns,ds) p).2.1≠0 then (zT,6)
    else if (joinR (gn ns (lsT (r,ns,ds) p).1).2).2≠0 then (zT,(joinR (gn ns (lsT (r,ns,ds) p).1).2).2)
    else ((r,asN (r,ns,ds) p (joinR (gn ns (lsT (r,ns,ds) p).1).2).1.toNat,insK ds ((g:Int),(gn ns (lsT (r,ns,ds) p).1).1)),0):=by
   unfold asmP
   rw [if_neg hk,Int.toNat_natCast,← hpg]
  rw [eS]
  clear eS
  rcases Decidable.em ((lsT (r,ns,ds) p).2.1=0) with hl0|hl0
  ·rw [if_neg (by simp [hl0])]
   have hlt:=(lsT_lt hpv hp).1
   simp only at hlt
   have h8:=(ht.1 _ (gn_mem hlt)).1
   have h64:=(ht.1 _ (gn_mem hlt)).2
   have hjo':=hjo _ h8 h64
   obtain ⟨J,hJ⟩:∃ J,J=joinR (gn ns (lsT (r,ns,ds) p).1).2:=⟨_,rfl⟩
   have hJok:=@joinR_ok (gn ns (lsT (r,ns,ds) p).1).2 h8
   rw [← hJ] at hjo' hJok ⊢
   obtain ⟨jw,je⟩:=J
   simp only at hjo' hJok ⊢
   have hgn:=nrows_gi hlt
   have hgnE:=nrows_gE hlt
   have hwl:(wcs (gn ns (lsT (r,ns,ds) p).1).2).length=8:=by simp [h8]
   have hcl':=hcl _ ht
   have hlI:(((lsT (r,ns,ds) p).1:Nat):Int)<(ns.length:Int):=by omega
   rcases Decidable.em (je=0) with hje|hje
   ·subst hje
    rw [if_neg (by simp)]
    obtain ⟨w,hw1,hw64⟩:=hJok rfl
    subst hw1
    rw [Int.toNat_natCast]
    obtain ⟨n2,w2,n1,w1,g1,f,b1,b2,b3,b4,b5,b6,b7,b8,b9,b10⟩:=asm_eq hpv ht hp hl0 w
    have hdK:tbOK (r,delK ns (f:Int),ds):=⟨delK_ok ht.1,by have h1:(delK ns (f:Int)).length≤ns.length:=List.length_filter_le _ _;show (delK ns (f:Int)).length≤_;omega,hl2⟩
    have hrm':=fun (a b:Nat) (hab:a≠b) M nid h1 h2=>@callRm a b hab r ns ds (f:Int) ht 0 0 M nid h1 h2
    have hun':=fun (a b:Nat) (hab:a≠b) M nid=>@callUn a b hab r (delK ns (f:Int)) ds f hdK b4 0 0 M nid
    rw [← hrm] at hrm'
    rw [← hun] at hun'
    obtain ⟨d1,d2,d3,d4,d5⟩:=end_nd b5 hp b7
    have hst':=hst r (unl (f*256+4) (delK ns (f:Int))) ds p ⟨by omega,b5.pto b6 hp⟩
    simp only [Int.toNat_natCast] at hst'
    rw [b3] at hgn hgnE ⊢
    have hul:(unl (f*256+4) (delK ns (f:Int))).length=(delK ns (f:Int)).length:=unl_len
    obtain ⟨N,hN⟩:∃ N,N=unl (f*256+4) (delK ns (f:Int)):=⟨_,rfl⟩
    rw [← hN] at hun' hul hst' b5 b6 b7 b8 d1 d2 d3 d4 d5
    obtain ⟨N1,hN1⟩:∃ N,N=delK ns (f:Int):=⟨_,rfl⟩
    rw [← hN1] at hun' hul hrm'
    rw [hul] at hst'
    obtain ⟨⟨m,l2,w02⟩,hS2⟩:∃ S,S=lsT (r,N,ds) p:=⟨_,rfl⟩
    rw [← hS2] at hst' b8 d1 d2 d3 d4 d5
    simp only at hst' b8 d1 d2 d3 d4 d5
    have hdgp:dgt p 1=g%8:=by rw [dgt1];omega
    rw [hdgp] at b8
    have hgn1:=nrows_gi d5
    have hgn1E:=nrows_gE d5
    have h81:=(b6.1 _ (gn_mem d5)).1
    have hset:=@nrows_setN N m (g%8) w d5
    have hwl1:(wcs (gn N m).2).length=8:=by simp [h81]
    have hsl:(setN N m (g%8) w).length=N1.length:=by rw [setN_len,hul]
    have htA:tbOK (r,setN N m (g%8) w,ds):=⟨setN_ok b6.1 hw64 d5,by rw [show (r,setN N m (g%8) w,ds).2.1.length=N1.length from hsl];have:=b6.2.1;simp only at this;omega,hl2⟩
    have hke':=fun (a b:Nat) (hab:a≠b) M nid h1 h2=>@callKe a b hab r (setN N m (g%8) w) ds (g:Int) (f:Int) htA 0 0 M nid h1 h2
    rw [← hke,hsl] at hke'
    rw [b8] at hset hke' hsl
    have hmN:m<N1.length:=by omega
    have hmI:(m:Int)<(N1.length:Int):=by omega
    have hdl:g%8<8:=by omega
    have hdI:((g%8:Nat):Int)<8:=by omega
    have hrem:(g:Int).tmod 8=((g%8:Nat):Int):=by rw [Int.tmod_eq_emod_of_nonneg (by omega)];omega
    obtain ⟨A,hA⟩:∃ A,A=asN (r,ns,ds) p w:=⟨_,rfl⟩
    rw [← hA] at hset hke' hsl ⊢
    obtain ⟨⟨n0,l0,w0⟩,hS⟩:∃ S,S=lsT (r,ns,ds) p:=⟨_,rfl⟩
    rw [← hS] at hsp' hjo' hgn hgnE hwl hlt hlI hl0
    simp only at hsp' hjo' hgn hgnE hwl hlt hlI hl0 ⊢
    subst hl0
    obtain ⟨⟨fr0,ws0⟩,hm0⟩:∃ m,m=gn ns n0:=⟨_,rfl⟩
    rw [← hm0] at hgn hgnE hwl hjo'
    simp only at hgn hgnE hwl hjo'
    have hcx:∀ x,x∈wcs ws0→AV.isClosed x=true:=fun a ha=>by
     obtain ⟨w,_,rfl⟩:=List.mem_map.1 ha
     rfl
    obtain ⟨cs0,hcs0⟩:∃ cs,cs=wcs ws0:=⟨_,rfl⟩
    rw [← hcs0] at hgn hgnE hwl hjo' hcx
    simp only [AV.isClosed] at hcx
    have htk0:List.take 8 cs0=cs0:=List.take_of_length_le (by omega)
    obtain ⟨⟨fr1,ws1⟩,hm1⟩:∃ m',m'=gn N m:=⟨_,rfl⟩
    rw [← hm1] at hgn1 hgn1E hwl1 hset
    simp only at hgn1 hgn1E hwl1 hset
    obtain ⟨cs1,hcs1⟩:∃ cs,cs=wcs ws1:=⟨_,rfl⟩
    rw [← hcs1] at hgn1 hgn1E hwl1 hset
    obtain ⟨dg,hdg0⟩:∃ dg,dg=g%8:=⟨_,rfl⟩
    rw [← hdg0] at hdl hdI hrem hset
    have hs1:∀ w:Int,(I fr1::cs1).set (1+dg) (AV.v (.int .u64 w))=I fr1::cs1.set dg (AV.v (.int .u64 w)):=fun w=>by rw [Nat.add_comm];rfl
    have hil:=@insK_len _ ((g:Int),(f:Int)) ds
    have tkR:List.take N1.length (nrows A)=nrows A:=List.take_of_length_le (by simp;omega)
    have tkd:List.take (ds.length+1) (prows (insK ds ((g:Int),(f:Int))))=prows (insK ds ((g:Int),(f:Int))):=List.take_of_length_le (by simp;omega)
    clear hcs0 hm0 hcs1 hm1 hdg0 hS hA hS2 hN hN1 hJ h8 h64 h81 b1 b3 b5 b6 b7 b8 b9 b10 htA hdK d1 d2 d3 d4
    simp only [TbV,TbO,TbC,U,Nat.zero_add] at hch' hsp' hjo' hcl' hset hrm' hun' hke' hst' ⊢
    have zS:=jj hch'<|jj hg0<|jj hg1<|jj hg64<|jj hgm<|jj hsp'<|jj hlt<|jj hlI<|jj hgn<|jj hgnE<|jj hwl<|jj hcx<|jj htk0<|jj hjo'<|jj hcl'<|jj hrm'<|jj hun'<|jj hst'<|jj hmN<|jj hmI<|jj hgn1<|jj hgn1E<|jj hwl1<|jj hrem<|jj hdl<|jj hdI<|jj hset<|jj hs1<|hke'
    refine dF64 ?_
    repeat (intro K hK)
    clear zS
    refine ⟨by simp,?_⟩
    simp [leaves_iff,Tryz.f67,hsl,hil,tkR,tkd]
    try exact dt
   ·rw [if_pos hje]
    obtain ⟨⟨n0,l0,w0⟩,hS⟩:∃ S,S=lsT (r,ns,ds) p:=⟨_,rfl⟩
    rw [← hS] at hsp' hjo' hgn hgnE hwl hlt hlI hl0
    simp only at hsp' hjo' hgn hgnE hwl hlt hlI hl0 ⊢
    subst hl0
    obtain ⟨⟨fr0,ws0⟩,hm0⟩:∃ m,m=gn ns n0:=⟨_,rfl⟩
    rw [← hm0] at hgn hgnE hwl hjo'
    simp only at hgn hgnE hwl hjo'
    have hcx:∀ x,x∈wcs ws0→AV.isClosed x=true:=fun a ha=>by
     obtain ⟨w,_,rfl⟩:=List.mem_map.1 ha
     rfl
    obtain ⟨cs0,hcs0⟩:∃ cs,cs=wcs ws0:=⟨_,rfl⟩
    rw [← hcs0] at hgn hgnE hwl hjo' hcx
    simp only [AV.isClosed] at hcx
    have htk0:List.take 8 cs0=cs0:=List.take_of_length_le (by omega)
    clear hcs0 hm0 hS hJ h8 h64 hJok
    simp only [TbV,TbO,TbC,zT,U] at hch' hsp' hjo' ⊢
    have zS:=jj hch'<|jj hg0<|jj hg1<|jj hg64<|jj hgm<|jj hsp'<|jj hlt<|jj hlI<|jj hgn<|jj hgnE<|jj hwl<|jj hcx<|jj htk0<|jj hjo'<|hje
    refine dF64 ?_
    repeat (intro K hK)
    clear zS
    refine ⟨by simp,?_⟩
    simp [leaves_iff,Tryz.f67,nrows,prows]
    try exact dt
  ·rw [if_pos hl0]
   obtain ⟨⟨n0,l0,w0⟩,hS⟩:∃ S,S=lsT (r,ns,ds) p:=⟨_,rfl⟩
   rw [← hS] at hsp' hl0
   simp only at hsp' hl0
   have hl0I:(0:Int)<(l0:Int):=by omega
   have hl0N:0<l0:=by omega
   simp only [TbV,TbO,zT] at hch' hsp' ⊢
   have zS:=jj hch'<|jj hg0<|jj hg1<|jj hg64<|jj hgm<|jj hsp'<|jj hl0I<|hl0N
   refine dF64 ?_
   repeat (intro K hK)
   clear zS
   refine ⟨by simp,?_⟩
   simp [leaves_iff,Tryz.f67,nrows,prows]
   try exact dt
end Go.AM
