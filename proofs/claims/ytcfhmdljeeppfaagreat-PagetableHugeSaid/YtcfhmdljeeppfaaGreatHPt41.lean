/- A part of the proof; no condition. -/
import Derived.Test.YtcfhmdljeeppfaaGreatHPt37
import Derived.Shelf.SlSortFuncK.WholeK
import Derived.Test.YtcfhmdljeeppfaaGreatHAmDs
import Derived.Test.YtcfhmdljeeppfaaGreatHPt6
import Derived.Test.YtcfhmdljeeppfaaGreatHPt14
import Derived.Deep.RegionHeld3
import Derived.LoopN
import Derived.WalkKit
import Derived.Test.YtcfhmdljeeppfaaGreatHPt31
import Derived.Test.YtcfhmdljeeppfaaGreatHAmT
set_option linter.all false
set_option maxHeartbeats 4000000
namespace Go.AM
open Go Go.Proofs
@[simp] theorem tyPtab:Types Tryz.prog 186=some ⟨.pointer 63,1,8,[.pointer none]⟩:=by kernel_rfl
def scM (t:Tb) (g:Int):List AO:=[.box [.bp 1 0],.box [I t.1,.sl 2 1 9 0 t.2.1.length,.sl 3 1 2 0 t.2.2.length],.vec 1 9 false (nrows t.2.1),.vec 1 2 false (prows t.2.2),.box [I g]]
theorem scM_inj {t t':Tb} {g g':Int} (h:scM t g=scM t' g'):t=t'∧g=g':=by
 obtain ⟨r,ns,ds⟩:=t
 obtain ⟨r',ns',ds'⟩:=t'
 simp only [scM,List.cons.injEq,AO.box.injEq,I,AV.v.injEq,Value.int.injEq,true_and,AO.vec.injEq,nrows_inj,prows_inj,and_true] at h
 obtain ⟨⟨h1,_⟩,h2,h3,h4⟩:=h
 exact ⟨by rw [h1,h2,h3],h4⟩
abbrev ScD:=Tb×Int×Nat
noncomputable def clS:List AV→List AO→Option (AV×List AO):=specG (ι:={x:ScD // tbOK x.1∧x.2.2<x.1.2.2.length}) (fun x=>[I x.1.2.2,.bp 0 0,.bp 4 0]) (fun x=>scM x.1.1 x.1.2.1) (fun x=>retOf [B (decide (x.1.2.1≤(gp x.1.1.2.2 x.1.2.2).1))]) fun x=>scM x.1.1 x.1.2.1
theorem clS_at {t:Tb} {g:Int} {i:Nat} (ht:tbOK t) (hi:i<t.2.2.length):clS [I i,.bp 0 0,.bp 4 0] (scM t g)=some (B (decide (g≤(gp t.2.2 i).1)),scM t g):=by
 refine specG_eq (ι:={x:ScD // tbOK x.1∧x.2.2<x.1.2.2.length}) (A:=fun x=>[I x.1.2.2,.bp 0 0,.bp 4 0]) (M:=fun x=>scM x.1.1 x.1.2.1) (R:=fun x=>retOf [B (decide (x.1.2.1≤(gp x.1.1.2.2 x.1.2.2).1))]) (O:=fun x=>scM x.1.1 x.1.2.1) ⟨(t,g,i),ht,hi⟩ fun j hA hM=>?_
 obtain ⟨⟨t',g',i'⟩,h'⟩:=j
 obtain ⟨rfl,rfl⟩:=scM_inj hM
 simp only [List.cons.injEq,I,AV.v.injEq,Value.int.injEq,true_and,and_true] at hA
 have:i'=i:=by omega
 subst this
 exact ⟨rfl,rfl⟩
theorem s189 (X:AX) (hX:XOK Tryz.prog X) (hw:X.W wT):GSound Tryz.prog 189 clS:=by
 unfold clS
 refine gsound_spec Tryz.func189 rfl X fun ⟨⟨⟨r,ns,ds⟩,g,i⟩,ht,hi⟩ w0 L E=>⟨by show 3≤15;decide,?_⟩
 have hi:i<ds.length:=hi
 have hl2:ds.length≤1000000:=ht.2.2
 simp only [scM]
 show AW ⟨Tryz.prog,X,15,w0,⟨L,E,5⟩⟩ _ _ _
 have hc:Cx.OK ⟨Tryz.prog,X,15,w0,⟨L,E,5⟩⟩:=⟨hX,mixed⟩
 have hiI:(i:Int)<(ds.length:Int):=by omega
 have hg:=prows_gi hi
 have hgE:=prows_gE hi
 obtain ⟨⟨a,b⟩,hm⟩:∃ m,m=gp ds i:=⟨_,rfl⟩
 rw [← hm] at hg hgE
 try simp only at hg hgE
 have hm1:(gp ds i).1=a:=by rw [← hm]
 have zS:=jj hi<|jj hiI<|jj hg<|hgE
 refine dM64 ?_
 repeat (intro K hK)
 clear zS
 refine ⟨by simp,_,by simp [aResults,aResult,Tryz.f189];rfl,?_⟩
 simp only [idx,hm1]
 exact dle
theorem s191 (X:AX) (hX:XOK Tryz.prog X) (hw:X.W wT):GSound Tryz.prog 191 clS:=by
 unfold clS
 refine gsound_spec Tryz.func191 rfl X fun ⟨⟨⟨r,ns,ds⟩,g,i⟩,ht,hi⟩ w0 L E=>⟨by show 3≤15;decide,?_⟩
 have hi:i<ds.length:=hi
 have hl2:ds.length≤1000000:=ht.2.2
 simp only [scM]
 show AW ⟨Tryz.prog,X,15,w0,⟨L,E,5⟩⟩ _ _ _
 have hc:Cx.OK ⟨Tryz.prog,X,15,w0,⟨L,E,5⟩⟩:=⟨hX,mixed⟩
 have hiI:(i:Int)<(ds.length:Int):=by omega
 have hg:=prows_gi hi
 have hgE:=prows_gE hi
 obtain ⟨⟨a,b⟩,hm⟩:∃ m,m=gp ds i:=⟨_,rfl⟩
 rw [← hm] at hg hgE
 try simp only at hg hgE
 have hm1:(gp ds i).1=a:=by rw [← hm]
 have zS:=jj hi<|jj hiI<|jj hg<|hgE
 refine dM64 ?_
 repeat (intro K hK)
 clear zS
 refine ⟨by simp,_,by simp [aResults,aResult,Tryz.f191];rfl,?_⟩
 simp only [idx,hm1]
 exact dle
set_option maxRecDepth 4000 in
theorem callCl {t:Tb} {g:Int} {i:Nat} (ht:tbOK t) (hi:i<t.2.2.length) (M:Nat→AO) (nid:Nat)
  (h0:M 0=.box [.bp 1 0]) (h1:M 1=.box [I t.1,.sl 2 1 9 0 t.2.1.length,.sl 3 1 2 0 t.2.2.length]) (h2:M 2=.vec 1 9 false (nrows t.2.1)) (h3:M 3=.vec 1 2 false (prows t.2.2)) (h4:M 4=.box [I g]) :
  callG clS [I i,.bp 0 0,.bp 4 0] M nid=some (B (decide (g≤(gp t.2.2 i).1)),[(0,.box [.bp 1 0]),(1,.box [I t.1,.sl 2 1 9 0 t.2.1.length,.sl 3 1 2 0 t.2.2.length]),(2,.vec 1 9 false (nrows t.2.1)),(3,.vec 1 2 false (prows t.2.2)),(4,.box [I g])]):=by
 have hF:=clS_at (g:=g) ht hi
 simp only [scM] at hF
 unfold callG
 have hg:gat M 64 (nmsL [I i,.bp 0 0,.bp 4 0]) []=[0,1,2,3,4]:=by
  simp [gat,nmsL,AV.nms,AO.nms,h0,h1,h2,h3,h4]
 simp only [hg]
 rw [if_pos ?cg]
 case cg=>simp [CallG,nmsL,AV.nms,AO.nms,Led,curBL,AV.curB,AO.curB,verOf,notDead,h0,h1,h2,h3,h4]
 simp [renL,AV.ren,AO.ren,posN,canO,nmsL,h0,h1,h2,h3,h4,hF,RetG,getL,AV.nms,AO.nms,updN,nmN,shN,verOf,rng,Led]
@[simp] theorem tyUint:Types Tryz.prog 199=some ⟨.int .u64,1,8,[.int .u64 0]⟩:=by kernel_rfl
def lowD (ds:List Dp) (g:Int):Nat:=ds.findIdx fun d=>decide (g≤d.1)
theorem lowD_le {ds:List Dp} {g:Int}:lowD ds g≤ds.length:=List.findIdx_le_length
noncomputable def seS (c:FuncId):List AV→List AO→Option (AV×List AO):=specG (ι:={x:Tb×Int // tbOK x.1∧ascK x.1.2.2}) (fun x=>[I x.1.1.2.2.length,.fn c [.bp 0 0,.bp 4 0]]) (fun x=>scM x.1.1 x.1.2) (fun x=>retOf [I (lowD x.1.1.2.2 x.1.2)]) fun x=>scM x.1.1 x.1.2
theorem seS_at {c:FuncId} {t:Tb} {g:Int} (ht:tbOK t) (ha:ascK t.2.2):seS c [I t.2.2.length,.fn c [.bp 0 0,.bp 4 0]] (scM t g)=some (I (lowD t.2.2 g),scM t g):=by
 refine specG_eq (ι:={x:Tb×Int // tbOK x.1∧ascK x.1.2.2}) (A:=fun x=>[I x.1.1.2.2.length,.fn c [.bp 0 0,.bp 4 0]]) (M:=fun x=>scM x.1.1 x.1.2) (R:=fun x=>retOf [I (lowD x.1.1.2.2 x.1.2)]) (O:=fun x=>scM x.1.1 x.1.2) ⟨(t,g),ht,ha⟩ fun j hA hM=>?_
 obtain ⟨⟨t',g'⟩,h'⟩:=j
 obtain ⟨rfl,rfl⟩:=scM_inj hM
 exact ⟨rfl,rfl⟩
theorem gp_asc {ds:List Dp} (h:ascK ds) {i j:Nat} (hij:i<j) (hj:j<ds.length):(gp ds i).1<(gp ds j).1:=by
 have:=List.pairwise_iff_getElem.1 h i j (by omega) hj hij
 rw [gp_eq (by omega),gp_eq hj];exact this
theorem lowD_at {ds:List Dp} {g:Int} {i:Nat} (hi:i≤ds.length) (h1:∀ k,k<i→¬ g≤(gp ds k).1) (h2:i<ds.length→g≤(gp ds i).1):lowD ds g=i:=by
 unfold lowD
 rcases Nat.lt_or_ge i ds.length with h|h
 ·rw [List.findIdx_eq h]
  refine ⟨by have:=h2 h;rw [gp_eq h] at this;simpa using this,fun j hj=>?_⟩
  have:=h1 j hj
  rw [gp_eq (by omega)] at this
  simpa using this
 ·have:i=ds.length:=by omega
  subst this
  rw [List.findIdx_eq_length]
  intro x hx
  obtain ⟨j,hj,rfl⟩:=List.getElem_of_mem hx
  have:=h1 j hj
  rw [gp_eq hj] at this
  simpa using this
theorem s188 (X:AX) (hX:XOK Tryz.prog X) (hw:X.W wT) (c:FuncId) (hcl:X.call c=callG clS):GSound Tryz.prog 188 (seS c):=by
 unfold seS
 refine gsound_spec Tryz.func188 rfl X fun ⟨⟨⟨r,ns,ds⟩,g⟩,ht,ha⟩ w0 L E=>⟨by show 2≤26;decide,?_⟩
 simp only at ha
 have hl1:ns.length≤1000000:=ht.2.1
 have hl2:ds.length≤1000000:=ht.2.2
 simp only [scM]
 show AW ⟨Tryz.prog,X,26,w0,⟨L,E,5⟩⟩ _ _ _
 have hc:Cx.OK ⟨Tryz.prog,X,26,w0,⟨L,E,5⟩⟩:=⟨hX,mixed⟩
 repeat' (first|(apply aw_seq_k;intro K hK)|(refine eM64o ?_)|(refine aw_cond (b:=_) (by exact rfl) (fun h=>?_) (fun h=>?_)<;>(try simp at h))|(refine eB ?_)|(refine hK _ ?_;clear hK)|(clear hK;refine hK _ ?_;clear hK)|(clear hK;clear hK;refine hK _ ?_;clear hK)|(clear hK;clear hK;clear hK;refine hK _ ?_;clear hK))
 refine aw_loopK (s0:=?lps1) (m0:=?lpm1) (ι:={s:Nat×Nat // s.1≤s.2∧s.2≤ds.length∧(∀ k,k<s.1→¬ g≤(gp ds k).1)∧∀ k,s.2≤k→k<ds.length→g≤(gp ds k).1}) [1] (fun s=>[(5,I s.1.1),(6,I s.1.2)]) (fun _=>[]) (fun s=>s.1.2 - s.1.1) ⟨(0,ds.length),by simp,by simp,by simp,by simp only;omega⟩ ?lhs1 ?lhm1 ?_ ?_
 case lhs1=>first|(simp [keepS];done)|(simp [keepS];rfl)
 case lhm1=>first|rfl|(simp;done)|(simp;rfl)
 ·exact dle
 ·rintro ⟨⟨i,j⟩,hij,hj,h1,h2⟩
  simp only at hij hj h1 h2 ⊢
  rcases Decidable.em (i<j) with hl|hl
  ·have hlI:(i:Int)<(j:Int):=by omega
   obtain ⟨md,hh⟩:∃ md,md=(i+j)/2:=⟨_,rfl⟩
   have hhl:md<ds.length:=by omega
   have hcall:=@callCl (r,ns,ds) g md ht hhl
   simp only at hcall
   rw [← hcl] at hcall
   have hhI:((i:Int)+(j:Int))/2=(md:Int):=by rw [hh];omega
   have hs1:IntKind.u64.wrap ((i:Int)+(j:Int))=(i:Int)+j:=wrapU64 ⟨by omega,by omega⟩
   have hs2:((i:Int)+(j:Int))/2^min 1 IntKind.u64.bits=(md:Int):=by
    rw [show (2:Int)^min 1 IntKind.u64.bits=2 by simp [IntKind.bits]];exact hhI
   rcases Decidable.em (g≤(gp ds md).1) with hq|hq
   ·rw [decide_eq_true hq] at hcall
    have zS:=jj hlI<|jj hcall<|jj hhI<|jj hs1<|hs2
    repeat' (first|(apply aw_seq_k;intro K hK)|(refine eM64 ?_)|(refine aw_cond (b:=_) (by exact rfl) (fun h=>?_) (fun h=>?_)<;>(try simp at h))|(refine eB ?_)|(refine hK _ ?_;clear hK)|(clear hK;refine hK _ ?_;clear hK)|(clear hK;clear hK;refine hK _ ?_;clear hK)|(clear hK;clear hK;clear hK;refine hK _ ?_;clear hK))
    all_goals clear zS
    refine ⟨i,md,?_,⟨by omega,by omega,fun k hk=>by have:=h1 k hk;omega,fun k hk hk2=>?_⟩,by omega⟩
    ·exact dle
    ·rcases Nat.lt_or_ge md k with h3|h3
     ·have:=gp_asc ha h3 hk2;omega
     ·obtain rfl:k=md:=by omega
      exact hq
   ·rw [decide_eq_false hq] at hcall
    have zS:=jj hlI<|jj hcall<|jj hhI<|jj hs1<|hs2
    repeat' (first|(apply aw_seq_k;intro K hK)|(refine eM64 ?_)|(refine aw_cond (b:=_) (by exact rfl) (fun h=>?_) (fun h=>?_)<;>(try simp at h))|(refine eB ?_)|(refine hK _ ?_;clear hK)|(clear hK;refine hK _ ?_;clear hK)|(clear hK;clear hK;refine hK _ ?_;clear hK)|(clear hK;clear hK;clear hK;refine hK _ ?_;clear hK))
    all_goals clear zS
    refine ⟨md+1,j,?_,⟨by omega,by omega,fun k hk=>?_,h2⟩,by omega⟩
    ·exact dle
    ·rcases Nat.lt_or_ge k md with h3|h3
     ·have:=gp_asc ha h3 hhl;omega
     ·obtain rfl:k=md:=by omega
      omega
  ·obtain rfl:i=j:=by omega
   have e:lowD ds g=i:=lowD_at (by omega) h1 fun h=>h2 i (Nat.le_refl _) h
   repeat' (first|(apply aw_seq_k;intro K hK)|(refine eM64o ?_)|(refine aw_cond (b:=_) (by exact rfl) (fun h=>?_) (fun h=>?_)<;>(try simp at h))|(refine eB ?_)|(refine hK _ ?_;clear hK)|(clear hK;refine hK _ ?_;clear hK)|(clear hK;clear hK;refine hK _ ?_;clear hK)|(clear hK;clear hK;clear hK;refine hK _ ?_;clear hK))
   refine ⟨by simp,_,by simp [aResults,aResult,Tryz.f188];rfl,?_⟩
   simp only [idx,e]
   exact dle
end Go.AM
namespace Go.AM
open Go Go.Proofs
def sortRen:Go.Shelf.Ren :=
 {f:=fun x=>match x with
   | 6=>214
   | 10=>238
   | 11=>239
   | 12=>240
   | 13=>213
   | 14=>241
   | 24=>236
   | 25=>237
   | 26=>260
   | 27=>261
   | 28=>262
   | 29=>263
   | 30=>264
   | 31=>265
   | 32=>266
   | 33=>267
   | 34=>271
   | 35=>272
   | 36=>273
   | 37=>274
   | 38=>275
   | 39=>276
   | n=>n
  t:=fun x=>match x with
   | 20=>20
   | 26=>250
   | 35=>274
   | 0=>0
   | 37=>145
   | 3=>3
   | 41=>199
   | 44=>280
   | 49=>238
   | 51=>76
   | 4=>4
   | 54=>292
   | 53=>291
   | 58=>179
   | 5=>5
   | 9=>9
   | 60=>301
   | 64=>183
   | 66=>304
   | 67=>79
   | 17=>17
   | 32=>271
   | 33=>272
   | 82=>319
   | 12=>12
   | 75=>312
   | 76=>313
   | 77=>314
   | 78=>315
   | 79=>316
   | 80=>317
   | n=>n
  g:=fun n=>n }
theorem laySort:Go.Proofs.LaysGg.n6 Tryz.prog sortRen :=
 {mixed:=mixed
  f6:=Tryz.func214.trans (congrArg some (by kernel_rfl))
  f10:=Tryz.func238.trans (congrArg some (by kernel_rfl))
  f11:=Tryz.func239.trans (congrArg some (by kernel_rfl))
  f12:=Tryz.func240.trans (congrArg some (by kernel_rfl))
  f13:=Tryz.func213.trans (congrArg some (by kernel_rfl))
  f14:=Tryz.func241.trans (congrArg some (by kernel_rfl))
  f24:=Tryz.func236.trans (congrArg some (by kernel_rfl))
  f25:=Tryz.func237.trans (congrArg some (by kernel_rfl))
  f26:=Tryz.func260.trans (congrArg some (by kernel_rfl))
  f27:=Tryz.func261.trans (congrArg some (by kernel_rfl))
  f28:=Tryz.func262.trans (congrArg some (by kernel_rfl))
  f29:=Tryz.func263.trans (congrArg some (by kernel_rfl))
  f30:=Tryz.func264.trans (congrArg some (by kernel_rfl))
  f31:=Tryz.func265.trans (congrArg some (by kernel_rfl))
  f32:=Tryz.func266.trans (congrArg some (by kernel_rfl))
  f33:=Tryz.func267.trans (congrArg some (by kernel_rfl))
  f34:=Tryz.func271.trans (congrArg some (by kernel_rfl))
  f35:=Tryz.func272.trans (congrArg some (by kernel_rfl))
  f36:=Tryz.func273.trans (congrArg some (by kernel_rfl))
  f37:=Tryz.func274.trans (congrArg some (by kernel_rfl))
  f38:=Tryz.func275.trans (congrArg some (by kernel_rfl))
  f39:=Tryz.func276.trans (congrArg some (by kernel_rfl))
  t0:=Tryz.underlying0
  a0:=Tryz.isAgg0
  z0:=Tryz.sizeOf0
  v0:=Tryz.zeroValue0
  t3:=Tryz.underlying3
  a3:=Tryz.isAgg3
  z3:=Tryz.sizeOf3
  v3:=Tryz.zeroValue3
  t4:=Tryz.underlying4
  a4:=Tryz.isAgg4
  z4:=Tryz.sizeOf4
  v4:=Tryz.zeroValue4
  t5:=Tryz.underlying5
  a5:=Tryz.isAgg5
  z5:=Tryz.sizeOf5
  v5:=Tryz.zeroValue5
  t9:=Tryz.underlying9
  a9:=Tryz.isAgg9
  z9:=Tryz.sizeOf9
  v9:=Tryz.zeroValue9
  t12:=Tryz.underlying12
  a12:=Tryz.isAgg12
  z12:=Tryz.sizeOf12
  v12:=Tryz.zeroValue12
  t17:=Tryz.underlying17
  a17:=Tryz.isAgg17
  z17:=Tryz.sizeOf17
  v17:=Tryz.zeroValue17
  t20:=Tryz.underlying20
  a20:=Tryz.isAgg20
  z20:=Tryz.sizeOf20
  v20:=Tryz.zeroValue20
  t26:=Tryz.underlying250
  a26:=Tryz.isAgg250
  z26:=Tryz.sizeOf250
  v26:=Tryz.zeroValue250
  t32:=Tryz.underlying271
  a32:=Tryz.isAgg271
  z32:=Tryz.sizeOf271
  v32:=Tryz.zeroValue271
  t33:=Tryz.underlying272
  a33:=Tryz.isAgg272
  z33:=Tryz.sizeOf272
  v33:=Tryz.zeroValue272
  t35:=Tryz.underlying274
  a35:=Tryz.isAgg274
  z35:=Tryz.sizeOf274
  v35:=Tryz.zeroValue274
  t37:=Tryz.underlying145
  a37:=Tryz.isAgg145
  z37:=Tryz.sizeOf145
  v37:=Tryz.zeroValue145
  t41:=Tryz.underlying199
  a41:=Tryz.isAgg199
  z41:=Tryz.sizeOf199
  v41:=Tryz.zeroValue199
  t44:=Tryz.underlying280
  a44:=Tryz.isAgg280
  z44:=Tryz.sizeOf280
  v44:=Tryz.zeroValue280
  t49:=Tryz.underlying238
  a49:=Tryz.isAgg238
  z49:=Tryz.sizeOf238
  v49:=Tryz.zeroValue238
  t51:=Tryz.underlying76
  a51:=Tryz.isAgg76
  z51:=Tryz.sizeOf76
  v51:=Tryz.zeroValue76
  t53:=Tryz.underlying291
  a53:=Tryz.isAgg291
  z53:=Tryz.sizeOf291
  v53:=Tryz.zeroValue291
  t54:=Tryz.underlying292
  a54:=Tryz.isAgg292
  z54:=Tryz.sizeOf292
  v54:=Tryz.zeroValue292
  t58:=Tryz.underlying179
  a58:=Tryz.isAgg179
  z58:=Tryz.sizeOf179
  v58:=Tryz.zeroValue179
  t60:=Tryz.underlying301
  a60:=Tryz.isAgg301
  z60:=Tryz.sizeOf301
  v60:=Tryz.zeroValue301
  t64:=Tryz.underlying183
  a64:=Tryz.isAgg183
  z64:=Tryz.sizeOf183
  v64:=Tryz.zeroValue183
  t66:=Tryz.underlying304
  a66:=Tryz.isAgg304
  z66:=Tryz.sizeOf304
  v66:=Tryz.zeroValue304
  t67:=Tryz.underlying79
  a67:=Tryz.isAgg79
  z67:=Tryz.sizeOf79
  v67:=Tryz.zeroValue79
  t75:=Tryz.underlying312
  a75:=Tryz.isAgg312
  z75:=Tryz.sizeOf312
  v75:=Tryz.zeroValue312
  t76:=Tryz.underlying313
  a76:=Tryz.isAgg313
  z76:=Tryz.sizeOf313
  v76:=Tryz.zeroValue313
  t77:=Tryz.underlying314
  a77:=Tryz.isAgg314
  z77:=Tryz.sizeOf314
  v77:=Tryz.zeroValue314
  t78:=Tryz.underlying315
  a78:=Tryz.isAgg315
  z78:=Tryz.sizeOf315
  v78:=Tryz.zeroValue315
  t79:=Tryz.underlying316
  a79:=Tryz.isAgg316
  z79:=Tryz.sizeOf316
  v79:=Tryz.zeroValue316
  t80:=Tryz.underlying317
  a80:=Tryz.isAgg317
  z80:=Tryz.sizeOf317
  v80:=Tryz.zeroValue317
  t82:=Tryz.underlying319
  a82:=Tryz.isAgg319
  z82:=Tryz.sizeOf319
  v82:=Tryz.zeroValue319
  i0:=by kernel_rfl
  i3:=by kernel_rfl
  i4:=by kernel_rfl
  i5:=by kernel_rfl
  i9:=by kernel_rfl
  i12:=by kernel_rfl
  i17:=by kernel_rfl
  i20:=by kernel_rfl
  i26:=by kernel_rfl
  i32:=by kernel_rfl
  i33:=by kernel_rfl
  i35:=by kernel_rfl
  i37:=by kernel_rfl
  i41:=by kernel_rfl
  i44:=by kernel_rfl
  i49:=by kernel_rfl
  i51:=by kernel_rfl
  i53:=by kernel_rfl
  i54:=by kernel_rfl
  i58:=by kernel_rfl
  i60:=by kernel_rfl
  i64:=by kernel_rfl
  i66:=by kernel_rfl
  i67:=by kernel_rfl
  i75:=by kernel_rfl
  i76:=by kernel_rfl
  i77:=by kernel_rfl
  i78:=by kernel_rfl
  i79:=by kernel_rfl
  i80:=by kernel_rfl
  i82:=by kernel_rfl }
end Go.AM
namespace Go.Proofs
open Go Go.Shelf Go.RowKit Go.Lib Go.Sort
noncomputable def Ptn.svT:TypeInfo:=(Tryz.prog.info? 60).get (by kernel_rfl)
noncomputable def Ptn.svE:TypeInfo:=(Tryz.prog.info? 150).get (by kernel_rfl)
theorem Ptn.svK (n:Nat) (h2:2≤n):Lib.swapperK n Ptn.svE 25=9:=by
 have a:Ptn.svE.hasPointers=false:=by kernel_rfl
 have b:Ptn.svE.bytes=72:=by kernel_rfl
 have c:(n == 0)=false:=by simp;omega
 have d:(n == 1)=false:=by simp;omega
 simp [Lib.swapperK,a,b,c,d]
set_option maxRecDepth 100000 in
set_option maxHeartbeats 2000000 in
theorem Ptn.less (blk off c Bs tb size:Nat) (W:World) (G:Nat→Int) (hb:W.cell? ⟨Bs,0,none⟩=some (.pointer (some ⟨tb,0,none⟩))) (hs:W.cell? ⟨tb,1,none⟩=some (.slice (some ⟨blk,off,none⟩) size c))
  (hc:∀ t,t<size→W.cell? ⟨blk,off+t*9,none⟩=some (.int .i64 (G t))) (i j:Nat) (hi:i<size) (hj:j<size) :
  Calls Tryz.prog 215 #[.int .i64 i,.int .i64 j,.pointer (some ⟨Bs,0,none⟩)] W fun e w'=>e=.returned (.bool (decide (G i<G j)))∧∃ q,w'=W.drewN q:=by
 have ci:=hc i hi
 have cj:=hc j hj
 go_enter Tryz.func215,Tryz.ntmps215
 go_wp2
 go_quiet (fail)
 go_wp2
 go_ret
 exact ⟨rfl,nq,rfl⟩
end Go.Proofs
namespace Go.AM
open Go Go.Proofs Go.Sort
def encN (x:Nd):List Value:=.int .i64 x.1::(List.range 8).map fun i=>.int .u64 (x.2.getD i 0:Nat)
theorem encN_len (x:Nd):(encN x).length=9:=by simp [encN]
def ltN (a b:Nd):Bool:=decide (a.1<b.1)
theorem swoN:SWO ltN where
 irrefl x:=by simp [ltN]
 trans x y z h1 h2:=by simp only [ltN,decide_eq_true_eq] at *;omega
 ntrans x y z h1 h2:=by simp only [ltN,decide_eq_false_iff_not] at *;omega
theorem encN_one (x:Nd):∀ v∈encN x,v.oneCell'=true:=fun v hv=>by
 simp only [encN,List.mem_cons,List.mem_map] at hv
 rcases hv with rfl|⟨i,_,rfl⟩<;>rfl
theorem encN_row {x:Nd} (h8:x.2.length=8) {c:Nat} (hc:c<9):∃ y,(nrow x)[c]?=some (.v y)∧(encN x)[c]! = y:=by
 cases c with
 | zero=>exact ⟨_,rfl,rfl⟩
 | succ c =>
  refine ⟨.int .u64 (x.2.getD c 0:Nat),?_,?_⟩
  ·show (wcs x.2)[c]?=_
   unfold wcs
   rw [List.getElem?_map,List.getElem?_eq_getElem (by omega),List.getD_eq_getElem?_getD,List.getElem?_eq_getElem (by omega)]
   rfl
  ·have:c<8:=by omega
   simp [encN,this]
structure SortD where
 nd:Nat
 m:Nat
 n:Nat
 bs:Nat
 tb:Nat
 r:AV
 dsA:AV
 f:Bool
 l:List Nd
 x:Nd
def SortD.ok (D:SortD) (avs:List AV) (M:Nat→AO):Prop :=
 avs=[.ifc 60 [.sl D.nd D.m 9 0 D.n],.fn 215 [.bp D.bs 0]]∧M D.bs=.box [.bp D.tb 0]∧M D.tb=.box [D.r,.sl D.nd D.m 9 0 D.n,D.dsA]∧M D.nd=.vec D.m 9 D.f (nrows (D.l++[D.x]))∧D.n=(D.l++[D.x]).length ∧
  ascK D.l∧(∀ a∈D.l,a.1≠D.x.1)∧1≤D.l.length∧D.l.length<1000000000∧nds8 (D.l++[D.x])
open Classical in
noncomputable def sortN (avs:List AV) (M:Nat→AO) (_:Nat):Option (AV×List (Nat×AO)) :=
 if h:∃ D:SortD,D.ok avs M then some (.tup [],[(h.choose.nd,.vec h.choose.m 9 h.choose.f (nrows (insK h.choose.l h.choose.x)))]) else none
theorem sortN_at {D:SortD} {avs:List AV} {M:Nat→AO} {nid:Nat} (h:D.ok avs M):sortN avs M nid=some (.tup [],[(D.nd,.vec D.m 9 D.f (nrows (insK D.l D.x)))]):=by
 unfold sortN
 have hex:∃ D:SortD,D.ok avs M:=⟨D,h⟩
 rw [dif_pos hex]
 have hc:=hex.choose_spec
 obtain ⟨C,hC⟩:∃ C,C=hex.choose:=⟨_,rfl⟩
 rw [← hC] at hc ⊢
 obtain ⟨a1,a2,a3,a4,a5,_⟩:=h
 obtain ⟨b1,b2,b3,b4,b5,_⟩:=hc
 rw [a1] at b1
 simp only [List.cons.injEq,AV.ifc.injEq,AV.fn.injEq,AV.sl.injEq,AV.bp.injEq,and_true,true_and] at b1
 obtain ⟨⟨e1,e2,e3⟩,e4⟩:=b1
 rw [← e1] at b4
 rw [a4] at b4
 simp only [AO.vec.injEq,true_and,nrows_inj] at b4
 obtain ⟨_,e6,e7⟩:=b4
 obtain ⟨e8,e9⟩:=List.append_inj' e7 (by simp)
 simp only [List.cons.injEq,and_true] at e9
 rw [← e1,← e2,← e6,← e8,← e9]
theorem sort_ok:CallOK Tryz.prog 214 sortN:=by
 intro avs M nid av u hc w0 bl E w args hr hM hI _
 have htup:∀ (E':Env) (w':World),Rep E' w' (.tup []) (.tuple #[]):=fun E' w'=>by simp only [Rep];exact ⟨[],rfl,by simp [RepL]⟩
 by_cases hex:∃ D:SortD,D.ok avs M
 case neg=>unfold sortN at hc;rw [dif_neg hex] at hc;simp at hc
 obtain ⟨D,hD⟩:=hex
 rw [sortN_at hD] at hc
 simp only [Option.some.injEq,Prod.mk.injEq] at hc
 obtain ⟨rfl,rfl⟩:=hc
 obtain ⟨nd,m,n,bs,tb,r,dsA,f,l,x⟩:=D
 obtain ⟨ha,hbs,htb,hnd,hn,hasc,hne,h1l,hlt,h8⟩:=hD
 simp only at ha hbs htb hnd hn hasc hne h1l hlt h8 ⊢
 subst ha
 obtain ⟨L,hL⟩:∃ L,L=l++[x]:=⟨_,rfl⟩
 rw [← hL] at hnd hn h8
 have hLl:L.length=l.length+1:=by rw [hL];simp
 subst hn
 obtain ⟨v,y,rfl,hv,hy⟩:∃ v y,args=#[.iface 60 v,.func (.func 215) #[] #[y]]∧Rep E w (.sl nd m 9 0 L.length) v∧Rep E w (.bp bs 0) y:=by
  cases hargs:args.toList with
  | nil=>rw [hargs] at hr;simp [RepL] at hr
  | cons a1 rr =>
   rw [hargs] at hr
   simp only [RepL] at hr
   cases rr with
   | nil=>simp [RepL] at hr
   | cons a2 rr =>
    simp only [RepL] at hr
    cases rr with
    | cons a3 rr=>simp [RepL] at hr
    | nil =>
     obtain ⟨h1,h2,_⟩:=hr
     simp only [Rep] at h1 h2
     obtain ⟨v,rfl,h3⟩:=h1
     obtain ⟨vs,rfl,h4⟩:=h2
     simp only [RepL] at h3
     cases vs with
     | nil=>simp [RepL] at h4
     | cons y vs =>
      simp only [RepL] at h4
      cases vs with
      | cons z vs=>simp [RepL] at h4
      | nil=>exact ⟨v,y,by rw [← Array.toArray_toList (xs:=args),hargs],by simpa only [Rep] using h3.1,by simpa only [Rep] using h4.1⟩
 simp only [Rep] at hv hy
 obtain ⟨hal,h1,h2,p,c,rfl,hnc,hpn,hsl⟩:=hv
 obtain ⟨hbal,hbv,bblk,bsz,hbl,rfl⟩:=hy
 have ho:=hM nd hal
 rw [hnd] at ho
 simp only [ObjRep] at ho
 obtain ⟨hv,hm1,ho⟩:=ho
 cases hlc:E.loc nd with
 | none =>
  simp only [hlc] at ho
  have:L.length=0:=by
   have:=congrArg List.length ho
   rwa [nrows_length] at this
  omega
 | some LL =>
  obtain ⟨blk,base,sz⟩:=LL
  simp only [hlc] at ho
  obtain ⟨ca,t,hheap,hszc,honec,hfit,hff,hrows⟩:=ho
  have hs2:=hsl hv.symm
  simp only [hlc,SlAt] at hs2
  obtain ⟨a,rfl,haa,hcs⟩:=hs2
  have haa:=haa.resolve_left (by omega)
  simp only [Nat.zero_mul,Nat.add_zero] at haa
  subst haa
  have hblk:blk<w.heap.size:=(Array.getElem?_eq_some_iff.1 hheap).1
  have hob:=hM bs hbal
  rw [hbs] at hob
  simp only [ObjRep] at hob
  obtain ⟨_,bblk',bt,bvs,hbl2,hbheap,_,hbrep⟩:=hob
  rw [hbl] at hbl2
  simp only [Option.some.injEq,Prod.mk.injEq,true_and] at hbl2
  obtain ⟨rfl,rfl⟩:=hbl2
  obtain ⟨tp,rfl,htp⟩:∃ tp,bvs=[tp]∧Rep E w (.bp tb 0) tp:=by
   cases bvs with
   | nil=>simp [RepL] at hbrep
   | cons tp q=>cases q with
    | nil=>simp only [RepL] at hbrep;exact ⟨tp,rfl,hbrep.1⟩
    | cons z q=>simp [RepL] at hbrep
  simp only [Rep] at htp
  obtain ⟨htal,_,tblk,tsz,htl,rfl⟩:=htp
  have hot:=hM tb htal
  rw [htb] at hot
  simp only [ObjRep] at hot
  obtain ⟨_,tblk',tt,tvs,htl2,htheap,_,htrep⟩:=hot
  rw [htl] at htl2
  simp only [Option.some.injEq,Prod.mk.injEq,true_and] at htl2
  obtain ⟨rfl,rfl⟩:=htl2
  obtain ⟨t0,t1,t2,rfl,ht1⟩:∃ t0 t1 t2,tvs=[t0,t1,t2]∧Rep E w (.sl nd m 9 0 L.length) t1:=by
   match tvs,htrep with
   | [t0,t1,t2],h=>simp only [RepL] at h;exact ⟨t0,t1,t2,rfl,h.2.1⟩
   | [],h=>simp [RepL] at h
   | [_],h=>simp [RepL] at h
   | [_,_],h=>simp [RepL] at h
   | _::_::_::_::_,h=>simp [RepL] at h
  simp only [Rep] at ht1
  obtain ⟨_,_,_,p2,c2,rfl,hnc2,_,hsl2⟩:=ht1
  have hs3:=hsl2 hv.symm
  simp only [hlc,SlAt] at hs3
  obtain ⟨a2,rfl,ha2,_⟩:=hs3
  have ha2:=ha2.resolve_left (by omega)
  simp only [Nat.zero_mul,Nat.add_zero] at ha2
  subst ha2
  have hbne:bblk≠blk:=fun e=>by
   subst e
   have:=hI.apart bs nd bblk 0 _ base sz hbal hal hbl hlc
   subst this
   rw [hbs] at hnd;simp at hnd
  have htne:tblk≠blk:=fun e=>by
   subst e
   have:=hI.apart tb nd tblk 0 _ base sz htal hal htl hlc
   subst this
   rw [htb] at hnd;simp at hnd
  have hB1:bblk<w.heap.size:=(Array.getElem?_eq_some_iff.1 hbheap).1
  have hT1:tblk<w.heap.size:=(Array.getElem?_eq_some_iff.1 htheap).1
  have hBc:w.cell? ⟨bblk,0,none⟩=some (.pointer (some ⟨tblk,0,none⟩)):=by
   unfold World.cell?;rw [hbheap];rfl
  have hTc:w.cell? ⟨tblk,1,none⟩=some (.slice (some ⟨blk,base,none⟩) L.length c2):=by
   unfold World.cell?;rw [htheap];rfl
  have hcell:∀ i,i<L.length→∀ c',c'<9→w.cell? ⟨blk,base+i*9+c',none⟩=some ((encN (L[i]!))[c']!):=fun i hi c' hc'=>by
   have h3:=hrows.get (i:=i) (e:=nrow L[i]) (by simp [nrows,hi])
   rw [getElem!_pos L i hi]
   obtain ⟨y,hy1,hy2⟩:=encN_row (h8 _ (List.getElem_mem hi)) hc'
   obtain ⟨z,h4,_,h5⟩:=h3.2.get hy1
   simp only [CRep] at h5
   subst h5
   rw [hy2];exact h4
  have hfz:∀ j,w.frozen? ⟨blk,base+j,none⟩=false:=fun j=>by
   unfold World.frozen?
   rw [hheap]
   simp
  have hH:HoldsK encN 9 w blk base L.toArray:=fun j hj=>⟨by
   have hj2:j<L.toArray.size*9:=by simpa using hj
   have hjl:j<L.length*9:=by simpa using hj
   rw [get_flatK _ _ _ _ hj2]
   have:=hcell (j/9) (by omega) (j%9) (by omega)
   rw [show base+j/9*9+j%9=base+j by omega] at this
   rw [this]
   simp,hfz j⟩
  have hless:LessReadsK Tryz.prog 215 #[.pointer (some ⟨bblk,0,none⟩)] encN 9 ltN blk base L.toArray.size w:=by
   intro mm os dk hs i j hi hj
   have e:sortWorldK encN 9 w blk base mm dk os=putRowK encN 9 (grow (Sort.ahead w mm) os) blk base dk:=by
    unfold sortWorldK;rw [putRowK_grow _ _ (Sort.ahead w mm) _ blk base _ hblk]
   have hHg:HoldsK encN 9 (grow (Sort.ahead w mm) os) blk base L.toArray:=holdsK_grow _ _ _ _ blk base L.toArray hblk (holdsK_ahead _ _ _ _ _ _ _ hH)
   refine Ptn.less blk base c2 bblk tblk L.toArray.size _ (fun t=>dk[t]!.1) ?_ ?_ (fun t ht=>?_) i j hi hj
   ·rw [e,cell?_putRowK_other _ _ _ blk base dk _ hbne,cell?_grow _ _ _ (by exact hB1)];exact hBc
   ·rw [e,cell?_putRowK_other _ _ _ blk base dk _ htne,cell?_grow _ _ _ (by exact hT1)];simpa using hTc
   ·rw [e];exact ((holdsK_putRowK _ _ _ blk base L.toArray dk hHg hs).cell (i:=t) (c:=0) (by omega) (by omega)).1
  have:=Any.sort_Slice_cells_sorted laySort 60 150 Ptn.svT Ptn.svE (by kernel_rfl) (by kernel_rfl) (by kernel_rfl) (by kernel_rfl) 25 (fun _=>by kernel_rfl) encN 9 encN_len (by kernel_rfl) (fun _=>by kernel_rfl)
   encN_one ltN swoN 215 #[.pointer (some ⟨bblk,0,none⟩)] (enters_of Tryz.func215 (by kernel_rfl) rfl) blk base c L.toArray (by simp;omega) (by simp;omega) 259 (by rw [Ptn.svK _ (by simp;omega)];kernel_rfl) false
   (fun args W=>run_callFunc_extern Tryz.func259 (by kernel_rfl) (by kernel_rfl) (by kernel_rfl) (e:=Extern.ReflectliteSwapper.swap false) (by kernel_rfl) args W) w hless hH hblk
  have hnod:∀ a∈L,∀ b∈L,True:=fun _ _ _ _=>trivial
  refine Calls.mono (this:Calls Tryz.prog 214 _ _ _) fun e w' ⟨he,d',nn,os,hper,hsrt,hw⟩=>?_
  obtain ⟨hds,_,hperm⟩:=hper
  have hS:d'.toList=insK l x:=by
   refine insK_of_perm hasc hne ?_ ?_
   ·refine List.pairwise_iff_getElem.2 fun i j hi hj hij=>?_
    have hi':i<d'.size:=by simpa using hi
    have hj':j<d'.size:=by simpa using hj
    have:=hsrt i j (Nat.zero_le _) hij (by rw [← hds];exact hj')
    rw [getElem!_pos d' i hi',getElem!_pos d' j hj'] at this
    simp only [ltN,decide_eq_false_iff_not] at this
    simpa using this
   ·have e1:(d'.extract 0 L.toArray.size).toList=d'.toList:=by
     rw [← hds];simp
    have e2:(L.toArray.extract 0 L.toArray.size).toList=L:=by simp
    rw [e1,e2,hL] at hperm
    exact hperm
  obtain ⟨K,hK⟩:∃ K,K=insK l x:=⟨_,rfl⟩
  have hd':d'=K.toArray:=by rw [hK,← hS]
  have hKl:K.length=L.length:=by rw [hK,insK_len,hLl]
  have hK8:nds8 K:=fun a ha=>by
   rw [hK] at ha
   rcases mem_insK.1 ha with h|h
   ·exact h8 a (by rw [hL,h];simp)
   ·exact h8 a (by rw [hL];simp [h])
  subst hd'
  rw [← hK]
  have hsz1:K.toArray.size=L.toArray.size:=by simp [hKl]
  have hH2:HoldsK encN 9 w' blk base K.toArray:=by
   rw [hw,← putRowK_grow _ _ (Sort.ahead w nn) _ blk base _ hblk]
   exact holdsK_putRowK _ _ _ blk base L.toArray _ (holdsK_grow _ _ _ _ blk base L.toArray hblk (holdsK_ahead _ _ _ _ _ _ _ hH)) hsz1
  have hsize:w.heap.size≤w'.heap.size:=by
   have e1:(putRowK encN 9 (Sort.ahead w nn) blk base K.toArray).heap.size=w.heap.size:=by
    unfold putRowK
    simp only [putRow,mapBlock,Array.size_modify]
    rfl
   rw [hw,size_grow,e1]
   omega
  have hother:∀ k,k<w.heap.size→k≠blk→w'.heap[k]?=w.heap[k]?:=fun k hk hne=>by
   rw [hw]
   unfold putRowK
   rw [heap_grow_old _ _ (by simpa [ahead] using hk)]
   simp only [putRow,mapBlock,Array.getElem?_modify]
   rw [if_neg (fun e=>hne e.symm)]
   rfl
  have hown:w'.heap[blk]?=some (.cells (putCells id base (flatK encN 9 K.toArray) ca) t (0,0)):=by
   rw [hw]
   unfold putRowK
   rw [heap_grow_old _ _ (by simpa [ahead] using hblk)]
   simp only [putRow,mapBlock,Array.getElem?_modify,if_true]
   have e:∀ n,(Sort.ahead w n).heap=w.heap:=fun n=>rfl
   rw [e,hheap]
   rfl
  refine ⟨_,E.upd nd m (some (blk,base,sz)),he,?_,htup _ _⟩
  refine StepTo.one hI nd _ m _ (fun _=>.inl ⟨hv.symm,hlc.symm⟩) (fun blk' base' sz' e=>?_) hsize (by rw [hw];rfl) (by rw [hw];rfl) (fun k hk hn=>hother k hk fun e=>?_) ?_
  ·simp only [Option.some.injEq,Prod.mk.injEq] at e
   exact .inl ⟨base,sz,hal,by rw [hlc,e.1]⟩
  ·subst e;exact hn base sz hal hlc
  ·simp only [ObjRep,Env.upd,if_true]
   refine ⟨trivial,hm1,_,t,hown,by simpa [putCells] using hszc,fun y hy=>?_,by simpa [hKl] using hfit,fun hf=>by simpa [hKl] using hff hf,CRows.of_get fun i e hi=>?_⟩
   ·rw [Array.mem_toList_iff] at hy
    obtain ⟨k,hk,rfl⟩:=Array.mem_iff_getElem.1 hy
    simp only [putCells,Array.getElem_mapIdx]
    split
    ·rename_i hcond
     have hk2:k - base<K.toArray.size*9:=by
      have:=hcond.2
      rw [size_flatK] at this
      omega
     rw [get_flatK _ _ _ _ hk2]
     have hlen:=encN_len (K.toArray[(k - base)/9]!)
     refine encN_one (K.toArray[(k - base)/9]!) _ ?_
     rw [getElem!_pos (encN (K.toArray[(k - base)/9]!)) ((k - base)%9) (by rw [hlen];omega)]
     exact List.getElem_mem _
    ·exact honec _ (by rw [Array.mem_toList_iff];exact Array.getElem_mem _)
   ·have hil:i<K.length:=by
     have:=(List.getElem?_eq_some_iff.1 hi).1
     simpa using this
    simp only [nrows,List.getElem?_map,List.getElem?_eq_getElem hil,Option.map_some,Option.some.injEq] at hi
    subst hi
    have hi8:=hK8 _ (List.getElem_mem hil)
    refine ⟨by simp [nrow,hi8],CCells.of_get fun c a hc=>?_⟩
    have hc9:c<9:=by
     have:=(List.getElem?_eq_some_iff.1 hc).1
     simpa [nrow,hi8] using this
    have hA:=(hH2.cell (i:=i) (c:=c) (by simpa using hil) hc9).1
    simp only [List.getElem!_toArray] at hA
    rw [getElem!_pos K i hil] at hA
    obtain ⟨y,hy1,hy2⟩:=encN_row hi8 hc9
    rw [hy1] at hc
    simp only [Option.some.injEq] at hc
    subst hc
    rw [hy2] at hA
    refine ⟨y,hA,?_,by simp only [CRep]⟩
    refine encN_one K[i] _ ?_
    have hlen:=encN_len K[i]
    rw [← hy2,getElem!_pos (encN K[i]) c (by rw [hlen];omega)]
    exact List.getElem_mem _
theorem sort_keys {avs:List AV} {M:Nat→AO} {nid:Nat} {r:AV×List (Nat×AO)} (h:sortN avs M nid=some r):∀ b∈r.2.map (·.1),(nid≤b∧b<nid+16)∨M b≠.dead:=by
 by_cases hex:∃ D:SortD,D.ok avs M
 case neg=>unfold sortN at h;rw [dif_neg hex] at h;simp at h
 obtain ⟨D,hD⟩:=hex
 rw [sortN_at hD] at h
 simp only [Option.some.injEq] at h
 subst h
 intro b hb
 simp at hb
 subst hb
 exact .inr (by rw [hD.2.2.2.1];simp)
end Go.AM
set_option maxHeartbeats 4000000
namespace Go.AM
open Go Go.Proofs
def pMs (t:Tb) (v v2:Nat):List AO:=[.box [I t.1,.sl 1 v 9 0 t.2.1.length,.sl 2 v2 2 0 t.2.2.length],.vec v 9 false (nrows t.2.1),.vec v2 2 false (prows t.2.2)]
theorem pMs_inj {t t':Tb} {v v2:Nat} (h:pMs t v v2=pMs t' v v2):t=t':=by
 obtain ⟨r,ns,ds⟩:=t
 obtain ⟨r',ns',ds'⟩:=t'
 simp only [pMs,List.cons.injEq,AO.box.injEq,I,AV.v.injEq,Value.int.injEq,true_and,AO.vec.injEq,nrows_inj,prows_inj,and_true] at h
 obtain ⟨⟨h1,_⟩,h2,h3⟩:=h
 rw [h1,h2,h3]
def OwnR (X:AX) (f:FuncId) (D:Tb→Int→Prop) (R:Tb→Int→AV):Prop :=
 ∀ (r:Int) (ns:List Nd) (ds:List Dp) (x:Int),D (r,ns,ds) x→∀ (a va b vb:Nat) (f1 f2:Bool) (M:Nat→AO) (n:Nat),M a=.vec va 9 f1 (nrows ns)→M b=.vec vb 2 f2 (prows ds)→X.call f [.agg [I r,.sl a va 9 0 ns.length,.sl b vb 2 0 ds.length],I x] M n=some (R (r,ns,ds) x,[])
theorem nrows_setN {ns:List Nd} {n i w:Nat} (hn:n<ns.length):(nrows ns).set n (I (gn ns n).1::(wcs (gn ns n).2).set i (U w))=nrows (setN ns n i w):=by
 have:wcs ((gn ns n).2.set i w)=(wcs (gn ns n).2).set i (U w):=by simp [wcs,List.map_set]
 rw [← this]
 show (nrows ns).set n (nrow ((gn ns n).1,(gn ns n).2.set i w))=_
 unfold setN nrows
 rw [List.map_set]
 rfl
def putT (t:Tb) (p w:Nat):Tb:=(t.1,setN t.2.1 (lsT t p).1 (dgt p (lsT t p).2.1) w,t.2.2)
abbrev PuD:=Tb×Nat×Nat
noncomputable def puS:List AV→List AO→Option (AV×List AO):=specG (ι:={x:PuD // ptO x.1 x.2.1∧x.2.2<2^64}) (fun x=>[.bp 0 0,I x.1.2.1,U x.1.2.2]) (fun x=>pMs x.1.1 1 1) (fun x=>.tup []) fun x=>pMs (putT x.1.1 x.1.2.1 x.1.2.2) 1 1
theorem puS_at {t:Tb} {p w:Nat} (h:ptO t p) (hw:w<2^64):puS [.bp 0 0,I p,U w] (pMs t 1 1)=some (.tup [],pMs (putT t p w) 1 1):=by
 refine specG_eq (ι:={x:PuD // ptO x.1 x.2.1∧x.2.2<2^64}) (A:=fun x=>[.bp 0 0,I x.1.2.1,U x.1.2.2]) (M:=fun x=>pMs x.1.1 1 1) (R:=fun x=>.tup []) (O:=fun x=>pMs (putT x.1.1 x.1.2.1 x.1.2.2) 1 1) ⟨(t,p,w),h,hw⟩ fun j hA hM=>?_
 obtain ⟨⟨t',p',w'⟩,h'⟩:=j
 have e:=pMs_inj hM
 simp only at e
 subst e
 simp only [List.cons.injEq,I,U,AV.v.injEq,Value.int.injEq,true_and,and_true] at hA
 have e1:p'=p:=by omega
 have e2:w'=w:=by omega
 subst e1 e2
 exact ⟨rfl,rfl⟩
theorem s130 (X:AX) (hX:XOK Tryz.prog X) (hw:X.W wT) (hla:OwnR X 110 (fun t x=>0≤x∧ptO t x.toNat) fun t x=>stV (lsT t x.toNat)) (hdg:∀ (p l:Nat),p<512→l≤2→∀ M n,X.call 139 [I p,I l] M n=some (I (dgt p l),[])):GSound Tryz.prog 130 puS:=by
 unfold puS
 refine gsound_spec Tryz.func130 rfl X fun ⟨⟨⟨r,ns,ds⟩,p,w⟩,hpt,hw64⟩ w0 L E=>⟨by show 3≤26;decide,?_⟩
 simp only at hw64
 have hp:p<512:=hpt.2.2.1
 have hla':=hla r ns ds p ⟨by omega,hpt⟩
 obtain ⟨hlt1,hlt2⟩:(lsT (r,ns,ds) p).1<ns.length∧(lsT (r,ns,ds) p).2.1≤2:=by
  obtain ⟨_,_,_,⟨rt,hrt⟩,_⟩:=hpt
  exact lst_lt (by unfold rtN;rw [hrt];exact fnd_lt hrt)
 have ht:=hpt.1
 have hl1:ns.length≤1000000:=ht.2.1
 have hl2:ds.length≤1000000:=ht.2.2
 have hR:putT (r,ns,ds) p w=(r,setN ns (lsT (r,ns,ds) p).1 (dgt p (lsT (r,ns,ds) p).2.1) w,ds):=rfl
 obtain ⟨⟨a,b,c⟩,hS⟩:∃ S,S=lsT (r,ns,ds) p:=⟨_,rfl⟩
 simp only [Int.toNat_natCast] at hla'
 rw [← hS] at hla' hlt1 hlt2 hR
 simp only at hla' hlt1 hlt2 hR
 have hdg':=hdg p b hp hlt2
 have hdl:=dgt_lt p b
 have haN:(a:Int)<(ns.length:Int):=by omega
 have hgn:=nrows_gi hlt1
 have hgnE:=nrows_gE hlt1
 have h8:(gn ns a).2.length=8:=(ht.1 _ (gn_mem hlt1)).1
 have hset:=@nrows_setN ns a (dgt p b) w hlt1
 have hwl:(wcs (gn ns a).2).length=8:=by simp [h8]
 obtain ⟨NS,hNS⟩:∃ NS,NS=setN ns a (dgt p b) w:=⟨_,rfl⟩
 have hNl:NS.length=ns.length:=by rw [hNS];simp
 rw [← hNS] at hset hR
 obtain ⟨⟨fr,ws⟩,hm⟩:∃ m,m=gn ns a:=⟨_,rfl⟩
 rw [← hm] at hgn hgnE hwl hset
 simp only at hgn hgnE hwl hset
 obtain ⟨cs,hcs⟩:∃ cs,cs=wcs ws:=⟨_,rfl⟩
 rw [← hcs] at hgn hgnE hwl hset
 obtain ⟨dg,hdg0⟩:∃ dg,dg=dgt p b:=⟨_,rfl⟩
 rw [← hdg0] at hdl hdg' hset
 have hdI:(dg:Int)<8:=by omega
 clear hcs hm h8 hS
 simp only [pMs,hR,hNl,stV,srow,U] at hla' hset ⊢
 show AW ⟨Tryz.prog,X,26,w0,⟨L,E,3⟩⟩ _ _ _
 have hc:Cx.OK ⟨Tryz.prog,X,26,w0,⟨L,E,3⟩⟩:=⟨hX,mixed⟩
 have zS:=jj hla'<|jj hdg'<|jj hlt1<|jj haN<|jj hgn<|jj hgnE<|jj hwl<|jj hdl<|jj hdI<|hset
 refine dM64 ?_
 repeat (intro K hK)
 clear zS
 refine ⟨[],rfl,?_⟩
 have hs1:(I fr::cs).set (1+dg) (AV.v (.int .u64 w))=I fr::cs.set dg (AV.v (.int .u64 w)):=by rw [Nat.add_comm];rfl
 rw [hs1,hset]
 simp only [idx]
 exact dle
noncomputable def adS:List AV→List AO→Option (AV×List AO):=specG (ι:={x:Tb×Int // tbOK x.1∧ascN x.1.2.1∧(∀ n∈x.1.2.1,n.1≠x.2)∧1≤x.1.2.1.length}) (fun x=>[.bp 0 0,I x.1.2]) (fun x=>pMs x.1.1 1 1) (fun x=>.tup []) fun x=>pMs (x.1.1.1,insK x.1.1.2.1 (x.1.2,zs8),x.1.1.2.2) 2 1
theorem adS_at {t:Tb} {f:Int} (ht:tbOK t) (ha:ascN t.2.1) (hn:∀ n∈t.2.1,n.1≠f) (hl:1≤t.2.1.length):adS [.bp 0 0,I f] (pMs t 1 1)=some (.tup [],pMs (t.1,insK t.2.1 (f,zs8),t.2.2) 2 1):=by
 refine specG_eq (ι:={x:Tb×Int // tbOK x.1∧ascN x.1.2.1∧(∀ n∈x.1.2.1,n.1≠x.2)∧1≤x.1.2.1.length}) (A:=fun x=>[.bp 0 0,I x.1.2]) (M:=fun x=>pMs x.1.1 1 1) (R:=fun x=>.tup []) (O:=fun x=>pMs (x.1.1.1,insK x.1.1.2.1 (x.1.2,zs8),x.1.1.2.2) 2 1) ⟨(t,f),ht,ha,hn,hl⟩ fun j hA hM=>?_
 obtain ⟨⟨t',f'⟩,h'⟩:=j
 have e:=pMs_inj hM
 simp only at e
 subst e
 simp only [List.cons.injEq,I,AV.v.injEq,Value.int.injEq,true_and,and_true] at hA
 subst hA
 exact ⟨rfl,rfl⟩
theorem s186 (X:AX) (hX:XOK Tryz.prog X) (hw:X.W wT) (hso:X.call 214=sortN):GSound Tryz.prog 186 adS:=by
 unfold adS
 refine gsound_spec Tryz.func186 rfl X fun ⟨⟨⟨r,ns,ds⟩,f⟩,ht,ha,hn,hl⟩ w0 L E=>⟨by show 2≤22;decide,?_⟩
 simp only at ha hn hl
 have hl1:ns.length≤1000000:=ht.2.1
 have hl2:ds.length≤1000000:=ht.2.2
 have hil:=@insK_len _ (f,zs8) ns
 simp only [pMs,hil]
 show AW ⟨Tryz.prog,X,22,w0,⟨L,E,3⟩⟩ _ _ _
 have hc:Cx.OK ⟨Tryz.prog,X,22,w0,⟨L,E,3⟩⟩:=⟨hX,mixed⟩
 have tkn:List.take ns.length (nrows ns)=nrows ns:=List.take_of_length_le (by simp)
 have ha1z:nrows ns++[[I f,.v (.int .u64 0),.v (.int .u64 0),.v (.int .u64 0),.v (.int .u64 0),.v (.int .u64 0),.v (.int .u64 0),.v (.int .u64 0),.v (.int .u64 0)]]=nrows (ns++[(f,zs8)]):=(nrows_snoc ns (f,zs8)).symm
 have hsort:∀ (M:Nat→AO) (bs nid:Nat),M bs=.box [.bp 0 0]→M 0=.box [I r,.sl 1 2 9 0 (ns.length+1),.sl 2 1 2 0 ds.length]→M 1=.vec 2 9 false (nrows (ns++[(f,zs8)]))→X.call 214 [.ifc 60 [.sl 1 2 9 0 (ns.length+1)],.fn 215 [.bp bs 0]] M nid=some (.tup [],[(1,.vec 2 9 false (nrows (insK ns (f,zs8))))]):=fun M bs nid h1 h2 h3=>by
  rw [hso]
  refine sortN_at (D:=⟨1,2,ns.length+1,bs,0,I r,.sl 2 1 2 0 ds.length,false,ns,(f,zs8)⟩) ⟨rfl,h1,h2,h3,by simp,ha,hn,hl,by show ns.length<1000000000;omega,fun a ha=>?_⟩
  rcases List.mem_append.1 ha with h|h
  ·exact nds8_of ht a h
  ·simp at h;rw [h];rfl
 have zS:=jj tkn<|jj ha1z<|hsort
 refine dF64 ?_
 repeat (intro K hK)
 clear zS
 refine ⟨[],rfl,?_⟩
 simp only [idx]
 trace_state
 exact dle
end Go.AM
set_option maxHeartbeats 4000000
namespace Go.AM
open Go Go.Proofs
set_option maxRecDepth 4000 in
theorem callAd {a b c:Nat} (hab:a≠b) (hac:a≠c) (hbc:b≠c) {r:Int} {ns:NdL} {ds:List Dp} {f:Int} (ht:tbOK (r,ns,ds)) (ha:ascN ns) (hn:∀ n∈ns,n.1≠f) (hl:1≤ns.length) {v v2:Nat} (M:Nat→AO) (nid:Nat)
  (h0:M a=.box [I r,.sl b (v+1) 9 0 ns.length,.sl c (v2+1) 2 0 ds.length]) (h1:M b=.vec (v+1) 9 false (nrows ns)) (h2:M c=.vec (v2+1) 2 false (prows ds)) :
  callG adS [.bp a 0,I f] M nid=some (.tup [],[(a,.box [I r,.sl b (v+2) 9 0 (ns.length+1),.sl c (v2+1) 2 0 ds.length]),(b,.vec (v+2) 9 false (nrows (insK ns (f,zs8)))),(c,.vec (v2+1) 2 false (prows ds))]):=by
 have hF:=adS_at (t:=(r,ns,ds)) ht ha hn hl
 have hil:=@insK_len _ (f,zs8) ns
 simp only [pMs,hil] at hF
 unfold callG
 have hba:b≠a:=fun e=>hab e.symm
 have hca:c≠a:=fun e=>hac e.symm
 have hcb:c≠b:=fun e=>hbc e.symm
 have hg:gat M 64 (nmsL [.bp a 0,I f]) []=[a,b,c]:=by
  simp [gat,nmsL,AV.nms,AO.nms,h0,h1,h2,hab,hac,hbc,hba,hca,hcb]
 simp only [hg]
 rw [if_pos ?cg]
 case cg=>simp [CallG,nmsL,AV.nms,AO.nms,Led,curBL,AV.curB,AO.curB,verOf,notDead,h0,h1,h2,hab,hac,hbc,hba,hca,hcb]
 have e1:2+v=v+2:=by omega
 have e2:1+v2=v2+1:=by omega
 simp [renL,AV.ren,AO.ren,posN,canO,nmsL,h0,h1,h2,hF,RetG,getL,AV.nms,AO.nms,updN,nmN,shN,verOf,rng,Led,hab,hac,hbc,hba,hca,hcb,e1,e2]
set_option maxRecDepth 4000 in
theorem callPu {a b c:Nat} (hab:a≠b) (hac:a≠c) (hbc:b≠c) {r:Int} {ns:NdL} {ds:List Dp} {p w:Nat} (h:ptO (r,ns,ds) p) (hw:w<2^64) {v v2:Nat} (M:Nat→AO) (nid:Nat)
  (h0:M a=.box [I r,.sl b (v+1) 9 0 ns.length,.sl c (v2+1) 2 0 ds.length]) (h1:M b=.vec (v+1) 9 false (nrows ns)) (h2:M c=.vec (v2+1) 2 false (prows ds)) :
  callG puS [.bp a 0,I p,U w] M nid=some (.tup [],[(a,.box [I r,.sl b (v+1) 9 0 ns.length,.sl c (v2+1) 2 0 ds.length]),(b,.vec (v+1) 9 false (nrows (putT (r,ns,ds) p w).2.1)),(c,.vec (v2+1) 2 false (prows ds))]):=by
 have hF:=puS_at h hw
 have e0:putT (r,ns,ds) p w=(r,(putT (r,ns,ds) p w).2.1,ds):=rfl
 have hil:(putT (r,ns,ds) p w).2.1.length=ns.length:=setN_len
 rw [e0] at hF
 simp only [pMs,hil,U] at hF
 unfold callG U
 have hba:b≠a:=fun e=>hab e.symm
 have hca:c≠a:=fun e=>hac e.symm
 have hcb:c≠b:=fun e=>hbc e.symm
 have hg:gat M 64 (nmsL [.bp a 0,I p,.v (.int .u64 w)]) []=[a,b,c]:=by
  simp [gat,nmsL,AV.nms,AO.nms,h0,h1,h2,hab,hac,hbc,hba,hca,hcb]
 simp only [hg]
 rw [if_pos ?cg]
 case cg=>simp [CallG,nmsL,AV.nms,AO.nms,Led,curBL,AV.curB,AO.curB,verOf,notDead,h0,h1,h2,hab,hac,hbc,hba,hca,hcb]
 have e1:1+v=v+1:=by omega
 have e2:1+v2=v2+1:=by omega
 simp [renL,AV.ren,AO.ren,posN,canO,nmsL,h0,h1,h2,hF,RetG,getL,AV.nms,AO.nms,updN,nmN,shN,verOf,rng,Led,hab,hac,hbc,hba,hca,hcb,e1,e2]
def stD (r:Int) (ds:List Dp) (p:Nat) (ns:NdL) (f:Int):NdL:=insK (setN ns (lsT (r,ns,ds) p).1 (dgt p (lsT (r,ns,ds) p).2.1) (f.toNat*256+4)) (f,zs8)
def dpN (r:Int) (ds:List Dp) (p:Nat) (ns:NdL) (fs:List Int):NdL:=fs.foldl (stD r ds p) ns
theorem dpN_0 {r:Int} {ds:List Dp} {p:Nat} {ns:NdL} {fs:List Int}:dpN r ds p ns (fs.take 0)=ns:=rfl
theorem dpN_s {r:Int} {ds:List Dp} {p:Nat} {ns:NdL} {fs:List Int} {i:Nat} (h:i<fs.length):dpN r ds p ns (fs.take (i+1))=stD r ds p (dpN r ds p ns (fs.take i)) (gi fs i):=by
 unfold dpN
 rw [gi_eq h,List.take_add_one,List.getElem?_eq_getElem h,List.foldl_append]
 rfl
def dpC (r:Int) (ds:List Dp) (p:Nat) (ns:NdL) (f:Int):Prop:=ptO (r,ns,ds) p∧(∀ n∈ns,n.1≠f)∧0≤f∧f≤4294967295
def dpOK (r:Int) (ds:List Dp) (p:Nat) (ns:NdL) (fs:List Int):Prop:=(p<512∧fs.length≤1000∧ns.length≤1000000∧ds.length≤1000000)∧∀ i,i<fs.length→dpC r ds p (dpN r ds p ns (fs.take i)) (gi fs i)
theorem setN_ok {ns:NdL} {n i w:Nat} (h:∀ x∈ns,ndOK x) (hw:w<2^64) (hn:n<ns.length):∀ x∈setN ns n i w,ndOK x:=fun x hx=>by
 rcases List.mem_or_eq_of_mem_set hx with h1|h1
 ·exact h x h1
 ·rw [h1]
  have hm:=h _ (gn_mem hn)
  refine ⟨by simp only [List.length_set];exact hm.1,fun y hy=>?_⟩
  rcases List.mem_or_eq_of_mem_set hy with h2|h2
  ·exact hm.2 y h2
  ·rw [h2];exact hw
theorem gE' {l:List Int} {n:Nat} (h:n<l.length):∀ h',l[n]'(h')=gi l n:=fun h'=>(gi_eq h).symm
theorem setN_fr {ns:NdL} {n i w:Nat} (hn:n<ns.length) {f:Int} (h:∀ x∈ns,x.1≠f):∀ x∈setN ns n i w,x.1≠f:=fun x hx=>by
 rcases List.mem_or_eq_of_mem_set hx with h1|h1
 ·exact h x h1
 ·have hm:=h _ (gn_mem hn)
  rw [h1];exact hm
abbrev DeD:=Tb×Nat×List Int
def dM (t:Tb) (p:Nat) (fs:List Int):List AO:=pMs (t.1,dpN t.1 t.2.2 p t.2.1 fs,t.2.2) (fs.length+1) 1
noncomputable def deS:List AV→List AO→Option (AV×List AO):=specG (ι:={x:DeD // dpOK x.1.1 x.1.2.2 x.2.1 x.1.2.1 x.2.2}) (fun x=>[.bp 0 0,I x.1.2.1,.rd 1 (irows x.1.2.2)]) (fun x=>pMs x.1.1 1 1) (fun x=>.tup []) fun x=>dM x.1.1 x.1.2.1 x.1.2.2
theorem deS_at {t:Tb} {p:Nat} {fs:List Int} (h:dpOK t.1 t.2.2 p t.2.1 fs):deS [.bp 0 0,I p,.rd 1 (irows fs)] (pMs t 1 1)=some (.tup [],dM t p fs):=by
 refine specG_eq (ι:={x:DeD // dpOK x.1.1 x.1.2.2 x.2.1 x.1.2.1 x.2.2}) (A:=fun x=>[.bp 0 0,I x.1.2.1,.rd 1 (irows x.1.2.2)]) (M:=fun x=>pMs x.1.1 1 1) (R:=fun x=>.tup []) (O:=fun x=>dM x.1.1 x.1.2.1 x.1.2.2) ⟨(t,p,fs),h⟩ fun j hA hM=>?_
 obtain ⟨⟨t',p',w'⟩,h'⟩:=j
 have e:=pMs_inj hM
 simp only at e
 subst e
 simp only [List.cons.injEq,I,AV.v.injEq,Value.int.injEq,true_and,and_true,AV.rd.injEq,irows_inj] at hA
 have e1:p'=p:=by omega
 have e2:w'=fs:=hA.2
 subst e1 e2
 exact ⟨rfl,rfl⟩
theorem s129 (X:AX) (hX:XOK Tryz.prog X) (hw:X.W wT) (hla:OwnR X 110 (fun t x=>0≤x∧ptO t x.toNat) fun t x=>stV (lsT t x.toNat)) (hdg:∀ (p l:Nat),p<512→l≤2→∀ M n,X.call 139 [I p,I l] M n=some (I (dgt p l),[]))
  (hen:∀ f:Nat,f≤4294967295→∀ M n,X.call 143 [.agg [I 4,I f,B false,B false,B false,B false]] M n=some (.tup [U ((f*256+4:Nat)),I 0],[])) (had:X.call 186=callG adS):GSound Tryz.prog 129 deS:=by
 unfold deS
 refine gsound_spec Tryz.func129 rfl X fun ⟨⟨⟨r,ns,ds⟩,p,fs⟩,⟨hp,hf8,hl1,hl2⟩,hdp⟩ w0 L E=>⟨by show 3≤46;decide,?_⟩
 simp only at hp hf8 hl1 hl2 hdp
 simp only [pMs,dM]
 show AW ⟨Tryz.prog,X,46,w0,⟨L,E,3⟩⟩ _ _ _
 have hc:Cx.OK ⟨Tryz.prog,X,46,w0,⟨L,E,3⟩⟩:=⟨hX,mixed⟩
 repeat' (first|(apply aw_seq_k;intro K hK)|(refine eM64o ?_)|(refine aw_cond (b:=_) (by exact rfl) (fun h=>?_) (fun h=>?_)<;>(try simp at h))|(refine eB ?_)|(refine hK _ ?_;clear hK)|(clear hK;refine hK _ ?_;clear hK)|(clear hK;clear hK;refine hK _ ?_;clear hK)|(clear hK;clear hK;clear hK;refine hK _ ?_;clear hK))
 refine aw_loopK (s0:=?lps1) (m0:=?lpm1) (ι:={i:Nat // i≤fs.length}) [0,1,11,12] (fun s=>[(13,I s.1)]) (fun s=>[(0,.box [I r,.sl 1 (s.1+1) 9 0 (dpN r ds p ns (fs.take s.1)).length,.sl 2 1 2 0 ds.length]),(1,.vec (s.1+1) 9 false (nrows (dpN r ds p ns (fs.take s.1))))]) (fun s=>fs.length - s.1) ⟨0,by simp⟩ ?lhs1 ?lhm1 ?_ ?_
 case lhs1=>first|(simp [keepS];done)|(simp [keepS];rfl)
 case lhm1=>first|rfl|(simp;done)|(simp;rfl)
 ·simp only [dpN_0]
  exact dle
 ·rintro ⟨i,hi⟩
  simp only at hi ⊢
  rcases Decidable.em (i<fs.length) with hil|hil
  ·have hilI:(i:Int)<(fs.length:Int):=by omega
   obtain ⟨hpt,hnf,hf0,hf1⟩:=hdp i hil
   have hds:=@dpN_s r ds p ns fs i hil
   have hg1:=irows_gi hil
   have hg2:=gE' hil
   obtain ⟨NS,hNS⟩:∃ NS,NS=dpN r ds p ns (fs.take i):=⟨_,rfl⟩
   rw [← hNS] at hpt hnf hds ⊢
   obtain ⟨f,hf⟩:=Int.eq_ofNat_of_zero_le hf0
   rw [hf] at hf1 hnf hds hg1 hg2
   have hen':=hen f (by omega)
   have hla':=hla r NS ds p ⟨by omega,hpt⟩
   obtain ⟨hlt1,hlt2⟩:(lsT (r,NS,ds) p).1<NS.length∧(lsT (r,NS,ds) p).2.1≤2:=by
    obtain ⟨_,_,_,⟨rt,hrt⟩,_⟩:=hpt
    exact lst_lt (by unfold rtN;rw [hrt];exact fnd_lt hrt)
   have ht:=hpt.1
   have ha:=hpt.2.1
   have hNl:NS.length≤1000000:=ht.2.1
   unfold stD at hds
   obtain ⟨⟨a,b,c⟩,hS⟩:∃ S,S=lsT (r,NS,ds) p:=⟨_,rfl⟩
   simp only [Int.toNat_natCast] at hla' hds
   rw [← hS] at hla' hlt1 hlt2 hds
   simp only at hla' hlt1 hlt2 hds
   have hdg':=hdg p b hp hlt2
   have hdl:=dgt_lt p b
   have haN:(a:Int)<(NS.length:Int):=by omega
   have hgn:=nrows_gi hlt1
   have hgnE:=nrows_gE hlt1
   have h8:(gn NS a).2.length=8:=(ht.1 _ (gn_mem hlt1)).1
   obtain ⟨w,hwd⟩:∃ w,w=f*256+4:=⟨_,rfl⟩
   rw [← hwd] at hen' hds
   have hset:=@nrows_setN NS a (dgt p b) w hlt1
   have hwl:(wcs (gn NS a).2).length=8:=by simp [h8]
   have hw64:w<2^64:=by omega
   obtain ⟨NT,hNT⟩:∃ NT,NT=setN NS a (dgt p b) w:=⟨_,rfl⟩
   have hNl2:NT.length=NS.length:=by rw [hNT];simp
   have ht2:tbOK (r,NT,ds):=⟨by rw [hNT];exact setN_ok ht.1 hw64 hlt1,by show NT.length≤1000000;omega,hl2⟩
   have ha2:ascN NT:=by rw [hNT];exact setN_asc ha hlt1
   have hn2:∀ n∈NT,n.1≠(f:Int):=by rw [hNT];exact setN_fr hlt1 hnf
   have hca:=fun M n=>@callAd 0 1 2 (by decide) (by decide) (by decide) r NT ds f ht2 ha2 hn2 (by omega) i 0 M n
   rw [← had] at hca
   simp only [hNl2,Nat.zero_add] at hca
   rw [← hNT] at hset hds
   obtain ⟨⟨fr,ws⟩,hm⟩:∃ m,m=gn NS a:=⟨_,rfl⟩
   rw [← hm] at hgn hgnE hwl hset
   simp only at hgn hgnE hwl hset
   obtain ⟨cs,hcs⟩:∃ cs,cs=wcs ws:=⟨_,rfl⟩
   rw [← hcs] at hgn hgnE hwl hset
   obtain ⟨dg,hdg0⟩:∃ dg,dg=dgt p b:=⟨_,rfl⟩
   rw [← hdg0] at hdl hdg' hset
   have hdI:(dg:Int)<8:=by omega
   clear hcs hm h8 hS
   have hs1:∀ w:Int,(I fr::cs).set (1+dg) (AV.v (.int .u64 w))=I fr::cs.set dg (AV.v (.int .u64 w)):=fun w=>by rw [Nat.add_comm];rfl
   have hil2:=@insK_len _ ((f:Int),zs8) NT
   clear hwd
   simp only [stV,srow,U] at hla' hset hen'
   have zS:=jj hilI<|jj hg1<|jj hg2<|jj hla'<|jj hen'<|jj hdg'<|jj hlt1<|jj haN<|jj hgn<|jj hgnE<|jj hwl<|jj hdl<|jj hdI<|jj hset<|jj hs1<|hca
   repeat' (first|(apply aw_seq_k;intro K hK)|(refine eF64 ?_)|(refine aw_cond (b:=_) (by exact rfl) (fun h=>?_) (fun h=>?_)<;>(try simp at h))|(refine eB ?_)|(refine hK _ ?_;clear hK)|(clear hK;refine hK _ ?_;clear hK)|(clear hK;clear hK;refine hK _ ?_;clear hK)|(clear hK;clear hK;clear hK;refine hK _ ?_;clear hK))
   all_goals clear zS
   refine ⟨i+1,?_,by omega,by omega⟩
   simp only [hds,hil2,hNl2]
   exact dle
  ·obtain rfl:i=fs.length:=by omega
   repeat' (first|(apply aw_seq_k;intro K hK)|(refine eM64o ?_)|(refine aw_cond (b:=_) (by exact rfl) (fun h=>?_) (fun h=>?_)<;>(try simp at h))|(refine eB ?_)|(refine hK _ ?_;clear hK)|(clear hK;refine hK _ ?_;clear hK)|(clear hK;clear hK;refine hK _ ?_;clear hK)|(clear hK;clear hK;clear hK;refine hK _ ?_;clear hK))
   refine ⟨[],rfl,?_⟩
   simp only [idx]
   exact dle
end Go.AM
set_option maxHeartbeats 4000000
namespace Go.AM
open Go Go.Proofs
def orG (F G:List AV→List AO→Option (AV×List AO)) (avs:List AV) (ms:List AO):Option (AV×List AO):=match F avs ms with
 | some r=>some r
 | none=>G avs ms
theorem GSound.or {P:Program} {f:FuncId} {F G:List AV→List AO→Option (AV×List AO)} (h1:GSound P f F) (h2:GSound P f G):GSound P f (orG F G):=fun w l E args avs ms r ms' h=>by
 unfold orG at h
 cases hf:F avs ms with
 | some x=>rw [hf] at h;exact h1 w l E args avs ms r ms' (hf.trans h)
 | none=>rw [hf] at h;exact h2 w l E args avs ms r ms' h
theorem orG_1 {F G:List AV→List AO→Option (AV×List AO)} {avs:List AV} {ms:List AO} {x:AV×List AO} (h:F avs ms=some x):orG F G avs ms=some x:=by unfold orG;rw [h]
theorem orG_2 {F G:List AV→List AO→Option (AV×List AO)} {avs:List AV} {ms:List AO} {x:AV×List AO} (h:F avs ms=none) (h2:G avs ms=some x):orG F G avs ms=some x:=by unfold orG;rw [h];exact h2
theorem specG_none {ι:Type} {A:ι→List AV} {M:ι→List AO} {R:ι→AV} {O:ι→List AO} {avs:List AV} {ms:List AO} (h:∀ i,A i=avs→M i=ms→False):specG A M R O avs ms=none:=by
 unfold specG
 rw [dif_neg (fun ⟨i,h1,h2⟩=>h i (by first|exact h1|exact h1.symm) (by first|exact h2|exact h2.symm))]
noncomputable def seB:List AV→List AO→Option (AV×List AO):=orG (seS 189) (seS 191)
theorem seB_1 {t:Tb} {g:Int} (ht:tbOK t) (ha:ascK t.2.2):seB [I t.2.2.length,.fn 189 [.bp 0 0,.bp 4 0]] (scM t g)=some (I (lowD t.2.2 g),scM t g):=orG_1 (seS_at ht ha)
theorem seB_2 {t:Tb} {g:Int} (ht:tbOK t) (ha:ascK t.2.2):seB [I t.2.2.length,.fn 191 [.bp 0 0,.bp 4 0]] (scM t g)=some (I (lowD t.2.2 g),scM t g):=orG_2 (specG_none fun i h1 _=>by
 simp only [List.cons.injEq,AV.fn.injEq] at h1
 exact absurd h1.2.1.1 (by decide)) (seS_at ht ha)
set_option maxRecDepth 4000 in
theorem callSe {c:FuncId} {e:Nat} (he:4≤e) (hcc:c=189∨c=191) {r:Int} {ns:NdL} {ds:List Dp} {g:Int} (ht:tbOK (r,ns,ds)) (ha:ascK ds) (M:Nat→AO) (nid:Nat)
  (h0:M 0=.box [I r,.sl 1 1 9 0 ns.length,.sl 2 1 2 0 ds.length]) (h1:M 1=.vec 1 9 false (nrows ns)) (h2:M 2=.vec 1 2 false (prows ds)) (h3:M 3=.box [.bp 0 0]) (h4:M e=.box [I g]) :
  callG seB [I ds.length,.fn c [.bp 3 0,.bp e 0]] M nid=some (I (lowD ds g),[(3,.box [.bp 0 0]),(0,.box [I r,.sl 1 1 9 0 ns.length,.sl 2 1 2 0 ds.length]),(1,.vec 1 9 false (nrows ns)),(2,.vec 1 2 false (prows ds)),(e,.box [I g])]):=by
 have n0:e≠0:=by omega
 have n1:e≠1:=by omega
 have n2:e≠2:=by omega
 have n3:e≠3:=by omega
 have m0:0≠e:=by omega
 have m1:1≠e:=by omega
 have m2:2≠e:=by omega
 have m3:3≠e:=by omega
 have hF:seB [I ds.length,.fn c [.bp 0 0,.bp 4 0]] (scM (r,ns,ds) g)=some (I (lowD ds g),scM (r,ns,ds) g):=by
  rcases hcc with rfl|rfl
  ·exact seB_1 (t:=(r,ns,ds)) ht ha
  ·exact seB_2 (t:=(r,ns,ds)) ht ha
 simp only [scM] at hF
 unfold callG
 have hg:gat M 64 (nmsL [I ds.length,.fn c [.bp 3 0,.bp e 0]]) []=[3,0,1,2,e]:=by
  simp [gat,nmsL,AV.nms,AO.nms,h0,h1,h2,h3,h4,n0,n1,n2,n3,m0,m1,m2,m3]
 simp only [hg]
 rw [if_pos ?cg]
 case cg=>simp [CallG,nmsL,AV.nms,AO.nms,Led,curBL,AV.curB,AO.curB,verOf,notDead,h0,h1,h2,h3,h4,n0,n1,n2,n3,m0,m1,m2,m3]
 simp [renL,AV.ren,AO.ren,posN,canO,nmsL,h0,h1,h2,h3,h4,n0,n1,n2,n3,m0,m1,m2,m3,hF,RetG,getL,AV.nms,AO.nms,updN,nmN,shN,verOf,rng,Led]
theorem callIns {b c v i:Nat} {l:List Dp} {g f:Int} {fl fl2:Bool} (hbc:b≠c) (hi:i≤l.length∧l.length≤1000000) (M:Nat→AO) (nid:Nat) (hb:M b=.vec v 2 fl (prows l)) (hc:M c=.vec 1 2 fl2 [[I g,I f]]) :
  callM false two2 FInsD [.sl b v 2 0 l.length,I i,.sl c 1 2 0 1] M nid=some (.sl nid 1 2 0 (l.length+1),[(nid,.vec 1 2 false (prows (l.take i++(g,f)::l.drop i))),(b,.dead)]):=by
 have hF:=FInsD_at l i g f hi
 have hcb:c≠b:=fun e=>hbc e.symm
 have e1:min i l.length+(l.length - i+1)=l.length+1:=by omega
 simp [callM,giveArg,takeArg,hb,hc,hbc,hcb,hF,List.take_of_length_le,e1]
theorem callDel {b v i j:Nat} {l:List Dp} {fl:Bool} (hi:i≤j∧j≤l.length∧l.length≤1000000) (M:Nat→AO) (nid:Nat) (hb:M b=.vec v 2 fl (prows l)) :
  callM false two2 FDelD [.sl b v 2 0 l.length,I i,I j] M nid=some (.sl nid 1 2 0 (l.length - (j - i)),[(nid,.vec 1 2 false (prows (l.take i++l.drop j))),(b,.dead)]):=by
 have hF:=FDelD_at l i j hi
 have e1:min i l.length+(l.length - j)=l.length - (j - i):=by omega
 simp [callM,giveArg,takeArg,hb,hF,List.take_of_length_le,e1]
def insL (ds:List Dp) (g f:Int):List Dp:=ds.take (lowD ds g)++(g,f)::ds.drop (lowD ds g)
abbrev DpD:=Tb×Int×Int
def oM (t:Tb) (ds:List Dp):List AO:=[.box [I t.1,.sl 1 1 9 0 t.2.1.length,.sl 3 1 2 0 ds.length],.vec 1 9 false (nrows t.2.1),.dead,.vec 1 2 false (prows ds)]
noncomputable def dpS:List AV→List AO→Option (AV×List AO):=specG (ι:={x:DpD // tbOK x.1∧ascK x.1.2.2}) (fun x=>[.bp 0 0,I x.1.2.1,I x.1.2.2]) (fun x=>pMs x.1.1 1 1) (fun x=>.tup []) fun x=>oM x.1.1 (insL x.1.1.2.2 x.1.2.1 x.1.2.2)
theorem dpS_at {t:Tb} {g f:Int} (ht:tbOK t) (ha:ascK t.2.2):dpS [.bp 0 0,I g,I f] (pMs t 1 1)=some (.tup [],oM t (insL t.2.2 g f)):=by
 refine specG_eq (ι:={x:DpD // tbOK x.1∧ascK x.1.2.2}) (A:=fun x=>[.bp 0 0,I x.1.2.1,I x.1.2.2]) (M:=fun x=>pMs x.1.1 1 1) (R:=fun x=>.tup []) (O:=fun x=>oM x.1.1 (insL x.1.1.2.2 x.1.2.1 x.1.2.2)) ⟨(t,g,f),ht,ha⟩ fun j hA hM=>?_
 obtain ⟨⟨t',g',f'⟩,h'⟩:=j
 have e:=pMs_inj hM
 simp only at e
 subst e
 simp only [List.cons.injEq,I,AV.v.injEq,Value.int.injEq,true_and,and_true] at hA
 obtain ⟨rfl,rfl⟩:=hA
 exact ⟨rfl,rfl⟩
theorem insL_len {ds:List Dp} {g f:Int}:(insL ds g f).length=ds.length+1:=by
 have:=@lowD_le ds g
 simp [insL];omega
theorem s135 (X:AX) (hX:XOK Tryz.prog X) (hw:X.W wT) (hse:X.call 188=callG seB) (hin:X.call 190=callM false two2 FInsD):GSound Tryz.prog 135 dpS:=by
 unfold dpS
 refine gsound_spec Tryz.func135 rfl X fun ⟨⟨⟨r,ns,ds⟩,g,f⟩,ht,ha⟩ w0 L E=>⟨by show 3≤27;decide,?_⟩
 simp only at ha
 have hl1:ns.length≤1000000:=ht.2.1
 have hl2:ds.length≤1000000:=ht.2.2
 have hse':=fun M n=>@callSe 189 19 (by decide) (.inl rfl) r ns ds g ht ha M n
 rw [← hse] at hse'
 have hlo:=@lowD_le ds g
 obtain ⟨i,hi⟩:∃ i,i=lowD ds g:=⟨_,rfl⟩
 have hil:insL ds g f=ds.take i++(g,f)::ds.drop i:=by rw [hi];rfl
 have hlen:=@insL_len ds g f
 rw [← hi] at hse' hlo
 have hin':=fun b c hbc M nid=>@callIns b c 1 i ds g f false false hbc ⟨hlo,hl2⟩ M nid
 rw [← hin,← hil] at hin'
 simp only [pMs,oM,hlen]
 show AW ⟨Tryz.prog,X,27,w0,⟨L,E,3⟩⟩ _ _ _
 have hc:Cx.OK ⟨Tryz.prog,X,27,w0,⟨L,E,3⟩⟩:=⟨hX,mixed⟩
 have zS:=jj hse'<|hin'
 refine dF64 ?_
 repeat (intro K hK)
 clear zS
 refine ⟨[],rfl,?_⟩
 simp only [idx]
 refine le_turn (s1:=?tus1) (m1:=?tum1) [(323,3)] [0] [0,1,2,323] ?tua1 ?tub1 ?tuc1 ?tud1 ?tue1 ?tuf1 ?tug1
 case tua1=>first|(simp [keepS];done)|(simp [keepS];rfl)
 case tub1=>first|(simp;done)|(simp;rfl)
 case tuc1=>simp
 case tud1=>simp
 case tue1=>simp
 case tuf1=>simp
 case tug1 =>
  simp [swp,vr]
  exact dle
def delL (ds:List Dp) (g:Int):List Dp:=ds.take (lowD ds g)++ds.drop (lowD ds g+1)
theorem delL_len {ds:List Dp} {g:Int} (h:lowD ds g<ds.length):(delL ds g).length=ds.length - 1:=by
 simp [delL];omega
noncomputable def wdS:List AV→List AO→Option (AV×List AO):=specG (ι:={x:Tb×Int // tbOK x.1∧ascK x.1.2.2∧lowD x.1.2.2 x.2<x.1.2.2.length}) (fun x=>[.bp 0 0,I x.1.2]) (fun x=>pMs x.1.1 1 1) (fun x=>retOf [I (gp x.1.1.2.2 (lowD x.1.1.2.2 x.1.2)).2]) fun x=>oM x.1.1 (delL x.1.1.2.2 x.1.2)
theorem wdS_at {t:Tb} {g:Int} (ht:tbOK t) (ha:ascK t.2.2) (hl:lowD t.2.2 g<t.2.2.length):wdS [.bp 0 0,I g] (pMs t 1 1)=some (I (gp t.2.2 (lowD t.2.2 g)).2,oM t (delL t.2.2 g)):=by
 refine specG_eq (ι:={x:Tb×Int // tbOK x.1∧ascK x.1.2.2∧lowD x.1.2.2 x.2<x.1.2.2.length}) (A:=fun x=>[.bp 0 0,I x.1.2]) (M:=fun x=>pMs x.1.1 1 1) (R:=fun x=>retOf [I (gp x.1.1.2.2 (lowD x.1.1.2.2 x.1.2)).2]) (O:=fun x=>oM x.1.1 (delL x.1.1.2.2 x.1.2)) ⟨(t,g),ht,ha,hl⟩ fun j hA hM=>?_
 obtain ⟨⟨t',g'⟩,h'⟩:=j
 have e:=pMs_inj hM
 simp only at e
 subst e
 simp only [List.cons.injEq,I,AV.v.injEq,Value.int.injEq,true_and,and_true] at hA
 subst hA
 exact ⟨rfl,rfl⟩
theorem s138 (X:AX) (hX:XOK Tryz.prog X) (hw:X.W wT) (hse:X.call 188=callG seB) (hde:X.call 192=callM false two2 FDelD):GSound Tryz.prog 138 wdS:=by
 unfold wdS
 refine gsound_spec Tryz.func138 rfl X fun ⟨⟨⟨r,ns,ds⟩,g⟩,ht,ha,hlo⟩ w0 L E=>⟨by show 2≤34;decide,?_⟩
 simp only at ha hlo
 have hl1:ns.length≤1000000:=ht.2.1
 have hl2:ds.length≤1000000:=ht.2.2
 have hse':=fun M n=>@callSe 191 19 (by decide) (.inr rfl) r ns ds g ht ha M n
 rw [← hse] at hse'
 have hlen:=delL_len hlo
 simp only [pMs,oM,hlen]
 obtain ⟨i,hi⟩:∃ i,i=lowD ds g:=⟨_,rfl⟩
 have hil:delL ds g=ds.take i++ds.drop (i+1):=by rw [hi];rfl
 rw [← hi] at hse' hlo ⊢
 have hde':=fun b M nid=>@callDel b 1 i (i+1) ds false ⟨by omega,by omega,hl2⟩ M nid
 rw [← hde,← hil,show i+1 - i=1 by omega,show ((i+1:Nat):Int)=(i:Int)+1 by omega] at hde'
 have hg:=prows_gi hlo
 have hgE:=prows_gE hlo
 obtain ⟨⟨d1,d2⟩,hm⟩:∃ m,m=gp ds i:=⟨_,rfl⟩
 rw [← hm] at hg hgE ⊢
 simp only at hg hgE ⊢
 have hiI:(i:Int)<(ds.length:Int):=by omega
 show AW ⟨Tryz.prog,X,34,w0,⟨L,E,3⟩⟩ _ _ _
 have hc:Cx.OK ⟨Tryz.prog,X,34,w0,⟨L,E,3⟩⟩:=⟨hX,mixed⟩
 have zS:=jj hse'<|jj hde'<|jj hg<|jj hgE<|jj hlo<|hiI
 refine dF64 ?_
 repeat (intro K hK)
 clear zS
 refine ⟨by simp,_,by simp [aResults,aResult,Tryz.f138];rfl,?_⟩
 simp only [idx]
 refine le_turn (s1:=?tus2) (m1:=?tum2) [(451,3)] [0] [0,1,2,451] ?tua2 ?tub2 ?tuc2 ?tud2 ?tue2 ?tuf2 ?tug2
 case tua2=>first|(simp [keepS];done)|(simp [keepS];rfl)
 case tub2=>first|(simp;done)|(simp;rfl)
 case tuc2=>simp
 case tud2=>simp
 case tue2=>simp
 case tuf2=>simp
 case tug2 =>
  simp [swp,vr]
  exact dle
end Go.AM
