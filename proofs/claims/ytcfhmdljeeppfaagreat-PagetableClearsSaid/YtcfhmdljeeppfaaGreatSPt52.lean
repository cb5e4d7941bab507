/- A part of the proof: what functions of the program compute, by abstract execution of their code. Its theorems hold without further condition. -/
import Derived.Test.YtcfhmdljeeppfaaGreatSPtP
import Derived.Shelf.Sort.Plain
import Derived.Shelf.Slices.In.SortNone
set_option linter.all false
namespace Go.AM
open Go Go.Proofs
theorem eqL_wcs:∀ {a b:List Nat},a.length=b.length→eqL (wcs a) (wcs b)=some (decide (a=b))
 | [],[],_=>rfl
 | [],_::_,h=>by simp at h
 | _::_,[],h=>by simp at h
 | x::a,y::b,h=>by
  have ih:=eqL_wcs (a:=a) (b:=b) (by simpa using h)
  show eqL (.v (.int .u64 x)::wcs a) (.v (.int .u64 y)::wcs b)=_
  simp only [eqL,ih,if_true,Option.map_some,Option.some.injEq,List.cons.injEq]
  by_cases e:x=y
  ·subst e;simp
  ·have:¬ (x:Int)=y:=by omega
   simp [e,this]
theorem sameK_wcs:∀ {n:Nat} {a:List Nat},a.length=n→sameK (List.replicate n (.int .u64 0)) (wcs a)=true
 | 0,[],_=>rfl
 | n+1,x::a,h=>by
  rw [List.replicate_succ]
  show (decide (IntKind.u64=IntKind.u64)&&sameK _ (wcs a))=true
  rw [sameK_wcs (by simpa using h)];rfl
 | 0,_::_,h=>by simp at h
 | _+1,[],h=>by simp at h
theorem list_ext_gn {a b:List Nd} (hl:a.length=b.length) (h:∀ j,j<a.length→gn a j=gn b j):a=b:=by
 refine List.ext_getElem hl fun i h1 h2=>?_
 have:=h i h1
 rw [gn_eq h1,gn_eq h2] at this
 exact this
theorem list_ext_gp {a b:List Dp} (hl:a.length=b.length) (h:∀ j,j<a.length→gp a j=gp b j):a=b:=by
 refine List.ext_getElem hl fun i h1 h2=>?_
 have:=h i h1
 rw [gp_eq h1,gp_eq h2] at this
 exact this
set_option maxHeartbeats 4000000 in
theorem s31 (X:AX) (hX:XOK Tryz.prog X) (hw:X.W wT) (hen:X.eqs 150=true) (hed:X.eqs 170=true):PSound Tryz.prog 31 (specF (ι:={x:Tb×Tb // tbOK x.1∧tbOK x.2}) (fun x=>[TbV x.1.1,TbV x.1.2]) fun x=>retOf [B (decide (x.1.1=x.1.2))]):=by
 refine psound_spec hX mixed Tryz.func31 rfl fun ⟨⟨⟨r,ns,ds⟩,⟨r',ns',ds'⟩⟩,ht,ht'⟩ w0 G=>⟨by show 2≤66;decide,rfl,?_⟩
 show AW ⟨Tryz.prog,X,66,w0,.pure G⟩ _ _ _
 have hc:Cx.OK ⟨Tryz.prog,X,66,w0,.pure G⟩:=⟨hX,mixed⟩
 simp only at ht ht' ⊢
 have hl1:ns.length≤1000000:=ht.2.1
 have hl2:ds.length≤1000000:=ht.2.2
 have hl1':ns'.length≤1000000:=ht'.2.1
 have hl2':ds'.length≤1000000:=ht'.2.2
 simp only [TbV]
 rcases Decidable.em (r=r') with h1|h1
 ·subst h1
  rcases Decidable.em (ns.length=ns'.length) with h2|h2
  ·have h2I:(ns.length:Int)=(ns'.length:Int):=by omega
   rcases Decidable.em (ds.length=ds'.length) with h3|h3
   ·have h3I:(ds.length:Int)=(ds'.length:Int):=by omega
    have zS:=jj h2<|h3
    repeat' (first|(apply aw_seq_k;intro K hK)|(refine eM64 ?_)|(refine aw_cond (b:=_) (by exact rfl) (fun h=>?_) (fun h=>?_)<;>(try simp at h))|(refine eB ?_)|(refine hK _ ?_;clear hK)|(clear hK;refine hK _ ?_;clear hK)|(clear hK;clear hK;refine hK _ ?_;clear hK)|(clear hK;clear hK;clear hK;refine hK _ ?_;clear hK))
    all_goals clear zS
    refine aw_loopK (s0:=?lps1) (m0:=?lpm1) (ι:={i:Nat // i≤ns'.length∧∀ j,j<i→gn ns j=gn ns' j}) [2,3,32] (fun s=>[(33,I s.1)]) (fun _=>[]) (fun s=>ns'.length - s.1) ⟨0,by omega,by omega⟩ ?lhs1 ?lhm1 ?_ ?_
    case lhs1=>first|(simp [keepS];done)|(simp [keepS];rfl)
    case lhm1=>first|rfl|(simp;done)|(simp;rfl)
    ·exact dle
    ·rintro ⟨i,hi,hinv⟩
     simp only
     rcases Decidable.em (i<ns'.length) with hil|hil
     ·have hilI:(i:Int)<(ns'.length:Int):=by omega
      have hil2:i<ns.length:=by omega
      have hil2I:(i:Int)<(ns.length:Int):=by omega
      have hg:=nrows_gi hil2
      have hgE:=nrows_gE hil2
      have hg':=nrows_gi hil
      have hgE':=nrows_gE hil
      have hlen:=(ht.1 _ (gn_mem hil2)).1
      have hlen':=(ht'.1 _ (gn_mem hil)).1
      have hdf:gn ns i≠gn ns' i→¬ (r,ns,ds)=(r,ns',ds'):=fun h e=>h (by simp only [Prod.mk.injEq] at e;rw [e.2.1])
      have hinv2:gn ns i=gn ns' i→∀ j,j<i+1→gn ns j=gn ns' j:=fun h j hj=>by
       rcases Nat.lt_succ_iff_lt_or_eq.1 hj with h5|rfl
       ·exact hinv j h5
       ·exact h
      obtain ⟨⟨a,ws⟩,hm⟩:∃ m,m=gn ns i:=⟨_,rfl⟩
      obtain ⟨⟨b,vs⟩,hm'⟩:∃ m,m=gn ns' i:=⟨_,rfl⟩
      rw [← hm,← hm'] at hdf hinv2
      rw [← hm] at hg hgE hlen
      rw [← hm'] at hg' hgE' hlen'
      simp only at hg hgE hlen hg' hgE' hlen'
      have heq:=eqL_wcs (a:=ws) (b:=vs) (by omega)
      have hsk:=sameK_wcs hlen
      have hsk':=sameK_wcs hlen'
      simp only [List.reduceReplicate] at hsk hsk'
      have hcl:(wcs ws).length=8:=by simp [hlen]
      have hcl':(wcs vs).length=8:=by simp [hlen']
      obtain ⟨cs,hcs⟩:∃ cs,cs=wcs ws:=⟨_,rfl⟩
      obtain ⟨cs',hcs'⟩:∃ cs,cs=wcs vs:=⟨_,rfl⟩
      rw [← hcs] at hg hgE heq hsk hcl
      rw [← hcs'] at hg' hgE' heq hsk' hcl'
      clear hm hm' hcs hcs'
      have htk:List.take 8 cs=cs:=List.take_of_length_le (by omega)
      have htk':List.take 8 cs'=cs':=List.take_of_length_le (by omega)
      rcases Decidable.em (a=b) with e1|e1
      ·subst e1
       rcases Decidable.em (ws=vs) with e2|e2
       ·subst e2
        rw [decide_eq_true rfl] at heq
        have:=hinv2 rfl
        have zS:=jj hilI<|jj hil<|jj hil2<|jj hil2I<|jj hg<|jj hgE<|jj hg'<|jj hgE'<|jj htk<|jj htk'<|jj heq<|jj hsk<|jj hsk'<|jj hcl<|jj hcl'<|jj hen<|jj eqLs<|jj sameKs<|h2
        repeat' (first|(apply aw_seq_k;intro K hK)|(refine eM64 ?_)|(refine aw_cond (b:=_) (by exact rfl) (fun h=>?_) (fun h=>?_)<;>(try simp at h))|(refine eB ?_)|(refine hK _ ?_;clear hK)|(clear hK;refine hK _ ?_;clear hK)|(clear hK;clear hK;refine hK _ ?_;clear hK)|(clear hK;clear hK;clear hK;refine hK _ ?_;clear hK))
        all_goals clear zS
        refine ⟨i+1,?_,⟨by omega,this⟩,by omega⟩
        exact dle
       ·rw [decide_eq_false e2] at heq
        have e:=hdf (by simpa using e2)
        have zS:=jj hilI<|jj hil<|jj hil2<|jj hil2I<|jj hg<|jj hgE<|jj hg'<|jj hgE'<|jj htk<|jj htk'<|jj heq<|jj hsk<|jj hsk'<|jj hcl<|jj hcl'<|jj hen<|jj eqLs<|jj sameKs<|h2
        repeat' (first|(apply aw_seq_k;intro K hK)|(refine eM64 ?_)|(refine aw_cond (b:=_) (by exact rfl) (fun h=>?_) (fun h=>?_)<;>(try simp at h))|(refine eB ?_)|(refine hK _ ?_;clear hK)|(clear hK;refine hK _ ?_;clear hK)|(clear hK;clear hK;refine hK _ ?_;clear hK)|(clear hK;clear hK;clear hK;refine hK _ ?_;clear hK))
        all_goals clear zS
        refine ⟨by simp,?_⟩
        simp [leaves_iff,Tryz.f31,e]
        try exact dt
      ·have e:=hdf (by simp [e1])
       have e1':¬ b=a:=fun h=>e1 h.symm
       rcases Decidable.em (ws=vs) with e2|e2
       ·rw [decide_eq_true e2] at heq
        have zS:=jj hilI<|jj hil<|jj hil2<|jj hil2I<|jj hg<|jj hgE<|jj hg'<|jj hgE'<|jj htk<|jj htk'<|jj heq<|jj hsk<|jj hsk'<|jj hcl<|jj hcl'<|jj hen<|jj eqLs<|jj sameKs<|jj h2<|jj e1<|e1'
        repeat' (first|(apply aw_seq_k;intro K hK)|(refine eM64 ?_)|(refine aw_cond (b:=_) (by exact rfl) (fun h=>?_) (fun h=>?_)<;>(try simp at h))|(refine eB ?_)|(refine hK _ ?_;clear hK)|(clear hK;refine hK _ ?_;clear hK)|(clear hK;clear hK;refine hK _ ?_;clear hK)|(clear hK;clear hK;clear hK;refine hK _ ?_;clear hK))
        all_goals clear zS
        refine ⟨by simp,?_⟩
        simp [leaves_iff,Tryz.f31,e]
        try exact dt
       ·rw [decide_eq_false e2] at heq
        have zS:=jj hilI<|jj hil<|jj hil2<|jj hil2I<|jj hg<|jj hgE<|jj hg'<|jj hgE'<|jj htk<|jj htk'<|jj heq<|jj hsk<|jj hsk'<|jj hcl<|jj hcl'<|jj hen<|jj eqLs<|jj sameKs<|jj h2<|jj e1<|e1'
        repeat' (first|(apply aw_seq_k;intro K hK)|(refine eM64 ?_)|(refine aw_cond (b:=_) (by exact rfl) (fun h=>?_) (fun h=>?_)<;>(try simp at h))|(refine eB ?_)|(refine hK _ ?_;clear hK)|(clear hK;refine hK _ ?_;clear hK)|(clear hK;clear hK;refine hK _ ?_;clear hK)|(clear hK;clear hK;clear hK;refine hK _ ?_;clear hK))
        all_goals clear zS
        refine ⟨by simp,?_⟩
        simp [leaves_iff,Tryz.f31,e]
        try exact dt
     ·obtain rfl:i=ns'.length:=by omega
      have hns:ns=ns':=list_ext_gn h2 fun j hj=>hinv j (by omega)
      clear hinv
      have zS:=h3
      repeat' (first|(apply aw_seq_k;intro K hK)|(refine eM64 ?_)|(refine aw_cond (b:=_) (by exact rfl) (fun h=>?_) (fun h=>?_)<;>(try simp at h))|(refine eB ?_)|(refine hK _ ?_;clear hK)|(clear hK;refine hK _ ?_;clear hK)|(clear hK;clear hK;refine hK _ ?_;clear hK)|(clear hK;clear hK;clear hK;refine hK _ ?_;clear hK))
      all_goals clear zS
      refine aw_loopK (s0:=?lps2) (m0:=?lpm2) (ι:={i:Nat // i≤ds'.length∧∀ j,j<i→gp ds j=gp ds' j}) [2,3,50] (fun s=>[(51,I s.1)]) (fun _=>[]) (fun s=>ds'.length - s.1) ⟨0,by omega,by omega⟩ ?lhs2 ?lhm2 ?_ ?_
      case lhs2=>first|(simp [keepS];done)|(simp [keepS];rfl)
      case lhm2=>first|rfl|(simp;done)|(simp;rfl)
      ·exact dle
      ·rintro ⟨i,hi,hinv⟩
       simp only
       rcases Decidable.em (i<ds'.length) with hil|hil
       ·have hilI:(i:Int)<(ds'.length:Int):=by omega
        have hil2:i<ds.length:=by omega
        have hil2I:(i:Int)<(ds.length:Int):=by omega
        have hg:=prows_gi hil2
        have hgE:=prows_gE hil2
        have hg':=prows_gi hil
        have hgE':=prows_gE hil
        have hdf:gp ds i≠gp ds' i→¬ (r,ns,ds)=(r,ns',ds'):=fun h e=>h (by simp only [Prod.mk.injEq] at e;rw [e.2.2])
        have hinv2:gp ds i=gp ds' i→∀ j,j<i+1→gp ds j=gp ds' j:=fun h j hj=>by
         rcases Nat.lt_succ_iff_lt_or_eq.1 hj with h5|rfl
         ·exact hinv j h5
         ·exact h
        obtain ⟨⟨a,b⟩,hm⟩:∃ m,m=gp ds i:=⟨_,rfl⟩
        obtain ⟨⟨c,d⟩,hm'⟩:∃ m,m=gp ds' i:=⟨_,rfl⟩
        rw [← hm,← hm'] at hdf hinv2
        rw [← hm] at hg hgE
        rw [← hm'] at hg' hgE'
        simp only at hg hgE hg' hgE'
        clear hm hm'
        rcases Decidable.em (a=c∧b=d) with e1|e1
        ·obtain ⟨rfl,rfl⟩:=e1
         have:=hinv2 rfl
         have zS:=jj hilI<|jj hil<|jj hil2<|jj hil2I<|jj hg<|jj hgE<|jj hg'<|jj hgE'<|jj hed<|jj eqLs<|jj sameKs<|h3
         repeat' (first|(apply aw_seq_k;intro K hK)|(refine eM64 ?_)|(refine aw_cond (b:=_) (by exact rfl) (fun h=>?_) (fun h=>?_)<;>(try simp at h))|(refine eB ?_)|(refine hK _ ?_;clear hK)|(clear hK;refine hK _ ?_;clear hK)|(clear hK;clear hK;refine hK _ ?_;clear hK)|(clear hK;clear hK;clear hK;refine hK _ ?_;clear hK))
         all_goals clear zS
         refine ⟨i+1,?_,⟨by omega,this⟩,by omega⟩
         exact dle
        ·have e:=hdf (by simp;omega)
         have e2:a=c→¬ b=d:=by omega
         have zS:=jj hilI<|jj hil<|jj hil2<|jj hil2I<|jj hg<|jj hgE<|jj hg'<|jj hgE'<|jj hed<|jj eqLs<|jj sameKs<|jj h3<|jj e1<|e2
         repeat' (first|(apply aw_seq_k;intro K hK)|(refine eM64 ?_)|(refine aw_cond (b:=_) (by exact rfl) (fun h=>?_) (fun h=>?_)<;>(try simp at h))|(refine eB ?_)|(refine hK _ ?_;clear hK)|(clear hK;refine hK _ ?_;clear hK)|(clear hK;clear hK;refine hK _ ?_;clear hK)|(clear hK;clear hK;clear hK;refine hK _ ?_;clear hK))
         all_goals clear zS
         refine ⟨by simp,?_⟩
         simp [leaves_iff,Tryz.f31,e]
         try exact dt
       ·obtain rfl:i=ds'.length:=by omega
        have hds:ds=ds':=list_ext_gp h3 fun j hj=>hinv j (by omega)
        have zS:=h3
        repeat' (first|(apply aw_seq_k;intro K hK)|(refine eM64 ?_)|(refine aw_cond (b:=_) (by exact rfl) (fun h=>?_) (fun h=>?_)<;>(try simp at h))|(refine eB ?_)|(refine hK _ ?_;clear hK)|(clear hK;refine hK _ ?_;clear hK)|(clear hK;clear hK;refine hK _ ?_;clear hK)|(clear hK;clear hK;clear hK;refine hK _ ?_;clear hK))
        all_goals clear zS
        refine ⟨by simp,?_⟩
        simp [leaves_iff,Tryz.f31,hns,hds]
        try exact dt
   ·have h3I:¬ (ds.length:Int)=(ds'.length:Int):=by omega
    have e:¬ (r,ns,ds)=(r,ns',ds'):=fun e=>by simp only [Prod.mk.injEq] at e;exact h3 (by rw [e.2.2])
    have zS:=jj h2<|jj h3<|h3I
    refine dM64 ?_
    repeat (intro K hK)
    clear zS
    all_goals refine ⟨by simp,?_⟩
    all_goals simp [leaves_iff,Tryz.f31,e]
    all_goals try exact dt
  ·have h2I:¬ (ns.length:Int)=(ns'.length:Int):=by omega
   have e:¬ (r,ns,ds)=(r,ns',ds'):=fun e=>by simp only [Prod.mk.injEq] at e;exact h2 (by rw [e.2.1])
   have zS:=jj h2<|h2I
   refine dM64 ?_
   repeat (intro K hK)
   clear zS
   all_goals refine ⟨by simp,?_⟩
   all_goals simp [leaves_iff,Tryz.f31,e]
   all_goals try exact dt
 ·have e:¬ (r,ns,ds)=(r',ns',ds'):=fun e=>by simp only [Prod.mk.injEq] at e;exact h1 e.1
  have zS:=h1
  refine dM64 ?_
  repeat (intro K hK)
  clear zS
  all_goals refine ⟨by simp,?_⟩
  all_goals simp [leaves_iff,Tryz.f31,e]
  all_goals try exact dt
end Go.AM
namespace Go.AM
open Go Go.Proofs Go.Sort
def sortIRen:Go.Shelf.Ren :=
 {f:=fun x=>match x with
   | 189=>183
   | 125=>213
   | 257=>212
   | 128=>236
   | 129=>237
   | 294=>227
   | 295=>228
   | 296=>229
   | 297=>230
   | 298=>231
   | 299=>232
   | 216=>233
   | 300=>234
   | 301=>235
   | 328=>246
   | 329=>247
   | 330=>248
   | 331=>249
   | 332=>250
   | 215=>244
   | 343=>270
   | n=>n
  t:=fun x=>match x with
   | 28=>89
   | 3=>3
   | 46=>199
   | 0=>0
   | 51=>238
   | 53=>76
   | 4=>4
   | 183=>265
   | 182=>264
   | 131=>179
   | 5=>5
   | 9=>9
   | 218=>282
   | 222=>183
   | 228=>299
   | 229=>79
   | n=>n
  g:=fun n=>n }
theorem lay189:Go.Proofs.Lays.n189 Tryz.prog sortIRen :=
 {mixed:=mixed
  f125:=Tryz.func213.trans (congrArg some (by kernel_rfl))
  f128:=Tryz.func236.trans (congrArg some (by kernel_rfl))
  f129:=Tryz.func237.trans (congrArg some (by kernel_rfl))
  f189:=Tryz.func183.trans (congrArg some (by kernel_rfl))
  f215:=Tryz.func244.trans (congrArg some (by kernel_rfl))
  f216:=Tryz.func233.trans (congrArg some (by kernel_rfl))
  f257:=Tryz.func212.trans (congrArg some (by kernel_rfl))
  f294:=Tryz.func227.trans (congrArg some (by kernel_rfl))
  f295:=Tryz.func228.trans (congrArg some (by kernel_rfl))
  f296:=Tryz.func229.trans (congrArg some (by kernel_rfl))
  f297:=Tryz.func230.trans (congrArg some (by kernel_rfl))
  f298:=Tryz.func231.trans (congrArg some (by kernel_rfl))
  f299:=Tryz.func232.trans (congrArg some (by kernel_rfl))
  f300:=Tryz.func234.trans (congrArg some (by kernel_rfl))
  f301:=Tryz.func235.trans (congrArg some (by kernel_rfl))
  f328:=Tryz.func246.trans (congrArg some (by kernel_rfl))
  f329:=Tryz.func247.trans (congrArg some (by kernel_rfl))
  f330:=Tryz.func248.trans (congrArg some (by kernel_rfl))
  f331:=Tryz.func249.trans (congrArg some (by kernel_rfl))
  f332:=Tryz.func250.trans (congrArg some (by kernel_rfl))
  f343:=Tryz.func270.trans (congrArg some (by kernel_rfl))
  t0:=Tryz.underlying0
  a0:=Tryz.isAgg0
  z0:=Tryz.sizeOf0
  v0:=Tryz.zeroValue0
  t3:=Tryz.underlying3
  a3:=Tryz.isAgg3
  z3:=Tryz.sizeOf3
  v3:=Tryz.zeroValue3
  t4:=Tryz.underlying4
  a4:=Tryz.isAgg4
  z4:=Tryz.sizeOf4
  v4:=Tryz.zeroValue4
  t5:=Tryz.underlying5
  a5:=Tryz.isAgg5
  z5:=Tryz.sizeOf5
  v5:=Tryz.zeroValue5
  t9:=Tryz.underlying9
  a9:=Tryz.isAgg9
  z9:=Tryz.sizeOf9
  v9:=Tryz.zeroValue9
  t28:=Tryz.underlying89
  a28:=Tryz.isAgg89
  z28:=Tryz.sizeOf89
  v28:=Tryz.zeroValue89
  t46:=Tryz.underlying199
  a46:=Tryz.isAgg199
  z46:=Tryz.sizeOf199
  v46:=Tryz.zeroValue199
  t51:=Tryz.underlying238
  a51:=Tryz.isAgg238
  z51:=Tryz.sizeOf238
  v51:=Tryz.zeroValue238
  t53:=Tryz.underlying76
  a53:=Tryz.isAgg76
  z53:=Tryz.sizeOf76
  v53:=Tryz.zeroValue76
  t131:=Tryz.underlying179
  a131:=Tryz.isAgg179
  z131:=Tryz.sizeOf179
  v131:=Tryz.zeroValue179
  t182:=Tryz.underlying264
  a182:=Tryz.isAgg264
  z182:=Tryz.sizeOf264
  v182:=Tryz.zeroValue264
  t183:=Tryz.underlying265
  a183:=Tryz.isAgg265
  z183:=Tryz.sizeOf265
  v183:=Tryz.zeroValue265
  t218:=Tryz.underlying282
  a218:=Tryz.isAgg282
  z218:=Tryz.sizeOf282
  v218:=Tryz.zeroValue282
  t222:=Tryz.underlying183
  a222:=Tryz.isAgg183
  z222:=Tryz.sizeOf183
  v222:=Tryz.zeroValue183
  t228:=Tryz.underlying299
  a228:=Tryz.isAgg299
  z228:=Tryz.sizeOf299
  v228:=Tryz.zeroValue299
  t229:=Tryz.underlying79
  a229:=Tryz.isAgg79
  z229:=Tryz.sizeOf79
  v229:=Tryz.zeroValue79 }
def sortL (l:List Int):List Int:=l.mergeSort fun x y=>decide (x≤y)
@[simp] theorem sortL_len (l:List Int):(sortL l).length=l.length:=List.length_mergeSort _
theorem sortL_perm (l:List Int):(sortL l).Perm l:=List.mergeSort_perm _ _
theorem sortL_sorted (l:List Int):(sortL l).Pairwise (·≤·):=by
 have:=List.pairwise_mergeSort (le:=fun x y:Int=>decide (x≤y)) (fun a b c h1 h2=>by simp at *;omega) (fun a b=>by simp;omega) l
 simpa [sortL] using this
def sortC (avs:List AV) (M:Nat→AO) (_nid:Nat):Option (AV×List (Nat×AO)) :=
 match avs with
 | [.sl b m s o n]=>match M b with
  | .vec m' s' f xs=>match unI xs with
   | some l=>if m=m'∧s=1∧s'=1∧o=0∧n=l.length∧n<4611686018427387904 then some (.tup [],[(b,.vec m 1 f (irows (sortL l)))]) else none
   | none=>none
  | _=>none
 | [.v (.slice none 0 0)]=>some (.tup [],[])
 | _=>none
theorem sortI_ok:CallOK Tryz.prog 183 sortC:=by
 intro avs M nid av u hc w0 bl E w args hr hM hI _
 have hone:∀ {a:AV},RepL E w [a] args.toList→∃ x,args=#[x]∧Rep E w a x:=fun {a} hr=>by
  cases hargs:args.toList with
  | nil=>rw [hargs] at hr;simp [RepL] at hr
  | cons x r =>
   rw [hargs] at hr
   simp only [RepL] at hr
   cases r with
   | nil=>exact ⟨x,by rw [← Array.toArray_toList (xs:=args),hargs],hr.1⟩
   | cons y r=>simp [RepL] at hr
 have htup:∀ (E':Env) (w':World),Rep E' w' (.tup []) (.tuple #[]):=fun E' w'=>by simp only [Rep];exact ⟨[],rfl,by simp [RepL]⟩
 unfold sortC at hc
 split at hc
 case h_3=>simp at hc
 case h_2 =>
  simp only [Option.some.injEq,Prod.mk.injEq] at hc
  obtain ⟨rfl,rfl⟩:=hc
  obtain ⟨x,rfl,hx⟩:=hone hr
  simp only [Rep,CRep] at hx
  subst hx
  have:=Any.slices_Sort_int_none lay189 none 0 w
  refine Calls.mono (this:Calls Tryz.prog 183 _ _ _) fun e w' ⟨he,hw⟩=>?_
  subst hw
  exact ⟨_,E,he,StepTo.refl hI rfl rfl rfl,htup _ _⟩
 case h_1 b m s o n =>
  split at hc
  case h_2=>simp at hc
  rename_i m' s' f xs hMb
  split at hc
  case h_2=>simp at hc
  rename_i l hl
  split at hc
  case isFalse=>simp at hc
  rename_i hcond
  obtain ⟨rfl,rfl,rfl,rfl,rfl,hlt⟩:=hcond
  simp only [Option.some.injEq,Prod.mk.injEq] at hc
  obtain ⟨rfl,rfl⟩:=hc
  obtain ⟨x,rfl,hx⟩:=hone hr
  simp only [Rep] at hx
  obtain ⟨hal,h1,h2,p,c,rfl,hnc,hpn,hsl⟩:=hx
  have hxs:=unI_eq hl
  subst hxs
  have ho:=hM b hal
  rw [hMb] at ho
  by_cases hl0:l=[]
  ·subst hl0
   have:=Any.slices_Sort_int_none lay189 p c w
   refine Calls.mono (this:Calls Tryz.prog 183 _ _ _) fun e w' ⟨he,hw⟩=>?_
   subst hw
   exact ⟨_,E,he,StepTo.retell hI hal (by simpa [sortL] using ho),htup _ _⟩
  ·have hpos:0<l.length:=by
    rcases Nat.eq_zero_or_pos l.length with e|e
    ·exact absurd (List.eq_nil_of_length_eq_zero e) hl0
    ·exact e
   simp only [ObjRep] at ho
   obtain ⟨hv,hm1,ho⟩:=ho
   cases hlc:E.loc b with
   | none =>
    simp only [hlc] at ho
    exact absurd (by simpa [irows] using ho) hl0
   | some L =>
    obtain ⟨blk,base,sz⟩:=L
    simp only [hlc] at ho
    obtain ⟨ca,t,hheap,hszc,honec,hfit,hff,hrows⟩:=ho
    have hs2:=hsl hv.symm
    simp only [hlc,SlAt] at hs2
    obtain ⟨a,rfl,ha,hcs⟩:=hs2
    have ha:=ha.resolve_left (by omega)
    simp only [Nat.zero_mul,Nat.add_zero] at ha
    subst ha
    have hblk:blk<w.heap.size:=(Array.getElem?_eq_some_iff.1 hheap).1
    have hcell:∀ j,j<l.length→w.cell? ⟨blk,base+j,none⟩=some (.int .i64 l[j]!):=fun j hj=>by
     have h3:=hrows.get (i:=j) (e:=[I l[j]]) (by simp [irows,hj])
     obtain ⟨x,h4,_,h5⟩:=h3.2.get (j:=0) (a:=I l[j]) rfl
     simp only [CRep] at h5
     subst h5
     simp only [Nat.mul_one,Nat.add_zero] at h4
     rw [h4,getElem!_pos l j hj]
    have hfz:∀ j,w.frozen? ⟨blk,base+j,none⟩=false:=fun j=>by
     unfold World.frozen?
     rw [hheap]
     simp
    have hH:Holds (Value.int .i64) w blk base l.toArray:=fun j hj=>⟨by
     rw [hcell j (by simpa using hj)]
     simp,hfz j⟩
    have:=Any.slices_Sort_int lay189 blk base c l w hH hblk hlt
    refine Calls.mono (this:Calls Tryz.prog 183 _ _ _) fun e w' ⟨he,n,os,hw⟩=>?_
    have hH2:Holds (Value.int .i64) w' blk base (sortL l).toArray:=by
     rw [hw]
     refine holds_grow _ _ _ _ _ _ (by simpa [ahead] using hblk) ?_
     exact holds_putRow _ _ _ _ l.toArray _ (fun j hj=>hH j hj) (by simp)
    have hsize:w.heap.size≤w'.heap.size:=by rw [hw];simp [ahead]
    have hother:∀ k,k<w.heap.size→k≠blk→w'.heap[k]?=w.heap[k]?:=fun k hk hne=>by
     rw [hw,heap_grow_old _ _ (by simpa [ahead] using hk)]
     simp only [putRow,mapBlock,Array.getElem?_modify]
     rw [if_neg (fun e=>hne e.symm)]
     rfl
    have hown:w'.heap[blk]?=some (.cells (putCells (Value.int .i64) base (sortL l).toArray ca) t (0,0)):=by
     rw [hw,heap_grow_old _ _ (by simpa [ahead] using hblk)]
     simp only [putRow,mapBlock,Array.getElem?_modify,if_true]
     have e:∀ n,(Sort.ahead w n).heap=w.heap:=fun n=>rfl
     rw [e,hheap]
     rfl
    refine ⟨_,E.upd b m (some (blk,base,sz)),he,?_,htup _ _⟩
    refine StepTo.one hI b _ m _ (fun _=>.inl ⟨hv.symm,hlc.symm⟩) (fun blk' base' sz' e=>?_) hsize (by rw [hw];rfl) (by rw [hw];rfl) (fun k hk hn=>hother k hk fun e=>?_) ?_
    ·simp only [Option.some.injEq,Prod.mk.injEq] at e
     exact .inl ⟨base,sz,hal,by rw [hlc,e.1]⟩
    ·subst e;exact hn base sz hal hlc
    ·simp only [ObjRep,Env.upd,if_true]
     refine ⟨trivial,hm1,_,t,hown,by simpa [putCells] using hszc,fun y hy=>?_,by simpa using hfit,fun hf=>by simpa using hff hf,CRows.of_get fun i e hi=>?_⟩
     ·rw [Array.mem_toList_iff] at hy
      obtain ⟨k,hk,rfl⟩:=Array.mem_iff_getElem.1 hy
      simp only [putCells,Array.getElem_mapIdx]
      split
      ·rfl
      ·exact honec _ (by rw [Array.mem_toList_iff];exact Array.getElem_mem _)
     ·have hil:i<(sortL l).length:=by
       have:=(List.getElem?_eq_some_iff.1 hi).1
       simpa using this
      simp only [irows,List.getElem?_map,List.getElem?_eq_getElem hil,Option.map_some,Option.some.injEq] at hi
      subst hi
      refine ⟨rfl,?_⟩
      simp only [CCells,Nat.mul_one]
      refine ⟨⟨_,(hH2 i (by simpa using hil)).1,rfl,?_⟩,trivial⟩
      simp only [CRep]
      simp only [List.getElem!_toArray]
      rw [getElem!_pos (sortL l) i hil]
theorem sortI_keys {avs:List AV} {M:Nat→AO} {nid:Nat} {r:AV×List (Nat×AO)} (h:sortC avs M nid=some r):∀ b∈r.2.map (·.1),(nid≤b∧b<nid+16)∨M b≠.dead:=by
 unfold sortC at h
 split at h
 case h_3=>simp at h
 case h_2=>simp only [Option.some.injEq] at h;subst h;simp
 split at h
 case h_2=>simp at h
 rename_i hMb
 split at h
 case h_2=>simp at h
 split at h
 case isFalse=>simp at h
 simp only [Option.some.injEq] at h
 subst h
 intro b hb
 simp at hb
 subst hb
 exact .inr (by rw [hMb];simp)
end Go.AM
