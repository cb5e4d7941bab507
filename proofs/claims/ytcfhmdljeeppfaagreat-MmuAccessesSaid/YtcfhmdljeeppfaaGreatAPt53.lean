/- A part of the proof: what functions of the program compute, by abstract execution of their code. Its theorems hold without further condition. -/
import Derived.Shelf.Sort.Plain
import Derived.Shelf.Slices.In.SortNone
import Derived.Test.YtcfhmdljeeppfaaGreatAPt39
set_option linter.all false
namespace Go.AM
open Go Go.Proofs Go.Sort
def sortIRen:Go.Shelf.Ren :=
 {f:=fun x=>match x with
   | 189=>183
   | 125=>213
   | 257=>212
   | 128=>236
   | 129=>237
   | 294=>227
   | 295=>228
   | 296=>229
   | 297=>230
   | 298=>231
   | 299=>232
   | 216=>233
   | 300=>234
   | 301=>235
   | 328=>246
   | 329=>247
   | 330=>248
   | 331=>249
   | 332=>250
   | 215=>244
   | 343=>270
   | n=>n
  t:=fun x=>match x with
   | 28=>89
   | 3=>3
   | 46=>199
   | 0=>0
   | 51=>238
   | 53=>76
   | 4=>4
   | 183=>265
   | 182=>264
   | 131=>179
   | 5=>5
   | 9=>9
   | 218=>282
   | 222=>183
   | 228=>299
   | 229=>79
   | n=>n
  g:=fun n=>n }
theorem lay189:Go.Proofs.Lays.n189 Tryz.prog sortIRen :=
 {mixed:=mixed
  f125:=Tryz.func213.trans (congrArg some (by kernel_rfl))
  f128:=Tryz.func236.trans (congrArg some (by kernel_rfl))
  f129:=Tryz.func237.trans (congrArg some (by kernel_rfl))
  f189:=Tryz.func183.trans (congrArg some (by kernel_rfl))
  f215:=Tryz.func244.trans (congrArg some (by kernel_rfl))
  f216:=Tryz.func233.trans (congrArg some (by kernel_rfl))
  f257:=Tryz.func212.trans (congrArg some (by kernel_rfl))
  f294:=Tryz.func227.trans (congrArg some (by kernel_rfl))
  f295:=Tryz.func228.trans (congrArg some (by kernel_rfl))
  f296:=Tryz.func229.trans (congrArg some (by kernel_rfl))
  f297:=Tryz.func230.trans (congrArg some (by kernel_rfl))
  f298:=Tryz.func231.trans (congrArg some (by kernel_rfl))
  f299:=Tryz.func232.trans (congrArg some (by kernel_rfl))
  f300:=Tryz.func234.trans (congrArg some (by kernel_rfl))
  f301:=Tryz.func235.trans (congrArg some (by kernel_rfl))
  f328:=Tryz.func246.trans (congrArg some (by kernel_rfl))
  f329:=Tryz.func247.trans (congrArg some (by kernel_rfl))
  f330:=Tryz.func248.trans (congrArg some (by kernel_rfl))
  f331:=Tryz.func249.trans (congrArg some (by kernel_rfl))
  f332:=Tryz.func250.trans (congrArg some (by kernel_rfl))
  f343:=Tryz.func270.trans (congrArg some (by kernel_rfl))
  t0:=Tryz.underlying0
  a0:=Tryz.isAgg0
  z0:=Tryz.sizeOf0
  v0:=Tryz.zeroValue0
  t3:=Tryz.underlying3
  a3:=Tryz.isAgg3
  z3:=Tryz.sizeOf3
  v3:=Tryz.zeroValue3
  t4:=Tryz.underlying4
  a4:=Tryz.isAgg4
  z4:=Tryz.sizeOf4
  v4:=Tryz.zeroValue4
  t5:=Tryz.underlying5
  a5:=Tryz.isAgg5
  z5:=Tryz.sizeOf5
  v5:=Tryz.zeroValue5
  t9:=Tryz.underlying9
  a9:=Tryz.isAgg9
  z9:=Tryz.sizeOf9
  v9:=Tryz.zeroValue9
  t28:=Tryz.underlying89
  a28:=Tryz.isAgg89
  z28:=Tryz.sizeOf89
  v28:=Tryz.zeroValue89
  t46:=Tryz.underlying199
  a46:=Tryz.isAgg199
  z46:=Tryz.sizeOf199
  v46:=Tryz.zeroValue199
  t51:=Tryz.underlying238
  a51:=Tryz.isAgg238
  z51:=Tryz.sizeOf238
  v51:=Tryz.zeroValue238
  t53:=Tryz.underlying76
  a53:=Tryz.isAgg76
  z53:=Tryz.sizeOf76
  v53:=Tryz.zeroValue76
  t131:=Tryz.underlying179
  a131:=Tryz.isAgg179
  z131:=Tryz.sizeOf179
  v131:=Tryz.zeroValue179
  t182:=Tryz.underlying264
  a182:=Tryz.isAgg264
  z182:=Tryz.sizeOf264
  v182:=Tryz.zeroValue264
  t183:=Tryz.underlying265
  a183:=Tryz.isAgg265
  z183:=Tryz.sizeOf265
  v183:=Tryz.zeroValue265
  t218:=Tryz.underlying282
  a218:=Tryz.isAgg282
  z218:=Tryz.sizeOf282
  v218:=Tryz.zeroValue282
  t222:=Tryz.underlying183
  a222:=Tryz.isAgg183
  z222:=Tryz.sizeOf183
  v222:=Tryz.zeroValue183
  t228:=Tryz.underlying299
  a228:=Tryz.isAgg299
  z228:=Tryz.sizeOf299
  v228:=Tryz.zeroValue299
  t229:=Tryz.underlying79
  a229:=Tryz.isAgg79
  z229:=Tryz.sizeOf79
  v229:=Tryz.zeroValue79 }
def sortL (l:List Int):List Int:=l.mergeSort fun x y=>decide (x≤y)
@[simp] theorem sortL_len (l:List Int):(sortL l).length=l.length:=List.length_mergeSort _
theorem sortL_perm (l:List Int):(sortL l).Perm l:=List.mergeSort_perm _ _
theorem sortL_sorted (l:List Int):(sortL l).Pairwise (·≤·):=by
 have:=List.pairwise_mergeSort (le:=fun x y:Int=>decide (x≤y)) (fun a b c h1 h2=>by simp at *;omega) (fun a b=>by simp;omega) l
 simpa [sortL] using this
def sortC (avs:List AV) (M:Nat→AO) (_nid:Nat):Option (AV×List (Nat×AO)) :=
 match avs with
 | [.sl b m s o n]=>match M b with
  | .vec m' s' f xs=>match unI xs with
   | some l=>if m=m'∧s=1∧s'=1∧o=0∧n=l.length∧n<4611686018427387904 then some (.tup [],[(b,.vec m 1 f (irows (sortL l)))]) else none
   | none=>none
  | _=>none
 | [.v (.slice none 0 0)]=>some (.tup [],[])
 | _=>none
theorem sortI_ok:CallOK Tryz.prog 183 sortC:=by
 intro avs M nid av u hc w0 bl E w args hr hM hI _
 have hone:∀ {a:AV},RepL E w [a] args.toList→∃ x,args=#[x]∧Rep E w a x:=fun {a} hr=>by
  cases hargs:args.toList with
  | nil=>rw [hargs] at hr;simp [RepL] at hr
  | cons x r =>
   rw [hargs] at hr
   simp only [RepL] at hr
   cases r with
   | nil=>exact ⟨x,by rw [← Array.toArray_toList (xs:=args),hargs],hr.1⟩
   | cons y r=>simp [RepL] at hr
 have htup:∀ (E':Env) (w':World),Rep E' w' (.tup []) (.tuple #[]):=fun E' w'=>by simp only [Rep];exact ⟨[],rfl,by simp [RepL]⟩
 unfold sortC at hc
 split at hc
 case h_3=>simp at hc
 case h_2 =>
  simp only [Option.some.injEq,Prod.mk.injEq] at hc
  obtain ⟨rfl,rfl⟩:=hc
  obtain ⟨x,rfl,hx⟩:=hone hr
  simp only [Rep,CRep] at hx
  subst hx
  have:=Any.slices_Sort_int_none lay189 none 0 w
  refine Calls.mono (this:Calls Tryz.prog 183 _ _ _) fun e w' ⟨he,hw⟩=>?_
  subst hw
  exact ⟨_,E,he,StepTo.refl hI rfl rfl rfl,htup _ _⟩
 case h_1 b m s o n =>
  split at hc
  case h_2=>simp at hc
  rename_i m' s' f xs hMb
  split at hc
  case h_2=>simp at hc
  rename_i l hl
  split at hc
  case isFalse=>simp at hc
  rename_i hcond
  obtain ⟨rfl,rfl,rfl,rfl,rfl,hlt⟩:=hcond
  simp only [Option.some.injEq,Prod.mk.injEq] at hc
  obtain ⟨rfl,rfl⟩:=hc
  obtain ⟨x,rfl,hx⟩:=hone hr
  simp only [Rep] at hx
  obtain ⟨hal,h1,h2,p,c,rfl,hnc,hpn,hsl⟩:=hx
  have hxs:=unI_eq hl
  subst hxs
  have ho:=hM b hal
  rw [hMb] at ho
  by_cases hl0:l=[]
  ·subst hl0
   have:=Any.slices_Sort_int_none lay189 p c w
   refine Calls.mono (this:Calls Tryz.prog 183 _ _ _) fun e w' ⟨he,hw⟩=>?_
   subst hw
   exact ⟨_,E,he,StepTo.retell hI hal (by simpa [sortL] using ho),htup _ _⟩
  ·have hpos:0<l.length:=by
    rcases Nat.eq_zero_or_pos l.length with e|e
    ·exact absurd (List.eq_nil_of_length_eq_zero e) hl0
    ·exact e
   simp only [ObjRep] at ho
   obtain ⟨hv,hm1,ho⟩:=ho
   cases hlc:E.loc b with
   | none =>
    simp only [hlc] at ho
    exact absurd (by simpa [irows] using ho) hl0
   | some L =>
    obtain ⟨blk,base,sz⟩:=L
    simp only [hlc] at ho
    obtain ⟨ca,t,hheap,hszc,honec,hfit,hff,hrows⟩:=ho
    have hs2:=hsl hv.symm
    simp only [hlc,SlAt] at hs2
    obtain ⟨a,rfl,ha,hcs⟩:=hs2
    have ha:=ha.resolve_left (by omega)
    simp only [Nat.zero_mul,Nat.add_zero] at ha
    subst ha
    have hblk:blk<w.heap.size:=(Array.getElem?_eq_some_iff.1 hheap).1
    have hcell:∀ j,j<l.length→w.cell? ⟨blk,base+j,none⟩=some (.int .i64 l[j]!):=fun j hj=>by
     have h3:=hrows.get (i:=j) (e:=[I l[j]]) (by simp [irows,hj])
     obtain ⟨x,h4,_,h5⟩:=h3.2.get (j:=0) (a:=I l[j]) rfl
     simp only [CRep] at h5
     subst h5
     simp only [Nat.mul_one,Nat.add_zero] at h4
     rw [h4,getElem!_pos l j hj]
    have hfz:∀ j,w.frozen? ⟨blk,base+j,none⟩=false:=fun j=>by
     unfold World.frozen?
     rw [hheap]
     simp
    have hH:Holds (Value.int .i64) w blk base l.toArray:=fun j hj=>⟨by
     rw [hcell j (by simpa using hj)]
     simp,hfz j⟩
    have:=Any.slices_Sort_int lay189 blk base c l w hH hblk hlt
    refine Calls.mono (this:Calls Tryz.prog 183 _ _ _) fun e w' ⟨he,n,os,hw⟩=>?_
    have hH2:Holds (Value.int .i64) w' blk base (sortL l).toArray:=by
     rw [hw]
     refine holds_grow _ _ _ _ _ _ (by simpa [ahead] using hblk) ?_
     exact holds_putRow _ _ _ _ l.toArray _ (fun j hj=>hH j hj) (by simp)
    have hsize:w.heap.size≤w'.heap.size:=by rw [hw];simp [ahead]
    have hother:∀ k,k<w.heap.size→k≠blk→w'.heap[k]?=w.heap[k]?:=fun k hk hne=>by
     rw [hw,heap_grow_old _ _ (by simpa [ahead] using hk)]
     simp only [putRow,mapBlock,Array.getElem?_modify]
     rw [if_neg (fun e=>hne e.symm)]
     rfl
    have hown:w'.heap[blk]?=some (.cells (putCells (Value.int .i64) base (sortL l).toArray ca) t (0,0)):=by
     rw [hw,heap_grow_old _ _ (by simpa [ahead] using hblk)]
     simp only [putRow,mapBlock,Array.getElem?_modify,if_true]
     have e:∀ n,(Sort.ahead w n).heap=w.heap:=fun n=>rfl
     rw [e,hheap]
     rfl
    refine ⟨_,E.upd b m (some (blk,base,sz)),he,?_,htup _ _⟩
    refine StepTo.one hI b _ m _ (fun _=>.inl ⟨hv.symm,hlc.symm⟩) (fun blk' base' sz' e=>?_) hsize (by rw [hw];rfl) (by rw [hw];rfl) (fun k hk hn=>hother k hk fun e=>?_) ?_
    ·simp only [Option.some.injEq,Prod.mk.injEq] at e
     exact .inl ⟨base,sz,hal,by rw [hlc,e.1]⟩
    ·subst e;exact hn base sz hal hlc
    ·simp only [ObjRep,Env.upd,if_true]
     refine ⟨trivial,hm1,_,t,hown,by simpa [putCells] using hszc,fun y hy=>?_,by simpa using hfit,fun hf=>by simpa using hff hf,CRows.of_get fun i e hi=>?_⟩
     ·rw [Array.mem_toList_iff] at hy
      obtain ⟨k,hk,rfl⟩:=Array.mem_iff_getElem.1 hy
      simp only [putCells,Array.getElem_mapIdx]
      split
      ·rfl
      ·exact honec _ (by rw [Array.mem_toList_iff];exact Array.getElem_mem _)
     ·have hil:i<(sortL l).length:=by
       have:=(List.getElem?_eq_some_iff.1 hi).1
       simpa using this
      simp only [irows,List.getElem?_map,List.getElem?_eq_getElem hil,Option.map_some,Option.some.injEq] at hi
      subst hi
      refine ⟨rfl,?_⟩
      simp only [CCells,Nat.mul_one]
      refine ⟨⟨_,(hH2 i (by simpa using hil)).1,rfl,?_⟩,trivial⟩
      simp only [CRep]
      simp only [List.getElem!_toArray]
      rw [getElem!_pos (sortL l) i hil]
theorem sortI_keys {avs:List AV} {M:Nat→AO} {nid:Nat} {r:AV×List (Nat×AO)} (h:sortC avs M nid=some r):∀ b∈r.2.map (·.1),(nid≤b∧b<nid+16)∨M b≠.dead:=by
 unfold sortC at h
 split at h
 case h_3=>simp at h
 case h_2=>simp only [Option.some.injEq] at h;subst h;simp
 split at h
 case h_2=>simp at h
 rename_i hMb
 split at h
 case h_2=>simp at h
 split at h
 case isFalse=>simp at h
 simp only [Option.some.injEq] at h
 subst h
 intro b hb
 simp at hb
 subst hb
 exact .inr (by rw [hMb];simp)
end Go.AM
namespace Go.AM
open Go Go.Proofs
theorem list_ext_gi {a b:List Int} (hl:a.length=b.length) (h:∀ j,j<a.length→gi a j=gi b j):a=b:=by
 refine List.ext_getElem hl fun i h1 h2=>?_
 have:=h i h1
 rw [gi_eq h1,gi_eq h2] at this
 exact this
set_option maxHeartbeats 2000000 in
theorem s46 (X:AX) (hX:XOK Tryz.prog X) (hw:X.W wT):PSound Tryz.prog 46 (specF (ι:={x:List Int×List Int // x.1.length≤1000000∧x.2.length≤1000000}) (fun x=>[.rd 1 (irows x.1.1),.rd 1 (irows x.1.2)]) fun x=>retOf [B (decide (x.1.1=x.1.2))]):=by
 refine psound_spec hX mixed Tryz.func46 rfl fun ⟨⟨l,m⟩,hl,hm⟩ w0 G=>⟨by show 2≤26;decide,rfl,?_⟩
 show AW ⟨Tryz.prog,X,26,w0,.pure G⟩ _ _ _
 have hc:Cx.OK ⟨Tryz.prog,X,26,w0,.pure G⟩:=⟨hX,mixed⟩
 simp only at hl hm ⊢
 rcases Decidable.em (l.length=m.length) with h1|h1
 ·have h1I:(l.length:Int)=(m.length:Int):=by omega
  have zS:=h1
  repeat' (first|(apply aw_seq_k;intro K hK)|(refine eM64 ?_)|(refine aw_cond (b:=_) (by exact rfl) (fun h=>?_) (fun h=>?_)<;>(try simp at h))|(refine eB ?_)|(refine hK _ ?_;clear hK)|(clear hK;refine hK _ ?_;clear hK)|(clear hK;clear hK;refine hK _ ?_;clear hK)|(clear hK;clear hK;clear hK;refine hK _ ?_;clear hK))
  all_goals clear zS
  refine aw_loopK (s0:=?lps1) (m0:=?lpm1) (ι:={i:Nat // i≤m.length∧∀ j,j<i→gi l j=gi m j}) [0,1,12] (fun s=>[(13,I s.1)]) (fun _=>[]) (fun s=>m.length - s.1) ⟨0,by omega,by omega⟩ ?lhs1 ?lhm1 ?_ ?_
  case lhs1=>first|(simp [keepS];done)|(simp [keepS];rfl)
  case lhm1=>first|rfl|(simp;done)|(simp;rfl)
  ·exact dle
  ·rintro ⟨i,hi,hinv⟩
   simp only
   rcases Decidable.em (i<m.length) with hil|hil
   ·have hilI:(i:Int)<(m.length:Int):=by omega
    have hil2:i<l.length:=by omega
    have hil2I:(i:Int)<(l.length:Int):=by omega
    have hg:=irows_gi hil2
    have hgE:=irows_gE hil2
    have hg':=irows_gi hil
    have hgE':=irows_gE hil
    have hdf:gi l i≠gi m i→¬ l=m:=fun h e=>h (by rw [e])
    obtain ⟨a,ha⟩:∃ a,a=gi l i:=⟨_,rfl⟩
    obtain ⟨b,hb⟩:∃ b,b=gi m i:=⟨_,rfl⟩
    rw [← ha,← hb] at hdf
    rw [← ha] at hg hgE
    rw [← hb] at hg' hgE'
    rcases Decidable.em (a=b) with e1|e1
    ·subst e1
     have zS:=jj hilI<|jj hil<|jj hil2<|jj hil2I<|jj hg<|jj hgE<|jj hg'<|jj hgE'<|h1
     repeat' (first|(apply aw_seq_k;intro K hK)|(refine eM64 ?_)|(refine aw_cond (b:=_) (by exact rfl) (fun h=>?_) (fun h=>?_)<;>(try simp at h))|(refine eB ?_)|(refine hK _ ?_;clear hK)|(clear hK;refine hK _ ?_;clear hK)|(clear hK;clear hK;refine hK _ ?_;clear hK)|(clear hK;clear hK;clear hK;refine hK _ ?_;clear hK))
     all_goals clear zS
     refine ⟨i+1,?_,⟨by omega,fun j hj=>?_⟩,by omega⟩
     ·exact dle
     ·rcases Nat.lt_succ_iff_lt_or_eq.1 hj with h5|rfl
      ·exact hinv j h5
      ·rw [← ha,← hb]
    ·have e:=hdf e1
     have e1':¬ b=a:=fun h=>e1 h.symm
     have zS:=jj hilI<|jj hil<|jj hil2<|jj hil2I<|jj hg<|jj hgE<|jj hg'<|jj hgE'<|jj h1<|jj e1<|e1'
     repeat' (first|(apply aw_seq_k;intro K hK)|(refine eM64 ?_)|(refine aw_cond (b:=_) (by exact rfl) (fun h=>?_) (fun h=>?_)<;>(try simp at h))|(refine eB ?_)|(refine hK _ ?_;clear hK)|(clear hK;refine hK _ ?_;clear hK)|(clear hK;clear hK;refine hK _ ?_;clear hK)|(clear hK;clear hK;clear hK;refine hK _ ?_;clear hK))
     all_goals clear zS
     refine ⟨by simp,?_⟩
     simp [leaves_iff,Tryz.f46,e]
     try exact dt
   ·obtain rfl:i=m.length:=by omega
    have e:l=m:=list_ext_gi h1 fun j hj=>hinv j (by omega)
    have zS:=h1
    repeat' (first|(apply aw_seq_k;intro K hK)|(refine eM64 ?_)|(refine aw_cond (b:=_) (by exact rfl) (fun h=>?_) (fun h=>?_)<;>(try simp at h))|(refine eB ?_)|(refine hK _ ?_;clear hK)|(clear hK;refine hK _ ?_;clear hK)|(clear hK;clear hK;refine hK _ ?_;clear hK)|(clear hK;clear hK;clear hK;refine hK _ ?_;clear hK))
    all_goals clear zS
    refine ⟨by simp,?_⟩
    simp [leaves_iff,Tryz.f46,e]
    try exact dt
 ·have h1I:¬ (l.length:Int)=(m.length:Int):=by omega
  have e:¬ l=m:=fun e=>h1 (by rw [e])
  have zS:=jj h1<|h1I
  refine dM64 ?_
  repeat (intro K hK)
  clear zS
  all_goals refine ⟨by simp,?_⟩
  all_goals simp [leaves_iff,Tryz.f46,e]
  all_goals try exact dt
abbrev Pe:=Int×Nat
def erow (x:Pe):List AV:=[I x.1,U x.2]
def erows (l:List Pe):List (List AV):=l.map erow
@[simp] theorem erows_length (l:List Pe):(erows l).length=l.length:=by simp [erows]
@[simp] theorem tyPE:Types Tryz.prog 86=some ⟨.struct [(0,3,1),(1,76,1)],2,16,[.int .i64 0,.int .u64 0]⟩:=by kernel_rfl
@[simp] theorem tyPEs:Types Tryz.prog 84=some ⟨.slice 86,1,24,[.slice none 0 0]⟩:=by kernel_rfl
noncomputable def siS:List AV→List AO→Option (AV×List AO):=specG (ι:={l:List Int // l.length≤2000000}) (fun l=>[.sl 0 1 1 0 l.1.length]) (fun l=>[.vec 1 1 false (irows l.1)]) (fun _=>.tup []) fun l=>[.vec 1 1 false (irows (sortL l.1))]
theorem siS_at {l:List Int} (h:l.length≤2000000):siS [.sl 0 1 1 0 l.length] [.vec 1 1 false (irows l)]=some (.tup [],[.vec 1 1 false (irows (sortL l))]):=by
 refine specG_eq (ι:={l:List Int // l.length≤2000000}) (A:=fun l=>[.sl 0 1 1 0 l.1.length]) (M:=fun l=>[.vec 1 1 false (irows l.1)]) (R:=fun _=>.tup []) (O:=fun l=>[.vec 1 1 false (irows (sortL l.1))]) ⟨l,h⟩ fun j hA hM=>?_
 simp only [List.cons.injEq,AO.vec.injEq,true_and,irows_inj,and_true] at hM
 rw [hM]
 exact ⟨rfl,rfl⟩
theorem unI_ir:∀ l:List Int,unI (irows l)=some l
 | []=>rfl
 | x::l=>by
  show (match unI (irows l) with|some r=>some (x::r)|none=>none)=_
  rw [unI_ir l]
theorem s125 (X:AX) (hX:XOK Tryz.prog X) (hw:X.W wT) (hs:X.call 183=sortC):GSound Tryz.prog 125 siS:=by
 unfold siS
 refine gsound_spec Tryz.func125 rfl X fun ⟨l,hl⟩ w0 L E=>⟨by show 1≤4;decide,?_⟩
 show AW ⟨Tryz.prog,X,4,w0,⟨L,E,1⟩⟩ _ _ _
 have hc:Cx.OK ⟨Tryz.prog,X,4,w0,⟨L,E,1⟩⟩:=⟨hX,mixed⟩
 have hl':l.length<4611686018427387904:=by omega
 have hu:=unI_ir l
 repeat' (first|(apply aw_seq_k;intro K hK)|(refine aw_run hc (by first|exact aw_nod|(intro _;rw [ordB_w hw];kernel_rfl)|(intro _;rw [ordB_w0 hw0];kernel_rfl)|(intro _;kernel_rfl)) ?_;simp [List.zipIdx,enterS,idx,hs,sortC,hu,hl',-getM,getM_hit,getM_miss,getM_none];(repeat (simp (disch:=first|omega|assumption|fail) only [if_pos,if_neg,wrap64];try simp [List.zipIdx,enterS,idx,hs,sortC,hu,hl',-getM,getM_hit,getM_miss,getM_none]));try (repeat' (refine guardQ_split (fun h=>?_) (fun h=>?_)<;>simp at h<;>(simp [List.zipIdx,enterS,idx,hs,sortC,hu,hl',-getM,getM_hit,getM_miss,getM_none];(repeat (simp (disch:=first|omega|assumption|fail) only [if_pos,if_neg,wrap64];try simp [List.zipIdx,enterS,idx,hs,sortC,hu,hl',-getM,getM_hit,getM_miss,getM_none]))))))|(refine aw_cond (b:=_) (by exact rfl) (fun h=>?_) (fun h=>?_)<;>(try simp at h))|(refine aw_block ?_)|(refine aw_skip ?_;simp only [thenQ,blockQ,if_true])|(refine aw_exit ?_;simp [thenQ,blockQ])|(refine aw_ret ?_;simp only [thenQ,blockQ])|(refine aw_round ?_)|(refine hK _ ?_;clear hK)|(clear hK;refine hK _ ?_;clear hK)|(clear hK;clear hK;refine hK _ ?_;clear hK)|(clear hK;clear hK;clear hK;refine hK _ ?_;clear hK))
 refine ⟨[],rfl,?_⟩
 simp only [idx]
 exact dle
end Go.AM
namespace Go.AM
open Go Go.Proofs
theorem sorted_perm {a b:List Int} (ha:a.Pairwise (·≤·)) (hb:b.Pairwise (·≤·)) (h:a.Perm b):a=b :=
 List.Perm.eq_of_pairwise (le:=fun a b:Int=>a≤b) (fun a b _ _ h1 h2=>Int.le_antisymm h1 h2) ha hb h
theorem irows_ap (a:List Int) (x:Int):irows a++[[I x]]=irows (a++[x]):=by simp [irows]
theorem irows_tkl (a:List Int):List.take a.length (irows a)=irows a:=List.take_of_length_le (by simp)
theorem callSi {b:Nat} {l:List Int} (h:l.length≤2000000) {v:Nat} (M:Nat→AO) (nid:Nat) (h0:M b=.vec (v+1) 1 false (irows l)) :
  callG siS [.sl b (v+1) 1 0 l.length] M nid=some (.tup [],[(b,.vec (v+1) 1 false (irows (sortL l)))]):=by
 have hF:=siS_at h
 unfold callG
 have hg:gat M 64 (nmsL [.sl b (v+1) 1 0 l.length]) []=[b]:=by simp [gat,nmsL,AV.nms,AO.nms,h0]
 simp only [hg]
 rw [if_pos ?cg]
 case cg=>simp [CallG,nmsL,AV.nms,AO.nms,Led,curBL,AV.curB,AO.curB,verOf,notDead,h0]
 have e1:1+v=v+1:=by omega
 simp [renL,AV.ren,AO.ren,posN,canO,nmsL,h0,hF,RetG,getL,AV.nms,AO.nms,updN,nmN,shN,verOf,rng,Led,e1]
end Go.AM
namespace Go.AM
open Go Go.Proofs
def lsF (t:Tb) (p:Nat):List Pe:=if (lsT t p).2.2≠0∧((lsT t p).2.1=0∨p%8=0) then [((p:Int),(lsT t p).2.2)] else []
def lsA (t:Tb):Nat→List Pe
 | 0=>[]
 | n+1=>lsA t n++lsF t n
theorem lsA_le {t:Tb}:∀ {n:Nat},(lsA t n).length≤n
 | 0=>by simp [lsA]
 | n+1=>by
  have:=@lsA_le t n
  simp only [lsA,lsF,List.length_append]
  split<;>simp<;>omega
noncomputable def lstT (t:Tb):List Pe:=if chk t=0 then lsA t 512 else []
theorem erows_ap (a:List Pe) (x:Int) (w:Nat):erows a++[[I x,.v (.int .u64 w)]]=erows (a++[(x,w)]):=by simp [erows,erow,U]
theorem erows_tkl (a:List Pe):List.take a.length (erows a)=erows a:=List.take_of_length_le (by simp)
section
variable {r:Int} {ns:NdL} {ds:List Dp}
theorem lev_same (h:Pv (r,ns,ds)) {p l w:Nat} (hp:p<512) (hl:(lsT (r,ns,ds) p).2=(l,w)) (ha:p%8^l=0) {q:Nat} (hq:p≤q) (hq2:q<p+8^l):(lsT (r,ns,ds) q).2=(l,w):=by
 obtain ⟨f0,l0,w0,hw⟩:∃ f l w,wlk (Mof ns) r p=(f,l,w):=⟨_,_,_,rfl⟩
 have h1:=(h.walk hp).2.2
 simp only at h1
 rw [hw] at h1
 rw [h1] at hl
 simp only [Prod.mk.injEq] at hl
 obtain ⟨rfl,rfl⟩:=hl
 obtain ⟨a1,a2,a3,a4,a5,a6⟩:=wlk_at h.vm hp hw
 have hq5:q<512:=by
  rcases (by omega:l0=0∨l0=1∨l0=2) with rfl|rfl|rfl<;>simp at ha hq2<;>omega
 have e1:q/8^(l0+1)=p/8^(l0+1):=by
  rcases (by omega:l0=0∨l0=1∨l0=2) with rfl|rfl|rfl<;>simp at ha hq2 ⊢<;>omega
 have e2:dgt q l0=dgt p l0:=by
  unfold dgt
  rcases (by omega:l0=0∨l0=1∨l0=2) with rfl|rfl|rfl<;>simp at ha hq2 ⊢<;>omega
 have h2:=wlk_of (M:=Mof ns) (root:=r) (p:=q) hq5 a1 (by rw [e1];exact a3) (.inl (by rw [e2];simp only at a4;rw [← a4];exact a5))
 have h3:=(h.walk hq5).2.2
 simp only at h3
 rw [h3,h2,e2]
 simp only at a4
 rw [← a4]
theorem lev_next (h:Pv (r,ns,ds)) {p l w:Nat} (hp:p<512) (hl:(lsT (r,ns,ds) p).2=(l,w)) (ha:p%8^l=0) (hq:p+8^l<512):(p+8^l)%8^(lsT (r,ns,ds) (p+8^l)).2.1=0:=by
 obtain ⟨f0,l0,w0,hw⟩:∃ f l w,wlk (Mof ns) r p=(f,l,w):=⟨_,_,_,rfl⟩
 obtain ⟨f1,l1,w1,hw1⟩:∃ f k w,wlk (Mof ns) r (p+8^l)=(f,k,w):=⟨_,_,_,rfl⟩
 have h1:=(h.walk hp).2.2
 have h2:=(h.walk hq).2.2
 simp only at h1 h2
 rw [hw] at h1
 rw [hw1] at h2
 rw [h1] at hl
 simp only [Prod.mk.injEq] at hl
 obtain ⟨rfl,rfl⟩:=hl
 rw [h2]
 simp only
 obtain ⟨a1,a2,a3,a4,a5,a6⟩:=wlk_at h.vm hp hw
 obtain ⟨b1,b2,b3,b4,b5,b6⟩:=wlk_at h.vm hq hw1
 by_cases hc:(p+8^l0)%8^l1=0
 ·exact hc
 ·exfalso
  have hc2:p%8^l1≠0∨8^l0%8^l1≠0:=by
   by_cases h3:p%8^l1=0
   ·right;intro h4;exact hc (by rw [Nat.add_mod,h3,h4];simp)
   ·exact .inl h3
  have hlt:l0<l1:=by
   rcases (by omega:l0=0∨l0=1∨l0=2) with rfl|rfl|rfl<;>rcases (by omega:l1=0∨l1=1∨l1=2) with rfl|rfl|rfl<;>simp at hc ha ⊢<;>omega
  have hsame:dgt (p+8^l0) l1=dgt p l1∧(p+8^l0)/8^(l1+1)=p/8^(l1+1):=by
   unfold dgt
   rcases (by omega:l0=0∨l0=1∨l0=2) with rfl|rfl|rfl<;>rcases (by omega:l1=0∨l1=1∨l1=2) with rfl|rfl|rfl<;>simp at hc ha ⊢<;>omega
  have:=wlk_of (M:=Mof ns) (root:=r) hp b1 (by rw [← hsame.2];exact b3) (.inl (by rw [← hsame.1];simp only at b4;rw [← b4];exact b5))
  rw [hw] at this
  simp only [Prod.mk.injEq] at this
  omega
theorem lsA_step (h:Pv (r,ns,ds)) {p l w:Nat} (hp:p<512) (hl:(lsT (r,ns,ds) p).2=(l,w)) (ha:p%8^l=0):lsA (r,ns,ds) (p+8^l)=lsA (r,ns,ds) p++(if w≠0 then [((p:Int),w)] else []):=by
 obtain ⟨f0,l0,w0,hw⟩:∃ f l w,wlk (Mof ns) r p=(f,l,w):=⟨_,_,_,rfl⟩
 have h1:=(h.walk hp).2.2
 simp only at h1
 rw [hw] at h1
 have hlw:l0=l∧w0=w:=by rw [h1] at hl;simpa using hl
 obtain ⟨rfl,rfl⟩:=hlw
 obtain ⟨a1,a2,a3,a4,a5,a6⟩:=wlk_at h.vm hp hw
 have hz2:l0=2→w0=0:=fun e=>by
  subst e
  unfold okWb at a6
  simp only [Bool.and_eq_true,decide_eq_true_eq] at a6
  obtain ⟨_,a7⟩:=a6
  unfold suitB at a7
  refine (kind0 (l:=2) (w:=w0) ?_).1 ?_
  ·unfold okWb;simp only [Bool.and_eq_true,decide_eq_true_eq];exact ⟨by assumption,by unfold suitB;exact a7⟩
  ·by_cases h0:(decR w0).1.1=0
   ·exact h0
   ·rw [if_neg h0] at a7
    have h4:(decR w0).1.1≠4:=decR_tab.1 a5
    rw [if_neg h4] at a7
    simp at a7
 have hmid:∀ d,1≤d→d≤8^l0→lsA (r,ns,ds) (p+d)=lsA (r,ns,ds) p++(if w0≠0 then [((p:Int),w0)] else []):=by
  intro d hd
  induction d with
  | zero=>omega
  | succ d ih =>
   intro hd2
   rw [show p+(d+1)=p+d+1 by omega]
   simp only [lsA]
   by_cases h0:d=0
   ·subst h0
    simp only [Nat.add_zero,lsF,hl]
    by_cases hw0:w0=0
    ·simp [hw0]
    ·have:l0=0∨p%8=0:=by
      rcases (by omega:l0=0∨l0=1∨l0=2) with e|e|e
      ·exact .inl e
      ·right;rw [e] at ha;simpa using ha
      ·exact absurd (hz2 e) hw0
     rw [if_pos ⟨hw0,this⟩,if_pos hw0]
   ·rw [ih (by omega) (by omega)]
    have hs:=lev_same h hp hl ha (q:=p+d) (by omega) (by omega)
    have:lsF (r,ns,ds) (p+d)=[]:=by
     unfold lsF
     rw [hs]
     rw [if_neg]
     rintro ⟨g1,g2⟩
     rcases (by omega:l0=0∨l0=1∨l0=2) with e|e|e
     ·subst e;simp at hd2;omega
     ·subst e
      simp at ha hd2 g2
      omega
     ·exact g1 (hz2 e)
    rw [this,List.append_nil]
 have hpos:1≤8^l0:=Nat.pow_pos (by decide)
 exact hmid _ hpos (Nat.le_refl _)
end
end Go.AM
namespace Go.AM
open Go Go.Proofs
theorem lsA_0 (t:Tb):lsA t 0=[]:=rfl
attribute [local irreducible] lsA
set_option maxHeartbeats 8000000 in
theorem s44 (X:AX) (hX:XOK Tryz.prog X) (hw:X.W wT) (hch:∀ t:Tb,tbOK t→∀ M n,X.call 39 [TbV t] M n=some (I (chk t),[]))
  (hla:∀ (t:Tb) (p:Nat),ptO t p→∀ M n,X.call 110 [TbV t,I p] M n=some (stV (lsT t p),[])) :
  PSound Tryz.prog 44 (specF (ι:={x:Tb // tbOK x}) (fun x=>[TbV x.1]) fun x=>retOf [.ow 2 (erows (lstT x.1))]):=by
 refine psound_spec hX mixed Tryz.func44 rfl fun ⟨⟨r,ns,ds⟩,ht⟩ w0 G=>⟨by show 1≤36;decide,rfl,?_⟩
 show AW ⟨Tryz.prog,X,36,w0,.pure G⟩ _ _ _
 have hc:Cx.OK ⟨Tryz.prog,X,36,w0,.pure G⟩:=⟨hX,mixed⟩
 simp only at ht ⊢
 have hl1:ns.length≤1000000:=ht.2.1
 have hl2:ds.length≤1000000:=ht.2.2
 have hch':=hch _ ht
 rcases Decidable.em (chk (r,ns,ds)=0) with hc0|hc0
 ·have e:lstT (r,ns,ds)=lsA (r,ns,ds) 512:=by unfold lstT;rw [if_pos hc0]
  have hpv:=chk_pv ht hc0
  have hla':=fun p hp=>hla _ p (hpv.pto ht (p:=p) hp)
  rw [e]
  rw [hc0] at hch'
  simp only [TbV] at hch' hla' ⊢
  have h00:0%8^(lsT (r,ns,ds) 0).2.1=0:=Nat.zero_mod _
  have zS:=hch'
  repeat' (first|(apply aw_seq_k;intro K hK)|(refine eM64 ?_)|(refine aw_cond (b:=_) (by exact rfl) (fun h=>?_) (fun h=>?_)<;>(try simp at h))|(refine eB ?_)|(refine hK _ ?_;clear hK)|(clear hK;refine hK _ ?_;clear hK)|(clear hK;clear hK;refine hK _ ?_;clear hK)|(clear hK;clear hK;clear hK;refine hK _ ?_;clear hK))
  all_goals clear zS
  refine aw_weaken (le_nilslot (t:=3) (sz:=2) (by simp)) ?_
  refine aw_loopK (s0:=?lps1) (m0:=?lpm1) (ι:={p:Nat // p≤512∧(p<512→p%8^(lsT (r,ns,ds) p).2.1=0)}) [1] (fun s=>[(4,I s.1),(3,.sl 112 1 2 0 (lsA (r,ns,ds) s.1).length)]) (fun s=>[(112,.vec 1 2 false (erows (lsA (r,ns,ds) s.1)))]) (fun s=>512 - s.1) ⟨0,by omega,fun _=>h00⟩ ?lhs1 ?lhm1 ?_ ?_
  case lhs1=>first|(simp [keepS];done)|(simp [keepS];rfl)
  case lhm1=>first|rfl|(simp;done)|(simp;rfl)
  ·simp only [lsA_0]
   exact le_of2 (by simp) (by simp [AVle,AV.under,AV.underL,erows]<;>omega) (by simp [AOle,AO.under,AV.underL,AV.under,erows]<;>omega)
  ·rintro ⟨p,hp,hal⟩
   simp only
   rcases Decidable.em (p<512) with hil|hil
   ·have hilI:(p:Int)<512:=by omega
    have hal:=hal hil
    have hla2:=hla' p hil
    have hlt2:=(lsT_lt hpv hil).2
    obtain ⟨⟨a,l,w⟩,hS⟩:∃ S,S=lsT (r,ns,ds) p:=⟨_,rfl⟩
    have hl2:(lsT (r,ns,ds) p).2=(l,w):=by rw [← hS]
    rw [← hS] at hal hla2 hlt2
    simp only at hal hlt2
    have hst:=lsA_step hpv hil hl2 hal
    have hnx:p+8^l<512→(p+8^l)%8^(lsT (r,ns,ds) (p+8^l)).2.1=0:=fun h=>lev_next hpv hil hl2 hal h
    have hAl:=@lsA_le (r,ns,ds) p
    have hp8:p+8^l≤512:=by
     rcases (by omega:l=0∨l=1∨l=2) with rfl|rfl|rfl<;>simp at hal ⊢<;>omega
    obtain ⟨A,hA⟩:∃ A,A=lsA (r,ns,ds) p:=⟨_,rfl⟩
    rw [← hA] at hst hAl ⊢
    clear hS
    have htk:=erows_tkl A
    have hap:=erows_ap A p w
    simp only [stV,srow,U] at hla2
    rcases Decidable.em (w=0) with hw0|hw0
    ·subst hw0
     rw [if_neg (by simp),List.append_nil] at hst
     rcases (by omega:l=0∨l=1∨l=2) with rfl|rfl|rfl
     ·simp only [show 8^0=1 from rfl] at hst hnx hp8
      have zS:=jj hilI<|hla2
      repeat' (first|(apply aw_seq_k;intro K hK)|(refine eM64 ?_)|(refine aw_cond (b:=_) (by exact rfl) (fun h=>?_) (fun h=>?_)<;>(try simp at h))|(refine eB ?_)|(refine hK _ ?_;clear hK)|(clear hK;refine hK _ ?_;clear hK)|(clear hK;clear hK;refine hK _ ?_;clear hK)|(clear hK;clear hK;clear hK;refine hK _ ?_;clear hK))
      all_goals clear zS
      refine aw_rounds 1 (aw_round ?_)
      repeat' (first|(apply aw_seq_k;intro K hK)|(refine eM64o ?_)|(refine aw_cond (b:=_) (by exact rfl) (fun h=>?_) (fun h=>?_)<;>(try simp at h))|(refine eB ?_)|(refine hK _ ?_;clear hK)|(clear hK;refine hK _ ?_;clear hK)|(clear hK;clear hK;refine hK _ ?_;clear hK)|(clear hK;clear hK;clear hK;refine hK _ ?_;clear hK))
      refine ⟨p+1,?_,⟨hp8,hnx⟩,by omega⟩
      simp only [hst]
      exact dle
     ·simp only [show 8^1=8 from rfl] at hst hnx hp8
      have zS:=jj hilI<|hla2
      repeat' (first|(apply aw_seq_k;intro K hK)|(refine eM64 ?_)|(refine aw_cond (b:=_) (by exact rfl) (fun h=>?_) (fun h=>?_)<;>(try simp at h))|(refine eB ?_)|(refine hK _ ?_;clear hK)|(clear hK;refine hK _ ?_;clear hK)|(clear hK;clear hK;refine hK _ ?_;clear hK)|(clear hK;clear hK;clear hK;refine hK _ ?_;clear hK))
      all_goals clear zS
      refine aw_rounds 2 (aw_round ?_)
      repeat' (first|(apply aw_seq_k;intro K hK)|(refine eM64o ?_)|(refine aw_cond (b:=_) (by exact rfl) (fun h=>?_) (fun h=>?_)<;>(try simp at h))|(refine eB ?_)|(refine hK _ ?_;clear hK)|(clear hK;refine hK _ ?_;clear hK)|(clear hK;clear hK;refine hK _ ?_;clear hK)|(clear hK;clear hK;clear hK;refine hK _ ?_;clear hK))
      refine ⟨p+8,?_,⟨hp8,hnx⟩,by omega⟩
      simp only [hst]
      exact dle
     ·simp only [show 8^2=64 from rfl] at hst hnx hp8
      have zS:=jj hilI<|hla2
      repeat' (first|(apply aw_seq_k;intro K hK)|(refine eM64 ?_)|(refine aw_cond (b:=_) (by exact rfl) (fun h=>?_) (fun h=>?_)<;>(try simp at h))|(refine eB ?_)|(refine hK _ ?_;clear hK)|(clear hK;refine hK _ ?_;clear hK)|(clear hK;clear hK;refine hK _ ?_;clear hK)|(clear hK;clear hK;clear hK;refine hK _ ?_;clear hK))
      all_goals clear zS
      refine aw_rounds 3 (aw_round ?_)
      repeat' (first|(apply aw_seq_k;intro K hK)|(refine eM64o ?_)|(refine aw_cond (b:=_) (by exact rfl) (fun h=>?_) (fun h=>?_)<;>(try simp at h))|(refine eB ?_)|(refine hK _ ?_;clear hK)|(clear hK;refine hK _ ?_;clear hK)|(clear hK;clear hK;refine hK _ ?_;clear hK)|(clear hK;clear hK;clear hK;refine hK _ ?_;clear hK))
      refine ⟨p+64,?_,⟨hp8,hnx⟩,by omega⟩
      simp only [hst]
      exact dle
    ·rw [if_pos hw0] at hst
     rw [← hst] at hap
     have hlen:A.length+1=(lsA (r,ns,ds) (p+8^l)).length:=by rw [hst];simp
     rcases (by omega:l=0∨l=1∨l=2) with rfl|rfl|rfl
     ·simp only [show 8^0=1 from rfl] at hst hnx hp8 hap hlen
      have zS:=jj hilI<|jj hla2<|jj hw0<|jj htk<|jj hap<|hAl
      repeat' (first|(apply aw_seq_k;intro K hK)|(refine eM64 ?_)|(refine aw_cond (b:=_) (by exact rfl) (fun h=>?_) (fun h=>?_)<;>(try simp at h))|(refine eB ?_)|(refine hK _ ?_;clear hK)|(clear hK;refine hK _ ?_;clear hK)|(clear hK;clear hK;refine hK _ ?_;clear hK)|(clear hK;clear hK;clear hK;refine hK _ ?_;clear hK))
      all_goals clear zS
      refine aw_rounds 1 (aw_round ?_)
      repeat' (first|(apply aw_seq_k;intro K hK)|(refine eM64o ?_)|(refine aw_cond (b:=_) (by exact rfl) (fun h=>?_) (fun h=>?_)<;>(try simp at h))|(refine eB ?_)|(refine hK _ ?_;clear hK)|(clear hK;refine hK _ ?_;clear hK)|(clear hK;clear hK;refine hK _ ?_;clear hK)|(clear hK;clear hK;clear hK;refine hK _ ?_;clear hK))
      refine ⟨p+1,?_,⟨hp8,hnx⟩,by omega⟩
      simp only [hlen]
      refine le_turn (s1:=?tus2) (m1:=?tum2) [] [4,3,1] [0,112] ?tua2 ?tub2 ?tuc2 ?tud2 ?tue2 ?tuf2 ?tug2
      case tua2=>first|(simp [keepS];done)|(simp [keepS];rfl)
      case tub2=>first|(simp;done)|(simp;rfl)
      case tuc2=>simp
      case tud2=>simp
      case tue2=>simp
      case tuf2=>simp
      case tug2 =>
       simp [swp,vr]
       exact dle
     ·simp only [show 8^1=8 from rfl] at hst hnx hp8 hap hlen
      have zS:=jj hilI<|jj hla2<|jj hw0<|jj htk<|jj hap<|hAl
      repeat' (first|(apply aw_seq_k;intro K hK)|(refine eM64 ?_)|(refine aw_cond (b:=_) (by exact rfl) (fun h=>?_) (fun h=>?_)<;>(try simp at h))|(refine eB ?_)|(refine hK _ ?_;clear hK)|(clear hK;refine hK _ ?_;clear hK)|(clear hK;clear hK;refine hK _ ?_;clear hK)|(clear hK;clear hK;clear hK;refine hK _ ?_;clear hK))
      all_goals clear zS
      refine aw_rounds 2 (aw_round ?_)
      repeat' (first|(apply aw_seq_k;intro K hK)|(refine eM64o ?_)|(refine aw_cond (b:=_) (by exact rfl) (fun h=>?_) (fun h=>?_)<;>(try simp at h))|(refine eB ?_)|(refine hK _ ?_;clear hK)|(clear hK;refine hK _ ?_;clear hK)|(clear hK;clear hK;refine hK _ ?_;clear hK)|(clear hK;clear hK;clear hK;refine hK _ ?_;clear hK))
      refine ⟨p+8,?_,⟨hp8,hnx⟩,by omega⟩
      simp only [hlen]
      refine le_turn (s1:=?tus3) (m1:=?tum3) [] [4,3,1] [0,112] ?tua3 ?tub3 ?tuc3 ?tud3 ?tue3 ?tuf3 ?tug3
      case tua3=>first|(simp [keepS];done)|(simp [keepS];rfl)
      case tub3=>first|(simp;done)|(simp;rfl)
      case tuc3=>simp
      case tud3=>simp
      case tue3=>simp
      case tuf3=>simp
      case tug3 =>
       simp [swp,vr]
       exact dle
     ·simp only [show 8^2=64 from rfl] at hst hnx hp8 hap hlen
      have zS:=jj hilI<|jj hla2<|jj hw0<|jj htk<|jj hap<|hAl
      repeat' (first|(apply aw_seq_k;intro K hK)|(refine eM64 ?_)|(refine aw_cond (b:=_) (by exact rfl) (fun h=>?_) (fun h=>?_)<;>(try simp at h))|(refine eB ?_)|(refine hK _ ?_;clear hK)|(clear hK;refine hK _ ?_;clear hK)|(clear hK;clear hK;refine hK _ ?_;clear hK)|(clear hK;clear hK;clear hK;refine hK _ ?_;clear hK))
      all_goals clear zS
      refine aw_rounds 3 (aw_round ?_)
      repeat' (first|(apply aw_seq_k;intro K hK)|(refine eM64o ?_)|(refine aw_cond (b:=_) (by exact rfl) (fun h=>?_) (fun h=>?_)<;>(try simp at h))|(refine eB ?_)|(refine hK _ ?_;clear hK)|(clear hK;refine hK _ ?_;clear hK)|(clear hK;clear hK;refine hK _ ?_;clear hK)|(clear hK;clear hK;clear hK;refine hK _ ?_;clear hK))
      refine ⟨p+64,?_,⟨hp8,hnx⟩,by omega⟩
      simp only [hlen]
      refine le_turn (s1:=?tus4) (m1:=?tum4) [] [4,3,1] [0,112] ?tua4 ?tub4 ?tuc4 ?tud4 ?tue4 ?tuf4 ?tug4
      case tua4=>first|(simp [keepS];done)|(simp [keepS];rfl)
      case tub4=>first|(simp;done)|(simp;rfl)
      case tuc4=>simp
      case tud4=>simp
      case tue4=>simp
      case tuf4=>simp
      case tug4 =>
       simp [swp,vr]
       exact dle
   ·obtain rfl:p=512:=by omega
    have htk:=erows_tkl (lsA (r,ns,ds) 512)
    obtain ⟨A,hA⟩:∃ A,A=lsA (r,ns,ds) 512:=⟨_,rfl⟩
    rw [← hA] at htk ⊢
    repeat' (first|(apply aw_seq_k;intro K hK)|(refine eM64o ?_)|(refine aw_cond (b:=_) (by exact rfl) (fun h=>?_) (fun h=>?_)<;>(try simp at h))|(refine eB ?_)|(refine hK _ ?_;clear hK)|(clear hK;refine hK _ ?_;clear hK)|(clear hK;clear hK;refine hK _ ?_;clear hK)|(clear hK;clear hK;clear hK;refine hK _ ?_;clear hK))
    refine ⟨by simp,?_⟩
    simp [leaves_iff,Tryz.f44,htk]
    try exact dt
    rw [hA]
 ·have e:lstT (r,ns,ds)=[]:=by unfold lstT;rw [if_neg hc0]
  rw [e]
  obtain ⟨c,hcc⟩:∃ c,c=chk (r,ns,ds):=⟨_,rfl⟩
  rw [← hcc] at hch' hc0
  simp only [TbV] at hch' ⊢
  have zS:=jj hch'<|hc0
  refine dM64 ?_
  repeat (intro K hK)
  clear zS
  refine ⟨by simp,?_⟩
  simp [leaves_iff,Tryz.f44,erows]
  try exact dt
end Go.AM
namespace Go.AM
open Go Go.Proofs
attribute [local irreducible] lsA
end Go.AM
namespace Go.AM
open Go Go.Proofs
def inF (fr:List Int) (n:Nd):Bool:=decide (n.1∈fr)
end Go.AM
namespace Go.AM
open Go Go.Proofs
def kpF (fr:List Int) (ns:NdL):NdL:=ns.filter fun n=>!inF fr n
end Go.AM
set_option maxHeartbeats 2000000
namespace Go.AM
open Go Go.Proofs
@[simp] theorem tyTe:Types Tryz.prog 153=some ⟨.struct [(0,3,1),(1,3,1),(2,76,1)],3,24,[.int .i64 0,.int .i64 0,.int .u64 0]⟩:=by kernel_rfl
@[simp] theorem tyTl:Types Tryz.prog 66=some ⟨.struct [(0,3,1),(1,64,1)],2,32,[.int .i64 0,.slice none 0 0]⟩:=by kernel_rfl
@[simp] theorem tyTes:Types Tryz.prog 64=some ⟨.slice 153,1,24,[.slice none 0 0]⟩:=by kernel_rfl
def trow (x:Te):List AV:=[I x.1,I x.2.1,U x.2.2]
def trows (l:List Te):List (List AV):=l.map trow
def TeV (x:Te):AV:=.agg [I x.1,I x.2.1,U x.2.2]
def TlV (b:Tl):AV:=.agg [I b.1,.rd 3 (trows b.2)]
@[simp] theorem trows_length (l:List Te):(trows l).length=l.length:=by simp [trows]
theorem trow_inj {a b:Te}:trow a=trow b↔a=b:=by
 obtain ⟨a1,a2,a3⟩:=a
 obtain ⟨b1,b2,b3⟩:=b
 simp only [trow,I,U,List.cons.injEq,AV.v.injEq,Value.int.injEq,true_and,and_true,Int.ofNat_inj,Prod.mk.injEq]
theorem trows_inj:∀ {a b:List Te},trows a=trows b↔a=b
 | [],[]=>by simp [trows]
 | [],_::_=>by simp [trows]
 | _::_,[]=>by simp [trows]
 | a::l,b::m=>by
  have ih:=trows_inj (a:=l) (b:=m)
  simp only [trows,List.map_cons,List.cons.injEq,trow_inj] at ih ⊢
  rw [ih]
theorem TeV_inj {a b:Te}:TeV a=TeV b↔a=b:=by
 have:=@trow_inj a b
 simp only [trow] at this
 simp only [TeV,AV.agg.injEq]
 exact this
theorem TlV_inj {a b:Tl}:TlV a=TlV b↔a=b:=by
 obtain ⟨a1,a2⟩:=a
 obtain ⟨b1,b2⟩:=b
 simp only [TlV,I,AV.agg.injEq,List.cons.injEq,AV.v.injEq,Value.int.injEq,true_and,and_true,AV.rd.injEq,trows_inj,Prod.mk.injEq]
theorem trows_gi {l:List Te} {i:Nat} (h:i<l.length):(trows l)[i]?=some (trow (gt l i)):=by
 rw [gt_eq h]
 simp [trows,List.getElem?_eq_getElem h]
theorem trows_gE {l:List Te} {i:Nat} (h:i<l.length):∀ h',(trows l)[i]'(h')=trow (gt l i):=fun h'=>by
 have:=trows_gi h
 rw [List.getElem?_eq_getElem h'] at this
 exact Option.some.inj this
noncomputable def TrF:List AV→Option AV:=specF (ι:={w:Nat // w<2^64}) (fun x=>[U x.1]) fun x=>retOf [B (trB x.1),B (hgB x.1)]
theorem s165 (X:AX) (hX:XOK Tryz.prog X) (hw:X.W wT) (hde:∀ n:Nat,n<2^64→∀ M k,X.call 56 [U n] M k=some (.tup [EnV (decR n).1,I (decR n).2],[])):PSound Tryz.prog 165 TrF:=by
 unfold TrF
 refine psound_spec hX mixed Tryz.func165 rfl fun ⟨w,hw64⟩ w0 G=>⟨by show 1≤24;decide,rfl,?_⟩
 show AW ⟨Tryz.prog,X,24,w0,.pure G⟩ _ _ _
 have hc:Cx.OK ⟨Tryz.prog,X,24,w0,.pure G⟩:=⟨hX,mixed⟩
 simp only at hw64 ⊢
 have hd:=hde w hw64
 unfold trB hgB
 obtain ⟨⟨⟨k,num,b1,b2,b3,hg⟩,er⟩,hx⟩:∃ x,x=decR w:=⟨_,rfl⟩
 rw [← hx] at hd ⊢
 simp only [EnV,U] at hd ⊢
 rcases Decidable.em (er=0) with h1|h1
 ·rcases Decidable.em (k=1) with h2|h2
  ·cases hg
   ·have zS:=jj hd<|jj h1<|h2
    refine dF64 ?_
    repeat (intro K hK)
    clear zS
    refine ⟨by simp,?_⟩
    simp [leaves_iff,Tryz.f165,h1,h2]
    try exact dt
   ·have zS:=jj hd<|jj h1<|h2
    refine dF64 ?_
    repeat (intro K hK)
    clear zS
    refine ⟨by simp,?_⟩
    simp [leaves_iff,Tryz.f165,h1,h2]
    try exact dt
  ·cases hg
   ·have zS:=jj hd<|jj h1<|h2
    refine dF64 ?_
    repeat (intro K hK)
    clear zS
    refine ⟨by simp,?_⟩
    simp [leaves_iff,Tryz.f165,h1,h2]
    try exact dt
   ·have zS:=jj hd<|jj h1<|h2
    refine dF64 ?_
    repeat (intro K hK)
    clear zS
    refine ⟨by simp,?_⟩
    simp [leaves_iff,Tryz.f165,h1,h2]
    try exact dt
 ·have zS:=jj hd<|h1
  refine dF64 ?_
  repeat (intro K hK)
  clear zS
  refine ⟨by simp,?_⟩
  simp [leaves_iff,Tryz.f165,h1]
  try exact dt
noncomputable def SpnF:List AV→Option AV:=specF (ι:={w:Nat // w<2^64}) (fun x=>[U x.1]) fun x=>retOf [I (spn x.1)]
theorem s209 (X:AX) (hX:XOK Tryz.prog X) (hw:X.W wT) (htr:∀ w:Nat,w<2^64→∀ M k,X.call 165 [U w] M k=some (.tup [B (trB w),B (hgB w)],[])):PSound Tryz.prog 209 SpnF:=by
 unfold SpnF
 refine psound_spec hX mixed Tryz.func209 rfl fun ⟨w,hw64⟩ w0 G=>⟨by show 1≤11;decide,rfl,?_⟩
 show AW ⟨Tryz.prog,X,11,w0,.pure G⟩ _ _ _
 have hc:Cx.OK ⟨Tryz.prog,X,11,w0,.pure G⟩:=⟨hX,mixed⟩
 simp only at hw64 ⊢
 have ht:=htr w hw64
 unfold spn
 obtain ⟨a,ha⟩:∃ x,x=trB w:=⟨_,rfl⟩
 obtain ⟨b,hb⟩:∃ x,x=hgB w:=⟨_,rfl⟩
 rw [← ha,← hb] at ht
 rw [← hb]
 simp only [U] at ht ⊢
 cases b
 ·have zS:=ht
  refine dM64 ?_
  repeat (intro K hK)
  clear zS
  refine ⟨by simp,?_⟩
  simp [leaves_iff,Tryz.f209]
  try exact dt
 ·have zS:=ht
  refine dM64 ?_
  repeat (intro K hK)
  clear zS
  refine ⟨by simp,?_⟩
  simp [leaves_iff,Tryz.f209]
  try exact dt
noncomputable def PlcF:List AV→Option AV:=specF (ι:=Int×Int) (fun x=>[I x.1,I x.2]) fun x=>retOf [I (if plcB x.1 x.2=true then 0 else 2)]
theorem s164 (X:AX) (hX:XOK Tryz.prog X) (hw:X.W wT):PSound Tryz.prog 164 PlcF:=by
 unfold PlcF
 refine psound_spec hX mixed Tryz.func164 rfl fun ⟨s,p⟩ w0 G=>⟨by show 2≤19;decide,rfl,?_⟩
 show AW ⟨Tryz.prog,X,19,w0,.pure G⟩ _ _ _
 have hc:Cx.OK ⟨Tryz.prog,X,19,w0,.pure G⟩:=⟨hX,mixed⟩
 simp only
 rcases Decidable.em (s<0) with h1|h1
 ·rw [show plcB s p=false by unfold plcB;exact decide_eq_false (by omega),if_neg (by decide)]
  have zS:=h1
  refine dM64 ?_
  repeat (intro K hK)
  clear zS
  refine ⟨by simp,?_⟩
  simp [leaves_iff,Tryz.f164]
  try exact dt
 ·rcases Decidable.em (8≤s) with h2|h2
  ·rw [show plcB s p=false by unfold plcB;exact decide_eq_false (by omega),if_neg (by decide)]
   have zS:=jj h1<|h2
   refine dM64 ?_
   repeat (intro K hK)
   clear zS
   refine ⟨by simp,?_⟩
   simp [leaves_iff,Tryz.f164]
   try exact dt
  ·rcases Decidable.em (p<0) with h3|h3
   ·rw [show plcB s p=false by unfold plcB;exact decide_eq_false (by omega),if_neg (by decide)]
    have zS:=jj h1<|jj h2<|h3
    refine dM64 ?_
    repeat (intro K hK)
    clear zS
    refine ⟨by simp,?_⟩
    simp [leaves_iff,Tryz.f164]
    try exact dt
   ·rcases Decidable.em (512≤p) with h4|h4
    ·rw [show plcB s p=false by unfold plcB;exact decide_eq_false (by omega),if_neg (by decide)]
     have zS:=jj h1<|jj h2<|jj h3<|h4
     refine dM64 ?_
     repeat (intro K hK)
     clear zS
     refine ⟨by simp,?_⟩
     simp [leaves_iff,Tryz.f164]
     try exact dt
    ·rw [show plcB s p=true by unfold plcB;exact decide_eq_true (by omega),if_pos rfl]
     have zS:=jj h1<|jj h2<|jj h3<|h4
     refine dM64 ?_
     repeat (intro K hK)
     clear zS
     refine ⟨by simp,?_⟩
     simp [leaves_iff,Tryz.f164]
     try exact dt
theorem spn_le {w:Nat}:1≤spn w∧spn w≤8:=by unfold spn;split<;>omega
def teOK (x:Te):Prop:=0≤x.2.1∧x.2.1<512∧x.2.2<2^64
noncomputable def CvF:List AV→Option AV:=specF (ι:={x:Te×Int×Int // teOK x.1}) (fun x=>[TeV x.1.1,I x.1.2.1,I x.1.2.2]) fun x=>retOf [B (cvB x.1.1 x.1.2.1 x.1.2.2)]
theorem s169 (X:AX) (hX:XOK Tryz.prog X) (hw:X.W wT) (hsp:∀ w:Nat,w<2^64→∀ M k,X.call 209 [U w] M k=some (I (spn w),[])):PSound Tryz.prog 169 CvF:=by
 unfold CvF
 refine psound_spec hX mixed Tryz.func169 rfl fun ⟨⟨⟨xs,xp,xw⟩,s,p⟩,hok⟩ w0 G=>⟨by show 3≤27;decide,rfl,?_⟩
 show AW ⟨Tryz.prog,X,27,w0,.pure G⟩ _ _ _
 have hc:Cx.OK ⟨Tryz.prog,X,27,w0,.pure G⟩:=⟨hX,mixed⟩
 obtain ⟨h1,h2,h3⟩:=hok
 simp only at h1 h2 h3 ⊢
 have hs:=hsp xw h3
 have hle:=@spn_le xw
 unfold cvB
 simp only [TeV]
 obtain ⟨v,hv⟩:∃ x,x=spn xw:=⟨_,rfl⟩
 rw [← hv] at hs hle ⊢
 simp only [U] at hs ⊢
 rcases Decidable.em (xs=s) with k1|k1
 ·rcases Decidable.em (xp≤p) with k2|k2
  ·rcases Decidable.em (p<xp+v) with k3|k3
   ·rw [decide_eq_true ⟨k1,k2,k3⟩]
    have zS:=jj hs<|jj k1<|jj k2<|k3
    refine dF64 ?_
    repeat (intro K hK)
    clear zS
    refine ⟨by simp,?_⟩
    simp [leaves_iff,Tryz.f169]
    try exact dt
   ·rw [decide_eq_false (fun k=>k3 k.2.2)]
    have zS:=jj hs<|jj k1<|jj k2<|k3
    refine dF64 ?_
    repeat (intro K hK)
    clear zS
    refine ⟨by simp,?_⟩
    simp [leaves_iff,Tryz.f169]
    try exact dt
  ·rw [decide_eq_false (fun k=>k2 k.2.1)]
   have zS:=jj hs<|jj k1<|k2
   refine dF64 ?_
   repeat (intro K hK)
   clear zS
   refine ⟨by simp,?_⟩
   simp [leaves_iff,Tryz.f169]
   try exact dt
 ·rw [decide_eq_false (fun k=>k1 k.1)]
  have zS:=jj hs<|k1
  refine dF64 ?_
  repeat (intro K hK)
  clear zS
  refine ⟨by simp,?_⟩
  simp [leaves_iff,Tryz.f169]
  try exact dt
noncomputable def OvF:List AV→Option AV:=specF (ι:={x:Te×Te // teOK x.1∧teOK x.2}) (fun x=>[TeV x.1.1,TeV x.1.2]) fun x=>retOf [B (ovB x.1.1 x.1.2)]
theorem s168 (X:AX) (hX:XOK Tryz.prog X) (hw:X.W wT) (hsp:∀ w:Nat,w<2^64→∀ M k,X.call 209 [U w] M k=some (I (spn w),[])):PSound Tryz.prog 168 OvF:=by
 unfold OvF
 refine psound_spec hX mixed Tryz.func168 rfl fun ⟨⟨⟨xs,xp,xw⟩,ys,yp,yw⟩,hok,hok2⟩ w0 G=>⟨by show 2≤32;decide,rfl,?_⟩
 show AW ⟨Tryz.prog,X,32,w0,.pure G⟩ _ _ _
 have hc:Cx.OK ⟨Tryz.prog,X,32,w0,.pure G⟩:=⟨hX,mixed⟩
 obtain ⟨h1,h2,h3⟩:=hok
 obtain ⟨g1,g2,g3⟩:=hok2
 simp only at h1 h2 h3 g1 g2 g3 ⊢
 have hs:=hsp xw h3
 have hle:=@spn_le xw
 have gs:=hsp yw g3
 have gle:=@spn_le yw
 unfold ovB
 simp only [TeV]
 obtain ⟨v,hv⟩:∃ x,x=spn xw:=⟨_,rfl⟩
 rw [← hv] at hs hle ⊢
 obtain ⟨u,hu⟩:∃ x,x=spn yw:=⟨_,rfl⟩
 rw [← hu] at gs gle ⊢
 simp only [U] at hs gs ⊢
 rcases Decidable.em (xs=ys) with k1|k1
 ·rcases Decidable.em (xp<yp+u) with k2|k2
  ·rcases Decidable.em (yp<xp+v) with k3|k3
   ·rw [decide_eq_true ⟨k1,k2,k3⟩]
    have zS:=jj hs<|jj gs<|jj k1<|jj k2<|k3
    refine dF64 ?_
    repeat (intro K hK)
    clear zS
    refine ⟨by simp,?_⟩
    simp [leaves_iff,Tryz.f168]
    try exact dt
   ·rw [decide_eq_false (fun k=>k3 k.2.2)]
    have zS:=jj hs<|jj gs<|jj k1<|jj k2<|k3
    refine dF64 ?_
    repeat (intro K hK)
    clear zS
    refine ⟨by simp,?_⟩
    simp [leaves_iff,Tryz.f168]
    try exact dt
  ·rw [decide_eq_false (fun k=>k2 k.2.1)]
   have zS:=jj hs<|jj gs<|jj k1<|k2
   refine dF64 ?_
   repeat (intro K hK)
   clear zS
   refine ⟨by simp,?_⟩
   simp [leaves_iff,Tryz.f168]
   try exact dt
 ·rw [decide_eq_false (fun k=>k1 k.1)]
  have zS:=jj hs<|jj gs<|k1
  refine dF64 ?_
  repeat (intro K hK)
  clear zS
  refine ⟨by simp,?_⟩
  simp [leaves_iff,Tryz.f168]
  try exact dt
def pgW (w:Nat):En×Int:=if (decR w).2≠0 then (zE,(decR w).2) else if (decR w).1.1≠1 then (zE,11) else ((decR w).1,0)
noncomputable def PgF:List AV→Option AV:=specF (ι:={w:Nat // w<2^64}) (fun x=>[U x.1]) fun x=>retOf [EnV (pgW x.1).1,I (pgW x.1).2]
theorem s172 (X:AX) (hX:XOK Tryz.prog X) (hw:X.W wT) (hde:∀ n:Nat,n<2^64→∀ M k,X.call 56 [U n] M k=some (.tup [EnV (decR n).1,I (decR n).2],[])):PSound Tryz.prog 172 PgF:=by
 unfold PgF
 refine psound_spec hX mixed Tryz.func172 rfl fun ⟨w,hw64⟩ w0 G=>⟨by show 1≤20;decide,rfl,?_⟩
 show AW ⟨Tryz.prog,X,20,w0,.pure G⟩ _ _ _
 have hc:Cx.OK ⟨Tryz.prog,X,20,w0,.pure G⟩:=⟨hX,mixed⟩
 simp only at hw64 ⊢
 have hd:=hde w hw64
 unfold pgW
 obtain ⟨⟨⟨k,num,b1,b2,b3,hg⟩,er⟩,hx⟩:∃ x,x=decR w:=⟨_,rfl⟩
 rw [← hx] at hd ⊢
 simp only [EnV,U] at hd ⊢
 rcases Decidable.em (er=0) with h1|h1
 ·rcases Decidable.em (k=1) with h2|h2
  ·rw [if_neg (by simp [h1]),if_neg (by simp [h2])]
   have zS:=jj hd<|jj h1<|h2
   refine dM64 ?_
   repeat (intro K hK)
   clear zS
   refine ⟨by simp,?_⟩
   simp [leaves_iff,Tryz.f172,h1,h2]
   try exact dt
  ·rw [if_neg (by simp [h1]),if_pos h2]
   simp only [zE]
   have zS:=jj hd<|jj h1<|h2
   refine dM64 ?_
   repeat (intro K hK)
   clear zS
   refine ⟨by simp,?_⟩
   simp [leaves_iff,Tryz.f172,h1,h2]
   try exact dt
 ·rw [if_pos h1]
  simp only [zE]
  have zS:=jj hd<|h1
  refine dM64 ?_
  repeat (intro K hK)
  clear zS
  refine ⟨by simp,?_⟩
  simp [leaves_iff,Tryz.f172,h1]
  try exact dt
theorem mkW_pg {w:Nat} {wr:Bool}:mkW w wr=if (pgW w).2≠0 then (0,(pgW w).2) else if wr=false then (w ||| 16,0) else if (pgW w).1.2.2.1=false then (0,12) else (w ||| 16 ||| 32,0):=by
 unfold mkW pgW
 by_cases h1:(decR w).2≠0
 ·simp [h1]
 ·rw [if_neg h1,if_neg h1]
  by_cases h2:(decR w).1.1≠1
  ·simp [h2]
  ·simp [h2]
theorem odW_pg {w:Nat}:odW w=if (pgW w).2≠0 then (0,(pgW w).2) else (w &&& (18446744073709551615 - 16),0):=by
 unfold odW pgW
 by_cases h1:(decR w).2≠0
 ·simp [h1]
 ·rw [if_neg h1,if_neg h1]
  by_cases h2:(decR w).1.1≠1
  ·simp [h2]
  ·simp [h2]
end Go.AM
