/- A part of the proof: what functions of the program compute, by abstract execution of their code. Its theorems hold without further condition. -/
import Derived.Test.YtcfhmdljeeppfaaGreatSPt40
import Derived.Test.YtcfhmdljeeppfaaGreatSPtS
import Derived.Test.YtcfhmdljeeppfaaGreatSAmZa
import Derived.Test.YtcfhmdljeeppfaaGreatSAmDr
set_option linter.all false
namespace Go.AM
open Go Go.Proofs Go.Sort
def encN (x:Nd):List Value:=.int .i64 x.1::(List.range 8).map fun i=>.int .u64 (x.2.getD i 0:Nat)
theorem encN_len (x:Nd):(encN x).length=9:=by simp [encN]
def ltN (a b:Nd):Bool:=decide (a.1<b.1)
theorem swoN:SWO ltN where
 irrefl x:=by simp [ltN]
 trans x y z h1 h2:=by simp only [ltN,decide_eq_true_eq] at *;omega
 ntrans x y z h1 h2:=by simp only [ltN,decide_eq_false_iff_not] at *;omega
theorem encN_one (x:Nd):∀ v∈encN x,v.oneCell'=true:=fun v hv=>by
 simp only [encN,List.mem_cons,List.mem_map] at hv
 rcases hv with rfl|⟨i,_,rfl⟩<;>rfl
theorem encN_row {x:Nd} (h8:x.2.length=8) {c:Nat} (hc:c<9):∃ y,(nrow x)[c]?=some (.v y)∧(encN x)[c]! = y:=by
 cases c with
 | zero=>exact ⟨_,rfl,rfl⟩
 | succ c =>
  refine ⟨.int .u64 (x.2.getD c 0:Nat),?_,?_⟩
  ·show (wcs x.2)[c]?=_
   unfold wcs
   rw [List.getElem?_map,List.getElem?_eq_getElem (by omega),List.getD_eq_getElem?_getD,List.getElem?_eq_getElem (by omega)]
   rfl
  ·have:c<8:=by omega
   simp [encN,this]
structure SortD where
 nd:Nat
 m:Nat
 n:Nat
 bs:Nat
 tb:Nat
 r:AV
 dsA:AV
 f:Bool
 l:List Nd
 x:Nd
def SortD.ok (D:SortD) (avs:List AV) (M:Nat→AO):Prop :=
 avs=[.ifc 60 [.sl D.nd D.m 9 0 D.n],.fn 215 [.bp D.bs 0]]∧M D.bs=.box [.bp D.tb 0]∧M D.tb=.box [D.r,.sl D.nd D.m 9 0 D.n,D.dsA]∧M D.nd=.vec D.m 9 D.f (nrows (D.l++[D.x]))∧D.n=(D.l++[D.x]).length ∧
  ascK D.l∧(∀ a∈D.l,a.1≠D.x.1)∧1≤D.l.length∧D.l.length<1000000000∧nds8 (D.l++[D.x])
open Classical in
noncomputable def sortN (avs:List AV) (M:Nat→AO) (_:Nat):Option (AV×List (Nat×AO)) :=
 if h:∃ D:SortD,D.ok avs M then some (.tup [],[(h.choose.nd,.vec h.choose.m 9 h.choose.f (nrows (insK h.choose.l h.choose.x)))]) else none
theorem sortN_at {D:SortD} {avs:List AV} {M:Nat→AO} {nid:Nat} (h:D.ok avs M):sortN avs M nid=some (.tup [],[(D.nd,.vec D.m 9 D.f (nrows (insK D.l D.x)))]):=by
 unfold sortN
 have hex:∃ D:SortD,D.ok avs M:=⟨D,h⟩
 rw [dif_pos hex]
 have hc:=hex.choose_spec
 obtain ⟨C,hC⟩:∃ C,C=hex.choose:=⟨_,rfl⟩
 rw [← hC] at hc ⊢
 obtain ⟨a1,a2,a3,a4,a5,_⟩:=h
 obtain ⟨b1,b2,b3,b4,b5,_⟩:=hc
 rw [a1] at b1
 simp only [List.cons.injEq,AV.ifc.injEq,AV.fn.injEq,AV.sl.injEq,AV.bp.injEq,and_true,true_and] at b1
 obtain ⟨⟨e1,e2,e3⟩,e4⟩:=b1
 rw [← e1] at b4
 rw [a4] at b4
 simp only [AO.vec.injEq,true_and,nrows_inj] at b4
 obtain ⟨_,e6,e7⟩:=b4
 obtain ⟨e8,e9⟩:=List.append_inj' e7 (by simp)
 simp only [List.cons.injEq,and_true] at e9
 rw [← e1,← e2,← e6,← e8,← e9]
theorem sort_ok:CallOK Tryz.prog 214 sortN:=by
 intro avs M nid av u hc w0 bl E w args hr hM hI _
 have htup:∀ (E':Env) (w':World),Rep E' w' (.tup []) (.tuple #[]):=fun E' w'=>by simp only [Rep];exact ⟨[],rfl,by simp [RepL]⟩
 by_cases hex:∃ D:SortD,D.ok avs M
 case neg=>unfold sortN at hc;rw [dif_neg hex] at hc;simp at hc
 obtain ⟨D,hD⟩:=hex
 rw [sortN_at hD] at hc
 simp only [Option.some.injEq,Prod.mk.injEq] at hc
 obtain ⟨rfl,rfl⟩:=hc
 obtain ⟨nd,m,n,bs,tb,r,dsA,f,l,x⟩:=D
 obtain ⟨ha,hbs,htb,hnd,hn,hasc,hne,h1l,hlt,h8⟩:=hD
 simp only at ha hbs htb hnd hn hasc hne h1l hlt h8 ⊢
 subst ha
 obtain ⟨L,hL⟩:∃ L,L=l++[x]:=⟨_,rfl⟩
 rw [← hL] at hnd hn h8
 have hLl:L.length=l.length+1:=by rw [hL];simp
 subst hn
 obtain ⟨v,y,rfl,hv,hy⟩:∃ v y,args=#[.iface 60 v,.func (.func 215) #[] #[y]]∧Rep E w (.sl nd m 9 0 L.length) v∧Rep E w (.bp bs 0) y:=by
  cases hargs:args.toList with
  | nil=>rw [hargs] at hr;simp [RepL] at hr
  | cons a1 rr =>
   rw [hargs] at hr
   simp only [RepL] at hr
   cases rr with
   | nil=>simp [RepL] at hr
   | cons a2 rr =>
    simp only [RepL] at hr
    cases rr with
    | cons a3 rr=>simp [RepL] at hr
    | nil =>
     obtain ⟨h1,h2,_⟩:=hr
     simp only [Rep] at h1 h2
     obtain ⟨v,rfl,h3⟩:=h1
     obtain ⟨vs,rfl,h4⟩:=h2
     simp only [RepL] at h3
     cases vs with
     | nil=>simp [RepL] at h4
     | cons y vs =>
      simp only [RepL] at h4
      cases vs with
      | cons z vs=>simp [RepL] at h4
      | nil=>exact ⟨v,y,by rw [← Array.toArray_toList (xs:=args),hargs],by simpa only [Rep] using h3.1,by simpa only [Rep] using h4.1⟩
 simp only [Rep] at hv hy
 obtain ⟨hal,h1,h2,p,c,rfl,hnc,hpn,hsl⟩:=hv
 obtain ⟨hbal,hbv,bblk,bsz,hbl,rfl⟩:=hy
 have ho:=hM nd hal
 rw [hnd] at ho
 simp only [ObjRep] at ho
 obtain ⟨hv,hm1,ho⟩:=ho
 cases hlc:E.loc nd with
 | none =>
  simp only [hlc] at ho
  have:L.length=0:=by
   have:=congrArg List.length ho
   rwa [nrows_length] at this
  omega
 | some LL =>
  obtain ⟨blk,base,sz⟩:=LL
  simp only [hlc] at ho
  obtain ⟨ca,t,hheap,hszc,honec,hfit,hff,hrows⟩:=ho
  have hs2:=hsl hv.symm
  simp only [hlc,SlAt] at hs2
  obtain ⟨a,rfl,haa,hcs⟩:=hs2
  have haa:=haa.resolve_left (by omega)
  simp only [Nat.zero_mul,Nat.add_zero] at haa
  subst haa
  have hblk:blk<w.heap.size:=(Array.getElem?_eq_some_iff.1 hheap).1
  have hob:=hM bs hbal
  rw [hbs] at hob
  simp only [ObjRep] at hob
  obtain ⟨_,bblk',bt,bvs,hbl2,hbheap,_,hbrep⟩:=hob
  rw [hbl] at hbl2
  simp only [Option.some.injEq,Prod.mk.injEq,true_and] at hbl2
  obtain ⟨rfl,rfl⟩:=hbl2
  obtain ⟨tp,rfl,htp⟩:∃ tp,bvs=[tp]∧Rep E w (.bp tb 0) tp:=by
   cases bvs with
   | nil=>simp [RepL] at hbrep
   | cons tp q=>cases q with
    | nil=>simp only [RepL] at hbrep;exact ⟨tp,rfl,hbrep.1⟩
    | cons z q=>simp [RepL] at hbrep
  simp only [Rep] at htp
  obtain ⟨htal,_,tblk,tsz,htl,rfl⟩:=htp
  have hot:=hM tb htal
  rw [htb] at hot
  simp only [ObjRep] at hot
  obtain ⟨_,tblk',tt,tvs,htl2,htheap,_,htrep⟩:=hot
  rw [htl] at htl2
  simp only [Option.some.injEq,Prod.mk.injEq,true_and] at htl2
  obtain ⟨rfl,rfl⟩:=htl2
  obtain ⟨t0,t1,t2,rfl,ht1⟩:∃ t0 t1 t2,tvs=[t0,t1,t2]∧Rep E w (.sl nd m 9 0 L.length) t1:=by
   match tvs,htrep with
   | [t0,t1,t2],h=>simp only [RepL] at h;exact ⟨t0,t1,t2,rfl,h.2.1⟩
   | [],h=>simp [RepL] at h
   | [_],h=>simp [RepL] at h
   | [_,_],h=>simp [RepL] at h
   | _::_::_::_::_,h=>simp [RepL] at h
  simp only [Rep] at ht1
  obtain ⟨_,_,_,p2,c2,rfl,hnc2,_,hsl2⟩:=ht1
  have hs3:=hsl2 hv.symm
  simp only [hlc,SlAt] at hs3
  obtain ⟨a2,rfl,ha2,_⟩:=hs3
  have ha2:=ha2.resolve_left (by omega)
  simp only [Nat.zero_mul,Nat.add_zero] at ha2
  subst ha2
  have hbne:bblk≠blk:=fun e=>by
   subst e
   have:=hI.apart bs nd bblk 0 _ base sz hbal hal hbl hlc
   subst this
   rw [hbs] at hnd;simp at hnd
  have htne:tblk≠blk:=fun e=>by
   subst e
   have:=hI.apart tb nd tblk 0 _ base sz htal hal htl hlc
   subst this
   rw [htb] at hnd;simp at hnd
  have hB1:bblk<w.heap.size:=(Array.getElem?_eq_some_iff.1 hbheap).1
  have hT1:tblk<w.heap.size:=(Array.getElem?_eq_some_iff.1 htheap).1
  have hBc:w.cell? ⟨bblk,0,none⟩=some (.pointer (some ⟨tblk,0,none⟩)):=by
   unfold World.cell?;rw [hbheap];rfl
  have hTc:w.cell? ⟨tblk,1,none⟩=some (.slice (some ⟨blk,base,none⟩) L.length c2):=by
   unfold World.cell?;rw [htheap];rfl
  have hcell:∀ i,i<L.length→∀ c',c'<9→w.cell? ⟨blk,base+i*9+c',none⟩=some ((encN (L[i]!))[c']!):=fun i hi c' hc'=>by
   have h3:=hrows.get (i:=i) (e:=nrow L[i]) (by simp [nrows,hi])
   rw [getElem!_pos L i hi]
   obtain ⟨y,hy1,hy2⟩:=encN_row (h8 _ (List.getElem_mem hi)) hc'
   obtain ⟨z,h4,_,h5⟩:=h3.2.get hy1
   simp only [CRep] at h5
   subst h5
   rw [hy2];exact h4
  have hfz:∀ j,w.frozen? ⟨blk,base+j,none⟩=false:=fun j=>by
   unfold World.frozen?
   rw [hheap]
   simp
  have hH:HoldsK encN 9 w blk base L.toArray:=fun j hj=>⟨by
   have hj2:j<L.toArray.size*9:=by simpa using hj
   have hjl:j<L.length*9:=by simpa using hj
   rw [get_flatK _ _ _ _ hj2]
   have:=hcell (j/9) (by omega) (j%9) (by omega)
   rw [show base+j/9*9+j%9=base+j by omega] at this
   rw [this]
   simp,hfz j⟩
  have hless:LessReadsK Tryz.prog 215 #[.pointer (some ⟨bblk,0,none⟩)] encN 9 ltN blk base L.toArray.size w:=by
   intro mm os dk hs i j hi hj
   have e:sortWorldK encN 9 w blk base mm dk os=putRowK encN 9 (grow (Sort.ahead w mm) os) blk base dk:=by
    unfold sortWorldK;rw [putRowK_grow _ _ (Sort.ahead w mm) _ blk base _ hblk]
   have hHg:HoldsK encN 9 (grow (Sort.ahead w mm) os) blk base L.toArray:=holdsK_grow _ _ _ _ blk base L.toArray hblk (holdsK_ahead _ _ _ _ _ _ _ hH)
   refine Ptn.less blk base c2 bblk tblk L.toArray.size _ (fun t=>dk[t]!.1) ?_ ?_ (fun t ht=>?_) i j hi hj
   ·rw [e,cell?_putRowK_other _ _ _ blk base dk _ hbne,cell?_grow _ _ _ (by exact hB1)];exact hBc
   ·rw [e,cell?_putRowK_other _ _ _ blk base dk _ htne,cell?_grow _ _ _ (by exact hT1)];simpa using hTc
   ·rw [e];exact ((holdsK_putRowK _ _ _ blk base L.toArray dk hHg hs).cell (i:=t) (c:=0) (by omega) (by omega)).1
  have:=Any.sort_Slice_cells_sorted laySort 60 150 Ptn.svT Ptn.svE (by kernel_rfl) (by kernel_rfl) (by kernel_rfl) (by kernel_rfl) 25 (fun _=>by kernel_rfl) encN 9 encN_len (by kernel_rfl) (fun _=>by kernel_rfl)
   encN_one ltN swoN 215 #[.pointer (some ⟨bblk,0,none⟩)] (enters_of Tryz.func215 (by kernel_rfl) rfl) blk base c L.toArray (by simp;omega) (by simp;omega) 259 (by rw [Ptn.svK _ (by simp;omega)];kernel_rfl) false
   (fun args W=>run_callFunc_extern Tryz.func259 (by kernel_rfl) (by kernel_rfl) (by kernel_rfl) (e:=Extern.ReflectliteSwapper.swap false) (by kernel_rfl) args W) w hless hH hblk
  have hnod:∀ a∈L,∀ b∈L,True:=fun _ _ _ _=>trivial
  refine Calls.mono (this:Calls Tryz.prog 214 _ _ _) fun e w' ⟨he,d',nn,os,hper,hsrt,hw⟩=>?_
  obtain ⟨hds,_,hperm⟩:=hper
  have hS:d'.toList=insK l x:=by
   refine insK_of_perm hasc hne ?_ ?_
   ·refine List.pairwise_iff_getElem.2 fun i j hi hj hij=>?_
    have hi':i<d'.size:=by simpa using hi
    have hj':j<d'.size:=by simpa using hj
    have:=hsrt i j (Nat.zero_le _) hij (by rw [← hds];exact hj')
    rw [getElem!_pos d' i hi',getElem!_pos d' j hj'] at this
    simp only [ltN,decide_eq_false_iff_not] at this
    simpa using this
   ·have e1:(d'.extract 0 L.toArray.size).toList=d'.toList:=by
     rw [← hds];simp
    have e2:(L.toArray.extract 0 L.toArray.size).toList=L:=by simp
    rw [e1,e2,hL] at hperm
    exact hperm
  obtain ⟨K,hK⟩:∃ K,K=insK l x:=⟨_,rfl⟩
  have hd':d'=K.toArray:=by rw [hK,← hS]
  have hKl:K.length=L.length:=by rw [hK,insK_len,hLl]
  have hK8:nds8 K:=fun a ha=>by
   rw [hK] at ha
   rcases mem_insK.1 ha with h|h
   ·exact h8 a (by rw [hL,h];simp)
   ·exact h8 a (by rw [hL];simp [h])
  subst hd'
  rw [← hK]
  have hsz1:K.toArray.size=L.toArray.size:=by simp [hKl]
  have hH2:HoldsK encN 9 w' blk base K.toArray:=by
   rw [hw,← putRowK_grow _ _ (Sort.ahead w nn) _ blk base _ hblk]
   exact holdsK_putRowK _ _ _ blk base L.toArray _ (holdsK_grow _ _ _ _ blk base L.toArray hblk (holdsK_ahead _ _ _ _ _ _ _ hH)) hsz1
  have hsize:w.heap.size≤w'.heap.size:=by
   have e1:(putRowK encN 9 (Sort.ahead w nn) blk base K.toArray).heap.size=w.heap.size:=by
    unfold putRowK
    simp only [putRow,mapBlock,Array.size_modify]
    rfl
   rw [hw,size_grow,e1]
   omega
  have hother:∀ k,k<w.heap.size→k≠blk→w'.heap[k]?=w.heap[k]?:=fun k hk hne=>by
   rw [hw]
   unfold putRowK
   rw [heap_grow_old _ _ (by simpa [ahead] using hk)]
   simp only [putRow,mapBlock,Array.getElem?_modify]
   rw [if_neg (fun e=>hne e.symm)]
   rfl
  have hown:w'.heap[blk]?=some (.cells (putCells id base (flatK encN 9 K.toArray) ca) t (0,0)):=by
   rw [hw]
   unfold putRowK
   rw [heap_grow_old _ _ (by simpa [ahead] using hblk)]
   simp only [putRow,mapBlock,Array.getElem?_modify,if_true]
   have e:∀ n,(Sort.ahead w n).heap=w.heap:=fun n=>rfl
   rw [e,hheap]
   rfl
  refine ⟨_,E.upd nd m (some (blk,base,sz)),he,?_,htup _ _⟩
  refine StepTo.one hI nd _ m _ (fun _=>.inl ⟨hv.symm,hlc.symm⟩) (fun blk' base' sz' e=>?_) hsize (by rw [hw];rfl) (by rw [hw];rfl) (fun k hk hn=>hother k hk fun e=>?_) ?_
  ·simp only [Option.some.injEq,Prod.mk.injEq] at e
   exact .inl ⟨base,sz,hal,by rw [hlc,e.1]⟩
  ·subst e;exact hn base sz hal hlc
  ·simp only [ObjRep,Env.upd,if_true]
   refine ⟨trivial,hm1,_,t,hown,by simpa [putCells] using hszc,fun y hy=>?_,by simpa [hKl] using hfit,fun hf=>by simpa [hKl] using hff hf,CRows.of_get fun i e hi=>?_⟩
   ·rw [Array.mem_toList_iff] at hy
    obtain ⟨k,hk,rfl⟩:=Array.mem_iff_getElem.1 hy
    simp only [putCells,Array.getElem_mapIdx]
    split
    ·rename_i hcond
     have hk2:k - base<K.toArray.size*9:=by
      have:=hcond.2
      rw [size_flatK] at this
      omega
     rw [get_flatK _ _ _ _ hk2]
     have hlen:=encN_len (K.toArray[(k - base)/9]!)
     refine encN_one (K.toArray[(k - base)/9]!) _ ?_
     rw [getElem!_pos (encN (K.toArray[(k - base)/9]!)) ((k - base)%9) (by rw [hlen];omega)]
     exact List.getElem_mem _
    ·exact honec _ (by rw [Array.mem_toList_iff];exact Array.getElem_mem _)
   ·have hil:i<K.length:=by
     have:=(List.getElem?_eq_some_iff.1 hi).1
     simpa using this
    simp only [nrows,List.getElem?_map,List.getElem?_eq_getElem hil,Option.map_some,Option.some.injEq] at hi
    subst hi
    have hi8:=hK8 _ (List.getElem_mem hil)
    refine ⟨by simp [nrow,hi8],CCells.of_get fun c a hc=>?_⟩
    have hc9:c<9:=by
     have:=(List.getElem?_eq_some_iff.1 hc).1
     simpa [nrow,hi8] using this
    have hA:=(hH2.cell (i:=i) (c:=c) (by simpa using hil) hc9).1
    simp only [List.getElem!_toArray] at hA
    rw [getElem!_pos K i hil] at hA
    obtain ⟨y,hy1,hy2⟩:=encN_row hi8 hc9
    rw [hy1] at hc
    simp only [Option.some.injEq] at hc
    subst hc
    rw [hy2] at hA
    refine ⟨y,hA,?_,by simp only [CRep]⟩
    refine encN_one K[i] _ ?_
    have hlen:=encN_len K[i]
    rw [← hy2,getElem!_pos (encN K[i]) c (by rw [hlen];omega)]
    exact List.getElem_mem _
theorem sort_keys {avs:List AV} {M:Nat→AO} {nid:Nat} {r:AV×List (Nat×AO)} (h:sortN avs M nid=some r):∀ b∈r.2.map (·.1),(nid≤b∧b<nid+16)∨M b≠.dead:=by
 by_cases hex:∃ D:SortD,D.ok avs M
 case neg=>unfold sortN at h;rw [dif_neg hex] at h;simp at h
 obtain ⟨D,hD⟩:=hex
 rw [sortN_at hD] at h
 simp only [Option.some.injEq] at h
 subst h
 intro b hb
 simp at hb
 subst hb
 exact .inr (by rw [hD.2.2.2.1];simp)
end Go.AM
set_option maxHeartbeats 4000000
namespace Go.AM
open Go Go.Proofs
def pMs (t:Tb) (v v2:Nat):List AO:=[.box [I t.1,.sl 1 v 9 0 t.2.1.length,.sl 2 v2 2 0 t.2.2.length],.vec v 9 false (nrows t.2.1),.vec v2 2 false (prows t.2.2)]
theorem pMs_inj {t t':Tb} {v v2:Nat} (h:pMs t v v2=pMs t' v v2):t=t':=by
 obtain ⟨r,ns,ds⟩:=t
 obtain ⟨r',ns',ds'⟩:=t'
 simp only [pMs,List.cons.injEq,AO.box.injEq,I,AV.v.injEq,Value.int.injEq,true_and,AO.vec.injEq,nrows_inj,prows_inj,and_true] at h
 obtain ⟨⟨h1,_⟩,h2,h3⟩:=h
 rw [h1,h2,h3]
def OwnR (X:AX) (f:FuncId) (D:Tb→Int→Prop) (R:Tb→Int→AV):Prop :=
 ∀ (r:Int) (ns:List Nd) (ds:List Dp) (x:Int),D (r,ns,ds) x→∀ (a va b vb:Nat) (f1 f2:Bool) (M:Nat→AO) (n:Nat),M a=.vec va 9 f1 (nrows ns)→M b=.vec vb 2 f2 (prows ds)→X.call f [.agg [I r,.sl a va 9 0 ns.length,.sl b vb 2 0 ds.length],I x] M n=some (R (r,ns,ds) x,[])
theorem nrows_setN {ns:List Nd} {n i w:Nat} (hn:n<ns.length):(nrows ns).set n (I (gn ns n).1::(wcs (gn ns n).2).set i (U w))=nrows (setN ns n i w):=by
 have:wcs ((gn ns n).2.set i w)=(wcs (gn ns n).2).set i (U w):=by simp [wcs,List.map_set]
 rw [← this]
 show (nrows ns).set n (nrow ((gn ns n).1,(gn ns n).2.set i w))=_
 unfold setN nrows
 rw [List.map_set]
 rfl
def putT (t:Tb) (p w:Nat):Tb:=(t.1,setN t.2.1 (lsT t p).1 (dgt p (lsT t p).2.1) w,t.2.2)
abbrev PuD:=Tb×Nat×Nat
noncomputable def puS:List AV→List AO→Option (AV×List AO):=specG (ι:={x:PuD // ptO x.1 x.2.1∧x.2.2<2^64}) (fun x=>[.bp 0 0,I x.1.2.1,U x.1.2.2]) (fun x=>pMs x.1.1 1 1) (fun x=>.tup []) fun x=>pMs (putT x.1.1 x.1.2.1 x.1.2.2) 1 1
theorem puS_at {t:Tb} {p w:Nat} (h:ptO t p) (hw:w<2^64):puS [.bp 0 0,I p,U w] (pMs t 1 1)=some (.tup [],pMs (putT t p w) 1 1):=by
 refine specG_eq (ι:={x:PuD // ptO x.1 x.2.1∧x.2.2<2^64}) (A:=fun x=>[.bp 0 0,I x.1.2.1,U x.1.2.2]) (M:=fun x=>pMs x.1.1 1 1) (R:=fun x=>.tup []) (O:=fun x=>pMs (putT x.1.1 x.1.2.1 x.1.2.2) 1 1) ⟨(t,p,w),h,hw⟩ fun j hA hM=>?_
 obtain ⟨⟨t',p',w'⟩,h'⟩:=j
 have e:=pMs_inj hM
 simp only at e
 subst e
 simp only [List.cons.injEq,I,U,AV.v.injEq,Value.int.injEq,true_and,and_true] at hA
 have e1:p'=p:=by omega
 have e2:w'=w:=by omega
 subst e1 e2
 exact ⟨rfl,rfl⟩
theorem s130 (X:AX) (hX:XOK Tryz.prog X) (hw:X.W wT) (hla:OwnR X 110 (fun t x=>0≤x∧ptO t x.toNat) fun t x=>stV (lsT t x.toNat)) (hdg:∀ (p l:Nat),p<512→l≤2→∀ M n,X.call 139 [I p,I l] M n=some (I (dgt p l),[])):GSound Tryz.prog 130 puS:=by
 unfold puS
 refine gsound_spec Tryz.func130 rfl X fun ⟨⟨⟨r,ns,ds⟩,p,w⟩,hpt,hw64⟩ w0 L E=>⟨by show 3≤26;decide,?_⟩
 simp only at hw64
 have hp:p<512:=hpt.2.2.1
 have hla':=hla r ns ds p ⟨by omega,hpt⟩
 obtain ⟨hlt1,hlt2⟩:(lsT (r,ns,ds) p).1<ns.length∧(lsT (r,ns,ds) p).2.1≤2:=by
  obtain ⟨_,_,_,⟨rt,hrt⟩,_⟩:=hpt
  exact lst_lt (by unfold rtN;rw [hrt];exact fnd_lt hrt)
 have ht:=hpt.1
 have hl1:ns.length≤1000000:=ht.2.1
 have hl2:ds.length≤1000000:=ht.2.2
 have hR:putT (r,ns,ds) p w=(r,setN ns (lsT (r,ns,ds) p).1 (dgt p (lsT (r,ns,ds) p).2.1) w,ds):=rfl
 obtain ⟨⟨a,b,c⟩,hS⟩:∃ S,S=lsT (r,ns,ds) p:=⟨_,rfl⟩
 simp only [Int.toNat_natCast] at hla'
 rw [← hS] at hla' hlt1 hlt2 hR
 simp only at hla' hlt1 hlt2 hR
 have hdg':=hdg p b hp hlt2
 have hdl:=dgt_lt p b
 have haN:(a:Int)<(ns.length:Int):=by omega
 have hgn:=nrows_gi hlt1
 have hgnE:=nrows_gE hlt1
 have h8:(gn ns a).2.length=8:=(ht.1 _ (gn_mem hlt1)).1
 have hset:=@nrows_setN ns a (dgt p b) w hlt1
 have hwl:(wcs (gn ns a).2).length=8:=by simp [h8]
 obtain ⟨NS,hNS⟩:∃ NS,NS=setN ns a (dgt p b) w:=⟨_,rfl⟩
 have hNl:NS.length=ns.length:=by rw [hNS];simp
 rw [← hNS] at hset hR
 obtain ⟨⟨fr,ws⟩,hm⟩:∃ m,m=gn ns a:=⟨_,rfl⟩
 rw [← hm] at hgn hgnE hwl hset
 simp only at hgn hgnE hwl hset
 obtain ⟨cs,hcs⟩:∃ cs,cs=wcs ws:=⟨_,rfl⟩
 rw [← hcs] at hgn hgnE hwl hset
 obtain ⟨dg,hdg0⟩:∃ dg,dg=dgt p b:=⟨_,rfl⟩
 rw [← hdg0] at hdl hdg' hset
 have hdI:(dg:Int)<8:=by omega
 clear hcs hm h8 hS
 simp only [pMs,hR,hNl,stV,srow,U] at hla' hset ⊢
 show AW ⟨Tryz.prog,X,26,w0,⟨L,E,3⟩⟩ _ _ _
 have hc:Cx.OK ⟨Tryz.prog,X,26,w0,⟨L,E,3⟩⟩:=⟨hX,mixed⟩
 have zS:=jj hla'<|jj hdg'<|jj hlt1<|jj haN<|jj hgn<|jj hgnE<|jj hwl<|jj hdl<|jj hdI<|hset
 refine dM64 ?_
 repeat (intro K hK)
 clear zS
 refine ⟨[],rfl,?_⟩
 have hs1:(I fr::cs).set (1+dg) (AV.v (.int .u64 w))=I fr::cs.set dg (AV.v (.int .u64 w)):=by rw [Nat.add_comm];rfl
 rw [hs1,hset]
 simp only [idx]
 exact dle
noncomputable def adS:List AV→List AO→Option (AV×List AO):=specG (ι:={x:Tb×Int // tbOK x.1∧ascN x.1.2.1∧(∀ n∈x.1.2.1,n.1≠x.2)∧1≤x.1.2.1.length}) (fun x=>[.bp 0 0,I x.1.2]) (fun x=>pMs x.1.1 1 1) (fun x=>.tup []) fun x=>pMs (x.1.1.1,insK x.1.1.2.1 (x.1.2,zs8),x.1.1.2.2) 2 1
theorem adS_at {t:Tb} {f:Int} (ht:tbOK t) (ha:ascN t.2.1) (hn:∀ n∈t.2.1,n.1≠f) (hl:1≤t.2.1.length):adS [.bp 0 0,I f] (pMs t 1 1)=some (.tup [],pMs (t.1,insK t.2.1 (f,zs8),t.2.2) 2 1):=by
 refine specG_eq (ι:={x:Tb×Int // tbOK x.1∧ascN x.1.2.1∧(∀ n∈x.1.2.1,n.1≠x.2)∧1≤x.1.2.1.length}) (A:=fun x=>[.bp 0 0,I x.1.2]) (M:=fun x=>pMs x.1.1 1 1) (R:=fun x=>.tup []) (O:=fun x=>pMs (x.1.1.1,insK x.1.1.2.1 (x.1.2,zs8),x.1.1.2.2) 2 1) ⟨(t,f),ht,ha,hn,hl⟩ fun j hA hM=>?_
 obtain ⟨⟨t',f'⟩,h'⟩:=j
 have e:=pMs_inj hM
 simp only at e
 subst e
 simp only [List.cons.injEq,I,AV.v.injEq,Value.int.injEq,true_and,and_true] at hA
 subst hA
 exact ⟨rfl,rfl⟩
theorem s186 (X:AX) (hX:XOK Tryz.prog X) (hw:X.W wT) (hso:X.call 214=sortN):GSound Tryz.prog 186 adS:=by
 unfold adS
 refine gsound_spec Tryz.func186 rfl X fun ⟨⟨⟨r,ns,ds⟩,f⟩,ht,ha,hn,hl⟩ w0 L E=>⟨by show 2≤22;decide,?_⟩
 simp only at ha hn hl
 have hl1:ns.length≤1000000:=ht.2.1
 have hl2:ds.length≤1000000:=ht.2.2
 have hil:=@insK_len _ (f,zs8) ns
 simp only [pMs,hil]
 show AW ⟨Tryz.prog,X,22,w0,⟨L,E,3⟩⟩ _ _ _
 have hc:Cx.OK ⟨Tryz.prog,X,22,w0,⟨L,E,3⟩⟩:=⟨hX,mixed⟩
 have tkn:List.take ns.length (nrows ns)=nrows ns:=List.take_of_length_le (by simp)
 have ha1z:nrows ns++[[I f,.v (.int .u64 0),.v (.int .u64 0),.v (.int .u64 0),.v (.int .u64 0),.v (.int .u64 0),.v (.int .u64 0),.v (.int .u64 0),.v (.int .u64 0)]]=nrows (ns++[(f,zs8)]):=(nrows_snoc ns (f,zs8)).symm
 have hsort:∀ (M:Nat→AO) (bs nid:Nat),M bs=.box [.bp 0 0]→M 0=.box [I r,.sl 1 2 9 0 (ns.length+1),.sl 2 1 2 0 ds.length]→M 1=.vec 2 9 false (nrows (ns++[(f,zs8)]))→X.call 214 [.ifc 60 [.sl 1 2 9 0 (ns.length+1)],.fn 215 [.bp bs 0]] M nid=some (.tup [],[(1,.vec 2 9 false (nrows (insK ns (f,zs8))))]):=fun M bs nid h1 h2 h3=>by
  rw [hso]
  refine sortN_at (D:=⟨1,2,ns.length+1,bs,0,I r,.sl 2 1 2 0 ds.length,false,ns,(f,zs8)⟩) ⟨rfl,h1,h2,h3,by simp,ha,hn,hl,by show ns.length<1000000000;omega,fun a ha=>?_⟩
  rcases List.mem_append.1 ha with h|h
  ·exact nds8_of ht a h
  ·simp at h;rw [h];rfl
 have zS:=jj tkn<|jj ha1z<|hsort
 refine dF64 ?_
 repeat (intro K hK)
 clear zS
 refine ⟨[],rfl,?_⟩
 simp only [idx]
 trace_state
 exact dle
end Go.AM
set_option maxHeartbeats 4000000
namespace Go.AM
open Go Go.Proofs
set_option maxRecDepth 4000 in
theorem callAd {a b c:Nat} (hab:a≠b) (hac:a≠c) (hbc:b≠c) {r:Int} {ns:NdL} {ds:List Dp} {f:Int} (ht:tbOK (r,ns,ds)) (ha:ascN ns) (hn:∀ n∈ns,n.1≠f) (hl:1≤ns.length) {v v2:Nat} (M:Nat→AO) (nid:Nat)
  (h0:M a=.box [I r,.sl b (v+1) 9 0 ns.length,.sl c (v2+1) 2 0 ds.length]) (h1:M b=.vec (v+1) 9 false (nrows ns)) (h2:M c=.vec (v2+1) 2 false (prows ds)) :
  callG adS [.bp a 0,I f] M nid=some (.tup [],[(a,.box [I r,.sl b (v+2) 9 0 (ns.length+1),.sl c (v2+1) 2 0 ds.length]),(b,.vec (v+2) 9 false (nrows (insK ns (f,zs8)))),(c,.vec (v2+1) 2 false (prows ds))]):=by
 have hF:=adS_at (t:=(r,ns,ds)) ht ha hn hl
 have hil:=@insK_len _ (f,zs8) ns
 simp only [pMs,hil] at hF
 unfold callG
 have hba:b≠a:=fun e=>hab e.symm
 have hca:c≠a:=fun e=>hac e.symm
 have hcb:c≠b:=fun e=>hbc e.symm
 have hg:gat M 64 (nmsL [.bp a 0,I f]) []=[a,b,c]:=by
  simp [gat,nmsL,AV.nms,AO.nms,h0,h1,h2,hab,hac,hbc,hba,hca,hcb]
 simp only [hg]
 rw [if_pos ?cg]
 case cg=>simp [CallG,nmsL,AV.nms,AO.nms,Led,curBL,AV.curB,AO.curB,verOf,notDead,h0,h1,h2,hab,hac,hbc,hba,hca,hcb]
 have e1:2+v=v+2:=by omega
 have e2:1+v2=v2+1:=by omega
 simp [renL,AV.ren,AO.ren,posN,canO,nmsL,h0,h1,h2,hF,RetG,getL,AV.nms,AO.nms,updN,nmN,shN,verOf,rng,Led,hab,hac,hbc,hba,hca,hcb,e1,e2]
set_option maxRecDepth 4000 in
theorem callPu {a b c:Nat} (hab:a≠b) (hac:a≠c) (hbc:b≠c) {r:Int} {ns:NdL} {ds:List Dp} {p w:Nat} (h:ptO (r,ns,ds) p) (hw:w<2^64) {v v2:Nat} (M:Nat→AO) (nid:Nat)
  (h0:M a=.box [I r,.sl b (v+1) 9 0 ns.length,.sl c (v2+1) 2 0 ds.length]) (h1:M b=.vec (v+1) 9 false (nrows ns)) (h2:M c=.vec (v2+1) 2 false (prows ds)) :
  callG puS [.bp a 0,I p,U w] M nid=some (.tup [],[(a,.box [I r,.sl b (v+1) 9 0 ns.length,.sl c (v2+1) 2 0 ds.length]),(b,.vec (v+1) 9 false (nrows (putT (r,ns,ds) p w).2.1)),(c,.vec (v2+1) 2 false (prows ds))]):=by
 have hF:=puS_at h hw
 have e0:putT (r,ns,ds) p w=(r,(putT (r,ns,ds) p w).2.1,ds):=rfl
 have hil:(putT (r,ns,ds) p w).2.1.length=ns.length:=setN_len
 rw [e0] at hF
 simp only [pMs,hil,U] at hF
 unfold callG U
 have hba:b≠a:=fun e=>hab e.symm
 have hca:c≠a:=fun e=>hac e.symm
 have hcb:c≠b:=fun e=>hbc e.symm
 have hg:gat M 64 (nmsL [.bp a 0,I p,.v (.int .u64 w)]) []=[a,b,c]:=by
  simp [gat,nmsL,AV.nms,AO.nms,h0,h1,h2,hab,hac,hbc,hba,hca,hcb]
 simp only [hg]
 rw [if_pos ?cg]
 case cg=>simp [CallG,nmsL,AV.nms,AO.nms,Led,curBL,AV.curB,AO.curB,verOf,notDead,h0,h1,h2,hab,hac,hbc,hba,hca,hcb]
 have e1:1+v=v+1:=by omega
 have e2:1+v2=v2+1:=by omega
 simp [renL,AV.ren,AO.ren,posN,canO,nmsL,h0,h1,h2,hF,RetG,getL,AV.nms,AO.nms,updN,nmN,shN,verOf,rng,Led,hab,hac,hbc,hba,hca,hcb,e1,e2]
def stD (r:Int) (ds:List Dp) (p:Nat) (ns:NdL) (f:Int):NdL:=insK (setN ns (lsT (r,ns,ds) p).1 (dgt p (lsT (r,ns,ds) p).2.1) (f.toNat*256+4)) (f,zs8)
def dpN (r:Int) (ds:List Dp) (p:Nat) (ns:NdL) (fs:List Int):NdL:=fs.foldl (stD r ds p) ns
theorem dpN_0 {r:Int} {ds:List Dp} {p:Nat} {ns:NdL} {fs:List Int}:dpN r ds p ns (fs.take 0)=ns:=rfl
theorem dpN_s {r:Int} {ds:List Dp} {p:Nat} {ns:NdL} {fs:List Int} {i:Nat} (h:i<fs.length):dpN r ds p ns (fs.take (i+1))=stD r ds p (dpN r ds p ns (fs.take i)) (gi fs i):=by
 unfold dpN
 rw [gi_eq h,List.take_add_one,List.getElem?_eq_getElem h,List.foldl_append]
 rfl
def dpC (r:Int) (ds:List Dp) (p:Nat) (ns:NdL) (f:Int):Prop:=ptO (r,ns,ds) p∧(∀ n∈ns,n.1≠f)∧0≤f∧f≤4294967295
def dpOK (r:Int) (ds:List Dp) (p:Nat) (ns:NdL) (fs:List Int):Prop:=(p<512∧fs.length≤1000∧ns.length≤1000000∧ds.length≤1000000)∧∀ i,i<fs.length→dpC r ds p (dpN r ds p ns (fs.take i)) (gi fs i)
theorem setN_ok {ns:NdL} {n i w:Nat} (h:∀ x∈ns,ndOK x) (hw:w<2^64) (hn:n<ns.length):∀ x∈setN ns n i w,ndOK x:=fun x hx=>by
 rcases List.mem_or_eq_of_mem_set hx with h1|h1
 ·exact h x h1
 ·rw [h1]
  have hm:=h _ (gn_mem hn)
  refine ⟨by simp only [List.length_set];exact hm.1,fun y hy=>?_⟩
  rcases List.mem_or_eq_of_mem_set hy with h2|h2
  ·exact hm.2 y h2
  ·rw [h2];exact hw
theorem gE' {l:List Int} {n:Nat} (h:n<l.length):∀ h',l[n]'(h')=gi l n:=fun h'=>(gi_eq h).symm
theorem setN_fr {ns:NdL} {n i w:Nat} (hn:n<ns.length) {f:Int} (h:∀ x∈ns,x.1≠f):∀ x∈setN ns n i w,x.1≠f:=fun x hx=>by
 rcases List.mem_or_eq_of_mem_set hx with h1|h1
 ·exact h x h1
 ·have hm:=h _ (gn_mem hn)
  rw [h1];exact hm
abbrev DeD:=Tb×Nat×List Int
def dM (t:Tb) (p:Nat) (fs:List Int):List AO:=pMs (t.1,dpN t.1 t.2.2 p t.2.1 fs,t.2.2) (fs.length+1) 1
noncomputable def deS:List AV→List AO→Option (AV×List AO):=specG (ι:={x:DeD // dpOK x.1.1 x.1.2.2 x.2.1 x.1.2.1 x.2.2}) (fun x=>[.bp 0 0,I x.1.2.1,.rd 1 (irows x.1.2.2)]) (fun x=>pMs x.1.1 1 1) (fun x=>.tup []) fun x=>dM x.1.1 x.1.2.1 x.1.2.2
theorem deS_at {t:Tb} {p:Nat} {fs:List Int} (h:dpOK t.1 t.2.2 p t.2.1 fs):deS [.bp 0 0,I p,.rd 1 (irows fs)] (pMs t 1 1)=some (.tup [],dM t p fs):=by
 refine specG_eq (ι:={x:DeD // dpOK x.1.1 x.1.2.2 x.2.1 x.1.2.1 x.2.2}) (A:=fun x=>[.bp 0 0,I x.1.2.1,.rd 1 (irows x.1.2.2)]) (M:=fun x=>pMs x.1.1 1 1) (R:=fun x=>.tup []) (O:=fun x=>dM x.1.1 x.1.2.1 x.1.2.2) ⟨(t,p,fs),h⟩ fun j hA hM=>?_
 obtain ⟨⟨t',p',w'⟩,h'⟩:=j
 have e:=pMs_inj hM
 simp only at e
 subst e
 simp only [List.cons.injEq,I,AV.v.injEq,Value.int.injEq,true_and,and_true,AV.rd.injEq,irows_inj] at hA
 have e1:p'=p:=by omega
 have e2:w'=fs:=hA.2
 subst e1 e2
 exact ⟨rfl,rfl⟩
theorem s129 (X:AX) (hX:XOK Tryz.prog X) (hw:X.W wT) (hla:OwnR X 110 (fun t x=>0≤x∧ptO t x.toNat) fun t x=>stV (lsT t x.toNat)) (hdg:∀ (p l:Nat),p<512→l≤2→∀ M n,X.call 139 [I p,I l] M n=some (I (dgt p l),[]))
  (hen:∀ f:Nat,f≤4294967295→∀ M n,X.call 143 [.agg [I 4,I f,B false,B false,B false,B false]] M n=some (.tup [U ((f*256+4:Nat)),I 0],[])) (had:X.call 186=callG adS):GSound Tryz.prog 129 deS:=by
 unfold deS
 refine gsound_spec Tryz.func129 rfl X fun ⟨⟨⟨r,ns,ds⟩,p,fs⟩,⟨hp,hf8,hl1,hl2⟩,hdp⟩ w0 L E=>⟨by show 3≤46;decide,?_⟩
 simp only at hp hf8 hl1 hl2 hdp
 simp only [pMs,dM]
 show AW ⟨Tryz.prog,X,46,w0,⟨L,E,3⟩⟩ _ _ _
 have hc:Cx.OK ⟨Tryz.prog,X,46,w0,⟨L,E,3⟩⟩:=⟨hX,mixed⟩
 repeat' (first|(apply aw_seq_k;intro K hK)|(refine eM64o ?_)|(refine aw_cond (b:=_) (by exact rfl) (fun h=>?_) (fun h=>?_)<;>(try simp at h))|(refine eB ?_)|(refine hK _ ?_;clear hK)|(clear hK;refine hK _ ?_;clear hK)|(clear hK;clear hK;refine hK _ ?_;clear hK)|(clear hK;clear hK;clear hK;refine hK _ ?_;clear hK))
 refine aw_loopK (s0:=?lps1) (m0:=?lpm1) (ι:={i:Nat // i≤fs.length}) [0,1,11,12] (fun s=>[(13,I s.1)]) (fun s=>[(0,.box [I r,.sl 1 (s.1+1) 9 0 (dpN r ds p ns (fs.take s.1)).length,.sl 2 1 2 0 ds.length]),(1,.vec (s.1+1) 9 false (nrows (dpN r ds p ns (fs.take s.1))))]) (fun s=>fs.length - s.1) ⟨0,by simp⟩ ?lhs1 ?lhm1 ?_ ?_
 case lhs1=>first|(simp [keepS];done)|(simp [keepS];rfl)
 case lhm1=>first|rfl|(simp;done)|(simp;rfl)
 ·simp only [dpN_0]
  exact dle
 ·rintro ⟨i,hi⟩
  simp only at hi ⊢
  rcases Decidable.em (i<fs.length) with hil|hil
  ·have hilI:(i:Int)<(fs.length:Int):=by omega
   obtain ⟨hpt,hnf,hf0,hf1⟩:=hdp i hil
   have hds:=@dpN_s r ds p ns fs i hil
   have hg1:=irows_gi hil
   have hg2:=gE' hil
   obtain ⟨NS,hNS⟩:∃ NS,NS=dpN r ds p ns (fs.take i):=⟨_,rfl⟩
   rw [← hNS] at hpt hnf hds ⊢
   obtain ⟨f,hf⟩:=Int.eq_ofNat_of_zero_le hf0
   rw [hf] at hf1 hnf hds hg1 hg2
   have hen':=hen f (by omega)
   have hla':=hla r NS ds p ⟨by omega,hpt⟩
   obtain ⟨hlt1,hlt2⟩:(lsT (r,NS,ds) p).1<NS.length∧(lsT (r,NS,ds) p).2.1≤2:=by
    obtain ⟨_,_,_,⟨rt,hrt⟩,_⟩:=hpt
    exact lst_lt (by unfold rtN;rw [hrt];exact fnd_lt hrt)
   have ht:=hpt.1
   have ha:=hpt.2.1
   have hNl:NS.length≤1000000:=ht.2.1
   unfold stD at hds
   obtain ⟨⟨a,b,c⟩,hS⟩:∃ S,S=lsT (r,NS,ds) p:=⟨_,rfl⟩
   simp only [Int.toNat_natCast] at hla' hds
   rw [← hS] at hla' hlt1 hlt2 hds
   simp only at hla' hlt1 hlt2 hds
   have hdg':=hdg p b hp hlt2
   have hdl:=dgt_lt p b
   have haN:(a:Int)<(NS.length:Int):=by omega
   have hgn:=nrows_gi hlt1
   have hgnE:=nrows_gE hlt1
   have h8:(gn NS a).2.length=8:=(ht.1 _ (gn_mem hlt1)).1
   obtain ⟨w,hwd⟩:∃ w,w=f*256+4:=⟨_,rfl⟩
   rw [← hwd] at hen' hds
   have hset:=@nrows_setN NS a (dgt p b) w hlt1
   have hwl:(wcs (gn NS a).2).length=8:=by simp [h8]
   have hw64:w<2^64:=by omega
   obtain ⟨NT,hNT⟩:∃ NT,NT=setN NS a (dgt p b) w:=⟨_,rfl⟩
   have hNl2:NT.length=NS.length:=by rw [hNT];simp
   have ht2:tbOK (r,NT,ds):=⟨by rw [hNT];exact setN_ok ht.1 hw64 hlt1,by show NT.length≤1000000;omega,hl2⟩
   have ha2:ascN NT:=by rw [hNT];exact setN_asc ha hlt1
   have hn2:∀ n∈NT,n.1≠(f:Int):=by rw [hNT];exact setN_fr hlt1 hnf
   have hca:=fun M n=>@callAd 0 1 2 (by decide) (by decide) (by decide) r NT ds f ht2 ha2 hn2 (by omega) i 0 M n
   rw [← had] at hca
   simp only [hNl2,Nat.zero_add] at hca
   rw [← hNT] at hset hds
   obtain ⟨⟨fr,ws⟩,hm⟩:∃ m,m=gn NS a:=⟨_,rfl⟩
   rw [← hm] at hgn hgnE hwl hset
   simp only at hgn hgnE hwl hset
   obtain ⟨cs,hcs⟩:∃ cs,cs=wcs ws:=⟨_,rfl⟩
   rw [← hcs] at hgn hgnE hwl hset
   obtain ⟨dg,hdg0⟩:∃ dg,dg=dgt p b:=⟨_,rfl⟩
   rw [← hdg0] at hdl hdg' hset
   have hdI:(dg:Int)<8:=by omega
   clear hcs hm h8 hS
   have hs1:∀ w:Int,(I fr::cs).set (1+dg) (AV.v (.int .u64 w))=I fr::cs.set dg (AV.v (.int .u64 w)):=fun w=>by rw [Nat.add_comm];rfl
   have hil2:=@insK_len _ ((f:Int),zs8) NT
   clear hwd
   simp only [stV,srow,U] at hla' hset hen'
   have zS:=jj hilI<|jj hg1<|jj hg2<|jj hla'<|jj hen'<|jj hdg'<|jj hlt1<|jj haN<|jj hgn<|jj hgnE<|jj hwl<|jj hdl<|jj hdI<|jj hset<|jj hs1<|hca
   repeat' (first|(apply aw_seq_k;intro K hK)|(refine eF64 ?_)|(refine aw_cond (b:=_) (by exact rfl) (fun h=>?_) (fun h=>?_)<;>(try simp at h))|(refine eB ?_)|(refine hK _ ?_;clear hK)|(clear hK;refine hK _ ?_;clear hK)|(clear hK;clear hK;refine hK _ ?_;clear hK)|(clear hK;clear hK;clear hK;refine hK _ ?_;clear hK))
   all_goals clear zS
   refine ⟨i+1,?_,by omega,by omega⟩
   simp only [hds,hil2,hNl2]
   exact dle
  ·obtain rfl:i=fs.length:=by omega
   repeat' (first|(apply aw_seq_k;intro K hK)|(refine eM64o ?_)|(refine aw_cond (b:=_) (by exact rfl) (fun h=>?_) (fun h=>?_)<;>(try simp at h))|(refine eB ?_)|(refine hK _ ?_;clear hK)|(clear hK;refine hK _ ?_;clear hK)|(clear hK;clear hK;refine hK _ ?_;clear hK)|(clear hK;clear hK;clear hK;refine hK _ ?_;clear hK))
   refine ⟨[],rfl,?_⟩
   simp only [idx]
   exact dle
end Go.AM
