/- A part of the proof. -/
import Derived.Test.YtcfhmdljeeppfaaGreatCPt27
import Derived.Test.YtcfhmdljeeppfaaGreatCAmW
import Derived.Test.YtcfhmdljeeppfaaGreatCAmTa
import Derived.Shelf.Sort.Plain
import Derived.Shelf.Slices.In.SortNone
set_option linter.all false
namespace Go.AM
open Go Go.Proofs Go.Sort
def encN (x:Nd):List Value:=.int .i64 x.1::(List.range 8).map fun i=>.int .u64 (x.2.getD i 0:Nat)
theorem encN_len (x:Nd):(encN x).length=9:=by simp [encN]
def ltN (a b:Nd):Bool:=decide (a.1<b.1)
theorem swoN:SWO ltN where
 irrefl x:=by simp [ltN]
 trans x y z h1 h2:=by simp only [ltN,decide_eq_true_eq] at *;omega
 ntrans x y z h1 h2:=by simp only [ltN,decide_eq_false_iff_not] at *;omega
theorem encN_one (x:Nd):∀ v∈encN x,v.oneCell'=true:=fun v hv=>by
 simp only [encN,List.mem_cons,List.mem_map] at hv
 rcases hv with rfl|⟨i,_,rfl⟩<;>rfl
theorem encN_row {x:Nd} (h8:x.2.length=8) {c:Nat} (hc:c<9):∃ y,(nrow x)[c]?=some (.v y)∧(encN x)[c]! = y:=by
 cases c with
 | zero=>exact ⟨_,rfl,rfl⟩
 | succ c =>
  refine ⟨.int .u64 (x.2.getD c 0:Nat),?_,?_⟩
  ·show (wcs x.2)[c]?=_
   unfold wcs
   rw [List.getElem?_map,List.getElem?_eq_getElem (by omega),List.getD_eq_getElem?_getD,List.getElem?_eq_getElem (by omega)]
   rfl
  ·have:c<8:=by omega
   simp [encN,this]
structure SortD where
 nd:Nat
 m:Nat
 n:Nat
 bs:Nat
 tb:Nat
 r:AV
 dsA:AV
 f:Bool
 l:List Nd
 x:Nd
def SortD.ok (D:SortD) (avs:List AV) (M:Nat→AO):Prop :=
 avs=[.ifc 60 [.sl D.nd D.m 9 0 D.n],.fn 215 [.bp D.bs 0]]∧M D.bs=.box [.bp D.tb 0]∧M D.tb=.box [D.r,.sl D.nd D.m 9 0 D.n,D.dsA]∧M D.nd=.vec D.m 9 D.f (nrw (D.l++[D.x]))∧D.n=(D.l++[D.x]).length ∧
  ascK D.l∧(∀ a∈D.l,a.1≠D.x.1)∧1≤D.l.length∧D.l.length<1000000000∧nds8 (D.l++[D.x])
open Classical in
noncomputable def sortN (avs:List AV) (M:Nat→AO) (_:Nat):Option (AV×List (Nat×AO)) :=
 if h:∃ D:SortD,D.ok avs M then some (.tup [],[(h.choose.nd,.vec h.choose.m 9 h.choose.f (nrw (insK h.choose.l h.choose.x)))]) else none
theorem sortN_at {D:SortD} {avs:List AV} {M:Nat→AO} {nid:Nat} (h:D.ok avs M):sortN avs M nid=some (.tup [],[(D.nd,.vec D.m 9 D.f (nrw (insK D.l D.x)))]):=by
 unfold sortN
 have hex:∃ D:SortD,D.ok avs M:=⟨D,h⟩
 rw [dif_pos hex]
 have hc:=hex.choose_spec
 obtain ⟨C,hC⟩:∃ C,C=hex.choose:=⟨_,rfl⟩
 rw [← hC] at hc ⊢
 obtain ⟨a1,a2,a3,a4,a5,_⟩:=h
 obtain ⟨b1,b2,b3,b4,b5,_⟩:=hc
 rw [a1] at b1
 simp only [cJ,AV.ifc.injEq,AV.fn.injEq,AV.sl.injEq,AV.bp.injEq,and_true,true_and] at b1
 obtain ⟨⟨e1,e2,e3⟩,e4⟩:=b1
 rw [← e1] at b4
 rw [a4] at b4
 simp only [AO.vec.injEq,true_and,nrows_inj] at b4
 obtain ⟨_,e6,e7⟩:=b4
 obtain ⟨e8,e9⟩:=List.append_inj' e7 (by simp)
 simp only [cJ,and_true] at e9
 rw [← e1,← e2,← e6,← e8,← e9]
theorem sort_ok:CallOK Tryz.prog 214 sortN:=by
 intro avs M nid av u hc w0 bl E w args hr hM hI _
 have htup:∀ (E':Env) (w':World),Rep E' w' (.tup []) (.tuple #[]):=fun E' w'=>by simp only [Rep];exact ⟨[],rfl,by simp [RepL]⟩
 by_cases hex:∃ D:SortD,D.ok avs M
 case neg=>unfold sortN at hc;rw [dif_neg hex] at hc;simp at hc
 obtain ⟨D,hD⟩:=hex
 rw [sortN_at hD] at hc
 simp only [oJ,pJ] at hc
 obtain ⟨rfl,rfl⟩:=hc
 obtain ⟨nd,m,n,bs,tb,r,dsA,f,l,x⟩:=D
 obtain ⟨ha,hbs,htb,hnd,hn,hasc,hne,h1l,hlt,h8⟩:=hD
 simp only at ha hbs htb hnd hn hasc hne h1l hlt h8 ⊢
 subst ha
 obtain ⟨L,hL⟩:∃ L,L=l++[x]:=⟨_,rfl⟩
 rw [← hL] at hnd hn h8
 have hLl:L.length=l.length+1:=by rw [hL];simp
 subst hn
 obtain ⟨v,y,rfl,hv,hy⟩:∃ v y,args=#[.iface 60 v,.func (.func 215) #[] #[y]]∧Rep E w (.sl nd m 9 0 L.length) v∧Rep E w (.bp bs 0) y:=by
  cases hargs:args.toList with
  | nil=>rw [hargs] at hr;simp [RepL] at hr
  | cons a1 rr =>
   rw [hargs] at hr
   simp only [RepL] at hr
   cases rr with
   | nil=>simp [RepL] at hr
   | cons a2 rr =>
    simp only [RepL] at hr
    cases rr with
    | cons a3 rr=>simp [RepL] at hr
    | nil =>
     obtain ⟨h1,h2,_⟩:=hr
     simp only [Rep] at h1 h2
     obtain ⟨v,rfl,h3⟩:=h1
     obtain ⟨vs,rfl,h4⟩:=h2
     simp only [RepL] at h3
     cases vs with
     | nil=>simp [RepL] at h4
     | cons y vs =>
      simp only [RepL] at h4
      cases vs with
      | cons z vs=>simp [RepL] at h4
      | nil=>exact ⟨v,y,by rw [← Array.toArray_toList (xs:=args),hargs],by simpa only [Rep] using h3.1,by simpa only [Rep] using h4.1⟩
 simp only [Rep] at hv hy
 obtain ⟨hal,h1,h2,p,c,rfl,hnc,hpn,hsl⟩:=hv
 obtain ⟨hbal,hbv,bblk,bsz,hbl,rfl⟩:=hy
 have ho:=hM nd hal
 rw [hnd] at ho
 simp only [ObR] at ho
 obtain ⟨hv,hm1,ho⟩:=ho
 cases hlc:E.loc nd with
 | none =>
  simp only [hlc] at ho
  have:L.length=0:=by
   have:=congrArg List.length ho
   rwa [nrows_length] at this
  omega
 | some LL =>
  obtain ⟨blk,base,sz⟩:=LL
  simp only [hlc] at ho
  obtain ⟨ca,t,hheap,hszc,honec,hfit,hff,hrows⟩:=ho
  have hs2:=hsl hv.symm
  simp only [hlc,SlAt] at hs2
  obtain ⟨a,rfl,haa,hcs⟩:=hs2
  have haa:=haa.resolve_left (by omega)
  simp only [Nat.zero_mul,Nat.add_zero] at haa
  subst haa
  have hblk:blk<w.heap.size:=(Array.getElem?_eq_some_iff.1 hheap).1
  have hob:=hM bs hbal
  rw [hbs] at hob
  simp only [ObR] at hob
  obtain ⟨_,bblk',bt,bvs,hbl2,hbheap,_,hbrep⟩:=hob
  rw [hbl] at hbl2
  simp only [oJ,pJ,true_and] at hbl2
  obtain ⟨rfl,rfl⟩:=hbl2
  obtain ⟨tp,rfl,htp⟩:∃ tp,bvs=[tp]∧Rep E w (.bp tb 0) tp:=by
   cases bvs with
   | nil=>simp [RepL] at hbrep
   | cons tp q=>cases q with
    | nil=>simp only [RepL] at hbrep;exact ⟨tp,rfl,hbrep.1⟩
    | cons z q=>simp [RepL] at hbrep
  simp only [Rep] at htp
  obtain ⟨htal,_,tblk,tsz,htl,rfl⟩:=htp
  have hot:=hM tb htal
  rw [htb] at hot
  simp only [ObR] at hot
  obtain ⟨_,tblk',tt,tvs,htl2,htheap,_,htrep⟩:=hot
  rw [htl] at htl2
  simp only [oJ,pJ,true_and] at htl2
  obtain ⟨rfl,rfl⟩:=htl2
  obtain ⟨t0,t1,t2,rfl,ht1⟩:∃ t0 t1 t2,tvs=[t0,t1,t2]∧Rep E w (.sl nd m 9 0 L.length) t1:=by
   match tvs,htrep with
   | [t0,t1,t2],h=>simp only [RepL] at h;exact ⟨t0,t1,t2,rfl,h.2.1⟩
   | [],h=>simp [RepL] at h
   | [_],h=>simp [RepL] at h
   | [_,_],h=>simp [RepL] at h
   | _::_::_::_::_,h=>simp [RepL] at h
  simp only [Rep] at ht1
  obtain ⟨_,_,_,p2,c2,rfl,hnc2,_,hsl2⟩:=ht1
  have hs3:=hsl2 hv.symm
  simp only [hlc,SlAt] at hs3
  obtain ⟨a2,rfl,ha2,_⟩:=hs3
  have ha2:=ha2.resolve_left (by omega)
  simp only [Nat.zero_mul,Nat.add_zero] at ha2
  subst ha2
  have hbne:bblk≠blk:=fun e=>by
   subst e
   have:=hI.apart bs nd bblk 0 _ base sz hbal hal hbl hlc
   subst this
   rw [hbs] at hnd;simp at hnd
  have htne:tblk≠blk:=fun e=>by
   subst e
   have:=hI.apart tb nd tblk 0 _ base sz htal hal htl hlc
   subst this
   rw [htb] at hnd;simp at hnd
  have hB1:bblk<w.heap.size:=(Array.getElem?_eq_some_iff.1 hbheap).1
  have hT1:tblk<w.heap.size:=(Array.getElem?_eq_some_iff.1 htheap).1
  have hBc:w.cell? ⟨bblk,0,none⟩=some (.pointer (some ⟨tblk,0,none⟩)):=by
   unfold World.cell?;rw [hbheap];rfl
  have hTc:w.cell? ⟨tblk,1,none⟩=some (.slice (some ⟨blk,base,none⟩) L.length c2):=by
   unfold World.cell?;rw [htheap];rfl
  have hcell:∀ i,i<L.length→∀ c',c'<9→w.cell? ⟨blk,base+i*9+c',none⟩=some ((encN (L[i]!))[c']!):=fun i hi c' hc'=>by
   have h3:=hrows.get (i:=i) (e:=nrow L[i]) (by simp [nrw,hi])
   rw [getElem!_pos L i hi]
   obtain ⟨y,hy1,hy2⟩:=encN_row (h8 _ (List.getElem_mem hi)) hc'
   obtain ⟨z,h4,_,h5⟩:=h3.2.get hy1
   simp only [CRep] at h5
   subst h5
   rw [hy2];exact h4
  have hfz:∀ j,w.frozen? ⟨blk,base+j,none⟩=false:=fun j=>by
   unfold World.frozen?
   rw [hheap]
   simp
  have hH:HoldsK encN 9 w blk base L.toArray:=fun j hj=>⟨by
   have hj2:j<L.toArray.size*9:=by simpa using hj
   have hjl:j<L.length*9:=by simpa using hj
   rw [get_flatK _ _ _ _ hj2]
   have:=hcell (j/9) (by omega) (j%9) (by omega)
   rw [show base+j/9*9+j%9=base+j by omega] at this
   rw [this]
   simp,hfz j⟩
  have hless:LessReadsK Tryz.prog 215 #[.pointer (some ⟨bblk,0,none⟩)] encN 9 ltN blk base L.toArray.size w:=by
   intro mm os dk hs i j hi hj
   have e:sortWorldK encN 9 w blk base mm dk os=putRowK encN 9 (grow (Sort.ahead w mm) os) blk base dk:=by
    unfold sortWorldK;rw [putRowK_grow _ _ (Sort.ahead w mm) _ blk base _ hblk]
   have hHg:HoldsK encN 9 (grow (Sort.ahead w mm) os) blk base L.toArray:=holdsK_grow _ _ _ _ blk base L.toArray hblk (holdsK_ahead _ _ _ _ _ _ _ hH)
   refine Ptn.less blk base c2 bblk tblk L.toArray.size _ (fun t=>dk[t]!.1) ?_ ?_ (fun t ht=>?_) i j hi hj
   ·rw [e,cell?_putRowK_other _ _ _ blk base dk _ hbne,cell?_grow _ _ _ (by exact hB1)];exact hBc
   ·rw [e,cell?_putRowK_other _ _ _ blk base dk _ htne,cell?_grow _ _ _ (by exact hT1)];simpa using hTc
   ·rw [e];exact ((holdsK_putRowK _ _ _ blk base L.toArray dk hHg hs).cell (i:=t) (c:=0) (by omega) (by omega)).1
  have:=Any.sort_Slice_cells_sorted laySort 60 150 Ptn.svT Ptn.svE (by kernel_rfl) (by kernel_rfl) (by kernel_rfl) (by kernel_rfl) 25 (fun _=>by kernel_rfl) encN 9 encN_len (by kernel_rfl) (fun _=>by kernel_rfl)
   encN_one ltN swoN 215 #[.pointer (some ⟨bblk,0,none⟩)] (enters_of Tryz.func215 (by kernel_rfl) rfl) blk base c L.toArray (by simp;omega) (by simp;omega) 259 (by rw [Ptn.svK _ (by simp;omega)];kernel_rfl) false
   (fun args W=>run_callFunc_extern Tryz.func259 (by kernel_rfl) (by kernel_rfl) (by kernel_rfl) (e:=Extern.ReflectliteSwapper.swap false) (by kernel_rfl) args W) w hless hH hblk
  have hnod:∀ a∈L,∀ b∈L,True:=fun _ _ _ _=>trivial
  refine Calls.mono (this:Calls Tryz.prog 214 _ _ _) fun e w' ⟨he,d',nn,os,hper,hsrt,hw⟩=>?_
  obtain ⟨hds,_,hperm⟩:=hper
  have hS:d'.toList=insK l x:=by
   refine insK_of_perm hasc hne ?_ ?_
   ·refine List.pairwise_iff_getElem.2 fun i j hi hj hij=>?_
    have hi':i<d'.size:=by simpa using hi
    have hj':j<d'.size:=by simpa using hj
    have:=hsrt i j (Nat.zero_le _) hij (by rw [← hds];exact hj')
    rw [getElem!_pos d' i hi',getElem!_pos d' j hj'] at this
    simp only [ltN,decide_eq_false_iff_not] at this
    simpa using this
   ·have e1:(d'.extract 0 L.toArray.size).toList=d'.toList:=by
     rw [← hds];simp
    have e2:(L.toArray.extract 0 L.toArray.size).toList=L:=by simp
    rw [e1,e2,hL] at hperm
    exact hperm
  obtain ⟨K,hK⟩:∃ K,K=insK l x:=⟨_,rfl⟩
  have hd':d'=K.toArray:=by rw [hK,← hS]
  have hKl:K.length=L.length:=by rw [hK,insK_len,hLl]
  have hK8:nds8 K:=fun a ha=>by
   rw [hK] at ha
   rcases mem_insK.1 ha with h|h
   ·exact h8 a (by rw [hL,h];simp)
   ·exact h8 a (by rw [hL];simp [h])
  subst hd'
  rw [← hK]
  have hsz1:K.toArray.size=L.toArray.size:=by simp [hKl]
  have hH2:HoldsK encN 9 w' blk base K.toArray:=by
   rw [hw,← putRowK_grow _ _ (Sort.ahead w nn) _ blk base _ hblk]
   exact holdsK_putRowK _ _ _ blk base L.toArray _ (holdsK_grow _ _ _ _ blk base L.toArray hblk (holdsK_ahead _ _ _ _ _ _ _ hH)) hsz1
  have hsize:w.heap.size≤w'.heap.size:=by
   have e1:(putRowK encN 9 (Sort.ahead w nn) blk base K.toArray).heap.size=w.heap.size:=by
    unfold putRowK
    simp only [putRow,mapBlock,Array.size_modify]
    rfl
   rw [hw,size_grow,e1]
   omega
  have hother:∀ k,k<w.heap.size→k≠blk→w'.heap[k]?=w.heap[k]?:=fun k hk hne=>by
   rw [hw]
   unfold putRowK
   rw [heap_grow_old _ _ (by simpa [ahead] using hk)]
   simp only [putRow,mapBlock,Array.getElem?_modify]
   rw [if_neg (fun e=>hne e.symm)]
   rfl
  have hown:w'.heap[blk]?=some (.cells (putCells id base (flatK encN 9 K.toArray) ca) t (0,0)):=by
   rw [hw]
   unfold putRowK
   rw [heap_grow_old _ _ (by simpa [ahead] using hblk)]
   simp only [putRow,mapBlock,Array.getElem?_modify,if_true]
   have e:∀ n,(Sort.ahead w n).heap=w.heap:=fun n=>rfl
   rw [e,hheap]
   rfl
  refine ⟨_,E.upd nd m (some (blk,base,sz)),he,?_,htup _ _⟩
  refine StT.one hI nd _ m _ (fun _=>.inl ⟨hv.symm,hlc.symm⟩) (fun blk' base' sz' e=>?_) hsize (by rw [hw];rfl) (by rw [hw];rfl) (fun k hk hn=>hother k hk fun e=>?_) ?_
  ·simp only [oJ,pJ] at e
   exact .inl ⟨base,sz,hal,by rw [hlc,e.1]⟩
  ·subst e;exact hn base sz hal hlc
  ·simp only [ObR,Env.upd,if_true]
   refine ⟨trivial,hm1,_,t,hown,by simpa [putCells] using hszc,fun y hy=>?_,by simpa [hKl] using hfit,fun hf=>by simpa [hKl] using hff hf,CRows.of_get fun i e hi=>?_⟩
   ·rw [Array.mem_toList_iff] at hy
    obtain ⟨k,hk,rfl⟩:=Array.mem_iff_getElem.1 hy
    simp only [putCells,Array.getElem_mapIdx]
    split
    ·rename_i hcond
     have hk2:k - base<K.toArray.size*9:=by
      have:=hcond.2
      rw [size_flatK] at this
      omega
     rw [get_flatK _ _ _ _ hk2]
     have hlen:=encN_len (K.toArray[(k - base)/9]!)
     refine encN_one (K.toArray[(k - base)/9]!) _ ?_
     rw [getElem!_pos (encN (K.toArray[(k - base)/9]!)) ((k - base)%9) (by rw [hlen];omega)]
     exact List.getElem_mem _
    ·exact honec _ (by rw [Array.mem_toList_iff];exact Array.getElem_mem _)
   ·have hil:i<K.length:=by
     have:=(List.getElem?_eq_some_iff.1 hi).1
     simpa using this
    simp only [nrw,List.getElem?_map,List.getElem?_eq_getElem hil,Option.map_some,oJ] at hi
    subst hi
    have hi8:=hK8 _ (List.getElem_mem hil)
    refine ⟨by simp [nrow,hi8],CCs.of_get fun c a hc=>?_⟩
    have hc9:c<9:=by
     have:=(List.getElem?_eq_some_iff.1 hc).1
     simpa [nrow,hi8] using this
    have hA:=(hH2.cell (i:=i) (c:=c) (by simpa using hil) hc9).1
    simp only [List.getElem!_toArray] at hA
    rw [getElem!_pos K i hil] at hA
    obtain ⟨y,hy1,hy2⟩:=encN_row hi8 hc9
    rw [hy1] at hc
    simp only [oJ] at hc
    subst hc
    rw [hy2] at hA
    refine ⟨y,hA,?_,by simp only [CRep]⟩
    refine encN_one K[i] _ ?_
    have hlen:=encN_len K[i]
    rw [← hy2,getElem!_pos (encN K[i]) c (by rw [hlen];omega)]
    exact List.getElem_mem _
theorem sort_keys {avs:List AV} {M:Nat→AO} {nid:Nat} {r:AV×List (Nat×AO)} (h:sortN avs M nid=some r):∀ b∈r.2.map (·.1),(nid≤b∧b<nid+16)∨M b≠.dead:=by
 by_cases hex:∃ D:SortD,D.ok avs M
 case neg=>unfold sortN at h;rw [dif_neg hex] at h;simp at h
 obtain ⟨D,hD⟩:=hex
 rw [sortN_at hD] at h
 simp only [oJ] at h
 subst h
 intro b hb
 simp at hb
 subst hb
 exact .inr (by rw [hD.2.2.2.1];simp)
end Go.AM
set_option maxHeartbeats 4000000
namespace Go.AM
open Go Go.Proofs Tryz
def pMs (t:Tb) (v v2:Nat):List AO:=[.box [I t.1,.sl 1 v 9 0 t.2.1.length,.sl 2 v2 2 0 t.2.2.length],.vec v 9 false (nrw t.2.1),.vec v2 2 false (prw t.2.2)]
theorem pMs_inj {t t':Tb} {v v2:Nat} (h:pMs t v v2=pMs t' v v2):t=t':=by
 obtain ⟨r,ns,ds⟩:=t
 obtain ⟨r',ns',ds'⟩:=t'
 simp only [pMs,cJ,AO.box.injEq,I,AV.v.injEq,Value.int.injEq,true_and,AO.vec.injEq,nrows_inj,prows_inj,and_true] at h
 obtain ⟨⟨h1,_⟩,h2,h3⟩:=h
 rw [h1,h2,h3]
def OwnR (X:AX) (f:FuncId) (D:Tb→Int→Prop) (R:Tb→Int→AV):Prop :=
 ∀ (r:Int) (ns:List Nd) (ds:List Dp) (x:Int),D (r,ns,ds) x→∀ (a va b vb:Nat) (f1 f2:Bool) (M:Nat→AO) (n:Nat),M a=.vec va 9 f1 (nrw ns)→M b=.vec vb 2 f2 (prw ds)→X.call f [.agg [I r,.sl a va 9 0 ns.length,.sl b vb 2 0 ds.length],I x] M n=some (R (r,ns,ds) x,[])
theorem nrows_setN {ns:List Nd} {n i w:Nat} (hn:n<ns.length):(nrw ns).set n (I (gn ns n).1::(wcs (gn ns n).2).set i (U w))=nrw (setN ns n i w):=by
 have:wcs ((gn ns n).2.set i w)=(wcs (gn ns n).2).set i (U w):=by simp [wcs,List.map_set]
 rw [← this]
 show (nrw ns).set n (nrow ((gn ns n).1,(gn ns n).2.set i w))=_
 unfold setN nrw
 rw [List.map_set]
 rfl
def putT (t:Tb) (p w:Nat):Tb:=(t.1,setN t.2.1 (lsT t p).1 (dgt p (lsT t p).2.1) w,t.2.2)
abbrev PuD:=Tb×Nat×Nat
noncomputable def puS:List AV→List AO→Option (AV×List AO):=specG (ι:={x:PuD // ptO x.1 x.2.1∧x.2.2<2^64}) (fun x=>[.bp 0 0,I x.1.2.1,U x.1.2.2]) (fun x=>pMs x.1.1 1 1) (fun x=>.tup []) fun x=>pMs (putT x.1.1 x.1.2.1 x.1.2.2) 1 1
theorem puS_at {t:Tb} {p w:Nat} (h:ptO t p) (hw:w<2^64):puS [.bp 0 0,I p,U w] (pMs t 1 1)=some (.tup [],pMs (putT t p w) 1 1):=by
 refine sGe (ι:={x:PuD // ptO x.1 x.2.1∧x.2.2<2^64}) (A:=fun x=>[.bp 0 0,I x.1.2.1,U x.1.2.2]) (M:=fun x=>pMs x.1.1 1 1) (R:=fun x=>.tup []) (O:=fun x=>pMs (putT x.1.1 x.1.2.1 x.1.2.2) 1 1) ⟨(t,p,w),h,hw⟩ fun j hA hM=>?_
 obtain ⟨⟨t',p',w'⟩,h'⟩:=j
 have e:=pMs_inj hM
 simp only at e
 subst e
 simp only [cJ,I,U,AV.v.injEq,Value.int.injEq,true_and,and_true] at hA
 have e1:p'=p:=by omega
 have e2:w'=w:=by omega
 subst e1 e2
 exact ⟨rfl,rfl⟩
theorem s130 (X:AX) (hX:XOK prog X) (hw:X.W wT) (hla:OwnR X 110 (fun t x=>0≤x∧ptO t x.toNat) fun t x=>stV (lsT t x.toNat)) (hdg:∀ (p l:Nat),p<512→l≤2→∀ M n,X.call 139 [I p,I l] M n=some (I (dgt p l),[])):GSd prog 130 puS:=by
 unfold puS
 refine gsS func130 rfl X fun ⟨⟨⟨r,ns,ds⟩,p,w⟩,hpt,hw64⟩ w0 L E=>⟨by show 3≤26;decide,?_⟩
 simp only at hw64
 have hp:p<512:=hpt.2.2.1
 have hla':=hla r ns ds p ⟨by omega,hpt⟩
 obtain ⟨hlt1,hlt2⟩:(lsT (r,ns,ds) p).1<ns.length∧(lsT (r,ns,ds) p).2.1≤2:=by
  obtain ⟨_,_,_,⟨rt,hrt⟩,_⟩:=hpt
  exact lst_lt (by unfold rtN;rw [hrt];exact fnd_lt hrt)
 have ht:=hpt.1
 have hl1:ns.length≤1000000:=ht.2.1
 have hl2:ds.length≤1000000:=ht.2.2
 have hR:putT (r,ns,ds) p w=(r,setN ns (lsT (r,ns,ds) p).1 (dgt p (lsT (r,ns,ds) p).2.1) w,ds):=rfl
 obtain ⟨⟨a,b,c⟩,hS⟩:∃ S,S=lsT (r,ns,ds) p:=⟨_,rfl⟩
 simp only [Int.toNat_natCast] at hla'
 rw [← hS] at hla' hlt1 hlt2 hR
 simp only at hla' hlt1 hlt2 hR
 have hdg':=hdg p b hp hlt2
 have hdl:=dgt_lt p b
 have haN:(a:Int)<(ns.length:Int):=by omega
 have hgn:=nrG hlt1
 have hgnE:=nrE hlt1
 have h8:(gn ns a).2.length=8:=(ht.1 _ (gn_mem hlt1)).1
 have hset:=@nrows_setN ns a (dgt p b) w hlt1
 have hwl:(wcs (gn ns a).2).length=8:=by simp [h8]
 obtain ⟨NS,hNS⟩:∃ NS,NS=setN ns a (dgt p b) w:=⟨_,rfl⟩
 have hNl:NS.length=ns.length:=by rw [hNS];simp
 rw [← hNS] at hset hR
 obtain ⟨⟨fr,ws⟩,hm⟩:∃ m,m=gn ns a:=⟨_,rfl⟩
 rw [← hm] at hgn hgnE hwl hset
 simp only at hgn hgnE hwl hset
 obtain ⟨cs,hcs⟩:∃ cs,cs=wcs ws:=⟨_,rfl⟩
 rw [← hcs] at hgn hgnE hwl hset
 obtain ⟨dg,hdg0⟩:∃ dg,dg=dgt p b:=⟨_,rfl⟩
 rw [← hdg0] at hdl hdg' hset
 have hdI:(dg:Int)<8:=by omega
 clear hcs hm h8 hS
 simp only [pMs,hR,hNl,stV,srow,U] at hla' hset ⊢
 show AW ⟨prog,X,26,w0,⟨L,E,3⟩⟩ _ _ _
 have hc:Cx.OK ⟨prog,X,26,w0,⟨L,E,3⟩⟩:=⟨hX,mixed⟩
 have zS:=jj hla'<|jj hdg'<|jj hlt1<|jj haN<|jj hgn<|jj hgnE<|jj hwl<|jj hdl<|jj hdI<|hset
 refine dM64 ?_
 repeat (intro K hK)
 clear zS
 refine ⟨[],rfl,?_⟩
 have hs1:(I fr::cs).set (1+dg) (AV.v (.int .u64 w))=I fr::cs.set dg (AV.v (.int .u64 w)):=by rw [Nat.add_comm];rfl
 rw [hs1,hset]
 simp only [idx]
 exact dle
noncomputable def adS:List AV→List AO→Option (AV×List AO):=specG (ι:={x:Tb×Int // tbOK x.1∧ascN x.1.2.1∧(∀ n∈x.1.2.1,n.1≠x.2)∧1≤x.1.2.1.length}) (fun x=>[.bp 0 0,I x.1.2]) (fun x=>pMs x.1.1 1 1) (fun x=>.tup []) fun x=>pMs (x.1.1.1,insK x.1.1.2.1 (x.1.2,zs8),x.1.1.2.2) 2 1
theorem adS_at {t:Tb} {f:Int} (ht:tbOK t) (ha:ascN t.2.1) (hn:∀ n∈t.2.1,n.1≠f) (hl:1≤t.2.1.length):adS [.bp 0 0,I f] (pMs t 1 1)=some (.tup [],pMs (t.1,insK t.2.1 (f,zs8),t.2.2) 2 1):=by
 refine sGe (ι:={x:Tb×Int // tbOK x.1∧ascN x.1.2.1∧(∀ n∈x.1.2.1,n.1≠x.2)∧1≤x.1.2.1.length}) (A:=fun x=>[.bp 0 0,I x.1.2]) (M:=fun x=>pMs x.1.1 1 1) (R:=fun x=>.tup []) (O:=fun x=>pMs (x.1.1.1,insK x.1.1.2.1 (x.1.2,zs8),x.1.1.2.2) 2 1) ⟨(t,f),ht,ha,hn,hl⟩ fun j hA hM=>?_
 obtain ⟨⟨t',f'⟩,h'⟩:=j
 have e:=pMs_inj hM
 simp only at e
 subst e
 simp only [cJ,I,AV.v.injEq,Value.int.injEq,true_and,and_true] at hA
 subst hA
 exact ⟨rfl,rfl⟩
theorem s186 (X:AX) (hX:XOK prog X) (hw:X.W wT) (hso:X.call 214=sortN):GSd prog 186 adS:=by
 unfold adS
 refine gsS func186 rfl X fun ⟨⟨⟨r,ns,ds⟩,f⟩,ht,ha,hn,hl⟩ w0 L E=>⟨by show 2≤22;decide,?_⟩
 simp only at ha hn hl
 have hl1:ns.length≤1000000:=ht.2.1
 have hl2:ds.length≤1000000:=ht.2.2
 have hil:=@insK_len _ (f,zs8) ns
 simp only [pMs,hil]
 show AW ⟨prog,X,22,w0,⟨L,E,3⟩⟩ _ _ _
 have hc:Cx.OK ⟨prog,X,22,w0,⟨L,E,3⟩⟩:=⟨hX,mixed⟩
 have tkn:List.take ns.length (nrw ns)=nrw ns:=tkL (by simp)
 have ha1z:nrw ns++[[I f,.v (.int .u64 0),.v (.int .u64 0),.v (.int .u64 0),.v (.int .u64 0),.v (.int .u64 0),.v (.int .u64 0),.v (.int .u64 0),.v (.int .u64 0)]]=nrw (ns++[(f,zs8)]):=(nrows_snoc ns (f,zs8)).symm
 have hsort:∀ (M:Nat→AO) (bs nid:Nat),M bs=.box [.bp 0 0]→M 0=.box [I r,.sl 1 2 9 0 (ns.length+1),.sl 2 1 2 0 ds.length]→M 1=.vec 2 9 false (nrw (ns++[(f,zs8)]))→X.call 214 [.ifc 60 [.sl 1 2 9 0 (ns.length+1)],.fn 215 [.bp bs 0]] M nid=some (.tup [],[(1,.vec 2 9 false (nrw (insK ns (f,zs8))))]):=fun M bs nid h1 h2 h3=>by
  rw [hso]
  refine sortN_at (D:=⟨1,2,ns.length+1,bs,0,I r,.sl 2 1 2 0 ds.length,false,ns,(f,zs8)⟩) ⟨rfl,h1,h2,h3,by simp,ha,hn,hl,by show ns.length<1000000000;omega,fun a ha=>?_⟩
  rcases List.mem_append.1 ha with h|h
  ·exact nds8_of ht a h
  ·simp at h;rw [h];rfl
 have zS:=jj tkn<|jj ha1z<|hsort
 refine dF64 ?_
 repeat (intro K hK)
 clear zS
 refine ⟨[],rfl,?_⟩
 simp only [idx]
 trace_state
 exact dle
set_option maxHeartbeats 4000000
set_option maxRecDepth 4000 in
theorem callAd {a b c:Nat} (hab:a≠b) (hac:a≠c) (hbc:b≠c) {r:Int} {ns:NdL} {ds:List Dp} {f:Int} (ht:tbOK (r,ns,ds)) (ha:ascN ns) (hn:∀ n∈ns,n.1≠f) (hl:1≤ns.length) {v v2:Nat} (M:Nat→AO) (nid:Nat)
  (h0:M a=.box [I r,.sl b (v+1) 9 0 ns.length,.sl c (v2+1) 2 0 ds.length]) (h1:M b=.vec (v+1) 9 false (nrw ns)) (h2:M c=.vec (v2+1) 2 false (prw ds)) :
  caG adS [.bp a 0,I f] M nid=some (.tup [],[(a,.box [I r,.sl b (v+2) 9 0 (ns.length+1),.sl c (v2+1) 2 0 ds.length]),(b,.vec (v+2) 9 false (nrw (insK ns (f,zs8)))),(c,.vec (v2+1) 2 false (prw ds))]):=by
 have hF:=adS_at (t:=(r,ns,ds)) ht ha hn hl
 have hil:=@insK_len _ (f,zs8) ns
 simp only [pMs,hil] at hF
 unfold caG
 have hba:b≠a:=fun e=>hab e.symm
 have hca:c≠a:=fun e=>hac e.symm
 have hcb:c≠b:=fun e=>hbc e.symm
 have hg:gat M 64 (nmsL [.bp a 0,I f]) []=[a,b,c]:=by
  simp [gat,nmsL,AV.nms,AO.nms,h0,h1,h2,hab,hac,hbc,hba,hca,hcb]
 simp only [hg]
 rw [if_pos ?cg]
 case cg=>simp [CallG,nmsL,AV.nms,AO.nms,Led,curBL,AV.curB,AO.curB,verOf,nDd,h0,h1,h2,hab,hac,hbc,hba,hca,hcb]
 have e1:2+v=v+2:=by omega
 have e2:1+v2=v2+1:=by omega
 simp [renL,AV.ren,AO.ren,posN,canO,nmsL,h0,h1,h2,hF,RetG,getL,AV.nms,AO.nms,updN,nmN,shN,verOf,rng,Led,hab,hac,hbc,hba,hca,hcb,e1,e2]
set_option maxRecDepth 4000 in
theorem callPu {a b c:Nat} (hab:a≠b) (hac:a≠c) (hbc:b≠c) {r:Int} {ns:NdL} {ds:List Dp} {p w:Nat} (h:ptO (r,ns,ds) p) (hw:w<2^64) {v v2:Nat} (M:Nat→AO) (nid:Nat)
  (h0:M a=.box [I r,.sl b (v+1) 9 0 ns.length,.sl c (v2+1) 2 0 ds.length]) (h1:M b=.vec (v+1) 9 false (nrw ns)) (h2:M c=.vec (v2+1) 2 false (prw ds)) :
  caG puS [.bp a 0,I p,U w] M nid=some (.tup [],[(a,.box [I r,.sl b (v+1) 9 0 ns.length,.sl c (v2+1) 2 0 ds.length]),(b,.vec (v+1) 9 false (nrw (putT (r,ns,ds) p w).2.1)),(c,.vec (v2+1) 2 false (prw ds))]):=by
 have hF:=puS_at h hw
 have e0:putT (r,ns,ds) p w=(r,(putT (r,ns,ds) p w).2.1,ds):=rfl
 have hil:(putT (r,ns,ds) p w).2.1.length=ns.length:=sNl
 rw [e0] at hF
 simp only [pMs,hil,U] at hF
 unfold caG U
 have hba:b≠a:=fun e=>hab e.symm
 have hca:c≠a:=fun e=>hac e.symm
 have hcb:c≠b:=fun e=>hbc e.symm
 have hg:gat M 64 (nmsL [.bp a 0,I p,.v (.int .u64 w)]) []=[a,b,c]:=by
  simp [gat,nmsL,AV.nms,AO.nms,h0,h1,h2,hab,hac,hbc,hba,hca,hcb]
 simp only [hg]
 rw [if_pos ?cg]
 case cg=>simp [CallG,nmsL,AV.nms,AO.nms,Led,curBL,AV.curB,AO.curB,verOf,nDd,h0,h1,h2,hab,hac,hbc,hba,hca,hcb]
 have e1:1+v=v+1:=by omega
 have e2:1+v2=v2+1:=by omega
 simp [renL,AV.ren,AO.ren,posN,canO,nmsL,h0,h1,h2,hF,RetG,getL,AV.nms,AO.nms,updN,nmN,shN,verOf,rng,Led,hab,hac,hbc,hba,hca,hcb,e1,e2]
def stD (r:Int) (ds:List Dp) (p:Nat) (ns:NdL) (f:Int):NdL:=insK (setN ns (lsT (r,ns,ds) p).1 (dgt p (lsT (r,ns,ds) p).2.1) (f.toNat*256+4)) (f,zs8)
def dpN (r:Int) (ds:List Dp) (p:Nat) (ns:NdL) (fs:List Int):NdL:=fs.foldl (stD r ds p) ns
theorem dpN_0 {r:Int} {ds:List Dp} {p:Nat} {ns:NdL} {fs:List Int}:dpN r ds p ns (fs.take 0)=ns:=rfl
theorem dpN_s {r:Int} {ds:List Dp} {p:Nat} {ns:NdL} {fs:List Int} {i:Nat} (h:i<fs.length):dpN r ds p ns (fs.take (i+1))=stD r ds p (dpN r ds p ns (fs.take i)) (gi fs i):=by
 unfold dpN
 rw [gi_eq h,List.take_add_one,List.getElem?_eq_getElem h,List.foldl_append]
 rfl
def dpC (r:Int) (ds:List Dp) (p:Nat) (ns:NdL) (f:Int):Prop:=ptO (r,ns,ds) p∧(∀ n∈ns,n.1≠f)∧0≤f∧f≤4294967295
def dpOK (r:Int) (ds:List Dp) (p:Nat) (ns:NdL) (fs:List Int):Prop:=(p<512∧fs.length≤1000∧ns.length≤1000000∧ds.length≤1000000)∧∀ i,i<fs.length→dpC r ds p (dpN r ds p ns (fs.take i)) (gi fs i)
theorem setN_ok {ns:NdL} {n i w:Nat} (h:∀ x∈ns,ndOK x) (hw:w<2^64) (hn:n<ns.length):∀ x∈setN ns n i w,ndOK x:=fun x hx=>by
 rcases List.mem_or_eq_of_mem_set hx with h1|h1
 ·exact h x h1
 ·rw [h1]
  have hm:=h _ (gn_mem hn)
  refine ⟨by simp only [List.length_set];exact hm.1,fun y hy=>?_⟩
  rcases List.mem_or_eq_of_mem_set hy with h2|h2
  ·exact hm.2 y h2
  ·rw [h2];exact hw
theorem gE' {l:List Int} {n:Nat} (h:n<l.length):∀ h',l[n]'(h')=gi l n:=fun h'=>(gi_eq h).symm
theorem setN_fr {ns:NdL} {n i w:Nat} (hn:n<ns.length) {f:Int} (h:∀ x∈ns,x.1≠f):∀ x∈setN ns n i w,x.1≠f:=fun x hx=>by
 rcases List.mem_or_eq_of_mem_set hx with h1|h1
 ·exact h x h1
 ·have hm:=h _ (gn_mem hn)
  rw [h1];exact hm
abbrev DeD:=Tb×Nat×List Int
def dM (t:Tb) (p:Nat) (fs:List Int):List AO:=pMs (t.1,dpN t.1 t.2.2 p t.2.1 fs,t.2.2) (fs.length+1) 1
noncomputable def deS:List AV→List AO→Option (AV×List AO):=specG (ι:={x:DeD // dpOK x.1.1 x.1.2.2 x.2.1 x.1.2.1 x.2.2}) (fun x=>[.bp 0 0,I x.1.2.1,.rd 1 (irw x.1.2.2)]) (fun x=>pMs x.1.1 1 1) (fun x=>.tup []) fun x=>dM x.1.1 x.1.2.1 x.1.2.2
theorem deS_at {t:Tb} {p:Nat} {fs:List Int} (h:dpOK t.1 t.2.2 p t.2.1 fs):deS [.bp 0 0,I p,.rd 1 (irw fs)] (pMs t 1 1)=some (.tup [],dM t p fs):=by
 refine sGe (ι:={x:DeD // dpOK x.1.1 x.1.2.2 x.2.1 x.1.2.1 x.2.2}) (A:=fun x=>[.bp 0 0,I x.1.2.1,.rd 1 (irw x.1.2.2)]) (M:=fun x=>pMs x.1.1 1 1) (R:=fun x=>.tup []) (O:=fun x=>dM x.1.1 x.1.2.1 x.1.2.2) ⟨(t,p,fs),h⟩ fun j hA hM=>?_
 obtain ⟨⟨t',p',w'⟩,h'⟩:=j
 have e:=pMs_inj hM
 simp only at e
 subst e
 simp only [cJ,I,AV.v.injEq,Value.int.injEq,true_and,and_true,AV.rd.injEq,irI] at hA
 have e1:p'=p:=by omega
 have e2:w'=fs:=hA.2
 subst e1 e2
 exact ⟨rfl,rfl⟩
theorem s129 (X:AX) (hX:XOK prog X) (hw:X.W wT) (hla:OwnR X 110 (fun t x=>0≤x∧ptO t x.toNat) fun t x=>stV (lsT t x.toNat)) (hdg:∀ (p l:Nat),p<512→l≤2→∀ M n,X.call 139 [I p,I l] M n=some (I (dgt p l),[]))
  (hen:∀ f:Nat,f≤4294967295→∀ M n,X.call 143 [.agg [I 4,I f,B false,B false,B false,B false]] M n=some (.tup [U ((f*256+4:Nat)),I 0],[])) (had:X.call 186=caG adS):GSd prog 129 deS:=by
 unfold deS
 refine gsS func129 rfl X fun ⟨⟨⟨r,ns,ds⟩,p,fs⟩,⟨hp,hf8,hl1,hl2⟩,hdp⟩ w0 L E=>⟨by show 3≤46;decide,?_⟩
 simp only at hp hf8 hl1 hl2 hdp
 simp only [pMs,dM]
 show AW ⟨prog,X,46,w0,⟨L,E,3⟩⟩ _ _ _
 have hc:Cx.OK ⟨prog,X,46,w0,⟨L,E,3⟩⟩:=⟨hX,mixed⟩
 repeat' (first|(refine aSk fun K hK=>?_)|(refine eMo ?_)|(refine eC (fun h=>?_) (fun h=>?_)<;>(try simp at h))|(refine hK _ ?_;clear hK)|(clear hK;refine hK _ ?_;clear hK))
 refine aLK (s0:=?lps1) (m0:=?lpm1) (ι:={i:Nat // i≤fs.length}) [0,1,11,12] (fun s=>[(13,I s.1)]) (fun s=>[(0,.box [I r,.sl 1 (s.1+1) 9 0 (dpN r ds p ns (fs.take s.1)).length,.sl 2 1 2 0 ds.length]),(1,.vec (s.1+1) 9 false (nrw (dpN r ds p ns (fs.take s.1))))]) (fun s=>fs.length - s.1) ⟨0,by simp⟩ ?lhs1 ?lhm1 ?_ ?_
 case lhs1=>first|(simp [kpS];done)|(simp [kpS];rfl)
 case lhm1=>first|rfl|(simp;done)|(simp;rfl)
 ·simp only [dpN_0]
  exact dle
 ·rintro ⟨i,hi⟩
  simp only at hi ⊢
  rcases dE (i<fs.length) with hil|hil
  ·have hilI:(i:Int)<(fs.length:Int):=by omega
   obtain ⟨hpt,hnf,hf0,hf1⟩:=hdp i hil
   have hds:=@dpN_s r ds p ns fs i hil
   have hg1:=irows_gi hil
   have hg2:=gE' hil
   obtain ⟨NS,hNS⟩:∃ NS,NS=dpN r ds p ns (fs.take i):=⟨_,rfl⟩
   rw [← hNS] at hpt hnf hds ⊢
   obtain ⟨f,hf⟩:=Int.eq_ofNat_of_zero_le hf0
   rw [hf] at hf1 hnf hds hg1 hg2
   have hen':=hen f (by omega)
   have hla':=hla r NS ds p ⟨by omega,hpt⟩
   obtain ⟨hlt1,hlt2⟩:(lsT (r,NS,ds) p).1<NS.length∧(lsT (r,NS,ds) p).2.1≤2:=by
    obtain ⟨_,_,_,⟨rt,hrt⟩,_⟩:=hpt
    exact lst_lt (by unfold rtN;rw [hrt];exact fnd_lt hrt)
   have ht:=hpt.1
   have ha:=hpt.2.1
   have hNl:NS.length≤1000000:=ht.2.1
   unfold stD at hds
   obtain ⟨⟨a,b,c⟩,hS⟩:∃ S,S=lsT (r,NS,ds) p:=⟨_,rfl⟩
   simp only [Int.toNat_natCast] at hla' hds
   rw [← hS] at hla' hlt1 hlt2 hds
   simp only at hla' hlt1 hlt2 hds
   have hdg':=hdg p b hp hlt2
   have hdl:=dgt_lt p b
   have haN:(a:Int)<(NS.length:Int):=by omega
   have hgn:=nrG hlt1
   have hgnE:=nrE hlt1
   have h8:(gn NS a).2.length=8:=(ht.1 _ (gn_mem hlt1)).1
   obtain ⟨w,hwd⟩:∃ w,w=f*256+4:=⟨_,rfl⟩
   rw [← hwd] at hen' hds
   have hset:=@nrows_setN NS a (dgt p b) w hlt1
   have hwl:(wcs (gn NS a).2).length=8:=by simp [h8]
   have hw64:w<2^64:=by omega
   obtain ⟨NT,hNT⟩:∃ NT,NT=setN NS a (dgt p b) w:=⟨_,rfl⟩
   have hNl2:NT.length=NS.length:=by rw [hNT];simp
   have ht2:tbOK (r,NT,ds):=⟨by rw [hNT];exact setN_ok ht.1 hw64 hlt1,by show NT.length≤1000000;omega,hl2⟩
   have ha2:ascN NT:=by rw [hNT];exact setN_asc ha hlt1
   have hn2:∀ n∈NT,n.1≠(f:Int):=by rw [hNT];exact setN_fr hlt1 hnf
   have hca:=fun M n=>@callAd 0 1 2 (by decide) (by decide) (by decide) r NT ds f ht2 ha2 hn2 (by omega) i 0 M n
   rw [← had] at hca
   simp only [hNl2,Nat.zero_add] at hca
   rw [← hNT] at hset hds
   obtain ⟨⟨fr,ws⟩,hm⟩:∃ m,m=gn NS a:=⟨_,rfl⟩
   rw [← hm] at hgn hgnE hwl hset
   simp only at hgn hgnE hwl hset
   obtain ⟨cs,hcs⟩:∃ cs,cs=wcs ws:=⟨_,rfl⟩
   rw [← hcs] at hgn hgnE hwl hset
   obtain ⟨dg,hdg0⟩:∃ dg,dg=dgt p b:=⟨_,rfl⟩
   rw [← hdg0] at hdl hdg' hset
   have hdI:(dg:Int)<8:=by omega
   clear hcs hm h8 hS
   have hs1:∀ w:Int,(I fr::cs).set (1+dg) (AV.v (.int .u64 w))=I fr::cs.set dg (AV.v (.int .u64 w)):=fun w=>by rw [Nat.add_comm];rfl
   have hil2:=@insK_len _ ((f:Int),zs8) NT
   clear hwd
   simp only [stV,srow,U] at hla' hset hen'
   have zS:=jj hilI<|jj hg1<|jj hg2<|jj hla'<|jj hen'<|jj hdg'<|jj hlt1<|jj haN<|jj hgn<|jj hgnE<|jj hwl<|jj hdl<|jj hdI<|jj hset<|jj hs1<|hca
   repeat' (first|(refine aSk fun K hK=>?_)|(refine eF64 ?_)|(refine eC (fun h=>?_) (fun h=>?_)<;>(try simp at h))|(refine hK _ ?_;clear hK)|clear hK)
   all_goals clear zS
   refine ⟨i+1,?_,by omega,by omega⟩
   simp only [hds,hil2,hNl2]
   exact dle
  ·obtain rfl:i=fs.length:=by omega
   repeat' (first|(refine aSk fun K hK=>?_)|(refine eMo ?_)|(refine eC (fun h=>?_) (fun h=>?_)<;>(try simp at h))|(refine hK _ ?_;clear hK)|clear hK)
   refine ⟨[],rfl,?_⟩
   simp only [idx]
   exact dle
set_option maxHeartbeats 4000000
noncomputable section
def orG (F G:List AV→List AO→Option (AV×List AO)) (avs:List AV) (ms:List AO):Option (AV×List AO):=match F avs ms with
 | some r=>some r
 | none=>G avs ms
theorem GSd.or {P:Program} {f:FuncId} {F G:List AV→List AO→Option (AV×List AO)} (h1:GSd P f F) (h2:GSd P f G):GSd P f (orG F G):=fun w l E args avs ms r ms' h=>by
 unfold orG at h
 cases hf:F avs ms with
 | some x=>rw [hf] at h;exact h1 w l E args avs ms r ms' (hf.trans h)
 | none=>rw [hf] at h;exact h2 w l E args avs ms r ms' h
theorem orG_1 {F G:List AV→List AO→Option (AV×List AO)} {avs:List AV} {ms:List AO} {x:AV×List AO} (h:F avs ms=some x):orG F G avs ms=some x:=by unfold orG;rw [h]
theorem orG_2 {F G:List AV→List AO→Option (AV×List AO)} {avs:List AV} {ms:List AO} {x:AV×List AO} (h:F avs ms=none) (h2:G avs ms=some x):orG F G avs ms=some x:=by unfold orG;rw [h];exact h2
theorem specG_none {ι:Type} {A:ι→List AV} {M:ι→List AO} {R:ι→AV} {O:ι→List AO} {avs:List AV} {ms:List AO} (h:∀ i,A i=avs→M i=ms→False):specG A M R O avs ms=none:=by
 unfold specG
 rw [dif_neg (fun ⟨i,h1,h2⟩=>h i (by first|exact h1|exact h1.symm) (by first|exact h2|exact h2.symm))]
def seB:List AV→List AO→Option (AV×List AO):=orG (seS 189) (seS 191)
theorem seB_1 {t:Tb} {g:Int} (ht:tbOK t) (ha:ascK t.2.2):seB [I t.2.2.length,.fn 189 [.bp 0 0,.bp 4 0]] (scM t g)=some (I (lowD t.2.2 g),scM t g):=orG_1 (seS_at ht ha)
theorem seB_2 {t:Tb} {g:Int} (ht:tbOK t) (ha:ascK t.2.2):seB [I t.2.2.length,.fn 191 [.bp 0 0,.bp 4 0]] (scM t g)=some (I (lowD t.2.2 g),scM t g):=orG_2 (specG_none fun i h1 _=>by
 simp only [cJ,AV.fn.injEq] at h1
 exact absurd h1.2.1.1 (by decide)) (seS_at ht ha)
set_option maxRecDepth 4000 in
theorem callSe {c:FuncId} {e:Nat} (he:4≤e) (hcc:c=189∨c=191) {r:Int} {ns:NdL} {ds:List Dp} {g:Int} (ht:tbOK (r,ns,ds)) (ha:ascK ds) (M:Nat→AO) (nid:Nat)
  (h0:M 0=.box [I r,.sl 1 1 9 0 ns.length,.sl 2 1 2 0 ds.length]) (h1:M 1=.vec 1 9 false (nrw ns)) (h2:M 2=.vec 1 2 false (prw ds)) (h3:M 3=.box [.bp 0 0]) (h4:M e=.box [I g]) :
  caG seB [I ds.length,.fn c [.bp 3 0,.bp e 0]] M nid=some (I (lowD ds g),[(3,.box [.bp 0 0]),(0,.box [I r,.sl 1 1 9 0 ns.length,.sl 2 1 2 0 ds.length]),(1,.vec 1 9 false (nrw ns)),(2,.vec 1 2 false (prw ds)),(e,.box [I g])]):=by
 have n0:e≠0:=by omega
 have n1:e≠1:=by omega
 have n2:e≠2:=by omega
 have n3:e≠3:=by omega
 have m0:0≠e:=by omega
 have m1:1≠e:=by omega
 have m2:2≠e:=by omega
 have m3:3≠e:=by omega
 have hF:seB [I ds.length,.fn c [.bp 0 0,.bp 4 0]] (scM (r,ns,ds) g)=some (I (lowD ds g),scM (r,ns,ds) g):=by
  rcases hcc with rfl|rfl
  ·exact seB_1 (t:=(r,ns,ds)) ht ha
  ·exact seB_2 (t:=(r,ns,ds)) ht ha
 simp only [scM] at hF
 unfold caG
 have hg:gat M 64 (nmsL [I ds.length,.fn c [.bp 3 0,.bp e 0]]) []=[3,0,1,2,e]:=by
  simp [gat,nmsL,AV.nms,AO.nms,h0,h1,h2,h3,h4,n0,n1,n2,n3,m0,m1,m2,m3]
 simp only [hg]
 rw [if_pos ?cg]
 case cg=>simp [CallG,nmsL,AV.nms,AO.nms,Led,curBL,AV.curB,AO.curB,verOf,nDd,h0,h1,h2,h3,h4,n0,n1,n2,n3,m0,m1,m2,m3]
 simp [renL,AV.ren,AO.ren,posN,canO,nmsL,h0,h1,h2,h3,h4,n0,n1,n2,n3,m0,m1,m2,m3,hF,RetG,getL,AV.nms,AO.nms,updN,nmN,shN,verOf,rng,Led]
theorem callIns {b c v i:Nat} {l:List Dp} {g f:Int} {fl fl2:Bool} (hbc:b≠c) (hi:i≤l.length∧l.length≤1000000) (M:Nat→AO) (nid:Nat) (hb:M b=.vec v 2 fl (prw l)) (hc:M c=.vec 1 2 fl2 [[I g,I f]]) :
  callM false two2 FInsD [.sl b v 2 0 l.length,I i,.sl c 1 2 0 1] M nid=some (.sl nid 1 2 0 (l.length+1),[(nid,.vec 1 2 false (prw (l.take i++(g,f)::l.drop i))),(b,.dead)]):=by
 have hF:=FInsD_at l i g f hi
 have hcb:c≠b:=fun e=>hbc e.symm
 have e1:min i l.length+(l.length - i+1)=l.length+1:=by omega
 simp [callM,giveArg,takeArg,hb,hc,hbc,hcb,hF,tkL,e1]
theorem callDel {b v i j:Nat} {l:List Dp} {fl:Bool} (hi:i≤j∧j≤l.length∧l.length≤1000000) (M:Nat→AO) (nid:Nat) (hb:M b=.vec v 2 fl (prw l)) :
  callM false two2 FDelD [.sl b v 2 0 l.length,I i,I j] M nid=some (.sl nid 1 2 0 (l.length - (j - i)),[(nid,.vec 1 2 false (prw (l.take i++l.drop j))),(b,.dead)]):=by
 have hF:=FDelD_at l i j hi
 have e1:min i l.length+(l.length - j)=l.length - (j - i):=by omega
 simp [callM,giveArg,takeArg,hb,hF,tkL,e1]
def insL (ds:List Dp) (g f:Int):List Dp:=ds.take (lowD ds g)++(g,f)::ds.drop (lowD ds g)
abbrev DpD:=Tb×Int×Int
def oM (t:Tb) (ds:List Dp):List AO:=[.box [I t.1,.sl 1 1 9 0 t.2.1.length,.sl 3 1 2 0 ds.length],.vec 1 9 false (nrw t.2.1),.dead,.vec 1 2 false (prw ds)]
def dpS:List AV→List AO→Option (AV×List AO):=specG (ι:={x:DpD // tbOK x.1∧ascK x.1.2.2}) (fun x=>[.bp 0 0,I x.1.2.1,I x.1.2.2]) (fun x=>pMs x.1.1 1 1) (fun x=>.tup []) fun x=>oM x.1.1 (insL x.1.1.2.2 x.1.2.1 x.1.2.2)
theorem dpS_at {t:Tb} {g f:Int} (ht:tbOK t) (ha:ascK t.2.2):dpS [.bp 0 0,I g,I f] (pMs t 1 1)=some (.tup [],oM t (insL t.2.2 g f)):=by
 refine sGe (ι:={x:DpD // tbOK x.1∧ascK x.1.2.2}) (A:=fun x=>[.bp 0 0,I x.1.2.1,I x.1.2.2]) (M:=fun x=>pMs x.1.1 1 1) (R:=fun x=>.tup []) (O:=fun x=>oM x.1.1 (insL x.1.1.2.2 x.1.2.1 x.1.2.2)) ⟨(t,g,f),ht,ha⟩ fun j hA hM=>?_
 obtain ⟨⟨t',g',f'⟩,h'⟩:=j
 have e:=pMs_inj hM
 simp only at e
 subst e
 simp only [cJ,I,AV.v.injEq,Value.int.injEq,true_and,and_true] at hA
 obtain ⟨rfl,rfl⟩:=hA
 exact ⟨rfl,rfl⟩
theorem insL_len {ds:List Dp} {g f:Int}:(insL ds g f).length=ds.length+1:=by
 have:=@lowD_le ds g
 simp [insL];omega
theorem s135 (X:AX) (hX:XOK prog X) (hw:X.W wT) (hse:X.call 188=caG seB) (hin:X.call 190=callM false two2 FInsD):GSd prog 135 dpS:=by
 unfold dpS
 refine gsS func135 rfl X fun ⟨⟨⟨r,ns,ds⟩,g,f⟩,ht,ha⟩ w0 L E=>⟨by show 3≤27;decide,?_⟩
 simp only at ha
 have hl1:ns.length≤1000000:=ht.2.1
 have hl2:ds.length≤1000000:=ht.2.2
 have hse':=fun M n=>@callSe 189 19 (by decide) (.inl rfl) r ns ds g ht ha M n
 rw [← hse] at hse'
 have hlo:=@lowD_le ds g
 obtain ⟨i,hi⟩:∃ i,i=lowD ds g:=⟨_,rfl⟩
 have hil:insL ds g f=ds.take i++(g,f)::ds.drop i:=by rw [hi];rfl
 have hlen:=@insL_len ds g f
 rw [← hi] at hse' hlo
 have hin':=fun b c hbc M nid=>@callIns b c 1 i ds g f false false hbc ⟨hlo,hl2⟩ M nid
 rw [← hin,← hil] at hin'
 simp only [pMs,oM,hlen]
 show AW ⟨prog,X,27,w0,⟨L,E,3⟩⟩ _ _ _
 have hc:Cx.OK ⟨prog,X,27,w0,⟨L,E,3⟩⟩:=⟨hX,mixed⟩
 have zS:=jj hse'<|hin'
 refine dF64 ?_
 repeat (intro K hK)
 clear zS
 refine ⟨[],rfl,?_⟩
 simp only [idx]
 refine le_turn (s1:=?tus1) (m1:=?tum1) [(323,3)] [0] [0,1,2,323] ?tua1 ?tub1 ?tuc1 ?tud1 ?tue1 ?tuf1 ?tug1
 case tua1=>first|(simp [kpS];done)|(simp [kpS];rfl)
 case tub1=>first|(simp;done)|(simp;rfl)
 case tuc1=>simp
 case tud1=>simp
 case tue1=>simp
 case tuf1=>simp
 case tug1 =>
  simp [swp,vr]
  exact dle
def delL (ds:List Dp) (g:Int):List Dp:=ds.take (lowD ds g)++ds.drop (lowD ds g+1)
theorem delL_len {ds:List Dp} {g:Int} (h:lowD ds g<ds.length):(delL ds g).length=ds.length - 1:=by
 simp [delL];omega
def wdS:List AV→List AO→Option (AV×List AO):=specG (ι:={x:Tb×Int // tbOK x.1∧ascK x.1.2.2∧lowD x.1.2.2 x.2<x.1.2.2.length}) (fun x=>[.bp 0 0,I x.1.2]) (fun x=>pMs x.1.1 1 1) (fun x=>rtO [I (gp x.1.1.2.2 (lowD x.1.1.2.2 x.1.2)).2]) fun x=>oM x.1.1 (delL x.1.1.2.2 x.1.2)
theorem wdS_at {t:Tb} {g:Int} (ht:tbOK t) (ha:ascK t.2.2) (hl:lowD t.2.2 g<t.2.2.length):wdS [.bp 0 0,I g] (pMs t 1 1)=some (I (gp t.2.2 (lowD t.2.2 g)).2,oM t (delL t.2.2 g)):=by
 refine sGe (ι:={x:Tb×Int // tbOK x.1∧ascK x.1.2.2∧lowD x.1.2.2 x.2<x.1.2.2.length}) (A:=fun x=>[.bp 0 0,I x.1.2]) (M:=fun x=>pMs x.1.1 1 1) (R:=fun x=>rtO [I (gp x.1.1.2.2 (lowD x.1.1.2.2 x.1.2)).2]) (O:=fun x=>oM x.1.1 (delL x.1.1.2.2 x.1.2)) ⟨(t,g),ht,ha,hl⟩ fun j hA hM=>?_
 obtain ⟨⟨t',g'⟩,h'⟩:=j
 have e:=pMs_inj hM
 simp only at e
 subst e
 simp only [cJ,I,AV.v.injEq,Value.int.injEq,true_and,and_true] at hA
 subst hA
 exact ⟨rfl,rfl⟩
theorem s138 (X:AX) (hX:XOK prog X) (hw:X.W wT) (hse:X.call 188=caG seB) (hde:X.call 192=callM false two2 FDelD):GSd prog 138 wdS:=by
 unfold wdS
 refine gsS func138 rfl X fun ⟨⟨⟨r,ns,ds⟩,g⟩,ht,ha,hlo⟩ w0 L E=>⟨by show 2≤34;decide,?_⟩
 simp only at ha hlo
 have hl1:ns.length≤1000000:=ht.2.1
 have hl2:ds.length≤1000000:=ht.2.2
 have hse':=fun M n=>@callSe 191 19 (by decide) (.inr rfl) r ns ds g ht ha M n
 rw [← hse] at hse'
 have hlen:=delL_len hlo
 simp only [pMs,oM,hlen]
 obtain ⟨i,hi⟩:∃ i,i=lowD ds g:=⟨_,rfl⟩
 have hil:delL ds g=ds.take i++ds.drop (i+1):=by rw [hi];rfl
 rw [← hi] at hse' hlo ⊢
 have hde':=fun b M nid=>@callDel b 1 i (i+1) ds false ⟨by omega,by omega,hl2⟩ M nid
 rw [← hde,← hil,show i+1 - i=1 by omega,show ((i+1:Nat):Int)=(i:Int)+1 by omega] at hde'
 have hg:=prows_gi hlo
 have hgE:=prows_gE hlo
 obtain ⟨⟨d1,d2⟩,hm⟩:∃ m,m=gp ds i:=⟨_,rfl⟩
 rw [← hm] at hg hgE ⊢
 simp only at hg hgE ⊢
 have hiI:(i:Int)<(ds.length:Int):=by omega
 show AW ⟨prog,X,34,w0,⟨L,E,3⟩⟩ _ _ _
 have hc:Cx.OK ⟨prog,X,34,w0,⟨L,E,3⟩⟩:=⟨hX,mixed⟩
 have zS:=jj hse'<|jj hde'<|jj hg<|jj hgE<|jj hlo<|hiI
 refine dF64 ?_
 repeat (intro K hK)
 clear zS
 refine ⟨by simp,_,by simp [aRs,aRt,f138];rfl,?_⟩
 simp only [idx]
 refine le_turn (s1:=?tus2) (m1:=?tum2) [(451,3)] [0] [0,1,2,451] ?tua2 ?tub2 ?tuc2 ?tud2 ?tue2 ?tuf2 ?tug2
 case tua2=>first|(simp [kpS];done)|(simp [kpS];rfl)
 case tub2=>first|(simp;done)|(simp;rfl)
 case tuc2=>simp
 case tud2=>simp
 case tue2=>simp
 case tuf2=>simp
 case tug2 =>
  simp [swp,vr]
  exact dle
end
theorem fnd_none {ns:NdL} {f:Int}:fnd ns f=none↔∀ n∈ns,n.1≠f:=by
 unfold fnd
 split
 ·rename_i h
  simp only [reduceCtorEq,false_iff]
  intro h2
  have:=List.findIdx_getElem (p:=fun n:Nd=>decide (n.1=f)) (w:=h)
  simp at this
  exact h2 _ (List.getElem_mem h) this
 ·rename_i h
  simp only [true_iff]
  intro n hn e
  refine h (List.findIdx_lt_length_of_exists ⟨n,hn,by simpa using e⟩)
def ksE (es:List (List Int×AV)) (l:List Int):Nat→List (List Int×AV)
 | 0=>es
 | k+1=>mset (ksE es l k) [gi l k] (I 0)
theorem ksE_get {es:List (List Int×AV)} {l:List Int} {f:Int}:∀ {n:Nat},mget (ksE es l n) [f]=none↔mget es [f]=none∧∀ k,k<n→gi l k≠f
 | 0=>by simp [ksE]
 | n+1=>by
  simp only [ksE]
  rw [mget_mset]
  by_cases h:f=gi l n
  ·subst h
   simp only [if_true,reduceCtorEq,false_iff,not_and]
   intro _ h2
   exact h2 n (by omega) rfl
  ·rw [if_neg (by simpa using h),ksE_get (n:=n)]
   constructor
   ·rintro ⟨h1,h2⟩
    refine ⟨h1,fun k hk=>?_⟩
    rcases Nat.lt_succ_iff_lt_or_eq.1 hk with h3|rfl
    ·exact h2 k h3
    ·exact fun e=>h e.symm
   ·exact fun ⟨h1,h2⟩=>⟨h1,fun k hk=>h2 k (by omega)⟩
def depF (ds:List Dp):List Int:=ds.map (·.2)
theorem depF_gi {ds:List Dp} {k:Nat} (h:k<ds.length):gi (depF ds) k=(gp ds k).2:=by
 rw [gi_eq (by simpa [depF] using h),gp_eq h];simp [depF]
def usC (ns:NdL) (ds:List Dp) (fs:List Int) (i:Nat):Prop:=frmN (gi fs i)∧(∀ n∈ns,n.1≠gi fs i)∧(∀ k,k<ds.length→(gp ds k).2≠gi fs i)∧∀ j,j<i→gi fs j≠gi fs i
def usB (ns:NdL) (ds:List Dp) (fs:List Int):Bool:=(List.range fs.length).all fun i=>decide (0≤gi fs i∧gi fs i≤4294967295)&&(ns.all fun n=>decide (n.1≠gi fs i))&&((List.range ds.length).all fun k=>decide ((gp ds k).2≠gi fs i))&&(List.range i).all fun j=>decide (gi fs j≠gi fs i)
theorem usB_iff {ns:NdL} {ds:List Dp} {fs:List Int}:usB ns ds fs=true↔∀ i,i<fs.length→usC ns ds fs i:=by
 simp only [usB,usC,frmN,List.all_eq_true,List.mem_range,Bool.and_eq_true,decide_eq_true_eq,and_assoc]
theorem usB_no {ns:NdL} {ds:List Dp} {fs:List Int} {i:Nat} (hi:i<fs.length) (h:¬ usC ns ds fs i):usB ns ds fs=false:=by
 cases hb:usB ns ds fs
 ·rfl
 ·exact absurd (usB_iff.1 hb i hi) h
theorem seen_none {ns:NdL} {ds:List Dp} {fs:List Int} (ha:ascN ns) {i:Nat} {f:Int}:mget (ksE (ksE (idxE ns ns.length) (depF ds) ds.length) fs i) [f]=none↔((∀ n∈ns,n.1≠f)∧∀ k,k<ds.length→(gp ds k).2≠f)∧∀ j,j<i→gi fs j≠f:=by
 have e:mget (idxE ns ns.length) [f]=none↔∀ n∈ns,n.1≠f:=by
  rw [idxE_get ha,← fnd_none]
  cases fnd ns f<;>simp
 rw [ksE_get,ksE_get,e]
 refine and_congr_left fun _=>and_congr_right fun _=>forall_congr' fun k=>?_
 constructor
 ·intro h hk;rw [← depF_gi hk];exact h hk
 ·intro h hk;rw [depF_gi hk];exact h hk
abbrev UsD:=Tb×List Int
set_option maxHeartbeats 4000000 in
theorem s127 (X:AX) (hX:XOK prog X) (hw:X.W wT) (hfr:∀ x M n,X.call 126 [I x] M n=some (B (decide (0≤x∧x≤4294967295)),[]))
  (hix:∀ t:Tb,tbOK t→∀ M n,X.call 115 [TbV t] M n=some (.mp n 1,[(n,.map 1 1 (idxE t.2.1 t.2.1.length))])) :
  PSd prog 127 (spF (ι:={x:UsD×Nat // tbOK x.1.1∧ascN x.1.1.2.1∧x.1.2.length≤1000}) (fun x=>[TbV x.1.1.1,.rd 1 (irw x.1.1.2),I x.1.2]) fun x=>rtO [B (decide (x.1.1.2.length=x.1.2)&&usB x.1.1.1.2.1 x.1.1.1.2.2 x.1.1.2)]):=by
 refine psS hX mixed func127 rfl fun ⟨⟨⟨⟨r,ns,ds⟩,fs⟩,m⟩,ht,ha,hf8⟩ w0 G=>⟨by show 3≤52;decide,rfl,?_⟩
 show AW ⟨prog,X,52,w0,.pure G⟩ _ _ _
 have hc:=okc hX 52 w0 G
 simp only at ha hf8
 have hl1:ns.length≤1000000:=ht.2.1
 have hl2:ds.length≤1000000:=ht.2.2
 have hix':=hix (r,ns,ds) ht
 simp only [TbV] at hix' ⊢
 rcases dE (fs.length=m) with hm|hm
 ·subst hm
  simp only [decide_true,Bool.true_and]
  have zS:=hix'
  repeat' (first|(refine aSk fun K hK=>?_)|(refine eM64 ?_)|(refine eC (fun h=>?_) (fun h=>?_)<;>(try simp at h))|(refine hK _ ?_;clear hK)|(clear hK;refine hK _ ?_;clear hK))
  all_goals clear zS
  refine aLK (s0:=?lps1) (m0:=?lpm1) (ι:={i:Nat // i≤ds.length}) [1,7,21,22] (fun i=>[(23,I i.1)]) (fun i=>[(112,.map 1 1 (ksE (idxE ns ns.length) (depF ds) i.1))]) (fun i=>ds.length - i.1) ⟨0,by omega⟩ ?lhs1 ?lhm1 ?_ ?_
  case lhs1=>first|(simp [kpS];done)|(simp [kpS];rfl)
  case lhm1=>first|rfl|(simp;done)|(simp;rfl)
  ·simp only [ksE]
   exact dle
  ·rintro ⟨i,hi⟩
   simp only
   rcases dE (i<ds.length) with hil|hil
   ·have hilI:(i:Int)<(ds.length:Int):=by omega
    have hg:=prows_gi hil
    have hgE:=prows_gE hil
    have hnx:ksE (idxE ns ns.length) (depF ds) (i+1)=mset (ksE (idxE ns ns.length) (depF ds) i) [(gp ds i).2] (I 0):=by rw [← depF_gi hil];rfl
    obtain ⟨S,hS⟩:∃ S,S=ksE (idxE ns ns.length) (depF ds) i:=⟨_,rfl⟩
    rw [← hS] at hnx ⊢
    obtain ⟨⟨a,b⟩,hm⟩:∃ m,m=gp ds i:=⟨_,rfl⟩
    rw [← hm] at hg hgE hnx
    simp only at hg hgE hnx
    have zS:=jj hilI<|jj hg<|hgE
    repeat' (first|(refine aSk fun K hK=>?_)|(refine eM64 ?_)|(refine eC (fun h=>?_) (fun h=>?_)<;>(try simp at h))|(refine hK _ ?_;clear hK)|clear hK)
    all_goals clear zS
    refine ⟨i+1,?_,by omega,by omega⟩
    simp only [hnx]
    refine le_turn (s1:=?tus2) (m1:=?tum2) [] [23,1,7,21,22] [0,112] ?tua2 ?tub2 ?tuc2 ?tud2 ?tue2 ?tuf2 ?tug2
    case tua2=>first|(simp [kpS];done)|(simp [kpS];rfl)
    case tub2=>first|(simp;done)|(simp;rfl)
    case tuc2=>simp
    case tud2=>simp
    case tue2=>simp
    case tuf2=>simp
    case tug2 =>
     simp [swp,vr]
     exact dle
   ·obtain rfl:i=ds.length:=by omega
    repeat' (first|(refine aSk fun K hK=>?_)|(refine eMo ?_)|(refine eC (fun h=>?_) (fun h=>?_)<;>(try simp at h))|(refine hK _ ?_;clear hK)|(clear hK;refine hK _ ?_;clear hK))
    refine aLK (s0:=?lps3) (m0:=?lpm3) (ι:={i:Nat // i≤fs.length∧∀ j,j<i→usC ns ds fs j}) [7,31,32] (fun i=>[(33,I i.1)]) (fun i=>[(112,.map 1 1 (ksE (ksE (idxE ns ns.length) (depF ds) ds.length) fs i.1))]) (fun i=>fs.length - i.1) ⟨0,by omega,by omega⟩ ?lhs3 ?lhm3 ?_ ?_
    case lhs3=>first|(simp [kpS];done)|(simp [kpS];rfl)
    case lhm3=>first|rfl|(simp;done)|(simp;rfl)
    ·simp only [ksE]
     exact dle
    ·rintro ⟨i,hi,hinv⟩
     simp only
     rcases dE (i<fs.length) with hil|hil
     ·have hilI:(i:Int)<(fs.length:Int):=by omega
      have hg:=irows_gi hil
      have hgE:=gE' hil
      have hno:=@usB_no ns ds fs i hil
      have hsn:=@seen_none ns ds fs ha i (gi fs i)
      have hus:usC ns ds fs i↔frmN (gi fs i)∧((∀ n∈ns,n.1≠gi fs i)∧∀ k,k<ds.length→(gp ds k).2≠gi fs i)∧∀ j,j<i→gi fs j≠gi fs i:=by unfold usC;simp only [and_assoc]
      rw [← hsn] at hus
      have hnx:ksE (ksE (idxE ns ns.length) (depF ds) ds.length) fs (i+1)=mset (ksE (ksE (idxE ns ns.length) (depF ds) ds.length) fs i) [gi fs i] (I 0):=rfl
      obtain ⟨S,hS⟩:∃ S,S=ksE (ksE (idxE ns ns.length) (depF ds) ds.length) fs i:=⟨_,rfl⟩
      rw [← hS] at hnx hus ⊢
      unfold frmN at hus
      obtain ⟨b,hb⟩:∃ b,b=gi fs i:=⟨_,rfl⟩
      rw [← hb] at hg hgE hnx hus
      have hfr':=hfr b
      clear hsn hS
      cases hget:mget S [b] with
      | some v =>
       have e:=hno (fun h=>by have:=(hus.1 h).2;rw [hget] at this;simp at this)
       have zS:=jj hilI<|jj hg<|jj hgE<|hget
       repeat' (first|(refine aSk fun K hK=>?_)|(refine eM64 ?_)|(refine eC (fun h=>?_) (fun h=>?_)<;>(try simp at h))|(refine hK _ ?_;clear hK)|clear hK)
       all_goals clear zS
       refine ⟨by simp,?_⟩
       simp [lvI,f127,e]
       try exact dt
      | none =>
       rcases dE (0≤b∧b≤4294967295) with h1|h1
       ·rw [decide_eq_true h1] at hfr'
        have hu:=hus.2 ⟨h1,hget⟩
        have zS:=jj hilI<|jj hg<|jj hgE<|jj hget<|hfr'
        repeat' (first|(refine aSk fun K hK=>?_)|(refine eM64 ?_)|(refine eC (fun h=>?_) (fun h=>?_)<;>(try simp at h))|(refine hK _ ?_;clear hK)|clear hK)
        all_goals clear zS
        refine ⟨i+1,?_,⟨by omega,fun j hj=>?_⟩,by omega⟩
        ·simp only [hnx]
         refine le_turn (s1:=?tus4) (m1:=?tum4) [] [33,1,7,31,32] [0,112] ?tua4 ?tub4 ?tuc4 ?tud4 ?tue4 ?tuf4 ?tug4
         case tua4=>first|(simp [kpS];done)|(simp [kpS];rfl)
         case tub4=>first|(simp;done)|(simp;rfl)
         case tuc4=>simp
         case tud4=>simp
         case tue4=>simp
         case tuf4=>simp
         case tug4 =>
          simp [swp,vr]
          exact dle
        ·rcases Nat.lt_succ_iff_lt_or_eq.1 hj with h5|rfl
         ·exact hinv j h5
         ·exact hu
       ·rw [decide_eq_false h1] at hfr'
        have e:=hno (fun h=>h1 (hus.1 h).1)
        have zS:=jj hilI<|jj hg<|jj hgE<|jj hget<|hfr'
        repeat' (first|(refine aSk fun K hK=>?_)|(refine eM64 ?_)|(refine eC (fun h=>?_) (fun h=>?_)<;>(try simp at h))|(refine hK _ ?_;clear hK)|clear hK)
        all_goals clear zS
        refine ⟨by simp,?_⟩
        simp [lvI,f127,e]
        try exact dt
     ·obtain rfl:i=fs.length:=by omega
      have e:=usB_iff.2 hinv
      repeat' (first|(refine aSk fun K hK=>?_)|(refine eMo ?_)|(refine eC (fun h=>?_) (fun h=>?_)<;>(try simp at h))|(refine hK _ ?_;clear hK)|clear hK)
      refine ⟨by simp,?_⟩
      simp [lvI,f127,e]
      try exact dt
 ·have hmI:¬ (fs.length:Int)=(m:Int):=by omega
  have zS:=jj hm<|hmI
  refine dM64 ?_
  repeat (intro K hK)
  clear zS
  refine ⟨by simp,?_⟩
  simp [lvI,f127,hm]
  try exact dt
theorem decR_tw {g:Nat} (hg:g≤4294967295):decR (g*256+4)=((4,(g:Int),false,false,false,false),0):=by
 have hb:∀ j,3≤j→j<8→(g*256+4).testBit j=false:=fun j h1 h2=>by
  rw [Nat.testBit_eq_decide_div_mod_eq]
  rcases (by omega:j=3∨j=4∨j=5∨j=6∨j=7) with rfl|rfl|rfl|rfl|rfl
  all_goals exact decide_eq_false (by omega)
 have hp:prs (g*256+4)=(4,(g:Int),false,false,false,false):=by
  unfold prs
  rw [hb 3 (by omega) (by omega),hb 4 (by omega) (by omega),hb 5 (by omega) (by omega),hb 6 (by omega) (by omega)]
  rw [show (g*256+4)%8=4 by omega,show (g*256+4)/256%4294967296=g by omega]
  rfl
 have he:encR (4,(g:Int),false,false,false,false)=(((g*256+4:Nat):Int),0):=by
  rw [encR_z (by simp only;omega) (by unfold badF;simp only;omega) (by rfl)]
  unfold encW fb
  simp
  omega
 rw [decR_z (by rw [hp];exact he),hp]
theorem tabW_tw {g:Nat} (hg:g≤4294967295):tabW (g*256+4)=some (g:Int):=by unfold tabW;rw [decR_tw hg];rfl
theorem okWb_tw {g l:Nat} (hg:g≤4294967295) (hl:0<l):okWb l (g*256+4)=true:=by
 unfold okWb;rw [decR_tw hg]
 simp [suitB,hl]
theorem decR_0:decR 0=(zE,0):=by rfl
theorem wdZ (adm:Int→Bool):WdZ (WD adm) where
 ok:=fun l=>by show okWb l 0=true;unfold okWb;rw [decR_0];rfl
 tab:=by show tabW 0=none;unfold tabW;rw [decR_0];rfl
theorem kind0 {l w:Nat} (h:okWb l w=true):(decR w).1.1=0↔w=0:=by
 constructor
 ·intro h0
  unfold okWb at h
  simp only [Bool.and_eq_true,decide_eq_true_eq] at h
  by_cases he:encR (prs w)=((w:Int),0)
  ·rw [decR_z he] at h0
   simp only at h0
   by_cases hb:badF (prs w)
   ·rw [encR_f (by rw [h0];decide) hb] at he;simp at he
   ·cases hf:frmE (prs w) with
    | false=>rw [encR_m (by rw [h0];decide) hb hf] at he;simp at he
    | true =>
     rw [encR_z (by rw [h0];decide) hb hf] at he
     simp only [pJ,and_true] at he
     unfold frmE noFl at hf
     rw [if_neg (by rw [h0];decide),if_neg (by rw [h0];decide),if_pos h0] at hf
     simp only [Bool.and_eq_true,decide_eq_true_eq,Bool.not_eq_true'] at hf
     unfold encW fb at he
     rw [h0,hf.1,hf.2.1,hf.2.2.1,hf.2.2.2.1,hf.2.2.2.2] at he
     simp at he
     omega
  ·rw [decR_n he] at h
   simp at h
 ·rintro rfl
  rw [decR_0];rfl
section
variable {M:Mm} {root:Int} {p:Nat}
theorem dgt2 (hp:p<512):dgt p 2=p/64:=by unfold dgt;simp;omega
theorem dgt1:dgt p 1=p/8%8:=by unfold dgt;simp
theorem dgt0:dgt p 0=p%8:=by unfold dgt;simp
theorem wlk_at (hV:VM WA M root) (hp:p<512) {f:Int} {l w:Nat} (h:wlk M root p=(f,l,w)) :
  l≤2∧(2 - l,p/8^(l+1))∈Pos∧frP WA M root (2 - l) (p/8^(l+1))=some f∧w=wM M f (dgt p l)∧tabW w=none∧okWb l w=true:=by
 have hok:∀ d q,(d,q)∈Pos→∀ f,frP WA M root d q=some f→∀ i,i<8→okWb (2 - d) (wM M f i)=true:=fun d q hx f hf i hi=>by
  obtain ⟨ws,h1,_,h3⟩:=hV.nd d q hx f hf
  unfold wM;rw [h1];exact h3 i hi
 have f1:frP WA M root 1 (p/64)=tabW (wM M root (p/64)):=by
  simp only [frP,Option.bind_some]
  rw [show p/64%8=p/64 by omega]
  rfl
 have f2:frP WA M root 2 (p/8)=(frP WA M root 1 (p/64)).bind fun f=>tabW (wM M f (p/8%8)):=by
  show (frP WA M root 1 (p/8/8)).bind _=_
  rw [show p/8/8=p/64 by omega]
  rfl
 unfold wlk at h
 cases h2:frP WA M root 2 (p/8) with
 | some g =>
  rw [h2] at h
  simp only [pJ] at h
  obtain ⟨rfl,rfl,rfl⟩:=h
  have hx:=Pos2 (q:=p/8) (by omega)
  have ho:=hok 2 _ hx _ h2 (p%8) (by omega)
  refine ⟨by omega,by simpa using hx,by simpa using h2,by rw [dgt0],?_,ho⟩
  exact (WD_ok fun _=>true).flat _ ho
 | none =>
  rw [h2] at h f2
  simp only at h
  cases h1:frP WA M root 1 (p/64) with
  | some g =>
   rw [h1] at h f2
   simp only [pJ] at h
   obtain ⟨rfl,rfl,rfl⟩:=h
   have hx:=Pos1 (q:=p/64) (by omega)
   have ho:=hok 1 _ hx _ h1 (p/8%8) (by omega)
   exact ⟨by omega,by simpa using hx,by simpa using h1,by rw [dgt1],f2.symm,ho⟩
  | none =>
   rw [h1] at h f1
   simp only [pJ] at h
   obtain ⟨rfl,rfl,rfl⟩:=h
   have ho:=hok 0 0 Pos0 _ rfl (p/64) (by omega)
   refine ⟨by omega,by simp;rw [show p/512=0 by omega];exact Pos0,by simp [frP],by rw [dgt2 hp],f1.symm,ho⟩
theorem wlk_of (hp:p<512) {f:Int} {l:Nat} (hl:l≤2) (h:frP WA M root (2 - l) (p/8^(l+1))=some f) (h2:tabW (wM M f (dgt p l))=none∨l=0):wlk M root p=(f,l,wM M f (dgt p l)):=by
 have f2:frP WA M root 2 (p/8)=(frP WA M root 1 (p/64)).bind fun f=>tabW (wM M f (p/8%8)):=by
  show (frP WA M root 1 (p/8/8)).bind _=_
  rw [show p/8/8=p/64 by omega]
  rfl
 have f1:frP WA M root 1 (p/64)=tabW (wM M root (p/64)):=by
  simp only [frP,Option.bind_some]
  rw [show p/64%8=p/64 by omega]
  rfl
 unfold wlk
 rcases (by omega:l=0∨l=1∨l=2) with rfl|rfl|rfl
 ·simp at h
  rw [h];simp [dgt0]
 ·simp at h
  rw [dgt1] at h2
  have h2:=h2.resolve_right (by omega)
  rw [h,Option.bind_some,h2] at f2
  rw [f2,h];simp [dgt1]
 ·simp [frP] at h
  subst h
  rw [dgt2 hp] at h2
  have h2:=h2.resolve_right (by omega)
  rw [h2] at f1
  rw [f1] at f2
  rw [f2,f1];simp [dgt2 hp]
end
theorem Mof_ext {a b:Mm} (h:∀ g,a g=b g):a=b:=funext h
theorem Pv.grow {r:Int} {ns:NdL} {ds:List Dp} (h:Pv (r,ns,ds)) (ht:tbOK (r,ns,ds)) {p:Nat} (hp:p<512) {g:Nat} (hg:g≤4294967295) (hn:∀ n∈ns,n.1≠(g:Int)) {f:Int} {l w:Nat} (hw:wlk (Mof ns) r p=(f,l+1,w)) (hlen:ns.length<1000000) :
  Pv (r,stD r ds p ns g,ds)∧tbOK (r,stD r ds p ns g,ds)∧Mof (stD r ds p ns g)=updM1 (updW (Mof ns) f (dgt p (l+1)) (g*256+4)) g (some zs8)∧wlk (Mof (stD r ds p ns g)) r p=((g:Int),l,0)∧(stD r ds p ns g).length=ns.length+1∧∀ n∈stD r ds p ns g,n.1=g∨∃ m∈ns,n.1=m.1:=by
 obtain ⟨hl2,hx,hfp,hwm,htn,hok⟩:=wlk_at h.vm hp hw
 simp only at hfp hwm
 have hwk:=h.walk hp
 simp only at hwk
 have hfn:=hwk.2.1
 have hlv:=hwk.2.2
 rw [hw] at hfn hlv
 simp only at hfn hlv
 have hnl:(lsT (r,ns,ds) p).1<ns.length:=fnd_lt hfn
 have hst:stD r ds p ns g=insK (setN ns (lsT (r,ns,ds) p).1 (dgt p (l+1)) (g*256+4)) ((g:Int),zs8):=by
  unfold stD
  simp only [hlv,Int.toNat_natCast]
 have hsa:=setN_asc h.asc (i:=dgt p (l+1)) (w:=g*256+4) hnl
 have hsf:=setN_fr (i:=dgt p (l+1)) (w:=g*256+4) hnl hn
 have hM:Mof (stD r ds p ns g)=updM1 (updW (Mof ns) f (dgt p (l+1)) (g*256+4)) g (some zs8):=by
  rw [hst]
  refine Mof_ext fun x=>?_
  rw [Mof_ins hsa hsf,show Mof (setN ns (lsT (r,ns,ds) p).1 (dgt p (l+1)) (g*256+4))=updW (Mof ns) f (dgt p (l+1)) (g*256+4) from Mof_ext (Mof_set h.asc hfn)]
 have hMg:Mof ns (g:Int)=none:=(Mof_none h.asc).2 hn
 have hd8:=dgt_lt p (l+1)
 have hdl:2 - (l+1)<2:=by omega
 have hgr:=h.vm.grow (wdZ fun _=>true) hx hdl hfp (i:=dgt p (l+1)) (w:=g*256+4) hd8 (by rw [← hwm];exact htn) hMg (tabW_tw hg) (by show okWb (2 - (2 - (l+1))) _=true;exact okWb_tw hg (by omega))
 simp only at hgr
 rw [← hM] at hgr
 have hql:p/8^(l+1+1)*8+dgt p (l+1)=p/8^(l+1):=by
  unfold dgt
  rw [Nat.pow_succ,← Nat.div_div_eq_div_mul]
  omega
 have hfg:=hgr.2 (2 - l) (p/8^(l+1)) (by have:=Pos_dn hx hdl hd8;rw [hql] at this;rwa [show 2 - (l+1)+1=2 - l by omega] at this)
 rw [if_pos ⟨by omega,hql.symm⟩] at hfg
 have hMn:Mof (stD r ds p ns g) g=some zs8:=by rw [hM];simp [updM1]
 have hw0:∀ i,wM (Mof (stD r ds p ns g)) g i=0:=fun i=>by unfold wM;rw [hMn];exact zs8_getD i
 refine ⟨⟨by show ascN (stD r ds p ns g);rw [hst];exact insK_asc hsa hsf,hgr.1⟩,⟨?_,?_,ht.2.2⟩,hM,?_,?_,?_⟩
 ·intro x hx
  simp only at hx
  rw [hst] at hx
  rcases mem_insK.1 hx with e|hx
  ·rw [e];exact ⟨rfl,fun w hw=>by simp [zs8] at hw;omega⟩
  ·exact setN_ok ht.1 (by omega) hnl x hx
 ·show (stD r ds p ns g).length≤1000000
  rw [hst,insK_len,sNl];omega
 ·have:=wlk_of (M:=Mof (stD r ds p ns g)) hp (l:=l) (by omega) hfg (.inl (by rw [hw0];exact (wdZ fun _=>true).tab))
  rw [this,hw0]
 ·rw [hst,insK_len,sNl]
 ·intro n hn2
  rw [hst] at hn2
  rcases mem_insK.1 hn2 with e|hx
  ·exact .inl (by rw [e])
  ·refine .inr ?_
   rcases List.mem_or_eq_of_mem_set hx with h1|h1
   ·exact ⟨n,h1,rfl⟩
   ·exact ⟨_,gn_mem hnl,by rw [h1];rfl⟩
theorem deepL {r:Int} {ns:NdL} {ds:List Dp} (h:Pv (r,ns,ds)) (ht:tbOK (r,ns,ds)) {p:Nat} (hp:p<512) {fs:List Int} (hu:usB ns ds fs=true) (hlen:ns.length≤999000) {f:Int} {l w:Nat} (hw:wlk (Mof ns) r p=(f,l,w)):∀ i,i≤fs.length→i≤l →
  Pv (r,dpN r ds p ns (fs.take i),ds)∧tbOK (r,dpN r ds p ns (fs.take i),ds)∧(∃ f' w',wlk (Mof (dpN r ds p ns (fs.take i))) r p=(f',l - i,w')∧(0<i→w'=0))∧(dpN r ds p ns (fs.take i)).length=ns.length+i∧∀ n∈dpN r ds p ns (fs.take i),(∃ m∈ns,n.1=m.1)∨∃ j,j<i∧n.1=gi fs j
 | 0,_,_=>⟨by rw [dpN_0];exact h,by rw [dpN_0];exact ht,⟨f,w,by rw [dpN_0];exact hw,by omega⟩,by rw [dpN_0];rfl,fun n hn=>.inl ⟨n,by rw [dpN_0] at hn;exact hn,rfl⟩⟩
 | i+1,hi,hil=>by
  have hl2:=(wlk_at h.vm hp hw).1
  obtain ⟨h1,h2,⟨f',w',h3,_⟩,h4,h5⟩:=deepL h ht hp hu hlen hw i (by omega) (by omega)
  obtain ⟨⟨g0,g1⟩,u2,u3,u4⟩:=usB_iff.1 hu i (by omega)
  obtain ⟨g,hg⟩:=Int.eq_ofNat_of_zero_le g0
  rw [dpN_s (by omega)]
  rw [hg] at g1 u2 u3 u4 ⊢
  obtain ⟨L,hL⟩:∃ L,l - i=L+1:=⟨l - i - 1,by omega⟩
  rw [hL] at h3
  have hnew:∀ n∈dpN r ds p ns (fs.take i),n.1≠(g:Int):=fun n hn e=>by
   rcases h5 n hn with ⟨m,hm,k⟩|⟨j,hj,k⟩
   ·exact u2 m hm (by rw [← k];exact e)
   ·exact u4 j hj (by rw [← k];exact e)
  obtain ⟨k1,k2,_,k4,k5,k6⟩:=h1.grow h2 hp (g:=g) (by omega) hnew h3 (by omega)
  refine ⟨k1,k2,⟨_,_,by rw [show l - (i+1)=L by omega];exact k4,fun _=>rfl⟩,by rw [k5,h4];omega,fun n hn=>?_⟩
  rcases k6 n hn with e|⟨m,hm,e⟩
  ·exact .inr ⟨i,by omega,by rw [e,hg]⟩
  ·rcases h5 m hm with ⟨m2,hm2,k⟩|⟨j,hj,k⟩
   ·exact .inl ⟨m2,hm2,by rw [e,k]⟩
   ·exact .inr ⟨j,by omega,by rw [e,k]⟩
theorem deep_ok {r:Int} {ns:NdL} {ds:List Dp} (h:Pv (r,ns,ds)) (ht:tbOK (r,ns,ds)) {p:Nat} (hp:p<512) {fs:List Int} (hu:usB ns ds fs=true) (hlen:ns.length≤999000) {f:Int} {l w:Nat} (hw:wlk (Mof ns) r p=(f,l,w)) (hf8:fs.length≤1000) (hle:fs.length≤l):dpOK r ds p ns fs:=by
 refine ⟨⟨hp,hf8,by omega,ht.2.2⟩,fun i hi=>?_⟩
 obtain ⟨h1,h2,_,h4,h5⟩:=deepL h ht hp hu hlen hw i (by omega) (by omega)
 obtain ⟨⟨g0,g1⟩,u2,u3,u4⟩:=usB_iff.1 hu i hi
 refine ⟨h1.pto h2 hp,fun n hn e=>?_,g0,g1⟩
 rcases h5 n hn with ⟨m,hm,k⟩|⟨j,hj,k⟩
 ·exact u2 m hm (by rw [← k];exact e)
 ·exact u4 j hj (by rw [← k];exact e)
end Go.AM
namespace Go.AM
open Go Go.Proofs Tryz
abbrev D1D:=Tb×Nat×Nat
noncomputable def deS2:List AV→List AO→Option (AV×List AO):=specG (ι:={x:D1D // dpC x.1.1 x.1.2.2 x.2.1 x.1.2.1 x.2.2}) (fun x=>[.bp 0 0,I x.1.2.1,.sl 3 1 1 0 1]) (fun x=>pMs x.1.1 1 1++[.vec 1 1 false [[I x.1.2.2]]]) (fun x=>.tup []) fun x=>pMs (x.1.1.1,stD x.1.1.1 x.1.1.2.2 x.1.2.1 x.1.1.2.1 x.1.2.2,x.1.1.2.2) 2 1++[.vec 1 1 false [[I x.1.2.2]]]
theorem deS2_at {t:Tb} {p f:Nat} (h:dpC t.1 t.2.2 p t.2.1 f):deS2 [.bp 0 0,I p,.sl 3 1 1 0 1] (pMs t 1 1++[.vec 1 1 false [[I f]]])=some (.tup [],pMs (t.1,stD t.1 t.2.2 p t.2.1 f,t.2.2) 2 1++[.vec 1 1 false [[I f]]]):=by
 refine sGe (ι:={x:D1D // dpC x.1.1 x.1.2.2 x.2.1 x.1.2.1 x.2.2}) (A:=fun x=>[.bp 0 0,I x.1.2.1,.sl 3 1 1 0 1]) (M:=fun x=>pMs x.1.1 1 1++[.vec 1 1 false [[I x.1.2.2]]]) (R:=fun x=>.tup []) (O:=fun x=>pMs (x.1.1.1,stD x.1.1.1 x.1.1.2.2 x.1.2.1 x.1.1.2.1 x.1.2.2,x.1.1.2.2) 2 1++[.vec 1 1 false [[I x.1.2.2]]]) ⟨(t,p,f),h⟩ fun j hA hM=>?_
 obtain ⟨⟨t',p',f'⟩,h'⟩:=j
 obtain ⟨e,e2⟩:=List.append_inj' hM rfl
 have e:=pMs_inj e
 simp only at e
 subst e
 simp only [cJ,I,AV.v.injEq,Value.int.injEq,true_and,and_true,AO.vec.injEq] at hA e2
 have e1:p'=p:=by omega
 have e3:f'=f:=by omega
 subst e1 e3
 exact ⟨rfl,rfl⟩
set_option maxHeartbeats 4000000 in
theorem s129_1 (X:AX) (hX:XOK prog X) (hw:X.W wT) (hla:OwnR X 110 (fun t x=>0≤x∧ptO t x.toNat) fun t x=>stV (lsT t x.toNat)) (hdg:∀ (p l:Nat),p<512→l≤2→∀ M n,X.call 139 [I p,I l] M n=some (I (dgt p l),[]))
  (hen:∀ f:Nat,f≤4294967295→∀ M n,X.call 143 [.agg [I 4,I f,B false,B false,B false,B false]] M n=some (.tup [U ((f*256+4:Nat)),I 0],[])) (had:X.call 186=caG adS):GSd prog 129 deS2:=by
 unfold deS2
 refine gsS func129 rfl X fun ⟨⟨⟨r,ns,ds⟩,p,f⟩,hpt,hnf,hf0,hf1⟩ w0 L E=>⟨by show 3≤46;decide,?_⟩
 simp only at hpt hnf hf0 hf1
 have hp:p<512:=hpt.2.2.1
 have hl1:ns.length≤1000000:=hpt.1.2.1
 have hl2:ds.length≤1000000:=hpt.1.2.2
 simp only [pMs]
 have hen':=hen f (by omega)
 have hla':=hla r ns ds p ⟨by omega,hpt⟩
 obtain ⟨hlt1,hlt2⟩:(lsT (r,ns,ds) p).1<ns.length∧(lsT (r,ns,ds) p).2.1≤2:=by
  obtain ⟨_,_,_,⟨rt,hrt⟩,_⟩:=hpt
  exact lst_lt (by unfold rtN;rw [hrt];exact fnd_lt hrt)
 have ht:=hpt.1
 have ha:=hpt.2.1
 have hds:stD r ds p ns f=insK (setN ns (lsT (r,ns,ds) p).1 (dgt p (lsT (r,ns,ds) p).2.1) (f*256+4)) ((f:Int),zs8):=by unfold stD;rw [Int.toNat_natCast]
 obtain ⟨⟨a,b,c⟩,hS⟩:∃ S,S=lsT (r,ns,ds) p:=⟨_,rfl⟩
 simp only [Int.toNat_natCast] at hla'
 rw [← hS] at hla' hlt1 hlt2 hds
 simp only at hla' hlt1 hlt2 hds
 have hdg':=hdg p b hp hlt2
 have hdl:=dgt_lt p b
 have haN:(a:Int)<(ns.length:Int):=by omega
 have hgn:=nrG hlt1
 have hgnE:=nrE hlt1
 have h8:(gn ns a).2.length=8:=(ht.1 _ (gn_mem hlt1)).1
 obtain ⟨w,hwd⟩:∃ w,w=f*256+4:=⟨_,rfl⟩
 rw [← hwd] at hen' hds
 have hset:=@nrows_setN ns a (dgt p b) w hlt1
 have hwl:(wcs (gn ns a).2).length=8:=by simp [h8]
 have hw64:w<2^64:=by omega
 obtain ⟨NT,hNT⟩:∃ NT,NT=setN ns a (dgt p b) w:=⟨_,rfl⟩
 have hNl2:NT.length=ns.length:=by rw [hNT];simp
 have ht2:tbOK (r,NT,ds):=⟨by rw [hNT];exact setN_ok ht.1 hw64 hlt1,by show NT.length≤1000000;omega,hl2⟩
 have ha2:ascN NT:=by rw [hNT];exact setN_asc ha hlt1
 have hn2:∀ n∈NT,n.1≠(f:Int):=by rw [hNT];exact setN_fr hlt1 hnf
 have hca:=fun M n=>@callAd 0 1 2 (by decide) (by decide) (by decide) r NT ds f ht2 ha2 hn2 (by omega) 0 0 M n
 rw [← had] at hca
 simp only [hNl2,Nat.zero_add] at hca
 rw [← hNT] at hset hds
 obtain ⟨⟨fr,ws⟩,hm⟩:∃ m,m=gn ns a:=⟨_,rfl⟩
 rw [← hm] at hgn hgnE hwl hset
 simp only at hgn hgnE hwl hset
 obtain ⟨cs,hcs⟩:∃ cs,cs=wcs ws:=⟨_,rfl⟩
 rw [← hcs] at hgn hgnE hwl hset
 obtain ⟨dg,hdg0⟩:∃ dg,dg=dgt p b:=⟨_,rfl⟩
 rw [← hdg0] at hdl hdg' hset
 have hdI:(dg:Int)<8:=by omega
 clear hcs hm h8 hS
 have hs1:∀ w:Int,(I fr::cs).set (1+dg) (AV.v (.int .u64 w))=I fr::cs.set dg (AV.v (.int .u64 w)):=fun w=>by rw [Nat.add_comm];rfl
 have hil2:=@insK_len _ ((f:Int),zs8) NT
 clear hwd
 simp only [stV,srow,U] at hla' hset hen'
 simp only [hds,hil2,hNl2]
 show AW ⟨prog,X,46,w0,⟨L,E,4⟩⟩ _ _ _
 have hc:Cx.OK ⟨prog,X,46,w0,⟨L,E,4⟩⟩:=⟨hX,mixed⟩
 repeat' (first|(refine aSk fun K hK=>?_)|(refine eMo ?_)|(refine eC (fun h=>?_) (fun h=>?_)<;>(try simp at h))|(refine hK _ ?_;clear hK)|(clear hK;refine hK _ ?_;clear hK))
 refine aRs_ 2 (aRd ?_)
 have zS:=jj hla'<|jj hen'<|jj hdg'<|jj hlt1<|jj haN<|jj hgn<|jj hgnE<|jj hwl<|jj hdl<|jj hdI<|jj hset<|jj hs1<|hca
 repeat' (first|(refine aSk fun K hK=>?_)|(refine eF64 ?_)|(refine eC (fun h=>?_) (fun h=>?_)<;>(try simp at h))|(refine hK _ ?_;clear hK)|clear hK)
 all_goals clear zS
 refine ⟨[],rfl,?_⟩
 simp only [idx]
 exact dle
noncomputable def deB:List AV→List AO→Option (AV×List AO):=orG deS deS2
set_option maxHeartbeats 8000000
set_option maxRecDepth 4000 in
theorem callDe {a b c:Nat} (hab:a≠b) (hac:a≠c) (hbc:b≠c) {r:Int} {ns:NdL} {ds:List Dp} {p:Nat} {fs:List Int} (h:dpOK r ds p ns fs) {v v2:Nat} (M:Nat→AO) (nid:Nat)
  (h0:M a=.box [I r,.sl b (v+1) 9 0 ns.length,.sl c (v2+1) 2 0 ds.length]) (h1:M b=.vec (v+1) 9 false (nrw ns)) (h2:M c=.vec (v2+1) 2 false (prw ds)) :
  caG deB [.bp a 0,I p,.rd 1 (irw fs)] M nid=some (.tup [],[(a,.box [I r,.sl b (fs.length+v+1) 9 0 (dpN r ds p ns fs).length,.sl c (v2+1) 2 0 ds.length]),(b,.vec (fs.length+v+1) 9 false (nrw (dpN r ds p ns fs))),(c,.vec (v2+1) 2 false (prw ds))]):=by
 have hF:deB _ _=_:=orG_1 (deS_at (t:=(r,ns,ds)) h)
 simp only [pMs,dM] at hF
 unfold caG
 have hba:b≠a:=fun e=>hab e.symm
 have hca:c≠a:=fun e=>hac e.symm
 have hcb:c≠b:=fun e=>hbc e.symm
 have hg:gat M 64 (nmsL [.bp a 0,I p,.rd 1 (irw fs)]) []=[a,b,c]:=by
  simp [gat,nmsL,AV.nms,AO.nms,h0,h1,h2,hab,hac,hbc,hba,hca,hcb]
 simp only [hg]
 rw [if_pos ?cg]
 case cg=>simp [CallG,nmsL,AV.nms,AO.nms,Led,curBL,AV.curB,AO.curB,verOf,nDd,h0,h1,h2,hab,hac,hbc,hba,hca,hcb]
 have e1:fs.length+1+v=fs.length+v+1:=by omega
 have e2:1+v2=v2+1:=by omega
 simp [renL,AV.ren,AO.ren,posN,canO,nmsL,h0,h1,h2,hF,RetG,getL,AV.nms,AO.nms,updN,nmN,shN,verOf,rng,Led,hab,hac,hbc,hba,hca,hcb,e1,e2]
def TbC (t:Tb) (n:Nat):AV:=.agg [I t.1,.sl n 1 9 0 t.2.1.length,.sl (n+1) 1 2 0 t.2.2.length]
def zT:Tb:=(0,[],[])
noncomputable def setP (t:Tb) (p:Int) (w:Nat) (fs:List Int):Tb×Int :=
 if ckd t p 512≠0 then (zT,ckd t p 512)
 else if (decR w).2≠0∨(decR w).1.1=0∨(decR w).1.1=4∨(decR w).1.2.2.2.2.2=true then (zT,3)
 else if (lsT t p.toNat).2.2≠0 then (zT,7)
 else if fs.length=(lsT t p.toNat).2.1∧usB t.2.1 t.2.2 fs=true then (putT (t.1,dpN t.1 t.2.2 p.toNat t.2.1 fs,t.2.2) p.toNat w,0)
 else (zT,1)
theorem ckd_pt {t:Tb} (ht:tbOK t) {n lim:Int} (h:¬ ckd t n lim≠0):Pv t∧0≤n∧n<lim:=by
 rcases ckd_cases t n lim with h1|h1
 ·exact absurd h1 h
 ·exact ⟨chk_pv ht h1.2.1,h1.2.2⟩
abbrev StD:=Tb×Int×Nat×List Int
def stOK (x:StD):Prop:=tbOK x.1∧x.1.2.1.length≤999000∧x.2.2.1<2^64∧x.2.2.2.length≤1000
theorem s51 (X:AX) (hX:XOK prog X) (hw:X.W wT) (hck:∀ t:Tb,tbOK t→∀ (n lim:Int) M k,X.call 109 [TbV t,I n,I lim] M k=some (I (ckd t n lim),[]))
  (hla:∀ (t:Tb) (p:Nat),ptO t p→∀ M n,X.call 110 [TbV t,I p] M n=some (stV (lsT t p),[]))
  (hdc:∀ n:Nat,n<2^64→∀ M k,X.call 56 [U n] M k=some (.tup [EnV (decR n).1,I (decR n).2],[]))
  (hen:∀ w:Nat,w<2^64→∀ M n,X.call 113 [U w] M n=some (EnV (decR w).1,[]))
  (hfh:∀ (t:Tb) (fs:List Int) (m:Nat),tbOK t→ascN t.2.1→fs.length≤1000→∀ M n,X.call 127 [TbV t,.rd 1 (irw fs),I m] M n=some (B (decide (fs.length=m)&&usB t.2.1 t.2.2 fs),[]))
  (hcl:∀ t:Tb,tbOK t→∀ M n,X.call 128 [TbV t] M n=some (TbC t n,[(n,.vec 1 9 false (nrw t.2.1)),(n+1,.vec 1 2 false (prw t.2.2))]))
  (hde:X.call 129=caG deB) (hpu:X.call 130=caG puS) :
  PSd prog 51 (spF (ι:={x:StD // stOK x}) (fun x=>[TbV x.1.1,I x.1.2.1,U x.1.2.2.1,.rd 1 (irw x.1.2.2.2)]) fun x=>rtO [TbO (setP x.1.1 x.1.2.1 x.1.2.2.1 x.1.2.2.2).1,I (setP x.1.1 x.1.2.1 x.1.2.2.1 x.1.2.2.2).2]):=by
 refine psS hX mixed func51 rfl fun ⟨⟨⟨r,ns,ds⟩,pI,w,fs⟩,ht,hl9,hw64,hf8⟩ w0 G=>⟨by show 4≤69;decide,rfl,?_⟩
 show AW ⟨prog,X,69,w0,.pure G⟩ _ _ _
 have hc:=okc hX 69 w0 G
 simp only at hl9 hw64 hf8 ht ⊢
 have hck':=hck _ ht pI 512
 have hl1:ns.length≤1000000:=ht.2.1
 have hl2:ds.length≤1000000:=ht.2.2
 rcases dE (ckd (r,ns,ds) pI 512≠0) with hk|hk
 ·have e:setP (r,ns,ds) pI w fs=(zT,ckd (r,ns,ds) pI 512):=by unfold setP;rw [if_pos hk]
  rw [e]
  obtain ⟨c,hc0⟩:∃ c,c=ckd (r,ns,ds) pI 512:=⟨_,rfl⟩
  rw [← hc0] at hck' hk ⊢
  simp only [TbV,TbO,zT] at hck' ⊢
  have zS:=jj hck'<|hk
  refine dM64 ?_
  repeat (intro K hK)
  clear zS
  refine ⟨by simp,?_⟩
  simp [lvI,f51,nrw,prw]
  try exact dt
 ·obtain ⟨hpv,hp0,hp1⟩:=ckd_pt ht hk
  obtain ⟨p,rfl⟩:=Int.eq_ofNat_of_zero_le hp0
  have hp:p<512:=by omega
  have hz:ckd (r,ns,ds) p 512=0:=by omega
  rw [hz] at hck'
  have hdc':=hdc w hw64
  have hla':=hla _ _ (hpv.pto ht hp)
  have hlw:=lsT_u64 ht hpv hp
  have hen':=hen _ hlw
  have hlv:=(hpv.walk hp).2.2
  obtain ⟨f0,l0,w0',hwk⟩:∃ f l w,wlk (Mof ns) r p=(f,l,w):=⟨_,_,_,rfl⟩
  obtain ⟨hl02,_,_,_,hwt,hwok⟩:=wlk_at hpv.vm hp hwk
  have hk0:=kind0 hwok
  simp only at hlv
  rw [hwk] at hlv
  simp only at hlv
  have hls:lsT (r,ns,ds) p=((lsT (r,ns,ds) p).1,l0,w0'):=by rw [← hlv]
  have hfh':=hfh (r,ns,ds) fs l0 ht hpv.asc hf8
  have hcl':=hcl _ ht
  have eS:setP (r,ns,ds) p w fs=if (decR w).2≠0∨(decR w).1.1=0∨(decR w).1.1=4∨(decR w).1.2.2.2.2.2=true then (zT,3)
    else if w0'≠0 then (zT,7)
    else if fs.length=l0∧usB ns ds fs=true then (putT (r,dpN r ds p ns fs,ds) p w,0)
    else (zT,1):=by
   unfold setP
   rw [if_neg hk,Int.toNat_natCast,hlv]
  rw [eS]
  rw [hls] at hla' hen' hlw
  simp only at hen' hlw
  obtain ⟨a0,ha0⟩:∃ a,a=(lsT (r,ns,ds) p).1:=⟨_,rfl⟩
  rw [← ha0] at hla'
  obtain ⟨⟨⟨k,f,d,a,x,h⟩,e⟩,hE⟩:∃ r,r=decR w:=⟨_,rfl⟩
  obtain ⟨⟨⟨k2,f2,d2,a2,x2,h2⟩,e2⟩,hE2⟩:∃ r,r=decR w0':=⟨_,rfl⟩
  rw [← hE] at hdc' ⊢
  rw [← hE2] at hen' hk0
  clear hls eS hE hE2 hck hla hdc hen
  simp only [TbV,TbO,TbC,zT,EnV,stV,srow,U] at hck' hla' hdc' hen' hfh' hcl' hk0 ⊢
  rcases dE (e≠0∨k=0∨k=4∨h=true) with hb|hb
  ·rw [if_pos hb]
   rcases dE (e=0) with he|he
   ·rcases dE (k=0) with hk1|hk1
    ·have zS:=jj hck'<|jj hdc'<|jj he<|hk1
     refine dM64 ?_
     repeat (intro K hK)
     clear zS
     all_goals refine ⟨by simp,?_⟩
     all_goals simp [lvI,f51,nrw,prw]
     all_goals try exact dt
    ·rcases dE (k=4) with hk2|hk2
     ·have zS:=jj hck'<|jj hdc'<|jj he<|jj hk1<|hk2
      refine dM64 ?_
      repeat (intro K hK)
      clear zS
      all_goals refine ⟨by simp,?_⟩
      all_goals simp [lvI,f51,nrw,prw]
      all_goals try exact dt
     ·obtain rfl:h=true:=by
       rcases hb with hb|hb|hb|hb
       ·exact absurd he hb
       ·exact absurd hb hk1
       ·exact absurd hb hk2
       ·exact hb
      have zS:=jj hck'<|jj hdc'<|jj he<|jj hk1<|hk2
      refine dM64 ?_
      repeat (intro K hK)
      clear zS
      all_goals refine ⟨by simp,?_⟩
      all_goals simp [lvI,f51,nrw,prw]
      all_goals try exact dt
   ·have zS:=jj hck'<|jj hdc'<|he
    refine dM64 ?_
    repeat (intro K hK)
    clear zS
    all_goals refine ⟨by simp,?_⟩
    all_goals simp [lvI,f51,nrw,prw]
    all_goals try exact dt
  ·rw [if_neg hb]
   obtain ⟨rfl,hk1,hk2,rfl⟩:e=0∧k≠0∧k≠4∧h=false:=by
    refine ⟨by omega,by omega,by omega,?_⟩
    cases h
    ·rfl
    ·exact absurd (Or.inr (Or.inr (Or.inr rfl))) hb
   rcases dE (w0'=0) with hw0|hw0
   ·have hk3:=hk0.2 hw0
    rw [if_neg (by simp [hw0])]
    rcases dE (fs.length=l0∧usB ns ds fs=true) with hf|hf
    ·rw [if_pos hf]
     rw [decide_eq_true hf.1,hf.2] at hfh'
     have hdk:=deep_ok hpv ht hp hf.2 hl9 hwk hf8 (by omega)
     obtain ⟨j1,j2,⟨f',w',j3,j4⟩,j5,j6⟩:=deepL hpv ht hp hf.2 hl9 hwk fs.length (Nat.le_refl _) (by omega)
     rw [List.take_length] at j1 j2 j3 j5
     have hde':=fun M n=>@callDe 816 800 801 (by decide) (by decide) (by decide) r ns ds p fs hdk 0 0 M n
     rw [← hde] at hde'
     have hpu':=fun M n=>@callPu 816 800 801 (by decide) (by decide) (by decide) r (dpN r ds p ns fs) ds p w (j1.pto j2 hp) hw64 fs.length 0 M n
     rw [← hpu] at hpu'
     simp only [Nat.zero_add,Nat.add_zero,U] at hde' hpu'
     have hPl:(putT (r,dpN r ds p ns fs,ds) p w).2.1.length=(dpN r ds p ns fs).length:=sNl
     have hP0:putT (r,dpN r ds p ns fs,ds) p w=(r,(putT (r,dpN r ds p ns fs,ds) p w).2.1,ds):=rfl
     rw [hP0]
     simp only
     obtain ⟨R,hR⟩:∃ R,R=(putT (r,dpN r ds p ns fs,ds) p w).2.1:=⟨_,rfl⟩
     rw [← hR] at hPl hpu' ⊢
     obtain ⟨D,hD⟩:∃ D,D=dpN r ds p ns fs:=⟨_,rfl⟩
     rw [← hD] at hde' hpu' hPl
     clear hR hD hP0
     have zS:=jj hck'<|jj hdc'<|jj hk1<|jj hk2<|jj hla'<|jj hen'<|jj hk3<|jj hfh'<|jj hcl'<|jj hde'<|hpu'
     refine dF64 ?_
     repeat (intro K hK)
     clear zS
     have tkR:List.take D.length (nrw R)=nrw R:=tkL (by simp;omega)
     have tkd:List.take ds.length (prw ds)=prw ds:=tkL (by simp)
     refine ⟨by simp,?_⟩
     simp [lvI,f51,hPl,tkR,tkd]
     try exact dt
    ·rw [if_neg hf]
     have hff:(decide (fs.length=l0)&&usB ns ds fs)=false:=by
      cases hu:usB ns ds fs
      ·simp
      ·rw [hu] at hf;simp at hf;simp [hf]
     rw [hff] at hfh'
     have zS:=jj hck'<|jj hdc'<|jj hk1<|jj hk2<|jj hla'<|jj hen'<|jj hk3<|hfh'
     refine dM64 ?_
     repeat (intro K hK)
     clear zS
     all_goals refine ⟨by simp,?_⟩
     all_goals simp [lvI,f51,nrw,prw]
     all_goals try exact dt
   ·have hk3:¬ k2=0:=fun h=>hw0 (hk0.1 h)
    rw [if_pos hw0]
    have zS:=jj hck'<|jj hdc'<|jj hk1<|jj hk2<|jj hla'<|jj hen'<|hk3
    refine dM64 ?_
    repeat (intro K hK)
    clear zS
    all_goals refine ⟨by simp,?_⟩
    all_goals simp [lvI,f51,nrw,prw]
    all_goals try exact dt
set_option maxHeartbeats 2000000 in
set_option maxRecDepth 4000 in
theorem callDp {a b c:Nat} (hab:a≠b) (hac:a≠c) (hbc:b≠c) {r:Int} {ns:NdL} {ds:List Dp} {g f:Int} (ht:tbOK (r,ns,ds)) (ha:ascK ds) {v v2:Nat} (M:Nat→AO) (nid:Nat)
  (h0:M a=.box [I r,.sl b (v+1) 9 0 ns.length,.sl c (v2+1) 2 0 ds.length]) (h1:M b=.vec (v+1) 9 false (nrw ns)) (h2:M c=.vec (v2+1) 2 false (prw ds)) :
  caG dpS [.bp a 0,I g,I f] M nid=some (.tup [],[(a,.box [I r,.sl b (v+1) 9 0 ns.length,.sl nid 1 2 0 (ds.length+1)]),(b,.vec (v+1) 9 false (nrw ns)),(c,.dead),(nid,.vec 1 2 false (prw (insL ds g f)))]):=by
 have hF:=dpS_at (t:=(r,ns,ds)) (g:=g) (f:=f) ht ha
 simp only [pMs,oM,insL_len] at hF
 unfold caG
 have hba:b≠a:=fun e=>hab e.symm
 have hca:c≠a:=fun e=>hac e.symm
 have hcb:c≠b:=fun e=>hbc e.symm
 have hg:gat M 64 (nmsL [.bp a 0,I g,I f]) []=[a,b,c]:=by
  simp [gat,nmsL,AV.nms,AO.nms,h0,h1,h2,hab,hac,hbc,hba,hca,hcb]
 simp only [hg]
 rw [if_pos ?cg]
 case cg=>simp [CallG,nmsL,AV.nms,AO.nms,Led,curBL,AV.curB,AO.curB,verOf,nDd,h0,h1,h2,hab,hac,hbc,hba,hca,hcb]
 have e1:1+v=v+1:=by omega
 simp [renL,AV.ren,AO.ren,posN,canO,nmsL,h0,h1,h2,hF,RetG,getL,AV.nms,AO.nms,updN,nmN,shN,verOf,rng,Led,hab,hac,hbc,hba,hca,hcb,e1]
noncomputable def setH (t:Tb) (g:Int) (w:Nat) (fs:List Int):Tb×Int :=
 if ckd t g 64≠0 then (zT,ckd t g 64)
 else if (decR w).2≠0∨(decR w).1.2.2.2.2.2=false then (zT,3)
 else if (lsT t (g.toNat*8)).2.1=0∨(lsT t (g.toNat*8)).2.2≠0 then (zT,7)
 else if fs.length=(lsT t (g.toNat*8)).2.1∧usB t.2.1 t.2.2 fs=true then
  ((t.1,(putT (t.1,dpN t.1 t.2.2 (g.toNat*8) t.2.1 (fs.take (fs.length - 1)),t.2.2) (g.toNat*8) w).2.1,insL t.2.2 g (gi fs (fs.length - 1))),0)
 else (zT,1)
theorem ckd_vt {t:Tb} (ht:tbOK t) {n lim:Int} (h:¬ ckd t n lim≠0):Vt t:=by
 rcases ckd_cases t n lim with h1|h1
 ·exact absurd h1 h
 ·exact (chk_iff ht).1 h1.2.1
def partR (w:Nat) (i:Int):Int×Int :=
 if (decR w).2≠0 then (0,(decR w).2)
 else if (decR w).1.1≠1∨(decR w).1.2.2.2.2.2=false then (0,11)
 else if i<0∨8≤i then (0,2)
 else encR (1,(decR w).1.2.1+i,(decR w).1.2.2.1,(decR w).1.2.2.2.1,(decR w).1.2.2.2.2.1,false)
theorem decR_rng (w:Nat):0≤(decR w).1.2.1∧(decR w).1.2.1≤4294967295:=by
 unfold decR
 split
 ·exact (prs_rng w).2
 ·decide
set_option maxHeartbeats 4000000 in
theorem s68 (X:AX) (hX:XOK prog X) (hw:X.W wT) (hdc:∀ n:Nat,n<2^64→∀ M k,X.call 56 [U n] M k=some (.tup [EnV (decR n).1,I (decR n).2],[]))
  (hen:∀ k f d a x h M n,X.call 143 [.agg [I k,I f,B d,B a,B x,B h]] M n=some (.tup [U (encR (k,f,d,a,x,h)).1,I (encR (k,f,d,a,x,h)).2],[])) :
  PSd prog 68 (spF (ι:={x:Nat×Int // x.1<2^64}) (fun x=>[U x.1.1,I x.1.2]) fun x=>rtO [U (partR x.1.1 x.1.2).1,I (partR x.1.1 x.1.2).2]):=by
 refine psS hX mixed func68 rfl fun ⟨⟨w,i⟩,hw64⟩ w0 G=>⟨by show 2≤40;decide,rfl,?_⟩
 show AW ⟨prog,X,40,w0,.pure G⟩ _ _ _
 have hc:=okc hX 40 w0 G
 simp only at hw64 ⊢
 have hdc':=hdc w hw64
 have hr:=decR_rng w
 unfold partR
 obtain ⟨⟨⟨k,f,d,a,x,h⟩,e⟩,hE⟩:∃ r,r=decR w:=⟨_,rfl⟩
 rw [← hE] at hdc' hr ⊢
 clear hE
 simp only at hr ⊢
 simp only [EnV,U] at hdc' ⊢
 have hen':=hen 1 (f+i) d a x false
 obtain ⟨⟨e1,e2⟩,hR⟩:∃ R,R=encR (1,f+i,d,a,x,false):=⟨_,rfl⟩
 rw [← hR] at hen' ⊢
 simp only [U] at hen'
 rcases dE (e=0) with he|he
 ·subst he
  rw [if_neg (by simp)]
  rcases dE (k=1) with hk|hk
  ·subst hk
   cases h with
   | false =>
    rw [if_pos (.inr rfl)]
    have zS:=hdc'
    refine dM64 ?_
    repeat (intro K hK)
    clear zS
    all_goals refine ⟨by simp,?_⟩
    all_goals simp [lvI,f68]
    all_goals try exact dt
   | true =>
    rw [if_neg (by simp)]
    rcases dE (i<0) with hi|hi
    ·rw [if_pos (.inl hi)]
     have zS:=jj hdc'<|hi
     refine dM64 ?_
     repeat (intro K hK)
     clear zS
     all_goals refine ⟨by simp,?_⟩
     all_goals simp [lvI,f68]
     all_goals try exact dt
    ·rcases dE (8≤i) with hi2|hi2
     ·rw [if_pos (.inr hi2)]
      have zS:=jj hdc'<|jj hi<|hi2
      refine dM64 ?_
      repeat (intro K hK)
      clear zS
      all_goals refine ⟨by simp,?_⟩
      all_goals simp [lvI,f68]
      all_goals try exact dt
     ·rw [if_neg (by omega)]
      have zS:=jj hdc'<|jj hi<|jj hi2<|hen'
      refine dM64 ?_
      repeat (intro K hK)
      clear zS
      all_goals refine ⟨by simp,?_⟩
      all_goals simp [lvI,f68]
      all_goals try exact dt
  ·rw [if_pos (.inl hk)]
   have zS:=jj hdc'<|hk
   refine dM64 ?_
   repeat (intro K hK)
   clear zS
   all_goals refine ⟨by simp,?_⟩
   all_goals simp [lvI,f68]
   all_goals try exact dt
 ·rw [if_pos he]
  have zS:=jj hdc'<|he
  refine dM64 ?_
  repeat (intro K hK)
  clear zS
  all_goals refine ⟨by simp,?_⟩
  all_goals simp [lvI,f68]
  all_goals try exact dt
theorem decR_enc {k f:Int} {d a x h:Bool} (hk:0≤k∧k≤4) (hf:0≤f∧f≤4294967295) (hb:¬ badF (k,f,d,a,x,h)) (hm:frmE (k,f,d,a,x,h)=true):∃ n:Nat,encR (k,f,d,a,x,h)=((n:Int),0)∧n<2^64∧decR n=((k,f,d,a,x,h),0):=by
 have he:encR (k,f,d,a,x,h)=(encW (k,f,d,a,x,h),0):=encR_z hk hb hm
 obtain ⟨kn,rfl⟩:=Int.eq_ofNat_of_zero_le hk.1
 obtain ⟨fn,rfl⟩:=Int.eq_ofNat_of_zero_le hf.1
 obtain ⟨n,hn⟩:∃ n:Nat,n=kn+(if d then 8 else 0)+(if a then 16 else 0)+(if x then 32 else 0)+(if h then 64 else 0)+fn*256:=⟨_,rfl⟩
 have hw:encW ((kn:Int),(fn:Int),d,a,x,h)=(n:Int):=by
  unfold encW fb
  rw [hn]
  cases d<;>cases a<;>cases x<;>cases h<;>simp<;>omega
 have hp:prs n=((kn:Int),(fn:Int),d,a,x,h):=by
  unfold prs
  have e1:n%8=kn:=by rw [hn];cases d<;>cases a<;>cases x<;>cases h<;>simp<;>omega
  have e2:n/256%4294967296=fn:=by rw [hn];cases d<;>cases a<;>cases x<;>cases h<;>simp<;>omega
  have t:∀ j,n.testBit j=decide (n/2^j%2=1):=fun j=>Nat.testBit_eq_decide_div_mod_eq
  have b3:n.testBit 3=d:=by rw [t,hn];cases d<;>cases a<;>cases x<;>cases h<;>simp<;>omega
  have b4:n.testBit 4=a:=by rw [t,hn];cases d<;>cases a<;>cases x<;>cases h<;>simp<;>omega
  have b5:n.testBit 5=x:=by rw [t,hn];cases d<;>cases a<;>cases x<;>cases h<;>simp<;>omega
  have b6:n.testBit 6=h:=by rw [t,hn];cases d<;>cases a<;>cases x<;>cases h<;>simp<;>omega
  rw [e1,e2,b3,b4,b5,b6]
 refine ⟨n,by rw [he,hw],?_,by rw [decR_z (by rw [hp,he,hw]),hp]⟩
 rw [hn]
 cases d<;>cases a<;>cases x<;>cases h<;>simp<;>omega
theorem decR_ok {w:Nat} (h:(decR w).2=0):(0≤(decR w).1.1∧(decR w).1.1≤4)∧¬ badF (decR w).1∧frmE (decR w).1=true∧encR (decR w).1=((w:Int),0):=by
 by_cases he:encR (prs w)=((w:Int),0)
 ·rw [decR_z he]
  simp only
  have hrg:=prs_rng w
  by_cases hk:0≤(prs w).1∧(prs w).1≤4
  ·by_cases hb:badF (prs w)
   ·rw [encR_f hk hb] at he;simp at he
   ·cases hm:frmE (prs w) with
    | false=>rw [encR_m hk hb hm] at he;simp at he
    | true=>exact ⟨hk,hb,rfl,he⟩
  ·rw [encR_k hk] at he;simp at he
 ·rw [decR_n he] at h;simp at h
theorem kind_huge {w:Nat} (h:(decR w).2=0) (hh:(decR w).1.2.2.2.2.2=true):(decR w).1.1=1:=by
 obtain ⟨hk,hb,hm,_⟩:=decR_ok h
 obtain ⟨⟨k,f,d,a,x,h0⟩,hE⟩:∃ e,e=(decR w).1:=⟨_,rfl⟩
 rw [← hE] at hk hb hm hh ⊢
 simp only at hk hh ⊢
 subst hh
 unfold frmE noFl at hm
 simp only at hm
 by_cases h1:k=1
 ·exact h1
 ·rw [if_neg h1] at hm
  simp at hm
theorem part_ok {w:Nat} (h:(decR w).2=0) (hh:(decR w).1.2.2.2.2.2=true) {i:Nat} (hi:i<8):∃ n:Nat,partR w i=((n:Int),0)∧n<2^64∧(decR n)=((1,(decR w).1.2.1+i,(decR w).1.2.2.1,(decR w).1.2.2.2.1,(decR w).1.2.2.2.2.1,false),0):=by
 obtain ⟨hk,hb,hm,_⟩:=decR_ok h
 have h1:=kind_huge h hh
 have hr:=decR_rng w
 unfold partR
 rw [if_neg (by simp [h]),if_neg (by simp [h1,hh]),if_neg (by omega)]
 have hb2:(decR w).1.2.1≤4294967288:=by
  unfold badF at hb
  simp only [h1,hh,true_and] at hb
  omega
 exact decR_enc (by decide) (by omega) (by unfold badF;simp only;simp;omega) (by rfl)
def spW (w i:Nat):Nat:=(partR w i).1.toNat
theorem spW_ok {w:Nat} (h:(decR w).2=0) (hh:(decR w).1.2.2.2.2.2=true) {i:Nat} (hi:i<8):partR w i=(((spW w i:Nat):Int),0)∧spW w i<2^64∧tabW (spW w i)=none∧okWb 0 (spW w i)=true:=by
 obtain ⟨n,h1,h2,h3⟩:=part_ok h hh hi
 have e:spW w i=n:=by unfold spW;rw [h1];simp
 rw [e]
 refine ⟨h1,h2,?_,?_⟩
 ·unfold tabW;rw [h3];rfl
 ·unfold okWb;rw [h3];rfl
theorem Pv.put {r:Int} {ns:NdL} {ds:List Dp} (h:Pv (r,ns,ds)) (ht:tbOK (r,ns,ds)) {p:Nat} (hp:p<512) {f:Int} {l w0 w:Nat} (hw:wlk (Mof ns) r p=(f,l,w0)) (hw64:w<2^64) (htb:tabW w=none) (hok:okWb l w=true) :
  Pv (r,(putT (r,ns,ds) p w).2.1,ds)∧tbOK (r,(putT (r,ns,ds) p w).2.1,ds)∧Mof (putT (r,ns,ds) p w).2.1=updW (Mof ns) f (dgt p l) w∧(∀ d q,(d,q)∈Pos→frP WA (Mof (putT (r,ns,ds) p w).2.1) r d q=frP WA (Mof ns) r d q)∧(putT (r,ns,ds) p w).2.1.length=ns.length:=by
 obtain ⟨hl2,hx,hfp,hwm,htn,_⟩:=wlk_at h.vm hp hw
 simp only at hfp hwm hx
 have hwk:=h.walk hp
 simp only at hwk
 have hfn:=hwk.2.1
 have hlv:=hwk.2.2
 rw [hw] at hfn hlv
 simp only at hfn hlv
 have hnl:(lsT (r,ns,ds) p).1<ns.length:=fnd_lt hfn
 have hst:(putT (r,ns,ds) p w).2.1=setN ns (lsT (r,ns,ds) p).1 (dgt p l) w:=by unfold putT;simp only [hlv]
 have hM:Mof (putT (r,ns,ds) p w).2.1=updW (Mof ns) f (dgt p l) w:=by rw [hst];exact Mof_ext (Mof_set h.asc hfn)
 have hpt:=h.vm.put hx hfp (i:=dgt p l) (w:=w) (dgt_lt p l) (by show tabW w=tabW _;rw [← hwm,htb,htn]) (by show okWb (2 - (2 - l)) w=true;rw [show 2 - (2 - l)=l by omega];exact hok)
 simp only at hpt
 rw [← hM] at hpt
 refine ⟨⟨by show ascN (putT (r,ns,ds) p w).2.1;rw [hst];exact setN_asc h.asc hnl,hpt.1⟩,⟨?_,?_,ht.2.2⟩,hM,hpt.2,by rw [hst,sNl]⟩
 ·show ∀ x∈(putT (r,ns,ds) p w).2.1,ndOK x
  rw [hst];exact setN_ok ht.1 hw64 hnl
 ·show (putT (r,ns,ds) p w).2.1.length≤_
  rw [hst,sNl];exact ht.2.1
theorem wlk_put {M M':Mm} {root:Int} (hV:VM WA M root) {p:Nat} (hp:p<512) {f:Int} {l w0 w:Nat} (hw:wlk M root p=(f,l,w0)) (htb:tabW w=none) (hM:M'=updW M f (dgt p l) w) (hfr:∀ d q,(d,q)∈Pos→frP WA M' root d q=frP WA M root d q)
  {p':Nat} (hp':p'<512) {f':Int} {l' w':Nat} (hw':wlk M root p'=(f',l',w')):wlk M' root p'=(f',l',if f'=f∧dgt p' l'=dgt p l then w else w'):=by
 obtain ⟨a1,a2,a3,a4,a5,a6⟩:=wlk_at hV hp hw
 obtain ⟨b1,b2,b3,b4,b5,b6⟩:=wlk_at hV hp' hw'
 obtain ⟨ws,c1,c2,_⟩:=hV.nd _ _ a2 f a3
 have e:wM M' f' (dgt p' l')=if f'=f∧dgt p' l'=dgt p l then w else w':=by
  rw [hM,wM_updW c1 (by have:=dgt_lt p l;omega),← b4]
 have:=wlk_of (M:=M') hp' (l:=l') b1 (by rw [hfr _ _ b2];exact b3) (.inl (by
  rw [e]
  split
  ·exact htb
  ·exact b5))
 rw [this,e]
theorem wlk_put_self {M M':Mm} {root:Int} (hV:VM WA M root) {p:Nat} (hp:p<512) {f:Int} {l w0 w:Nat} (hw:wlk M root p=(f,l,w0)) (htb:tabW w=none) (hM:M'=updW M f (dgt p l) w) (hfr:∀ d q,(d,q)∈Pos→frP WA M' root d q=frP WA M root d q):wlk M' root p=(f,l,w):=by
 rw [wlk_put hV hp hw htb hM hfr hp hw,if_pos ⟨rfl,rfl⟩]
theorem lowD_key {ds:List Dp} (ha:ascK ds) {g:Int} (h:g∈ds.map (·.1)):lowD ds g<ds.length∧(gp ds (lowD ds g)).1=g:=by
 obtain ⟨d,hd,e⟩:=List.mem_map.1 h
 obtain ⟨i,hi,rfl⟩:=List.getElem_of_mem hd
 have e2:lowD ds g=i:=by
  refine lowD_at (by omega) (fun k hk=>?_) fun _=>?_
  ·have:=gp_asc ha hk hi
   rw [gp_eq hi] at this
   omega
  ·rw [gp_eq hi];omega
 rw [e2]
 exact ⟨hi,by rw [gp_eq hi];exact e⟩
abbrev Te:=Int×Int×Nat
abbrev Tl:=Int×List Te
def trB (w:Nat):Bool:=decide ((decR w).2=0∧(decR w).1.1=1)
def hgB (w:Nat):Bool:=decide ((decR w).2=0)&&(decR w).1.2.2.2.2.2
def spn (w:Nat):Int:=if hgB w=true then 8 else 1
def plcB (s p:Int):Bool:=decide (0≤s∧s<8∧0≤p∧p<512)
def cvB (x:Te) (s p:Int):Bool:=decide (x.1=s∧x.2.1≤p∧p<x.2.1+spn x.2.2)
def ovB (a b:Te):Bool:=decide (a.1=b.1∧a.2.1<b.2.1+spn b.2.2∧b.2.1<a.2.1+spn a.2.2)
def efE (x:Te):Int:=if plcB x.1 x.2.1=false then 2 else if trB x.2.2=false∨(hgB x.2.2=true∧x.2.1%8≠0) then 3 else 0
def gt (l:List Te) (i:Nat):Te:=l.getD i (0,0,0)
theorem gt_eq {l:List Te} {i:Nat} (h:i<l.length):gt l i=l[i]:=by
 unfold gt
 rw [List.getD_eq_getElem?_getD,List.getElem?_eq_getElem h];rfl
theorem gt_mem {l:List Te} {i:Nat} (h:i<l.length):gt l i∈l:=by rw [gt_eq h];exact List.getElem_mem h
def erE (l:List Te) (i:Nat):Int:=if efE (gt l i)≠0 then efE (gt l i) else if (l.take i).any (ovB (gt l i))=true then 7 else 0
def frst (f:Nat→Int):Nat→Int
 | 0=>0
 | n+1=>if frst f n≠0 then frst f n else f n
theorem frst_z {f:Nat→Int}:∀ {n:Nat},frst f n=0↔∀ i,i<n→f i=0
 | 0=>by simp [frst]
 | n+1=>by
  have ih:=@frst_z f n
  unfold frst
  constructor
  ·intro h i hi
   by_cases h0:frst f n=0
   ·rw [if_neg (by simp [h0])] at h
    rcases Nat.lt_succ_iff_lt_or_eq.1 hi with h1|rfl
    ·exact ih.1 h0 i h1
    ·exact h
   ·rw [if_pos h0] at h;exact absurd h h0
  ·intro h
   have h0:frst f n=0:=ih.2 fun i hi=>h i (by omega)
   rw [if_neg (by simp [h0])]
   exact h n (by omega)
theorem frst_at {f:Nat→Int} {i:Nat} (hz:∀ j,j<i→f j=0) (h:f i≠0):∀ {n:Nat},i<n→frst f n=f i
 | 0,hn=>by omega
 | n+1,hn=>by
  unfold frst
  rcases Nat.lt_succ_iff_lt_or_eq.1 hn with h1|rfl
  ·have:=frst_at hz h h1
   rw [this,if_pos h]
  ·rw [if_neg]
   simp only [ne_eq,Decidable.not_not]
   exact frst_z.2 hz
def chB (b:Tl):Int:=if b.1<1∨16<b.1 then 1 else if b.1<b.2.length then 8 else frst (erE b.2) b.2.length
theorem chB_z {b:Tl}:chB b=0↔1≤b.1∧b.1≤16∧(b.2.length:Int)≤b.1∧∀ i,i<b.2.length→erE b.2 i=0:=by
 unfold chB
 split
 ·constructor
  ·intro h;simp at h
  ·rintro ⟨h1,h2,_⟩;omega
 ·split
  ·constructor
   ·intro h;simp at h
   ·rintro ⟨_,_,h3,_⟩;omega
  ·rw [frst_z]
   constructor
   ·intro h;exact ⟨by omega,by omega,by omega,h⟩
   ·exact fun h=>h.2.2.2
theorem erE_z {l:List Te} {i:Nat} (h:erE l i=0):efE (gt l i)=0∧∀ y∈l.take i,ovB (gt l i) y=false:=by
 unfold erE at h
 split at h
 ·rename_i h1;exact absurd h h1
 ·rename_i h1
  split at h
  ·simp at h
  ·rename_i h2
   refine ⟨by simpa using h1,fun y hy=>?_⟩
   cases hb:ovB (gt l i) y with
   | false=>rfl
   | true=>exact absurd (List.any_eq_true.2 ⟨y,hy,hb⟩) h2
theorem efE_z {x:Te} (h:efE x=0):(0≤x.1∧x.1<8∧0≤x.2.1∧x.2.1<512)∧trB x.2.2=true∧(hgB x.2.2=true→x.2.1%8=0):=by
 unfold efE at h
 split at h
 ·simp at h
 ·rename_i h1
  split at h
  ·simp at h
  ·rename_i h2
   refine ⟨by unfold plcB at h1;simpa using h1,?_,fun hg=>?_⟩
   ·cases hb:trB x.2.2 with
    | true=>rfl
    | false=>exact absurd (.inl hb) h2
   ·by_cases h3:x.2.1%8=0
    ·exact h3
    ·exact absurd (.inr ⟨hg,h3⟩) h2
theorem ovB_comm {a b:Te}:ovB a b=ovB b a:=by
 unfold ovB
 rw [decide_eq_decide]
 constructor
 ·rintro ⟨h1,h2,h3⟩;exact ⟨h1.symm,h3,h2⟩
 ·rintro ⟨h1,h2,h3⟩;exact ⟨h1.symm,h3,h2⟩
def zB:Tl:=(0,[])
def lkT (b:Tl) (s p:Int):Nat×Bool:=if chB b≠0 then (0,false) else match b.2.find? fun x=>cvB x s p with
 | some x=>(x.2.2,true)
 | none=>(0,false)
def fiX (s p:Int) (w:Nat):Te:=(s,if hgB w=true then p - p%8 else p,w)
def fiL (b:Tl) (x:Te):List Te:=(if ((b.2.filter fun y=>!ovB x y).length:Int)=b.1 then (b.2.filter fun y=>!ovB x y).drop 1 else b.2.filter fun y=>!ovB x y)++[x]
def fiT (b:Tl) (s p:Int) (w:Nat):Tl×Int:=if chB b≠0 then (zB,chB b) else if plcB s p=false then (zB,2) else if trB w=false then (zB,3) else ((b.1,fiL b (fiX s p w)),0)
def inT (b:Tl) (s p:Int):Tl×Int:=if chB b≠0 then (zB,chB b) else if plcB s p=false then (zB,2) else ((b.1,b.2.filter fun y=>!cvB y s p),0)
def mkW (w:Nat) (wr:Bool):Nat×Int:=if (decR w).2≠0 then (0,(decR w).2) else if (decR w).1.1≠1 then (0,11) else if wr=false then (w ||| 16,0) else if (decR w).1.2.2.1=false then (0,12) else (w ||| 16 ||| 32,0)
def frmG (e:En) (p:Int):Int:=if e.2.2.2.2.2=true then e.2.1+p%8 else e.2.1
def rfE (e:En) (wr:Bool):Int:=if e.1≠1 then 13 else if wr=true∧e.2.2.1=false then 12 else 0
set_option maxHeartbeats 2000000
set_option maxRecDepth 4000 in
theorem callWd {a b c:Nat} (hab:a≠b) (hac:a≠c) (hbc:b≠c) {r:Int} {ns:NdL} {ds:List Dp} {g:Int} (ht:tbOK (r,ns,ds)) (ha:ascK ds) (hl:lowD ds g<ds.length) {v v2:Nat} (M:Nat→AO) (nid:Nat)
  (h0:M a=.box [I r,.sl b (v+1) 9 0 ns.length,.sl c (v2+1) 2 0 ds.length]) (h1:M b=.vec (v+1) 9 false (nrw ns)) (h2:M c=.vec (v2+1) 2 false (prw ds)) :
  caG wdS [.bp a 0,I g] M nid=some (I (gp ds (lowD ds g)).2,[(a,.box [I r,.sl b (v+1) 9 0 ns.length,.sl nid 1 2 0 (ds.length - 1)]),(b,.vec (v+1) 9 false (nrw ns)),(c,.dead),(nid,.vec 1 2 false (prw (delL ds g)))]):=by
 have hF:=wdS_at (t:=(r,ns,ds)) (g:=g) ht ha hl
 simp only [pMs,oM,delL_len hl] at hF
 unfold caG
 have hba:b≠a:=fun e=>hab e.symm
 have hca:c≠a:=fun e=>hac e.symm
 have hcb:c≠b:=fun e=>hbc e.symm
 have hg:gat M 64 (nmsL [.bp a 0,I g]) []=[a,b,c]:=by
  simp [gat,nmsL,AV.nms,AO.nms,h0,h1,h2,hab,hac,hbc,hba,hca,hcb]
 simp only [hg]
 rw [if_pos ?cg]
 case cg=>simp [CallG,nmsL,AV.nms,AO.nms,Led,curBL,AV.curB,AO.curB,verOf,nDd,h0,h1,h2,hab,hac,hbc,hba,hca,hcb]
 have e1:1+v=v+1:=by omega
 simp [renL,AV.ren,AO.ren,posN,canO,nmsL,h0,h1,h2,hF,RetG,getL,AV.nms,AO.nms,updN,nmN,shN,verOf,rng,Led,hab,hac,hbc,hba,hca,hcb,e1]
theorem deB_2 {t:Tb} {p f:Nat} (h:dpC t.1 t.2.2 p t.2.1 f):deB [.bp 0 0,I p,.sl 3 1 1 0 1] (pMs t 1 1++[.vec 1 1 false [[I f]]])=some (.tup [],pMs (t.1,stD t.1 t.2.2 p t.2.1 f,t.2.2) 2 1++[.vec 1 1 false [[I f]]]):=orG_2 (specG_none fun i h1 _=>by
 simp only [cJ,reduceCtorEq,false_and,and_false] at h1) (deS2_at h)
set_option maxRecDepth 4000 in
theorem callD2 {a b c e:Nat} (hab:a≠b) (hac:a≠c) (hbc:b≠c) (hae:a≠e) (hbe:b≠e) (hce:c≠e) {r:Int} {ns:NdL} {ds:List Dp} {p f:Nat} (h:dpC r ds p ns f) {L1 L2:Nat} (hL1:L1=ns.length) (hL2:L2=ds.length) {v v2:Nat} (M:Nat→AO) (nid:Nat)
  (h0:M a=.box [I r,.sl b (v+1) 9 0 L1,.sl c (v2+1) 2 0 L2]) (h1:M b=.vec (v+1) 9 false (nrw ns)) (h2:M c=.vec (v2+1) 2 false (prw ds)) (h3:M e=.vec 1 1 false [[I f]]) :
  caG deB [.bp a 0,I p,.sl e 1 1 0 1] M nid=some (.tup [],[(a,.box [I r,.sl b (v+2) 9 0 (stD r ds p ns f).length,.sl c (v2+1) 2 0 L2]),(b,.vec (v+2) 9 false (nrw (stD r ds p ns f))),(c,.vec (v2+1) 2 false (prw ds)),(e,.vec 1 1 false [[I f]])]):=by
 subst hL1 hL2
 have hF:=deB_2 (t:=(r,ns,ds)) h
 simp only [pMs,List.cons_append,List.nil_append] at hF
 unfold caG
 have hba:b≠a:=fun e=>hab e.symm
 have hca:c≠a:=fun e=>hac e.symm
 have hcb:c≠b:=fun e=>hbc e.symm
 have hea:e≠a:=fun k=>hae k.symm
 have heb:e≠b:=fun k=>hbe k.symm
 have hec:e≠c:=fun k=>hce k.symm
 have hg:gat M 64 (nmsL [.bp a 0,I p,.sl e 1 1 0 1]) []=[a,b,c,e]:=by
  simp [gat,nmsL,AV.nms,AO.nms,h0,h1,h2,h3,hab,hac,hbc,hba,hca,hcb,hae,hbe,hce,hea,heb,hec]
 simp only [hg]
 rw [if_pos ?cg]
 case cg=>simp [CallG,nmsL,AV.nms,AO.nms,Led,curBL,AV.curB,AO.curB,verOf,nDd,h0,h1,h2,h3,hab,hac,hbc,hba,hca,hcb,hae,hbe,hce,hea,heb,hec]
 have e1:2+v=v+2:=by omega
 have e2:1+v2=v2+1:=by omega
 simp [renL,AV.ren,AO.ren,posN,canO,nmsL,h0,h1,h2,h3,hF,RetG,getL,AV.nms,AO.nms,updN,nmN,shN,verOf,rng,Led,hab,hac,hbc,hba,hca,hcb,hae,hbe,hce,hea,heb,hec,e1,e2]
theorem tab0:tabW 0=none:=(wdZ fun _=>true).tab
theorem ok0 (l:Nat):okWb l 0=true:=(wdZ fun _=>true).ok l
def spN (r:Int) (ds:List Dp) (p w:Nat) (ns:NdL):Nat→NdL
 | 0=>ns
 | k+1=>(putT (r,spN r ds p w ns k,ds) (p+k) (spW w k)).2.1
def spB (t:Tb) (p:Nat) (f:Int):NdL:=stD t.1 t.2.2 p (putT t p 0).2.1 f
def splN (t:Tb) (g:Nat) (w:Nat):Tb:=(t.1,spN t.1 t.2.2 (g*8) w (spB t (g*8) (gp t.2.2 (lowD t.2.2 g)).2) 8,delL t.2.2 g)
noncomputable def splP (t:Tb) (g:Int):Tb×Int :=
 if ckd t g 64≠0 then (zT,ckd t g 64)
 else if (lsT t (g.toNat*8)).2.1=1∧(decR (lsT t (g.toNat*8)).2.2).1.2.2.2.2.2=true then (splN t g.toNat (lsT t (g.toNat*8)).2.2,0)
 else (zT,6)
theorem split_steps {r:Int} {ns:NdL} {ds:List Dp} (hv:Vt (r,ns,ds)) (ht:tbOK (r,ns,ds)) (hl9:ns.length≤999000) {g p:Nat} (hg:g<64) (hpg:p=g*8) {f0:Int} {w:Nat} (hw:wlk (Mof ns) r p=(f0,1,w)) (hh:(decR w).1.2.2.2.2.2=true) :
  (decR w).2=0∧lowD ds g<ds.length∧(∃ f:Nat,(gp ds (lowD ds g)).2=f∧f≤4294967295∧dpC r ds p (putT (r,ns,ds) p 0).2.1 f) ∧
  (let N:=spB (r,ns,ds) p (gp ds (lowD ds g)).2;N.length=ns.length+1∧∀ k,k≤8→Pv (r,spN r ds p w N k,ds)∧tbOK (r,spN r ds p w N k,ds)∧(spN r ds p w N k).length=N.length ∧
   (∀ i,i<8→wlk (Mof (spN r ds p w N k)) r (p+i)=((gp ds (lowD ds g)).2,0,if i<k then spW w i else 0))∧Mof (spN r ds p w N k)=fun x=>if x=(gp ds (lowD ds g)).2 then some ((List.range 8).map fun i=>if i<k then spW w i else 0) else Mof N x):=by
 have hpv:=hv.pv
 have hp:p<512:=by omega
 obtain ⟨a1,a2,a3,a4,a5,a6⟩:=wlk_at hpv.vm hp hw
 have hd0:(decR w).2=0:=by
  unfold okWb at a6
  simp only [Bool.and_eq_true,decide_eq_true_eq] at a6
  exact a6.1
 have hk1:=kind_huge hd0 hh
 simp only at a3 a4
 have hgm:(g:Int)∈ds.map (·.1):=by
  have hd:=hv.dep
  simp only at hd
  rw [hd]
  refine mem_hugM.2 ⟨g,hg,rfl,hugB_iff.2 ⟨f0,?_,?_⟩⟩
  ·have:p/8^(1+1)=g/8:=by simp;omega
   rw [this] at a3
   exact a3
  ·have:dgt p 1=g%8:=by rw [dgt1];omega
   rw [← this,← a4]
   unfold hugW
   rw [hk1,hh];rfl
 obtain ⟨b1,b2⟩:=lowD_key (ds:=ds) hv.num.dasc hgm
 have hdm:=gp_mem b1
 have hdf:=(hv.num.df _ hdm).1
 obtain ⟨f,hf⟩:=Int.eq_ofNat_of_zero_le hdf.1
 have hf2:f≤4294967295:=by have:=hdf.2;rw [hf] at this;omega
 have hfn:∀ n∈ns,n.1≠(f:Int):=fun n hn=>by rw [← hf];exact hv.num.apart _ hdm n hn
 obtain ⟨c1,c2,c3,c4,c5⟩:=hpv.put ht hp hw (w:=0) (by omega) tab0 (ok0 1)
 have c6:=wlk_put_self hpv.vm hp hw (w:=0) tab0 c3 c4
 obtain ⟨N1,hN1⟩:∃ N1,N1=(putT (r,ns,ds) p 0).2.1:=⟨_,rfl⟩
 have hfr1:∀ n∈N1,n.1≠(f:Int):=by
  rw [hN1]
  exact setN_fr (lsT_lt hpv hp).1 hfn
 have hspB:spB (r,ns,ds) p (gp ds (lowD ds g)).2=stD r ds p N1 f:=by unfold spB;rw [hf,hN1]
 rw [← hN1] at c1 c2 c3 c4 c5 c6 ⊢
 obtain ⟨d1,d2,d3,d4,d5,d6⟩:=c1.grow c2 hp hf2 hfr1 (l:=0) c6 (by omega)
 refine ⟨hd0,b1,⟨f,hf,hf2,c1.pto c2 hp,hfr1,by omega,by omega⟩,?_⟩
 simp only
 rw [hspB,hf]
 obtain ⟨N,hN⟩:∃ N,N=stD r ds p N1 f:=⟨_,rfl⟩
 rw [← hN] at d1 d2 d3 d4 d5 ⊢
 have hMf:Mof N f=some zs8:=by rw [d3];simp [updM1]
 have hpl:frP WA (Mof N) r 2 g=some (f:Int):=by
  have:=(wlk_at d1.vm hp d4).2.2.1
  simp only at this
  have e:p/8^(0+1)=g:=by simp;omega
  rw [e] at this;exact this
 have hw0:∀ i,i<8→wlk (Mof N) r (p+i)=((f:Int),0,0):=fun i hi=>by
  have:=wlk_of (M:=Mof N) (root:=r) (p:=p+i) (by omega) (l:=0) (f:=f) (by omega) (by
   have e:(p+i)/8^(0+1)=g:=by simp;omega
   rw [e];exact hpl) (.inr rfl)
  rw [this]
  unfold wM;rw [hMf];simp only [zs8_getD]
 refine ⟨by rw [d5,c5],?_⟩
 intro k
 induction k with
 | zero =>
  intro _
  refine ⟨d1,d2,rfl,fun i hi=>by rw [if_neg (by omega)];exact hw0 i hi,?_⟩
  show Mof N=_
  funext x
  by_cases hx:x=(f:Int)
  ·rw [if_pos hx,hx,hMf];rfl
  ·rw [if_neg hx]
 | succ k ih =>
  intro hk
  obtain ⟨e1,e2,e3,e4,e5⟩:=ih (by omega)
  obtain ⟨s1,s2,s3,s4⟩:=spW_ok hd0 hh (i:=k) (by omega)
  have hpk:p+k<512:=by omega
  have hwk:=e4 k (by omega)
  rw [if_neg (by omega)] at hwk
  obtain ⟨q1,q2,q3,q4,q5⟩:=e1.put e2 hpk hwk s2 s3 s4
  have dg:∀ i,i<8→dgt (p+i) 0=i:=fun i hi=>by rw [dgt0];omega
  refine ⟨q1,q2,by show (putT _ _ _).2.1.length=_;rw [q5,e3],fun i hi=>?_,?_⟩
  ·have:=wlk_put e1.vm hpk hwk s3 q3 q4 (p':=p+i) (by omega) (e4 i hi)
   show wlk (Mof (putT _ _ _).2.1) r (p+i)=_
   rw [this,dg i hi,dg k (by omega)]
   simp only [true_and]
   by_cases hik:i=k
   ·subst hik;simp
   ·rw [if_neg hik]
    by_cases h1:i<k
    ·rw [if_pos h1,if_pos (by omega)]
    ·rw [if_neg h1,if_neg (by omega)]
  ·show Mof (putT _ _ _).2.1=_
   rw [q3,e5,dg k (by omega)]
   funext x
   unfold updW
   by_cases hx:x=(f:Int)
   ·subst hx
    simp only [if_true,Option.map_some]
    congr 1
    refine List.ext_getElem (by simp) fun i h1 h2=>?_
    simp only [List.getElem_set,List.getElem_map,List.getElem_range]
    by_cases hik:k=i
    ·subst hik;simp
    ·rw [if_neg hik]
     by_cases h3:i<k
     ·rw [if_pos h3,if_pos (by omega)]
     ·rw [if_neg h3,if_neg (by omega)]
   ·simp only [if_neg hx]
set_option maxHeartbeats 8000000 in
theorem s64 (X:AX) (hX:XOK prog X) (hw:X.W wT) (hck:∀ t:Tb,tbOK t→∀ (n lim:Int) M k,X.call 109 [TbV t,I n,I lim] M k=some (I (ckd t n lim),[]))
  (hla:∀ (t:Tb) (p:Nat),ptO t p→∀ M n,X.call 110 [TbV t,I p] M n=some (stV (lsT t p),[]))
  (hen:∀ w:Nat,w<2^64→∀ M n,X.call 113 [U w] M n=some (EnV (decR w).1,[]))
  (hcl:∀ t:Tb,tbOK t→∀ M n,X.call 128 [TbV t] M n=some (TbC t n,[(n,.vec 1 9 false (nrw t.2.1)),(n+1,.vec 1 2 false (prw t.2.2))]))
  (hpa:∀ (w:Nat) (i:Int),w<2^64→∀ M n,X.call 68 [U w,I i] M n=some (.tup [U (partR w i).1,I (partR w i).2],[]))
  (hde:X.call 129=caG deB) (hpu:X.call 130=caG puS) (hwd:X.call 138=caG wdS) :
  PSd prog 64 (spF (ι:={x:Tb×Int // tbOK x.1∧x.1.2.1.length≤999000}) (fun x=>[TbV x.1.1,I x.1.2]) fun x=>rtO [TbO (splP x.1.1 x.1.2).1,I (splP x.1.1 x.1.2).2]):=by
 refine psS hX mixed func64 rfl fun ⟨⟨⟨r,ns,ds⟩,pI⟩,ht,hl9⟩ w0 G=>⟨by show 2≤62;decide,rfl,?_⟩
 show AW ⟨prog,X,62,w0,.pure G⟩ _ _ _
 have hc:=okc hX 62 w0 G
 simp only at hl9 ht ⊢
 have hck':=hck _ ht pI 64
 have hl1:ns.length≤1000000:=ht.2.1
 have hl2:ds.length≤1000000:=ht.2.2
 rcases dE (ckd (r,ns,ds) pI 64≠0) with hk|hk
 ·have e:splP (r,ns,ds) pI=(zT,ckd (r,ns,ds) pI 64):=by unfold splP;rw [if_pos hk]
  rw [e]
  obtain ⟨c,hc0⟩:∃ c,c=ckd (r,ns,ds) pI 64:=⟨_,rfl⟩
  rw [← hc0] at hck' hk ⊢
  simp only [TbV,TbO,zT] at hck' ⊢
  have zS:=jj hck'<|hk
  refine dM64 ?_
  repeat (intro K hK)
  clear zS
  refine ⟨by simp,?_⟩
  simp [lvI,f64,nrw,prw]
  try exact dt
 ·obtain ⟨hpv,hp0,hp1⟩:=ckd_pt ht hk
  have hvt:=ckd_vt ht hk
  obtain ⟨g,rfl⟩:=Int.eq_ofNat_of_zero_le hp0
  have hg:g<64:=by omega
  obtain ⟨p,hpg⟩:∃ p,p=g*8:=⟨_,rfl⟩
  have hp:p<512:=by omega
  have hz:ckd (r,ns,ds) g 64=0:=by omega
  rw [hz] at hck'
  have hla':=hla _ _ (hpv.pto ht hp)
  have hlw:=lsT_u64 ht hpv hp
  have hen':=hen _ hlw
  have hlv:=(hpv.walk hp).2.2
  obtain ⟨f0,l0,w,hwk⟩:∃ f l w,wlk (Mof ns) r p=(f,l,w):=⟨_,_,_,rfl⟩
  simp only at hlv
  rw [hwk] at hlv
  simp only at hlv
  have hls:lsT (r,ns,ds) p=((lsT (r,ns,ds) p).1,l0,w):=by rw [← hlv]
  have hcl':=hcl _ ht
  have eS:splP (r,ns,ds) g=if l0=1∧(decR w).1.2.2.2.2.2=true then (splN (r,ns,ds) g w,0) else (zT,6):=by
   unfold splP
   rw [if_neg hk,Int.toNat_natCast,← hpg,hlv]
  rw [eS]
  rw [hls] at hla' hlw hen'
  simp only at hlw hen'
  obtain ⟨a0,ha0⟩:∃ a,a=(lsT (r,ns,ds) p).1:=⟨_,rfl⟩
  rw [← ha0] at hla'
  have hgm:(g:Int)*8=(p:Int):=by omega
  have hst:=@split_steps r ns ds hvt ht hl9 g p hg hpg f0 w
  obtain ⟨⟨⟨k,f,d,a,x,h⟩,e⟩,hE⟩:∃ r,r=decR w:=⟨_,rfl⟩
  rw [← hE] at hen' hst ⊢
  clear hls eS hck hla hen
  simp only [TbV,TbO,TbC,EnV,stV,srow,U] at hck' hla' hcl' hen' hst ⊢
  rcases dE (l0=1) with h1|h1
  ·subst h1
   cases h with
   | false =>
    rw [if_neg (by simp)]
    simp only [zT]
    have zS:=jj hck'<|jj hla'<|jj hgm<|hen'
    refine dM64 ?_
    repeat (intro K hK)
    clear zS
    all_goals refine ⟨by simp,?_⟩
    all_goals simp [lvI,f64,nrw,prw]
    all_goals try exact dt
   | true =>
    rw [if_pos ⟨rfl,rfl⟩]
    obtain ⟨hd0,hlo,⟨fd,hf1,hf2,hdp⟩,hNl,hN⟩:=hst hwk rfl
    rw [hf1] at hNl hN
    obtain ⟨c1,c2,c3,c4,c5⟩:=hpv.put ht hp hwk (w:=0) (by omega) tab0 (ok0 1)
    have hpu0:=fun M n=>@callPu 464 448 449 (by decide) (by decide) (by decide) r ns ds p 0 (hpv.pto ht hp) (by omega) 0 0 M n
    rw [← hpu] at hpu0
    obtain ⟨N1,hN1⟩:∃ N1,N1=(putT (r,ns,ds) p 0).2.1:=⟨_,rfl⟩
    have hsB:spB (r,ns,ds) p fd=stD r ds p N1 fd:=by unfold spB;rw [hN1]
    rw [← hN1] at hpu0 c1 c2 c5 hdp
    have hwd':=fun M n=>@callWd 464 448 449 (by decide) (by decide) (by decide) r N1 ds g c2 hvt.num.dasc hlo 0 0 M n
    rw [← hwd,hf1] at hwd'
    have hdp2:dpC r (delL ds g) p N1 fd:=by
     obtain ⟨⟨⟨k1,k2,k3⟩,k4⟩,k5⟩:=hdp
     exact ⟨⟨⟨k1,k2,by show (delL ds g).length≤_;rw [delL_len hlo];omega⟩,k4⟩,k5⟩
    have hde':=fun M n=>@callD2 464 448 560 576 (by decide) (by decide) (by decide) (by decide) (by decide) (by decide) r N1 (delL ds g) p fd hdp2 ns.length (ds.length - 1) c5.symm (delL_len hlo).symm 0 0 M n
    rw [← hde,show stD r (delL ds g) p N1 fd=spB (r,ns,ds) p fd from hsB.symm] at hde'
    have eN:splN (r,ns,ds) g w=(r,spN r ds p w (spB (r,ns,ds) p fd) 8,delL ds g):=by unfold splN;simp only;rw [hf1,← hpg]
    rw [eN]
    obtain ⟨N,hNd⟩:∃ N,N=spB (r,ns,ds) p fd:=⟨_,rfl⟩
    rw [← hNd] at hNl hN hde' ⊢
    simp only [Nat.zero_add,U,c5] at hpu0 hwd' hde' ⊢
    rw [show ((0:Nat):Int)=0 from rfl] at hpu0
    have zS:=jj hck'<|jj hla'<|jj hgm<|jj hen'<|jj hcl'<|jj hpu0<|jj hwd'<|hde'
    repeat' (first|(refine aSk fun K hK=>?_)|(refine eF64 ?_)|(refine eC (fun h=>?_) (fun h=>?_)<;>(try simp at h))|(refine hK _ ?_;clear hK)|(clear hK;refine hK _ ?_;clear hK))
    all_goals clear zS
    refine aLK (s0:=?lps1) (m0:=?lpm1) (ι:={i:Nat // i≤8}) [4,7,8,9] (fun s=>[(45,I s.1)]) (fun s=>[(464,.box [I r,.sl 448 2 9 0 N.length,.sl 560 1 2 0 (ds.length - 1)]),(448,.vec 2 9 false (nrw (spN r ds p w N s.1))),(560,.vec 1 2 false (prw (delL ds g)))]) (fun s=>8 - s.1) ⟨0,by omega⟩ ?lhs1 ?lhm1 ?_ ?_
    case lhs1=>first|(simp [kpS];done)|(simp [kpS];rfl)
    case lhm1=>first|rfl|(simp;done)|(simp;rfl)
    ·simp only [spN]
     exact dle
    ·rintro ⟨i,hi⟩
     simp only at hi ⊢
     obtain ⟨e1,e2,e3,e4,e5⟩:=hN i hi
     rcases dE (i<8) with hil|hil
     ·have hilI:(i:Int)<8:=by omega
      obtain ⟨s1,s2,s3,s4⟩:=spW_ok (w:=w) (by rw [← hE];exact hd0) (by rw [← hE]) hil
      have hpa':=hpa w i hlw
      rw [s1] at hpa'
      have hsp:spN r ds p w N (i+1)=(putT (r,spN r ds p w N i,ds) (p+i) (spW w i)).2.1:=rfl
      obtain ⟨S,hS⟩:∃ S,S=spN r ds p w N i:=⟨_,rfl⟩
      rw [← hS] at e1 e2 e3 hsp ⊢
      have e2':tbOK (r,S,delL ds g):=⟨e2.1,e2.2.1,by show (delL ds g).length≤_;rw [delL_len hlo];omega⟩
      have e1':Pv (r,S,delL ds g):=⟨e1.asc,e1.vm⟩
      have hpui:=fun M n=>@callPu 464 448 560 (by decide) (by decide) (by decide) r S (delL ds g) (p+i) (spW w i) (e1'.pto e2' (by omega)) s2 1 0 M n
      rw [← hpu,show (putT (r,S,delL ds g) (p+i) (spW w i)).2.1=(putT (r,S,ds) (p+i) (spW w i)).2.1 from rfl,← hsp,delL_len hlo,e3] at hpui
      simp only [Nat.zero_add,U] at hpui hpa'
      rw [show ((p+i:Nat):Int)=(p:Int)+i by omega] at hpui
      obtain ⟨S2,hS2⟩:∃ S2,S2=spN r ds p w N (i+1):=⟨_,rfl⟩
      rw [← hS2] at hpui
      obtain ⟨wi,hwi⟩:∃ wi,wi=spW w i:=⟨_,rfl⟩
      rw [← hwi] at hpui hpa'
      have zS:=jj hilI<|jj hpa'<|hpui
      repeat' (first|(refine aSk fun K hK=>?_)|(refine eF64 ?_)|(refine eC (fun h=>?_) (fun h=>?_)<;>(try simp at h))|(refine hK _ ?_;clear hK)|clear hK)
      all_goals clear zS
      refine ⟨i+1,?_,by omega,by omega⟩
      simp only [← hS2]
      exact dle
     ·obtain rfl:i=8:=by omega
      obtain ⟨S,hS⟩:∃ S,S=spN r ds p w N 8:=⟨_,rfl⟩
      rw [← hS] at e3 ⊢
      have tkR:List.take N.length (nrw S)=nrw S:=tkL (by simp;omega)
      have tkd:List.take (ds.length - 1) (prw (delL ds g))=prw (delL ds g):=tkL (by simp;rw [delL_len hlo];omega)
      have hdl:=delL_len hlo
      repeat' (first|(refine aSk fun K hK=>?_)|(refine eF64o ?_)|(refine eC (fun h=>?_) (fun h=>?_)<;>(try simp at h))|(refine hK _ ?_;clear hK)|clear hK)
      refine ⟨by simp,?_⟩
      simp [lvI,f64,tkR,tkd,e3,hdl]
      try exact dt
      rw [hS]
  ·rw [if_neg (fun h=>h1 h.1)]
   have h1I:¬ (l0:Int)=1:=by omega
   simp only [zT]
   have zS:=jj hck'<|jj hla'<|jj hgm<|jj hen'<|jj h1<|h1I
   refine dM64 ?_
   repeat (intro K hK)
   clear zS
   all_goals refine ⟨by simp,?_⟩
   all_goals simp [lvI,f64,nrw,prw]
   all_goals try exact dt
set_option maxRecDepth 20000
theorem sameKV_int {q:IntKind}:∀ {n:Nat} {xs:List Value},sameKV (List.replicate n (.int q 0)) xs=true→∃ ls:List Int,xs=ls.map (Value.int q)∧ls.length=n
 | 0,[],_=>⟨[],rfl,rfl⟩
 | 0,x::xs,h=>by simp [sameKV] at h
 | n+1,[],h=>by simp [List.replicate_succ,sameKV] at h
 | n+1,x::xs,h=>by
  rw [List.replicate_succ] at h
  cases x<;>simp only [sameKV,Bool.and_eq_true,decide_eq_true_eq,Bool.false_eq_true] at h
  obtain ⟨rfl,h⟩:=h
  obtain ⟨ls,rfl,h2⟩:=sameKV_int h
  exact ⟨_::ls,rfl,by simp [h2]⟩
theorem eqV_int {q:IntKind}:∀ {ls:List Int} {ys:List Value} {b:Bool},eqV (ls.map (Value.int q)) ys=some b→∃ bs:List Int,ys=bs.map (Value.int q)∧bs.length=ls.length∧b=decide (ls=bs)
 | [],[],b,h=>by simp [eqV] at h;exact ⟨[],rfl,rfl,by simp [h]⟩
 | [],y::ys,b,h=>by simp [eqV] at h
 | a::ls,[],b,h=>by simp [eqV] at h
 | a::ls,y::ys,b,h=>by
  cases y<;>simp only [List.map_cons,eqV,reduceCtorEq] at h
  split at h
  case isFalse=>simp at h
  rename_i hk
  subst hk
  cases hr:eqV (ls.map (Value.int q)) ys with
  | none=>rw [hr] at h;simp at h
  | some r =>
   rw [hr] at h
   simp only [Option.map_some,oJ] at h
   obtain ⟨bs,rfl,h2,rfl⟩:=eqV_int hr
   refine ⟨_::bs,rfl,by simp [h2],?_⟩
   rw [← h]
   simp
theorem eqI (w:World) {e:TypeId} {q:IntKind} (he:prog.plainKey e=true) (hu:prog.underlying e=some (.int q)) (d:Nat):∀ {ls bs:List Int} {k:Nat} {px py:List Value},px.length=k→py.length=k→ls.length=bs.length →
  (Op.eqItems (d+1) e 1 (px++ls.map (Value.int q)).toArray (py++bs.map (Value.int q)).toArray (List.range' k ls.length)).run prog w=.ok (decide (ls=bs)) w
 | [],[],k,px,py,hp,hq,_=>rfl
 | [],_::_,_,_,_,_,_,h=>by simp at h
 | _::_,[],_,_,_,_,_,h=>by simp at h
 | a::ls,b::bs,k,px,py,hp,hq,hl=>by
  have hx:(px++(a::ls).map (Value.int q)).toArray[k*1]?=some (.int q a):=by simp [← hp]
  have hy:(py++(b::bs).map (Value.int q)).toArray[k*1]?=some (.int q b):=by simp [← hq]
  have ex:px++(a::ls).map (Value.int q)=(px++[.int q a])++ls.map (Value.int q):=by simp
  have ey:py++(b::bs).map (Value.int q)=(py++[.int q b])++bs.map (Value.int q):=by simp
  rw [show (a::ls).length=ls.length+1 from rfl,List.range'_succ]
  simp only [Op.eqItems,Sem.run_bind]
  rw [run_part_plain w he hx]
  simp only [Result.andThen_ok]
  rw [run_part_plain w he hy]
  simp only [Result.andThen_ok]
  rw [run_equalIn_int w _ e q q _ _ hu]
  simp only [Result.andThen_ok]
  have ih:=eqI w he hu d (ls:=ls) (bs:=bs) (k:=k+1) (px:=px++[.int q a]) (py:=py++[.int q b]) (by simp [hp]) (by simp [hq]) (by simpa using hl)
  rw [← ex,← ey] at ih
  by_cases e1:a=b
  ·subst e1
   simp only [beq_self_eq_true,Bool.not_true,Bool.false_eq_true,if_false]
   rw [ih]
   simp
  ·have hb:(a == b)=false:=by simpa using e1
   simp only [hb,Bool.not_false,if_true,Sem.run_pure]
   simp [e1]
theorem uW8:prog.underlying 148=some (.array 8 76):=by kernel_rfl
theorem uU64:prog.underlying 76=some (.int .u64):=by kernel_rfl
theorem pkU64:prog.plainKey 76=true:=by kernel_rfl
theorem clU64:prog.cellsOf 76=1:=by kernel_rfl
theorem eqW (w:World) {ls bs:List Int} (ha:ls.length=8) (hb:bs.length=8) (d:Nat):(Op.equalIn (d+2) 148 (.agg (ls.map (Value.int .u64)).toArray) (.agg (bs.map (Value.int .u64)).toArray)).run prog w=.ok (decide (ls=bs)) w:=by
 obtain ⟨i,hi⟩:=info_of_underlying uU64
 rw [run_equalIn_array w (d+1) _ _ uW8 hi,clU64,List.range_eq_range']
 have:=eqI w pkU64 uU64 d (ls:=ls) (bs:=bs) (k:=0) (px:=[]) (py:=[]) rfl rfl (by omega)
 rw [ha] at this
 simpa using this
theorem ckI (w:World) (em:Bool) (d:Nat) {e:TypeId} {q:IntKind} (he:prog.plainKey e=true) (hu:prog.underlying e=some (.int q)) (hs:∀ w,(sizeOf e).run prog w=.ok 1 w):∀ {ls:List Int} {k:Nat} {px:List Value},px.length=k →
  (forIn (List.range' k ls.length) PUnit.unit fun i (_:PUnit)=>(do
    let a ← sizeOf e
    let b ← part e (px++ls.map (Value.int q)).toArray (i*a)
    Instr.checkKey em (d+1) e b
    pure (ForInStep.yield PUnit.unit):Sem (ForInStep PUnit))).run prog w=.ok PUnit.unit w
 | [],k,px,_=>rfl
 | a::ls,k,px,hp=>by
  have hx:(px++(a::ls).map (Value.int q)).toArray[k*1]?=some (.int q a):=by simp [← hp]
  have ex:px++(a::ls).map (Value.int q)=(px++[.int q a])++ls.map (Value.int q):=by simp
  have ih:=ckI w em d he hu hs (ls:=ls) (k:=k+1) (px:=px++[.int q a]) (by simp [hp])
  rw [← ex] at ih
  rw [show (a::ls).length=ls.length+1 from rfl,List.range'_succ]
  simp only [List.forIn_cons,Sem.run_bind]
  rw [hs]
  simp only [Result.andThen_ok]
  rw [run_part_plain w he hx]
  simp only [Result.andThen_ok,ckP (v:=.int q a) he hu,Sem.run_pure]
  exact ih
theorem szU (w:World):(sizeOf 76).run prog w=.ok 1 w:=by
 obtain ⟨i,hi⟩:=info_of_underlying uU64
 rw [run_sizeOf w hi,clU64]
theorem ckW (w:World) (em:Bool) (d:Nat) {ls:List Int} (ha:ls.length=8):(Instr.checkKey em (d+2) 148 (.agg (ls.map (Value.int .u64)).toArray)).run prog w=.ok () w:=by
 rw [show d+2=d+1+1 from rfl,Instr.checkKey]
 simp only [Sem.run_bind,run_underlying uW8,Result.andThen_ok]
 simp only [Std.Legacy.Range.forIn_eq_forIn_range',Std.Legacy.Range.size,Nat.sub_zero,Nat.add_one_sub_one,Nat.div_one]
 have:=ckI w em d pkU64 uU64 szU (ls:=ls) (k:=0) (px:=[]) rfl
 rw [ha] at this
 simp only [List.nil_append] at this
 rw [this]
 rfl
theorem guardW:prog.eqGuardType prog.depth 148=false:=by kernel_rfl
theorem eqW8:EqOK prog 148:=by
 intro d hd
 rw [tyW8,oJ] at hd
 subst hd
 refine ⟨fun w xs b hk=>?_,fun w xs ys b hk he=>⟨?_,guardW⟩⟩
 ·obtain ⟨ls,rfl,ha⟩:=sameKV_int hk
  exact ckW w b 9998 ha
 ·obtain ⟨ls,rfl,ha⟩:=sameKV_int hk
  obtain ⟨bs,rfl,hb,rfl⟩:=eqV_int he
  exact eqW w ha (by omega) 9998
theorem eqL_wcs:∀ {a b:List Nat},a.length=b.length→eqL (wcs a) (wcs b)=some (decide (a=b))
 | [],[],_=>rfl
 | [],_::_,h=>by simp at h
 | _::_,[],h=>by simp at h
 | x::a,y::b,h=>by
  have ih:=eqL_wcs (a:=a) (b:=b) (by simpa using h)
  show eqL (.v (.int .u64 x)::wcs a) (.v (.int .u64 y)::wcs b)=_
  simp only [eqL,ih,if_true,Option.map_some,oJ,cJ]
  by_cases e:x=y
  ·subst e;simp
  ·have:¬ (x:Int)=y:=by omega
   simp [e,this]
theorem sameK_wcs:∀ {n:Nat} {a:List Nat},a.length=n→sameK (List.replicate n (.int .u64 0)) (wcs a)=true
 | 0,[],_=>rfl
 | n+1,x::a,h=>by
  rw [List.replicate_succ]
  show (decide (IntKind.u64=IntKind.u64)&&sameK _ (wcs a))=true
  rw [sameK_wcs (by simpa using h)];rfl
 | 0,_::_,h=>by simp at h
 | _+1,[],h=>by simp at h
end Go.AM
namespace Go.AM
open Go Go.Proofs Go.Sort
def sortL (l:List Int):List Int:=l.mergeSort fun x y=>decide (x≤y)
@[simp] theorem sortL_len (l:List Int):(sortL l).length=l.length:=List.length_mergeSort _
end Go.AM
namespace Go.AM
open Go Go.Proofs Tryz
abbrev Pe:=Int×Nat
def erow (x:Pe):List AV:=[I x.1,U x.2]
def erows (l:List Pe):List (List AV):=l.map erow
def nFr (ns:NdL):List Int:=ns.map (·.1)
def framesT (t:Tb):List Int:=sortL (nFr t.2.1++depF t.2.2)
noncomputable def frmT (t:Tb):List Int:=if chk t=0 then framesT t else []
theorem irows_ap (a:List Int) (x:Int):irw a++[[I x]]=irw (a++[x]):=by simp [irw]
def lsF (t:Tb) (p:Nat):List Pe:=if (lsT t p).2.2≠0∧((lsT t p).2.1=0∨p%8=0) then [((p:Int),(lsT t p).2.2)] else []
def lsA (t:Tb):Nat→List Pe
 | 0=>[]
 | n+1=>lsA t n++lsF t n
theorem lsA_le {t:Tb}:∀ {n:Nat},(lsA t n).length≤n
 | 0=>by simp [lsA]
 | n+1=>by
  have:=@lsA_le t n
  simp only [lsA,lsF,List.length_append]
  split<;>simp<;>omega
noncomputable def lstT (t:Tb):List Pe:=if chk t=0 then lsA t 512 else []
section
variable {r:Int} {ns:NdL} {ds:List Dp}
end
end Go.AM
namespace Go.AM
open Go Go.Proofs Tryz
attribute [local irreducible] lsA
end Go.AM
namespace Go.AM
open Go Go.Proofs Tryz
attribute [local irreducible] lsA
end Go.AM
