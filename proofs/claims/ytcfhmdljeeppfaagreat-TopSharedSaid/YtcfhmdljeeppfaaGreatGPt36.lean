/- A part of the proof. -/
import Derived.Test.YtcfhmdljeeppfaaGreatGPt20
import Derived.Test.YtcfhmdljeeppfaaGreatGAmW
import Derived.Test.YtcfhmdljeeppfaaGreatGPt1
import Derived.Shelf.Sort.Plain
import Derived.Shelf.Slices.In.SortNone
set_option linter.all false
namespace Go.AM
open Go Go.Proofs Go.Sort
def ziv (x:Nd):List Value:=.int .i64 x.1::(List.range 8).map fun i=>.int .u64 (x.2.getD i 0:Nat)
theorem zh1 (x:Nd):(ziv x).length=9:=by simp [ziv]
def ltN (a b:Nd):Bool:=decide (a.1<b.1)
theorem zBa:SWO ltN where
 irrefl x:=by simp [ltN]
 trans x y z h1 h2:=by simp only [ltN,decide_eq_true_eq] at *;omega
 ntrans x y z h1 h2:=by simp only [ltN,decide_eq_false_iff_not] at *;omega
theorem zh0 (x:Nd):∀ v∈ziv x,v.oneCell'=true:=fun v hv=>by simp only [ziv,List.mem_cons,List.mem_map] at hv;rcases hv with rfl|⟨i,_,rfl⟩<;>rfl
theorem zlE {x:Nd} (h8:x.2.length=8) {c:Nat} (hc:c<9):∃ y,(zcq x)[c]?=some (.v y)∧(ziv x)[c]! = y:=by
 cases c with
 | zero=>exact ⟨_,rfl,rfl⟩
 | succ c =>
  refine ⟨.int .u64 (x.2.getD c 0:Nat),?_,?_⟩
  ·show (wcs x.2)[c]?=_;unfold wcs;rw [List.getElem?_map,List.getElem?_eq_getElem (by omega),List.getD_eq_getElem?_getD,List.getElem?_eq_getElem (by omega)];rfl
  ·have:c<8:=by omega
   simp [ziv,this]
structure zkJ where
 nd:Nat
 m:Nat
 n:Nat
 bs:Nat
 tb:Nat
 r:AV
 dsA:AV
 f:Bool
 l:List Nd
 x:Nd
def zkJ.ok (D:zkJ) (avs:List AV) (M:Nat->AO):Prop :=avs=[.ifc 60 [.sl D.nd D.m 9 0 D.n],.fn 215 [.bp D.bs 0]]∧M D.bs=.box [.bp D.tb 0]∧M D.tb=.box [D.r,.sl D.nd D.m 9 0 D.n,D.dsA]∧M D.nd=.vec D.m 9 D.f (nrw (D.l++[D.x]))∧D.n=(D.l++[D.x]).length ∧
  zfw D.l∧(∀ a∈D.l,a.1≠D.x.1)∧1<=D.l.length∧D.l.length<1000000000∧zpy (D.l++[D.x])
open Classical in
noncomputable def ziH (avs:List AV) (M:Nat->AO) (_:Nat):Option (AV×List (Nat×AO)) :=if h:∃ D:zkJ,D.ok avs M then some (.tup [],[(h.choose.nd,.vec h.choose.m 9 h.choose.f (nrw (zfo h.choose.l h.choose.x)))]) else none
theorem zhw {D:zkJ} {avs:List AV} {M:Nat->AO} {nid:Nat} (h:D.ok avs M):ziH avs M nid=some (.tup [],[(D.nd,.vec D.m 9 D.f (nrw (zfo D.l D.x)))]):=by
 unfold ziH;have hex:∃ D:zkJ,D.ok avs M:=⟨D,h⟩
 rw [dif_pos hex];have hc:=hex.choose_spec;obtain ⟨C,hC⟩:∃ C,C=hex.choose:=⟨_,rfl⟩
 rw [<- hC] at hc ⊢;obtain ⟨a1,a2,a3,a4,a5,_⟩:=h;obtain ⟨b1,b2,b3,b4,b5,_⟩:=hc;rw [a1] at b1;simp only [cJ,AV.ifc.injEq,AV.fn.injEq,AV.sl.injEq,AV.bp.injEq,and_true,true_and] at b1;obtain ⟨⟨e1,e2,e3⟩,e4⟩:=b1;rw [<- e1] at b4;rw [a4] at b4;simp only [AO.vec.injEq,true_and,zbf] at b4;obtain ⟨_,e6,e7⟩:=b4;obtain ⟨e8,e9⟩:=List.append_inj' e7 (by simp);simp only [cJ,and_true] at e9;rw [<- e1,<- e2,<- e6,<- e8,<- e9]
theorem zrz:zbb Tryz.prog 214 ziH:=by
 intro avs M nid av u hc w0 bl E w args hr hM hI _;have htup:∀ (E':Env) (w':World),Rep E' w' (.tup []) (.tuple #[]):=fun E' w'=>by simp only [Rep];exact ⟨[],rfl,by simp [RepL]⟩
 by_cases hex:∃ D:zkJ,D.ok avs M
 case neg=>unfold ziH at hc;rw [dif_neg hex] at hc;simp at hc
 obtain ⟨D,hD⟩:=hex;rw [zhw hD] at hc;simp only [oJ,pJ] at hc;obtain ⟨rfl,rfl⟩:=hc;obtain ⟨nd,m,n,bs,tb,r,dsA,f,l,x⟩:=D;obtain ⟨ha,hbs,htb,hnd,hn,hasc,hne,h1l,hlt,h8⟩:=hD;simp only at ha hbs htb hnd hn hasc hne h1l hlt h8 ⊢;subst ha;obtain ⟨L,hL⟩:∃ L,L=l++[x]:=⟨_,rfl⟩
 rw [<- hL] at hnd hn h8;have hLl:L.length=l.length+1:=by rw [hL];simp
 subst hn;obtain ⟨v,y,rfl,hv,hy⟩:∃ v y,args=#[.iface 60 v,.func (.func 215) #[] #[y]]∧Rep E w (.sl nd m 9 0 L.length) v∧Rep E w (.bp bs 0) y:=by
  cases hargs:args.toList with
  | nil=>rw [hargs] at hr;simp [RepL] at hr
  | cons a1 rr =>
   rw [hargs] at hr;simp only [RepL] at hr;cases rr with
   | nil=>simp [RepL] at hr
   | cons a2 rr =>
    simp only [RepL] at hr;cases rr with
    | cons a3 rr=>simp [RepL] at hr
    | nil =>
     obtain ⟨h1,h2,_⟩:=hr;simp only [Rep] at h1 h2;obtain ⟨v,rfl,h3⟩:=h1;obtain ⟨vs,rfl,h4⟩:=h2;simp only [RepL] at h3;cases vs with
     | nil=>simp [RepL] at h4
     | cons y vs =>
      simp only [RepL] at h4;cases vs with
      | cons z vs=>simp [RepL] at h4
      | nil=>exact ⟨v,y,by rw [<- Array.toArray_toList (xs:=args),hargs],by simpa only [Rep] using h3.1,by simpa only [Rep] using h4.1⟩
 simp only [Rep] at hv hy;obtain ⟨hal,h1,h2,p,c,rfl,hnc,hpn,hsl⟩:=hv;obtain ⟨hbal,hbv,bblk,bsz,hbl,rfl⟩:=hy;have ho:=hM nd hal;rw [hnd] at ho;simp only [ObR] at ho;obtain ⟨hv,hm1,ho⟩:=ho;cases hlc:E.loc nd with
 | none =>
  simp only [hlc] at ho;have:L.length=0:=by have:=congrArg List.length ho;rwa [ziS] at this
  omega
 | some LL =>
  obtain ⟨blk,base,sz⟩:=LL;simp only [hlc] at ho;obtain ⟨ca,t,hheap,hszc,honec,hfit,hff,hrows⟩:=ho;have hs2:=hsl hv.symm;simp only [hlc,zcd] at hs2;obtain ⟨a,rfl,haa,hcs⟩:=hs2;have haa:=haa.resolve_left (by omega);simp only [Nat.zero_mul,Nat.add_zero] at haa;subst haa;have hblk:blk<w.heap.size:=(Array.getElem?_eq_some_iff.1 hheap).1;have hob:=hM bs hbal;rw [hbs] at hob;simp only [ObR] at hob;obtain ⟨_,bblk',bt,bvs,hbl2,hbheap,_,hbrep⟩:=hob;rw [hbl] at hbl2;simp only [oJ,pJ,true_and] at hbl2;obtain ⟨rfl,rfl⟩:=hbl2;obtain ⟨tp,rfl,htp⟩:∃ tp,bvs=[tp]∧Rep E w (.bp tb 0) tp:=by
   cases bvs with
   | nil=>simp [RepL] at hbrep
   | cons tp q=>cases q with
    | nil=>simp only [RepL] at hbrep;exact ⟨tp,rfl,hbrep.1⟩
    | cons z q=>simp [RepL] at hbrep
  simp only [Rep] at htp;obtain ⟨htal,_,tblk,tsz,htl,rfl⟩:=htp;have hot:=hM tb htal;rw [htb] at hot;simp only [ObR] at hot;obtain ⟨_,tblk',tt,tvs,htl2,htheap,_,htrep⟩:=hot;rw [htl] at htl2;simp only [oJ,pJ,true_and] at htl2;obtain ⟨rfl,rfl⟩:=htl2;obtain ⟨t0,t1,t2,rfl,ht1⟩:∃ t0 t1 t2,tvs=[t0,t1,t2]∧Rep E w (.sl nd m 9 0 L.length) t1:=by
   match tvs,htrep with
   | [t0,t1,t2],h=>simp only [RepL] at h;exact ⟨t0,t1,t2,rfl,h.2.1⟩
   | [],h=>simp [RepL] at h
   | [_],h=>simp [RepL] at h
   | [_,_],h=>simp [RepL] at h
   | _::_::_::_::_,h=>simp [RepL] at h
  simp only [Rep] at ht1;obtain ⟨_,_,_,p2,c2,rfl,hnc2,_,hsl2⟩:=ht1;have hs3:=hsl2 hv.symm;simp only [hlc,zcd] at hs3;obtain ⟨a2,rfl,ha2,_⟩:=hs3;have ha2:=ha2.resolve_left (by omega);simp only [Nat.zero_mul,Nat.add_zero] at ha2;subst ha2;have hbne:bblk≠blk:=fun e=>by subst e;have:=hI.apart bs nd bblk 0 _ base sz hbal hal hbl hlc;subst this;rw [hbs] at hnd;simp at hnd
  have htne:tblk≠blk:=fun e=>by subst e;have:=hI.apart tb nd tblk 0 _ base sz htal hal htl hlc;subst this;rw [htb] at hnd;simp at hnd
  have hB1:bblk<w.heap.size:=(Array.getElem?_eq_some_iff.1 hbheap).1;have hT1:tblk<w.heap.size:=(Array.getElem?_eq_some_iff.1 htheap).1;have hBc:w.cell? ⟨bblk,0,none⟩=some (.pointer (some ⟨tblk,0,none⟩)):=by unfold World.cell?;rw [hbheap];rfl
  have hTc:w.cell? ⟨tblk,1,none⟩=some (.slice (some ⟨blk,base,none⟩) L.length c2):=by unfold World.cell?;rw [htheap];rfl
  have hcell:∀ i,i<L.length->∀ c',c'<9->w.cell? ⟨blk,base+i*9+c',none⟩=some ((ziv (L[i]!))[c']!):=fun i hi c' hc'=>by have h3:=hrows.get (i:=i) (e:=zcq L[i]) (by simp [nrw,hi]);rw [getElem!_pos L i hi];obtain ⟨y,hy1,hy2⟩:=zlE (h8 _ (List.getElem_mem hi)) hc';obtain ⟨z,h4,_,h5⟩:=h3.2.get hy1;simp only [zd] at h5;subst h5;rw [hy2];exact h4
  have hfz:∀ j,w.frozen? ⟨blk,base+j,none⟩=false:=fun j=>by unfold World.frozen?;rw [hheap];simp
  have hH:HoldsK ziv 9 w blk base L.toArray:=fun j hj=>⟨by
   have hj2:j<L.toArray.size*9:=by simpa using hj
   have hjl:j<L.length*9:=by simpa using hj
   rw [get_flatK _ _ _ _ hj2];have:=hcell (j/9) (by omega) (j%9) (by omega);rw [show base+j/9*9+j%9=base+j by omega] at this;rw [this];simp,hfz j⟩
  have hless:LessReadsK Tryz.prog 215 #[.pointer (some ⟨bblk,0,none⟩)] ziv 9 ltN blk base L.toArray.size w:=by
   intro mm os dk hs i j hi hj;have e:sortWorldK ziv 9 w blk base mm dk os=putRowK ziv 9 (grow (Sort.ahead w mm) os) blk base dk:=by unfold sortWorldK;rw [putRowK_grow _ _ (Sort.ahead w mm) _ blk base _ hblk]
   have hHg:HoldsK ziv 9 (grow (Sort.ahead w mm) os) blk base L.toArray:=holdsK_grow _ _ _ _ blk base L.toArray hblk (holdsK_ahead _ _ _ _ _ _ _ hH);refine Ptn.less blk base c2 bblk tblk L.toArray.size _ (fun t=>dk[t]!.1) ?_ ?_ (fun t ht=>?_) i j hi hj
   ·rw [e,cell?_putRowK_other _ _ _ blk base dk _ hbne,cell?_grow _ _ _ (by exact hB1)];exact hBc
   ·rw [e,cell?_putRowK_other _ _ _ blk base dk _ htne,cell?_grow _ _ _ (by exact hT1)];simpa using hTc
   ·rw [e];exact ((holdsK_putRowK _ _ _ blk base L.toArray dk hHg hs).cell (i:=t) (c:=0) (by omega) (by omega)).1
  have:=Any.sort_Slice_cells_sorted zr8 60 150 Ptn.svT Ptn.svE (by kernel_rfl) (by kernel_rfl) (by kernel_rfl) (by kernel_rfl) 25 (fun _=>by kernel_rfl) ziv 9 zh1 (by kernel_rfl) (fun _=>by kernel_rfl)
   zh0 ltN zBa 215 #[.pointer (some ⟨bblk,0,none⟩)] (enters_of Tryz.func215 (by kernel_rfl) rfl) blk base c L.toArray (by simp;omega) (by simp;omega) 259 (by rw [Ptn.svK _ (by simp;omega)];kernel_rfl) false
   (fun args W=>run_callFunc_extern Tryz.func259 (by kernel_rfl) (by kernel_rfl) (by kernel_rfl) (e:=Extern.ReflectliteSwapper.swap false) (by kernel_rfl) args W) w hless hH hblk
  have hnod:∀ a∈L,∀ b∈L,True:=fun _ _ _ _=>trivial;refine Calls.mono (this:Calls Tryz.prog 214 _ _ _) fun e w' ⟨he,d',nn,os,hper,hsrt,hw⟩=>?_;obtain ⟨hds,_,hperm⟩:=hper;have hS:d'.toList=zfo l x:=by
   refine zi5 hasc hne ?_ ?_
   ·refine List.pairwise_iff_getElem.2 fun i j hi hj hij=>?_;have hi':i<d'.size:=by simpa using hi
    have hj':j<d'.size:=by simpa using hj
    have:=hsrt i j (Nat.zero_le _) hij (by rw [<- hds];exact hj');rw [getElem!_pos d' i hi',getElem!_pos d' j hj'] at this;simp only [ltN,decide_eq_false_iff_not] at this;simpa using this
   ·have e1:(d'.extract 0 L.toArray.size).toList=d'.toList:=by rw [<- hds];simp
    have e2:(L.toArray.extract 0 L.toArray.size).toList=L:=by simp
    rw [e1,e2,hL] at hperm;exact hperm
  obtain ⟨K,hK⟩:∃ K,K=zfo l x:=⟨_,rfl⟩
  have hd':d'=K.toArray:=by rw [hK,<- hS]
  have hKl:K.length=L.length:=by rw [hK,zb2,hLl]
  have hK8:zpy K:=fun a ha=>by
   rw [hK] at ha;rcases zbG.1 ha with h|h
   ·exact h8 a (by rw [hL,h];simp)
   ·exact h8 a (by rw [hL];simp [h])
  subst hd';rw [<- hK];have hsz1:K.toArray.size=L.toArray.size:=by simp [hKl]
  have hH2:HoldsK ziv 9 w' blk base K.toArray:=by rw [hw,<- putRowK_grow _ _ (Sort.ahead w nn) _ blk base _ hblk];exact holdsK_putRowK _ _ _ blk base L.toArray _ (holdsK_grow _ _ _ _ blk base L.toArray hblk (holdsK_ahead _ _ _ _ _ _ _ hH)) hsz1
  have hsize:w.heap.size<=w'.heap.size:=by
   have e1:(putRowK ziv 9 (Sort.ahead w nn) blk base K.toArray).heap.size=w.heap.size:=by unfold putRowK;simp only [putRow,mapBlock,Array.size_modify];rfl
   rw [hw,size_grow,e1];omega
  have hother:∀ k,k<w.heap.size->k≠blk->w'.heap[k]?=w.heap[k]?:=fun k hk hne=>by rw [hw];unfold putRowK;rw [heap_grow_old _ _ (by simpa [ahead] using hk)];simp only [putRow,mapBlock,Array.getElem?_modify];rw [if_neg (fun e=>hne e.symm)];rfl
  have hown:w'.heap[blk]?=some (.cells (putCells id base (flatK ziv 9 K.toArray) ca) t (0,0)):=by rw [hw];unfold putRowK;rw [heap_grow_old _ _ (by simpa [ahead] using hblk)];simp only [putRow,mapBlock,Array.getElem?_modify,if_true];have e:∀ n,(Sort.ahead w n).heap=w.heap:=fun n=>rfl;rw [e,hheap];rfl
  refine ⟨_,E.upd nd m (some (blk,base,sz)),he,?_,htup _ _⟩;refine StT.one hI nd _ m _ (fun _=>.inl ⟨hv.symm,hlc.symm⟩) (fun blk' base' sz' e=>?_) hsize (by rw [hw];rfl) (by rw [hw];rfl) (fun k hk hn=>hother k hk fun e=>?_) ?_
  ·simp only [oJ,pJ] at e;exact .inl ⟨base,sz,hal,by rw [hlc,e.1]⟩
  ·subst e;exact hn base sz hal hlc
  ·simp only [ObR,Env.upd,if_true];refine ⟨trivial,hm1,_,t,hown,by simpa [putCells] using hszc,fun y hy=>?_,by simpa [hKl] using hfit,fun hf=>by simpa [hKl] using hff hf,CRows.of_get fun i e hi=>?_⟩
   ·rw [Array.mem_toList_iff] at hy;obtain ⟨k,hk,rfl⟩:=Array.mem_iff_getElem.1 hy;simp only [putCells,Array.getElem_mapIdx];split
    ·rename_i hcond;have hk2:k - base<K.toArray.size*9:=by have:=hcond.2;rw [size_flatK] at this;omega
     rw [get_flatK _ _ _ _ hk2];have hlen:=zh1 (K.toArray[(k - base)/9]!);refine zh0 (K.toArray[(k - base)/9]!) _ ?_;rw [getElem!_pos (ziv (K.toArray[(k - base)/9]!)) ((k - base)%9) (by rw [hlen];omega)];exact List.getElem_mem _
    ·exact honec _ (by rw [Array.mem_toList_iff];exact Array.getElem_mem _)
   ·have hil:i<K.length:=by have:=(List.getElem?_eq_some_iff.1 hi).1;simpa using this
    simp only [nrw,List.getElem?_map,List.getElem?_eq_getElem hil,Option.map_some,oJ] at hi;subst hi;have hi8:=hK8 _ (List.getElem_mem hil);refine ⟨by simp [zcq,hi8],CCs.of_get fun c a hc=>?_⟩;have hc9:c<9:=by have:=(List.getElem?_eq_some_iff.1 hc).1;simpa [zcq,hi8] using this
    have hA:=(hH2.cell (i:=i) (c:=c) (by simpa using hil) hc9).1;simp only [List.getElem!_toArray] at hA;rw [getElem!_pos K i hil] at hA;obtain ⟨y,hy1,hy2⟩:=zlE hi8 hc9;rw [hy1] at hc;simp only [oJ] at hc;subst hc;rw [hy2] at hA;refine ⟨y,hA,?_,by simp only [zd]⟩;refine zh0 K[i] _ ?_;have hlen:=zh1 K[i];rw [<- hy2,getElem!_pos (ziv K[i]) c (by rw [hlen];omega)];exact List.getElem_mem _
theorem znb {avs:List AV} {M:Nat->AO} {nid:Nat} {r:AV×List (Nat×AO)} (h:ziH avs M nid=some r):∀ b∈r.2.map (·.1),(nid<=b∧b<nid+16)∨M b≠.dead:=by
 by_cases hex:∃ D:zkJ,D.ok avs M
 case neg=>unfold ziH at h;rw [dif_neg hex] at h;simp at h
 obtain ⟨D,hD⟩:=hex;rw [zhw hD] at h;simp only [oJ] at h;subst h;intro b hb;simp at hb;subst hb;exact .inr (by rw [hD.2.2.2.1];simp)
end Go.AM
set_option maxHeartbeats 4000000
namespace Go.AM
open Go Go.Proofs Tryz
def pMs (t:Tb) (v v2:Nat):List AO:=[.box [I t.1,.sl 1 v 9 0 t.2.1.length,.sl 2 v2 2 0 t.2.2.length],.vec v 9 false (nrw t.2.1),.vec v2 2 false (prw t.2.2)]
theorem zhE {t t':Tb} {v v2:Nat} (h:pMs t v v2=pMs t' v v2):t=t':=by obtain ⟨r,ns,ds⟩:=t;obtain ⟨r',ns',ds'⟩:=t';simp only [pMs,cJ,AO.box.injEq,I,AV.v.injEq,Value.int.injEq,true_and,AO.vec.injEq,zbf,zaa,and_true] at h;obtain ⟨⟨h1,_⟩,h2,h3⟩:=h;rw [h1,h2,h3]
def zwQ (X:AX) (f:FuncId) (D:Tb->Int->Prop) (R:Tb->Int->AV):Prop :=∀ (r:Int) (ns:List Nd) (ds:List Dp) (x:Int),D (r,ns,ds) x->∀ (a va b vb:Nat) (f1 f2:Bool) (M:Nat->AO) (n:Nat),M a=.vec va 9 f1 (nrw ns)->M b=.vec vb 2 f2 (prw ds)->X.call f [.agg [I r,.sl a va 9 0 ns.length,.sl b vb 2 0 ds.length],I x] M n=some (R (r,ns,ds) x,[])
theorem zdi {ns:List Nd} {n i w:Nat} (hn:n<ns.length):(nrw ns).set n (I (gn ns n).1::(wcs (gn ns n).2).set i (U w))=nrw (zo ns n i w):=by
 have:wcs ((gn ns n).2.set i w)=(wcs (gn ns n).2).set i (U w):=by simp [wcs,List.map_set]
 rw [<- this];show (nrw ns).set n (zcq ((gn ns n).1,(gn ns n).2.set i w))=_;unfold zo nrw;rw [List.map_set];rfl
def zb7 (t:Tb) (p w:Nat):Tb:=(t.1,zo t.2.1 (lsT t p).1 (dgt p (lsT t p).2.1) w,t.2.2)
abbrev PuD:=Tb×Nat×Nat
noncomputable def puS:List AV->List AO->Option (AV×List AO):=za1 (ι:={x:PuD // ptO x.1 x.2.1∧x.2.2<2^64}) (fun x=>[.bp 0 0,I x.1.2.1,U x.1.2.2]) (fun x=>pMs x.1.1 1 1) (fun x=>.tup []) fun x=>pMs (zb7 x.1.1 x.1.2.1 x.1.2.2) 1 1
theorem zue {t:Tb} {p w:Nat} (h:ptO t p) (hw:w<2^64):puS [.bp 0 0,I p,U w] (pMs t 1 1)=some (.tup [],pMs (zb7 t p w) 1 1):=by
 refine sGe (ι:={x:PuD // ptO x.1 x.2.1∧x.2.2<2^64}) (A:=fun x=>[.bp 0 0,I x.1.2.1,U x.1.2.2]) (M:=fun x=>pMs x.1.1 1 1) (R:=fun x=>.tup []) (O:=fun x=>pMs (zb7 x.1.1 x.1.2.1 x.1.2.2) 1 1) ⟨(t,p,w),h,hw⟩ fun j hA hM=>?_;obtain ⟨⟨t',p',w'⟩,h'⟩:=j;have e:=zhE hM;simp only at e;subst e;simp only [cJ,I,U,AV.v.injEq,Value.int.injEq,true_and,and_true] at hA;have e1:p'=p:=by omega
 have e2:w'=w:=by omega
 subst e1 e2;exact ⟨rfl,rfl⟩
theorem zB1 (X:AX) (hX:XOK prog X) (hw:X.W wT) (hla:zwQ X 110 (fun t x=>0<=x∧ptO t x.toNat) fun t x=>stV (lsT t x.toNat)) (hdg:∀ (p l:Nat),p<512->l<=2->∀ M n,X.call 139 [I p,I l] M n=some (I (dgt p l),[])):GSd prog 130 puS:=by
 unfold puS;refine gsS func130 rfl X fun ⟨⟨⟨r,ns,ds⟩,p,w⟩,hpt,hw64⟩ w0 L E=>⟨by show 3<=26;decide,?_⟩
 simp only at hw64;have hp:p<512:=hpt.2.2.1;have hla':=hla r ns ds p ⟨by omega,hpt⟩;obtain ⟨hlt1,hlt2⟩:(lsT (r,ns,ds) p).1<ns.length∧(lsT (r,ns,ds) p).2.1<=2:=by obtain ⟨_,_,_,⟨rt,hrt⟩,_⟩:=hpt;exact zg5 (by unfold rtN;rw [hrt];exact zay hrt)
 have ht:=hpt.1;have hl1:ns.length<=1000000:=ht.2.1;have hl2:ds.length<=1000000:=ht.2.2;have hR:zb7 (r,ns,ds) p w=(r,zo ns (lsT (r,ns,ds) p).1 (dgt p (lsT (r,ns,ds) p).2.1) w,ds):=rfl;obtain ⟨⟨a,b,c⟩,hS⟩:∃ S,S=lsT (r,ns,ds) p:=⟨_,rfl⟩
 simp only [Int.toNat_natCast] at hla';rw [<- hS] at hla' hlt1 hlt2 hR;simp only at hla' hlt1 hlt2 hR;have hdg':=hdg p b hp hlt2;have hdl:=zbA p b;have haN:(a:Int)<(ns.length:Int):=by omega
 have hgn:=nrG hlt1;have hgnE:=nrE hlt1;have h8:(gn ns a).2.length=8:=(ht.1 _ (zaL hlt1)).1;have hset:=@zdi ns a (dgt p b) w hlt1;have hwl:(wcs (gn ns a).2).length=8:=by simp [h8]
 obtain ⟨NS,hNS⟩:∃ NS,NS=zo ns a (dgt p b) w:=⟨_,rfl⟩
 have hNl:NS.length=ns.length:=by rw [hNS];simp
 rw [<- hNS] at hset hR;obtain ⟨⟨fr,ws⟩,hm⟩:∃ m,m=gn ns a:=⟨_,rfl⟩
 rw [<- hm] at hgn hgnE hwl hset;simp only at hgn hgnE hwl hset;obtain ⟨cs,hcs⟩:∃ cs,cs=wcs ws:=⟨_,rfl⟩
 rw [<- hcs] at hgn hgnE hwl hset;obtain ⟨dg,hdg0⟩:∃ dg,dg=dgt p b:=⟨_,rfl⟩
 rw [<- hdg0] at hdl hdg' hset;have hdI:(dg:Int)<8:=by omega
 clear hcs hm h8 hS;simp only [pMs,hR,hNl,stV,zfa,U] at hla' hset ⊢;show AW ⟨prog,X,26,w0,⟨L,E,3⟩⟩ _ _ _;have hc:Cx.OK ⟨prog,X,26,w0,⟨L,E,3⟩⟩:=⟨hX,mixed⟩
 have zS:=jj hla'<|jj hdg'<|jj hlt1<|jj haN<|jj hgn<|jj hgnE<|jj hwl<|jj hdl<|jj hdI<|hset;refine zl ?_;repeat (intro K hK)
 clear zS;refine ⟨[],rfl,?_⟩;have hs1:(I fr::cs).set (1+dg) (AV.v (.int .u64 w))=I fr::cs.set dg (AV.v (.int .u64 w)):=by rw [Nat.add_comm];rfl
 rw [hs1,hset];simp only [idx];exact dle
noncomputable def adS:List AV->List AO->Option (AV×List AO):=za1 (ι:={x:Tb×Int // zf x.1∧zby x.1.2.1∧(∀ n∈x.1.2.1,n.1≠x.2)∧1<=x.1.2.1.length}) (fun x=>[.bp 0 0,I x.1.2]) (fun x=>pMs x.1.1 1 1) (fun x=>.tup []) fun x=>pMs (x.1.1.1,zfo x.1.1.2.1 (x.1.2,zs8),x.1.1.2.2) 2 1
theorem zvX {t:Tb} {f:Int} (ht:zf t) (ha:zby t.2.1) (hn:∀ n∈t.2.1,n.1≠f) (hl:1<=t.2.1.length):adS [.bp 0 0,I f] (pMs t 1 1)=some (.tup [],pMs (t.1,zfo t.2.1 (f,zs8),t.2.2) 2 1):=by refine sGe (ι:={x:Tb×Int // zf x.1∧zby x.1.2.1∧(∀ n∈x.1.2.1,n.1≠x.2)∧1<=x.1.2.1.length}) (A:=fun x=>[.bp 0 0,I x.1.2]) (M:=fun x=>pMs x.1.1 1 1) (R:=fun x=>.tup []) (O:=fun x=>pMs (x.1.1.1,zfo x.1.1.2.1 (x.1.2,zs8),x.1.1.2.2) 2 1) ⟨(t,f),ht,ha,hn,hl⟩ fun j hA hM=>?_;obtain ⟨⟨t',f'⟩,h'⟩:=j;have e:=zhE hM;simp only at e;subst e;simp only [cJ,I,AV.v.injEq,Value.int.injEq,true_and,and_true] at hA;subst hA;exact ⟨rfl,rfl⟩
theorem zBJ (X:AX) (hX:XOK prog X) (hw:X.W wT) (hso:X.call 214=ziH):GSd prog 186 adS:=by
 unfold adS;refine gsS func186 rfl X fun ⟨⟨⟨r,ns,ds⟩,f⟩,ht,ha,hn,hl⟩ w0 L E=>⟨by show 2<=22;decide,?_⟩
 simp only at ha hn hl;have hl1:ns.length<=1000000:=ht.2.1;have hl2:ds.length<=1000000:=ht.2.2;have hil:=@zb2 _ (f,zs8) ns;simp only [pMs,hil];show AW ⟨prog,X,22,w0,⟨L,E,3⟩⟩ _ _ _;have hc:Cx.OK ⟨prog,X,22,w0,⟨L,E,3⟩⟩:=⟨hX,mixed⟩
 have tkn:List.take ns.length (nrw ns)=nrw ns:=tkL (by simp);have ha1z:nrw ns++[[I f,.v (.int .u64 0),.v (.int .u64 0),.v (.int .u64 0),.v (.int .u64 0),.v (.int .u64 0),.v (.int .u64 0),.v (.int .u64 0),.v (.int .u64 0)]]=nrw (ns++[(f,zs8)]):=(zmj ns (f,zs8)).symm;have hsort:∀ (M:Nat->AO) (bs nid:Nat),M bs=.box [.bp 0 0]->M 0=.box [I r,.sl 1 2 9 0 (ns.length+1),.sl 2 1 2 0 ds.length]->M 1=.vec 2 9 false (nrw (ns++[(f,zs8)]))->X.call 214 [.ifc 60 [.sl 1 2 9 0 (ns.length+1)],.fn 215 [.bp bs 0]] M nid=some (.tup [],[(1,.vec 2 9 false (nrw (zfo ns (f,zs8))))]):=fun M bs nid h1 h2 h3=>by
  rw [hso];refine zhw (D:=⟨1,2,ns.length+1,bs,0,I r,.sl 2 1 2 0 ds.length,false,ns,(f,zs8)⟩) ⟨rfl,h1,h2,h3,by simp,ha,hn,hl,by show ns.length<1000000000;omega,fun a ha=>?_⟩;rcases List.mem_append.1 ha with h|h
  ·exact zhJ ht a h
  ·simp at h;rw [h];rfl
 have zS:=jj tkn<|jj ha1z<|hsort;refine zhd ?_;repeat (intro K hK)
 clear zS;refine ⟨[],rfl,?_⟩;simp only [idx]
 trace_state
 exact dle
set_option maxHeartbeats 4000000
set_option maxRecDepth 4000 in
theorem zrc {a b c:Nat} (hab:a≠b) (hac:a≠c) (hbc:b≠c) {r:Int} {ns:NdL} {ds:List Dp} {f:Int} (ht:zf (r,ns,ds)) (ha:zby ns) (hn:∀ n∈ns,n.1≠f) (hl:1<=ns.length) {v v2:Nat} (M:Nat->AO) (nid:Nat)
  (h0:M a=.box [I r,.sl b (v+1) 9 0 ns.length,.sl c (v2+1) 2 0 ds.length]) (h1:M b=.vec (v+1) 9 false (nrw ns)) (h2:M c=.vec (v2+1) 2 false (prw ds)) :
  caG adS [.bp a 0,I f] M nid=some (.tup [],[(a,.box [I r,.sl b (v+2) 9 0 (ns.length+1),.sl c (v2+1) 2 0 ds.length]),(b,.vec (v+2) 9 false (nrw (zfo ns (f,zs8)))),(c,.vec (v2+1) 2 false (prw ds))]):=by
 have hF:=zvX (t:=(r,ns,ds)) ht ha hn hl;have hil:=@zb2 _ (f,zs8) ns;simp only [pMs,hil] at hF;unfold caG;have hba:b≠a:=fun e=>hab e.symm;have hca:c≠a:=fun e=>hac e.symm;have hcb:c≠b:=fun e=>hbc e.symm;have hg:gat M 64 (nmsL [.bp a 0,I f]) []=[a,b,c]:=by simp [gat,nmsL,AV.nms,AO.nms,h0,h1,h2,hab,hac,hbc,hba,hca,hcb]
 simp only [hg];rw [if_pos ?cg]
 case cg=>simp [zbp,nmsL,AV.nms,AO.nms,Led,curBL,AV.curB,AO.curB,zaj,nDd,h0,h1,h2,hab,hac,hbc,hba,hca,hcb]
 have e1:2+v=v+2:=by omega
 have e2:1+v2=v2+1:=by omega
 simp [renL,AV.ren,AO.ren,zbL,zdP,nmsL,h0,h1,h2,hF,zeZ,zcc,AV.nms,AO.nms,zdC,nmN,shN,zaj,rng,Led,hab,hac,hbc,hba,hca,hcb,e1,e2]
set_option maxRecDepth 4000 in
theorem zvx {a b c:Nat} (hab:a≠b) (hac:a≠c) (hbc:b≠c) {r:Int} {ns:NdL} {ds:List Dp} {p w:Nat} (h:ptO (r,ns,ds) p) (hw:w<2^64) {v v2:Nat} (M:Nat->AO) (nid:Nat)
  (h0:M a=.box [I r,.sl b (v+1) 9 0 ns.length,.sl c (v2+1) 2 0 ds.length]) (h1:M b=.vec (v+1) 9 false (nrw ns)) (h2:M c=.vec (v2+1) 2 false (prw ds)) :
  caG puS [.bp a 0,I p,U w] M nid=some (.tup [],[(a,.box [I r,.sl b (v+1) 9 0 ns.length,.sl c (v2+1) 2 0 ds.length]),(b,.vec (v+1) 9 false (nrw (zb7 (r,ns,ds) p w).2.1)),(c,.vec (v2+1) 2 false (prw ds))]):=by
 have hF:=zue h hw;have e0:zb7 (r,ns,ds) p w=(r,(zb7 (r,ns,ds) p w).2.1,ds):=rfl;have hil:(zb7 (r,ns,ds) p w).2.1.length=ns.length:=sNl;rw [e0] at hF;simp only [pMs,hil,U] at hF;unfold caG U;have hba:b≠a:=fun e=>hab e.symm;have hca:c≠a:=fun e=>hac e.symm;have hcb:c≠b:=fun e=>hbc e.symm;have hg:gat M 64 (nmsL [.bp a 0,I p,.v (.int .u64 w)]) []=[a,b,c]:=by simp [gat,nmsL,AV.nms,AO.nms,h0,h1,h2,hab,hac,hbc,hba,hca,hcb]
 simp only [hg];rw [if_pos ?cg]
 case cg=>simp [zbp,nmsL,AV.nms,AO.nms,Led,curBL,AV.curB,AO.curB,zaj,nDd,h0,h1,h2,hab,hac,hbc,hba,hca,hcb]
 have e1:1+v=v+1:=by omega
 have e2:1+v2=v2+1:=by omega
 simp [renL,AV.ren,AO.ren,zbL,zdP,nmsL,h0,h1,h2,hF,zeZ,zcc,AV.nms,AO.nms,zdC,nmN,shN,zaj,rng,Led,hab,hac,hbc,hba,hca,hcb,e1,e2]
def stD (r:Int) (ds:List Dp) (p:Nat) (ns:NdL) (f:Int):NdL:=zfo (zo ns (lsT (r,ns,ds) p).1 (dgt p (lsT (r,ns,ds) p).2.1) (f.toNat*256+4)) (f,zs8)
def dpN (r:Int) (ds:List Dp) (p:Nat) (ns:NdL) (fs:List Int):NdL:=fs.foldl (stD r ds p) ns
theorem zeU {r:Int} {ds:List Dp} {p:Nat} {ns:NdL} {fs:List Int}:dpN r ds p ns (fs.take 0)=ns:=rfl
theorem zp2 {r:Int} {ds:List Dp} {p:Nat} {ns:NdL} {fs:List Int} {i:Nat} (h:i<fs.length):dpN r ds p ns (fs.take (i+1))=stD r ds p (dpN r ds p ns (fs.take i)) (gi fs i):=by unfold dpN;rw [zgG h,List.take_add_one,List.getElem?_eq_getElem h,List.foldl_append];rfl
def dpC (r:Int) (ds:List Dp) (p:Nat) (ns:NdL) (f:Int):Prop:=ptO (r,ns,ds) p∧(∀ n∈ns,n.1≠f)∧0<=f∧f<=4294967295
def zvd (r:Int) (ds:List Dp) (p:Nat) (ns:NdL) (fs:List Int):Prop:=(p<512∧fs.length<=1000∧ns.length<=1000000∧ds.length<=1000000)∧∀ i,i<fs.length->dpC r ds p (dpN r ds p ns (fs.take i)) (gi fs i)
theorem zfC {ns:NdL} {n i w:Nat} (h:∀ x∈ns,zis x) (hw:w<2^64) (hn:n<ns.length):∀ x∈zo ns n i w,zis x:=fun x hx=>by
 rcases List.mem_or_eq_of_mem_set hx with h1|h1
 ·exact h x h1
 ·rw [h1];have hm:=h _ (zaL hn);refine ⟨by simp only [List.length_set];exact hm.1,fun y hy=>?_⟩;rcases List.mem_or_eq_of_mem_set hy with h2|h2
  ·exact hm.2 y h2
  ·rw [h2];exact hw
theorem gE' {l:List Int} {n:Nat} (h:n<l.length):∀ h',l[n]'(h')=gi l n:=fun h'=>(zgG h).symm
theorem zjT {ns:NdL} {n i w:Nat} (hn:n<ns.length) {f:Int} (h:∀ x∈ns,x.1≠f):∀ x∈zo ns n i w,x.1≠f:=fun x hx=>by
 rcases List.mem_or_eq_of_mem_set hx with h1|h1
 ·exact h x h1
 ·have hm:=h _ (zaL hn);rw [h1];exact hm
abbrev DeD:=Tb×Nat×List Int
def dM (t:Tb) (p:Nat) (fs:List Int):List AO:=pMs (t.1,dpN t.1 t.2.2 p t.2.1 fs,t.2.2) (fs.length+1) 1
noncomputable def deS:List AV->List AO->Option (AV×List AO):=za1 (ι:={x:DeD // zvd x.1.1 x.1.2.2 x.2.1 x.1.2.1 x.2.2}) (fun x=>[.bp 0 0,I x.1.2.1,.rd 1 (irw x.1.2.2)]) (fun x=>pMs x.1.1 1 1) (fun x=>.tup []) fun x=>dM x.1.1 x.1.2.1 x.1.2.2
theorem zvf {t:Tb} {p:Nat} {fs:List Int} (h:zvd t.1 t.2.2 p t.2.1 fs):deS [.bp 0 0,I p,.rd 1 (irw fs)] (pMs t 1 1)=some (.tup [],dM t p fs):=by
 refine sGe (ι:={x:DeD // zvd x.1.1 x.1.2.2 x.2.1 x.1.2.1 x.2.2}) (A:=fun x=>[.bp 0 0,I x.1.2.1,.rd 1 (irw x.1.2.2)]) (M:=fun x=>pMs x.1.1 1 1) (R:=fun x=>.tup []) (O:=fun x=>dM x.1.1 x.1.2.1 x.1.2.2) ⟨(t,p,fs),h⟩ fun j hA hM=>?_;obtain ⟨⟨t',p',w'⟩,h'⟩:=j;have e:=zhE hM;simp only at e;subst e;simp only [cJ,I,AV.v.injEq,Value.int.injEq,true_and,and_true,AV.rd.injEq,irI] at hA;have e1:p'=p:=by omega
 have e2:w'=fs:=hA.2;subst e1 e2;exact ⟨rfl,rfl⟩
theorem zB2 (X:AX) (hX:XOK prog X) (hw:X.W wT) (hla:zwQ X 110 (fun t x=>0<=x∧ptO t x.toNat) fun t x=>stV (lsT t x.toNat)) (hdg:∀ (p l:Nat),p<512->l<=2->∀ M n,X.call 139 [I p,I l] M n=some (I (dgt p l),[]))
  (hen:∀ f:Nat,f<=4294967295->∀ M n,X.call 143 [.agg [I 4,I f,B false,B false,B false,B false]] M n=some (.tup [U ((f*256+4:Nat)),I 0],[])) (had:X.call 186=caG adS):GSd prog 129 deS:=by
 unfold deS;refine gsS func129 rfl X fun ⟨⟨⟨r,ns,ds⟩,p,fs⟩,⟨hp,hf8,hl1,hl2⟩,hdp⟩ w0 L E=>⟨by show 3<=46;decide,?_⟩
 simp only at hp hf8 hl1 hl2 hdp;simp only [pMs,dM];show AW ⟨prog,X,46,w0,⟨L,E,3⟩⟩ _ _ _;have hc:Cx.OK ⟨prog,X,46,w0,⟨L,E,3⟩⟩:=⟨hX,mixed⟩
 repeat' (first|(refine aSk fun K hK=>?_)|(refine eMo ?_)|(refine eC (fun h=>?_) (fun h=>?_)<;>(try simp at h))|(refine hK _ ?_;clear hK)|(clear hK;refine hK _ ?_;clear hK))
 refine aLK (s0:=?lps1) (m0:=?lpm1) (ι:={i:Nat // i<=fs.length}) [0,1,11,12] (fun s=>[(13,I s.1)]) (fun s=>[(0,.box [I r,.sl 1 (s.1+1) 9 0 (dpN r ds p ns (fs.take s.1)).length,.sl 2 1 2 0 ds.length]),(1,.vec (s.1+1) 9 false (nrw (dpN r ds p ns (fs.take s.1))))]) (fun s=>fs.length - s.1) ⟨0,by simp⟩ ?lhs1 ?lhm1 ?_ ?_
 case lhs1=>first|(simp [kpS];done)|(simp [kpS];rfl)
 case lhm1=>first|rfl|(simp;done)|(simp;rfl)
 ·simp only [zeU];exact dle
 ·rintro ⟨i,hi⟩;simp only at hi ⊢;rcases dE (i<fs.length) with hil|hil
  ·have hilI:(i:Int)<(fs.length:Int):=by omega
   obtain ⟨hpt,hnf,hf0,hf1⟩:=hdp i hil;have hds:=@zp2 r ds p ns fs i hil;have hg1:=zb1 hil;have hg2:=gE' hil;obtain ⟨NS,hNS⟩:∃ NS,NS=dpN r ds p ns (fs.take i):=⟨_,rfl⟩
   rw [<- hNS] at hpt hnf hds ⊢;obtain ⟨f,hf⟩:=Int.eq_ofNat_of_zero_le hf0;rw [hf] at hf1 hnf hds hg1 hg2;have hen':=hen f (by omega);have hla':=hla r NS ds p ⟨by omega,hpt⟩;obtain ⟨hlt1,hlt2⟩:(lsT (r,NS,ds) p).1<NS.length∧(lsT (r,NS,ds) p).2.1<=2:=by obtain ⟨_,_,_,⟨rt,hrt⟩,_⟩:=hpt;exact zg5 (by unfold rtN;rw [hrt];exact zay hrt)
   have ht:=hpt.1;have ha:=hpt.2.1;have hNl:NS.length<=1000000:=ht.2.1;unfold stD at hds;obtain ⟨⟨a,b,c⟩,hS⟩:∃ S,S=lsT (r,NS,ds) p:=⟨_,rfl⟩
   simp only [Int.toNat_natCast] at hla' hds;rw [<- hS] at hla' hlt1 hlt2 hds;simp only at hla' hlt1 hlt2 hds;have hdg':=hdg p b hp hlt2;have hdl:=zbA p b;have haN:(a:Int)<(NS.length:Int):=by omega
   have hgn:=nrG hlt1;have hgnE:=nrE hlt1;have h8:(gn NS a).2.length=8:=(ht.1 _ (zaL hlt1)).1;obtain ⟨w,hwd⟩:∃ w,w=f*256+4:=⟨_,rfl⟩
   rw [<- hwd] at hen' hds;have hset:=@zdi NS a (dgt p b) w hlt1;have hwl:(wcs (gn NS a).2).length=8:=by simp [h8]
   have hw64:w<2^64:=by omega
   obtain ⟨NT,hNT⟩:∃ NT,NT=zo NS a (dgt p b) w:=⟨_,rfl⟩
   have hNl2:NT.length=NS.length:=by rw [hNT];simp
   have ht2:zf (r,NT,ds):=⟨by rw [hNT];exact zfC ht.1 hw64 hlt1,by show NT.length<=1000000;omega,hl2⟩
   have ha2:zby NT:=by rw [hNT];exact zbS ha hlt1
   have hn2:∀ n∈NT,n.1≠(f:Int):=by rw [hNT];exact zjT hlt1 hnf
   have hca:=fun M n=>@zrc 0 1 2 (by decide) (by decide) (by decide) r NT ds f ht2 ha2 hn2 (by omega) i 0 M n;rw [<- had] at hca;simp only [hNl2,Nat.zero_add] at hca;rw [<- hNT] at hset hds;obtain ⟨⟨fr,ws⟩,hm⟩:∃ m,m=gn NS a:=⟨_,rfl⟩
   rw [<- hm] at hgn hgnE hwl hset;simp only at hgn hgnE hwl hset;obtain ⟨cs,hcs⟩:∃ cs,cs=wcs ws:=⟨_,rfl⟩
   rw [<- hcs] at hgn hgnE hwl hset;obtain ⟨dg,hdg0⟩:∃ dg,dg=dgt p b:=⟨_,rfl⟩
   rw [<- hdg0] at hdl hdg' hset;have hdI:(dg:Int)<8:=by omega
   clear hcs hm h8 hS;have hs1:∀ w:Int,(I fr::cs).set (1+dg) (AV.v (.int .u64 w))=I fr::cs.set dg (AV.v (.int .u64 w)):=fun w=>by rw [Nat.add_comm];rfl
   have hil2:=@zb2 _ ((f:Int),zs8) NT;clear hwd;simp only [stV,zfa,U] at hla' hset hen';have zS:=jj hilI<|jj hg1<|jj hg2<|jj hla'<|jj hen'<|jj hdg'<|jj hlt1<|jj haN<|jj hgn<|jj hgnE<|jj hwl<|jj hdl<|jj hdI<|jj hset<|jj hs1<|hca;repeat' (first|(refine aSk fun K hK=>?_)|(refine zp ?_)|(refine eC (fun h=>?_) (fun h=>?_)<;>(try simp at h))|(refine hK _ ?_;clear hK)|clear hK)
   all_goals clear zS
   refine ⟨i+1,?_,by omega,by omega⟩;simp only [hds,hil2,hNl2];exact dle
  ·obtain rfl:i=fs.length:=by omega
   repeat' (first|(refine aSk fun K hK=>?_)|(refine eMo ?_)|(refine eC (fun h=>?_) (fun h=>?_)<;>(try simp at h))|(refine hK _ ?_;clear hK)|clear hK)
   refine ⟨[],rfl,?_⟩;simp only [idx];exact dle
set_option maxHeartbeats 4000000
noncomputable section
def orG (F G:List AV->List AO->Option (AV×List AO)) (avs:List AV) (ms:List AO):Option (AV×List AO):=match F avs ms with
 | some r=>some r
 | none=>G avs ms
theorem GSd.or {P:Program} {f:FuncId} {F G:List AV->List AO->Option (AV×List AO)} (h1:GSd P f F) (h2:GSd P f G):GSd P f (orG F G):=fun w l E args avs ms r ms' h=>by
 unfold orG at h;cases hf:F avs ms with
 | some x=>rw [hf] at h;exact h1 w l E args avs ms r ms' (hf.trans h)
 | none=>rw [hf] at h;exact h2 w l E args avs ms r ms' h
theorem znr {F G:List AV->List AO->Option (AV×List AO)} {avs:List AV} {ms:List AO} {x:AV×List AO} (h:F avs ms=some x):orG F G avs ms=some x:=by unfold orG;rw [h]
theorem zpr {F G:List AV->List AO->Option (AV×List AO)} {avs:List AV} {ms:List AO} {x:AV×List AO} (h:F avs ms=none) (h2:G avs ms=some x):orG F G avs ms=some x:=by unfold orG;rw [h];exact h2
theorem zdf {ι:Type} {A:ι->List AV} {M:ι->List AO} {R:ι->AV} {O:ι->List AO} {avs:List AV} {ms:List AO} (h:∀ i,A i=avs->M i=ms->False):za1 A M R O avs ms=none:=by unfold za1;rw [dif_neg (fun ⟨i,h1,h2⟩=>h i (by first|exact h1|exact h1.symm) (by first|exact h2|exact h2.symm))]
def seB:List AV->List AO->Option (AV×List AO):=orG (seS 189) (seS 191)
theorem zxf {t:Tb} {g:Int} (ht:zf t) (ha:zfw t.2.2):seB [I t.2.2.length,.fn 189 [.bp 0 0,.bp 4 0]] (scM t g)=some (I (zdG t.2.2 g),scM t g):=znr (zqB ht ha)
theorem zxe {t:Tb} {g:Int} (ht:zf t) (ha:zfw t.2.2):seB [I t.2.2.length,.fn 191 [.bp 0 0,.bp 4 0]] (scM t g)=some (I (zdG t.2.2 g),scM t g):=zpr (zdf fun i h1 _=>by simp only [cJ,AV.fn.injEq] at h1;exact absurd h1.2.1.1 (by decide)) (zqB ht ha)
set_option maxRecDepth 4000 in
theorem zq9 {c:FuncId} {e:Nat} (he:4<=e) (hcc:c=189∨c=191) {r:Int} {ns:NdL} {ds:List Dp} {g:Int} (ht:zf (r,ns,ds)) (ha:zfw ds) (M:Nat->AO) (nid:Nat)
  (h0:M 0=.box [I r,.sl 1 1 9 0 ns.length,.sl 2 1 2 0 ds.length]) (h1:M 1=.vec 1 9 false (nrw ns)) (h2:M 2=.vec 1 2 false (prw ds)) (h3:M 3=.box [.bp 0 0]) (h4:M e=.box [I g]) :
  caG seB [I ds.length,.fn c [.bp 3 0,.bp e 0]] M nid=some (I (zdG ds g),[(3,.box [.bp 0 0]),(0,.box [I r,.sl 1 1 9 0 ns.length,.sl 2 1 2 0 ds.length]),(1,.vec 1 9 false (nrw ns)),(2,.vec 1 2 false (prw ds)),(e,.box [I g])]):=by
 have n0:e≠0:=by omega
 have n1:e≠1:=by omega
 have n2:e≠2:=by omega
 have n3:e≠3:=by omega
 have m0:0≠e:=by omega
 have m1:1≠e:=by omega
 have m2:2≠e:=by omega
 have m3:3≠e:=by omega
 have hF:seB [I ds.length,.fn c [.bp 0 0,.bp 4 0]] (scM (r,ns,ds) g)=some (I (zdG ds g),scM (r,ns,ds) g):=by
  rcases hcc with rfl|rfl
  ·exact zxf (t:=(r,ns,ds)) ht ha
  ·exact zxe (t:=(r,ns,ds)) ht ha
 simp only [scM] at hF;unfold caG;have hg:gat M 64 (nmsL [I ds.length,.fn c [.bp 3 0,.bp e 0]]) []=[3,0,1,2,e]:=by simp [gat,nmsL,AV.nms,AO.nms,h0,h1,h2,h3,h4,n0,n1,n2,n3,m0,m1,m2,m3]
 simp only [hg];rw [if_pos ?cg]
 case cg=>simp [zbp,nmsL,AV.nms,AO.nms,Led,curBL,AV.curB,AO.curB,zaj,nDd,h0,h1,h2,h3,h4,n0,n1,n2,n3,m0,m1,m2,m3]
 simp [renL,AV.ren,AO.ren,zbL,zdP,nmsL,h0,h1,h2,h3,h4,n0,n1,n2,n3,m0,m1,m2,m3,hF,zeZ,zcc,AV.nms,AO.nms,zdC,nmN,shN,zaj,rng,Led]
theorem zsH {b c v i:Nat} {l:List Dp} {g f:Int} {fl fl2:Bool} (hbc:b≠c) (hi:i<=l.length∧l.length<=1000000) (M:Nat->AO) (nid:Nat) (hb:M b=.vec v 2 fl (prw l)) (hc:M c=.vec 1 2 fl2 [[I g,I f]]) :
  callM false ztu zo5 [.sl b v 2 0 l.length,I i,.sl c 1 2 0 1] M nid=some (.sl nid 1 2 0 (l.length+1),[(nid,.vec 1 2 false (prw (l.take i++(g,f)::l.drop i))),(b,.dead)]):=by
 have hF:=zqr l i g f hi;have hcb:c≠b:=fun e=>hbc e.symm;have e1:min i l.length+(l.length - i+1)=l.length+1:=by omega
 simp [callM,zaM,zct,hb,hc,hbc,hcb,hF,tkL,e1]
theorem zsK {b v i j:Nat} {l:List Dp} {fl:Bool} (hi:i<=j∧j<=l.length∧l.length<=1000000) (M:Nat->AO) (nid:Nat) (hb:M b=.vec v 2 fl (prw l)) :
  callM false ztu zo6 [.sl b v 2 0 l.length,I i,I j] M nid=some (.sl nid 1 2 0 (l.length - (j - i)),[(nid,.vec 1 2 false (prw (l.take i++l.drop j))),(b,.dead)]):=by
 have hF:=zqs l i j hi;have e1:min i l.length+(l.length - j)=l.length - (j - i):=by omega
 simp [callM,zaM,zct,hb,hF,tkL,e1]
def zwq (ds:List Dp) (g f:Int):List Dp:=ds.take (zdG ds g)++(g,f)::ds.drop (zdG ds g)
abbrev DpD:=Tb×Int×Int
def oM (t:Tb) (ds:List Dp):List AO:=[.box [I t.1,.sl 1 1 9 0 t.2.1.length,.sl 3 1 2 0 ds.length],.vec 1 9 false (nrw t.2.1),.dead,.vec 1 2 false (prw ds)]
def dpS:List AV->List AO->Option (AV×List AO):=za1 (ι:={x:DpD // zf x.1∧zfw x.1.2.2}) (fun x=>[.bp 0 0,I x.1.2.1,I x.1.2.2]) (fun x=>pMs x.1.1 1 1) (fun x=>.tup []) fun x=>oM x.1.1 (zwq x.1.1.2.2 x.1.2.1 x.1.2.2)
theorem zpL {ds:List Dp} {g f:Int}:(zwq ds g f).length=ds.length+1:=by have:=@znO ds g;simp [zwq];omega
theorem zB0 (X:AX) (hX:XOK prog X) (hw:X.W wT) (hse:X.call 188=caG seB) (hin:X.call 190=callM false ztu zo5):GSd prog 135 dpS:=by
 unfold dpS;refine gsS func135 rfl X fun ⟨⟨⟨r,ns,ds⟩,g,f⟩,ht,ha⟩ w0 L E=>⟨by show 3<=27;decide,?_⟩
 simp only at ha;have hl1:ns.length<=1000000:=ht.2.1;have hl2:ds.length<=1000000:=ht.2.2;have hse':=fun M n=>@zq9 189 19 (by decide) (.inl rfl) r ns ds g ht ha M n;rw [<- hse] at hse';have hlo:=@znO ds g;obtain ⟨i,hi⟩:∃ i,i=zdG ds g:=⟨_,rfl⟩
 have hil:zwq ds g f=ds.take i++(g,f)::ds.drop i:=by rw [hi];rfl
 have hlen:=@zpL ds g f;rw [<- hi] at hse' hlo;have hin':=fun b c hbc M nid=>@zsH b c 1 i ds g f false false hbc ⟨hlo,hl2⟩ M nid;rw [<- hin,<- hil] at hin';simp only [pMs,oM,hlen];show AW ⟨prog,X,27,w0,⟨L,E,3⟩⟩ _ _ _;have hc:Cx.OK ⟨prog,X,27,w0,⟨L,E,3⟩⟩:=⟨hX,mixed⟩
 have zS:=jj hse'<|hin';refine zhd ?_;repeat (intro K hK)
 clear zS;refine ⟨[],rfl,?_⟩;simp only [idx];refine zaI (s1:=?tus1) (m1:=?tum1) [(323,3)] [0] [0,1,2,323] ?tua1 ?tub1 ?tuc1 ?tud1 ?tue1 ?tuf1 ?tug1
 case tua1=>first|(simp [kpS];done)|(simp [kpS];rfl)
 case tub1=>first|(simp;done)|(simp;rfl)
 case tuc1=>simp
 case tud1=>simp
 case tue1=>simp
 case tuf1=>simp
 case tug1 =>simp [swp,vr];exact dle
def zpd (ds:List Dp) (g:Int):List Dp:=ds.take (zdG ds g)++ds.drop (zdG ds g+1)
theorem zh3 {ds:List Dp} {g:Int} (h:zdG ds g<ds.length):(zpd ds g).length=ds.length - 1:=by simp [zpd];omega
def wdS:List AV->List AO->Option (AV×List AO):=za1 (ι:={x:Tb×Int // zf x.1∧zfw x.1.2.2∧zdG x.1.2.2 x.2<x.1.2.2.length}) (fun x=>[.bp 0 0,I x.1.2]) (fun x=>pMs x.1.1 1 1) (fun x=>rtO [I (gp x.1.1.2.2 (zdG x.1.1.2.2 x.1.2)).2]) fun x=>oM x.1.1 (zpd x.1.1.2.2 x.1.2)
theorem ztO {t:Tb} {g:Int} (ht:zf t) (ha:zfw t.2.2) (hl:zdG t.2.2 g<t.2.2.length):wdS [.bp 0 0,I g] (pMs t 1 1)=some (I (gp t.2.2 (zdG t.2.2 g)).2,oM t (zpd t.2.2 g)):=by refine sGe (ι:={x:Tb×Int // zf x.1∧zfw x.1.2.2∧zdG x.1.2.2 x.2<x.1.2.2.length}) (A:=fun x=>[.bp 0 0,I x.1.2]) (M:=fun x=>pMs x.1.1 1 1) (R:=fun x=>rtO [I (gp x.1.1.2.2 (zdG x.1.1.2.2 x.1.2)).2]) (O:=fun x=>oM x.1.1 (zpd x.1.1.2.2 x.1.2)) ⟨(t,g),ht,ha,hl⟩ fun j hA hM=>?_;obtain ⟨⟨t',g'⟩,h'⟩:=j;have e:=zhE hM;simp only at e;subst e;simp only [cJ,I,AV.v.injEq,Value.int.injEq,true_and,and_true] at hA;subst hA;exact ⟨rfl,rfl⟩
theorem zBY (X:AX) (hX:XOK prog X) (hw:X.W wT) (hse:X.call 188=caG seB) (hde:X.call 192=callM false ztu zo6):GSd prog 138 wdS:=by
 unfold wdS;refine gsS func138 rfl X fun ⟨⟨⟨r,ns,ds⟩,g⟩,ht,ha,hlo⟩ w0 L E=>⟨by show 2<=34;decide,?_⟩
 simp only at ha hlo;have hl1:ns.length<=1000000:=ht.2.1;have hl2:ds.length<=1000000:=ht.2.2;have hse':=fun M n=>@zq9 191 19 (by decide) (.inr rfl) r ns ds g ht ha M n;rw [<- hse] at hse';have hlen:=zh3 hlo;simp only [pMs,oM,hlen];obtain ⟨i,hi⟩:∃ i,i=zdG ds g:=⟨_,rfl⟩
 have hil:zpd ds g=ds.take i++ds.drop (i+1):=by rw [hi];rfl
 rw [<- hi] at hse' hlo ⊢;have hde':=fun b M nid=>@zsK b 1 i (i+1) ds false ⟨by omega,by omega,hl2⟩ M nid;rw [<- hde,<- hil,show i+1 - i=1 by omega,show ((i+1:Nat):Int)=(i:Int)+1 by omega] at hde';have hg:=zab hlo;have hgE:=zac hlo;obtain ⟨⟨d1,d2⟩,hm⟩:∃ m,m=gp ds i:=⟨_,rfl⟩
 rw [<- hm] at hg hgE ⊢;simp only at hg hgE ⊢;have hiI:(i:Int)<(ds.length:Int):=by omega
 show AW ⟨prog,X,34,w0,⟨L,E,3⟩⟩ _ _ _;have hc:Cx.OK ⟨prog,X,34,w0,⟨L,E,3⟩⟩:=⟨hX,mixed⟩
 have zS:=jj hse'<|jj hde'<|jj hg<|jj hgE<|jj hlo<|hiI;refine zhd ?_;repeat (intro K hK)
 clear zS;refine ⟨by simp,_,by simp [aRs,aRt,f138];rfl,?_⟩;simp only [idx];refine zaI (s1:=?tus2) (m1:=?tum2) [(451,3)] [0] [0,1,2,451] ?tua2 ?tub2 ?tuc2 ?tud2 ?tue2 ?tuf2 ?tug2
 case tua2=>first|(simp [kpS];done)|(simp [kpS];rfl)
 case tub2=>first|(simp;done)|(simp;rfl)
 case tuc2=>simp
 case tud2=>simp
 case tue2=>simp
 case tuf2=>simp
 case tug2 =>simp [swp,vr];exact dle
end
theorem zpV {ns:NdL} {f:Int}:fnd ns f=none↔∀ n∈ns,n.1≠f:=by
 unfold fnd;split
 ·rename_i h;simp only [reduceCtorEq,false_iff];intro h2;have:=List.findIdx_getElem (p:=fun n:Nd=>decide (n.1=f)) (w:=h);simp at this;exact h2 _ (List.getElem_mem h) this
 ·rename_i h;simp only [true_iff];intro n hn e;refine h (List.findIdx_lt_length_of_exists ⟨n,hn,by simpa using e⟩)
def ksE (es:List (List Int×AV)) (l:List Int):Nat->List (List Int×AV)
 | 0=>es
 | k+1=>zgz (ksE es l k) [gi l k] (I 0)
theorem zkc {es:List (List Int×AV)} {l:List Int} {f:Int}:∀ {n:Nat},zd8 (ksE es l n) [f]=none↔zd8 es [f]=none∧∀ k,k<n->gi l k≠f
 | 0=>by simp [ksE]
 | n+1=>by
  simp only [ksE];rw [zc1];by_cases h:f=gi l n
  ·subst h;simp only [if_true,reduceCtorEq,false_iff,not_and];intro _ h2;exact h2 n (by omega) rfl
  ·rw [if_neg (by simpa using h),zkc (n:=n)];constructor
   ·rintro ⟨h1,h2⟩;refine ⟨h1,fun k hk=>?_⟩;rcases Nat.lt_succ_iff_lt_or_eq.1 hk with h3|rfl
    ·exact h2 k h3
    ·exact fun e=>h e.symm
   ·exact fun ⟨h1,h2⟩=>⟨h1,fun k hk=>h2 k (by omega)⟩
def zlF (ds:List Dp):List Int:=ds.map (·.2)
theorem zkq {ds:List Dp} {k:Nat} (h:k<ds.length):gi (zlF ds) k=(gp ds k).2:=by rw [zgG (by simpa [zlF] using h),zax h];simp [zlF]
def usC (ns:NdL) (ds:List Dp) (fs:List Int) (i:Nat):Prop:=zha (gi fs i)∧(∀ n∈ns,n.1≠gi fs i)∧(∀ k,k<ds.length->(gp ds k).2≠gi fs i)∧∀ j,j<i->gi fs j≠gi fs i
def usB (ns:NdL) (ds:List Dp) (fs:List Int):Bool:=(List.range fs.length).all fun i=>decide (0<=gi fs i∧gi fs i<=4294967295)&&(ns.all fun n=>decide (n.1≠gi fs i))&&((List.range ds.length).all fun k=>decide ((gp ds k).2≠gi fs i))&&(List.range i).all fun j=>decide (gi fs j≠gi fs i)
theorem zcQ {ns:NdL} {ds:List Dp} {fs:List Int}:usB ns ds fs=true↔∀ i,i<fs.length->usC ns ds fs i:=by simp only [usB,usC,zha,List.all_eq_true,List.mem_range,Bool.and_eq_true,decide_eq_true_eq,and_assoc]
theorem ztQ {ns:NdL} {ds:List Dp} {fs:List Int} {i:Nat} (hi:i<fs.length) (h:¬ usC ns ds fs i):usB ns ds fs=false:=by
 cases hb:usB ns ds fs
 ·rfl
 ·exact absurd (zcQ.1 hb i hi) h
theorem znc {ns:NdL} {ds:List Dp} {fs:List Int} (ha:zby ns) {i:Nat} {f:Int}:zd8 (ksE (ksE (zcF ns ns.length) (zlF ds) ds.length) fs i) [f]=none↔((∀ n∈ns,n.1≠f)∧∀ k,k<ds.length->(gp ds k).2≠f)∧∀ j,j<i->gi fs j≠f:=by
 have e:zd8 (zcF ns ns.length) [f]=none↔∀ n∈ns,n.1≠f:=by rw [zcE ha,<- zpV];cases fnd ns f<;>simp
 rw [zkc,zkc,e];refine and_congr_left fun _=>and_congr_right fun _=>forall_congr' fun k=>?_;constructor
 ·intro h hk;rw [<- zkq hk];exact h hk
 ·intro h hk;rw [zkq hk];exact h hk
abbrev UsD:=Tb×List Int
set_option maxHeartbeats 4000000 in
theorem zB4 (X:AX) (hX:XOK prog X) (hw:X.W wT) (hfr:∀ x M n,X.call 126 [I x] M n=some (B (decide (0<=x∧x<=4294967295)),[]))
  (hix:∀ t:Tb,zf t->∀ M n,X.call 115 [TbV t] M n=some (.mp n 1,[(n,.map 1 1 (zcF t.2.1 t.2.1.length))])) :
  PSd prog 127 (spF (ι:={x:UsD×Nat // zf x.1.1∧zby x.1.1.2.1∧x.1.2.length<=1000}) (fun x=>[TbV x.1.1.1,.rd 1 (irw x.1.1.2),I x.1.2]) fun x=>rtO [B (decide (x.1.1.2.length=x.1.2)&&usB x.1.1.1.2.1 x.1.1.1.2.2 x.1.1.2)]):=by
 refine psS hX mixed func127 rfl fun ⟨⟨⟨⟨r,ns,ds⟩,fs⟩,m⟩,ht,ha,hf8⟩ w0 G=>⟨by show 3<=52;decide,rfl,?_⟩
 show AW ⟨prog,X,52,w0,.pure G⟩ _ _ _;have hc:=okc hX 52 w0 G;simp only at ha hf8;have hl1:ns.length<=1000000:=ht.2.1;have hl2:ds.length<=1000000:=ht.2.2;have hix':=hix (r,ns,ds) ht;simp only [TbV] at hix' ⊢;rcases dE (fs.length=m) with hm|hm
 ·subst hm;simp only [decide_true,Bool.true_and];have zS:=hix';repeat' (first|(refine aSk fun K hK=>?_)|(refine zi ?_)|(refine eC (fun h=>?_) (fun h=>?_)<;>(try simp at h))|(refine hK _ ?_;clear hK)|(clear hK;refine hK _ ?_;clear hK))
  all_goals clear zS
  refine aLK (s0:=?lps1) (m0:=?lpm1) (ι:={i:Nat // i<=ds.length}) [1,7,21,22] (fun i=>[(23,I i.1)]) (fun i=>[(112,.map 1 1 (ksE (zcF ns ns.length) (zlF ds) i.1))]) (fun i=>ds.length - i.1) ⟨0,by omega⟩ ?lhs1 ?lhm1 ?_ ?_
  case lhs1=>first|(simp [kpS];done)|(simp [kpS];rfl)
  case lhm1=>first|rfl|(simp;done)|(simp;rfl)
  ·simp only [ksE];exact dle
  ·rintro ⟨i,hi⟩;simp only;rcases dE (i<ds.length) with hil|hil
   ·have hilI:(i:Int)<(ds.length:Int):=by omega
    have hg:=zab hil;have hgE:=zac hil;have hnx:ksE (zcF ns ns.length) (zlF ds) (i+1)=zgz (ksE (zcF ns ns.length) (zlF ds) i) [(gp ds i).2] (I 0):=by rw [<- zkq hil];rfl
    obtain ⟨S,hS⟩:∃ S,S=ksE (zcF ns ns.length) (zlF ds) i:=⟨_,rfl⟩
    rw [<- hS] at hnx ⊢;obtain ⟨⟨a,b⟩,hm⟩:∃ m,m=gp ds i:=⟨_,rfl⟩
    rw [<- hm] at hg hgE hnx;simp only at hg hgE hnx;have zS:=jj hilI<|jj hg<|hgE;repeat' (first|(refine aSk fun K hK=>?_)|(refine zi ?_)|(refine eC (fun h=>?_) (fun h=>?_)<;>(try simp at h))|(refine hK _ ?_;clear hK)|clear hK)
    all_goals clear zS
    refine ⟨i+1,?_,by omega,by omega⟩;simp only [hnx];refine zaI (s1:=?tus2) (m1:=?tum2) [] [23,1,7,21,22] [0,112] ?tua2 ?tub2 ?tuc2 ?tud2 ?tue2 ?tuf2 ?tug2
    case tua2=>first|(simp [kpS];done)|(simp [kpS];rfl)
    case tub2=>first|(simp;done)|(simp;rfl)
    case tuc2=>simp
    case tud2=>simp
    case tue2=>simp
    case tuf2=>simp
    case tug2 =>simp [swp,vr];exact dle
   ·obtain rfl:i=ds.length:=by omega
    repeat' (first|(refine aSk fun K hK=>?_)|(refine eMo ?_)|(refine eC (fun h=>?_) (fun h=>?_)<;>(try simp at h))|(refine hK _ ?_;clear hK)|(clear hK;refine hK _ ?_;clear hK))
    refine aLK (s0:=?lps3) (m0:=?lpm3) (ι:={i:Nat // i<=fs.length∧∀ j,j<i->usC ns ds fs j}) [7,31,32] (fun i=>[(33,I i.1)]) (fun i=>[(112,.map 1 1 (ksE (ksE (zcF ns ns.length) (zlF ds) ds.length) fs i.1))]) (fun i=>fs.length - i.1) ⟨0,by omega,by omega⟩ ?lhs3 ?lhm3 ?_ ?_
    case lhs3=>first|(simp [kpS];done)|(simp [kpS];rfl)
    case lhm3=>first|rfl|(simp;done)|(simp;rfl)
    ·simp only [ksE];exact dle
    ·rintro ⟨i,hi,hinv⟩;simp only;rcases dE (i<fs.length) with hil|hil
     ·have hilI:(i:Int)<(fs.length:Int):=by omega
      have hg:=zb1 hil;have hgE:=gE' hil;have hno:=@ztQ ns ds fs i hil;have hsn:=@znc ns ds fs ha i (gi fs i);have hus:usC ns ds fs i↔zha (gi fs i)∧((∀ n∈ns,n.1≠gi fs i)∧∀ k,k<ds.length->(gp ds k).2≠gi fs i)∧∀ j,j<i->gi fs j≠gi fs i:=by unfold usC;simp only [and_assoc]
      rw [<- hsn] at hus;have hnx:ksE (ksE (zcF ns ns.length) (zlF ds) ds.length) fs (i+1)=zgz (ksE (ksE (zcF ns ns.length) (zlF ds) ds.length) fs i) [gi fs i] (I 0):=rfl;obtain ⟨S,hS⟩:∃ S,S=ksE (ksE (zcF ns ns.length) (zlF ds) ds.length) fs i:=⟨_,rfl⟩
      rw [<- hS] at hnx hus ⊢;unfold zha at hus;obtain ⟨b,hb⟩:∃ b,b=gi fs i:=⟨_,rfl⟩
      rw [<- hb] at hg hgE hnx hus;have hfr':=hfr b;clear hsn hS;cases hget:zd8 S [b] with
      | some v =>
       have e:=hno (fun h=>by have:=(hus.1 h).2;rw [hget] at this;simp at this);have zS:=jj hilI<|jj hg<|jj hgE<|hget;repeat' (first|(refine aSk fun K hK=>?_)|(refine zi ?_)|(refine eC (fun h=>?_) (fun h=>?_)<;>(try simp at h))|(refine hK _ ?_;clear hK)|clear hK)
       all_goals clear zS
       refine ⟨by simp,?_⟩;simp [lvI,f127,e];try exact dt
      | none =>
       rcases dE (0<=b∧b<=4294967295) with h1|h1
       ·rw [decide_eq_true h1] at hfr';have hu:=hus.2 ⟨h1,hget⟩;have zS:=jj hilI<|jj hg<|jj hgE<|jj hget<|hfr';repeat' (first|(refine aSk fun K hK=>?_)|(refine zi ?_)|(refine eC (fun h=>?_) (fun h=>?_)<;>(try simp at h))|(refine hK _ ?_;clear hK)|clear hK)
        all_goals clear zS
        refine ⟨i+1,?_,⟨by omega,fun j hj=>?_⟩,by omega⟩
        ·simp only [hnx];refine zaI (s1:=?tus4) (m1:=?tum4) [] [33,1,7,31,32] [0,112] ?tua4 ?tub4 ?tuc4 ?tud4 ?tue4 ?tuf4 ?tug4
         case tua4=>first|(simp [kpS];done)|(simp [kpS];rfl)
         case tub4=>first|(simp;done)|(simp;rfl)
         case tuc4=>simp
         case tud4=>simp
         case tue4=>simp
         case tuf4=>simp
         case tug4 =>simp [swp,vr];exact dle
        ·rcases Nat.lt_succ_iff_lt_or_eq.1 hj with h5|rfl
         ·exact hinv j h5
         ·exact hu
       ·rw [decide_eq_false h1] at hfr';have e:=hno (fun h=>h1 (hus.1 h).1);have zS:=jj hilI<|jj hg<|jj hgE<|jj hget<|hfr';repeat' (first|(refine aSk fun K hK=>?_)|(refine zi ?_)|(refine eC (fun h=>?_) (fun h=>?_)<;>(try simp at h))|(refine hK _ ?_;clear hK)|clear hK)
        all_goals clear zS
        refine ⟨by simp,?_⟩;simp [lvI,f127,e];try exact dt
     ·obtain rfl:i=fs.length:=by omega
      have e:=zcQ.2 hinv;repeat' (first|(refine aSk fun K hK=>?_)|(refine eMo ?_)|(refine eC (fun h=>?_) (fun h=>?_)<;>(try simp at h))|(refine hK _ ?_;clear hK)|clear hK)
      refine ⟨by simp,?_⟩;simp [lvI,f127,e];try exact dt
 ·have hmI:¬ (fs.length:Int)=(m:Int):=by omega
  have zS:=jj hm<|hmI;refine zl ?_;repeat (intro K hK)
  clear zS;refine ⟨by simp,?_⟩;simp [lvI,f127,hm];try exact dt
theorem zks {g:Nat} (hg:g<=4294967295):zj (g*256+4)=((4,(g:Int),false,false,false,false),0):=by
 have hb:∀ j,3<=j->j<8->(g*256+4).testBit j=false:=fun j h1 h2=>by rw [Nat.testBit_eq_decide_div_mod_eq];rcases (by omega:j=3∨j=4∨j=5∨j=6∨j=7) with rfl|rfl|rfl|rfl|rfl;all_goals exact decide_eq_false (by omega)
 have hp:prs (g*256+4)=(4,(g:Int),false,false,false,false):=by unfold prs;rw [hb 3 (by omega) (by omega),hb 4 (by omega) (by omega),hb 5 (by omega) (by omega),hb 6 (by omega) (by omega)];rw [show (g*256+4)%8=4 by omega,show (g*256+4)/256%4294967296=g by omega];rfl
 have he:zdq (4,(g:Int),false,false,false,false)=(((g*256+4:Nat):Int),0):=by rw [zhb (by simp only;omega) (by unfold zky;simp only;omega) (by rfl)];unfold zmR fb;simp;omega
 rw [zjl (by rw [hp];exact he),hp]
theorem zjR {g:Nat} (hg:g<=4294967295):zbc (g*256+4)=some (g:Int):=by unfold zbc;rw [zks hg];rfl
theorem znt {g l:Nat} (hg:g<=4294967295) (hl:0<l):zcO l (g*256+4)=true:=by unfold zcO;rw [zks hg];simp [zaO,hl]
theorem zew:zj 0=(zE,0):=by rfl
theorem wdZ (adm:Int->Bool):WdZ (WD adm) where
 ok:=fun l=>by show zcO l 0=true;unfold zcO;rw [zew];rfl
 tab:=by show zbc 0=none;unfold zbc;rw [zew];rfl
theorem zpH {l w:Nat} (h:zcO l w=true):(zj w).1.1=0↔w=0:=by
 constructor
 ·intro h0;unfold zcO at h;simp only [Bool.and_eq_true,decide_eq_true_eq] at h;by_cases he:zdq (prs w)=((w:Int),0)
  ·rw [zjl he] at h0;simp only at h0;by_cases hb:zky (prs w)
   ·rw [zor (by rw [h0];decide) hb] at he;simp at he
   ·cases hf:zhX (prs w) with
    | false=>rw [zoq (by rw [h0];decide) hb hf] at he;simp at he
    | true =>rw [zhb (by rw [h0];decide) hb hf] at he;simp only [pJ,and_true] at he;unfold zhX zpv at hf;rw [if_neg (by rw [h0];decide),if_neg (by rw [h0];decide),if_pos h0] at hf;simp only [Bool.and_eq_true,decide_eq_true_eq,Bool.not_eq_true'] at hf;unfold zmR fb at he;rw [h0,hf.1,hf.2.1,hf.2.2.1,hf.2.2.2.1,hf.2.2.2.2] at he;simp at he;omega
  ·rw [zou he] at h;simp at h
 ·rintro rfl;rw [zew];rfl
section
variable {M:Mm} {root:Int} {p:Nat}
theorem zq0 (hp:p<512):dgt p 2=p/64:=by unfold dgt;simp;omega
theorem zos:dgt p 1=p/8%8:=by unfold dgt;simp
theorem zwu:dgt p 0=p%8:=by unfold dgt;simp
theorem zap (hV:VM WA M root) (hp:p<512) {f:Int} {l w:Nat} (h:wlk M root p=(f,l,w)) :
  l<=2∧(2 - l,p/8^(l+1))∈Pos∧frP WA M root (2 - l) (p/8^(l+1))=some f∧w=wM M f (dgt p l)∧zbc w=none∧zcO l w=true:=by
 have hok:∀ d q,(d,q)∈Pos->∀ f,frP WA M root d q=some f->∀ i,i<8->zcO (2 - d) (wM M f i)=true:=fun d q hx f hf i hi=>by obtain ⟨ws,h1,_,h3⟩:=hV.nd d q hx f hf;unfold wM;rw [h1];exact h3 i hi
 have f1:frP WA M root 1 (p/64)=zbc (wM M root (p/64)):=by simp only [frP,Option.bind_some];rw [show p/64%8=p/64 by omega];rfl
 have f2:frP WA M root 2 (p/8)=(frP WA M root 1 (p/64)).bind fun f=>zbc (wM M f (p/8%8)):=by show (frP WA M root 1 (p/8/8)).bind _=_;rw [show p/8/8=p/64 by omega];rfl
 unfold wlk at h;cases h2:frP WA M root 2 (p/8) with
 | some g =>
  rw [h2] at h;simp only [pJ] at h;obtain ⟨rfl,rfl,rfl⟩:=h;have hx:=zwP (q:=p/8) (by omega);have ho:=hok 2 _ hx _ h2 (p%8) (by omega);refine ⟨by omega,by simpa using hx,by simpa using h2,by rw [zwu],?_,ho⟩;exact (zeY fun _=>true).flat _ ho
 | none =>
  rw [h2] at h f2;simp only at h;cases h1:frP WA M root 1 (p/64) with
  | some g =>
   rw [h1] at h f2;simp only [pJ] at h;obtain ⟨rfl,rfl,rfl⟩:=h;have hx:=ztG (q:=p/64) (by omega);have ho:=hok 1 _ hx _ h1 (p/8%8) (by omega);exact ⟨by omega,by simpa using hx,by simpa using h1,by rw [zos],f2.symm,ho⟩
  | none =>rw [h1] at h f1;simp only [pJ] at h;obtain ⟨rfl,rfl,rfl⟩:=h;have ho:=hok 0 0 zs3 _ rfl (p/64) (by omega);refine ⟨by omega,by simp;rw [show p/512=0 by omega];exact zs3,by simp [frP],by rw [zq0 hp],f1.symm,ho⟩
theorem zdK (hp:p<512) {f:Int} {l:Nat} (hl:l<=2) (h:frP WA M root (2 - l) (p/8^(l+1))=some f) (h2:zbc (wM M f (dgt p l))=none∨l=0):wlk M root p=(f,l,wM M f (dgt p l)):=by
 have f2:frP WA M root 2 (p/8)=(frP WA M root 1 (p/64)).bind fun f=>zbc (wM M f (p/8%8)):=by show (frP WA M root 1 (p/8/8)).bind _=_;rw [show p/8/8=p/64 by omega];rfl
 have f1:frP WA M root 1 (p/64)=zbc (wM M root (p/64)):=by simp only [frP,Option.bind_some];rw [show p/64%8=p/64 by omega];rfl
 unfold wlk;rcases (by omega:l=0∨l=1∨l=2) with rfl|rfl|rfl
 ·simp at h;rw [h];simp [zwu]
 ·simp at h;rw [zos] at h2;have h2:=h2.resolve_right (by omega);rw [h,Option.bind_some,h2] at f2;rw [f2,h];simp [zos]
 ·simp [frP] at h;subst h;rw [zq0 hp] at h2;have h2:=h2.resolve_right (by omega);rw [h2] at f1;rw [f1] at f2;rw [f2,f1];simp [zq0 hp]
end
theorem zgu {a b:Mm} (h:∀ g,a g=b g):a=b:=funext h
theorem Pv.grow {r:Int} {ns:NdL} {ds:List Dp} (h:Pv (r,ns,ds)) (ht:zf (r,ns,ds)) {p:Nat} (hp:p<512) {g:Nat} (hg:g<=4294967295) (hn:∀ n∈ns,n.1≠(g:Int)) {f:Int} {l w:Nat} (hw:wlk (Mof ns) r p=(f,l+1,w)) (hlen:ns.length<1000000) :
  Pv (r,stD r ds p ns g,ds)∧zf (r,stD r ds p ns g,ds)∧Mof (stD r ds p ns g)=zaW (zcs (Mof ns) f (dgt p (l+1)) (g*256+4)) g (some zs8)∧wlk (Mof (stD r ds p ns g)) r p=((g:Int),l,0)∧(stD r ds p ns g).length=ns.length+1∧∀ n∈stD r ds p ns g,n.1=g∨∃ m∈ns,n.1=m.1:=by
 obtain ⟨hl2,hx,hfp,hwm,htn,hok⟩:=zap h.vm hp hw;simp only at hfp hwm;have hwk:=h.walk hp;simp only at hwk;have hfn:=hwk.2.1;have hlv:=hwk.2.2;rw [hw] at hfn hlv;simp only at hfn hlv;have hnl:(lsT (r,ns,ds) p).1<ns.length:=zay hfn;have hst:stD r ds p ns g=zfo (zo ns (lsT (r,ns,ds) p).1 (dgt p (l+1)) (g*256+4)) ((g:Int),zs8):=by unfold stD;simp only [hlv,Int.toNat_natCast]
 have hsa:=zbS h.asc (i:=dgt p (l+1)) (w:=g*256+4) hnl;have hsf:=zjT (i:=dgt p (l+1)) (w:=g*256+4) hnl hn;have hM:Mof (stD r ds p ns g)=zaW (zcs (Mof ns) f (dgt p (l+1)) (g*256+4)) g (some zs8):=by rw [hst];refine zgu fun x=>?_;rw [zs7 hsa hsf,show Mof (zo ns (lsT (r,ns,ds) p).1 (dgt p (l+1)) (g*256+4))=zcs (Mof ns) f (dgt p (l+1)) (g*256+4) from zgu (ziq h.asc hfn)]
 have hMg:Mof ns (g:Int)=none:=(zaZ h.asc).2 hn;have hd8:=zbA p (l+1);have hdl:2 - (l+1)<2:=by omega
 have hgr:=h.vm.grow (wdZ fun _=>true) hx hdl hfp (i:=dgt p (l+1)) (w:=g*256+4) hd8 (by rw [<- hwm];exact htn) hMg (zjR hg) (by show zcO (2 - (2 - (l+1))) _=true;exact znt hg (by omega));simp only at hgr;rw [<- hM] at hgr;have hql:p/8^(l+1+1)*8+dgt p (l+1)=p/8^(l+1):=by unfold dgt;rw [Nat.pow_succ,<- Nat.div_div_eq_div_mul];omega
 have hfg:=hgr.2 (2 - l) (p/8^(l+1)) (by have:=zgt hx hdl hd8;rw [hql] at this;rwa [show 2 - (l+1)+1=2 - l by omega] at this);rw [if_pos ⟨by omega,hql.symm⟩] at hfg;have hMn:Mof (stD r ds p ns g) g=some zs8:=by rw [hM];simp [zaW]
 have hw0:∀ i,wM (Mof (stD r ds p ns g)) g i=0:=fun i=>by unfold wM;rw [hMn];exact zcr i
 refine ⟨⟨by show zby (stD r ds p ns g);rw [hst];exact zfn hsa hsf,hgr.1⟩,⟨?_,?_,ht.2.2⟩,hM,?_,?_,?_⟩
 ·intro x hx;simp only at hx;rw [hst] at hx;rcases zbG.1 hx with e|hx
  ·rw [e];exact ⟨rfl,fun w hw=>by simp [zs8] at hw;omega⟩
  ·exact zfC ht.1 (by omega) hnl x hx
 ·show (stD r ds p ns g).length<=1000000;rw [hst,zb2,sNl];omega
 ·have:=zdK (M:=Mof (stD r ds p ns g)) hp (l:=l) (by omega) hfg (.inl (by rw [hw0];exact (wdZ fun _=>true).tab));rw [this,hw0]
 ·rw [hst,zb2,sNl]
 ·intro n hn2;rw [hst] at hn2;rcases zbG.1 hn2 with e|hx
  ·exact .inl (by rw [e])
  ·refine .inr ?_;rcases List.mem_or_eq_of_mem_set hx with h1|h1
   ·exact ⟨n,h1,rfl⟩
   ·exact ⟨_,zaL hnl,by rw [h1];rfl⟩
theorem zsy {r:Int} {ns:NdL} {ds:List Dp} (h:Pv (r,ns,ds)) (ht:zf (r,ns,ds)) {p:Nat} (hp:p<512) {fs:List Int} (hu:usB ns ds fs=true) (hlen:ns.length<=999000) {f:Int} {l w:Nat} (hw:wlk (Mof ns) r p=(f,l,w)):∀ i,i<=fs.length->i<=l ->
  Pv (r,dpN r ds p ns (fs.take i),ds)∧zf (r,dpN r ds p ns (fs.take i),ds)∧(∃ f' w',wlk (Mof (dpN r ds p ns (fs.take i))) r p=(f',l - i,w')∧(0<i->w'=0))∧(dpN r ds p ns (fs.take i)).length=ns.length+i∧∀ n∈dpN r ds p ns (fs.take i),(∃ m∈ns,n.1=m.1)∨∃ j,j<i∧n.1=gi fs j
 | 0,_,_=>⟨by rw [zeU];exact h,by rw [zeU];exact ht,⟨f,w,by rw [zeU];exact hw,by omega⟩,by rw [zeU];rfl,fun n hn=>.inl ⟨n,by rw [zeU] at hn;exact hn,rfl⟩⟩
 | i+1,hi,hil=>by
  have hl2:=(zap h.vm hp hw).1;obtain ⟨h1,h2,⟨f',w',h3,_⟩,h4,h5⟩:=zsy h ht hp hu hlen hw i (by omega) (by omega);obtain ⟨⟨g0,g1⟩,u2,u3,u4⟩:=zcQ.1 hu i (by omega);obtain ⟨g,hg⟩:=Int.eq_ofNat_of_zero_le g0;rw [zp2 (by omega)];rw [hg] at g1 u2 u3 u4 ⊢;obtain ⟨L,hL⟩:∃ L,l - i=L+1:=⟨l - i - 1,by omega⟩
  rw [hL] at h3;have hnew:∀ n∈dpN r ds p ns (fs.take i),n.1≠(g:Int):=fun n hn e=>by
   rcases h5 n hn with ⟨m,hm,k⟩|⟨j,hj,k⟩
   ·exact u2 m hm (by rw [<- k];exact e)
   ·exact u4 j hj (by rw [<- k];exact e)
  obtain ⟨k1,k2,_,k4,k5,k6⟩:=h1.grow h2 hp (g:=g) (by omega) hnew h3 (by omega);refine ⟨k1,k2,⟨_,_,by rw [show l - (i+1)=L by omega];exact k4,fun _=>rfl⟩,by rw [k5,h4];omega,fun n hn=>?_⟩;rcases k6 n hn with e|⟨m,hm,e⟩
  ·exact .inr ⟨i,by omega,by rw [e,hg]⟩
  ·rcases h5 m hm with ⟨m2,hm2,k⟩|⟨j,hj,k⟩
   ·exact .inl ⟨m2,hm2,by rw [e,k]⟩
   ·exact .inr ⟨j,by omega,by rw [e,k]⟩
theorem zsx {r:Int} {ns:NdL} {ds:List Dp} (h:Pv (r,ns,ds)) (ht:zf (r,ns,ds)) {p:Nat} (hp:p<512) {fs:List Int} (hu:usB ns ds fs=true) (hlen:ns.length<=999000) {f:Int} {l w:Nat} (hw:wlk (Mof ns) r p=(f,l,w)) (hf8:fs.length<=1000) (hle:fs.length<=l):zvd r ds p ns fs:=by
 refine ⟨⟨hp,hf8,by omega,ht.2.2⟩,fun i hi=>?_⟩;obtain ⟨h1,h2,_,h4,h5⟩:=zsy h ht hp hu hlen hw i (by omega) (by omega);obtain ⟨⟨g0,g1⟩,u2,u3,u4⟩:=zcQ.1 hu i hi;refine ⟨h1.pto h2 hp,fun n hn e=>?_,g0,g1⟩;rcases h5 n hn with ⟨m,hm,k⟩|⟨j,hj,k⟩
 ·exact u2 m hm (by rw [<- k];exact e)
 ·exact u4 j hj (by rw [<- k];exact e)
end Go.AM
namespace Go.AM
open Go Go.Proofs Tryz
abbrev D1D:=Tb×Nat×Nat
noncomputable def zxI:List AV->List AO->Option (AV×List AO):=za1 (ι:={x:D1D // dpC x.1.1 x.1.2.2 x.2.1 x.1.2.1 x.2.2}) (fun x=>[.bp 0 0,I x.1.2.1,.sl 3 1 1 0 1]) (fun x=>pMs x.1.1 1 1++[.vec 1 1 false [[I x.1.2.2]]]) (fun x=>.tup []) fun x=>pMs (x.1.1.1,stD x.1.1.1 x.1.1.2.2 x.1.2.1 x.1.1.2.1 x.1.2.2,x.1.1.2.2) 2 1++[.vec 1 1 false [[I x.1.2.2]]]
set_option maxHeartbeats 4000000 in
theorem zt8 (X:AX) (hX:XOK prog X) (hw:X.W wT) (hla:zwQ X 110 (fun t x=>0<=x∧ptO t x.toNat) fun t x=>stV (lsT t x.toNat)) (hdg:∀ (p l:Nat),p<512->l<=2->∀ M n,X.call 139 [I p,I l] M n=some (I (dgt p l),[]))
  (hen:∀ f:Nat,f<=4294967295->∀ M n,X.call 143 [.agg [I 4,I f,B false,B false,B false,B false]] M n=some (.tup [U ((f*256+4:Nat)),I 0],[])) (had:X.call 186=caG adS):GSd prog 129 zxI:=by
 unfold zxI;refine gsS func129 rfl X fun ⟨⟨⟨r,ns,ds⟩,p,f⟩,hpt,hnf,hf0,hf1⟩ w0 L E=>⟨by show 3<=46;decide,?_⟩
 simp only at hpt hnf hf0 hf1;have hp:p<512:=hpt.2.2.1;have hl1:ns.length<=1000000:=hpt.1.2.1;have hl2:ds.length<=1000000:=hpt.1.2.2;simp only [pMs];have hen':=hen f (by omega);have hla':=hla r ns ds p ⟨by omega,hpt⟩;obtain ⟨hlt1,hlt2⟩:(lsT (r,ns,ds) p).1<ns.length∧(lsT (r,ns,ds) p).2.1<=2:=by obtain ⟨_,_,_,⟨rt,hrt⟩,_⟩:=hpt;exact zg5 (by unfold rtN;rw [hrt];exact zay hrt)
 have ht:=hpt.1;have ha:=hpt.2.1;have hds:stD r ds p ns f=zfo (zo ns (lsT (r,ns,ds) p).1 (dgt p (lsT (r,ns,ds) p).2.1) (f*256+4)) ((f:Int),zs8):=by unfold stD;rw [Int.toNat_natCast]
 obtain ⟨⟨a,b,c⟩,hS⟩:∃ S,S=lsT (r,ns,ds) p:=⟨_,rfl⟩
 simp only [Int.toNat_natCast] at hla';rw [<- hS] at hla' hlt1 hlt2 hds;simp only at hla' hlt1 hlt2 hds;have hdg':=hdg p b hp hlt2;have hdl:=zbA p b;have haN:(a:Int)<(ns.length:Int):=by omega
 have hgn:=nrG hlt1;have hgnE:=nrE hlt1;have h8:(gn ns a).2.length=8:=(ht.1 _ (zaL hlt1)).1;obtain ⟨w,hwd⟩:∃ w,w=f*256+4:=⟨_,rfl⟩
 rw [<- hwd] at hen' hds;have hset:=@zdi ns a (dgt p b) w hlt1;have hwl:(wcs (gn ns a).2).length=8:=by simp [h8]
 have hw64:w<2^64:=by omega
 obtain ⟨NT,hNT⟩:∃ NT,NT=zo ns a (dgt p b) w:=⟨_,rfl⟩
 have hNl2:NT.length=ns.length:=by rw [hNT];simp
 have ht2:zf (r,NT,ds):=⟨by rw [hNT];exact zfC ht.1 hw64 hlt1,by show NT.length<=1000000;omega,hl2⟩
 have ha2:zby NT:=by rw [hNT];exact zbS ha hlt1
 have hn2:∀ n∈NT,n.1≠(f:Int):=by rw [hNT];exact zjT hlt1 hnf
 have hca:=fun M n=>@zrc 0 1 2 (by decide) (by decide) (by decide) r NT ds f ht2 ha2 hn2 (by omega) 0 0 M n;rw [<- had] at hca;simp only [hNl2,Nat.zero_add] at hca;rw [<- hNT] at hset hds;obtain ⟨⟨fr,ws⟩,hm⟩:∃ m,m=gn ns a:=⟨_,rfl⟩
 rw [<- hm] at hgn hgnE hwl hset;simp only at hgn hgnE hwl hset;obtain ⟨cs,hcs⟩:∃ cs,cs=wcs ws:=⟨_,rfl⟩
 rw [<- hcs] at hgn hgnE hwl hset;obtain ⟨dg,hdg0⟩:∃ dg,dg=dgt p b:=⟨_,rfl⟩
 rw [<- hdg0] at hdl hdg' hset;have hdI:(dg:Int)<8:=by omega
 clear hcs hm h8 hS;have hs1:∀ w:Int,(I fr::cs).set (1+dg) (AV.v (.int .u64 w))=I fr::cs.set dg (AV.v (.int .u64 w)):=fun w=>by rw [Nat.add_comm];rfl
 have hil2:=@zb2 _ ((f:Int),zs8) NT;clear hwd;simp only [stV,zfa,U] at hla' hset hen';simp only [hds,hil2,hNl2];show AW ⟨prog,X,46,w0,⟨L,E,4⟩⟩ _ _ _;have hc:Cx.OK ⟨prog,X,46,w0,⟨L,E,4⟩⟩:=⟨hX,mixed⟩
 repeat' (first|(refine aSk fun K hK=>?_)|(refine eMo ?_)|(refine eC (fun h=>?_) (fun h=>?_)<;>(try simp at h))|(refine hK _ ?_;clear hK)|(clear hK;refine hK _ ?_;clear hK))
 refine zif 2 (aRd ?_);have zS:=jj hla'<|jj hen'<|jj hdg'<|jj hlt1<|jj haN<|jj hgn<|jj hgnE<|jj hwl<|jj hdl<|jj hdI<|jj hset<|jj hs1<|hca;repeat' (first|(refine aSk fun K hK=>?_)|(refine zp ?_)|(refine eC (fun h=>?_) (fun h=>?_)<;>(try simp at h))|(refine hK _ ?_;clear hK)|clear hK)
 all_goals clear zS
 refine ⟨[],rfl,?_⟩;simp only [idx];exact dle
noncomputable def deB:List AV->List AO->Option (AV×List AO):=orG deS zxI
set_option maxHeartbeats 8000000
set_option maxRecDepth 4000 in
theorem zvD {a b c:Nat} (hab:a≠b) (hac:a≠c) (hbc:b≠c) {r:Int} {ns:NdL} {ds:List Dp} {p:Nat} {fs:List Int} (h:zvd r ds p ns fs) {v v2:Nat} (M:Nat->AO) (nid:Nat)
  (h0:M a=.box [I r,.sl b (v+1) 9 0 ns.length,.sl c (v2+1) 2 0 ds.length]) (h1:M b=.vec (v+1) 9 false (nrw ns)) (h2:M c=.vec (v2+1) 2 false (prw ds)) :
  caG deB [.bp a 0,I p,.rd 1 (irw fs)] M nid=some (.tup [],[(a,.box [I r,.sl b (fs.length+v+1) 9 0 (dpN r ds p ns fs).length,.sl c (v2+1) 2 0 ds.length]),(b,.vec (fs.length+v+1) 9 false (nrw (dpN r ds p ns fs))),(c,.vec (v2+1) 2 false (prw ds))]):=by
 have hF:deB _ _=_:=znr (zvf (t:=(r,ns,ds)) h);simp only [pMs,dM] at hF;unfold caG;have hba:b≠a:=fun e=>hab e.symm;have hca:c≠a:=fun e=>hac e.symm;have hcb:c≠b:=fun e=>hbc e.symm;have hg:gat M 64 (nmsL [.bp a 0,I p,.rd 1 (irw fs)]) []=[a,b,c]:=by simp [gat,nmsL,AV.nms,AO.nms,h0,h1,h2,hab,hac,hbc,hba,hca,hcb]
 simp only [hg];rw [if_pos ?cg]
 case cg=>simp [zbp,nmsL,AV.nms,AO.nms,Led,curBL,AV.curB,AO.curB,zaj,nDd,h0,h1,h2,hab,hac,hbc,hba,hca,hcb]
 have e1:fs.length+1+v=fs.length+v+1:=by omega
 have e2:1+v2=v2+1:=by omega
 simp [renL,AV.ren,AO.ren,zbL,zdP,nmsL,h0,h1,h2,hF,zeZ,zcc,AV.nms,AO.nms,zdC,nmN,shN,zaj,rng,Led,hab,hac,hbc,hba,hca,hcb,e1,e2]
def TbC (t:Tb) (n:Nat):AV:=.agg [I t.1,.sl n 1 9 0 t.2.1.length,.sl (n+1) 1 2 0 t.2.2.length]
def zT:Tb:=(0,[],[])
noncomputable def zdD (t:Tb) (p:Int) (w:Nat) (fs:List Int):Tb×Int :=if ckd t p 512≠0 then (zT,ckd t p 512)
 else if (zj w).2≠0∨(zj w).1.1=0∨(zj w).1.1=4∨(zj w).1.2.2.2.2.2=true then (zT,3)
 else if (lsT t p.toNat).2.2≠0 then (zT,7)
 else if fs.length=(lsT t p.toNat).2.1∧usB t.2.1 t.2.2 fs=true then (zb7 (t.1,dpN t.1 t.2.2 p.toNat t.2.1 fs,t.2.2) p.toNat w,0)
 else (zT,1)
theorem zoE {t:Tb} (ht:zf t) {n lim:Int} (h:¬ ckd t n lim≠0):Pv t∧0<=n∧n<lim:=by
 rcases zey t n lim with h1|h1
 ·exact absurd h1 h
 ·exact ⟨zjs ht h1.2.1,h1.2.2⟩
abbrev StD:=Tb×Int×Nat×List Int
def ztZ (x:StD):Prop:=zf x.1∧x.1.2.1.length<=999000∧x.2.2.1<2^64∧x.2.2.2.length<=1000
theorem s51 (X:AX) (hX:XOK prog X) (hw:X.W wT) (hck:∀ t:Tb,zf t->∀ (n lim:Int) M k,X.call 109 [TbV t,I n,I lim] M k=some (I (ckd t n lim),[]))
  (hla:∀ (t:Tb) (p:Nat),ptO t p->∀ M n,X.call 110 [TbV t,I p] M n=some (stV (lsT t p),[]))
  (hdc:∀ n:Nat,n<2^64->∀ M k,X.call 56 [U n] M k=some (.tup [EnV (zj n).1,I (zj n).2],[]))
  (hen:∀ w:Nat,w<2^64->∀ M n,X.call 113 [U w] M n=some (EnV (zj w).1,[]))
  (hfh:∀ (t:Tb) (fs:List Int) (m:Nat),zf t->zby t.2.1->fs.length<=1000->∀ M n,X.call 127 [TbV t,.rd 1 (irw fs),I m] M n=some (B (decide (fs.length=m)&&usB t.2.1 t.2.2 fs),[]))
  (hcl:∀ t:Tb,zf t->∀ M n,X.call 128 [TbV t] M n=some (TbC t n,[(n,.vec 1 9 false (nrw t.2.1)),(n+1,.vec 1 2 false (prw t.2.2))]))
  (hde:X.call 129=caG deB) (hpu:X.call 130=caG puS) :
  PSd prog 51 (spF (ι:={x:StD // ztZ x}) (fun x=>[TbV x.1.1,I x.1.2.1,U x.1.2.2.1,.rd 1 (irw x.1.2.2.2)]) fun x=>rtO [TbO (zdD x.1.1 x.1.2.1 x.1.2.2.1 x.1.2.2.2).1,I (zdD x.1.1 x.1.2.1 x.1.2.2.1 x.1.2.2.2).2]):=by
 refine psS hX mixed func51 rfl fun ⟨⟨⟨r,ns,ds⟩,pI,w,fs⟩,ht,hl9,hw64,hf8⟩ w0 G=>⟨by show 4<=69;decide,rfl,?_⟩
 show AW ⟨prog,X,69,w0,.pure G⟩ _ _ _;have hc:=okc hX 69 w0 G;simp only at hl9 hw64 hf8 ht ⊢;have hck':=hck _ ht pI 512;have hl1:ns.length<=1000000:=ht.2.1;have hl2:ds.length<=1000000:=ht.2.2;rcases dE (ckd (r,ns,ds) pI 512≠0) with hk|hk
 ·have e:zdD (r,ns,ds) pI w fs=(zT,ckd (r,ns,ds) pI 512):=by unfold zdD;rw [if_pos hk]
  rw [e];obtain ⟨c,hc0⟩:∃ c,c=ckd (r,ns,ds) pI 512:=⟨_,rfl⟩
  rw [<- hc0] at hck' hk ⊢;simp only [TbV,TbO,zT] at hck' ⊢;have zS:=jj hck'<|hk;refine zl ?_;repeat (intro K hK)
  clear zS;refine ⟨by simp,?_⟩;simp [lvI,f51,nrw,prw];try exact dt
 ·obtain ⟨hpv,hp0,hp1⟩:=zoE ht hk;obtain ⟨p,rfl⟩:=Int.eq_ofNat_of_zero_le hp0;have hp:p<512:=by omega
  have hz:ckd (r,ns,ds) p 512=0:=by omega
  rw [hz] at hck';have hdc':=hdc w hw64;have hla':=hla _ _ (hpv.pto ht hp);have hlw:=zj8 ht hpv hp;have hen':=hen _ hlw;have hlv:=(hpv.walk hp).2.2;obtain ⟨f0,l0,w0',hwk⟩:∃ f l w,wlk (Mof ns) r p=(f,l,w):=⟨_,_,_,rfl⟩
  obtain ⟨hl02,_,_,_,hwt,hwok⟩:=zap hpv.vm hp hwk;have hk0:=zpH hwok;simp only at hlv;rw [hwk] at hlv;simp only at hlv;have hls:lsT (r,ns,ds) p=((lsT (r,ns,ds) p).1,l0,w0'):=by rw [<- hlv]
  have hfh':=hfh (r,ns,ds) fs l0 ht hpv.asc hf8;have hcl':=hcl _ ht
  have eS:zdD (r,ns,ds) p w fs=if (zj w).2≠0∨(zj w).1.1=0∨(zj w).1.1=4∨(zj w).1.2.2.2.2.2=true then (zT,3)
    else if w0'≠0 then (zT,7)
    else if fs.length=l0∧usB ns ds fs=true then (zb7 (r,dpN r ds p ns fs,ds) p w,0)
    else (zT,1):=by unfold zdD;rw [if_neg hk,Int.toNat_natCast,hlv]
  rw [eS];rw [hls] at hla' hen' hlw;simp only at hen' hlw;obtain ⟨a0,ha0⟩:∃ a,a=(lsT (r,ns,ds) p).1:=⟨_,rfl⟩
  rw [<- ha0] at hla';obtain ⟨⟨⟨k,f,d,a,x,h⟩,e⟩,hE⟩:∃ r,r=zj w:=⟨_,rfl⟩
  obtain ⟨⟨⟨k2,f2,d2,a2,x2,h2⟩,e2⟩,hE2⟩:∃ r,r=zj w0':=⟨_,rfl⟩
  rw [<- hE] at hdc' ⊢;rw [<- hE2] at hen' hk0;clear hls eS hE hE2 hck hla hdc hen;simp only [TbV,TbO,TbC,zT,EnV,stV,zfa,U] at hck' hla' hdc' hen' hfh' hcl' hk0 ⊢;rcases dE (e≠0∨k=0∨k=4∨h=true) with hb|hb
  ·rw [if_pos hb];rcases dE (e=0) with he|he
   ·rcases dE (k=0) with hk1|hk1
    ·have zS:=jj hck'<|jj hdc'<|jj he<|hk1;refine zl ?_;repeat (intro K hK)
     clear zS;all_goals refine ⟨by simp,?_⟩
     all_goals simp [lvI,f51,nrw,prw]
     all_goals try exact dt
    ·rcases dE (k=4) with hk2|hk2
     ·have zS:=jj hck'<|jj hdc'<|jj he<|jj hk1<|hk2;refine zl ?_;repeat (intro K hK)
      clear zS;all_goals refine ⟨by simp,?_⟩
      all_goals simp [lvI,f51,nrw,prw]
      all_goals try exact dt
     ·obtain rfl:h=true:=by
       rcases hb with hb|hb|hb|hb
       ·exact absurd he hb
       ·exact absurd hb hk1
       ·exact absurd hb hk2
       ·exact hb
      have zS:=jj hck'<|jj hdc'<|jj he<|jj hk1<|hk2;refine zl ?_;repeat (intro K hK)
      clear zS;all_goals refine ⟨by simp,?_⟩
      all_goals simp [lvI,f51,nrw,prw]
      all_goals try exact dt
   ·have zS:=jj hck'<|jj hdc'<|he;refine zl ?_;repeat (intro K hK)
    clear zS;all_goals refine ⟨by simp,?_⟩
    all_goals simp [lvI,f51,nrw,prw]
    all_goals try exact dt
  ·rw [if_neg hb];obtain ⟨rfl,hk1,hk2,rfl⟩:e=0∧k≠0∧k≠4∧h=false:=by
    refine ⟨by omega,by omega,by omega,?_⟩;cases h
    ·rfl
    ·exact absurd (Or.inr (Or.inr (Or.inr rfl))) hb
   rcases dE (w0'=0) with hw0|hw0
   ·have hk3:=hk0.2 hw0;rw [if_neg (by simp [hw0])];rcases dE (fs.length=l0∧usB ns ds fs=true) with hf|hf
    ·rw [if_pos hf];rw [decide_eq_true hf.1,hf.2] at hfh';have hdk:=zsx hpv ht hp hf.2 hl9 hwk hf8 (by omega);obtain ⟨j1,j2,⟨f',w',j3,j4⟩,j5,j6⟩:=zsy hpv ht hp hf.2 hl9 hwk fs.length (Nat.le_refl _) (by omega);rw [List.take_length] at j1 j2 j3 j5;have hde':=fun M n=>@zvD 816 800 801 (by decide) (by decide) (by decide) r ns ds p fs hdk 0 0 M n;rw [<- hde] at hde';have hpu':=fun M n=>@zvx 816 800 801 (by decide) (by decide) (by decide) r (dpN r ds p ns fs) ds p w (j1.pto j2 hp) hw64 fs.length 0 M n;rw [<- hpu] at hpu';simp only [Nat.zero_add,Nat.add_zero,U] at hde' hpu';have hPl:(zb7 (r,dpN r ds p ns fs,ds) p w).2.1.length=(dpN r ds p ns fs).length:=sNl;have hP0:zb7 (r,dpN r ds p ns fs,ds) p w=(r,(zb7 (r,dpN r ds p ns fs,ds) p w).2.1,ds):=rfl;rw [hP0];simp only;obtain ⟨R,hR⟩:∃ R,R=(zb7 (r,dpN r ds p ns fs,ds) p w).2.1:=⟨_,rfl⟩
     rw [<- hR] at hPl hpu' ⊢;obtain ⟨D,hD⟩:∃ D,D=dpN r ds p ns fs:=⟨_,rfl⟩
     rw [<- hD] at hde' hpu' hPl;clear hR hD hP0;have zS:=jj hck'<|jj hdc'<|jj hk1<|jj hk2<|jj hla'<|jj hen'<|jj hk3<|jj hfh'<|jj hcl'<|jj hde'<|hpu';refine zhd ?_;repeat (intro K hK)
     clear zS;have tkR:List.take D.length (nrw R)=nrw R:=tkL (by simp;omega);have tkd:List.take ds.length (prw ds)=prw ds:=tkL (by simp);refine ⟨by simp,?_⟩;simp [lvI,f51,hPl,tkR,tkd];try exact dt
    ·rw [if_neg hf];have hff:(decide (fs.length=l0)&&usB ns ds fs)=false:=by
      cases hu:usB ns ds fs
      ·simp
      ·rw [hu] at hf;simp at hf;simp [hf]
     rw [hff] at hfh';have zS:=jj hck'<|jj hdc'<|jj hk1<|jj hk2<|jj hla'<|jj hen'<|jj hk3<|hfh';refine zl ?_;repeat (intro K hK)
     clear zS;all_goals refine ⟨by simp,?_⟩
     all_goals simp [lvI,f51,nrw,prw]
     all_goals try exact dt
   ·have hk3:¬ k2=0:=fun h=>hw0 (hk0.1 h);rw [if_pos hw0];have zS:=jj hck'<|jj hdc'<|jj hk1<|jj hk2<|jj hla'<|jj hen'<|hk3;refine zl ?_;repeat (intro K hK)
    clear zS;all_goals refine ⟨by simp,?_⟩
    all_goals simp [lvI,f51,nrw,prw]
    all_goals try exact dt
theorem zq5 {t:Tb} (ht:zf t) {n lim:Int} (h:¬ ckd t n lim≠0):Vt t:=by
 rcases zey t n lim with h1|h1
 ·exact absurd h1 h
 ·exact (zcH ht).1 h1.2.1
theorem zfs (w:Nat):0<=(zj w).1.2.1∧(zj w).1.2.1<=4294967295:=by
 unfold zj;split
 ·exact (znj w).2
 ·decide
theorem zp5 {k f:Int} {d a x h:Bool} (hk:0<=k∧k<=4) (hf:0<=f∧f<=4294967295) (hb:¬ zky (k,f,d,a,x,h)) (hm:zhX (k,f,d,a,x,h)=true):∃ n:Nat,zdq (k,f,d,a,x,h)=((n:Int),0)∧n<2^64∧zj n=((k,f,d,a,x,h),0):=by
 have he:zdq (k,f,d,a,x,h)=(zmR (k,f,d,a,x,h),0):=zhb hk hb hm;obtain ⟨kn,rfl⟩:=Int.eq_ofNat_of_zero_le hk.1;obtain ⟨fn,rfl⟩:=Int.eq_ofNat_of_zero_le hf.1;obtain ⟨n,hn⟩:∃ n:Nat,n=kn+(if d then 8 else 0)+(if a then 16 else 0)+(if x then 32 else 0)+(if h then 64 else 0)+fn*256:=⟨_,rfl⟩
 have hw:zmR ((kn:Int),(fn:Int),d,a,x,h)=(n:Int):=by unfold zmR fb;rw [hn];cases d<;>cases a<;>cases x<;>cases h<;>simp<;>omega
 have hp:prs n=((kn:Int),(fn:Int),d,a,x,h):=by
  unfold prs;have e1:n%8=kn:=by rw [hn];cases d<;>cases a<;>cases x<;>cases h<;>simp<;>omega
  have e2:n/256%4294967296=fn:=by rw [hn];cases d<;>cases a<;>cases x<;>cases h<;>simp<;>omega
  have t:∀ j,n.testBit j=decide (n/2^j%2=1):=fun j=>Nat.testBit_eq_decide_div_mod_eq;have b3:n.testBit 3=d:=by rw [t,hn];cases d<;>cases a<;>cases x<;>cases h<;>simp<;>omega
  have b4:n.testBit 4=a:=by rw [t,hn];cases d<;>cases a<;>cases x<;>cases h<;>simp<;>omega
  have b5:n.testBit 5=x:=by rw [t,hn];cases d<;>cases a<;>cases x<;>cases h<;>simp<;>omega
  have b6:n.testBit 6=h:=by rw [t,hn];cases d<;>cases a<;>cases x<;>cases h<;>simp<;>omega
  rw [e1,e2,b3,b4,b5,b6]
 refine ⟨n,by rw [he,hw],?_,by rw [zjl (by rw [hp,he,hw]),hp]⟩;rw [hn];cases d<;>cases a<;>cases x<;>cases h<;>simp<;>omega
theorem Pv.put {r:Int} {ns:NdL} {ds:List Dp} (h:Pv (r,ns,ds)) (ht:zf (r,ns,ds)) {p:Nat} (hp:p<512) {f:Int} {l w0 w:Nat} (hw:wlk (Mof ns) r p=(f,l,w0)) (hw64:w<2^64) (htb:zbc w=none) (hok:zcO l w=true) :
  Pv (r,(zb7 (r,ns,ds) p w).2.1,ds)∧zf (r,(zb7 (r,ns,ds) p w).2.1,ds)∧Mof (zb7 (r,ns,ds) p w).2.1=zcs (Mof ns) f (dgt p l) w∧(∀ d q,(d,q)∈Pos->frP WA (Mof (zb7 (r,ns,ds) p w).2.1) r d q=frP WA (Mof ns) r d q)∧(zb7 (r,ns,ds) p w).2.1.length=ns.length:=by
 obtain ⟨hl2,hx,hfp,hwm,htn,_⟩:=zap h.vm hp hw;simp only at hfp hwm hx;have hwk:=h.walk hp;simp only at hwk;have hfn:=hwk.2.1;have hlv:=hwk.2.2;rw [hw] at hfn hlv;simp only at hfn hlv;have hnl:(lsT (r,ns,ds) p).1<ns.length:=zay hfn;have hst:(zb7 (r,ns,ds) p w).2.1=zo ns (lsT (r,ns,ds) p).1 (dgt p l) w:=by unfold zb7;simp only [hlv]
 have hM:Mof (zb7 (r,ns,ds) p w).2.1=zcs (Mof ns) f (dgt p l) w:=by rw [hst];exact zgu (ziq h.asc hfn)
 have hpt:=h.vm.put hx hfp (i:=dgt p l) (w:=w) (zbA p l) (by show zbc w=zbc _;rw [<- hwm,htb,htn]) (by show zcO (2 - (2 - l)) w=true;rw [show 2 - (2 - l)=l by omega];exact hok);simp only at hpt;rw [<- hM] at hpt;refine ⟨⟨by show zby (zb7 (r,ns,ds) p w).2.1;rw [hst];exact zbS h.asc hnl,hpt.1⟩,⟨?_,?_,ht.2.2⟩,hM,hpt.2,by rw [hst,sNl]⟩
 ·show ∀ x∈(zb7 (r,ns,ds) p w).2.1,zis x;rw [hst];exact zfC ht.1 hw64 hnl
 ·show (zb7 (r,ns,ds) p w).2.1.length<=_;rw [hst,sNl];exact ht.2.1
theorem zrk {M M':Mm} {root:Int} (hV:VM WA M root) {p:Nat} (hp:p<512) {f:Int} {l w0 w:Nat} (hw:wlk M root p=(f,l,w0)) (htb:zbc w=none) (hM:M'=zcs M f (dgt p l) w) (hfr:∀ d q,(d,q)∈Pos->frP WA M' root d q=frP WA M root d q)
  {p':Nat} (hp':p'<512) {f':Int} {l' w':Nat} (hw':wlk M root p'=(f',l',w')):wlk M' root p'=(f',l',if f'=f∧dgt p' l'=dgt p l then w else w'):=by
 obtain ⟨a1,a2,a3,a4,a5,a6⟩:=zap hV hp hw;obtain ⟨b1,b2,b3,b4,b5,b6⟩:=zap hV hp' hw';obtain ⟨ws,c1,c2,_⟩:=hV.nd _ _ a2 f a3;have e:wM M' f' (dgt p' l')=if f'=f∧dgt p' l'=dgt p l then w else w':=by rw [hM,zcP c1 (by have:=zbA p l;omega),<- b4]
 have:=zdK (M:=M') hp' (l:=l') b1 (by rw [hfr _ _ b2];exact b3) (.inl (by
  rw [e];split
  ·exact htb
  ·exact b5))
 rw [this,e]
theorem ze2 {M M':Mm} {root:Int} (hV:VM WA M root) {p:Nat} (hp:p<512) {f:Int} {l w0 w:Nat} (hw:wlk M root p=(f,l,w0)) (htb:zbc w=none) (hM:M'=zcs M f (dgt p l) w) (hfr:∀ d q,(d,q)∈Pos->frP WA M' root d q=frP WA M root d q):wlk M' root p=(f,l,w):=by rw [zrk hV hp hw htb hM hfr hp hw,if_pos ⟨rfl,rfl⟩]
theorem zpD {ds:List Dp} (ha:zfw ds) {g:Int} (h:g∈ds.map (·.1)):zdG ds g<ds.length∧(gp ds (zdG ds g)).1=g:=by
 obtain ⟨d,hd,e⟩:=List.mem_map.1 h;obtain ⟨i,hi,rfl⟩:=List.getElem_of_mem hd;have e2:zdG ds g=i:=by
  refine znP (by omega) (fun k hk=>?_) fun _=>?_
  ·have:=zod ha hk hi;rw [zax hi] at this;omega
  ·rw [zax hi];omega
 rw [e2];exact ⟨hi,by rw [zax hi];exact e⟩
set_option maxHeartbeats 2000000 in
set_option maxRecDepth 4000 in
theorem zvw {a b c:Nat} (hab:a≠b) (hac:a≠c) (hbc:b≠c) {r:Int} {ns:NdL} {ds:List Dp} {g:Int} (ht:zf (r,ns,ds)) (ha:zfw ds) (hl:zdG ds g<ds.length) {v v2:Nat} (M:Nat->AO) (nid:Nat)
  (h0:M a=.box [I r,.sl b (v+1) 9 0 ns.length,.sl c (v2+1) 2 0 ds.length]) (h1:M b=.vec (v+1) 9 false (nrw ns)) (h2:M c=.vec (v2+1) 2 false (prw ds)) :
  caG wdS [.bp a 0,I g] M nid=some (I (gp ds (zdG ds g)).2,[(a,.box [I r,.sl b (v+1) 9 0 ns.length,.sl nid 1 2 0 (ds.length - 1)]),(b,.vec (v+1) 9 false (nrw ns)),(c,.dead),(nid,.vec 1 2 false (prw (zpd ds g)))]):=by
 have hF:=ztO (t:=(r,ns,ds)) (g:=g) ht ha hl;simp only [pMs,oM,zh3 hl] at hF;unfold caG;have hba:b≠a:=fun e=>hab e.symm;have hca:c≠a:=fun e=>hac e.symm;have hcb:c≠b:=fun e=>hbc e.symm;have hg:gat M 64 (nmsL [.bp a 0,I g]) []=[a,b,c]:=by simp [gat,nmsL,AV.nms,AO.nms,h0,h1,h2,hab,hac,hbc,hba,hca,hcb]
 simp only [hg];rw [if_pos ?cg]
 case cg=>simp [zbp,nmsL,AV.nms,AO.nms,Led,curBL,AV.curB,AO.curB,zaj,nDd,h0,h1,h2,hab,hac,hbc,hba,hca,hcb]
 have e1:1+v=v+1:=by omega
 simp [renL,AV.ren,AO.ren,zbL,zdP,nmsL,h0,h1,h2,hF,zeZ,zcc,AV.nms,AO.nms,zdC,nmN,shN,zaj,rng,Led,hab,hac,hbc,hba,hca,hcb,e1]
theorem zm7:zbc 0=none:=(wdZ fun _=>true).tab
theorem ok0 (l:Nat):zcO l 0=true:=(wdZ fun _=>true).ok l
set_option maxRecDepth 20000
theorem zdh {q:IntKind}:∀ {n:Nat} {xs:List Value},zaQ (List.replicate n (.int q 0)) xs=true->∃ ls:List Int,xs=ls.map (Value.int q)∧ls.length=n
 | 0,[],_=>⟨[],rfl,rfl⟩
 | 0,x::xs,h=>by simp [zaQ] at h
 | n+1,[],h=>by simp [List.replicate_succ,zaQ] at h
 | n+1,x::xs,h=>by rw [List.replicate_succ] at h;cases x<;>simp only [zaQ,Bool.and_eq_true,decide_eq_true_eq,Bool.false_eq_true] at h;obtain ⟨rfl,h⟩:=h;obtain ⟨ls,rfl,h2⟩:=zdh h;exact ⟨_::ls,rfl,by simp [h2]⟩
theorem zkp {q:IntKind}:∀ {ls:List Int} {ys:List Value} {b:Bool},eqV (ls.map (Value.int q)) ys=some b->∃ bs:List Int,ys=bs.map (Value.int q)∧bs.length=ls.length∧b=decide (ls=bs)
 | [],[],b,h=>by simp [eqV] at h;exact ⟨[],rfl,rfl,by simp [h]⟩
 | [],y::ys,b,h=>by simp [eqV] at h
 | a::ls,[],b,h=>by simp [eqV] at h
 | a::ls,y::ys,b,h=>by
  cases y<;>simp only [List.map_cons,eqV,reduceCtorEq] at h;split at h
  case isFalse=>simp at h
  rename_i hk;subst hk;cases hr:eqV (ls.map (Value.int q)) ys with
  | none=>rw [hr] at h;simp at h
  | some r =>rw [hr] at h;simp only [Option.map_some,oJ] at h;obtain ⟨bs,rfl,h2,rfl⟩:=zkp hr;refine ⟨_::bs,rfl,by simp [h2],?_⟩;rw [<- h];simp
theorem eqI (w:World) {e:TypeId} {q:IntKind} (he:prog.plainKey e=true) (hu:prog.underlying e=some (.int q)) (d:Nat):∀ {ls bs:List Int} {k:Nat} {px py:List Value},px.length=k->py.length=k->ls.length=bs.length ->
  (Op.eqItems (d+1) e 1 (px++ls.map (Value.int q)).toArray (py++bs.map (Value.int q)).toArray (List.range' k ls.length)).run prog w=.ok (decide (ls=bs)) w
 | [],[],k,px,py,hp,hq,_=>rfl
 | [],_::_,_,_,_,_,_,h=>by simp at h
 | _::_,[],_,_,_,_,_,h=>by simp at h
 | a::ls,b::bs,k,px,py,hp,hq,hl=>by
  have hx:(px++(a::ls).map (Value.int q)).toArray[k*1]?=some (.int q a):=by simp [<- hp]
  have hy:(py++(b::bs).map (Value.int q)).toArray[k*1]?=some (.int q b):=by simp [<- hq]
  have ex:px++(a::ls).map (Value.int q)=(px++[.int q a])++ls.map (Value.int q):=by simp
  have ey:py++(b::bs).map (Value.int q)=(py++[.int q b])++bs.map (Value.int q):=by simp
  rw [show (a::ls).length=ls.length+1 from rfl,List.range'_succ];simp only [Op.eqItems,Sem.run_bind];rw [run_part_plain w he hx];simp only [Result.andThen_ok];rw [run_part_plain w he hy];simp only [Result.andThen_ok];rw [run_equalIn_int w _ e q q _ _ hu];simp only [Result.andThen_ok];have ih:=eqI w he hu d (ls:=ls) (bs:=bs) (k:=k+1) (px:=px++[.int q a]) (py:=py++[.int q b]) (by simp [hp]) (by simp [hq]) (by simpa using hl);rw [<- ex,<- ey] at ih;by_cases e1:a=b
  ·subst e1;simp only [beq_self_eq_true,Bool.not_true,Bool.false_eq_true,if_false];rw [ih];simp
  ·have hb:(a == b)=false:=by simpa using e1
   simp only [hb,Bool.not_false,if_true,Sem.run_pure];simp [e1]
theorem uW8:prog.underlying 148=some (.array 8 76):=by kernel_rfl
theorem zwj:prog.underlying 76=some (.int .u64):=by kernel_rfl
theorem zuh:prog.plainKey 76=true:=by kernel_rfl
theorem zvr:prog.cellsOf 76=1:=by kernel_rfl
theorem zCq:prog.cellsOf 148=8:=by kernel_rfl
theorem eqW (w:World) {ls bs:List Int} (ha:ls.length=8) (hb:bs.length=8) (d:Nat):(Op.equalIn (d+2) 148 (.agg (ls.map (Value.int .u64)).toArray) (.agg (bs.map (Value.int .u64)).toArray)).run prog w=.ok (decide (ls=bs)) w:=by obtain ⟨i,hi⟩:=info_of_underlying zwj;rw [run_equalIn_array w (d+1) _ _ uW8 hi,zvr,List.range_eq_range'];have:=eqI w zuh zwj d (ls:=ls) (bs:=bs) (k:=0) (px:=[]) (py:=[]) rfl rfl (by omega);rw [ha] at this;simpa using this
theorem ckI (w:World) (em:Bool) (d:Nat) {e:TypeId} {q:IntKind} (he:prog.plainKey e=true) (hu:prog.underlying e=some (.int q)) (hs:∀ w,(sizeOf e).run prog w=.ok 1 w):∀ {ls:List Int} {k:Nat} {px:List Value},px.length=k ->
  (forIn (List.range' k ls.length) PUnit.unit fun i (_:PUnit)=>(do
    let a <- sizeOf e
    let b <- part e (px++ls.map (Value.int q)).toArray (i*a)
    Instr.checkKey em (d+1) e b
    pure (ForInStep.yield PUnit.unit):Sem (ForInStep PUnit))).run prog w=.ok PUnit.unit w
 | [],k,px,_=>rfl
 | a::ls,k,px,hp=>by
  have hx:(px++(a::ls).map (Value.int q)).toArray[k*1]?=some (.int q a):=by simp [<- hp]
  have ex:px++(a::ls).map (Value.int q)=(px++[.int q a])++ls.map (Value.int q):=by simp
  have ih:=ckI w em d he hu hs (ls:=ls) (k:=k+1) (px:=px++[.int q a]) (by simp [hp]);rw [<- ex] at ih;rw [show (a::ls).length=ls.length+1 from rfl,List.range'_succ];simp only [List.forIn_cons,Sem.run_bind];rw [hs];simp only [Result.andThen_ok];rw [run_part_plain w he hx];simp only [Result.andThen_ok,ckP (v:=.int q a) he hu,Sem.run_pure];exact ih
theorem szU (w:World):(sizeOf 76).run prog w=.ok 1 w:=by obtain ⟨i,hi⟩:=info_of_underlying zwj;rw [run_sizeOf w hi,zvr]
theorem ckW (w:World) (em:Bool) (d:Nat) {ls:List Int} (ha:ls.length=8):(Instr.checkKey em (d+2) 148 (.agg (ls.map (Value.int .u64)).toArray)).run prog w=.ok () w:=by rw [show d+2=d+1+1 from rfl,Instr.checkKey];simp only [Sem.run_bind,run_underlying uW8,Result.andThen_ok];simp only [Std.Legacy.Range.forIn_eq_forIn_range',Std.Legacy.Range.size,Nat.sub_zero,Nat.add_one_sub_one,Nat.div_one];have:=ckI w em d zuh zwj szU (ls:=ls) (k:=0) (px:=[]) rfl;rw [ha] at this;simp only [List.nil_append] at this;rw [this];rfl
theorem zuS:prog.eqGuardType prog.depth 148=false:=by kernel_rfl
theorem zCo:zqt prog 148:=by
 intro d hd;rw [zA3,oJ] at hd;subst hd;refine ⟨fun w xs b hk=>?_,fun w xs ys b hk he=>⟨?_,zuS⟩⟩
 ·obtain ⟨ls,rfl,ha⟩:=zdh hk;exact ckW w b 9998 ha
 ·obtain ⟨ls,rfl,ha⟩:=zdh hk;obtain ⟨bs,rfl,hb,rfl⟩:=zkp he;exact eqW w ha (by omega) 9998
theorem uN:prog.underlying 150=some (.struct (prog.fieldsOf 150)):=by kernel_rfl
theorem stN:prog.stoodInHeld 150=false:=by kernel_rfl
theorem zuX:prog.eqGuardType prog.depth 150=false:=by kernel_rfl
theorem zrJ (w:World) (x:Value) {ls:List Int} (ha:ls.length=8):(part 148 (x::ls.map (Value.int .u64)).toArray 1).run prog w=.ok (.agg (ls.map (Value.int .u64)).toArray) w:=by
 obtain ⟨i,hi⟩:=info_of_underlying uW8;have:((x::ls.map (Value.int .u64)).toArray.extract 1 9)=(ls.map (Value.int .u64)).toArray:=by apply Array.ext';rw [Array.toList_extract];simp [List.extract,ha,tkL]
 have tk:List.take 8 (ls.map (Value.int .u64))=ls.map (Value.int .u64):=tkL (by simp [ha]);simp [part,isAgg,run_underlying uW8,run_sizeOf w hi,zCq,this,tk]
theorem zCn : ∃ n1 n2 f1 f2, (prog.fieldsOf 150).toList = [f1, f2] ∧ f1.name = n1 ∧ f2.name = n2 ∧ n1 ≠ "_" ∧ n2 ≠ "_" ∧ f1.type = 3 ∧ f2.type = 148 ∧ f1.offset = 0 ∧ f2.offset = 1 :=
 ⟨ "Frame", "Entries", (prog.fieldsOf 150)[0]!, (prog.fieldsOf 150)[1]!, by kernel_rfl, by kernel_rfl, by kernel_rfl, by decide, by decide, by kernel_rfl, by kernel_rfl, by kernel_rfl, by kernel_rfl⟩
theorem pk3:prog.plainKey 3=true:=by kernel_rfl
theorem eqN:zqt prog 150:=by
 intro d hd;rw [tyN,oJ] at hd;subst hd;obtain ⟨n1,n2,f1,f2,hf,e1,e2,e3,e4,e5,e6,e7,e8⟩:=zCn;have form:∀ {xs:List Value},zaQ (Value.int .i64 0::List.replicate 8 (.int .u64 0)) xs=true->∃ (x:Int) (ls:List Int),xs=.int .i64 x::ls.map (Value.int .u64)∧ls.length=8:=fun {xs} h=>by
  cases xs with
  | nil=>simp [zaQ] at h
  | cons x xs =>cases x<;>simp only [zaQ,Bool.and_eq_true,decide_eq_true_eq,Bool.false_eq_true] at h;obtain ⟨rfl,h⟩:=h;obtain ⟨ls,rfl,h2⟩:=zdh h;exact ⟨_,ls,rfl,h2⟩
 refine ⟨fun w xs b hk=>?_,fun w xs ys b hk he=>⟨?_,zuX⟩⟩
 ·obtain ⟨x,ls,rfl,ha⟩:=form hk;rw [show (10000:Nat)=9999+1 from rfl,Instr.checkKey];simp only [Sem.run_bind,run_underlying uN,Result.andThen_ok];rw [<- Array.forIn_toList,hf];have hx:(Value.int .i64 x::ls.map (Value.int .u64)).toArray[0]?=some (.int .i64 x):=by simp
  simp only [List.forIn_cons,List.forIn_nil,Sem.run_bind,e1,e2,e5,e6,e7,e8];rw [if_pos e3];simp only [Sem.run_bind];rw [run_part_plain w pk3 hx];simp only [Result.andThen_ok,ckP (v:=.int .i64 x) (d:=9998) pk3 zzk,Sem.run_pure];rw [if_pos e4];simp only [Sem.run_bind];rw [zrJ w _ ha];simp only [Result.andThen_ok];rw [ckW w b 9997 ha];rfl
 ·obtain ⟨x,ls,rfl,ha⟩:=form hk;cases ys with
  | nil=>simp [eqV] at he
  | cons y ys =>
   cases y<;>simp only [eqV,reduceCtorEq] at he;split at he
   case isFalse=>simp at he
   rename_i q y hq;subst hq;cases hr:eqV (ls.map (Value.int .u64)) ys with
   | none=>rw [hr] at he;simp at he
   | some r =>
    rw [hr] at he;simp only [Option.map_some,oJ] at he;obtain ⟨bs,rfl,hb,rfl⟩:=zkp hr;unfold Op.equal;rw [show Op.maxDepth=9999+1 from rfl,run_equalIn_agg w _ _ _ _ uN stN,hf];simp only [Op.eqFields];rw [e1,if_pos e3,e5,e7];simp only [Sem.run_bind];rw [run_part_plain w pk3 (show (Value.int .i64 x::ls.map (Value.int .u64)).toArray[0]?=some (.int .i64 x) by simp)];simp only [Result.andThen_ok];rw [run_part_plain w pk3 (show (Value.int .i64 y::bs.map (Value.int .u64)).toArray[0]?=some (.int .i64 y) by simp)];simp only [Result.andThen_ok];rw [show (9999:Nat)=9998+1 from rfl,run_equalIn_int w _ 3 .i64 .i64 _ _ zzk];simp only [Result.andThen_ok];by_cases exy:x=y
    ·subst exy;simp only [beq_self_eq_true,Bool.not_true,Bool.false_eq_true,if_false];rw [e2,if_pos e4,e6,e8];simp only [Sem.run_bind];rw [zrJ w _ ha];simp only [Result.andThen_ok];rw [zrJ w _ (by omega)];simp only [Result.andThen_ok];rw [show 9998+1=9997+2 from rfl,eqW w ha (by omega) 9997];simp only [Result.andThen_ok];rw [<- he];by_cases eab:ls=bs
     ·subst eab;simp
     ·simp [eab]
    ·have hb2:(x == y)=false:=by simpa using exy
     simp only [hb2,Bool.not_false,if_true,Sem.run_pure];rw [<- he];simp [exy]
theorem zoo:∀ {a b:List Nat},a.length=b.length->eqL (wcs a) (wcs b)=some (decide (a=b))
 | [],[],_=>rfl
 | [],_::_,h=>by simp at h
 | _::_,[],h=>by simp at h
 | x::a,y::b,h=>by
  have ih:=zoo (a:=a) (b:=b) (by simpa using h);show eqL (.v (.int .u64 x)::wcs a) (.v (.int .u64 y)::wcs b)=_;simp only [eqL,ih,if_true,Option.map_some,oJ,cJ];by_cases e:x=y
  ·subst e;simp
  ·have:¬ (x:Int)=y:=by omega
   simp [e,this]
theorem ziI:∀ {n:Nat} {a:List Nat},a.length=n->zcU (List.replicate n (.int .u64 0)) (wcs a)=true
 | 0,[],_=>rfl
 | n+1,x::a,h=>by
  rw [List.replicate_succ];show (decide (IntKind.u64=IntKind.u64)&&zcU _ (wcs a))=true;rw [ziI (by simpa using h)];rfl
 | 0,_::_,h=>by simp at h
 | _+1,[],h=>by simp at h
theorem zj9 {a b:List Dp} (hl:a.length=b.length) (h:∀ j,j<a.length->gp a j=gp b j):a=b:=by refine List.ext_getElem hl fun i h1 h2=>?_;have:=h i h1;rw [zax h1,zax h2] at this;exact this
end Go.AM
namespace Go.AM
open Go Go.Proofs Go.Sort
def zt1 (l:List Int):List Int:=l.mergeSort fun x y=>decide (x<=y)
@[simp] theorem zt0 (l:List Int):(zt1 l).length=l.length:=List.length_mergeSort _
end Go.AM
namespace Go.AM
open Go Go.Proofs Tryz
abbrev Pe:=Int×Nat
def zwt (x:Pe):List AV:=[I x.1,U x.2]
def za9 (l:List Pe):List (List AV):=l.map zwt
@[simp] theorem zqZ (l:List Pe):(za9 l).length=l.length:=by simp [za9]
@[simp] theorem zCD:za prog 86=some ⟨.struct [(0,3,1),(1,76,1)],2,16,[.int .i64 0,.int .u64 0]⟩:=by kernel_rfl
@[simp] theorem zA5:za prog 84=some ⟨.slice 86,1,24,[.slice none 0 0]⟩:=by kernel_rfl
def nFr (ns:NdL):List Int:=ns.map (·.1)
def zoj (t:Tb):List Int:=zt1 (nFr t.2.1++zlF t.2.2)
noncomputable def zsm (t:Tb):List Int:=if chk t=0 then zoj t else []
theorem zpK (a:List Int) (x:Int):irw a++[[I x]]=irw (a++[x]):=by simp [irw]
def lsF (t:Tb) (p:Nat):List Pe:=if (lsT t p).2.2≠0∧((lsT t p).2.1=0∨p%8=0) then [((p:Int),(lsT t p).2.2)] else []
def lsA (t:Tb):Nat->List Pe
 | 0=>[]
 | n+1=>lsA t n++lsF t n
theorem znN {t:Tb}:∀ {n:Nat},(lsA t n).length<=n
 | 0=>by simp [lsA]
 | n+1=>by have:=@znN t n;simp only [lsA,lsF,List.length_append];split<;>simp<;>omega
noncomputable def zq (t:Tb):List Pe:=if chk t=0 then lsA t 512 else []
theorem zpY (a:List Pe) (x:Int) (w:Nat):za9 a++[[I x,.v (.int .u64 w)]]=za9 (a++[(x,w)]):=by simp [za9,zwt,U]
theorem zjf (a:List Pe):List.take a.length (za9 a)=za9 a:=tkL (by simp)
section
variable {r:Int} {ns:NdL} {ds:List Dp}
theorem zpE (h:Pv (r,ns,ds)) {p l w:Nat} (hp:p<512) (hl:(lsT (r,ns,ds) p).2=(l,w)) (ha:p%8^l=0) {q:Nat} (hq:p<=q) (hq2:q<p+8^l):(lsT (r,ns,ds) q).2=(l,w):=by
 obtain ⟨f0,l0,w0,hw⟩:∃ f l w,wlk (Mof ns) r p=(f,l,w):=⟨_,_,_,rfl⟩
 have h1:=(h.walk hp).2.2;simp only at h1;rw [hw] at h1;rw [h1] at hl;simp only [pJ] at hl;obtain ⟨rfl,rfl⟩:=hl;obtain ⟨a1,a2,a3,a4,a5,a6⟩:=zap h.vm hp hw;have hq5:q<512:=by rcases (by omega:l0=0∨l0=1∨l0=2) with rfl|rfl|rfl<;>simp at ha hq2<;>omega
 have e1:q/8^(l0+1)=p/8^(l0+1):=by rcases (by omega:l0=0∨l0=1∨l0=2) with rfl|rfl|rfl<;>simp at ha hq2 ⊢<;>omega
 have e2:dgt q l0=dgt p l0:=by unfold dgt;rcases (by omega:l0=0∨l0=1∨l0=2) with rfl|rfl|rfl<;>simp at ha hq2 ⊢<;>omega
 have h2:=zdK (M:=Mof ns) (root:=r) (p:=q) hq5 a1 (by rw [e1];exact a3) (.inl (by rw [e2];simp only at a4;rw [<- a4];exact a5));have h3:=(h.walk hq5).2.2;simp only at h3;rw [h3,h2,e2];simp only at a4;rw [<- a4]
theorem zlg (h:Pv (r,ns,ds)) {p l w:Nat} (hp:p<512) (hl:(lsT (r,ns,ds) p).2=(l,w)) (ha:p%8^l=0) (hq:p+8^l<512):(p+8^l)%8^(lsT (r,ns,ds) (p+8^l)).2.1=0:=by
 obtain ⟨f0,l0,w0,hw⟩:∃ f l w,wlk (Mof ns) r p=(f,l,w):=⟨_,_,_,rfl⟩
 obtain ⟨f1,l1,w1,hw1⟩:∃ f k w,wlk (Mof ns) r (p+8^l)=(f,k,w):=⟨_,_,_,rfl⟩
 have h1:=(h.walk hp).2.2;have h2:=(h.walk hq).2.2;simp only at h1 h2;rw [hw] at h1;rw [hw1] at h2;rw [h1] at hl;simp only [pJ] at hl;obtain ⟨rfl,rfl⟩:=hl;rw [h2];simp only;obtain ⟨a1,a2,a3,a4,a5,a6⟩:=zap h.vm hp hw;obtain ⟨b1,b2,b3,b4,b5,b6⟩:=zap h.vm hq hw1;by_cases hc:(p+8^l0)%8^l1=0
 ·exact hc
 ·exfalso;have hc2:p%8^l1≠0∨8^l0%8^l1≠0:=by
   by_cases h3:p%8^l1=0
   ·right;intro h4;exact hc (by rw [Nat.add_mod,h3,h4];simp)
   ·exact .inl h3
  have hlt:l0<l1:=by rcases (by omega:l0=0∨l0=1∨l0=2) with rfl|rfl|rfl<;>rcases (by omega:l1=0∨l1=1∨l1=2) with rfl|rfl|rfl<;>simp at hc ha ⊢<;>omega
  have hsame:dgt (p+8^l0) l1=dgt p l1∧(p+8^l0)/8^(l1+1)=p/8^(l1+1):=by unfold dgt;rcases (by omega:l0=0∨l0=1∨l0=2) with rfl|rfl|rfl<;>rcases (by omega:l1=0∨l1=1∨l1=2) with rfl|rfl|rfl<;>simp at hc ha ⊢<;>omega
  have:=zdK (M:=Mof ns) (root:=r) hp b1 (by rw [<- hsame.2];exact b3) (.inl (by rw [<- hsame.1];simp only at b4;rw [<- b4];exact b5));rw [hw] at this;simp only [pJ] at this;omega
theorem zle (h:Pv (r,ns,ds)) {p l w:Nat} (hp:p<512) (hl:(lsT (r,ns,ds) p).2=(l,w)) (ha:p%8^l=0):lsA (r,ns,ds) (p+8^l)=lsA (r,ns,ds) p++(if w≠0 then [((p:Int),w)] else []):=by
 obtain ⟨f0,l0,w0,hw⟩:∃ f l w,wlk (Mof ns) r p=(f,l,w):=⟨_,_,_,rfl⟩
 have h1:=(h.walk hp).2.2;simp only at h1;rw [hw] at h1;have hlw:l0=l∧w0=w:=by rw [h1] at hl;simpa using hl
 obtain ⟨rfl,rfl⟩:=hlw;obtain ⟨a1,a2,a3,a4,a5,a6⟩:=zap h.vm hp hw;have hz2:l0=2->w0=0:=fun e=>by
  subst e;unfold zcO at a6;simp only [Bool.and_eq_true,decide_eq_true_eq] at a6;obtain ⟨_,a7⟩:=a6;unfold zaO at a7;refine (zpH (l:=2) (w:=w0) ?_).1 ?_
  ·unfold zcO;simp only [Bool.and_eq_true,decide_eq_true_eq];exact ⟨by assumption,by unfold zaO;exact a7⟩
  ·by_cases h0:(zj w0).1.1=0
   ·exact h0
   ·rw [if_neg h0] at a7;have h4:(zj w0).1.1≠4:=zlH.1 a5;rw [if_neg h4] at a7;simp at a7
 have hmid:∀ d,1<=d->d<=8^l0->lsA (r,ns,ds) (p+d)=lsA (r,ns,ds) p++(if w0≠0 then [((p:Int),w0)] else []):=by
  intro d hd;induction d with
  | zero=>omega
  | succ d ih =>
   intro hd2;rw [show p+(d+1)=p+d+1 by omega];simp only [lsA];by_cases h0:d=0
   ·subst h0;simp only [Nat.add_zero,lsF,hl];by_cases hw0:w0=0
    ·simp [hw0]
    ·have:l0=0∨p%8=0:=by
      rcases (by omega:l0=0∨l0=1∨l0=2) with e|e|e
      ·exact .inl e
      ·right;rw [e] at ha;simpa using ha
      ·exact absurd (hz2 e) hw0
     rw [if_pos ⟨hw0,this⟩,if_pos hw0]
   ·rw [ih (by omega) (by omega)];have hs:=zpE h hp hl ha (q:=p+d) (by omega) (by omega);have:lsF (r,ns,ds) (p+d)=[]:=by
     unfold lsF;rw [hs];rw [if_neg];rintro ⟨g1,g2⟩;rcases (by omega:l0=0∨l0=1∨l0=2) with e|e|e
     ·subst e;simp at hd2;omega
     ·subst e;simp at ha hd2 g2;omega
     ·exact g1 (hz2 e)
    rw [this,List.append_nil]
 have hpos:1<=8^l0:=Nat.pow_pos (by decide);exact hmid _ hpos (Nat.le_refl _)
end
end Go.AM
namespace Go.AM
open Go Go.Proofs Tryz
theorem zxt (t:Tb):lsA t 0=[]:=rfl
attribute [local irreducible] lsA
set_option maxHeartbeats 8000000 in
theorem s44 (X:AX) (hX:XOK prog X) (hw:X.W wT) (hch:∀ t:Tb,zf t->∀ M n,X.call 39 [TbV t] M n=some (I (chk t),[]))
  (hla:∀ (t:Tb) (p:Nat),ptO t p->∀ M n,X.call 110 [TbV t,I p] M n=some (stV (lsT t p),[])) :
  PSd prog 44 (spF (ι:={x:Tb // zf x}) (fun x=>[TbV x.1]) fun x=>rtO [.ow 2 (za9 (zq x.1))]):=by
 refine psS hX mixed func44 rfl fun ⟨⟨r,ns,ds⟩,ht⟩ w0 G=>⟨by show 1<=36;decide,rfl,?_⟩
 show AW ⟨prog,X,36,w0,.pure G⟩ _ _ _;have hc:=okc hX 36 w0 G;simp only at ht ⊢;have hl1:ns.length<=1000000:=ht.2.1;have hl2:ds.length<=1000000:=ht.2.2;have hch':=hch _ ht;rcases dE (chk (r,ns,ds)=0) with hc0|hc0
 ·have e:zq (r,ns,ds)=lsA (r,ns,ds) 512:=by unfold zq;rw [if_pos hc0]
  have hpv:=zjs ht hc0;have hla':=fun p hp=>hla _ p (hpv.pto ht (p:=p) hp);rw [e];rw [hc0] at hch';simp only [TbV] at hch' hla' ⊢;have h00:0%8^(lsT (r,ns,ds) 0).2.1=0:=Nat.zero_mod _;have zS:=hch';repeat' (first|(refine aSk fun K hK=>?_)|(refine zi ?_)|(refine eC (fun h=>?_) (fun h=>?_)<;>(try simp at h))|(refine hK _ ?_;clear hK)|(clear hK;refine hK _ ?_;clear hK))
  all_goals clear zS
  refine zad (zeN (t:=3) (sz:=2) (by simp)) ?_;refine aLK (s0:=?lps1) (m0:=?lpm1) (ι:={p:Nat // p<=512∧(p<512->p%8^(lsT (r,ns,ds) p).2.1=0)}) [1] (fun s=>[(4,I s.1),(3,.sl 112 1 2 0 (lsA (r,ns,ds) s.1).length)]) (fun s=>[(112,.vec 1 2 false (za9 (lsA (r,ns,ds) s.1)))]) (fun s=>512 - s.1) ⟨0,by omega,fun _=>h00⟩ ?lhs1 ?lhm1 ?_ ?_
  case lhs1=>first|(simp [kpS];done)|(simp [kpS];rfl)
  case lhm1=>first|rfl|(simp;done)|(simp;rfl)
  ·simp only [zxt];exact zaN (by simp) (by simp [zdT,AV.under,AV.underL,za9]<;>omega) (by simp [zeE,AO.under,AV.underL,AV.under,za9]<;>omega)
  ·rintro ⟨p,hp,hal⟩;simp only;rcases dE (p<512) with hil|hil
   ·have hilI:(p:Int)<512:=by omega
    have hal:=hal hil;have hla2:=hla' p hil;have hlt2:=(zg6 hpv hil).2;obtain ⟨⟨a,l,w⟩,hS⟩:∃ S,S=lsT (r,ns,ds) p:=⟨_,rfl⟩
    have hl2:(lsT (r,ns,ds) p).2=(l,w):=by rw [<- hS]
    rw [<- hS] at hal hla2 hlt2;simp only at hal hlt2;have hst:=zle hpv hil hl2 hal;have hnx:p+8^l<512->(p+8^l)%8^(lsT (r,ns,ds) (p+8^l)).2.1=0:=fun h=>zlg hpv hil hl2 hal h;have hAl:=@znN (r,ns,ds) p;have hp8:p+8^l<=512:=by rcases (by omega:l=0∨l=1∨l=2) with rfl|rfl|rfl<;>simp at hal ⊢<;>omega
    obtain ⟨A,hA⟩:∃ A,A=lsA (r,ns,ds) p:=⟨_,rfl⟩
    rw [<- hA] at hst hAl ⊢;clear hS;have htk:=zjf A;have hap:=zpY A p w;simp only [stV,zfa,U] at hla2;rcases dE (w=0) with hw0|hw0
    ·subst hw0;rw [if_neg (by simp),List.append_nil] at hst;rcases (by omega:l=0∨l=1∨l=2) with rfl|rfl|rfl
     ·simp only [show 8^0=1 from rfl] at hst hnx hp8;have zS:=jj hilI<|hla2;repeat' (first|(refine aSk fun K hK=>?_)|(refine zi ?_)|(refine eC (fun h=>?_) (fun h=>?_)<;>(try simp at h))|(refine hK _ ?_;clear hK)|(clear hK;refine hK _ ?_;clear hK))
      all_goals clear zS
      refine zif 1 (aRd ?_);repeat' (first|(refine aSk fun K hK=>?_)|(refine eMo ?_)|(refine eC (fun h=>?_) (fun h=>?_)<;>(try simp at h))|(refine hK _ ?_;clear hK)|clear hK)
      refine ⟨p+1,?_,⟨hp8,hnx⟩,by omega⟩;simp only [hst];exact dle
     ·simp only [show 8^1=8 from rfl] at hst hnx hp8;have zS:=jj hilI<|hla2;repeat' (first|(refine aSk fun K hK=>?_)|(refine zi ?_)|(refine eC (fun h=>?_) (fun h=>?_)<;>(try simp at h))|(refine hK _ ?_;clear hK)|(clear hK;refine hK _ ?_;clear hK))
      all_goals clear zS
      refine zif 2 (aRd ?_);repeat' (first|(refine aSk fun K hK=>?_)|(refine eMo ?_)|(refine eC (fun h=>?_) (fun h=>?_)<;>(try simp at h))|(refine hK _ ?_;clear hK)|clear hK)
      refine ⟨p+8,?_,⟨hp8,hnx⟩,by omega⟩;simp only [hst];exact dle
     ·simp only [show 8^2=64 from rfl] at hst hnx hp8;have zS:=jj hilI<|hla2;repeat' (first|(refine aSk fun K hK=>?_)|(refine zi ?_)|(refine eC (fun h=>?_) (fun h=>?_)<;>(try simp at h))|(refine hK _ ?_;clear hK)|(clear hK;refine hK _ ?_;clear hK))
      all_goals clear zS
      refine zif 3 (aRd ?_);repeat' (first|(refine aSk fun K hK=>?_)|(refine eMo ?_)|(refine eC (fun h=>?_) (fun h=>?_)<;>(try simp at h))|(refine hK _ ?_;clear hK)|clear hK)
      refine ⟨p+64,?_,⟨hp8,hnx⟩,by omega⟩;simp only [hst];exact dle
    ·rw [if_pos hw0] at hst;rw [<- hst] at hap;have hlen:A.length+1=(lsA (r,ns,ds) (p+8^l)).length:=by rw [hst];simp
     rcases (by omega:l=0∨l=1∨l=2) with rfl|rfl|rfl
     ·simp only [show 8^0=1 from rfl] at hst hnx hp8 hap hlen;have zS:=jj hilI<|jj hla2<|jj hw0<|jj htk<|jj hap<|hAl;repeat' (first|(refine aSk fun K hK=>?_)|(refine zi ?_)|(refine eC (fun h=>?_) (fun h=>?_)<;>(try simp at h))|(refine hK _ ?_;clear hK)|(clear hK;refine hK _ ?_;clear hK))
      all_goals clear zS
      refine zif 1 (aRd ?_);repeat' (first|(refine aSk fun K hK=>?_)|(refine eMo ?_)|(refine eC (fun h=>?_) (fun h=>?_)<;>(try simp at h))|(refine hK _ ?_;clear hK)|clear hK)
      refine ⟨p+1,?_,⟨hp8,hnx⟩,by omega⟩;simp only [hlen];refine zaI (s1:=?tus2) (m1:=?tum2) [] [4,3,1] [0,112] ?tua2 ?tub2 ?tuc2 ?tud2 ?tue2 ?tuf2 ?tug2
      case tua2=>first|(simp [kpS];done)|(simp [kpS];rfl)
      case tub2=>first|(simp;done)|(simp;rfl)
      case tuc2=>simp
      case tud2=>simp
      case tue2=>simp
      case tuf2=>simp
      case tug2 =>simp [swp,vr];exact dle
     ·simp only [show 8^1=8 from rfl] at hst hnx hp8 hap hlen;have zS:=jj hilI<|jj hla2<|jj hw0<|jj htk<|jj hap<|hAl;repeat' (first|(refine aSk fun K hK=>?_)|(refine zi ?_)|(refine eC (fun h=>?_) (fun h=>?_)<;>(try simp at h))|(refine hK _ ?_;clear hK)|(clear hK;refine hK _ ?_;clear hK))
      all_goals clear zS
      refine zif 2 (aRd ?_);repeat' (first|(refine aSk fun K hK=>?_)|(refine eMo ?_)|(refine eC (fun h=>?_) (fun h=>?_)<;>(try simp at h))|(refine hK _ ?_;clear hK)|clear hK)
      refine ⟨p+8,?_,⟨hp8,hnx⟩,by omega⟩;simp only [hlen];refine zaI (s1:=?tus3) (m1:=?tum3) [] [4,3,1] [0,112] ?tua3 ?tub3 ?tuc3 ?tud3 ?tue3 ?tuf3 ?tug3
      case tua3=>first|(simp [kpS];done)|(simp [kpS];rfl)
      case tub3=>first|(simp;done)|(simp;rfl)
      case tuc3=>simp
      case tud3=>simp
      case tue3=>simp
      case tuf3=>simp
      case tug3 =>simp [swp,vr];exact dle
     ·simp only [show 8^2=64 from rfl] at hst hnx hp8 hap hlen;have zS:=jj hilI<|jj hla2<|jj hw0<|jj htk<|jj hap<|hAl;repeat' (first|(refine aSk fun K hK=>?_)|(refine zi ?_)|(refine eC (fun h=>?_) (fun h=>?_)<;>(try simp at h))|(refine hK _ ?_;clear hK)|(clear hK;refine hK _ ?_;clear hK))
      all_goals clear zS
      refine zif 3 (aRd ?_);repeat' (first|(refine aSk fun K hK=>?_)|(refine eMo ?_)|(refine eC (fun h=>?_) (fun h=>?_)<;>(try simp at h))|(refine hK _ ?_;clear hK)|clear hK)
      refine ⟨p+64,?_,⟨hp8,hnx⟩,by omega⟩;simp only [hlen];refine zaI (s1:=?tus4) (m1:=?tum4) [] [4,3,1] [0,112] ?tua4 ?tub4 ?tuc4 ?tud4 ?tue4 ?tuf4 ?tug4
      case tua4=>first|(simp [kpS];done)|(simp [kpS];rfl)
      case tub4=>first|(simp;done)|(simp;rfl)
      case tuc4=>simp
      case tud4=>simp
      case tue4=>simp
      case tuf4=>simp
      case tug4 =>simp [swp,vr];exact dle
   ·obtain rfl:p=512:=by omega
    have htk:=zjf (lsA (r,ns,ds) 512);obtain ⟨A,hA⟩:∃ A,A=lsA (r,ns,ds) 512:=⟨_,rfl⟩
    rw [<- hA] at htk ⊢;repeat' (first|(refine aSk fun K hK=>?_)|(refine eMo ?_)|(refine eC (fun h=>?_) (fun h=>?_)<;>(try simp at h))|(refine hK _ ?_;clear hK)|clear hK)
    refine ⟨by simp,?_⟩;simp [lvI,f44,htk];try exact dt
    rw [hA]
 ·have e:zq (r,ns,ds)=[]:=by unfold zq;rw [if_neg hc0]
  rw [e];obtain ⟨c,hcc⟩:∃ c,c=chk (r,ns,ds):=⟨_,rfl⟩
  rw [<- hcc] at hch' hc0;simp only [TbV] at hch' ⊢;have zS:=jj hch'<|hc0;refine zl ?_;repeat (intro K hK)
  clear zS;refine ⟨by simp,?_⟩;simp [lvI,f44,za9];try exact dt
end Go.AM
namespace Go.AM
open Go Go.Proofs Tryz
attribute [local irreducible] lsA
end Go.AM
set_option maxHeartbeats 1000000
namespace Go.AM
open Go Go.Proofs Tryz
noncomputable section
def zhI:AV:=.v (.slice none 0 0)
def frM (fr:List Int):List AO:=[.box [.sl 1 1 1 0 fr.length],.vec 1 1 false (irw fr)]
theorem zso {a b:List Int} (h:frM a=frM b):a=b:=by simp only [frM,cJ,AO.vec.injEq,true_and,irI,and_true] at h;exact h.2
def zwy:List AV->List AO->Option (AV×List AO):=za1 (ι:={x:Nd×List Int // x.1.2.length=8∧x.2.length<=1000}) (fun x=>[.agg (zcq x.1.1),.bp 0 0]) (fun x=>frM x.1.2) (fun x=>rtO [B (decide (x.1.1.1∈x.1.2))]) fun x=>frM x.1.2
theorem zsB {n:Nd} {fr:List Int} (h:n.2.length=8) (h2:fr.length<=1000):zwy [.agg (zcq n),.bp 0 0] (frM fr)=some (B (decide (n.1∈fr)),frM fr):=by refine sGe (ι:={x:Nd×List Int // x.1.2.length=8∧x.2.length<=1000}) (A:=fun x=>[.agg (zcq x.1.1),.bp 0 0]) (M:=fun x=>frM x.1.2) (R:=fun x=>rtO [B (decide (x.1.1.1∈x.1.2))]) (O:=fun x=>frM x.1.2) ⟨(n,fr),h,h2⟩ fun j hA hM=>?_;obtain ⟨⟨n',fr'⟩,h'⟩:=j;have:=zso hM;simp only at this;subst this;simp only [cJ,AV.agg.injEq,zk7,and_true] at hA;subst hA;exact ⟨rfl,rfl⟩
def zqa:List AV->List AO->Option (AV×List AO):=za1 (ι:={x:Nd // x.2.length=8}) (fun x=>[.agg (zcq x.1),.bp 0 0]) (fun x=>[.box [zhI]]) (fun x=>rtO [B false]) fun x=>[.box [zhI]]
theorem zp9 {n:Nd} (h:n.2.length=8):zqa [.agg (zcq n),.bp 0 0] [.box [zhI]]=some (B false,[.box [zhI]]):=by refine sGe (ι:={x:Nd // x.2.length=8}) (A:=fun x=>[.agg (zcq x.1),.bp 0 0]) (M:=fun x=>[.box [zhI]]) (R:=fun x=>rtO [B false]) (O:=fun x=>[.box [zhI]]) ⟨n,h⟩ fun j hA hM=>⟨rfl,rfl⟩
def zyT (X:AX):Prop:=(∀ (fr:List Int) (x:Int),fr.length<=1000->∀ (b v:Nat) (f:Bool) (M:Nat->AO) (n:Nat),M b=.vec v 1 f (irw fr)->X.call 142 [.sl b v 1 0 fr.length,I x] M n=some (B (decide (x∈fr)),[]))∧∀ (x:Int) (M:Nat->AO) (n:Nat),X.call 142 [.v (.slice none 0 0),I x] M n=some (B false,[])
theorem zBV (X:AX) (hX:XOK prog X) (hw:X.W wT) (hct:zyT X):GSd prog 141 zwy:=by
 unfold zwy;refine gsS func141 rfl X fun ⟨⟨⟨f,ws⟩,fr⟩,h8,hfr⟩ w0 L E=>⟨by show 2<=8;decide,?_⟩
 simp only at h8 hfr;have hc1:=hct.1 fr f hfr;have hwl:(wcs ws).length=8:=by simp [h8]
 simp only [frM,zcq];obtain ⟨cs,hcs⟩:∃ cs,cs=wcs ws:=⟨_,rfl⟩
 rw [<- hcs] at hwl ⊢;show AW ⟨prog,X,8,w0,⟨L,E,2⟩⟩ _ _ _;have hc:Cx.OK ⟨prog,X,8,w0,⟨L,E,2⟩⟩:=⟨hX,mixed⟩
 have zS:=jj hwl<|hc1;refine zl ?_;repeat (intro K hK)
 clear zS;refine ⟨by simp,_,by simp [aRs,aRt,f141];rfl,?_⟩;simp only [idx];exact dle
theorem zt6 (X:AX) (hX:XOK prog X) (hw:X.W wT) (hct:zyT X):GSd prog 141 zqa:=by
 unfold zqa;refine gsS func141 rfl X fun ⟨⟨f,ws⟩,h8⟩ w0 L E=>⟨by show 2<=8;decide,?_⟩
 simp only at h8;have hc1:=hct.2 f;have hwl:(wcs ws).length=8:=by simp [h8]
 simp only [zhI,zcq];obtain ⟨cs,hcs⟩:∃ cs,cs=wcs ws:=⟨_,rfl⟩
 rw [<- hcs] at hwl ⊢;show AW ⟨prog,X,8,w0,⟨L,E,1⟩⟩ _ _ _;have hc:Cx.OK ⟨prog,X,8,w0,⟨L,E,1⟩⟩:=⟨hX,mixed⟩
 have zS:=jj hwl<|hc1;refine zl ?_;repeat (intro K hK)
 clear zS;refine ⟨by simp,_,by simp [aRs,aRt,f141];rfl,?_⟩;simp only [idx];exact dle
def zq4:List AV->List AO->Option (AV×List AO):=orG zwy zqa
theorem zjW {σ:Nat->Nat} {v:Nat->Nat->Nat}:∀ {ws:List Nat},renL σ v (wcs ws)=wcs ws
 | []=>rfl
 | w::ws=>by show AV.ren σ v (U w)::renL σ v (wcs ws)=_;rw [zjW (ws:=ws)];rfl
theorem zj3:∀ {ws:List Nat},nmsL (wcs ws)=[]
 | []=>rfl
 | w::ws=>by
  show AV.nms (U w)++nmsL (wcs ws)=[]
  rw [zj3 (ws:=ws)];rfl
theorem zkt {M:Nat->AO}:∀ {ws:List Nat},curBL M (wcs ws)=true
 | []=>rfl
 | w::ws=>by show (AV.curB M (U w)&&curBL M (wcs ws))=true;rw [zkt (ws:=ws)];rfl
theorem zra {a b:Nat} (hab:a≠b) {n:Nd} {fr:List Int} (h:n.2.length=8) (h2:fr.length<=1000) (M:Nat->AO) (nid:Nat) (h0:M a=.box [.sl b 1 1 0 fr.length]) (h1:M b=.vec 1 1 false (irw fr)) :
  caG zq4 [.agg (zcq n),.bp a 0] M nid=some (B (decide (n.1∈fr)),[(a,.box [.sl b 1 1 0 fr.length]),(b,.vec 1 1 false (irw fr))]):=by
 have hF:zq4 _ _=_:=znr (zsB h h2);simp only [frM] at hF;have hba:b≠a:=fun e=>hab e.symm;have hr:∀ σ v,renL σ v (zcq n)=zcq n:=fun σ v=>by show AV.ren σ v (I n.1)::renL σ v (wcs n.2)=_;rw [zjW];rfl
 have hn:nmsL (zcq n)=[]:=by
  show AV.nms (I n.1)++nmsL (wcs n.2)=[]
  rw [zj3];rfl
 have hcu:curBL M (zcq n)=true:=by show (AV.curB M (I n.1)&&curBL M (wcs n.2))=true;rw [zkt];rfl
 unfold caG;have hg:gat M 64 (nmsL [.agg (zcq n),.bp a 0]) []=[a,b]:=by simp [gat,nmsL,AV.nms,AO.nms,h0,h1,hab,hba,hn]
 simp only [hg];rw [if_pos ?cg]
 case cg=>simp [zbp,nmsL,AV.nms,AO.nms,Led,curBL,AV.curB,AO.curB,zaj,nDd,h0,h1,hab,hba,hn,hcu]
 simp [renL,AV.ren,AO.ren,zbL,zdP,nmsL,h0,h1,hF,zeZ,zcc,AV.nms,AO.nms,zdC,nmN,shN,zaj,rng,Led,hab,hba,hr,hn,gat]
theorem zvq {n:Nd} (h:n.2.length=8):zq4 [.agg (zcq n),.bp 0 0] [.box [zhI]]=some (B false,[.box [zhI]]):=zpr (zdf fun i _ h2=>by simp [frM,zhI] at h2) (zp9 h)
theorem zsL {a:Nat} {n:Nd} (h:n.2.length=8) (M:Nat->AO) (nid:Nat) (h0:M a=.box [zhI]) :
  caG zq4 [.agg (zcq n),.bp a 0] M nid=some (B false,[(a,.box [zhI])]):=by
 have hF:=zvq h;unfold zhI at h0 hF ⊢;have hr:∀ σ v,renL σ v (zcq n)=zcq n:=fun σ v=>by show AV.ren σ v (I n.1)::renL σ v (wcs n.2)=_;rw [zjW];rfl
 have hn:nmsL (zcq n)=[]:=by
  show AV.nms (I n.1)++nmsL (wcs n.2)=[]
  rw [zj3];rfl
 have hcu:curBL M (zcq n)=true:=by show (AV.curB M (I n.1)&&curBL M (wcs n.2))=true;rw [zkt];rfl
 unfold caG;have hg:gat M 64 (nmsL [.agg (zcq n),.bp a 0]) []=[a]:=by simp [gat,nmsL,AV.nms,AO.nms,h0,hn]
 simp only [hg];rw [if_pos ?cg]
 case cg=>simp [zbp,nmsL,AV.nms,AO.nms,Led,curBL,AV.curB,AO.curB,zaj,nDd,h0,hn,hcu]
 simp [renL,AV.ren,AO.ren,zbL,zdP,nmsL,h0,hF,zeZ,zcc,AV.nms,AO.nms,zdC,nmN,shN,zaj,rng,Led,hr,hn,gat]
end
set_option maxHeartbeats 4000000
def inF (fr:List Int) (n:Nd):Bool:=decide (n.1∈fr)
def ixM (ns:NdL) (fr:List Int):List AO:=[.vec 1 9 false (nrw ns),.box [.sl 2 1 1 0 fr.length],.vec 1 1 false (irw fr)]
theorem znX {a b:NdL} {x y:List Int} (h:ixM a x=ixM b y):a=b∧x=y:=by simp only [ixM,cJ,AO.vec.injEq,true_and,irI,zbf,and_true] at h;exact ⟨h.1,h.2.2⟩
def zfc (ns:NdL):List AO:=[.vec 1 9 false (nrw ns),.box [zhI]]
theorem zlh {a b:NdL} (h:zfc a=zfc b):a=b:=by simp only [zfc,cJ,AO.vec.injEq,true_and,zbf,and_true] at h;exact h
abbrev IxD:=NdL×List Int
abbrev zit (x:IxD):Prop:=(∀ n∈x.1,zis n)∧x.1.length<=1000000∧x.2.length<=1000
noncomputable def ixS:List AV->List AO->Option (AV×List AO):=za1 (ι:={x:IxD // zit x}) (fun x=>[.sl 0 1 9 0 x.1.1.length,.fn 141 [.bp 1 0]]) (fun x=>ixM x.1.1 x.1.2) (fun x=>rtO [I (zdM (inF x.1.2) x.1.1)]) fun x=>ixM x.1.1 x.1.2
theorem zuL {ns:NdL} {fr:List Int} (h:zit (ns,fr)):ixS [.sl 0 1 9 0 ns.length,.fn 141 [.bp 1 0]] (ixM ns fr)=some (I (zdM (inF fr) ns),ixM ns fr):=by refine sGe (ι:={x:IxD // zit x}) (A:=fun x=>[.sl 0 1 9 0 x.1.1.length,.fn 141 [.bp 1 0]]) (M:=fun x=>ixM x.1.1 x.1.2) (R:=fun x=>rtO [I (zdM (inF x.1.2) x.1.1)]) (O:=fun x=>ixM x.1.1 x.1.2) ⟨(ns,fr),h⟩ fun j hA hM=>?_;obtain ⟨⟨n',fr'⟩,h'⟩:=j;obtain ⟨rfl,rfl⟩:=znX hM;exact ⟨rfl,rfl⟩
noncomputable def zwp:List AV->List AO->Option (AV×List AO):=za1 (ι:={x:NdL // zit (x,[])}) (fun x=>[.sl 0 1 9 0 x.1.length,.fn 141 [.bp 1 0]]) (fun x=>zfc x.1) (fun x=>rtO [I (zdM (inF []) x.1)]) fun x=>zfc x.1
theorem zr9 {ns:NdL} (h:zit (ns,[])):zwp [.sl 0 1 9 0 ns.length,.fn 141 [.bp 1 0]] (zfc ns)=some (I (zdM (inF []) ns),zfc ns):=by refine sGe (ι:={x:NdL // zit (x,[])}) (A:=fun x=>[.sl 0 1 9 0 x.1.length,.fn 141 [.bp 1 0]]) (M:=fun x=>zfc x.1) (R:=fun x=>rtO [I (zdM (inF []) x.1)]) (O:=fun x=>zfc x.1) ⟨ns,h⟩ fun j hA hM=>?_;obtain ⟨n',h'⟩:=j;have:=zlh hM;simp only at this;subst this;exact ⟨rfl,rfl⟩
theorem zBE (X:AX) (hX:XOK prog X) (hw:X.W wT) (hcl:X.call 141=caG zq4):GSd prog 193 ixS:=by
 unfold ixS;refine gsS func193 rfl X fun ⟨⟨ns,fr⟩,hok,hl,hfr⟩ w0 L E=>⟨by show 2<=19;decide,?_⟩
 simp only at hok hl hfr
 skip
 have hcr:=fun (n:Nd) (h:n.2.length=8) M nid=>@zra 1 2 (by decide) n fr h hfr M nid;rw [<- hcl] at hcr;simp only [ixM,zhI] at hcr ⊢;show AW ⟨prog,X,19,w0,⟨L,E,3⟩⟩ _ _ _;have hc:Cx.OK ⟨prog,X,19,w0,⟨L,E,3⟩⟩:=⟨hX,mixed⟩
 repeat' (first|(refine aSk fun K hK=>?_)|(refine eMo ?_)|(refine eC (fun h=>?_) (fun h=>?_)<;>(try simp at h))|(refine hK _ ?_;clear hK)|(clear hK;refine hK _ ?_;clear hK))
 refine aLK (s0:=?lps1) (m0:=?lpm1) (ι:={i:Nat // i<=ns.length∧∀ j,j<i->inF fr (gn ns j)=false}) [0,1,7] (fun s=>[(8,I s.1)]) (fun _=>[]) (fun s=>ns.length - s.1) ⟨0,by omega,by omega⟩ ?lhs1 ?lhm1 ?_ ?_
 case lhs1=>first|(simp [kpS];done)|(simp [kpS];rfl)
 case lhm1=>first|rfl|(simp;done)|(simp;rfl)
 ·exact dle
 ·rintro ⟨i,hi,hinv⟩;simp only;rcases dE (i<ns.length) with hil|hil
  ·have hilI:(i:Int)<(ns.length:Int):=by omega
   have hg:=nrG hil;have hgE:=nrE hil;have h8:=(hok _ (zaL hil)).1;have hcr':=hcr _ h8;have hat:=zf9 (p:=inF fr) hil;rw [<- zcl hil] at hat;have hinv2:inF fr (gn ns i)=false->∀ j,j<i+1->inF fr (gn ns j)=false:=fun h j hj=>by
    rcases Nat.lt_succ_iff_lt_or_eq.1 hj with h5|rfl
    ·exact hinv j h5
    ·exact h
   obtain ⟨⟨g,ws⟩,hm⟩:∃ m,m=gn ns i:=⟨_,rfl⟩
   rw [<- hm] at hg hgE h8 hcr' hat hinv2;simp only [zcq] at hg hgE h8 hcr' hat hinv2;have hwl:(wcs ws).length=8:=by simp [h8]
   obtain ⟨cs,hcs⟩:∃ cs,cs=wcs ws:=⟨_,rfl⟩
   rw [<- hcs] at hg hgE hwl hcr';have htk:List.take 8 cs=cs:=tkL (by omega);clear hcs hm;rcases dE (g∈fr) with hgf|hgf
   ·rw [decide_eq_true hgf] at hcr';have e:=hat (by simp [inF,hgf]) fun j hj=>by have:=hinv j hj;rw [zcl (by omega)] at this;exact this
    have zS:=jj hilI<|jj hil<|jj hg<|jj hgE<|jj hwl<|jj htk<|hcr';repeat' (first|(refine aSk fun K hK=>?_)|(refine zi ?_)|(refine eC (fun h=>?_) (fun h=>?_)<;>(try simp at h))|(refine hK _ ?_;clear hK)|clear hK)
    all_goals clear zS
    refine ⟨by simp,_,by simp [aRs,aRt,f193];rfl,?_⟩;simp only [idx,e];exact dle
   ·rw [decide_eq_false hgf] at hcr';have e:=hinv2 (by simp [inF,hgf]);have zS:=jj hilI<|jj hil<|jj hg<|jj hgE<|jj hwl<|jj htk<|hcr';repeat' (first|(refine aSk fun K hK=>?_)|(refine zi ?_)|(refine eC (fun h=>?_) (fun h=>?_)<;>(try simp at h))|(refine hK _ ?_;clear hK)|clear hK)
    all_goals clear zS
    refine ⟨i+1,?_,⟨by omega,e⟩,by omega⟩;exact dle
  ·obtain rfl:i=ns.length:=by omega
   have e:zdM (inF fr) ns=-1:=zdo fun j hj=>by have:=hinv j hj;rw [zcl hj] at this;exact this
   repeat' (first|(refine aSk fun K hK=>?_)|(refine eMo ?_)|(refine eC (fun h=>?_) (fun h=>?_)<;>(try simp at h))|(refine hK _ ?_;clear hK)|clear hK)
   refine ⟨by simp,_,by simp [aRs,aRt,f193];rfl,?_⟩;simp only [idx,e];exact dle
theorem zt5 (X:AX) (hX:XOK prog X) (hw:X.W wT) (hcl:X.call 141=caG zq4):GSd prog 193 zwp:=by
 unfold zwp;refine gsS func193 rfl X fun ⟨ns,hok,hl,hfr⟩ w0 L E=>⟨by show 2<=19;decide,?_⟩
 simp only at hok hl hfr
 skip
 have hcr:=fun (n:Nd) (h:n.2.length=8) M nid=>@zsL 1 n h M nid;rw [<- hcl] at hcr;simp only [zfc,zhI] at hcr ⊢;show AW ⟨prog,X,19,w0,⟨L,E,2⟩⟩ _ _ _;have hc:Cx.OK ⟨prog,X,19,w0,⟨L,E,2⟩⟩:=⟨hX,mixed⟩
 repeat' (first|(refine aSk fun K hK=>?_)|(refine eMo ?_)|(refine eC (fun h=>?_) (fun h=>?_)<;>(try simp at h))|(refine hK _ ?_;clear hK)|(clear hK;refine hK _ ?_;clear hK))
 refine aLK (s0:=?lps2) (m0:=?lpm2) (ι:={i:Nat // i<=ns.length∧∀ j,j<i->inF ([]:List Int) (gn ns j)=false}) [0,1,7] (fun s=>[(8,I s.1)]) (fun _=>[]) (fun s=>ns.length - s.1) ⟨0,by omega,by omega⟩ ?lhs2 ?lhm2 ?_ ?_
 case lhs2=>first|(simp [kpS];done)|(simp [kpS];rfl)
 case lhm2=>first|rfl|(simp;done)|(simp;rfl)
 ·exact dle
 ·rintro ⟨i,hi,hinv⟩;simp only;rcases dE (i<ns.length) with hil|hil
  ·have hilI:(i:Int)<(ns.length:Int):=by omega
   have hg:=nrG hil;have hgE:=nrE hil;have h8:=(hok _ (zaL hil)).1;have hcr':=hcr _ h8;have hat:=zf9 (p:=inF ([]:List Int)) hil;rw [<- zcl hil] at hat;have hinv2:inF ([]:List Int) (gn ns i)=false->∀ j,j<i+1->inF ([]:List Int) (gn ns j)=false:=fun h j hj=>by
    rcases Nat.lt_succ_iff_lt_or_eq.1 hj with h5|rfl
    ·exact hinv j h5
    ·exact h
   obtain ⟨⟨g,ws⟩,hm⟩:∃ m,m=gn ns i:=⟨_,rfl⟩
   rw [<- hm] at hg hgE h8 hcr' hat hinv2;simp only [zcq] at hg hgE h8 hcr' hat hinv2;have hwl:(wcs ws).length=8:=by simp [h8]
   obtain ⟨cs,hcs⟩:∃ cs,cs=wcs ws:=⟨_,rfl⟩
   rw [<- hcs] at hg hgE hwl hcr';have htk:List.take 8 cs=cs:=tkL (by omega);clear hcs hm;have e:=hinv2 (by simp [inF]);have zS:=jj hilI<|jj hil<|jj hg<|jj hgE<|jj hwl<|jj htk<|hcr';repeat' (first|(refine aSk fun K hK=>?_)|(refine zi ?_)|(refine eC (fun h=>?_) (fun h=>?_)<;>(try simp at h))|(refine hK _ ?_;clear hK)|clear hK)
   all_goals clear zS
   refine ⟨i+1,?_,⟨by omega,e⟩,by omega⟩;exact dle
  ·obtain rfl:i=ns.length:=by omega
   have e:zdM (inF ([]:List Int)) ns=-1:=zdo fun j hj=>by have:=hinv j hj;rw [zcl hj] at this;exact this
   repeat' (first|(refine aSk fun K hK=>?_)|(refine eMo ?_)|(refine eC (fun h=>?_) (fun h=>?_)<;>(try simp at h))|(refine hK _ ?_;clear hK)|clear hK)
   refine ⟨by simp,_,by simp [aRs,aRt,f193];rfl,?_⟩;simp only [idx,e];exact dle
end Go.AM
