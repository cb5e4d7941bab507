/- A part of the proof: what functions of the program compute, by abstract execution of their code. Its theorems hold without further condition. -/
import Derived.Test.YtcfhmdljeeppfaaTPt19
import Derived.Test.YtcfhmdljeeppfaaPtV
import Derived.Shelf.SlSortFuncK.WholeK
import Derived.Test.YtcfhmdljeeppfaaTPt1
import Derived.Deep.RegionHeld3
import Derived.LoopN
import Derived.WalkKit
import Derived.Test.YtcfhmdljeeppfaaAmZa
import Derived.Test.YtcfhmdljeeppfaaAmG2
import Derived.Shelf.Sort.Plain
import Derived.Shelf.Slices.In.SortNone
set_option linter.all false
namespace Go.AM
open Go Go.Proofs
theorem frP_WD {a b:Int→Bool} {M:Mm} {root:Int}:∀ {d q:Nat},frP (WD a) M root d q=frP (WD b) M root d q
 | 0,q=>rfl
 | d+1,q=>by simp only [frP];rw [frP_WD (a:=a) (b:=b)];rfl
theorem VM_WD {a b:Int→Bool} {M:Mm} {root:Int} (h:VM (WD a) M root):VM (WD b) M root where
 nd:=fun d q hx f hf=>by rw [frP_WD (b:=a)] at hf;exact h.nd d q hx f hf
 inj:=fun d q d' q' hx hy f hf hf'=>by rw [frP_WD (b:=a)] at hf hf';exact h.inj d q d' q' hx hy f hf hf'
 all:=fun f ws hf=>by
  obtain ⟨d,q,hx,k⟩:=h.all f ws hf
  exact ⟨d,q,hx,by rw [frP_WD (b:=a)];exact k⟩
def hugB (M:Mm) (root:Int) (g:Nat):Bool:=match frP WA M root 1 (g/8) with
 | some f=>hugW (wM M f (g%8))
 | none=>false
def hugM (M:Mm) (root:Int):List Int:=((List.range 64).filter (hugB M root)).map fun g:Nat=>(g:Int)
theorem mem_hugM {M:Mm} {root:Int} {g:Int}:g∈hugM M root↔∃ k:Nat,k<64∧g=k∧hugB M root k=true:=by
 unfold hugM
 simp only [List.mem_map,List.mem_filter,List.mem_range]
 constructor
 ·rintro ⟨k,⟨h1,h2⟩,rfl⟩;exact ⟨k,h1,rfl,h2⟩
 ·rintro ⟨k,h1,rfl,h2⟩;exact ⟨k,⟨h1,h2⟩,rfl⟩
theorem hugB_iff {M:Mm} {root:Int} {g:Nat}:hugB M root g=true↔∃ f,frP WA M root 1 (g/8)=some f∧hugW (wM M f (g%8))=true:=by
 unfold hugB
 cases frP WA M root 1 (g/8)<;>simp
structure NumOK (t:Tb):Prop where
 fr:∀ n∈t.2.1,frmN n.1
 df:∀ d∈t.2.2,frmN d.2∧0≤d.1∧d.1<64
 asc:ascN t.2.1
 dasc:t.2.2.Pairwise fun a b=>a.1<b.1
 apart:∀ d∈t.2.2,∀ n∈t.2.1,n.1≠d.2
 once:t.2.2.Pairwise fun a b=>a.2≠b.2
 root:∃ n∈t.2.1,n.1=t.1
theorem fnd_some_of {ns:List Nd} {f:Int} (h:∃ n∈ns,n.1=f):∃ r,fnd ns f=some r:=by
 obtain ⟨n,hn,e⟩:=h
 unfold fnd
 have:ns.findIdx (fun n=>decide (n.1=f))<ns.length:=List.findIdx_lt_length_of_exists ⟨n,hn,by simpa using e⟩
 rw [if_pos this]
 exact ⟨_,rfl⟩
theorem numOK_iff {t:Tb}:numB t=0↔NumOK t:=by
 constructor
 ·intro h
  obtain ⟨hR,hA,hT,r,hr⟩:=numB_zero h
  obtain ⟨r1,r2⟩:=rngB_iff.1 hR
  obtain ⟨a1,a2⟩:=ascB_iff.1 hA
  have hno:∀ i,i<t.2.2.length→¬ twN t i:=fun i hi h=>by
   have:=twB_iff.2 ⟨i,hi,h⟩
   rw [hT] at this;simp at this
  refine ⟨fun n hn=>?_,fun d hd=>?_,ascN_of hA,?_,fun d hd n hn e=>?_,?_,?_⟩
  ·obtain ⟨i,hi,rfl⟩:=List.getElem_of_mem hn
   rw [← gn_eq hi];exact r1 i hi
  ·obtain ⟨i,hi,rfl⟩:=List.getElem_of_mem hd
   rw [← gp_eq hi];exact r2 i hi
  ·refine List.pairwise_iff_getElem.2 fun i j hi hj hij=>?_
   have key:∀ d,i+d+1<t.2.2.length→(gp t.2.2 i).1<(gp t.2.2 (i+d+1)).1:=by
    intro d
    induction d with
    | zero=>intro h;exact a2 i h
    | succ d ih=>intro h;exact Int.lt_trans (ih (by omega)) (a2 (i+d+1) h)
   have:=key (j - i - 1) (by omega)
   rw [show i+(j - i - 1)+1=j by omega,gp_eq hi,gp_eq hj] at this
   exact this
  ·obtain ⟨i,hi,rfl⟩:=List.getElem_of_mem hd
   obtain ⟨j,hj,rfl⟩:=List.getElem_of_mem hn
   exact hno i hi (.inl ⟨j,hj,by rw [gn_eq hj,gp_eq hi];exact e⟩)
  ·refine List.pairwise_iff_getElem.2 fun i j hi hj hij e=>?_
   exact hno j hj (.inr ⟨i,hij,by rw [gp_eq hi,gp_eq hj];exact e⟩)
  ·exact ⟨_,gn_mem (fnd_lt hr),fnd_frame hr⟩
 ·intro h
  have hR:rngB t=true:=rngB_iff.2 ⟨fun j hj=>h.fr _ (gn_mem hj),fun j hj=>h.df _ (gp_mem hj)⟩
  have hA:ascB t=true:=ascB_iff.2 ⟨fun j hj=>asc_lt h.asc (by omega) hj,fun j hj=>by
   have:=List.pairwise_iff_getElem.1 h.dasc j (j+1) (by omega) hj (by omega)
   rw [gp_eq (by omega),gp_eq hj];exact this⟩
  have hT:twB t=false:=twB_no fun i hi=>by
   rintro (⟨j,hj,e⟩|⟨j,hj,e⟩)
   ·exact h.apart _ (gp_mem hi) _ (gn_mem hj) e
   ·have:=List.pairwise_iff_getElem.1 h.once j i (by omega) hi hj
    rw [gp_eq (by omega),gp_eq hi] at e
    exact this e
  obtain ⟨r,hr⟩:=fnd_some_of h.root
  exact numB_0 hR hA hT (by rw [hr];simp)
theorem nds8_of {t:Tb} (ht:tbOK t):nds8 t.2.1:=fun n hn=>(ht.1 n hn).1
theorem markL_all {n:Nat} {l:List Nat} (hl:∀ i∈l,i<n):false ∉ markL (List.replicate n false) l↔∀ i,i<n→i∈l:=by
 have hg:∀ j,(markL (List.replicate n false) l).getD j false=decide (j∈l):=fun j=>by
  rw [markL_getD (by simpa using hl)]
  have:(List.replicate n false).getD j false=false:=by
   rw [List.getD_eq_getElem?_getD,List.getElem?_replicate];split<;>rfl
  rw [this,Bool.or_false]
 constructor
 ·intro h i hi
  have h1:=hg i
  cases hd:decide (i∈l) with
  | true=>simpa using hd
  | false =>
   exfalso
   rw [hd] at h1
   have hlen:i<(markL (List.replicate n false) l).length:=by simp [hi]
   rw [List.getD_eq_getElem?_getD,List.getElem?_eq_getElem hlen] at h1
   simp only [Option.getD_some] at h1
   have h3:=List.getElem_mem hlen
   rw [h1] at h3
   exact h h3
 ·intro h hm
  obtain ⟨j,hj,e⟩:=List.getElem_of_mem hm
  have h1:=hg j
  rw [List.getD_eq_getElem?_getD,List.getElem?_eq_getElem hj] at h1
  simp only [Option.getD_some] at h1
  rw [e] at h1
  have:=h j (by simpa using hj)
  simp [this] at h1
theorem wk_root {adm:Int→Bool} {t:Tb} (ht:tbOK t) {r:Nat} (hr:fnd t.2.1 t.1=some r) (ha:ascN t.2.1) :
  ((wk (WD adm) t.2.1 2 r 0 (List.replicate t.2.1.length false,[])).1=true∧false ∉ (wk (WD adm) t.2.1 2 r 0 (List.replicate t.2.1.length false,[])).2.1 ↔
   (VM WA (Mof t.2.1) t.1∧∀ g∈hugM (Mof t.2.1) t.1,adm g=true)) ∧
  ((wk (WD adm) t.2.1 2 r 0 (List.replicate t.2.1.length false,[])).1=true→(wk (WD adm) t.2.1 2 r 0 (List.replicate t.2.1.length false,[])).2.2=hugM (Mof t.2.1) t.1):=by
 have hrl:=fnd_lt hr
 have h1:=wk_ok (D:=WD adm) (ns:=t.2.1) (fun w h=>(WD_ok adm).flat w h) (l:=2) r 0 (List.replicate t.2.1.length false,[]) hrl (by simp)
 have hlt:∀ i∈ids (WD adm) t.2.1 2 r,i<t.2.1.length:=ids_lt hrl
 have hgd:∀ i,(List.replicate t.2.1.length false).getD i false=false:=fun i=>by
  rw [List.getD_eq_getElem?_getD,List.getElem?_replicate];split<;>rfl
 have h2:=valid_iff (D:=WD adm) (WD_ok adm) ha (nds8_of ht) hr
 have hadm:(VM (WD adm) (Mof t.2.1) t.1∧∀ q i f,q<8→i<8→frP (WD adm) (Mof t.2.1) t.1 1 q=some f→(WD adm).hug (wM (Mof t.2.1) f i)=true→(WD adm).adm ((q*8+i:Nat):Int)=true)↔(VM WA (Mof t.2.1) t.1∧∀ g∈hugM (Mof t.2.1) t.1,adm g=true):=by
  constructor
  ·rintro ⟨a,b⟩
   refine ⟨VM_WD a,fun g hg=>?_⟩
   obtain ⟨k,hk,rfl,hB⟩:=mem_hugM.1 hg
   obtain ⟨f,hf,hw⟩:=hugB_iff.1 hB
   have:=b (k/8) (k%8) f (by omega) (by omega) (by rw [frP_WD (b:=fun _=>true)];exact hf) hw
   rw [show k/8*8+k%8=k by omega] at this
   exact this
  ·rintro ⟨a,b⟩
   refine ⟨VM_WD a,fun q i f hq hi hf hw=>?_⟩
   refine b _ (mem_hugM.2 ⟨q*8+i,by omega,rfl,hugB_iff.2 ⟨f,?_,?_⟩⟩)
   ·rw [show (q*8+i)/8=q by omega,frP_WD (b:=adm)];exact hf
   ·rw [show (q*8+i)%8=i by omega];exact hw
 obtain ⟨R,hR⟩:∃ R,R=wk (WD adm) t.2.1 2 r 0 (List.replicate t.2.1.length false,[]):=⟨_,rfl⟩
 rw [← hR] at h1 ⊢
 refine ⟨?_,fun hb=>?_⟩
 ·rw [← hadm,← h2]
  constructor
  ·rintro ⟨a,b⟩
   obtain ⟨g1,g2,g3⟩:=h1.1.1 a
   rw [h1.2 a] at b
   simp only at b
   exact ⟨g1,g2,(markL_all hlt).1 b⟩
  ·rintro ⟨g1,g2,g3⟩
   have a:=h1.1.2 ⟨g1,g2,fun i _=>hgd i⟩
   refine ⟨a,?_⟩
   rw [h1.2 a]
   exact (markL_all hlt).2 g3
 ·rw [h1.2 hb]
  simp only [List.nil_append]
  obtain ⟨g1,g2,g3⟩:=h1.1.1 hb
  rw [hugs_pos (WD_ok adm) g1]
  unfold hugL hugM
  congr 1
  refine List.filter_congr fun g hg=>?_
  have:=hugP_iff (WD_ok adm) ha (nds8_of ht) hr g1 (List.mem_range.1 hg)
  rw [Bool.eq_iff_iff,this,hugB_iff]
  rw [frP_WD (b:=fun _=>true)]
  exact Iff.rfl
structure Vt (t:Tb):Prop where
 num:NumOK t
 vm:VM WA (Mof t.2.1) t.1
 dep:t.2.2.map (·.1)=hugM (Mof t.2.1) t.1
theorem chk_iff {t:Tb} (ht:tbOK t):chk t=0↔Vt t:=by
 unfold chk
 by_cases hn:numB t=0
 ·obtain ⟨hR,hA,hT,r,hr⟩:=numB_zero hn
  have h1:=wk_root (adm:=fun _=>true) ht hr (ascN_of hA)
  rw [if_neg (by simp [hn])]
  have hw:wkA t=wk WA t.2.1 2 r 0 (List.replicate t.2.1.length false,[]):=by unfold wkA;rw [hr];rfl
  rw [hw]
  constructor
  ·intro h
   split at h
   ·rename_i hh
    have:=h1.1.1 ⟨hh.1,hh.2.1⟩
    exact ⟨numOK_iff.1 hn,this.1,by rw [← hh.2.2];exact h1.2 hh.1⟩
   ·simp at h
  ·intro h
   have:=h1.1.2 ⟨h.vm,fun _ _=>rfl⟩
   rw [if_pos ⟨this.1,this.2,by rw [h1.2 this.1];exact h.dep.symm⟩]
 ·rw [if_pos hn]
  exact ⟨fun h=>absurd h hn,fun h=>absurd (numOK_iff.2 h.num) hn⟩
end Go.AM
set_option maxHeartbeats 4000000
namespace Go.AM
open Go Go.Proofs
@[simp] theorem tyStps:Types Try.prog 153=some ⟨.slice 124,1,24,[.slice none 0 0]⟩:=by kernel_rfl
def dgt (p l:Nat):Nat:=p/8^l%8
theorem dgt_lt (p l:Nat):dgt p l<8:=by unfold dgt;omega
theorem s138 (X:AX) (hX:XOK Try.prog X) (hw:X.W wT):PSound Try.prog 138 (specF (ι:={x:Nat×Nat // x.1<512∧x.2≤2}) (fun x=>[I x.1.1,I x.1.2]) fun x=>retOf [I (dgt x.1.1 x.1.2)]):=by
 refine psound_spec hX mixed Try.func138 rfl fun ⟨⟨n,l⟩,hn,hl⟩ w0 G=>⟨by show 2≤13;decide,rfl,?_⟩
 show AW ⟨Try.prog,X,13,w0,.pure G⟩ _ _ _
 have hc:Cx.OK ⟨Try.prog,X,13,w0,.pure G⟩:=⟨hX,mixed⟩
 simp only at hn hl ⊢
 have m1:(n:Int).tmod 8=((n%8:Nat):Int):=by rw [Int.tmod_eq_emod_of_nonneg (by omega)];omega
 have m2:((n:Int)/8).tmod 8=((n/8%8:Nat):Int):=by rw [Int.tmod_eq_emod_of_nonneg (by omega)];omega
 have m3:((n:Int)/8/8).tmod 8=((n/64%8:Nat):Int):=by rw [Int.tmod_eq_emod_of_nonneg (by omega)];omega
 have w8:IntKind.i64.wrap ((n:Int)/8)=(n:Int)/8:=wrap64 (by omega)
 have w64:IntKind.i64.wrap ((n:Int)/8/8)=(n:Int)/8/8:=wrap64 (by omega)
 have t8:((n:Int)/8).tdiv 8=(n:Int)/8/8:=Int.tdiv_eq_ediv_of_nonneg (by omega)
 rcases (by omega:l=0∨l=1∨l=2) with rfl|rfl|rfl
 ·have e:dgt n 0=n%8:=by unfold dgt;simp
  have zS:=jj m1<|jj m2<|jj m3<|jj w8<|jj w64<|t8
  repeat' (first|(apply aw_seq_k;intro K hK)|(refine eM64 ?_)|(refine aw_cond (b:=_) (by exact rfl) (fun h=>?_) (fun h=>?_)<;>(try simp at h))|(refine eB ?_)|(refine hK _ ?_;clear hK)|(clear hK;refine hK _ ?_;clear hK)|(clear hK;clear hK;refine hK _ ?_;clear hK)|(clear hK;clear hK;clear hK;refine hK _ ?_;clear hK))
  all_goals clear zS
  refine aw_rounds 1 (aw_round ?_)
  have zS:=jj m1<|jj m2<|jj m3<|jj w8<|jj w64<|t8
  repeat' (first|(apply aw_seq_k;intro K hK)|(refine eM64 ?_)|(refine aw_cond (b:=_) (by exact rfl) (fun h=>?_) (fun h=>?_)<;>(try simp at h))|(refine eB ?_)|(refine hK _ ?_;clear hK)|(clear hK;refine hK _ ?_;clear hK)|(clear hK;clear hK;refine hK _ ?_;clear hK)|(clear hK;clear hK;clear hK;refine hK _ ?_;clear hK))
  all_goals clear zS
  refine ⟨by simp,?_⟩
  simp [leaves_iff,Try.f138,e]
  try exact dt
 ·have e:dgt n 1=n/8%8:=by unfold dgt;simp
  have zS:=jj m1<|jj m2<|jj m3<|jj w8<|jj w64<|t8
  repeat' (first|(apply aw_seq_k;intro K hK)|(refine eM64 ?_)|(refine aw_cond (b:=_) (by exact rfl) (fun h=>?_) (fun h=>?_)<;>(try simp at h))|(refine eB ?_)|(refine hK _ ?_;clear hK)|(clear hK;refine hK _ ?_;clear hK)|(clear hK;clear hK;refine hK _ ?_;clear hK)|(clear hK;clear hK;clear hK;refine hK _ ?_;clear hK))
  all_goals clear zS
  refine aw_rounds 2 (aw_round ?_)
  have zS:=jj m1<|jj m2<|jj m3<|jj w8<|jj w64<|t8
  repeat' (first|(apply aw_seq_k;intro K hK)|(refine eM64 ?_)|(refine aw_cond (b:=_) (by exact rfl) (fun h=>?_) (fun h=>?_)<;>(try simp at h))|(refine eB ?_)|(refine hK _ ?_;clear hK)|(clear hK;refine hK _ ?_;clear hK)|(clear hK;clear hK;refine hK _ ?_;clear hK)|(clear hK;clear hK;clear hK;refine hK _ ?_;clear hK))
  all_goals clear zS
  refine ⟨by simp,?_⟩
  simp [leaves_iff,Try.f138,e]
  try exact dt
 ·have e:dgt n 2=n/64%8:=by unfold dgt;simp
  have zS:=jj m1<|jj m2<|jj m3<|jj w8<|jj w64<|t8
  repeat' (first|(apply aw_seq_k;intro K hK)|(refine eM64 ?_)|(refine aw_cond (b:=_) (by exact rfl) (fun h=>?_) (fun h=>?_)<;>(try simp at h))|(refine eB ?_)|(refine hK _ ?_;clear hK)|(clear hK;refine hK _ ?_;clear hK)|(clear hK;clear hK;refine hK _ ?_;clear hK)|(clear hK;clear hK;clear hK;refine hK _ ?_;clear hK))
  all_goals clear zS
  refine aw_rounds 3 (aw_round ?_)
  have zS:=jj m1<|jj m2<|jj m3<|jj w8<|jj w64<|t8
  repeat' (first|(apply aw_seq_k;intro K hK)|(refine eM64 ?_)|(refine aw_cond (b:=_) (by exact rfl) (fun h=>?_) (fun h=>?_)<;>(try simp at h))|(refine eB ?_)|(refine hK _ ?_;clear hK)|(clear hK;refine hK _ ?_;clear hK)|(clear hK;clear hK;refine hK _ ?_;clear hK)|(clear hK;clear hK;clear hK;refine hK _ ?_;clear hK))
  all_goals clear zS
  refine ⟨by simp,?_⟩
  simp [leaves_iff,Try.f138,e]
  try exact dt
abbrev Stp:=Nat×Nat×Nat
section
variable (ns:NdL) (p:Nat)
def pth:Nat→Nat→List Stp
 | 0,n=>[(n,0,wd ns n (dgt p 0))]
 | l+1,n=>(n,l+1,wd ns n (dgt p (l+1)))::(match kid WA ns (wd ns n (dgt p (l+1))) with
  | some nx=>pth l nx
  | none=>[])
def lst:Nat→Nat→Stp
 | 0,n=>(n,0,wd ns n (dgt p 0))
 | l+1,n=>match kid WA ns (wd ns n (dgt p (l+1))) with
  | some nx=>lst l nx
  | none=>(n,l+1,wd ns n (dgt p (l+1)))
def pok:Nat→Nat→Prop
 | 0,n=>tabW (wd ns n (dgt p 0))=none
 | l+1,n=>∀ g,tabW (wd ns n (dgt p (l+1)))=some g→∃ nx,fnd ns g=some nx∧pok l nx
end
theorem pth_lst {ns:NdL} {p:Nat}:∀ {l n:Nat},∃ i,pth ns p l n=i++[lst ns p l n]
 | 0,n=>⟨[],rfl⟩
 | l+1,n=>by
  simp only [pth,lst]
  cases kid WA ns (wd ns n (dgt p (l+1))) with
  | none=>exact ⟨[],rfl⟩
  | some nx =>
   obtain ⟨i,hi⟩:=pth_lst (ns:=ns) (p:=p) (l:=l) (n:=nx)
   simp only
   rw [hi]
   exact ⟨(n,l+1,wd ns n (dgt p (l+1)))::i,rfl⟩
theorem pth_len {ns:NdL} {p:Nat}:∀ {l n:Nat},(pth ns p l n).length≤l+1
 | 0,n=>by simp [pth]
 | l+1,n=>by
  simp only [pth]
  cases kid WA ns (wd ns n (dgt p (l+1))) with
  | none=>simp
  | some nx =>
   have:=pth_len (ns:=ns) (p:=p) (l:=l) (n:=nx)
   simp;omega
theorem lst_lt {ns:NdL} {p:Nat}:∀ {l n:Nat},n<ns.length→(lst ns p l n).1<ns.length∧(lst ns p l n).2.1≤l
 | 0,n,h=>⟨h,Nat.le_refl _⟩
 | l+1,n,h=>by
  simp only [lst]
  cases hk:kid WA ns (wd ns n (dgt p (l+1))) with
  | none=>exact ⟨h,Nat.le_refl _⟩
  | some nx =>
   have:=lst_lt (ns:=ns) (p:=p) (l:=l) (kid_lt hk)
   exact ⟨this.1,by simp only;omega⟩
theorem lst_word {ns:NdL} {p:Nat}:∀ {l n:Nat},(lst ns p l n).2.2=wd ns (lst ns p l n).1 (dgt p (lst ns p l n).2.1)
 | 0,n=>rfl
 | l+1,n=>by
  simp only [lst]
  cases hk:kid WA ns (wd ns n (dgt p (l+1))) with
  | none=>rfl
  | some nx=>exact lst_word
def srow (s:Stp):List AV:=[I s.1,I s.2.1,U s.2.2]
def srows (l:List Stp):List (List AV):=l.map srow
@[simp] theorem srows_length (l:List Stp):(srows l).length=l.length:=by simp [srows]
def stV (s:Stp):AV:=.agg (srow s)
def rtN (t:Tb):Nat:=(fnd t.2.1 t.1).getD 0
def ptO (t:Tb) (p:Nat):Prop:=tbOK t∧ascN t.2.1∧p<512∧(∃ r,fnd t.2.1 t.1=some r)∧pok t.2.1 p 2 (rtN t)
def ptL (t:Tb) (p:Nat):List Stp:=pth t.2.1 p 2 (rtN t)
def lsT (t:Tb) (p:Nat):Stp:=lst t.2.1 p 2 (rtN t)
theorem decR_tab {w:Nat}:tabW w=none↔(decR w).1.1≠4:=by
 unfold tabW
 split<;>simp [*]
theorem s121 (X:AX) (hX:XOK Try.prog X) (hw:X.W wT) (hix:∀ t:Tb,tbOK t→∀ M n,X.call 68 [TbV t] M n=some (.mp n 1,[(n,.map 1 1 (idxE t.2.1 t.2.1.length))]))
  (hdg:∀ (p l:Nat),p<512→l≤2→∀ M n,X.call 138 [I p,I l] M n=some (I (dgt p l),[])) (hen:∀ w:Nat,w<2^64→∀ M n,X.call 143 [U w] M n=some (EnV (decR w).1,[])) :
  PSound Try.prog 121 (specF (ι:={x:Tb×Nat // ptO x.1 x.2}) (fun x=>[TbV x.1.1,I x.1.2]) fun x=>retOf [.ow 3 (srows (ptL x.1.1 x.1.2))]):=by
 refine psound_spec hX mixed Try.func121 rfl fun ⟨⟨⟨r,ns,ds⟩,p⟩,ht,ha,hp,⟨rt,hrt⟩,hpo⟩ w0 G=>⟨by show 2≤46;decide,rfl,?_⟩
 show AW ⟨Try.prog,X,46,w0,.pure G⟩ _ _ _
 have hc:Cx.OK ⟨Try.prog,X,46,w0,.pure G⟩:=⟨hX,mixed⟩
 simp only at ha hp hrt hpo
 have hix':=hix (r,ns,ds) ht
 have hget:=idxE_get ha r
 rw [hrt] at hget
 try simp only [Option.map_some] at hget
 have hrl:=fnd_lt hrt
 have hl1:ns.length≤1000000:=ht.2.1
 have hrn:rtN (r,ns,ds)=rt:=by unfold rtN;simp only;rw [hrt];rfl
 rw [hrn] at hpo
 obtain ⟨F,hF⟩:∃ F,F=ptL (r,ns,ds) p:=⟨_,rfl⟩
 simp only [TbV,← hF] at hix' ⊢
 unfold ptL at hF
 rw [hrn] at hF
 simp only at hF
 have zS:=jj hix'<|hget
 repeat' (first|(apply aw_seq_k;intro K hK)|(refine eM64 ?_)|(refine aw_cond (b:=_) (by exact rfl) (fun h=>?_) (fun h=>?_)<;>(try simp at h))|(refine eB ?_)|(refine hK _ ?_;clear hK)|(clear hK;refine hK _ ?_;clear hK)|(clear hK;clear hK;refine hK _ ?_;clear hK)|(clear hK;clear hK;clear hK;refine hK _ ?_;clear hK))
 all_goals clear zS
 refine aw_weaken (le_nilslot (t:=7) (sz:=3) (by simp)) ?_
 refine aw_loopK (s0:=?lps1) (m0:=?lpm1) (ι:={s:Nat×Nat×List Stp // s.1≤2∧s.2.1<ns.length∧pok ns p s.1 s.2.1∧s.2.2++pth ns p s.1 s.2.1=F}) [1,2,5] (fun s=>[(8,I s.1.1),(6,I s.1.2.1),(7,.sl 192 1 3 0 s.1.2.2.length)]) (fun s=>[(192,.vec 1 3 false (srows s.1.2.2))]) (fun s=>s.1.1) ⟨(2,rt,[]),by simp,hrl,hpo,hF.symm⟩ ?lhs1 ?lhm1 ?_ ?_
 case lhs1=>first|(simp [keepS];done)|(simp [keepS];rfl)
 case lhm1=>first|rfl|(simp;done)|(simp;rfl)
 ·exact le_of2 (by simp) (by simp [AVle,AV.under,AV.underL,srows]<;>omega) (by simp [AOle,AO.under,AV.underL,AV.under,srows]<;>omega)
 ·rintro ⟨⟨l,n,acc⟩,hl,hn,hpk,hacc⟩
  simp only at hl hn hpk hacc ⊢
  have hnN:(n:Int)<(ns.length:Int):=by omega
  have hdl:=dgt_lt p l
  have hdI:(dgt p l:Int)<8:=by omega
  have hgn:=nrows_gi hn
  have hgnE:=nrows_gE hn
  have h8:(gn ns n).2.length=8:=(ht.1 _ (gn_mem hn)).1
  have hw8:=wcs_gi (l:=(gn ns n).2) (i:=dgt p l) (by omega)
  have hwE:=wcs_gE (l:=(gn ns n).2) (i:=dgt p l) (by omega)
  have hw64:=wd_lt ht (n:=n) (i:=dgt p l) hn
  have hdg':=hdg p l hp hl
  have hlen:(acc++pth ns p l n).length≤3+acc.length:=by rw [List.length_append];have:=pth_len (ns:=ns) (p:=p) (l:=l) (n:=n);omega
  obtain ⟨w,hwd⟩:∃ w,w=wd ns n (dgt p l):=⟨_,rfl⟩
  have hwg:(gn ns n).2.getD (dgt p l) 0=w:=hwd.symm
  rw [hwg] at hw8 hwE
  simp only at hw64
  rw [← hwd] at hw64
  have hwl:(wcs (gn ns n).2).length=8:=by simp [h8]
  obtain ⟨⟨fr,ws⟩,hm⟩:∃ m,m=gn ns n:=⟨_,rfl⟩
  rw [← hm] at hgn hgnE hw8 hwE hwl
  simp only at hgn hgnE hw8 hwE hwl
  obtain ⟨cs,hcs⟩:∃ cs,cs=wcs ws:=⟨_,rfl⟩
  rw [← hcs] at hgn hgnE hw8 hwE hwl
  clear hcs hm h8 hwg
  have hen':=hen w hw64
  have hst:∀ (x:List Stp),srows acc++[[I n,I l,U w]]=srows (acc++[(n,l,w)]):=fun _=>by simp [srows,srow]
  have hst:=hst []
  have htk:List.take acc.length (srows acc)=srows acc:=List.take_of_length_le (by simp)
  have hal:acc.length≤1000:=by
   have h1:F.length≤3:=by rw [hF];exact pth_len
   rw [← hacc,List.length_append] at h1;omega
  have hdR:tabW w=if (decR w).1.1=4 then some (decR w).1.2.1 else none:=rfl
  obtain ⟨⟨⟨k,f,d,a,x,h⟩,e⟩,hE⟩:∃ r,r=decR w:=⟨_,rfl⟩
  rw [← hE] at hen' hdR
  clear hE
  simp only [EnV,U] at hen' hw8 hwE hst hdR
  obtain ⟨dg,hdg0⟩:∃ dg,dg=dgt p l:=⟨_,rfl⟩
  rw [← hdg0] at hdl hdI hw8 hwE hdg' hwd
  rcases Decidable.em (k=4) with hk|hk
  ·subst hk
   simp only [if_true] at hdR
   cases l with
   | zero =>
    simp only [pok] at hpk
    rw [← hdg0,← hwd,hdR] at hpk
    simp at hpk
   | succ l =>
    simp only [pok,pth] at hpk hacc
    rw [← hdg0,← hwd] at hpk hacc
    obtain ⟨nx,hfn,hpk2⟩:=hpk f hdR
    have hkid:kid WA ns w=some nx:=kid_some.2 ⟨f,hdR,hfn⟩
    rw [hkid] at hacc
    simp only at hacc
    have hg2:=idxE_get ha f
    rw [hfn] at hg2
    try simp only [Option.map_some] at hg2
    have hnx:=fnd_lt hfn
    have hlI:((l+1:Nat):Int)=(l:Int)+1:=by omega
    rw [hlI] at hdg' hst ⊢
    have hl1I:((l:Int)+1 - 1)=(l:Int):=by omega
    have zS:=jj hdg'<|jj hn<|jj hnN<|jj hgn<|jj hgnE<|jj hw8<|jj hwE<|jj hwl<|jj hdl<|jj hdI<|jj hen'<|jj hg2<|jj htk<|jj hst<|jj hal<|hl1I
    repeat' (first|(apply aw_seq_k;intro K hK)|(refine eM64 ?_)|(refine aw_cond (b:=_) (by exact rfl) (fun h=>?_) (fun h=>?_)<;>(try simp at h))|(refine eB ?_)|(refine hK _ ?_;clear hK)|(clear hK;refine hK _ ?_;clear hK)|(clear hK;clear hK;refine hK _ ?_;clear hK)|(clear hK;clear hK;clear hK;refine hK _ ?_;clear hK))
    all_goals clear zS
    refine ⟨l,nx,acc++[(n,l+1,w)],?_,⟨by omega,hnx,hpk2,by simpa using hacc⟩,by omega⟩
    simp only [List.length_append,List.length_singleton]
    refine le_turn (s1:=?tus2) (m1:=?tum2) [] [1,2,5,6,7,8] [0,48,192] ?tua2 ?tub2 ?tuc2 ?tud2 ?tue2 ?tuf2 ?tug2
    case tua2=>first|(simp [keepS];done)|(simp [keepS];rfl)
    case tub2=>first|(simp;done)|(simp;rfl)
    case tuc2=>simp
    case tud2=>simp
    case tue2=>simp
    case tuf2=>simp
    case tug2 =>
     simp [swp,vr]
     exact dle
  ·have hkid:kid WA ns w=none:=by unfold kid;show (tabW w).bind _=none;rw [hdR,if_neg hk];rfl
   have hfin:F=acc++[(n,l,w)]:=by
    cases l with
    | zero=>simp only [pth] at hacc;rw [← hdg0,← hwd] at hacc;exact hacc.symm
    | succ l=>simp only [pth] at hacc;rw [← hdg0,← hwd,hkid] at hacc;exact hacc.symm
   rw [hfin]
   have zS:=jj hdg'<|jj hn<|jj hnN<|jj hgn<|jj hgnE<|jj hw8<|jj hwE<|jj hwl<|jj hdl<|jj hdI<|jj hen'<|jj hk<|jj htk<|jj hst<|hal
   repeat' (first|(apply aw_seq_k;intro K hK)|(refine eM64 ?_)|(refine aw_cond (b:=_) (by exact rfl) (fun h=>?_) (fun h=>?_)<;>(try simp at h))|(refine eB ?_)|(refine hK _ ?_;clear hK)|(clear hK;refine hK _ ?_;clear hK)|(clear hK;clear hK;refine hK _ ?_;clear hK)|(clear hK;clear hK;clear hK;refine hK _ ?_;clear hK))
   all_goals clear zS
   have htk2:List.take (acc.length+1) (srows (acc++[(n,l,w)]))=srows (acc++[(n,l,w)]):=List.take_of_length_le (by simp)
   refine ⟨by simp,?_⟩
   simp [leaves_iff,Try.f121,htk2]
   try exact dt
end Go.AM
namespace Go.AM
open Go Go.Proofs
theorem srows_last {ns:NdL} {p l n:Nat}:(srows (pth ns p l n))[(pth ns p l n).length - 1]?=some (srow (lst ns p l n)):=by
 obtain ⟨i,hi⟩:=pth_lst (ns:=ns) (p:=p) (l:=l) (n:=n)
 rw [hi]
 simp [srows]
theorem pth_pos {ns:NdL} {p l n:Nat}:1≤(pth ns p l n).length:=by
 obtain ⟨i,hi⟩:=pth_lst (ns:=ns) (p:=p) (l:=l) (n:=n)
 rw [hi];simp
set_option maxHeartbeats 2000000 in
theorem s72 (X:AX) (hX:XOK Try.prog X) (hw:X.W wT) (hpa:∀ (t:Tb) (p:Nat),ptO t p→∀ M n,X.call 121 [TbV t,I p] M n=some (.sl n 1 3 0 (ptL t p).length,[(n,.vec 1 3 false (srows (ptL t p)))])) :
  PSound Try.prog 72 (specF (ι:={x:Tb×Nat // ptO x.1 x.2}) (fun x=>[TbV x.1.1,I x.1.2]) fun x=>retOf [stV (lsT x.1.1 x.1.2)]):=by
 refine psound_spec hX mixed Try.func72 rfl fun ⟨⟨⟨r,ns,ds⟩,p⟩,ht⟩ w0 G=>⟨by show 2≤15;decide,rfl,?_⟩
 show AW ⟨Try.prog,X,15,w0,.pure G⟩ _ _ _
 have hc:Cx.OK ⟨Try.prog,X,15,w0,.pure G⟩:=⟨hX,mixed⟩
 have hpa':=hpa _ _ ht
 have hla:=srows_last (ns:=ns) (p:=p) (l:=2) (n:=rtN (r,ns,ds))
 have hpo:=pth_pos (ns:=ns) (p:=p) (l:=2) (n:=rtN (r,ns,ds))
 have hle:=pth_len (ns:=ns) (p:=p) (l:=2) (n:=rtN (r,ns,ds))
 have e1:ptL (r,ns,ds) p=pth ns p 2 (rtN (r,ns,ds)):=rfl
 have e2:lsT (r,ns,ds) p=lst ns p 2 (rtN (r,ns,ds)):=rfl
 simp only [e1,e2,TbV,stV] at hpa' ⊢
 obtain ⟨L,hL⟩:∃ L,L=pth ns p 2 (rtN (r,ns,ds)):=⟨_,rfl⟩
 obtain ⟨⟨a,b,c⟩,hS⟩:∃ S,S=lst ns p 2 (rtN (r,ns,ds)):=⟨_,rfl⟩
 rw [← hL] at hpa' hla hpo hle
 rw [← hS] at hla ⊢
 obtain ⟨k,hk⟩:∃ k,L.length=k+1:=⟨L.length - 1,by omega⟩
 rw [hk] at hpa' hla
 rw [Nat.add_sub_cancel] at hla
 have hkI:((k+1:Nat):Int) - 1=k:=by omega
 have hkJ:((k:Int)+1) - 1=k:=by omega
 have hlE:∀ h',(srows L)[k]'(h')=srow (a,b,c):=fun h'=>by
  rw [List.getElem?_eq_getElem h'] at hla
  exact Option.some.inj hla
 simp only [srow,U] at hla hlE ⊢
 have hk3:k≤2:=by omega
 have zS:=jj hpa'<|jj hkI<|jj hkJ<|jj hla<|jj hlE<|jj hk<|hk3
 refine dM64 ?_
 repeat (intro K hK)
 clear zS
 refine ⟨by simp,?_⟩
 simp [leaves_iff,Try.f72]
 try exact dt
noncomputable def ckd (t:Tb) (n lim:Int):Int:=if chk t≠0 then chk t else if n<0∨lim≤n then 2 else 0
theorem s104 (X:AX) (hX:XOK Try.prog X) (hw:X.W wT) (hch:∀ t:Tb,tbOK t→∀ M n,X.call 28 [TbV t] M n=some (I (chk t),[])) :
  PSound Try.prog 104 (specF (ι:={x:Tb×Int×Int // tbOK x.1}) (fun x=>[TbV x.1.1,I x.1.2.1,I x.1.2.2]) fun x=>retOf [I (ckd x.1.1 x.1.2.1 x.1.2.2)]):=by
 refine psound_spec hX mixed Try.func104 rfl fun ⟨⟨⟨r,ns,ds⟩,n,lim⟩,ht⟩ w0 G=>⟨by show 3≤20;decide,rfl,?_⟩
 show AW ⟨Try.prog,X,20,w0,.pure G⟩ _ _ _
 have hc:Cx.OK ⟨Try.prog,X,20,w0,.pure G⟩:=⟨hX,mixed⟩
 have hch':=hch _ ht
 unfold ckd
 obtain ⟨c,hc0⟩:∃ c,c=chk (r,ns,ds):=⟨_,rfl⟩
 simp only [TbV,← hc0] at hch' ⊢
 rcases Decidable.em (c=0) with h0|h0
 ·subst h0
  rcases Decidable.em (n<0) with h1|h1
  ·have zS:=jj hch'<|h1
   refine dM64 ?_
   repeat (intro K hK)
   clear zS
   refine ⟨by simp,?_⟩
   simp [leaves_iff,Try.f104,h1]
   try exact dt
  ·rcases Decidable.em (lim≤n) with h2|h2
   ·have zS:=jj hch'<|jj h1<|h2
    refine dM64 ?_
    repeat (intro K hK)
    clear zS
    refine ⟨by simp,?_⟩
    simp [leaves_iff,Try.f104,h1,h2]
    try exact dt
   ·have zS:=jj hch'<|jj h1<|h2
    refine dM64 ?_
    repeat (intro K hK)
    clear zS
    refine ⟨by simp,?_⟩
    simp [leaves_iff,Try.f104,h1,h2]
    try exact dt
 ·have zS:=jj hch'<|h0
  refine dM64 ?_
  repeat (intro K hK)
  clear zS
  refine ⟨by simp,?_⟩
  simp [leaves_iff,Try.f104,h0]
  try exact dt
end Go.AM
namespace Go.AM
open Go Go.Proofs
structure Pv (t:Tb):Prop where
 asc:ascN t.2.1
 vm:VM WA (Mof t.2.1) t.1
theorem Vt.pv {t:Tb} (h:Vt t):Pv t:=⟨h.num.asc,h.vm⟩
def wlk (M:Mm) (root:Int) (p:Nat):Int×Nat×Nat:=match frP WA M root 2 (p/8) with
 | some f=>(f,0,wM M f (p%8))
 | none=>match frP WA M root 1 (p/64) with
  | some f=>(f,1,wM M f (p/8%8))
  | none=>(root,2,wM M root (p/64))
theorem Pv.root {t:Tb} (h:Pv t):fnd t.2.1 t.1=some (rtN t):=by
 obtain ⟨ws,h1,_⟩:=h.vm.nd 0 0 Pos0 t.1 rfl
 obtain ⟨r,h2,_⟩:=Mof_some.1 h1
 unfold rtN
 rw [h2];rfl
theorem Pv.walk {t:Tb} (h:Pv t) {p:Nat} (hp:p<512):pok t.2.1 p 2 (rtN t)∧fnd t.2.1 (wlk (Mof t.2.1) t.1 p).1=some (lsT t p).1∧(lsT t p).2=(wlk (Mof t.2.1) t.1 p).2:=by
 have hr:=h.root
 have d2:dgt p 2=p/64:=by unfold dgt;simp;omega
 have d1:dgt p 1=p/8%8:=by unfold dgt;simp
 have d0:dgt p 0=p%8:=by unfold dgt;simp
 unfold lsT wlk
 simp only [pok,lst,d2,d1,d0]
 have q2:=h.vm.nd
 have f1:frP WA (Mof t.2.1) t.1 1 (p/64)=tabW (wd t.2.1 (rtN t) (p/64)):=by
  simp only [frP,Option.bind_some]
  rw [show p/64%8=p/64 by omega,wM_Mof hr]
  rfl
 have f2:frP WA (Mof t.2.1) t.1 2 (p/8)=(frP WA (Mof t.2.1) t.1 1 (p/64)).bind fun f=>tabW (wM (Mof t.2.1) f (p/8%8)):=by
  show (frP WA (Mof t.2.1) t.1 1 (p/8/8)).bind _=_
  rw [show p/8/8=p/64 by omega]
  rfl
 cases h1:tabW (wd t.2.1 (rtN t) (p/64)) with
 | none =>
  rw [h1] at f1
  rw [f1] at f2
  have hk:kid WA t.2.1 (wd t.2.1 (rtN t) (p/64))=none:=by unfold kid;show (tabW _).bind _=none;rw [h1];rfl
  rw [f2,f1,hk]
  simp only [Option.bind_none]
  refine ⟨fun g hg=>by simp at hg,hr,?_⟩
  rw [wM_Mof hr]
 | some g1 =>
  rw [h1] at f1
  rw [f1] at f2
  simp only [Option.bind_some] at f2
  obtain ⟨ws,m1,_⟩:=q2 1 (p/64) (Pos1 (by omega)) g1 f1
  obtain ⟨n1,hn1,_⟩:=Mof_some.1 m1
  have hk:kid WA t.2.1 (wd t.2.1 (rtN t) (p/64))=some n1:=kid_some.2 ⟨g1,h1,hn1⟩
  rw [hk,f1]
  rw [wM_Mof hn1] at f2
  simp only
  cases h2:tabW (wd t.2.1 n1 (p/8%8)) with
  | none =>
   rw [h2] at f2
   have hk2:kid WA t.2.1 (wd t.2.1 n1 (p/8%8))=none:=by unfold kid;show (tabW _).bind _=none;rw [h2];rfl
   rw [f2,hk2]
   simp only
   refine ⟨fun g hg=>?_,hn1,?_⟩
   ·simp only [Option.some.injEq] at hg
    subst hg
    exact ⟨n1,hn1,fun g hg=>by rw [h2] at hg;simp at hg⟩
   ·rw [wM_Mof hn1]
  | some g2 =>
   rw [h2] at f2
   obtain ⟨ws2,m2,_,m3⟩:=q2 2 (p/8) (Pos2 (by omega)) g2 f2
   obtain ⟨n2,hn2,e2⟩:=Mof_some.1 m2
   have hk2:kid WA t.2.1 (wd t.2.1 n1 (p/8%8))=some n2:=kid_some.2 ⟨g2,h2,hn2⟩
   rw [f2,hk2]
   simp only
   refine ⟨fun g hg=>?_,hn2,?_⟩
   ·simp only [Option.some.injEq] at hg
    subst hg
    refine ⟨n1,hn1,fun g hg=>?_⟩
    rw [h2] at hg
    simp only [Option.some.injEq] at hg
    subst hg
    refine ⟨n2,hn2,?_⟩
    have:=m3 (p%8) (by omega)
    refine (WD_ok fun _=>true).flat _ ?_
    unfold wd
    rw [e2]
    exact this
   ·rw [wM_Mof hn2]
theorem Pv.pto {t:Tb} (h:Pv t) (ht:tbOK t) {p:Nat} (hp:p<512):ptO t p:=⟨ht,h.asc,hp,⟨_,h.root⟩,(h.walk hp).1⟩
theorem lsT_lt {t:Tb} (h:Pv t) {p:Nat} (hp:p<512):(lsT t p).1<t.2.1.length∧(lsT t p).2.1≤2:=lst_lt (fnd_lt h.root)
theorem chk_pv {t:Tb} (ht:tbOK t) (h:chk t=0):Pv t:=((chk_iff ht).1 h).pv
end Go.AM
namespace Go.AM
open Go Go.Proofs
theorem lsT_u64 {t:Tb} (ht:tbOK t) (h:Pv t) {p:Nat} (hp:p<512):(lsT t p).2.2<2^64:=by
 have:=lst_word (ns:=t.2.1) (p:=p) (l:=2) (n:=rtN t)
 show (lst t.2.1 p 2 (rtN t)).2.2<_
 rw [this]
 exact wd_lt ht (lst_lt (fnd_lt h.root)).1
section
variable (X:AX) (hX:XOK Try.prog X) (hw:X.W wT) (hck:∀ t:Tb,tbOK t→∀ (n lim:Int) M k,X.call 104 [TbV t,I n,I lim] M k=some (I (ckd t n lim),[]))
 (hla:∀ (t:Tb) (p:Nat),ptO t p→∀ M n,X.call 72 [TbV t,I p] M n=some (stV (lsT t p),[]))
 (hen:∀ w:Nat,w<2^64→∀ M n,X.call 143 [U w] M n=some (EnV (decR w).1,[]))
include hX hw hck hla
include hen
end
end Go.AM
namespace Go.AM
section
variable {β:Type}
end
section
variable {ns:NdL}
theorem mem_Mof (ha:ascN ns) {f:Int} {ws:List Nat}:(f,ws)∈ns↔Mof ns f=some ws:=by
 constructor
 ·intro h
  obtain ⟨i,hi,e⟩:=List.getElem_of_mem h
  have h1:=fnd_at ha hi
  rw [List.getD_eq_getElem?_getD,List.getElem?_eq_getElem hi,Option.getD_some,e] at h1
  refine Mof_some.2 ⟨i,h1,?_⟩
  rw [List.getD_eq_getElem?_getD,List.getElem?_eq_getElem hi,Option.getD_some,e]
 ·intro h
  obtain ⟨i,h1,rfl⟩:=Mof_some.1 h
  have hi:=fnd_lt h1
  have h2:=fnd_frame h1
  rw [← h2]
  rw [List.getD_eq_getElem?_getD,List.getElem?_eq_getElem hi,Option.getD_some]
  exact List.getElem_mem hi
theorem Mof_none (ha:ascN ns) {f:Int}:Mof ns f=none↔∀ n∈ns,n.1≠f:=by
 constructor
 ·rintro h ⟨g,ws⟩ hn e
  simp only at e
  subst e
  rw [(mem_Mof ha).1 hn] at h;simp at h
 ·intro h
  cases hm:Mof ns f with
  | none=>rfl
  | some ws=>exact absurd rfl (h _ ((mem_Mof ha).2 hm))
def setN (ns:NdL) (n i w:Nat):NdL:=ns.set n ((ns.getD n (0,[])).1,(ns.getD n (0,[])).2.set i w)
@[simp] theorem setN_len {n i w:Nat}:(setN ns n i w).length=ns.length:=by simp [setN]
theorem setN_asc (ha:ascN ns) {n i w:Nat} (hn:n<ns.length):ascN (setN ns n i w):=by
 have hk:∀ j (hj:j<(setN ns n i w).length) (hj2:j<ns.length),((setN ns n i w)[j]).1=(ns[j]).1:=fun j hj hj2=>by
  unfold setN at hj ⊢
  rw [List.getElem_set]
  split
  ·rename_i e
   subst e
   simp only
   rw [List.getD_eq_getElem?_getD,List.getElem?_eq_getElem hn];rfl
  ·rfl
 refine List.pairwise_iff_getElem.2 fun a b h1 h2 h3=>?_
 rw [hk a h1 (by simpa using h1),hk b h2 (by simpa using h2)]
 exact List.pairwise_iff_getElem.1 ha a b _ _ h3
theorem Mof_set (ha:ascN ns) {f:Int} {n i w:Nat} (hf:fnd ns f=some n):∀ g,Mof (setN ns n i w) g=updW (Mof ns) f i w g:=by
 intro g
 have hn:=fnd_lt hf
 have hi:ascN (setN ns n i w):=setN_asc ha hn
 have hfr:=fnd_frame hf
 have hmem:∀ x,x∈setN ns n i w↔x=(f,(ns.getD n (0,[])).2.set i w)∨(x∈ns∧x.1≠f):=fun x=>by
  constructor
  ·intro hx
   obtain ⟨j,hj,rfl⟩:=List.getElem_of_mem hx
   unfold setN at hj ⊢
   rw [List.getElem_set]
   split
   ·rw [hfr];exact .inl rfl
   ·rename_i e
    right
    have hj2:j<ns.length:=by simpa using hj
    refine ⟨List.getElem_mem hj2,fun e2=>e ?_⟩
    have h1:=fnd_at ha hj2
    rw [List.getD_eq_getElem?_getD,List.getElem?_eq_getElem hj2,Option.getD_some,e2,hf] at h1
    simpa using h1
  ·rintro (rfl|⟨h1,h2⟩)
   ·have:(setN ns n i w)[n]'(by simpa using hn)=(f,(ns.getD n (0,[])).2.set i w):=by
     unfold setN;rw [List.getElem_set,if_pos rfl,hfr]
    rw [← this];exact List.getElem_mem _
   ·obtain ⟨j,hj,rfl⟩:=List.getElem_of_mem h1
    have hjn:n≠j:=fun e=>h2 (by
     subst e
     rw [List.getD_eq_getElem?_getD,List.getElem?_eq_getElem hj,Option.getD_some] at hfr
     exact hfr)
    have:(setN ns n i w)[j]'(by simpa using hj)=ns[j]:=by
     unfold setN;rw [List.getElem_set,if_neg hjn]
    rw [← this];exact List.getElem_mem _
 unfold updW
 split
 ·rename_i e
  subst e
  have h1:Mof ns g=some (ns.getD n (0,[])).2:=Mof_some.2 ⟨n,hf,rfl⟩
  rw [h1]
  exact (mem_Mof hi).1 ((hmem _).2 (.inl rfl))
 ·rename_i e
  cases h:Mof ns g with
  | none =>
   refine (Mof_none hi).2 fun x hx=>?_
   rcases (hmem x).1 hx with rfl|⟨h1,h2⟩
   ·exact fun h=>e h.symm
   ·exact (Mof_none ha).1 h x h1
  | some us=>exact (mem_Mof hi).1 ((hmem _).2 (.inr ⟨(mem_Mof ha).2 h,e⟩))
end
end Go.AM
namespace Go.AM
open Go Go.Proofs
def TbO (t:Tb):AV:=.agg [I t.1,.ow 9 (nrows t.2.1),.ow 2 (prows t.2.2)]
end Go.AM
namespace Go.AM
open Go Go.Proofs
theorem prows_append (a b:List Dp):prows a++prows b=prows (a++b):=by simp [prows]
theorem prows_drop (l:List Dp) (n:Nat):(prows l).drop n=prows (l.drop n):=by simp [prows,List.map_drop]
theorem prow_flat {l:List Dp}:(AV.ow 2 (prows l)).flat:=by
 simp only [AV.flat,AV.flatV,AV.flat1]
 intro e he a ha
 obtain ⟨x,_,rfl⟩:=List.mem_map.1 he
 simp at ha
 rcases ha with rfl|rfl<;>trivial
def two2 (_:Nat):Nat:=2
theorem ins_shift {α:Type} {L P S A:List α} {x:α} {i n:Nat} (hL:L=P++S) (hi:P.length=i) (hn:L.length=n) (h1:1≤A.length) (hS:i<n) :
  P++x::S=List.take (n+1) (List.take i (List.take (i+1) (L++A)++(List.take (n - i) (List.take (n+1 - i) (List.drop i (L++A)))++List.drop (i+1+(n - i)) (L++A))) ++
   (List.take 1 [x]++List.drop (i+1) (List.take (i+1) (L++A)++(List.take (n - i) (List.take (n+1 - i) (List.drop i (L++A)))++List.drop (i+1+(n - i)) (L++A))))):=by
 subst hL hi
 obtain ⟨s,S,rfl⟩:∃ s S',S=s::S':=by cases S with|nil=>simp at hn;omega|cons a b=>exact ⟨a,b,rfl⟩
 obtain ⟨a,A,rfl⟩:∃ s S',A=s::S':=by cases A with|nil=>simp at h1|cons a b=>exact ⟨a,b,rfl⟩
 subst hn
 rw [List.length_append]
 have e1:List.take (P.length+1) (P++s::S++a::A)=P++[s]:=by simp [List.take_append,List.take_of_length_le]
 have e2:List.drop P.length (P++s::S++a::A)=s::S++a::A:=by simp
 have e3:P.length+(s::S).length - P.length=(s::S).length:=by omega
 have e4:P.length+(s::S).length+1 - P.length=(s::S).length+1:=by omega
 have e5:List.take (s::S).length (List.take ((s::S).length+1) (s::S++a::A))=s::S:=by rw [List.take_take,Nat.min_eq_left (by omega)];simp
 have e6:List.drop (P.length+1+(s::S).length) (P++s::S++a::A)=A:=by
  rw [show P.length+1+(s::S).length=(P++s::S).length+1 by simp;omega,← List.drop_drop,List.drop_left];simp
 rw [e1,e2,e3,e4,e5,e6]
 have e7:List.take P.length (P++[s]++(s::S++A))=P:=by simp
 have e8:List.drop (P.length+1) (P++[s]++(s::S++A))=s::S++A:=by
  rw [show P.length+1=(P++[s]).length by simp,List.drop_left]
 rw [e7,e8]
 have e9:P++([x].take 1++(s::S++A))=(P++x::s::S)++A:=by simp
 rw [e9,show P.length+(s::S).length+1=(P++x::s::S).length by simp;omega,List.take_left]
theorem ins_grow {α:Type} {L P S Z D:List α} {x:α} {i n:Nat} (hL:L=P++S) (hi:P.length=i) (hn:L.length=n) :
  P++x::S=List.take (n+1) (List.take (i+1) (List.take i (List.take i (L++[])++Z)++(List.take 1 [x]++List.drop (i+1) (List.take i (L++[])++Z)))++(List.take (n - i) (List.take (n - i) (List.drop i (L++[])))++D)):=by
 subst hL hi hn
 rw [List.length_append]
 have e0:List.take P.length (P++S++[])=P:=by simp
 have e1:List.take P.length (P++Z)=P:=by simp
 have e2:List.take (P.length+1) (P++(List.take 1 [x]++List.drop (P.length+1) (P++Z)))=P++[x]:=by simp [List.take_append,List.take_of_length_le]
 have e4:List.take (P.length+S.length - P.length) (List.take (P.length+S.length - P.length) (List.drop P.length (P++S++[])))=S:=by
  rw [show P.length+S.length - P.length=S.length by omega];simp
 rw [e0,e1,e2,e4]
 have e3:P++[x]++(S++D)=(P++x::S)++D:=by simp
 rw [e3,show P.length+S.length+1=(P++x::S).length by simp;omega,List.take_left]
noncomputable def FInsD:AV→List AV→Option (AV×AV):=specM (ι:={x:List Dp×Nat×Dp // x.2.1≤x.1.length∧x.1.length≤1000000}) (fun x=>.ow 2 (prows x.1.1)) (fun x=>[I x.1.2.1,.rd 2 (prows [x.1.2.2])]) (fun x=>retOf [.ow 2 (prows (x.1.1.take x.1.2.1++x.1.2.2::x.1.1.drop x.1.2.1))]) fun _=>.any
theorem FInsD_at (l:List Dp) (i:Nat) (a b:Int) (h:i≤l.length∧l.length≤1000000):FInsD (.ow 2 (prows l)) [I i,.rd 2 [[I a,I b]]]=some (.ow 2 (prows (l.take i++(a,b)::l.drop i)),.any) :=
 specM_eq (A0:=fun x:{x:List Dp×Nat×Dp // x.2.1≤x.1.length∧x.1.length≤1000000}=>AV.ow 2 (prows x.1.1)) (A:=fun x=>[I x.1.2.1,.rd 2 (prows [x.1.2.2])]) (R:=fun x=>retOf [.ow 2 (prows (x.1.1.take x.1.2.1++x.1.2.2::x.1.1.drop x.1.2.1))]) (O:=fun _=>.any) ⟨(l,i,(a,b)),h⟩ (by
  rintro ⟨⟨l',i',x'⟩,h1,h2⟩ e1 e2
  simp only [AV.ow.injEq,prows_inj,true_and] at e1
  simp only [List.cons.injEq,AV.v.injEq,Value.int.injEq,true_and,AV.rd.injEq,prows_inj,and_true,Int.ofNat_inj] at e2
  obtain ⟨rfl,rfl⟩:=e2
  subst e1
  exact ⟨rfl,rfl⟩)
end Go.AM
namespace Go.AM
open Go Go.Proofs
def putT (t:Tb) (p w:Nat):Tb:=(t.1,setN t.2.1 (lsT t p).1 (dgt p (lsT t p).2.1) w,t.2.2)
end Go.AM
namespace Go.AM
open Go Go.Proofs
theorem setN_ok {ns:NdL} {n i w:Nat} (h:∀ x∈ns,ndOK x) (hw:w<2^64) (hn:n<ns.length):∀ x∈setN ns n i w,ndOK x:=fun x hx=>by
 rcases List.mem_or_eq_of_mem_set hx with h1|h1
 ·exact h x h1
 ·rw [h1]
  have hm:=h _ (gn_mem hn)
  refine ⟨by simp only [List.length_set];exact hm.1,fun y hy=>?_⟩
  rcases List.mem_or_eq_of_mem_set hy with h2|h2
  ·exact hm.2 y h2
  ·rw [h2];exact hw
end Go.AM
namespace Go.AM
open Go Go.Proofs
def orG (F G:List AV→List AO→Option (AV×List AO)) (avs:List AV) (ms:List AO):Option (AV×List AO):=match F avs ms with
 | some r=>some r
 | none=>G avs ms
theorem GSound.or {P:Program} {f:FuncId} {F G:List AV→List AO→Option (AV×List AO)} (h1:GSound P f F) (h2:GSound P f G):GSound P f (orG F G):=fun w l E args avs ms r ms' h=>by
 unfold orG at h
 cases hf:F avs ms with
 | some x=>rw [hf] at h;exact h1 w l E args avs ms r ms' (hf.trans h)
 | none=>rw [hf] at h;exact h2 w l E args avs ms r ms' h
end Go.AM
namespace Go.AM
open Go Go.Proofs
theorem decR_0:decR 0=(zE,0):=by rfl
theorem kind0 {l w:Nat} (h:okWb l w=true):(decR w).1.1=0↔w=0:=by
 constructor
 ·intro h0
  unfold okWb at h
  simp only [Bool.and_eq_true,decide_eq_true_eq] at h
  by_cases he:encR (prs w)=((w:Int),0)
  ·rw [decR_z he] at h0
   simp only at h0
   by_cases hb:badF (prs w)
   ·rw [encR_f (by rw [h0];decide) hb] at he;simp at he
   ·cases hf:frmE (prs w) with
    | false=>rw [encR_m (by rw [h0];decide) hb hf] at he;simp at he
    | true =>
     rw [encR_z (by rw [h0];decide) hb hf] at he
     simp only [Prod.mk.injEq,and_true] at he
     unfold frmE noFl at hf
     rw [if_neg (by rw [h0];decide),if_neg (by rw [h0];decide),if_pos h0] at hf
     simp only [Bool.and_eq_true,decide_eq_true_eq,Bool.not_eq_true'] at hf
     unfold encW fb at he
     rw [h0,hf.1,hf.2.1,hf.2.2.1,hf.2.2.2.1,hf.2.2.2.2] at he
     simp at he
     omega
  ·rw [decR_n he] at h
   simp at h
 ·rintro rfl
  rw [decR_0];rfl
section
variable {M:Mm} {root:Int} {p:Nat}
theorem dgt2 (hp:p<512):dgt p 2=p/64:=by unfold dgt;simp;omega
theorem dgt1:dgt p 1=p/8%8:=by unfold dgt;simp
theorem dgt0:dgt p 0=p%8:=by unfold dgt;simp
theorem wlk_at (hV:VM WA M root) (hp:p<512) {f:Int} {l w:Nat} (h:wlk M root p=(f,l,w)) :
  l≤2∧(2 - l,p/8^(l+1))∈Pos∧frP WA M root (2 - l) (p/8^(l+1))=some f∧w=wM M f (dgt p l)∧tabW w=none∧okWb l w=true:=by
 have hok:∀ d q,(d,q)∈Pos→∀ f,frP WA M root d q=some f→∀ i,i<8→okWb (2 - d) (wM M f i)=true:=fun d q hx f hf i hi=>by
  obtain ⟨ws,h1,_,h3⟩:=hV.nd d q hx f hf
  unfold wM;rw [h1];exact h3 i hi
 have f1:frP WA M root 1 (p/64)=tabW (wM M root (p/64)):=by
  simp only [frP,Option.bind_some]
  rw [show p/64%8=p/64 by omega]
  rfl
 have f2:frP WA M root 2 (p/8)=(frP WA M root 1 (p/64)).bind fun f=>tabW (wM M f (p/8%8)):=by
  show (frP WA M root 1 (p/8/8)).bind _=_
  rw [show p/8/8=p/64 by omega]
  rfl
 unfold wlk at h
 cases h2:frP WA M root 2 (p/8) with
 | some g =>
  rw [h2] at h
  simp only [Prod.mk.injEq] at h
  obtain ⟨rfl,rfl,rfl⟩:=h
  have hx:=Pos2 (q:=p/8) (by omega)
  have ho:=hok 2 _ hx _ h2 (p%8) (by omega)
  refine ⟨by omega,by simpa using hx,by simpa using h2,by rw [dgt0],?_,ho⟩
  exact (WD_ok fun _=>true).flat _ ho
 | none =>
  rw [h2] at h f2
  simp only at h
  cases h1:frP WA M root 1 (p/64) with
  | some g =>
   rw [h1] at h f2
   simp only [Prod.mk.injEq] at h
   obtain ⟨rfl,rfl,rfl⟩:=h
   have hx:=Pos1 (q:=p/64) (by omega)
   have ho:=hok 1 _ hx _ h1 (p/8%8) (by omega)
   exact ⟨by omega,by simpa using hx,by simpa using h1,by rw [dgt1],f2.symm,ho⟩
  | none =>
   rw [h1] at h f1
   simp only [Prod.mk.injEq] at h
   obtain ⟨rfl,rfl,rfl⟩:=h
   have ho:=hok 0 0 Pos0 _ rfl (p/64) (by omega)
   refine ⟨by omega,by simp;rw [show p/512=0 by omega];exact Pos0,by simp [frP],by rw [dgt2 hp],f1.symm,ho⟩
theorem wlk_of (hp:p<512) {f:Int} {l:Nat} (hl:l≤2) (h:frP WA M root (2 - l) (p/8^(l+1))=some f) (h2:tabW (wM M f (dgt p l))=none∨l=0):wlk M root p=(f,l,wM M f (dgt p l)):=by
 have f2:frP WA M root 2 (p/8)=(frP WA M root 1 (p/64)).bind fun f=>tabW (wM M f (p/8%8)):=by
  show (frP WA M root 1 (p/8/8)).bind _=_
  rw [show p/8/8=p/64 by omega]
  rfl
 have f1:frP WA M root 1 (p/64)=tabW (wM M root (p/64)):=by
  simp only [frP,Option.bind_some]
  rw [show p/64%8=p/64 by omega]
  rfl
 unfold wlk
 rcases (by omega:l=0∨l=1∨l=2) with rfl|rfl|rfl
 ·simp at h
  rw [h];simp [dgt0]
 ·simp at h
  rw [dgt1] at h2
  have h2:=h2.resolve_right (by omega)
  rw [h,Option.bind_some,h2] at f2
  rw [f2,h];simp [dgt1]
 ·simp [frP] at h
  subst h
  rw [dgt2 hp] at h2
  have h2:=h2.resolve_right (by omega)
  rw [h2] at f1
  rw [f1] at f2
  rw [f2,f1];simp [dgt2 hp]
end
theorem Mof_ext {a b:Mm} (h:∀ g,a g=b g):a=b:=funext h
end Go.AM
namespace Go.AM
open Go Go.Proofs
def zT:Tb:=(0,[],[])
end Go.AM
namespace Go.AM
open Go Go.Proofs
theorem decR_rng (w:Nat):0≤(decR w).1.2.1∧(decR w).1.2.1≤4294967295:=by
 unfold decR
 split
 ·exact (prs_rng w).2
 ·decide
end Go.AM
namespace Go.AM
open Go Go.Proofs
theorem Pv.put {r:Int} {ns:NdL} {ds:List Dp} (h:Pv (r,ns,ds)) (ht:tbOK (r,ns,ds)) {p:Nat} (hp:p<512) {f:Int} {l w0 w:Nat} (hw:wlk (Mof ns) r p=(f,l,w0)) (hw64:w<2^64) (htb:tabW w=none) (hok:okWb l w=true) :
  Pv (r,(putT (r,ns,ds) p w).2.1,ds)∧tbOK (r,(putT (r,ns,ds) p w).2.1,ds)∧Mof (putT (r,ns,ds) p w).2.1=updW (Mof ns) f (dgt p l) w∧(∀ d q,(d,q)∈Pos→frP WA (Mof (putT (r,ns,ds) p w).2.1) r d q=frP WA (Mof ns) r d q)∧(putT (r,ns,ds) p w).2.1.length=ns.length:=by
 obtain ⟨hl2,hx,hfp,hwm,htn,_⟩:=wlk_at h.vm hp hw
 simp only at hfp hwm hx
 have hwk:=h.walk hp
 simp only at hwk
 have hfn:=hwk.2.1
 have hlv:=hwk.2.2
 rw [hw] at hfn hlv
 simp only at hfn hlv
 have hnl:(lsT (r,ns,ds) p).1<ns.length:=fnd_lt hfn
 have hst:(putT (r,ns,ds) p w).2.1=setN ns (lsT (r,ns,ds) p).1 (dgt p l) w:=by unfold putT;simp only [hlv]
 have hM:Mof (putT (r,ns,ds) p w).2.1=updW (Mof ns) f (dgt p l) w:=by rw [hst];exact Mof_ext (Mof_set h.asc hfn)
 have hpt:=h.vm.put hx hfp (i:=dgt p l) (w:=w) (dgt_lt p l) (by show tabW w=tabW _;rw [← hwm,htb,htn]) (by show okWb (2 - (2 - l)) w=true;rw [show 2 - (2 - l)=l by omega];exact hok)
 simp only at hpt
 rw [← hM] at hpt
 refine ⟨⟨by show ascN (putT (r,ns,ds) p w).2.1;rw [hst];exact setN_asc h.asc hnl,hpt.1⟩,⟨?_,?_,ht.2.2⟩,hM,hpt.2,by rw [hst,setN_len]⟩
 ·show ∀ x∈(putT (r,ns,ds) p w).2.1,ndOK x
  rw [hst];exact setN_ok ht.1 hw64 hnl
 ·show (putT (r,ns,ds) p w).2.1.length≤_
  rw [hst,setN_len];exact ht.2.1
end Go.AM
namespace Go.AM
open Go Go.Proofs
set_option maxRecDepth 20000
theorem sameKV_int {q:IntKind}:∀ {n:Nat} {xs:List Value},sameKV (List.replicate n (.int q 0)) xs=true→∃ ls:List Int,xs=ls.map (Value.int q)∧ls.length=n
 | 0,[],_=>⟨[],rfl,rfl⟩
 | 0,x::xs,h=>by simp [sameKV] at h
 | n+1,[],h=>by simp [List.replicate_succ,sameKV] at h
 | n+1,x::xs,h=>by
  rw [List.replicate_succ] at h
  cases x<;>simp only [sameKV,Bool.and_eq_true,decide_eq_true_eq,Bool.false_eq_true] at h
  obtain ⟨rfl,h⟩:=h
  obtain ⟨ls,rfl,h2⟩:=sameKV_int h
  exact ⟨_::ls,rfl,by simp [h2]⟩
theorem eqV_int {q:IntKind}:∀ {ls:List Int} {ys:List Value} {b:Bool},eqV (ls.map (Value.int q)) ys=some b→∃ bs:List Int,ys=bs.map (Value.int q)∧bs.length=ls.length∧b=decide (ls=bs)
 | [],[],b,h=>by simp [eqV] at h;exact ⟨[],rfl,rfl,by simp [h]⟩
 | [],y::ys,b,h=>by simp [eqV] at h
 | a::ls,[],b,h=>by simp [eqV] at h
 | a::ls,y::ys,b,h=>by
  cases y<;>simp only [List.map_cons,eqV,reduceCtorEq] at h
  split at h
  case isFalse=>simp at h
  rename_i hk
  subst hk
  cases hr:eqV (ls.map (Value.int q)) ys with
  | none=>rw [hr] at h;simp at h
  | some r =>
   rw [hr] at h
   simp only [Option.map_some,Option.some.injEq] at h
   obtain ⟨bs,rfl,h2,rfl⟩:=eqV_int hr
   refine ⟨_::bs,rfl,by simp [h2],?_⟩
   rw [← h]
   simp
theorem eqI (w:World) {e:TypeId} {q:IntKind} (he:Try.prog.plainKey e=true) (hu:Try.prog.underlying e=some (.int q)) (d:Nat):∀ {ls bs:List Int} {k:Nat} {px py:List Value},px.length=k→py.length=k→ls.length=bs.length →
  (Op.eqItems (d+1) e 1 (px++ls.map (Value.int q)).toArray (py++bs.map (Value.int q)).toArray (List.range' k ls.length)).run Try.prog w=.ok (decide (ls=bs)) w
 | [],[],k,px,py,hp,hq,_=>rfl
 | [],_::_,_,_,_,_,_,h=>by simp at h
 | _::_,[],_,_,_,_,_,h=>by simp at h
 | a::ls,b::bs,k,px,py,hp,hq,hl=>by
  have hx:(px++(a::ls).map (Value.int q)).toArray[k*1]?=some (.int q a):=by simp [← hp]
  have hy:(py++(b::bs).map (Value.int q)).toArray[k*1]?=some (.int q b):=by simp [← hq]
  have ex:px++(a::ls).map (Value.int q)=(px++[.int q a])++ls.map (Value.int q):=by simp
  have ey:py++(b::bs).map (Value.int q)=(py++[.int q b])++bs.map (Value.int q):=by simp
  rw [show (a::ls).length=ls.length+1 from rfl,List.range'_succ]
  simp only [Op.eqItems,Sem.run_bind]
  rw [run_part_plain w he hx]
  simp only [Result.andThen_ok]
  rw [run_part_plain w he hy]
  simp only [Result.andThen_ok]
  rw [run_equalIn_int w _ e q q _ _ hu]
  simp only [Result.andThen_ok]
  have ih:=eqI w he hu d (ls:=ls) (bs:=bs) (k:=k+1) (px:=px++[.int q a]) (py:=py++[.int q b]) (by simp [hp]) (by simp [hq]) (by simpa using hl)
  rw [← ex,← ey] at ih
  by_cases e1:a=b
  ·subst e1
   simp only [beq_self_eq_true,Bool.not_true,Bool.false_eq_true,if_false]
   rw [ih]
   simp
  ·have hb:(a == b)=false:=by simpa using e1
   simp only [hb,Bool.not_false,if_true,Sem.run_pure]
   simp [e1]
theorem uW8:Try.prog.underlying 52=some (.array 8 51):=by kernel_rfl
theorem uU64:Try.prog.underlying 51=some (.int .u64):=by kernel_rfl
theorem pkU64:Try.prog.plainKey 51=true:=by kernel_rfl
theorem clU64:Try.prog.cellsOf 51=1:=by kernel_rfl
theorem clW8:Try.prog.cellsOf 52=8:=by kernel_rfl
theorem eqW (w:World) {ls bs:List Int} (ha:ls.length=8) (hb:bs.length=8) (d:Nat):(Op.equalIn (d+2) 52 (.agg (ls.map (Value.int .u64)).toArray) (.agg (bs.map (Value.int .u64)).toArray)).run Try.prog w=.ok (decide (ls=bs)) w:=by
 obtain ⟨i,hi⟩:=info_of_underlying uU64
 rw [run_equalIn_array w (d+1) _ _ uW8 hi,clU64,List.range_eq_range']
 have:=eqI w pkU64 uU64 d (ls:=ls) (bs:=bs) (k:=0) (px:=[]) (py:=[]) rfl rfl (by omega)
 rw [ha] at this
 simpa using this
theorem ckI (w:World) (em:Bool) (d:Nat) {e:TypeId} {q:IntKind} (he:Try.prog.plainKey e=true) (hu:Try.prog.underlying e=some (.int q)) (hs:∀ w,(sizeOf e).run Try.prog w=.ok 1 w):∀ {ls:List Int} {k:Nat} {px:List Value},px.length=k →
  (forIn (List.range' k ls.length) PUnit.unit fun i (_:PUnit)=>(do
    let a ← sizeOf e
    let b ← part e (px++ls.map (Value.int q)).toArray (i*a)
    Instr.checkKey em (d+1) e b
    pure (ForInStep.yield PUnit.unit):Sem (ForInStep PUnit))).run Try.prog w=.ok PUnit.unit w
 | [],k,px,_=>rfl
 | a::ls,k,px,hp=>by
  have hx:(px++(a::ls).map (Value.int q)).toArray[k*1]?=some (.int q a):=by simp [← hp]
  have ex:px++(a::ls).map (Value.int q)=(px++[.int q a])++ls.map (Value.int q):=by simp
  have ih:=ckI w em d he hu hs (ls:=ls) (k:=k+1) (px:=px++[.int q a]) (by simp [hp])
  rw [← ex] at ih
  rw [show (a::ls).length=ls.length+1 from rfl,List.range'_succ]
  simp only [List.forIn_cons,Sem.run_bind]
  rw [hs]
  simp only [Result.andThen_ok]
  rw [run_part_plain w he hx]
  simp only [Result.andThen_ok,ckP (v:=.int q a) he hu,Sem.run_pure]
  exact ih
theorem szU (w:World):(sizeOf 51).run Try.prog w=.ok 1 w:=by
 obtain ⟨i,hi⟩:=info_of_underlying uU64
 rw [run_sizeOf w hi,clU64]
theorem ckW (w:World) (em:Bool) (d:Nat) {ls:List Int} (ha:ls.length=8):(Instr.checkKey em (d+2) 52 (.agg (ls.map (Value.int .u64)).toArray)).run Try.prog w=.ok () w:=by
 rw [show d+2=d+1+1 from rfl,Instr.checkKey]
 simp only [Sem.run_bind,run_underlying uW8,Result.andThen_ok]
 simp only [Std.Legacy.Range.forIn_eq_forIn_range',Std.Legacy.Range.size,Nat.sub_zero,Nat.add_one_sub_one,Nat.div_one]
 have:=ckI w em d pkU64 uU64 szU (ls:=ls) (k:=0) (px:=[]) rfl
 rw [ha] at this
 simp only [List.nil_append] at this
 rw [this]
 rfl
theorem guardW:Try.prog.eqGuardType Try.prog.depth 52=false:=by kernel_rfl
theorem eqW8:EqOK Try.prog 52:=by
 intro d hd
 rw [tyW8,Option.some.injEq] at hd
 subst hd
 refine ⟨fun w xs b hk=>?_,fun w xs ys b hk he=>⟨?_,guardW⟩⟩
 ·obtain ⟨ls,rfl,ha⟩:=sameKV_int hk
  exact ckW w b 9998 ha
 ·obtain ⟨ls,rfl,ha⟩:=sameKV_int hk
  obtain ⟨bs,rfl,hb,rfl⟩:=eqV_int he
  exact eqW w ha (by omega) 9998
theorem uN:Try.prog.underlying 54=some (.struct (Try.prog.fieldsOf 54)):=by kernel_rfl
theorem stN:Try.prog.stoodInHeld 54=false:=by kernel_rfl
theorem guardN:Try.prog.eqGuardType Try.prog.depth 54=false:=by kernel_rfl
theorem partW (w:World) (x:Value) {ls:List Int} (ha:ls.length=8):(part 52 (x::ls.map (Value.int .u64)).toArray 1).run Try.prog w=.ok (.agg (ls.map (Value.int .u64)).toArray) w:=by
 obtain ⟨i,hi⟩:=info_of_underlying uW8
 have:((x::ls.map (Value.int .u64)).toArray.extract 1 9)=(ls.map (Value.int .u64)).toArray:=by
  apply Array.ext'
  rw [Array.toList_extract]
  simp [List.extract,ha,List.take_of_length_le]
 have tk:List.take 8 (ls.map (Value.int .u64))=ls.map (Value.int .u64):=List.take_of_length_le (by simp [ha])
 simp [part,isAgg,run_underlying uW8,run_sizeOf w hi,clW8,this,tk]
theorem fldN : ∃ n1 n2 f1 f2, (Try.prog.fieldsOf 54).toList = [f1, f2] ∧ f1.name = n1 ∧ f2.name = n2 ∧ n1 ≠ "_" ∧ n2 ≠ "_" ∧ f1.type = 3 ∧ f2.type = 52 ∧ f1.offset = 0 ∧ f2.offset = 1 :=
 ⟨ "Frame", "Entries", (Try.prog.fieldsOf 54)[0]!, (Try.prog.fieldsOf 54)[1]!, by kernel_rfl, by kernel_rfl, by kernel_rfl, by decide, by decide, by kernel_rfl, by kernel_rfl, by kernel_rfl, by kernel_rfl⟩
theorem pk3:Try.prog.plainKey 3=true:=by kernel_rfl
theorem eqN:EqOK Try.prog 54:=by
 intro d hd
 rw [tyN,Option.some.injEq] at hd
 subst hd
 obtain ⟨n1,n2,f1,f2,hf,e1,e2,e3,e4,e5,e6,e7,e8⟩:=fldN
 have form:∀ {xs:List Value},sameKV (Value.int .i64 0::List.replicate 8 (.int .u64 0)) xs=true→∃ (x:Int) (ls:List Int),xs=.int .i64 x::ls.map (Value.int .u64)∧ls.length=8:=fun {xs} h=>by
  cases xs with
  | nil=>simp [sameKV] at h
  | cons x xs =>
   cases x<;>simp only [sameKV,Bool.and_eq_true,decide_eq_true_eq,Bool.false_eq_true] at h
   obtain ⟨rfl,h⟩:=h
   obtain ⟨ls,rfl,h2⟩:=sameKV_int h
   exact ⟨_,ls,rfl,h2⟩
 refine ⟨fun w xs b hk=>?_,fun w xs ys b hk he=>⟨?_,guardN⟩⟩
 ·obtain ⟨x,ls,rfl,ha⟩:=form hk
  rw [show (10000:Nat)=9999+1 from rfl,Instr.checkKey]
  simp only [Sem.run_bind,run_underlying uN,Result.andThen_ok]
  rw [← Array.forIn_toList,hf]
  have hx:(Value.int .i64 x::ls.map (Value.int .u64)).toArray[0]?=some (.int .i64 x):=by simp
  simp only [List.forIn_cons,List.forIn_nil,Sem.run_bind,e1,e2,e5,e6,e7,e8]
  rw [if_pos e3]
  simp only [Sem.run_bind]
  rw [run_part_plain w pk3 hx]
  simp only [Result.andThen_ok,ckP (v:=.int .i64 x) (d:=9998) pk3 und3,Sem.run_pure]
  rw [if_pos e4]
  simp only [Sem.run_bind]
  rw [partW w _ ha]
  simp only [Result.andThen_ok]
  rw [ckW w b 9997 ha]
  rfl
 ·obtain ⟨x,ls,rfl,ha⟩:=form hk
  cases ys with
  | nil=>simp [eqV] at he
  | cons y ys =>
   cases y<;>simp only [eqV,reduceCtorEq] at he
   split at he
   case isFalse=>simp at he
   rename_i q y hq
   subst hq
   cases hr:eqV (ls.map (Value.int .u64)) ys with
   | none=>rw [hr] at he;simp at he
   | some r =>
    rw [hr] at he
    simp only [Option.map_some,Option.some.injEq] at he
    obtain ⟨bs,rfl,hb,rfl⟩:=eqV_int hr
    unfold Op.equal
    rw [show Op.maxDepth=9999+1 from rfl,run_equalIn_agg w _ _ _ _ uN stN,hf]
    simp only [Op.eqFields]
    rw [e1,if_pos e3,e5,e7]
    simp only [Sem.run_bind]
    rw [run_part_plain w pk3 (show (Value.int .i64 x::ls.map (Value.int .u64)).toArray[0]?=some (.int .i64 x) by simp)]
    simp only [Result.andThen_ok]
    rw [run_part_plain w pk3 (show (Value.int .i64 y::bs.map (Value.int .u64)).toArray[0]?=some (.int .i64 y) by simp)]
    simp only [Result.andThen_ok]
    rw [show (9999:Nat)=9998+1 from rfl,run_equalIn_int w _ 3 .i64 .i64 _ _ und3]
    simp only [Result.andThen_ok]
    by_cases exy:x=y
    ·subst exy
     simp only [beq_self_eq_true,Bool.not_true,Bool.false_eq_true,if_false]
     rw [e2,if_pos e4,e6,e8]
     simp only [Sem.run_bind]
     rw [partW w _ ha]
     simp only [Result.andThen_ok]
     rw [partW w _ (by omega)]
     simp only [Result.andThen_ok]
     rw [show 9998+1=9997+2 from rfl,eqW w ha (by omega) 9997]
     simp only [Result.andThen_ok]
     rw [← he]
     by_cases eab:ls=bs
     ·subst eab;simp
     ·simp [eab]
    ·have hb2:(x == y)=false:=by simpa using exy
     simp only [hb2,Bool.not_false,if_true,Sem.run_pure]
     rw [← he];simp [exy]
end Go.AM
namespace Go.AM
open Go Go.Proofs
theorem list_ext_gp {a b:List Dp} (hl:a.length=b.length) (h:∀ j,j<a.length→gp a j=gp b j):a=b:=by
 refine List.ext_getElem hl fun i h1 h2=>?_
 have:=h i h1
 rw [gp_eq h1,gp_eq h2] at this
 exact this
end Go.AM
namespace Go.AM
open Go Go.Proofs
abbrev Pe:=Int×Nat
def erow (x:Pe):List AV:=[I x.1,U x.2]
def erows (l:List Pe):List (List AV):=l.map erow
@[simp] theorem erows_length (l:List Pe):(erows l).length=l.length:=by simp [erows]
@[simp] theorem tyPE:Types Try.prog 63=some ⟨.struct [(0,3,1),(1,51,1)],2,16,[.int .i64 0,.int .u64 0]⟩:=by kernel_rfl
@[simp] theorem tyPEs:Types Try.prog 60=some ⟨.slice 63,1,24,[.slice none 0 0]⟩:=by kernel_rfl
end Go.AM
namespace Go.AM
open Go Go.Proofs
def lsF (t:Tb) (p:Nat):List Pe:=if (lsT t p).2.2≠0∧((lsT t p).2.1=0∨p%8=0) then [((p:Int),(lsT t p).2.2)] else []
def lsA (t:Tb):Nat→List Pe
 | 0=>[]
 | n+1=>lsA t n++lsF t n
theorem lsA_le {t:Tb}:∀ {n:Nat},(lsA t n).length≤n
 | 0=>by simp [lsA]
 | n+1=>by
  have:=@lsA_le t n
  simp only [lsA,lsF,List.length_append]
  split<;>simp<;>omega
noncomputable def lstT (t:Tb):List Pe:=if chk t=0 then lsA t 512 else []
theorem erows_ap (a:List Pe) (x:Int) (w:Nat):erows a++[[I x,.v (.int .u64 w)]]=erows (a++[(x,w)]):=by simp [erows,erow,U]
theorem erows_tkl (a:List Pe):List.take a.length (erows a)=erows a:=List.take_of_length_le (by simp)
section
variable {r:Int} {ns:NdL} {ds:List Dp}
theorem lev_same (h:Pv (r,ns,ds)) {p l w:Nat} (hp:p<512) (hl:(lsT (r,ns,ds) p).2=(l,w)) (ha:p%8^l=0) {q:Nat} (hq:p≤q) (hq2:q<p+8^l):(lsT (r,ns,ds) q).2=(l,w):=by
 obtain ⟨f0,l0,w0,hw⟩:∃ f l w,wlk (Mof ns) r p=(f,l,w):=⟨_,_,_,rfl⟩
 have h1:=(h.walk hp).2.2
 simp only at h1
 rw [hw] at h1
 rw [h1] at hl
 simp only [Prod.mk.injEq] at hl
 obtain ⟨rfl,rfl⟩:=hl
 obtain ⟨a1,a2,a3,a4,a5,a6⟩:=wlk_at h.vm hp hw
 have hq5:q<512:=by
  rcases (by omega:l0=0∨l0=1∨l0=2) with rfl|rfl|rfl<;>simp at ha hq2<;>omega
 have e1:q/8^(l0+1)=p/8^(l0+1):=by
  rcases (by omega:l0=0∨l0=1∨l0=2) with rfl|rfl|rfl<;>simp at ha hq2 ⊢<;>omega
 have e2:dgt q l0=dgt p l0:=by
  unfold dgt
  rcases (by omega:l0=0∨l0=1∨l0=2) with rfl|rfl|rfl<;>simp at ha hq2 ⊢<;>omega
 have h2:=wlk_of (M:=Mof ns) (root:=r) (p:=q) hq5 a1 (by rw [e1];exact a3) (.inl (by rw [e2];simp only at a4;rw [← a4];exact a5))
 have h3:=(h.walk hq5).2.2
 simp only at h3
 rw [h3,h2,e2]
 simp only at a4
 rw [← a4]
theorem lev_next (h:Pv (r,ns,ds)) {p l w:Nat} (hp:p<512) (hl:(lsT (r,ns,ds) p).2=(l,w)) (ha:p%8^l=0) (hq:p+8^l<512):(p+8^l)%8^(lsT (r,ns,ds) (p+8^l)).2.1=0:=by
 obtain ⟨f0,l0,w0,hw⟩:∃ f l w,wlk (Mof ns) r p=(f,l,w):=⟨_,_,_,rfl⟩
 obtain ⟨f1,l1,w1,hw1⟩:∃ f k w,wlk (Mof ns) r (p+8^l)=(f,k,w):=⟨_,_,_,rfl⟩
 have h1:=(h.walk hp).2.2
 have h2:=(h.walk hq).2.2
 simp only at h1 h2
 rw [hw] at h1
 rw [hw1] at h2
 rw [h1] at hl
 simp only [Prod.mk.injEq] at hl
 obtain ⟨rfl,rfl⟩:=hl
 rw [h2]
 simp only
 obtain ⟨a1,a2,a3,a4,a5,a6⟩:=wlk_at h.vm hp hw
 obtain ⟨b1,b2,b3,b4,b5,b6⟩:=wlk_at h.vm hq hw1
 by_cases hc:(p+8^l0)%8^l1=0
 ·exact hc
 ·exfalso
  have hc2:p%8^l1≠0∨8^l0%8^l1≠0:=by
   by_cases h3:p%8^l1=0
   ·right;intro h4;exact hc (by rw [Nat.add_mod,h3,h4];simp)
   ·exact .inl h3
  have hlt:l0<l1:=by
   rcases (by omega:l0=0∨l0=1∨l0=2) with rfl|rfl|rfl<;>rcases (by omega:l1=0∨l1=1∨l1=2) with rfl|rfl|rfl<;>simp at hc ha ⊢<;>omega
  have hsame:dgt (p+8^l0) l1=dgt p l1∧(p+8^l0)/8^(l1+1)=p/8^(l1+1):=by
   unfold dgt
   rcases (by omega:l0=0∨l0=1∨l0=2) with rfl|rfl|rfl<;>rcases (by omega:l1=0∨l1=1∨l1=2) with rfl|rfl|rfl<;>simp at hc ha ⊢<;>omega
  have:=wlk_of (M:=Mof ns) (root:=r) hp b1 (by rw [← hsame.2];exact b3) (.inl (by rw [← hsame.1];simp only at b4;rw [← b4];exact b5))
  rw [hw] at this
  simp only [Prod.mk.injEq] at this
  omega
theorem lsA_step (h:Pv (r,ns,ds)) {p l w:Nat} (hp:p<512) (hl:(lsT (r,ns,ds) p).2=(l,w)) (ha:p%8^l=0):lsA (r,ns,ds) (p+8^l)=lsA (r,ns,ds) p++(if w≠0 then [((p:Int),w)] else []):=by
 obtain ⟨f0,l0,w0,hw⟩:∃ f l w,wlk (Mof ns) r p=(f,l,w):=⟨_,_,_,rfl⟩
 have h1:=(h.walk hp).2.2
 simp only at h1
 rw [hw] at h1
 have hlw:l0=l∧w0=w:=by rw [h1] at hl;simpa using hl
 obtain ⟨rfl,rfl⟩:=hlw
 obtain ⟨a1,a2,a3,a4,a5,a6⟩:=wlk_at h.vm hp hw
 have hz2:l0=2→w0=0:=fun e=>by
  subst e
  unfold okWb at a6
  simp only [Bool.and_eq_true,decide_eq_true_eq] at a6
  obtain ⟨_,a7⟩:=a6
  unfold suitB at a7
  refine (kind0 (l:=2) (w:=w0) ?_).1 ?_
  ·unfold okWb;simp only [Bool.and_eq_true,decide_eq_true_eq];exact ⟨by assumption,by unfold suitB;exact a7⟩
  ·by_cases h0:(decR w0).1.1=0
   ·exact h0
   ·rw [if_neg h0] at a7
    have h4:(decR w0).1.1≠4:=decR_tab.1 a5
    rw [if_neg h4] at a7
    simp at a7
 have hmid:∀ d,1≤d→d≤8^l0→lsA (r,ns,ds) (p+d)=lsA (r,ns,ds) p++(if w0≠0 then [((p:Int),w0)] else []):=by
  intro d hd
  induction d with
  | zero=>omega
  | succ d ih =>
   intro hd2
   rw [show p+(d+1)=p+d+1 by omega]
   simp only [lsA]
   by_cases h0:d=0
   ·subst h0
    simp only [Nat.add_zero,lsF,hl]
    by_cases hw0:w0=0
    ·simp [hw0]
    ·have:l0=0∨p%8=0:=by
      rcases (by omega:l0=0∨l0=1∨l0=2) with e|e|e
      ·exact .inl e
      ·right;rw [e] at ha;simpa using ha
      ·exact absurd (hz2 e) hw0
     rw [if_pos ⟨hw0,this⟩,if_pos hw0]
   ·rw [ih (by omega) (by omega)]
    have hs:=lev_same h hp hl ha (q:=p+d) (by omega) (by omega)
    have:lsF (r,ns,ds) (p+d)=[]:=by
     unfold lsF
     rw [hs]
     rw [if_neg]
     rintro ⟨g1,g2⟩
     rcases (by omega:l0=0∨l0=1∨l0=2) with e|e|e
     ·subst e;simp at hd2;omega
     ·subst e
      simp at ha hd2 g2
      omega
     ·exact g1 (hz2 e)
    rw [this,List.append_nil]
 have hpos:1≤8^l0:=Nat.pow_pos (by decide)
 exact hmid _ hpos (Nat.le_refl _)
end
end Go.AM
