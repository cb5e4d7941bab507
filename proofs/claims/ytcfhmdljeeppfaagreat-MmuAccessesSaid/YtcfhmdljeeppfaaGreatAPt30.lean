/- A part of the proof: what functions of the program compute, by abstract execution of their code. Its theorems hold without further condition. -/
import Derived.Test.YtcfhmdljeeppfaaGreatAPt24
import Derived.Test.YtcfhmdljeeppfaaGreatAPtV
set_option linter.all false
namespace Go.AM
open Go Go.Proofs
def wkAR (t:Tb):Bool×WSt:=wk (WR t.2.2) t.2.1 2 ((fnd t.2.1 t.1).getD 0) 0 (List.replicate t.2.1.length false,[])
noncomputable def chkR (t:Tb):Int:=if numB t≠0 then numB t else if (wkAR t).1=true∧(wkAR t).2.2.length=t.2.2.length∧false ∉ (wkAR t).2.1 then 0 else 3
set_option maxHeartbeats 4000000 in
theorem s40 (X:AX) (hX:XOK Tryz.prog X) (hw:X.W wT) (hra:∀ t:Tb,tbOK t→∀ M n,X.call 119 [TbV t] M n=some (B (rngB t),[])) (hor:∀ t:Tb,tbOK t→∀ M n,X.call 120 [TbV t] M n=some (B (ascB t),[]))
  (htw:∀ t:Tb,tbOK t→∀ M n,X.call 121 [TbV t] M n=some (B (twB t),[])) (hfi:∀ (t:Tb) f,tbOK t→∀ M n,X.call 122 [TbV t,I f] M n=some (I (fstG (fun n=>decide (n.1=f)) t.2.1),[]))
  (hwa:X.call 123=callG (rwS 2)) :
  PSound Tryz.prog 40 (specF (ι:={x:Tb // tbOK x}) (fun x=>[TbV x.1]) fun x=>retOf [I (chkR x.1)]):=by
 refine psound_spec hX mixed Tryz.func40 rfl fun ⟨⟨r,ns,ds⟩,ht⟩ w0 G=>⟨by show 1≤47;decide,rfl,?_⟩
 show AW ⟨Tryz.prog,X,47,w0,.pure G⟩ _ _ _
 have hc:Cx.OK ⟨Tryz.prog,X,47,w0,.pure G⟩:=⟨hX,mixed⟩
 have hl1:ns.length≤1000000:=ht.2.1
 have hl2:ds.length≤1000000:=ht.2.2
 have hra':=hra (r,ns,ds) ht
 have hor':=hor (r,ns,ds) ht
 have htw':=htw (r,ns,ds) ht
 have hfi':=hfi (r,ns,ds) r ht
 rw [fstG_fnd] at hfi'
 have hcz:numB (r,ns,ds)≠0→chkR (r,ns,ds)=numB (r,ns,ds):=fun h=>by unfold chkR;rw [if_pos h]
 simp only [TbV] at hra' hor' htw' hfi' ⊢
 cases hR:rngB (r,ns,ds) with
 | false =>
  have e:=numB_2 hR
  rw [hcz (by rw [e];decide),e]
  rw [hR] at hra'
  have zS:=hra'
  refine dM64 ?_
  repeat (intro K hK)
  clear zS
  refine ⟨by simp,?_⟩
  simp [leaves_iff,Tryz.f40]
  try exact dt
 | true =>
  rw [hR] at hra'
  cases hA:ascB (r,ns,ds) with
  | false =>
   have e:=numB_10 hR hA
   rw [hcz (by rw [e];decide),e]
   rw [hA] at hor'
   have zS:=jj hra'<|hor'
   refine dM64 ?_
   repeat (intro K hK)
   clear zS
   refine ⟨by simp,?_⟩
   simp [leaves_iff,Tryz.f40]
   try exact dt
  | true =>
   rw [hA] at hor'
   have hAN:=ascN_of hA
   simp only at hAN
   cases hT:twB (r,ns,ds) with
   | true =>
    have e:=numB_7 hR hA hT
    rw [hcz (by rw [e];decide),e]
    rw [hT] at htw'
    have zS:=jj hra'<|jj hor'<|htw'
    refine dM64 ?_
    repeat (intro K hK)
    clear zS
    refine ⟨by simp,?_⟩
    simp [leaves_iff,Tryz.f40]
    try exact dt
   | false =>
    rw [hT] at htw'
    cases hrt:fnd ns r with
    | none =>
     have e:=numB_6 hR hA hT hrt
     rw [hcz (by rw [e];decide),e]
     rw [hrt] at hfi'
     simp only at hfi'
     have zS:=jj hra'<|jj hor'<|jj htw'<|hfi'
     refine dM64 ?_
     repeat (intro K hK)
     clear zS
     refine ⟨by simp,?_⟩
     simp [leaves_iff,Tryz.f40]
     try exact dt
    | some rt =>
     have hn0:=numB_0 hR hA hT (show fnd ns r≠none by rw [hrt];simp)
     rw [hrt] at hfi'
     simp only at hfi'
     have hrl:=fnd_lt hrt
     have hr0:¬ (rt:Int)<0:=by omega
     have hfs:=falses ns.length
     have hck:rwOK 2 ((r,ns,ds),rt,0,List.replicate ns.length false,0):=⟨ht,hrl,by simp,by simp,by simp⟩
     have hcall:=@callRwT 2 (r,ns,ds) rt 0 (List.replicate ns.length false) 0 hck false
     have hckR:rwR 2 ((r,ns,ds),rt,0,List.replicate ns.length false,0)=wkAR (r,ns,ds):=by unfold rwR wkAR;simp only;rw [hrt];rfl
     rw [hckR] at hcall
     have hadd:=wk_adds (D:=WR ds) (ns:=ns) (l:=2) rt 0 (List.replicate ns.length false,[])
     rw [show wk (WR ds) ns 2 rt 0 (List.replicate ns.length false,[])=wkAR (r,ns,ds) from hckR] at hadd
     have hfin:chkR (r,ns,ds)=if (wkAR (r,ns,ds)).1=true∧(wkAR (r,ns,ds)).2.2.length=ds.length∧false ∉ (wkAR (r,ns,ds)).2.1 then 0 else 3:=by unfold chkR;rw [if_neg (by rw [hn0];simp)]
     obtain ⟨⟨b,led,hs⟩,hR3⟩:∃ R,R=wkAR (r,ns,ds):=⟨_,rfl⟩
     rw [← hR3] at hcall hadd hfin
     simp only [List.length_replicate,addsB,List.length_nil,Nat.zero_add] at hcall hadd hfin
     rw [← hwa,show ((2:Nat):Int)=(2:Int) from rfl,show ((0:Nat):Int)=(0:Int) from rfl] at hcall
     cases b with
     | false =>
      rw [hfin]
      have zS:=jj hra'<|jj hor'<|jj htw'<|jj hfi'<|jj hfs<|jj hr0<|hcall
      refine dM64 ?_
      repeat (intro K hK)
      clear zS
      refine ⟨by simp,?_⟩
      simp [leaves_iff,Tryz.f40]
      try exact dt
     | true =>
      rcases Decidable.em (hs.length=ds.length) with h2|h2
      ·have hfin2:chkR (r,ns,ds)=if false ∉ led then 0 else 3:=by rw [hfin];simp [h2]
       have zS:=jj hra'<|jj hor'<|jj htw'<|jj hfi'<|jj hfs<|jj hr0<|jj hcall<|h2
       repeat' (first|(apply aw_seq_k;intro K hK)|(refine eM64 ?_)|(refine aw_cond (b:=_) (by exact rfl) (fun h=>?_) (fun h=>?_)<;>(try simp at h))|(refine eB ?_)|(refine hK _ ?_;clear hK)|(clear hK;refine hK _ ?_;clear hK)|(clear hK;clear hK;refine hK _ ?_;clear hK)|(clear hK;clear hK;clear hK;refine hK _ ?_;clear hK))
       all_goals clear zS
       refine aw_loopK (s0:=?lps1) (m0:=?lpm1) (ι:={i:Nat // i≤ns.length∧∀ j,j<i→led.getD j false=true}) [38,39] (fun i=>[(40,I i.1)]) (fun _=>[]) (fun i=>ns.length - i.1) ⟨0,by omega,by omega⟩ ?lhs1 ?lhm1 ?_ ?_
       case lhs1=>first|(simp [keepS];done)|(simp [keepS];rfl)
       case lhm1=>first|rfl|(simp;done)|(simp;rfl)
       ·exact dle
       ·rintro ⟨i,hi,hinv⟩
        simp only
        rcases Decidable.em (i<ns.length) with hil|hil
        ·have hilI:(i:Int)<(ns.length:Int):=by omega
         have hill:i<led.length:=by omega
         have hg:=brows_gi hill
         have hgE:=brows_gE hill
         cases hb:led.getD i false with
         | false =>
          rw [hb] at hg hgE
          have e:chkR (r,ns,ds)=3:=by
           rw [hfin2,if_neg]
           intro h
           refine h ?_
           rw [← hb,List.getD_eq_getElem?_getD,List.getElem?_eq_getElem hill]
           exact List.getElem_mem hill
          have zS:=jj hil<|jj hilI<|jj hill<|jj hg<|hgE
          repeat' (first|(apply aw_seq_k;intro K hK)|(refine eM64 ?_)|(refine aw_cond (b:=_) (by exact rfl) (fun h=>?_) (fun h=>?_)<;>(try simp at h))|(refine eB ?_)|(refine hK _ ?_;clear hK)|(clear hK;refine hK _ ?_;clear hK)|(clear hK;clear hK;refine hK _ ?_;clear hK)|(clear hK;clear hK;clear hK;refine hK _ ?_;clear hK))
          all_goals clear zS
          refine ⟨by simp,?_⟩
          simp [leaves_iff,Tryz.f40,e]
          try exact dt
         | true =>
          rw [hb] at hg hgE
          have zS:=jj hil<|jj hilI<|jj hill<|jj hg<|hgE
          repeat' (first|(apply aw_seq_k;intro K hK)|(refine eM64 ?_)|(refine aw_cond (b:=_) (by exact rfl) (fun h=>?_) (fun h=>?_)<;>(try simp at h))|(refine eB ?_)|(refine hK _ ?_;clear hK)|(clear hK;refine hK _ ?_;clear hK)|(clear hK;clear hK;refine hK _ ?_;clear hK)|(clear hK;clear hK;clear hK;refine hK _ ?_;clear hK))
          all_goals clear zS
          refine ⟨i+1,?_,⟨by omega,fun j hj=>?_⟩,by omega⟩
          ·exact dle
          ·rcases Nat.lt_succ_iff_lt_or_eq.1 hj with h4|rfl
           ·have:=hinv j h4
            simpa [List.getD_eq_getElem?_getD] using this
           ·simpa [List.getD_eq_getElem?_getD] using hb
        ·obtain rfl:i=ns.length:=by omega
         have e:chkR (r,ns,ds)=0:=by
          rw [hfin2,if_pos]
          intro h
          obtain ⟨j,hj,e⟩:=List.getElem_of_mem h
          have:=hinv j (by omega)
          rw [List.getD_eq_getElem?_getD,List.getElem?_eq_getElem hj,e] at this
          simp at this
         repeat' (first|(apply aw_seq_k;intro K hK)|(refine eM64o ?_)|(refine aw_cond (b:=_) (by exact rfl) (fun h=>?_) (fun h=>?_)<;>(try simp at h))|(refine eB ?_)|(refine hK _ ?_;clear hK)|(clear hK;refine hK _ ?_;clear hK)|(clear hK;clear hK;refine hK _ ?_;clear hK)|(clear hK;clear hK;clear hK;refine hK _ ?_;clear hK))
         refine ⟨by simp,?_⟩
         simp [leaves_iff,Tryz.f40,e]
         try exact dt
      ·rw [hfin,if_neg (fun h=>h2 h.2.1)]
       have h2I:¬ (hs.length:Int)=(ds.length:Int):=by omega
       have zS:=jj hra'<|jj hor'<|jj htw'<|jj hfi'<|jj hfs<|jj hr0<|jj hcall<|jj h2<|h2I
       refine dM64 ?_
       repeat (intro K hK)
       clear zS
       refine ⟨by simp,?_⟩
       simp [leaves_iff,Tryz.f40]
       try exact dt
end Go.AM
namespace Go.AM
open Go Go.Proofs
theorem frP_WD {a b:Int→Bool} {M:Mm} {root:Int}:∀ {d q:Nat},frP (WD a) M root d q=frP (WD b) M root d q
 | 0,q=>rfl
 | d+1,q=>by simp only [frP];rw [frP_WD (a:=a) (b:=b)];rfl
theorem VM_WD {a b:Int→Bool} {M:Mm} {root:Int} (h:VM (WD a) M root):VM (WD b) M root where
 nd:=fun d q hx f hf=>by rw [frP_WD (b:=a)] at hf;exact h.nd d q hx f hf
 inj:=fun d q d' q' hx hy f hf hf'=>by rw [frP_WD (b:=a)] at hf hf';exact h.inj d q d' q' hx hy f hf hf'
 all:=fun f ws hf=>by
  obtain ⟨d,q,hx,k⟩:=h.all f ws hf
  exact ⟨d,q,hx,by rw [frP_WD (b:=a)];exact k⟩
def hugB (M:Mm) (root:Int) (g:Nat):Bool:=match frP WA M root 1 (g/8) with
 | some f=>hugW (wM M f (g%8))
 | none=>false
def hugM (M:Mm) (root:Int):List Int:=((List.range 64).filter (hugB M root)).map fun g:Nat=>(g:Int)
theorem hugM_asc {M:Mm} {root:Int}:(hugM M root).Pairwise (·<·):=by
 unfold hugM
 rw [List.pairwise_map]
 refine List.Pairwise.filter _ ?_
 exact (List.pairwise_lt_range (n:=64)).imp fun h=>by omega
theorem mem_hugM {M:Mm} {root:Int} {g:Int}:g∈hugM M root↔∃ k:Nat,k<64∧g=k∧hugB M root k=true:=by
 unfold hugM
 simp only [List.mem_map,List.mem_filter,List.mem_range]
 constructor
 ·rintro ⟨k,⟨h1,h2⟩,rfl⟩;exact ⟨k,h1,rfl,h2⟩
 ·rintro ⟨k,h1,rfl,h2⟩;exact ⟨k,⟨h1,h2⟩,rfl⟩
theorem hugB_iff {M:Mm} {root:Int} {g:Nat}:hugB M root g=true↔∃ f,frP WA M root 1 (g/8)=some f∧hugW (wM M f (g%8))=true:=by
 unfold hugB
 cases frP WA M root 1 (g/8)<;>simp
theorem asc_le:∀ {l m:List Int},l.Pairwise (·<·)→(∀ x∈l,x∈m)→l.length≤m.length
 | [],_,_,_=>by simp
 | x::l,m,h,hs=>by
  rw [List.pairwise_cons] at h
  have h1:=asc_le (l:=l) (m:=m.erase x) h.2 fun y hy=>by
   have:=h.1 y hy
   exact (List.mem_erase_of_ne (by omega)).2 (hs y (by simp [hy]))
  rw [List.length_erase_of_mem (hs x (by simp))] at h1
  have:0<m.length:=List.length_pos_of_mem (hs x (by simp))
  simp only [List.length_cons]
  omega
theorem asc_eq:∀ {l m:List Int},l.Pairwise (·<·)→m.Pairwise (·<·)→(∀ x∈l,x∈m)→l.length=m.length→l=m
 | [],[],_,_,_,_=>rfl
 | [],_::_,_,_,_,h=>by simp at h
 | _::_,[],_,_,_,h=>by simp at h
 | x::l,y::m,hl,hm,hs,hn=>by
  have hl0:=hl
  rw [List.pairwise_cons] at hl hm
  have hx:=hs x (by simp)
  have e:x=y:=by
   rcases List.mem_cons.1 hx with e|hxm
   ·exact e
   ·exfalso
    have hxy:=hm.1 x hxm
    have:=asc_le (l:=x::l) (m:=m) hl0 fun z hz=>by
     have hz2:=hs z hz
     rcases List.mem_cons.1 hz2 with e|h
     ·rcases List.mem_cons.1 hz with e2|h2
      ·omega
      ·have:=hl.1 z h2;omega
     ·exact h
    simp only [List.length_cons] at this hn
    omega
  subst e
  congr 1
  refine asc_eq hl.2 hm.2 (fun z hz=>?_) (by simpa using hn)
  rcases List.mem_cons.1 (hs z (by simp [hz])) with e|h
  ·have:=hl.1 z hz;omega
  ·exact h
structure NumOK (t:Tb):Prop where
 fr:∀ n∈t.2.1,frmN n.1
 df:∀ d∈t.2.2,frmN d.2∧0≤d.1∧d.1<64
 asc:ascN t.2.1
 dasc:t.2.2.Pairwise fun a b=>a.1<b.1
 apart:∀ d∈t.2.2,∀ n∈t.2.1,n.1≠d.2
 once:t.2.2.Pairwise fun a b=>a.2≠b.2
 root:∃ n∈t.2.1,n.1=t.1
theorem fnd_some_of {ns:List Nd} {f:Int} (h:∃ n∈ns,n.1=f):∃ r,fnd ns f=some r:=by
 obtain ⟨n,hn,e⟩:=h
 unfold fnd
 have:ns.findIdx (fun n=>decide (n.1=f))<ns.length:=List.findIdx_lt_length_of_exists ⟨n,hn,by simpa using e⟩
 rw [if_pos this]
 exact ⟨_,rfl⟩
theorem numOK_iff {t:Tb}:numB t=0↔NumOK t:=by
 constructor
 ·intro h
  obtain ⟨hR,hA,hT,r,hr⟩:=numB_zero h
  obtain ⟨r1,r2⟩:=rngB_iff.1 hR
  obtain ⟨a1,a2⟩:=ascB_iff.1 hA
  have hno:∀ i,i<t.2.2.length→¬ twN t i:=fun i hi h=>by
   have:=twB_iff.2 ⟨i,hi,h⟩
   rw [hT] at this;simp at this
  refine ⟨fun n hn=>?_,fun d hd=>?_,ascN_of hA,?_,fun d hd n hn e=>?_,?_,?_⟩
  ·obtain ⟨i,hi,rfl⟩:=List.getElem_of_mem hn
   rw [← gn_eq hi];exact r1 i hi
  ·obtain ⟨i,hi,rfl⟩:=List.getElem_of_mem hd
   rw [← gp_eq hi];exact r2 i hi
  ·refine List.pairwise_iff_getElem.2 fun i j hi hj hij=>?_
   have key:∀ d,i+d+1<t.2.2.length→(gp t.2.2 i).1<(gp t.2.2 (i+d+1)).1:=by
    intro d
    induction d with
    | zero=>intro h;exact a2 i h
    | succ d ih=>intro h;exact Int.lt_trans (ih (by omega)) (a2 (i+d+1) h)
   have:=key (j - i - 1) (by omega)
   rw [show i+(j - i - 1)+1=j by omega,gp_eq hi,gp_eq hj] at this
   exact this
  ·obtain ⟨i,hi,rfl⟩:=List.getElem_of_mem hd
   obtain ⟨j,hj,rfl⟩:=List.getElem_of_mem hn
   exact hno i hi (.inl ⟨j,hj,by rw [gn_eq hj,gp_eq hi];exact e⟩)
  ·refine List.pairwise_iff_getElem.2 fun i j hi hj hij e=>?_
   exact hno j hj (.inr ⟨i,hij,by rw [gp_eq hi,gp_eq hj];exact e⟩)
  ·exact ⟨_,gn_mem (fnd_lt hr),fnd_frame hr⟩
 ·intro h
  have hR:rngB t=true:=rngB_iff.2 ⟨fun j hj=>h.fr _ (gn_mem hj),fun j hj=>h.df _ (gp_mem hj)⟩
  have hA:ascB t=true:=ascB_iff.2 ⟨fun j hj=>asc_lt h.asc (by omega) hj,fun j hj=>by
   have:=List.pairwise_iff_getElem.1 h.dasc j (j+1) (by omega) hj (by omega)
   rw [gp_eq (by omega),gp_eq hj];exact this⟩
  have hT:twB t=false:=twB_no fun i hi=>by
   rintro (⟨j,hj,e⟩|⟨j,hj,e⟩)
   ·exact h.apart _ (gp_mem hi) _ (gn_mem hj) e
   ·have:=List.pairwise_iff_getElem.1 h.once j i (by omega) hi hj
    rw [gp_eq (by omega),gp_eq hi] at e
    exact this e
  obtain ⟨r,hr⟩:=fnd_some_of h.root
  exact numB_0 hR hA hT (by rw [hr];simp)
theorem nds8_of {t:Tb} (ht:tbOK t):nds8 t.2.1:=fun n hn=>(ht.1 n hn).1
theorem markL_all {n:Nat} {l:List Nat} (hl:∀ i∈l,i<n):false ∉ markL (List.replicate n false) l↔∀ i,i<n→i∈l:=by
 have hg:∀ j,(markL (List.replicate n false) l).getD j false=decide (j∈l):=fun j=>by
  rw [markL_getD (by simpa using hl)]
  have:(List.replicate n false).getD j false=false:=by
   rw [List.getD_eq_getElem?_getD,List.getElem?_replicate];split<;>rfl
  rw [this,Bool.or_false]
 constructor
 ·intro h i hi
  have h1:=hg i
  cases hd:decide (i∈l) with
  | true=>simpa using hd
  | false =>
   exfalso
   rw [hd] at h1
   have hlen:i<(markL (List.replicate n false) l).length:=by simp [hi]
   rw [List.getD_eq_getElem?_getD,List.getElem?_eq_getElem hlen] at h1
   simp only [Option.getD_some] at h1
   have h3:=List.getElem_mem hlen
   rw [h1] at h3
   exact h h3
 ·intro h hm
  obtain ⟨j,hj,e⟩:=List.getElem_of_mem hm
  have h1:=hg j
  rw [List.getD_eq_getElem?_getD,List.getElem?_eq_getElem hj] at h1
  simp only [Option.getD_some] at h1
  rw [e] at h1
  have:=h j (by simpa using hj)
  simp [this] at h1
theorem wk_root {adm:Int→Bool} {t:Tb} (ht:tbOK t) {r:Nat} (hr:fnd t.2.1 t.1=some r) (ha:ascN t.2.1) :
  ((wk (WD adm) t.2.1 2 r 0 (List.replicate t.2.1.length false,[])).1=true∧false ∉ (wk (WD adm) t.2.1 2 r 0 (List.replicate t.2.1.length false,[])).2.1 ↔
   (VM WA (Mof t.2.1) t.1∧∀ g∈hugM (Mof t.2.1) t.1,adm g=true)) ∧
  ((wk (WD adm) t.2.1 2 r 0 (List.replicate t.2.1.length false,[])).1=true→(wk (WD adm) t.2.1 2 r 0 (List.replicate t.2.1.length false,[])).2.2=hugM (Mof t.2.1) t.1):=by
 have hrl:=fnd_lt hr
 have h1:=wk_ok (D:=WD adm) (ns:=t.2.1) (fun w h=>(WD_ok adm).flat w h) (l:=2) r 0 (List.replicate t.2.1.length false,[]) hrl (by simp)
 have hlt:∀ i∈ids (WD adm) t.2.1 2 r,i<t.2.1.length:=ids_lt hrl
 have hgd:∀ i,(List.replicate t.2.1.length false).getD i false=false:=fun i=>by
  rw [List.getD_eq_getElem?_getD,List.getElem?_replicate];split<;>rfl
 have h2:=valid_iff (D:=WD adm) (WD_ok adm) ha (nds8_of ht) hr
 have hadm:(VM (WD adm) (Mof t.2.1) t.1∧∀ q i f,q<8→i<8→frP (WD adm) (Mof t.2.1) t.1 1 q=some f→(WD adm).hug (wM (Mof t.2.1) f i)=true→(WD adm).adm ((q*8+i:Nat):Int)=true)↔(VM WA (Mof t.2.1) t.1∧∀ g∈hugM (Mof t.2.1) t.1,adm g=true):=by
  constructor
  ·rintro ⟨a,b⟩
   refine ⟨VM_WD a,fun g hg=>?_⟩
   obtain ⟨k,hk,rfl,hB⟩:=mem_hugM.1 hg
   obtain ⟨f,hf,hw⟩:=hugB_iff.1 hB
   have:=b (k/8) (k%8) f (by omega) (by omega) (by rw [frP_WD (b:=fun _=>true)];exact hf) hw
   rw [show k/8*8+k%8=k by omega] at this
   exact this
  ·rintro ⟨a,b⟩
   refine ⟨VM_WD a,fun q i f hq hi hf hw=>?_⟩
   refine b _ (mem_hugM.2 ⟨q*8+i,by omega,rfl,hugB_iff.2 ⟨f,?_,?_⟩⟩)
   ·rw [show (q*8+i)/8=q by omega,frP_WD (b:=adm)];exact hf
   ·rw [show (q*8+i)%8=i by omega];exact hw
 obtain ⟨R,hR⟩:∃ R,R=wk (WD adm) t.2.1 2 r 0 (List.replicate t.2.1.length false,[]):=⟨_,rfl⟩
 rw [← hR] at h1 ⊢
 refine ⟨?_,fun hb=>?_⟩
 ·rw [← hadm,← h2]
  constructor
  ·rintro ⟨a,b⟩
   obtain ⟨g1,g2,g3⟩:=h1.1.1 a
   rw [h1.2 a] at b
   simp only at b
   exact ⟨g1,g2,(markL_all hlt).1 b⟩
  ·rintro ⟨g1,g2,g3⟩
   have a:=h1.1.2 ⟨g1,g2,fun i _=>hgd i⟩
   refine ⟨a,?_⟩
   rw [h1.2 a]
   exact (markL_all hlt).2 g3
 ·rw [h1.2 hb]
  simp only [List.nil_append]
  obtain ⟨g1,g2,g3⟩:=h1.1.1 hb
  rw [hugs_pos (WD_ok adm) g1]
  unfold hugL hugM
  congr 1
  refine List.filter_congr fun g hg=>?_
  have:=hugP_iff (WD_ok adm) ha (nds8_of ht) hr g1 (List.mem_range.1 hg)
  rw [Bool.eq_iff_iff,this,hugB_iff]
  rw [frP_WD (b:=fun _=>true)]
  exact Iff.rfl
structure Vt (t:Tb):Prop where
 num:NumOK t
 vm:VM WA (Mof t.2.1) t.1
 dep:t.2.2.map (·.1)=hugM (Mof t.2.1) t.1
theorem chk_iff {t:Tb} (ht:tbOK t):chk t=0↔Vt t:=by
 unfold chk
 by_cases hn:numB t=0
 ·obtain ⟨hR,hA,hT,r,hr⟩:=numB_zero hn
  have h1:=wk_root (adm:=fun _=>true) ht hr (ascN_of hA)
  rw [if_neg (by simp [hn])]
  have hw:wkA t=wk WA t.2.1 2 r 0 (List.replicate t.2.1.length false,[]):=by unfold wkA;rw [hr];rfl
  rw [hw]
  constructor
  ·intro h
   split at h
   ·rename_i hh
    have:=h1.1.1 ⟨hh.1,hh.2.1⟩
    exact ⟨numOK_iff.1 hn,this.1,by rw [← hh.2.2];exact h1.2 hh.1⟩
   ·simp at h
  ·intro h
   have:=h1.1.2 ⟨h.vm,fun _ _=>rfl⟩
   rw [if_pos ⟨this.1,this.2,by rw [h1.2 this.1];exact h.dep.symm⟩]
 ·rw [if_pos hn]
  exact ⟨fun h=>absurd h hn,fun h=>absurd (numOK_iff.2 h.num) hn⟩
theorem chkR_eq {t:Tb} (ht:tbOK t):chkR t=chk t:=by
 unfold chkR chk
 by_cases hn:numB t=0
 ·obtain ⟨hR,hA,hT,r,hr⟩:=numB_zero hn
  have hN:=numOK_iff.1 hn
  have h1:=wk_root (adm:=fun _=>true) ht hr (ascN_of hA)
  have h2:=wk_root (adm:=admR t.2.2) ht hr (ascN_of hA)
  have hn2:¬ numB t≠0:=by simp [hn]
  rw [if_neg hn2,if_neg hn2]
  have hw:wkA t=wk WA t.2.1 2 r 0 (List.replicate t.2.1.length false,[]):=by unfold wkA;rw [hr];rfl
  have hw2:wkAR t=wk (WR t.2.2) t.2.1 2 r 0 (List.replicate t.2.1.length false,[]):=by unfold wkAR;rw [hr];rfl
  rw [hw,hw2]
  have hmem:∀ g:Int,admR t.2.2 g=true↔g∈t.2.2.map (·.1):=fun g=>by
   unfold admR
   rw [decide_eq_true_iff,fstG_pos]
   constructor
   ·rintro ⟨j,hj,e⟩
    exact List.mem_map.2 ⟨_,List.getElem_mem hj,by simpa using e⟩
   ·intro h
    obtain ⟨d,hd,e⟩:=List.mem_map.1 h
    obtain ⟨j,hj,rfl⟩:=List.getElem_of_mem hd
    exact ⟨j,hj,by simpa using e⟩
  have hda:(t.2.2.map (·.1)).Pairwise (·<·):=by rw [List.pairwise_map];exact hN.dasc
  refine ite_congr (propext ?_) (fun _=>rfl) fun _=>rfl
  constructor
  ·rintro ⟨a,b,c⟩
   obtain ⟨v,ad⟩:=h2.1.1 ⟨a,c⟩
   have:=h1.1.2 ⟨v,fun _ _=>rfl⟩
   refine ⟨this.1,this.2,?_⟩
   rw [h1.2 this.1]
   rw [h2.2 a] at b
   exact asc_eq hugM_asc hda (fun g hg=>(hmem g).1 (ad g hg)) (by simpa using b)
  ·rintro ⟨a,b,c⟩
   obtain ⟨v,_⟩:=h1.1.1 ⟨a,b⟩
   rw [h1.2 a] at c
   have:=h2.1.2 ⟨v,fun g hg=>(hmem g).2 (by rw [← c];exact hg)⟩
   refine ⟨this.1,?_,this.2⟩
   rw [h2.2 this.1,c]
   simp
 ·rw [if_pos hn,if_pos hn]
end Go.AM
set_option maxHeartbeats 4000000
namespace Go.AM
open Go Go.Proofs
@[simp] theorem tyStps:Types Tryz.prog 192=some ⟨.slice 173,1,24,[.slice none 0 0]⟩:=by kernel_rfl
def dgt (p l:Nat):Nat:=p/8^l%8
theorem dgt_lt (p l:Nat):dgt p l<8:=by unfold dgt;omega
theorem s139 (X:AX) (hX:XOK Tryz.prog X) (hw:X.W wT):PSound Tryz.prog 139 (specF (ι:={x:Nat×Nat // x.1<512∧x.2≤2}) (fun x=>[I x.1.1,I x.1.2]) fun x=>retOf [I (dgt x.1.1 x.1.2)]):=by
 refine psound_spec hX mixed Tryz.func139 rfl fun ⟨⟨n,l⟩,hn,hl⟩ w0 G=>⟨by show 2≤13;decide,rfl,?_⟩
 show AW ⟨Tryz.prog,X,13,w0,.pure G⟩ _ _ _
 have hc:Cx.OK ⟨Tryz.prog,X,13,w0,.pure G⟩:=⟨hX,mixed⟩
 simp only at hn hl ⊢
 have m1:(n:Int).tmod 8=((n%8:Nat):Int):=by rw [Int.tmod_eq_emod_of_nonneg (by omega)];omega
 have m2:((n:Int)/8).tmod 8=((n/8%8:Nat):Int):=by rw [Int.tmod_eq_emod_of_nonneg (by omega)];omega
 have m3:((n:Int)/8/8).tmod 8=((n/64%8:Nat):Int):=by rw [Int.tmod_eq_emod_of_nonneg (by omega)];omega
 have w8:IntKind.i64.wrap ((n:Int)/8)=(n:Int)/8:=wrap64 (by omega)
 have w64:IntKind.i64.wrap ((n:Int)/8/8)=(n:Int)/8/8:=wrap64 (by omega)
 have t8:((n:Int)/8).tdiv 8=(n:Int)/8/8:=Int.tdiv_eq_ediv_of_nonneg (by omega)
 rcases (by omega:l=0∨l=1∨l=2) with rfl|rfl|rfl
 ·have e:dgt n 0=n%8:=by unfold dgt;simp
  have zS:=jj m1<|jj m2<|jj m3<|jj w8<|jj w64<|t8
  repeat' (first|(apply aw_seq_k;intro K hK)|(refine eM64 ?_)|(refine aw_cond (b:=_) (by exact rfl) (fun h=>?_) (fun h=>?_)<;>(try simp at h))|(refine eB ?_)|(refine hK _ ?_;clear hK)|(clear hK;refine hK _ ?_;clear hK)|(clear hK;clear hK;refine hK _ ?_;clear hK)|(clear hK;clear hK;clear hK;refine hK _ ?_;clear hK))
  all_goals clear zS
  refine aw_rounds 1 (aw_round ?_)
  have zS:=jj m1<|jj m2<|jj m3<|jj w8<|jj w64<|t8
  repeat' (first|(apply aw_seq_k;intro K hK)|(refine eM64 ?_)|(refine aw_cond (b:=_) (by exact rfl) (fun h=>?_) (fun h=>?_)<;>(try simp at h))|(refine eB ?_)|(refine hK _ ?_;clear hK)|(clear hK;refine hK _ ?_;clear hK)|(clear hK;clear hK;refine hK _ ?_;clear hK)|(clear hK;clear hK;clear hK;refine hK _ ?_;clear hK))
  all_goals clear zS
  refine ⟨by simp,?_⟩
  simp [leaves_iff,Tryz.f139,e]
  try exact dt
 ·have e:dgt n 1=n/8%8:=by unfold dgt;simp
  have zS:=jj m1<|jj m2<|jj m3<|jj w8<|jj w64<|t8
  repeat' (first|(apply aw_seq_k;intro K hK)|(refine eM64 ?_)|(refine aw_cond (b:=_) (by exact rfl) (fun h=>?_) (fun h=>?_)<;>(try simp at h))|(refine eB ?_)|(refine hK _ ?_;clear hK)|(clear hK;refine hK _ ?_;clear hK)|(clear hK;clear hK;refine hK _ ?_;clear hK)|(clear hK;clear hK;clear hK;refine hK _ ?_;clear hK))
  all_goals clear zS
  refine aw_rounds 2 (aw_round ?_)
  have zS:=jj m1<|jj m2<|jj m3<|jj w8<|jj w64<|t8
  repeat' (first|(apply aw_seq_k;intro K hK)|(refine eM64 ?_)|(refine aw_cond (b:=_) (by exact rfl) (fun h=>?_) (fun h=>?_)<;>(try simp at h))|(refine eB ?_)|(refine hK _ ?_;clear hK)|(clear hK;refine hK _ ?_;clear hK)|(clear hK;clear hK;refine hK _ ?_;clear hK)|(clear hK;clear hK;clear hK;refine hK _ ?_;clear hK))
  all_goals clear zS
  refine ⟨by simp,?_⟩
  simp [leaves_iff,Tryz.f139,e]
  try exact dt
 ·have e:dgt n 2=n/64%8:=by unfold dgt;simp
  have zS:=jj m1<|jj m2<|jj m3<|jj w8<|jj w64<|t8
  repeat' (first|(apply aw_seq_k;intro K hK)|(refine eM64 ?_)|(refine aw_cond (b:=_) (by exact rfl) (fun h=>?_) (fun h=>?_)<;>(try simp at h))|(refine eB ?_)|(refine hK _ ?_;clear hK)|(clear hK;refine hK _ ?_;clear hK)|(clear hK;clear hK;refine hK _ ?_;clear hK)|(clear hK;clear hK;clear hK;refine hK _ ?_;clear hK))
  all_goals clear zS
  refine aw_rounds 3 (aw_round ?_)
  have zS:=jj m1<|jj m2<|jj m3<|jj w8<|jj w64<|t8
  repeat' (first|(apply aw_seq_k;intro K hK)|(refine eM64 ?_)|(refine aw_cond (b:=_) (by exact rfl) (fun h=>?_) (fun h=>?_)<;>(try simp at h))|(refine eB ?_)|(refine hK _ ?_;clear hK)|(clear hK;refine hK _ ?_;clear hK)|(clear hK;clear hK;refine hK _ ?_;clear hK)|(clear hK;clear hK;clear hK;refine hK _ ?_;clear hK))
  all_goals clear zS
  refine ⟨by simp,?_⟩
  simp [leaves_iff,Tryz.f139,e]
  try exact dt
abbrev Stp:=Nat×Nat×Nat
section
variable (ns:NdL) (p:Nat)
def pth:Nat→Nat→List Stp
 | 0,n=>[(n,0,wd ns n (dgt p 0))]
 | l+1,n=>(n,l+1,wd ns n (dgt p (l+1)))::(match kid WA ns (wd ns n (dgt p (l+1))) with
  | some nx=>pth l nx
  | none=>[])
def lst:Nat→Nat→Stp
 | 0,n=>(n,0,wd ns n (dgt p 0))
 | l+1,n=>match kid WA ns (wd ns n (dgt p (l+1))) with
  | some nx=>lst l nx
  | none=>(n,l+1,wd ns n (dgt p (l+1)))
def pok:Nat→Nat→Prop
 | 0,n=>tabW (wd ns n (dgt p 0))=none
 | l+1,n=>∀ g,tabW (wd ns n (dgt p (l+1)))=some g→∃ nx,fnd ns g=some nx∧pok l nx
end
theorem pth_lst {ns:NdL} {p:Nat}:∀ {l n:Nat},∃ i,pth ns p l n=i++[lst ns p l n]
 | 0,n=>⟨[],rfl⟩
 | l+1,n=>by
  simp only [pth,lst]
  cases kid WA ns (wd ns n (dgt p (l+1))) with
  | none=>exact ⟨[],rfl⟩
  | some nx =>
   obtain ⟨i,hi⟩:=pth_lst (ns:=ns) (p:=p) (l:=l) (n:=nx)
   simp only
   rw [hi]
   exact ⟨(n,l+1,wd ns n (dgt p (l+1)))::i,rfl⟩
theorem pth_len {ns:NdL} {p:Nat}:∀ {l n:Nat},(pth ns p l n).length≤l+1
 | 0,n=>by simp [pth]
 | l+1,n=>by
  simp only [pth]
  cases kid WA ns (wd ns n (dgt p (l+1))) with
  | none=>simp
  | some nx =>
   have:=pth_len (ns:=ns) (p:=p) (l:=l) (n:=nx)
   simp;omega
theorem lst_lt {ns:NdL} {p:Nat}:∀ {l n:Nat},n<ns.length→(lst ns p l n).1<ns.length∧(lst ns p l n).2.1≤l
 | 0,n,h=>⟨h,Nat.le_refl _⟩
 | l+1,n,h=>by
  simp only [lst]
  cases hk:kid WA ns (wd ns n (dgt p (l+1))) with
  | none=>exact ⟨h,Nat.le_refl _⟩
  | some nx =>
   have:=lst_lt (ns:=ns) (p:=p) (l:=l) (kid_lt hk)
   exact ⟨this.1,by simp only;omega⟩
theorem lst_word {ns:NdL} {p:Nat}:∀ {l n:Nat},(lst ns p l n).2.2=wd ns (lst ns p l n).1 (dgt p (lst ns p l n).2.1)
 | 0,n=>rfl
 | l+1,n=>by
  simp only [lst]
  cases hk:kid WA ns (wd ns n (dgt p (l+1))) with
  | none=>rfl
  | some nx=>exact lst_word
def srow (s:Stp):List AV:=[I s.1,I s.2.1,U s.2.2]
def srows (l:List Stp):List (List AV):=l.map srow
@[simp] theorem srows_length (l:List Stp):(srows l).length=l.length:=by simp [srows]
def stV (s:Stp):AV:=.agg (srow s)
def rtN (t:Tb):Nat:=(fnd t.2.1 t.1).getD 0
def ptO (t:Tb) (p:Nat):Prop:=tbOK t∧ascN t.2.1∧p<512∧(∃ r,fnd t.2.1 t.1=some r)∧pok t.2.1 p 2 (rtN t)
def ptL (t:Tb) (p:Nat):List Stp:=pth t.2.1 p 2 (rtN t)
def lsT (t:Tb) (p:Nat):Stp:=lst t.2.1 p 2 (rtN t)
theorem decR_tab {w:Nat}:tabW w=none↔(decR w).1.1≠4:=by
 unfold tabW
 split<;>simp [*]
theorem s137 (X:AX) (hX:XOK Tryz.prog X) (hw:X.W wT) (hix:∀ t:Tb,tbOK t→∀ M n,X.call 115 [TbV t] M n=some (.mp n 1,[(n,.map 1 1 (idxE t.2.1 t.2.1.length))]))
  (hdg:∀ (p l:Nat),p<512→l≤2→∀ M n,X.call 139 [I p,I l] M n=some (I (dgt p l),[])) (hen:∀ w:Nat,w<2^64→∀ M n,X.call 113 [U w] M n=some (EnV (decR w).1,[])) :
  PSound Tryz.prog 137 (specF (ι:={x:Tb×Nat // ptO x.1 x.2}) (fun x=>[TbV x.1.1,I x.1.2]) fun x=>retOf [.ow 3 (srows (ptL x.1.1 x.1.2))]):=by
 refine psound_spec hX mixed Tryz.func137 rfl fun ⟨⟨⟨r,ns,ds⟩,p⟩,ht,ha,hp,⟨rt,hrt⟩,hpo⟩ w0 G=>⟨by show 2≤46;decide,rfl,?_⟩
 show AW ⟨Tryz.prog,X,46,w0,.pure G⟩ _ _ _
 have hc:Cx.OK ⟨Tryz.prog,X,46,w0,.pure G⟩:=⟨hX,mixed⟩
 simp only at ha hp hrt hpo
 have hix':=hix (r,ns,ds) ht
 have hget:=idxE_get ha r
 rw [hrt] at hget
 try simp only [Option.map_some] at hget
 have hrl:=fnd_lt hrt
 have hl1:ns.length≤1000000:=ht.2.1
 have hrn:rtN (r,ns,ds)=rt:=by unfold rtN;simp only;rw [hrt];rfl
 rw [hrn] at hpo
 obtain ⟨F,hF⟩:∃ F,F=ptL (r,ns,ds) p:=⟨_,rfl⟩
 simp only [TbV,← hF] at hix' ⊢
 unfold ptL at hF
 rw [hrn] at hF
 simp only at hF
 have zS:=jj hix'<|hget
 repeat' (first|(apply aw_seq_k;intro K hK)|(refine eM64 ?_)|(refine aw_cond (b:=_) (by exact rfl) (fun h=>?_) (fun h=>?_)<;>(try simp at h))|(refine eB ?_)|(refine hK _ ?_;clear hK)|(clear hK;refine hK _ ?_;clear hK)|(clear hK;clear hK;refine hK _ ?_;clear hK)|(clear hK;clear hK;clear hK;refine hK _ ?_;clear hK))
 all_goals clear zS
 refine aw_weaken (le_nilslot (t:=7) (sz:=3) (by simp)) ?_
 refine aw_loopK (s0:=?lps1) (m0:=?lpm1) (ι:={s:Nat×Nat×List Stp // s.1≤2∧s.2.1<ns.length∧pok ns p s.1 s.2.1∧s.2.2++pth ns p s.1 s.2.1=F}) [1,2,5] (fun s=>[(8,I s.1.1),(6,I s.1.2.1),(7,.sl 192 1 3 0 s.1.2.2.length)]) (fun s=>[(192,.vec 1 3 false (srows s.1.2.2))]) (fun s=>s.1.1) ⟨(2,rt,[]),by simp,hrl,hpo,hF.symm⟩ ?lhs1 ?lhm1 ?_ ?_
 case lhs1=>first|(simp [keepS];done)|(simp [keepS];rfl)
 case lhm1=>first|rfl|(simp;done)|(simp;rfl)
 ·exact le_of2 (by simp) (by simp [AVle,AV.under,AV.underL,srows]<;>omega) (by simp [AOle,AO.under,AV.underL,AV.under,srows]<;>omega)
 ·rintro ⟨⟨l,n,acc⟩,hl,hn,hpk,hacc⟩
  simp only at hl hn hpk hacc ⊢
  have hnN:(n:Int)<(ns.length:Int):=by omega
  have hdl:=dgt_lt p l
  have hdI:(dgt p l:Int)<8:=by omega
  have hgn:=nrows_gi hn
  have hgnE:=nrows_gE hn
  have h8:(gn ns n).2.length=8:=(ht.1 _ (gn_mem hn)).1
  have hw8:=wcs_gi (l:=(gn ns n).2) (i:=dgt p l) (by omega)
  have hwE:=wcs_gE (l:=(gn ns n).2) (i:=dgt p l) (by omega)
  have hw64:=wd_lt ht (n:=n) (i:=dgt p l) hn
  have hdg':=hdg p l hp hl
  have hlen:(acc++pth ns p l n).length≤3+acc.length:=by rw [List.length_append];have:=pth_len (ns:=ns) (p:=p) (l:=l) (n:=n);omega
  obtain ⟨w,hwd⟩:∃ w,w=wd ns n (dgt p l):=⟨_,rfl⟩
  have hwg:(gn ns n).2.getD (dgt p l) 0=w:=hwd.symm
  rw [hwg] at hw8 hwE
  simp only at hw64
  rw [← hwd] at hw64
  have hwl:(wcs (gn ns n).2).length=8:=by simp [h8]
  obtain ⟨⟨fr,ws⟩,hm⟩:∃ m,m=gn ns n:=⟨_,rfl⟩
  rw [← hm] at hgn hgnE hw8 hwE hwl
  simp only at hgn hgnE hw8 hwE hwl
  obtain ⟨cs,hcs⟩:∃ cs,cs=wcs ws:=⟨_,rfl⟩
  rw [← hcs] at hgn hgnE hw8 hwE hwl
  clear hcs hm h8 hwg
  have hen':=hen w hw64
  have hst:∀ (x:List Stp),srows acc++[[I n,I l,U w]]=srows (acc++[(n,l,w)]):=fun _=>by simp [srows,srow]
  have hst:=hst []
  have htk:List.take acc.length (srows acc)=srows acc:=List.take_of_length_le (by simp)
  have hal:acc.length≤1000:=by
   have h1:F.length≤3:=by rw [hF];exact pth_len
   rw [← hacc,List.length_append] at h1;omega
  have hdR:tabW w=if (decR w).1.1=4 then some (decR w).1.2.1 else none:=rfl
  obtain ⟨⟨⟨k,f,d,a,x,h⟩,e⟩,hE⟩:∃ r,r=decR w:=⟨_,rfl⟩
  rw [← hE] at hen' hdR
  clear hE
  simp only [EnV,U] at hen' hw8 hwE hst hdR
  obtain ⟨dg,hdg0⟩:∃ dg,dg=dgt p l:=⟨_,rfl⟩
  rw [← hdg0] at hdl hdI hw8 hwE hdg' hwd
  rcases Decidable.em (k=4) with hk|hk
  ·subst hk
   simp only [if_true] at hdR
   cases l with
   | zero =>
    simp only [pok] at hpk
    rw [← hdg0,← hwd,hdR] at hpk
    simp at hpk
   | succ l =>
    simp only [pok,pth] at hpk hacc
    rw [← hdg0,← hwd] at hpk hacc
    obtain ⟨nx,hfn,hpk2⟩:=hpk f hdR
    have hkid:kid WA ns w=some nx:=kid_some.2 ⟨f,hdR,hfn⟩
    rw [hkid] at hacc
    simp only at hacc
    have hg2:=idxE_get ha f
    rw [hfn] at hg2
    try simp only [Option.map_some] at hg2
    have hnx:=fnd_lt hfn
    have hlI:((l+1:Nat):Int)=(l:Int)+1:=by omega
    rw [hlI] at hdg' hst ⊢
    have hl1I:((l:Int)+1 - 1)=(l:Int):=by omega
    have zS:=jj hdg'<|jj hn<|jj hnN<|jj hgn<|jj hgnE<|jj hw8<|jj hwE<|jj hwl<|jj hdl<|jj hdI<|jj hen'<|jj hg2<|jj htk<|jj hst<|jj hal<|hl1I
    repeat' (first|(apply aw_seq_k;intro K hK)|(refine eM64 ?_)|(refine aw_cond (b:=_) (by exact rfl) (fun h=>?_) (fun h=>?_)<;>(try simp at h))|(refine eB ?_)|(refine hK _ ?_;clear hK)|(clear hK;refine hK _ ?_;clear hK)|(clear hK;clear hK;refine hK _ ?_;clear hK)|(clear hK;clear hK;clear hK;refine hK _ ?_;clear hK))
    all_goals clear zS
    refine ⟨l,nx,acc++[(n,l+1,w)],?_,⟨by omega,hnx,hpk2,by simpa using hacc⟩,by omega⟩
    simp only [List.length_append,List.length_singleton]
    refine le_turn (s1:=?tus2) (m1:=?tum2) [] [1,2,5,6,7,8] [0,48,192] ?tua2 ?tub2 ?tuc2 ?tud2 ?tue2 ?tuf2 ?tug2
    case tua2=>first|(simp [keepS];done)|(simp [keepS];rfl)
    case tub2=>first|(simp;done)|(simp;rfl)
    case tuc2=>simp
    case tud2=>simp
    case tue2=>simp
    case tuf2=>simp
    case tug2 =>
     simp [swp,vr]
     exact dle
  ·have hkid:kid WA ns w=none:=by unfold kid;show (tabW w).bind _=none;rw [hdR,if_neg hk];rfl
   have hfin:F=acc++[(n,l,w)]:=by
    cases l with
    | zero=>simp only [pth] at hacc;rw [← hdg0,← hwd] at hacc;exact hacc.symm
    | succ l=>simp only [pth] at hacc;rw [← hdg0,← hwd,hkid] at hacc;exact hacc.symm
   rw [hfin]
   have zS:=jj hdg'<|jj hn<|jj hnN<|jj hgn<|jj hgnE<|jj hw8<|jj hwE<|jj hwl<|jj hdl<|jj hdI<|jj hen'<|jj hk<|jj htk<|jj hst<|hal
   repeat' (first|(apply aw_seq_k;intro K hK)|(refine eM64 ?_)|(refine aw_cond (b:=_) (by exact rfl) (fun h=>?_) (fun h=>?_)<;>(try simp at h))|(refine eB ?_)|(refine hK _ ?_;clear hK)|(clear hK;refine hK _ ?_;clear hK)|(clear hK;clear hK;refine hK _ ?_;clear hK)|(clear hK;clear hK;clear hK;refine hK _ ?_;clear hK))
   all_goals clear zS
   have htk2:List.take (acc.length+1) (srows (acc++[(n,l,w)]))=srows (acc++[(n,l,w)]):=List.take_of_length_le (by simp)
   refine ⟨by simp,?_⟩
   simp [leaves_iff,Tryz.f137,htk2]
   try exact dt
end Go.AM
set_option maxHeartbeats 4000000
namespace Go.AM
open Go Go.Proofs
theorem srows_last {ns:NdL} {p l n:Nat}:(srows (pth ns p l n))[(pth ns p l n).length - 1]?=some (srow (lst ns p l n)):=by
 obtain ⟨i,hi⟩:=pth_lst (ns:=ns) (p:=p) (l:=l) (n:=n)
 rw [hi]
 simp [srows]
theorem pth_pos {ns:NdL} {p l n:Nat}:1≤(pth ns p l n).length:=by
 obtain ⟨i,hi⟩:=pth_lst (ns:=ns) (p:=p) (l:=l) (n:=n)
 rw [hi];simp
theorem s110 (X:AX) (hX:XOK Tryz.prog X) (hw:X.W wT) (hpa:∀ (t:Tb) (p:Nat),ptO t p→∀ M n,X.call 137 [TbV t,I p] M n=some (.sl n 1 3 0 (ptL t p).length,[(n,.vec 1 3 false (srows (ptL t p)))])) :
  PSound Tryz.prog 110 (specF (ι:={x:Tb×Nat // ptO x.1 x.2}) (fun x=>[TbV x.1.1,I x.1.2]) fun x=>retOf [stV (lsT x.1.1 x.1.2)]):=by
 refine psound_spec hX mixed Tryz.func110 rfl fun ⟨⟨⟨r,ns,ds⟩,p⟩,ht⟩ w0 G=>⟨by show 2≤15;decide,rfl,?_⟩
 show AW ⟨Tryz.prog,X,15,w0,.pure G⟩ _ _ _
 have hc:Cx.OK ⟨Tryz.prog,X,15,w0,.pure G⟩:=⟨hX,mixed⟩
 have hpa':=hpa _ _ ht
 have hla:=srows_last (ns:=ns) (p:=p) (l:=2) (n:=rtN (r,ns,ds))
 have hpo:=pth_pos (ns:=ns) (p:=p) (l:=2) (n:=rtN (r,ns,ds))
 have hle:=pth_len (ns:=ns) (p:=p) (l:=2) (n:=rtN (r,ns,ds))
 have e1:ptL (r,ns,ds) p=pth ns p 2 (rtN (r,ns,ds)):=rfl
 have e2:lsT (r,ns,ds) p=lst ns p 2 (rtN (r,ns,ds)):=rfl
 simp only [e1,e2,TbV,stV] at hpa' ⊢
 obtain ⟨L,hL⟩:∃ L,L=pth ns p 2 (rtN (r,ns,ds)):=⟨_,rfl⟩
 obtain ⟨⟨a,b,c⟩,hS⟩:∃ S,S=lst ns p 2 (rtN (r,ns,ds)):=⟨_,rfl⟩
 rw [← hL] at hpa' hla hpo hle
 rw [← hS] at hla ⊢
 obtain ⟨k,hk⟩:∃ k,L.length=k+1:=⟨L.length - 1,by omega⟩
 rw [hk] at hpa' hla
 rw [Nat.add_sub_cancel] at hla
 have hkI:((k+1:Nat):Int) - 1=k:=by omega
 have hkJ:((k:Int)+1) - 1=k:=by omega
 have hlE:∀ h',(srows L)[k]'(h')=srow (a,b,c):=fun h'=>by
  rw [List.getElem?_eq_getElem h'] at hla
  exact Option.some.inj hla
 simp only [srow,U] at hla hlE ⊢
 have hk3:k≤2:=by omega
 have zS:=jj hpa'<|jj hkI<|jj hkJ<|jj hla<|jj hlE<|jj hk<|hk3
 refine dM64 ?_
 repeat (intro K hK)
 clear zS
 refine ⟨by simp,?_⟩
 simp [leaves_iff,Tryz.f110]
 try exact dt
theorem dig_dgt {p l:Nat} (hp:p<512) (hl:l≤2):dig p l=(dgt p l:Nat):=by
 unfold dig dgt
 rcases (by omega:l=0∨l=1∨l=2) with rfl|rfl|rfl
 ·simp
 ·simp
 ·simp
  omega
theorem s111 (X:AX) (hX:XOK Tryz.prog X) (hw:X.W wT) (hfi:∀ (t:Tb) f,tbOK t→∀ M n,X.call 122 [TbV t,I f] M n=some (I (fstG (fun n=>decide (n.1=f)) t.2.1),[]))
  (hdg:∀ (p l:Nat),p<512→l≤2→∀ M n,X.call 112 [I p,I l] M n=some (I (dig p l),[])) (hen:∀ w:Nat,w<2^64→∀ M n,X.call 103 [U w] M n=some (EnV (decR w).1,[])) :
  PSound Tryz.prog 111 (specF (ι:={x:Tb×Nat // ptO x.1 x.2}) (fun x=>[TbV x.1.1,I x.1.2]) fun x=>retOf [I (lsT x.1.1 x.1.2).1,I (lsT x.1.1 x.1.2).2.1]):=by
 refine psound_spec hX mixed Tryz.func111 rfl fun ⟨⟨⟨r,ns,ds⟩,p⟩,ht,ha,hp,⟨rt,hrt⟩,hpo⟩ w0 G=>⟨by show 2≤38;decide,rfl,?_⟩
 show AW ⟨Tryz.prog,X,38,w0,.pure G⟩ _ _ _
 have hc:Cx.OK ⟨Tryz.prog,X,38,w0,.pure G⟩:=⟨hX,mixed⟩
 simp only at ha hp hrt hpo
 have hfi':=fun f=>hfi (r,ns,ds) f ht
 have hrl:=fnd_lt hrt
 have hl1:ns.length≤1000000:=ht.2.1
 have hrn:rtN (r,ns,ds)=rt:=by unfold rtN;simp only;rw [hrt];rfl
 rw [hrn] at hpo
 have hfr:=hfi' r
 rw [fstG_fnd] at hfr
 simp only at hfr
 rw [hrt] at hfr
 try simp only at hfr
 obtain ⟨F,hF⟩:∃ F,F=lsT (r,ns,ds) p:=⟨_,rfl⟩
 simp only [TbV,← hF] at hfi' hfr ⊢
 unfold lsT at hF
 rw [hrn] at hF
 simp only at hF
 have zS:=hfr
 repeat' (first|(apply aw_seq_k;intro K hK)|(refine eM64 ?_)|(refine aw_cond (b:=_) (by exact rfl) (fun h=>?_) (fun h=>?_)<;>(try simp at h))|(refine eB ?_)|(refine hK _ ?_;clear hK)|(clear hK;refine hK _ ?_;clear hK)|(clear hK;clear hK;refine hK _ ?_;clear hK)|(clear hK;clear hK;clear hK;refine hK _ ?_;clear hK))
 all_goals clear zS
 refine aw_loopK (s0:=?lps1) (m0:=?lpm1) (ι:={s:Nat×Nat // s.1≤2∧s.2<ns.length∧pok ns p s.1 s.2∧lst ns p s.1 s.2=F}) [1,2] (fun s=>[(7,I s.1.1),(6,I s.1.2)]) (fun _=>[]) (fun s=>s.1.1) ⟨(2,rt),by simp,hrl,hpo,hF.symm⟩ ?lhs1 ?lhm1 ?_ ?_
 case lhs1=>first|(simp [keepS];done)|(simp [keepS];rfl)
 case lhm1=>first|rfl|(simp;done)|(simp;rfl)
 ·exact dle
 ·rintro ⟨⟨l,n⟩,hl,hn,hpk,hacc⟩
  simp only at hl hn hpk hacc ⊢
  have hnN:(n:Int)<(ns.length:Int):=by omega
  have hdl:=dgt_lt p l
  have hdI:(dgt p l:Int)<8:=by omega
  have hgn:=nrows_gi hn
  have hgnE:=nrows_gE hn
  have h8:(gn ns n).2.length=8:=(ht.1 _ (gn_mem hn)).1
  have hw8:=wcs_gi (l:=(gn ns n).2) (i:=dgt p l) (by omega)
  have hwE:=wcs_gE (l:=(gn ns n).2) (i:=dgt p l) (by omega)
  have hw64:=wd_lt ht (n:=n) (i:=dgt p l) hn
  have hdg':=hdg p l hp hl
  rw [dig_dgt hp hl] at hdg'
  obtain ⟨w,hwd⟩:∃ w,w=wd ns n (dgt p l):=⟨_,rfl⟩
  have hwg:(gn ns n).2.getD (dgt p l) 0=w:=hwd.symm
  rw [hwg] at hw8 hwE
  simp only at hw64
  rw [← hwd] at hw64
  have hwl:(wcs (gn ns n).2).length=8:=by simp [h8]
  obtain ⟨⟨fr,ws⟩,hm⟩:∃ m,m=gn ns n:=⟨_,rfl⟩
  rw [← hm] at hgn hgnE hw8 hwE hwl
  simp only at hgn hgnE hw8 hwE hwl
  obtain ⟨cs,hcs⟩:∃ cs,cs=wcs ws:=⟨_,rfl⟩
  rw [← hcs] at hgn hgnE hw8 hwE hwl
  clear hcs hm h8 hwg
  have hen':=hen w hw64
  have hdR:tabW w=if (decR w).1.1=4 then some (decR w).1.2.1 else none:=rfl
  obtain ⟨⟨⟨k,f,d,a,x,h⟩,e⟩,hE⟩:∃ r,r=decR w:=⟨_,rfl⟩
  rw [← hE] at hen' hdR
  clear hE
  simp only [EnV,U] at hen' hw8 hwE hdR
  obtain ⟨dg,hdg0⟩:∃ dg,dg=dgt p l:=⟨_,rfl⟩
  rw [← hdg0] at hdl hdI hw8 hwE hdg' hwd
  cases l with
  | zero =>
   have e:F=(n,0,w):=by rw [← hacc];simp only [lst];rw [← hdg0,← hwd]
   repeat' (first|(apply aw_seq_k;intro K hK)|(refine eM64o ?_)|(refine aw_cond (b:=_) (by exact rfl) (fun h=>?_) (fun h=>?_)<;>(try simp at h))|(refine eB ?_)|(refine hK _ ?_;clear hK)|(clear hK;refine hK _ ?_;clear hK)|(clear hK;clear hK;refine hK _ ?_;clear hK)|(clear hK;clear hK;clear hK;refine hK _ ?_;clear hK))
   refine ⟨by simp,?_⟩
   simp [leaves_iff,Tryz.f111,e]
   try exact dt
  | succ l =>
   have hlI:((l+1:Nat):Int)=(l:Int)+1:=by omega
   rw [hlI] at hdg' ⊢
   have hl0:0<(l:Int)+1:=by omega
   have hl1I:((l:Int)+1 - 1)=(l:Int):=by omega
   rcases Decidable.em (k=4) with hk|hk
   ·subst hk
    simp only [if_true] at hdR
    simp only [pok,lst] at hpk hacc
    rw [← hdg0,← hwd] at hpk hacc
    obtain ⟨nx,hfn,hpk2⟩:=hpk f hdR
    have hkid:kid WA ns w=some nx:=kid_some.2 ⟨f,hdR,hfn⟩
    rw [hkid] at hacc
    simp only at hacc
    have hf2:=hfi' f
    rw [fstG_fnd,hfn] at hf2
    try simp only at hf2
    have hnx:=fnd_lt hfn
    have zS:=jj hl0<|jj hdg'<|jj hn<|jj hnN<|jj hgn<|jj hgnE<|jj hw8<|jj hwE<|jj hwl<|jj hdl<|jj hdI<|jj hen'<|jj hf2<|hl1I
    repeat' (first|(apply aw_seq_k;intro K hK)|(refine eM64 ?_)|(refine aw_cond (b:=_) (by exact rfl) (fun h=>?_) (fun h=>?_)<;>(try simp at h))|(refine eB ?_)|(refine hK _ ?_;clear hK)|(clear hK;refine hK _ ?_;clear hK)|(clear hK;clear hK;refine hK _ ?_;clear hK)|(clear hK;clear hK;clear hK;refine hK _ ?_;clear hK))
    all_goals clear zS
    refine ⟨l,nx,?_,⟨by omega,hnx,hpk2,hacc⟩,by omega⟩
    exact dle
   ·have hkid:kid WA ns w=none:=by unfold kid;show (tabW w).bind _=none;rw [hdR,if_neg hk];rfl
    have e:F=(n,l+1,w):=by rw [← hacc];simp only [lst];rw [← hdg0,← hwd,hkid]
    have zS:=jj hl0<|jj hdg'<|jj hn<|jj hnN<|jj hgn<|jj hgnE<|jj hw8<|jj hwE<|jj hwl<|jj hdl<|jj hdI<|jj hen'<|hk
    repeat' (first|(apply aw_seq_k;intro K hK)|(refine eM64 ?_)|(refine aw_cond (b:=_) (by exact rfl) (fun h=>?_) (fun h=>?_)<;>(try simp at h))|(refine eB ?_)|(refine hK _ ?_;clear hK)|(clear hK;refine hK _ ?_;clear hK)|(clear hK;clear hK;refine hK _ ?_;clear hK)|(clear hK;clear hK;clear hK;refine hK _ ?_;clear hK))
    all_goals clear zS
    refine ⟨by simp,?_⟩
    simp [leaves_iff,Tryz.f111,e]
    try exact dt
noncomputable def ckd (t:Tb) (n lim:Int):Int:=if chk t≠0 then chk t else if n<0∨lim≤n then 2 else 0
theorem s109 (X:AX) (hX:XOK Tryz.prog X) (hw:X.W wT) (hch:∀ t:Tb,tbOK t→∀ M n,X.call 39 [TbV t] M n=some (I (chk t),[])) :
  PSound Tryz.prog 109 (specF (ι:={x:Tb×Int×Int // tbOK x.1}) (fun x=>[TbV x.1.1,I x.1.2.1,I x.1.2.2]) fun x=>retOf [I (ckd x.1.1 x.1.2.1 x.1.2.2)]):=by
 refine psound_spec hX mixed Tryz.func109 rfl fun ⟨⟨⟨r,ns,ds⟩,n,lim⟩,ht⟩ w0 G=>⟨by show 3≤20;decide,rfl,?_⟩
 show AW ⟨Tryz.prog,X,20,w0,.pure G⟩ _ _ _
 have hc:Cx.OK ⟨Tryz.prog,X,20,w0,.pure G⟩:=⟨hX,mixed⟩
 have hch':=hch _ ht
 unfold ckd
 obtain ⟨c,hc0⟩:∃ c,c=chk (r,ns,ds):=⟨_,rfl⟩
 simp only [TbV,← hc0] at hch' ⊢
 rcases Decidable.em (c=0) with h0|h0
 ·subst h0
  rcases Decidable.em (n<0) with h1|h1
  ·have zS:=jj hch'<|h1
   refine dM64 ?_
   repeat (intro K hK)
   clear zS
   refine ⟨by simp,?_⟩
   simp [leaves_iff,Tryz.f109,h1]
   try exact dt
  ·rcases Decidable.em (lim≤n) with h2|h2
   ·have zS:=jj hch'<|jj h1<|h2
    refine dM64 ?_
    repeat (intro K hK)
    clear zS
    refine ⟨by simp,?_⟩
    simp [leaves_iff,Tryz.f109,h1,h2]
    try exact dt
   ·have zS:=jj hch'<|jj h1<|h2
    refine dM64 ?_
    repeat (intro K hK)
    clear zS
    refine ⟨by simp,?_⟩
    simp [leaves_iff,Tryz.f109,h1,h2]
    try exact dt
 ·have zS:=jj hch'<|h0
  refine dM64 ?_
  repeat (intro K hK)
  clear zS
  refine ⟨by simp,?_⟩
  simp [leaves_iff,Tryz.f109,h0]
  try exact dt
end Go.AM
namespace Go.AM
open Go Go.Proofs
structure Pv (t:Tb):Prop where
 asc:ascN t.2.1
 vm:VM WA (Mof t.2.1) t.1
theorem Vt.pv {t:Tb} (h:Vt t):Pv t:=⟨h.num.asc,h.vm⟩
def wlk (M:Mm) (root:Int) (p:Nat):Int×Nat×Nat:=match frP WA M root 2 (p/8) with
 | some f=>(f,0,wM M f (p%8))
 | none=>match frP WA M root 1 (p/64) with
  | some f=>(f,1,wM M f (p/8%8))
  | none=>(root,2,wM M root (p/64))
theorem Pv.root {t:Tb} (h:Pv t):fnd t.2.1 t.1=some (rtN t):=by
 obtain ⟨ws,h1,_⟩:=h.vm.nd 0 0 Pos0 t.1 rfl
 obtain ⟨r,h2,_⟩:=Mof_some.1 h1
 unfold rtN
 rw [h2];rfl
theorem Pv.walk {t:Tb} (h:Pv t) {p:Nat} (hp:p<512):pok t.2.1 p 2 (rtN t)∧fnd t.2.1 (wlk (Mof t.2.1) t.1 p).1=some (lsT t p).1∧(lsT t p).2=(wlk (Mof t.2.1) t.1 p).2:=by
 have hr:=h.root
 have d2:dgt p 2=p/64:=by unfold dgt;simp;omega
 have d1:dgt p 1=p/8%8:=by unfold dgt;simp
 have d0:dgt p 0=p%8:=by unfold dgt;simp
 unfold lsT wlk
 simp only [pok,lst,d2,d1,d0]
 have q2:=h.vm.nd
 have f1:frP WA (Mof t.2.1) t.1 1 (p/64)=tabW (wd t.2.1 (rtN t) (p/64)):=by
  simp only [frP,Option.bind_some]
  rw [show p/64%8=p/64 by omega,wM_Mof hr]
  rfl
 have f2:frP WA (Mof t.2.1) t.1 2 (p/8)=(frP WA (Mof t.2.1) t.1 1 (p/64)).bind fun f=>tabW (wM (Mof t.2.1) f (p/8%8)):=by
  show (frP WA (Mof t.2.1) t.1 1 (p/8/8)).bind _=_
  rw [show p/8/8=p/64 by omega]
  rfl
 cases h1:tabW (wd t.2.1 (rtN t) (p/64)) with
 | none =>
  rw [h1] at f1
  rw [f1] at f2
  have hk:kid WA t.2.1 (wd t.2.1 (rtN t) (p/64))=none:=by unfold kid;show (tabW _).bind _=none;rw [h1];rfl
  rw [f2,f1,hk]
  simp only [Option.bind_none]
  refine ⟨fun g hg=>by simp at hg,hr,?_⟩
  rw [wM_Mof hr]
 | some g1 =>
  rw [h1] at f1
  rw [f1] at f2
  simp only [Option.bind_some] at f2
  obtain ⟨ws,m1,_⟩:=q2 1 (p/64) (Pos1 (by omega)) g1 f1
  obtain ⟨n1,hn1,_⟩:=Mof_some.1 m1
  have hk:kid WA t.2.1 (wd t.2.1 (rtN t) (p/64))=some n1:=kid_some.2 ⟨g1,h1,hn1⟩
  rw [hk,f1]
  rw [wM_Mof hn1] at f2
  simp only
  cases h2:tabW (wd t.2.1 n1 (p/8%8)) with
  | none =>
   rw [h2] at f2
   have hk2:kid WA t.2.1 (wd t.2.1 n1 (p/8%8))=none:=by unfold kid;show (tabW _).bind _=none;rw [h2];rfl
   rw [f2,hk2]
   simp only
   refine ⟨fun g hg=>?_,hn1,?_⟩
   ·simp only [Option.some.injEq] at hg
    subst hg
    exact ⟨n1,hn1,fun g hg=>by rw [h2] at hg;simp at hg⟩
   ·rw [wM_Mof hn1]
  | some g2 =>
   rw [h2] at f2
   obtain ⟨ws2,m2,_,m3⟩:=q2 2 (p/8) (Pos2 (by omega)) g2 f2
   obtain ⟨n2,hn2,e2⟩:=Mof_some.1 m2
   have hk2:kid WA t.2.1 (wd t.2.1 n1 (p/8%8))=some n2:=kid_some.2 ⟨g2,h2,hn2⟩
   rw [f2,hk2]
   simp only
   refine ⟨fun g hg=>?_,hn2,?_⟩
   ·simp only [Option.some.injEq] at hg
    subst hg
    refine ⟨n1,hn1,fun g hg=>?_⟩
    rw [h2] at hg
    simp only [Option.some.injEq] at hg
    subst hg
    refine ⟨n2,hn2,?_⟩
    have:=m3 (p%8) (by omega)
    refine (WD_ok fun _=>true).flat _ ?_
    unfold wd
    rw [e2]
    exact this
   ·rw [wM_Mof hn2]
theorem Pv.pto {t:Tb} (h:Pv t) (ht:tbOK t) {p:Nat} (hp:p<512):ptO t p:=⟨ht,h.asc,hp,⟨_,h.root⟩,(h.walk hp).1⟩
theorem lsT_lt {t:Tb} (h:Pv t) {p:Nat} (hp:p<512):(lsT t p).1<t.2.1.length∧(lsT t p).2.1≤2:=lst_lt (fnd_lt h.root)
theorem chk_pv {t:Tb} (ht:tbOK t) (h:chk t=0):Pv t:=((chk_iff ht).1 h).pv
end Go.AM
set_option maxHeartbeats 2000000
namespace Go.AM
open Go Go.Proofs
theorem ckd_cases (t:Tb) (n lim:Int):(ckd t n lim≠0)∨(ckd t n lim=0∧chk t=0∧0≤n∧n<lim):=by
 unfold ckd
 by_cases h:chk t=0
 ·rw [if_neg (by simp [h])]
  split
  ·left;decide
  ·right;exact ⟨rfl,h,by omega,by omega⟩
 ·rw [if_pos h];exact .inl h
theorem ckd_z {t:Tb} {n lim:Int} (h:chk t=0) (h1:0≤n) (h2:n<lim):ckd t n lim=0:=by
 unfold ckd
 rw [if_neg (by simp [h]),if_neg (by omega)]
theorem ckd_c {t:Tb} {n lim:Int} (h:chk t≠0):ckd t n lim=chk t:=by unfold ckd;rw [if_pos h]
theorem ckd_r {t:Tb} {n lim:Int} (h:chk t=0) (h1:n<0∨lim≤n):ckd t n lim=2:=by unfold ckd;rw [if_neg (by simp [h]),if_pos h1]
noncomputable def walkT (t:Tb) (n:Int):Nat×Nat×Int:=if ckd t n 512=0 then ((lsT t n.toNat).2.2,(lsT t n.toNat).2.1,0) else (0,0,ckd t n 512)
theorem walkT_z {t:Tb} {n:Int} (h:ckd t n 512=0):walkT t n=((lsT t n.toNat).2.2,(lsT t n.toNat).2.1,0):=by unfold walkT;rw [if_pos h]
theorem walkT_n {t:Tb} {n:Int} (h:¬ ckd t n 512=0):walkT t n=(0,0,ckd t n 512):=by unfold walkT;rw [if_neg h]
theorem lsT_u64 {t:Tb} (ht:tbOK t) (h:Pv t) {p:Nat} (hp:p<512):(lsT t p).2.2<2^64:=by
 have:=lst_word (ns:=t.2.1) (p:=p) (l:=2) (n:=rtN t)
 show (lst t.2.1 p 2 (rtN t)).2.2<_
 rw [this]
 exact wd_lt ht (lst_lt (fnd_lt h.root)).1
section
variable (X:AX) (hX:XOK Tryz.prog X) (hw:X.W wT) (hck:∀ t:Tb,tbOK t→∀ (n lim:Int) M k,X.call 109 [TbV t,I n,I lim] M k=some (I (ckd t n lim),[]))
 (hla:∀ (t:Tb) (p:Nat),ptO t p→∀ M n,X.call 110 [TbV t,I p] M n=some (stV (lsT t p),[]))
 (hen:∀ w:Nat,w<2^64→∀ M n,X.call 113 [U w] M n=some (EnV (decR w).1,[]))
include hX hw hck hla
theorem s35:PSound Tryz.prog 35 (specF (ι:={x:Tb×Int // tbOK x.1}) (fun x=>[TbV x.1.1,I x.1.2]) fun x=>retOf [U (walkT x.1.1 x.1.2).1,I (walkT x.1.1 x.1.2).2.1,I (walkT x.1.1 x.1.2).2.2]):=by
 refine psound_spec hX mixed Tryz.func35 rfl fun ⟨⟨⟨r,ns,ds⟩,n⟩,ht⟩ w0 G=>⟨by show 2≤22;decide,rfl,?_⟩
 show AW ⟨Tryz.prog,X,22,w0,.pure G⟩ _ _ _
 have hc:Cx.OK ⟨Tryz.prog,X,22,w0,.pure G⟩:=⟨hX,mixed⟩
 have hck':=hck _ ht n 512
 rcases ckd_cases (r,ns,ds) n 512 with h0|⟨h0,h1,h2,h3⟩
 ·have e:=walkT_n h0
  obtain ⟨c,hc0⟩:∃ c,c=ckd (r,ns,ds) n 512:=⟨_,rfl⟩
  rw [← hc0] at hck' e h0
  simp only [TbV,e,U] at hck' ⊢
  have zS:=jj hck'<|h0
  refine dM64 ?_
  repeat (intro K hK)
  clear zS
  refine ⟨by simp,?_⟩
  simp [leaves_iff,Tryz.f35]
  try exact dt
 ·have e:=walkT_z h0
  obtain ⟨p,rfl⟩:∃ p:Nat,n=p:=⟨n.toNat,by omega⟩
  have hp:p<512:=by omega
  have hpto:=(chk_pv ht h1).pto ht hp
  have hla':=hla _ p hpto
  rw [h0] at hck'
  rw [Int.toNat_natCast] at e
  obtain ⟨⟨a,b,c⟩,hS⟩:∃ S,S=lsT (r,ns,ds) p:=⟨_,rfl⟩
  rw [← hS] at hla' e
  simp only [TbV,e,stV,srow,U] at hck' hla' ⊢
  have zS:=jj hck'<|hla'
  refine dM64 ?_
  repeat (intro K hK)
  clear zS
  refine ⟨by simp,?_⟩
  simp [leaves_iff,Tryz.f35]
  try exact dt
include hen
end
theorem s36 (X:AX) (hX:XOK Tryz.prog X) (hw:X.W wT) (hch:∀ t:Tb,tbOK t→∀ M n,X.call 40 [TbV t] M n=some (I (chk t),[]))
  (hst:∀ (t:Tb) (p:Nat),ptO t p→∀ M n,X.call 111 [TbV t,I p] M n=some (.tup [I (lsT t p).1,I (lsT t p).2.1],[]))
  (hdg:∀ (p l:Nat),p<512→l≤2→∀ M n,X.call 112 [I p,I l] M n=some (I (dig p l),[])) :
  PSound Tryz.prog 36 (specF (ι:={x:Tb×Int // tbOK x.1}) (fun x=>[TbV x.1.1,I x.1.2]) fun x=>retOf [U (walkT x.1.1 x.1.2).1,I (walkT x.1.1 x.1.2).2.1,I (walkT x.1.1 x.1.2).2.2]):=by
 refine psound_spec hX mixed Tryz.func36 rfl fun ⟨⟨⟨r,ns,ds⟩,n⟩,ht⟩ w0 G=>⟨by show 2≤38;decide,rfl,?_⟩
 show AW ⟨Tryz.prog,X,38,w0,.pure G⟩ _ _ _
 have hc:Cx.OK ⟨Tryz.prog,X,38,w0,.pure G⟩:=⟨hX,mixed⟩
 have hch':=hch _ ht
 have hl1:ns.length≤1000000:=ht.2.1
 rcases Decidable.em (chk (r,ns,ds)=0) with hc0|hc0
 ·rcases Decidable.em (n<0) with h1|h1
  ·have e:=walkT_n (t:=(r,ns,ds)) (n:=n) (by rw [ckd_r hc0 (.inl h1)];decide)
   rw [ckd_r hc0 (.inl h1)] at e
   rw [hc0] at hch'
   simp only [TbV,e,U] at hch' ⊢
   have zS:=jj hch'<|h1
   refine dM64 ?_
   repeat (intro K hK)
   clear zS
   refine ⟨by simp,?_⟩
   simp [leaves_iff,Tryz.f36]
   try exact dt
  ·rcases Decidable.em (512≤n) with h2|h2
   ·have e:=walkT_n (t:=(r,ns,ds)) (n:=n) (by rw [ckd_r hc0 (.inr h2)];decide)
    rw [ckd_r hc0 (.inr h2)] at e
    rw [hc0] at hch'
    simp only [TbV,e,U] at hch' ⊢
    have zS:=jj hch'<|jj h1<|h2
    refine dM64 ?_
    repeat (intro K hK)
    clear zS
    refine ⟨by simp,?_⟩
    simp [leaves_iff,Tryz.f36]
    try exact dt
   ·have e:=walkT_z (t:=(r,ns,ds)) (n:=n) (ckd_z hc0 (by omega) (by omega))
    obtain ⟨p,rfl⟩:∃ p:Nat,n=p:=⟨n.toNat,by omega⟩
    have hp:p<512:=by omega
    have hpv:=chk_pv ht hc0
    have hpto:=hpv.pto ht hp
    have hst':=hst _ p hpto
    rw [hc0] at hch'
    rw [Int.toNat_natCast] at e
    have hwo:=lst_word (ns:=ns) (p:=p) (l:=2) (n:=rtN (r,ns,ds))
    rw [show lst ns p 2 (rtN (r,ns,ds))=lsT (r,ns,ds) p from rfl] at hwo
    obtain ⟨hlt1,hlt2⟩:=lsT_lt hpv hp
    obtain ⟨⟨a,b,c⟩,hS⟩:∃ S,S=lsT (r,ns,ds) p:=⟨_,rfl⟩
    rw [← hS] at hst' e hwo hlt1 hlt2
    simp only at hwo hlt1 hlt2 hst' e
    have haN:(a:Int)<(ns.length:Int):=by omega
    have hdg':=hdg p b hp hlt2
    rw [dig_dgt hp hlt2] at hdg'
    have hdl:=dgt_lt p b
    have hgn:=nrows_gi hlt1
    have hgnE:=nrows_gE hlt1
    have h8:(gn ns a).2.length=8:=(ht.1 _ (gn_mem hlt1)).1
    have hw8:=wcs_gi (l:=(gn ns a).2) (i:=dgt p b) (by omega)
    have hwE:=wcs_gE (l:=(gn ns a).2) (i:=dgt p b) (by omega)
    have hwg:(gn ns a).2.getD (dgt p b) 0=c:=hwo.symm
    rw [hwg] at hw8 hwE
    have hwl:(wcs (gn ns a).2).length=8:=by simp [h8]
    obtain ⟨⟨fr,ws⟩,hm⟩:∃ m,m=gn ns a:=⟨_,rfl⟩
    rw [← hm] at hgn hgnE hw8 hwE hwl
    simp only at hgn hgnE hw8 hwE hwl
    obtain ⟨cs,hcs⟩:∃ cs,cs=wcs ws:=⟨_,rfl⟩
    rw [← hcs] at hgn hgnE hw8 hwE hwl
    obtain ⟨dg,hdg0⟩:∃ dg,dg=dgt p b:=⟨_,rfl⟩
    rw [← hdg0] at hdl hw8 hwE hdg'
    have hdI:(dg:Int)<8:=by omega
    clear hcs hm h8 hwg hwo hS
    simp only [TbV,U] at hch' hst' hw8 hwE ⊢
    have zS:=jj hch'<|jj hst'<|jj h1<|jj h2<|jj hdg'<|jj hlt1<|jj haN<|jj hgn<|jj hgnE<|jj hw8<|jj hwE<|jj hwl<|jj hdl<|hdI
    refine dM64 ?_
    repeat (intro K hK)
    clear zS
    refine ⟨by simp,?_⟩
    simp [leaves_iff,Tryz.f36,e]
    try exact dt
 ·have e:=walkT_n (t:=(r,ns,ds)) (n:=n) (by rw [ckd_c hc0];exact hc0)
  rw [ckd_c hc0] at e
  obtain ⟨c,hcc⟩:∃ c,c=chk (r,ns,ds):=⟨_,rfl⟩
  rw [← hcc] at hch' e hc0
  simp only [TbV,e,U] at hch' ⊢
  have zS:=jj hch'<|hc0
  refine dM64 ?_
  repeat (intro K hK)
  clear zS
  refine ⟨by simp,?_⟩
  simp [leaves_iff,Tryz.f36]
  try exact dt
end Go.AM
namespace Go.AM
theorem sorted_ext {α:Type} {R:α→α→Prop} (hi:∀ a,¬ R a a) (ht:∀ {a b c},R a b→R b c→R a c):∀ {l m:List α},l.Pairwise R→m.Pairwise R→(∀ x,x∈l↔x∈m)→l=m
 | [],[],_,_,_=>rfl
 | [],y::m,_,_,h=>by have:=(h y).2 (by simp);simp at this
 | x::l,[],_,_,h=>by have:=(h x).1 (by simp);simp at this
 | x::l,y::m,hl,hm,h=>by
  rw [List.pairwise_cons] at hl hm
  have e:x=y:=by
   rcases List.mem_cons.1 ((h x).1 (by simp)) with e|h1
   ·exact e
   ·rcases List.mem_cons.1 ((h y).2 (by simp)) with e|h2
    ·exact e.symm
    ·exact absurd (ht (hl.1 y h2) (hm.1 x h1)) (hi x)
  subst e
  congr 1
  refine sorted_ext hi ht hl.2 hm.2 fun z=>?_
  constructor
  ·intro hz
   rcases List.mem_cons.1 ((h z).1 (by simp [hz])) with e|h1
   ·subst e;exact absurd (hl.1 z hz) (hi z)
   ·exact h1
  ·intro hz
   rcases List.mem_cons.1 ((h z).2 (by simp [hz])) with e|h1
   ·subst e;exact absurd (hm.1 z hz) (hi z)
   ·exact h1
section
variable {β:Type}
def ascK (l:List (Int×β)):Prop:=l.Pairwise fun a b=>a.1<b.1
theorem ascK_ext {l m:List (Int×β)} (hl:ascK l) (hm:ascK m) (h:∀ x,x∈l↔x∈m):l=m :=
 sorted_ext (R:=fun a b:Int×β=>a.1<b.1) (fun a=>Int.lt_irrefl _) (fun h1 h2=>Int.lt_trans h1 h2) hl hm h
def insK:List (Int×β)→Int×β→List (Int×β)
 | [],n=>[n]
 | a::r,n=>if n.1<a.1 then n::a::r else a::insK r n
def delK (l:List (Int×β)) (k:Int):List (Int×β):=l.filter fun a=>decide (a.1≠k)
theorem mem_delK {l:List (Int×β)} {k:Int} {x:Int×β}:x∈delK l k↔x∈l∧x.1≠k:=by simp [delK]
theorem delK_asc {l:List (Int×β)} {k:Int} (h:ascK l):ascK (delK l k):=List.Pairwise.filter _ h
end
section
variable {ns:NdL}
theorem mem_Mof (ha:ascN ns) {f:Int} {ws:List Nat}:(f,ws)∈ns↔Mof ns f=some ws:=by
 constructor
 ·intro h
  obtain ⟨i,hi,e⟩:=List.getElem_of_mem h
  have h1:=fnd_at ha hi
  rw [List.getD_eq_getElem?_getD,List.getElem?_eq_getElem hi,Option.getD_some,e] at h1
  refine Mof_some.2 ⟨i,h1,?_⟩
  rw [List.getD_eq_getElem?_getD,List.getElem?_eq_getElem hi,Option.getD_some,e]
 ·intro h
  obtain ⟨i,h1,rfl⟩:=Mof_some.1 h
  have hi:=fnd_lt h1
  have h2:=fnd_frame h1
  rw [← h2]
  rw [List.getD_eq_getElem?_getD,List.getElem?_eq_getElem hi,Option.getD_some]
  exact List.getElem_mem hi
theorem Mof_none (ha:ascN ns) {f:Int}:Mof ns f=none↔∀ n∈ns,n.1≠f:=by
 constructor
 ·rintro h ⟨g,ws⟩ hn e
  simp only at e
  subst e
  rw [(mem_Mof ha).1 hn] at h;simp at h
 ·intro h
  cases hm:Mof ns f with
  | none=>rfl
  | some ws=>exact absurd rfl (h _ ((mem_Mof ha).2 hm))
theorem ext_asc {ms:NdL} (ha:ascN ns) (hb:ascN ms) (h:∀ f,Mof ns f=Mof ms f):ns=ms:=by
 refine ascK_ext ha hb fun x=>?_
 obtain ⟨f,ws⟩:=x
 rw [mem_Mof ha,mem_Mof hb,h]
theorem Mof_del (ha:ascN ns) {f:Int}:∀ g,Mof (delK ns f) g=updM1 (Mof ns) f none g:=by
 intro g
 have hi:ascN (delK ns f):=delK_asc ha
 unfold updM1
 split
 ·rename_i e
  subst e
  exact (Mof_none hi).2 fun n hn=>(mem_delK.1 hn).2
 ·rename_i e
  cases h:Mof ns g with
  | none=>exact (Mof_none hi).2 fun n hn=>(Mof_none ha).1 h n (mem_delK.1 hn).1
  | some us=>exact (mem_Mof hi).1 (mem_delK.2 ⟨(mem_Mof ha).2 h,e⟩)
def setN (ns:NdL) (n i w:Nat):NdL:=ns.set n ((ns.getD n (0,[])).1,(ns.getD n (0,[])).2.set i w)
@[simp] theorem setN_len {n i w:Nat}:(setN ns n i w).length=ns.length:=by simp [setN]
theorem setN_asc (ha:ascN ns) {n i w:Nat} (hn:n<ns.length):ascN (setN ns n i w):=by
 have hk:∀ j (hj:j<(setN ns n i w).length) (hj2:j<ns.length),((setN ns n i w)[j]).1=(ns[j]).1:=fun j hj hj2=>by
  unfold setN at hj ⊢
  rw [List.getElem_set]
  split
  ·rename_i e
   subst e
   simp only
   rw [List.getD_eq_getElem?_getD,List.getElem?_eq_getElem hn];rfl
  ·rfl
 refine List.pairwise_iff_getElem.2 fun a b h1 h2 h3=>?_
 rw [hk a h1 (by simpa using h1),hk b h2 (by simpa using h2)]
 exact List.pairwise_iff_getElem.1 ha a b _ _ h3
theorem Mof_set (ha:ascN ns) {f:Int} {n i w:Nat} (hf:fnd ns f=some n):∀ g,Mof (setN ns n i w) g=updW (Mof ns) f i w g:=by
 intro g
 have hn:=fnd_lt hf
 have hi:ascN (setN ns n i w):=setN_asc ha hn
 have hfr:=fnd_frame hf
 have hmem:∀ x,x∈setN ns n i w↔x=(f,(ns.getD n (0,[])).2.set i w)∨(x∈ns∧x.1≠f):=fun x=>by
  constructor
  ·intro hx
   obtain ⟨j,hj,rfl⟩:=List.getElem_of_mem hx
   unfold setN at hj ⊢
   rw [List.getElem_set]
   split
   ·rw [hfr];exact .inl rfl
   ·rename_i e
    right
    have hj2:j<ns.length:=by simpa using hj
    refine ⟨List.getElem_mem hj2,fun e2=>e ?_⟩
    have h1:=fnd_at ha hj2
    rw [List.getD_eq_getElem?_getD,List.getElem?_eq_getElem hj2,Option.getD_some,e2,hf] at h1
    simpa using h1
  ·rintro (rfl|⟨h1,h2⟩)
   ·have:(setN ns n i w)[n]'(by simpa using hn)=(f,(ns.getD n (0,[])).2.set i w):=by
     unfold setN;rw [List.getElem_set,if_pos rfl,hfr]
    rw [← this];exact List.getElem_mem _
   ·obtain ⟨j,hj,rfl⟩:=List.getElem_of_mem h1
    have hjn:n≠j:=fun e=>h2 (by
     subst e
     rw [List.getD_eq_getElem?_getD,List.getElem?_eq_getElem hj,Option.getD_some] at hfr
     exact hfr)
    have:(setN ns n i w)[j]'(by simpa using hj)=ns[j]:=by
     unfold setN;rw [List.getElem_set,if_neg hjn]
    rw [← this];exact List.getElem_mem _
 unfold updW
 split
 ·rename_i e
  subst e
  have h1:Mof ns g=some (ns.getD n (0,[])).2:=Mof_some.2 ⟨n,hf,rfl⟩
  rw [h1]
  exact (mem_Mof hi).1 ((hmem _).2 (.inl rfl))
 ·rename_i e
  cases h:Mof ns g with
  | none =>
   refine (Mof_none hi).2 fun x hx=>?_
   rcases (hmem x).1 hx with rfl|⟨h1,h2⟩
   ·exact fun h=>e h.symm
   ·exact (Mof_none ha).1 h x h1
  | some us=>exact (mem_Mof hi).1 ((hmem _).2 (.inr ⟨(mem_Mof ha).2 h,e⟩))
end
end Go.AM
