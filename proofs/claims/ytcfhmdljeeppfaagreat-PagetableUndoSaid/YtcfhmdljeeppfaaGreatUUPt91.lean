/- A part of the proof: what functions of the program compute, by abstract execution of their code. Its theorems hold without further condition. -/
import Derived.Test.YtcfhmdljeeppfaaGreatUPtU
import Derived.Test.YtcfhmdljeeppfaaGreatUAmT
set_option linter.all false
set_option maxHeartbeats 4000000
namespace Go.AM
open Go Go.Proofs
noncomputable def CiF:List AV→Option AV:=specF (ι:={l:List Int // l.length≤1000000}) (fun x=>[.rd 1 (irows x.1)]) fun x=>retOf [.ow 1 (irows x.1)]
theorem s59 (X:AX) (hX:XOK Tryz.prog X) (hw:X.W wT):PSound Tryz.prog 59 CiF:=by
 unfold CiF
 refine psound_spec hX mixed Tryz.func59 rfl fun ⟨l,hl⟩ w0 G=>⟨by show 1≤8;decide,rfl,?_⟩
 show AW ⟨Tryz.prog,X,8,w0,.pure G⟩ _ _ _
 have hc:Cx.OK ⟨Tryz.prog,X,8,w0,.pure G⟩:=⟨hX,mixed⟩
 simp only at hl ⊢
 cases l with
 | nil =>
  refine aw_cases_nil 0 1 (by simp [irows,enterS]) ?_ fun p n=>?_
  ·repeat' (first|(apply aw_seq_k;intro K hK)|(refine aw_run hc (by first|exact aw_nod|(intro _;rw [ordB_w hw];kernel_rfl)|(intro _;rw [ordB_w0 hw0];kernel_rfl)|(intro _;kernel_rfl)) ?_;simp [List.zipIdx,-getM,getM_hit,getM_miss,getM_none];(repeat (simp (disch:=first|omega|assumption|fail) only [if_pos,if_neg,wrap64];try simp [List.zipIdx,-getM,getM_hit,getM_miss,getM_none]));try (repeat' (refine guardQ_split (fun h=>?_) (fun h=>?_)<;>simp at h<;>(simp [List.zipIdx,-getM,getM_hit,getM_miss,getM_none];(repeat (simp (disch:=first|omega|assumption|fail) only [if_pos,if_neg,wrap64];try simp [List.zipIdx,-getM,getM_hit,getM_miss,getM_none]))))))|(refine aw_cond (b:=_) (by exact rfl) (fun h=>?_) (fun h=>?_)<;>(try simp at h))|(refine aw_block ?_)|(refine aw_skip ?_;simp only [thenQ,blockQ,if_true])|(refine aw_exit ?_;simp [thenQ,blockQ])|(refine aw_ret ?_;simp only [thenQ,blockQ])|(refine aw_round ?_)|(refine hK _ ?_;clear hK)|(clear hK;refine hK _ ?_;clear hK)|(clear hK;clear hK;refine hK _ ?_;clear hK)|(clear hK;clear hK;clear hK;refine hK _ ?_;clear hK))
   refine ⟨by simp,?_⟩
   simp [leaves_iff,Tryz.f59,irows]
   try (first|omega|(refine decide_eq_decide.2 ?_;omega)|(refine decide_eq_false ?_;omega)|(refine decide_eq_true ?_;omega))
  ·repeat' (first|(apply aw_seq_k;intro K hK)|(refine aw_run hc (by first|exact aw_nod|(intro _;rw [ordB_w hw];kernel_rfl)|(intro _;rw [ordB_w0 hw0];kernel_rfl)|(intro _;kernel_rfl)) ?_;simp [List.zipIdx,-getM,getM_hit,getM_miss,getM_none];(repeat (simp (disch:=first|omega|assumption|fail) only [if_pos,if_neg,wrap64];try simp [List.zipIdx,-getM,getM_hit,getM_miss,getM_none]));try (repeat' (refine guardQ_split (fun h=>?_) (fun h=>?_)<;>simp at h<;>(simp [List.zipIdx,-getM,getM_hit,getM_miss,getM_none];(repeat (simp (disch:=first|omega|assumption|fail) only [if_pos,if_neg,wrap64];try simp [List.zipIdx,-getM,getM_hit,getM_miss,getM_none]))))))|(refine aw_cond (b:=_) (by exact rfl) (fun h=>?_) (fun h=>?_)<;>(try simp at h))|(refine aw_block ?_)|(refine aw_skip ?_;simp only [thenQ,blockQ,if_true])|(refine aw_exit ?_;simp [thenQ,blockQ])|(refine aw_ret ?_;simp only [thenQ,blockQ])|(refine aw_round ?_)|(refine hK _ ?_;clear hK)|(clear hK;refine hK _ ?_;clear hK)|(clear hK;clear hK;refine hK _ ?_;clear hK)|(clear hK;clear hK;clear hK;refine hK _ ?_;clear hK))
   refine ⟨by simp,?_⟩
   simp [leaves_iff,Tryz.f59,irows]
   try (first|omega|(refine decide_eq_decide.2 ?_;omega)|(refine decide_eq_false ?_;omega)|(refine decide_eq_true ?_;omega))
 | cons x l =>
  have hl':l.length+1≤1000000:=by simpa using hl
  obtain ⟨e,he⟩:∃ e,e=[I x]:=⟨_,rfl⟩
  obtain ⟨T,hT⟩:∃ T,T=irows l:=⟨_,rfl⟩
  have hc2:irows (x::l)=e::T:=by rw [he,hT];rfl
  have hTl:T.length=l.length:=by rw [hT];simp
  have tk:List.take T.length T=T:=List.take_of_length_le (Nat.le_refl _)
  rw [hc2]
  clear he hT
  repeat' (first|(apply aw_seq_k;intro K hK)|(refine aw_run hc (by first|exact aw_nod|(intro _;rw [ordB_w hw];kernel_rfl)|(intro _;rw [ordB_w0 hw0];kernel_rfl)|(intro _;kernel_rfl)) ?_;simp [List.zipIdx,tk,-getM,getM_hit,getM_miss,getM_none];(repeat (simp (disch:=first|omega|assumption|fail) only [if_pos,if_neg,wrap64];try simp [List.zipIdx,tk,-getM,getM_hit,getM_miss,getM_none]));try (repeat' (refine guardQ_split (fun h=>?_) (fun h=>?_)<;>simp at h<;>(simp [List.zipIdx,tk,-getM,getM_hit,getM_miss,getM_none];(repeat (simp (disch:=first|omega|assumption|fail) only [if_pos,if_neg,wrap64];try simp [List.zipIdx,tk,-getM,getM_hit,getM_miss,getM_none]))))))|(refine aw_cond (b:=_) (by exact rfl) (fun h=>?_) (fun h=>?_)<;>(try simp at h))|(refine aw_block ?_)|(refine aw_skip ?_;simp only [thenQ,blockQ,if_true])|(refine aw_exit ?_;simp [thenQ,blockQ])|(refine aw_ret ?_;simp only [thenQ,blockQ])|(refine aw_round ?_)|(refine hK _ ?_;clear hK)|(clear hK;refine hK _ ?_;clear hK)|(clear hK;clear hK;refine hK _ ?_;clear hK)|(clear hK;clear hK;clear hK;refine hK _ ?_;clear hK))
  refine ⟨by simp,?_⟩
  simp [leaves_iff,Tryz.f59,tk]
  try (first|omega|(refine decide_eq_decide.2 ?_;omega)|(refine decide_eq_false ?_;omega)|(refine decide_eq_true ?_;omega))
theorem gi_set {l:List Int} {i j:Nat} {v:Int} (hi:i<l.length):gi (l.set i v) j=if i=j then v else gi l j:=by
 unfold gi
 rw [List.getD_eq_getElem?_getD,List.getD_eq_getElem?_getD,List.getElem?_set]
 by_cases h:i=j
 ·subst h;simp [hi]
 ·simp [h]
theorem gi_ext {a b:List Int} (hl:a.length=b.length) (h:∀ j,j<a.length→gi a j=gi b j):a=b:=by
 refine List.ext_getElem hl fun j h1 h2=>?_
 have:=h j h1
 rwa [gi_eq h1,gi_eq h2] at this
theorem gi_rev {l:List Int} {j:Nat} (h:j<l.length):gi l.reverse j=gi l (l.length - 1 - j):=by
 rw [gi_eq (by simpa using h),gi_eq (by omega),List.getElem_reverse]
def rvI (l:List Int) (i:Nat) (L:List Int):Prop:=2*i≤l.length∧L.length=l.length∧∀ j,j<l.length→gi L j=if j<i∨l.length - i≤j then gi l (l.length - 1 - j) else gi l j
theorem rvI_end {l L:List Int} {i:Nat} (h:rvI l i L) (he:l.length≤2*i+1):L=l.reverse:=by
 obtain ⟨h1,h2,h3⟩:=h
 refine gi_ext (by rw [h2,List.length_reverse]) fun j hj=>?_
 rw [h2] at hj
 rw [h3 j hj,gi_rev hj]
 by_cases hc:j<i∨l.length - i≤j
 ·rw [if_pos hc]
 ·rw [if_neg hc]
  congr 1
  omega
theorem rvI_step {l L:List Int} {i:Nat} (h:rvI l i L) (he:2*i+1<l.length):rvI l (i+1) ((L.set i (gi L (l.length - 1 - i))).set (l.length - 1 - i) (gi L i)):=by
 obtain ⟨h1,h2,h3⟩:=h
 refine ⟨by omega,by simp [h2],fun j hj=>?_⟩
 rw [gi_set (by simp;omega),gi_set (by omega)]
 by_cases e1:l.length - 1 - i=j
 ·rw [if_pos e1,if_pos (by omega),h3 i (by omega),if_neg (by omega)]
  congr 1;omega
 ·rw [if_neg e1]
  by_cases e2:i=j
  ·rw [if_pos e2,if_pos (by omega),h3 _ (by omega),if_neg (by omega)]
   congr 1;omega
  ·rw [if_neg e2,h3 j hj]
   by_cases hc:j<i∨l.length - i≤j
   ·rw [if_pos hc,if_pos (by omega)]
   ·rw [if_neg hc,if_neg (by omega)]
theorem irows_set {l:List Int} {n:Nat} {x:Int}:(irows l).set n [I x]=irows (l.set n x):=by simp [irows,List.map_set]
noncomputable def RvF:AV→List AV→Option (AV×AV):=specM (ι:={x:List Int // x.length≤1000000}) (fun x=>.ow 1 (irows x.1)) (fun _=>[]) (fun _=>retOf []) fun x=>.ow 1 (irows x.1.reverse)
theorem RvF_at (l:List Int) (h:l.length≤1000000):RvF (.ow 1 (irows l)) []=some (.tup [],.ow 1 (irows l.reverse)) :=
 specM_eq (A0:=fun x:{x:List Int // x.length≤1000000}=>AV.ow 1 (irows x.1)) (A:=fun _=>[]) (R:=fun _=>retOf []) (O:=fun x=>.ow 1 (irows x.1.reverse)) ⟨l,h⟩ (by
  rintro ⟨l',h1⟩ e1 e2
  simp only [AV.ow.injEq,irows_inj,true_and] at e1
  subst e1
  exact ⟨rfl,rfl⟩)
theorem RvF_flat:∀ a0 avs r s ys,RvF a0 avs=some (r,.ow s ys)→∀ e∈ys,∀ a∈e,a.plain:=by
 intro a0 avs r s ys h
 obtain ⟨i,_,_,h3,h4⟩:=specM_some h
 simp only [AV.ow.injEq] at h4
 obtain ⟨_,rfl⟩:=h4
 intro e he a ha
 obtain ⟨x,_,rfl⟩:=List.mem_map.1 he
 simp at ha
 rcases ha with rfl
 trivial
theorem s60 (X:AX) (hX:XOK Tryz.prog X) (hw:X.W wT):MSound Tryz.prog 60 RvF:=by
 refine msound_spec Tryz.func60 rfl X fun ⟨l,hl⟩ w0 bl E=>⟨by show 1≤28;decide,rfl,?_⟩
 show AW ⟨Tryz.prog,X,28,w0,⟨bl,E,1⟩⟩ _ _ _
 have hc:Cx.OK ⟨Tryz.prog,X,28,w0,⟨bl,E,1⟩⟩:=⟨hX,mixed⟩
 repeat' (first|(apply aw_seq_k;intro K hK)|(refine aw_run hc (by first|exact aw_nod|(intro _;rw [ordB_w hw];kernel_rfl)|(intro _;rw [ordB_w0 hw0];kernel_rfl)|(intro _;kernel_rfl)) ?_;simp [List.zipIdx,-getM,getM_hit,getM_miss,getM_none];(repeat (simp (disch:=first|omega|assumption|fail) only [if_pos,if_neg,wrap64];try simp [List.zipIdx,-getM,getM_hit,getM_miss,getM_none]));try (repeat' (refine guardQ_split (fun h=>?_) (fun h=>?_)<;>simp at h<;>(simp [List.zipIdx,-getM,getM_hit,getM_miss,getM_none];(repeat (simp (disch:=first|omega|assumption|fail) only [if_pos,if_neg,wrap64];try simp [List.zipIdx,-getM,getM_hit,getM_miss,getM_none]))))))|(refine aw_cond (b:=_) (by exact rfl) (fun h=>?_) (fun h=>?_)<;>(try simp at h))|(refine aw_block ?_)|(refine aw_skip ?_;simp only [thenQ,blockQ,if_true])|(refine aw_exit ?_;simp [thenQ,blockQ])|(refine aw_ret ?_;simp only [thenQ,blockQ])|(refine aw_round ?_)|(refine hK _ ?_;clear hK)|(clear hK;refine hK _ ?_;clear hK)|(clear hK;clear hK;refine hK _ ?_;clear hK)|(clear hK;clear hK;clear hK;refine hK _ ?_;clear hK))
 refine aw_loopK (s0:=?lps1) (m0:=?lpm1) (ι:={x:Nat×List Int // rvI l x.1 x.2}) [0] (fun x=>[(2,I x.1.1),(3,I ((l.length:Int) - 1 - x.1.1))]) (fun x=>[(0,.vec 1 1 false (irows x.1.2))]) (fun x=>l.length - x.1.1) ⟨(0,l),by omega,rfl,fun j hj=>by rw [if_neg (by simp only;omega)]⟩ ?lhs1 ?lhm1 ?_ ?_
 case lhs1=>first|(simp [keepS];done)|(simp [keepS];rfl)
 case lhm1=>first|rfl|(simp;done)|(simp;rfl)
 ·exact le_of2 (by simp) (by simp [AVle,AV.under,AV.underL]<;>omega) (by simp [AOle,AO.under,AV.underL,AV.under]<;>omega)
 ·rintro ⟨⟨i,L⟩,hI⟩
  simp only at hI ⊢
  have hLl:=hI.2.1
  have hi2:=hI.1
  rcases Decidable.em (2*i+1<l.length) with hil|hil
  ·have hilI:(i:Int)<(l.length:Int) - 1 - i:=by omega
   have hn:=rvI_step hI hil
   obtain ⟨j,hj⟩:∃ j,j=l.length - 1 - i:=⟨_,rfl⟩
   have hjI:(l.length:Int) - 1 - i=(j:Int):=by omega
   rw [← hj] at hn
   rw [hjI] at hilI ⊢
   have hij:i<j:=by omega
   have hjl:j<l.length:=by omega
   have hg1:=irows_gi (l:=L) (n:=i) (by omega)
   have hgE1:=irows_gE (l:=L) (n:=i) (by omega)
   have hg2:=irows_gi (l:=L) (n:=j) (by omega)
   have hgE2:=irows_gE (l:=L) (n:=j) (by omega)
   obtain ⟨x,hm⟩:∃ m,m=gi L i:=⟨_,rfl⟩
   obtain ⟨u,hm2⟩:∃ m,m=gi L j:=⟨_,rfl⟩
   rw [← hm] at hg1 hgE1 hn
   rw [← hm2] at hg2 hgE2 hn
   have hgE3:=irows_gE (l:=L.set i u) (n:=j) (by simp;omega)
   rw [gi_set (by omega),if_neg (by omega),← hm2] at hgE3
   repeat' (first|(apply aw_seq_k;intro K hK)|(refine aw_run hc (by first|exact aw_nod|(intro _;rw [ordB_w hw];kernel_rfl)|(intro _;rw [ordB_w0 hw0];kernel_rfl)|(intro _;kernel_rfl)) ?_;simp [List.zipIdx,hilI,hij,hjl,hLl,hg1,hgE1,hg2,hgE2,hgE3,irows_set,-getM,getM_hit,getM_miss,getM_none];(repeat (simp (disch:=first|omega|assumption|fail) only [if_pos,if_neg,wrap64];try simp [List.zipIdx,hilI,hij,hjl,hLl,hg1,hgE1,hg2,hgE2,hgE3,irows_set,-getM,getM_hit,getM_miss,getM_none]));try (repeat' (refine guardQ_split (fun h=>?_) (fun h=>?_)<;>simp at h<;>(simp [List.zipIdx,hilI,hij,hjl,hLl,hg1,hgE1,hg2,hgE2,hgE3,irows_set,-getM,getM_hit,getM_miss,getM_none];(repeat (simp (disch:=first|omega|assumption|fail) only [if_pos,if_neg,wrap64];try simp [List.zipIdx,hilI,hij,hjl,hLl,hg1,hgE1,hg2,hgE2,hgE3,irows_set,-getM,getM_hit,getM_miss,getM_none]))))))|(refine aw_cond (b:=_) (by exact rfl) (fun h=>?_) (fun h=>?_)<;>(try simp at h))|(refine aw_block ?_)|(refine aw_skip ?_;simp only [thenQ,blockQ,if_true])|(refine aw_exit ?_;simp [thenQ,blockQ])|(refine aw_ret ?_;simp only [thenQ,blockQ])|(refine aw_round ?_)|(refine hK _ ?_;clear hK)|(clear hK;refine hK _ ?_;clear hK)|(clear hK;clear hK;refine hK _ ?_;clear hK)|(clear hK;clear hK;clear hK;refine hK _ ?_;clear hK))
   refine ⟨i+1,_,?_,hn,by omega⟩
   refine le_turn (s1:=?tus2) (m1:=?tum2) [] [0,2,3] [0] ?tua2 ?tub2 ?tuc2 ?tud2 ?tue2 ?tuf2 ?tug2
   case tua2=>first|(simp [keepS];done)|(simp [keepS];rfl)
   case tub2=>first|(simp;done)|(simp;rfl)
   case tuc2=>simp
   case tud2=>simp
   case tue2=>simp
   case tuf2=>simp
   case tug2 =>
    simp [swp,vr]
    exact le_of2 (by simp) (by simp [AVle,AV.under,AV.underL]<;>omega) (by simp [AOle,AO.under,AV.underL,AV.under]<;>omega)
  ·have hilI:¬ (i:Int)<(l.length:Int) - 1 - i:=by omega
   have he:=rvI_end hI (by omega)
   subst he
   repeat' (first|(apply aw_seq_k;intro K hK)|(refine aw_run hc (by first|exact aw_nod|(intro _;rw [ordB_w hw];kernel_rfl)|(intro _;rw [ordB_w0 hw0];kernel_rfl)|(intro _;kernel_rfl)) ?_;simp [List.zipIdx,hilI,-getM,getM_hit,getM_miss,getM_none];(repeat (simp (disch:=first|omega|assumption|fail) only [if_pos,if_neg,wrap64];try simp [List.zipIdx,hilI,-getM,getM_hit,getM_miss,getM_none]));try (repeat' (refine guardQ_split (fun h=>?_) (fun h=>?_)<;>simp at h<;>(simp [List.zipIdx,hilI,-getM,getM_hit,getM_miss,getM_none];(repeat (simp (disch:=first|omega|assumption|fail) only [if_pos,if_neg,wrap64];try simp [List.zipIdx,hilI,-getM,getM_hit,getM_miss,getM_none]))))))|(refine aw_cond (b:=_) (by exact rfl) (fun h=>?_) (fun h=>?_)<;>(try simp at h))|(refine aw_block ?_)|(refine aw_skip ?_;simp only [thenQ,blockQ,if_true])|(refine aw_exit ?_;simp [thenQ,blockQ])|(refine aw_ret ?_;simp only [thenQ,blockQ])|(refine aw_round ?_)|(refine hK _ ?_;clear hK)|(clear hK;refine hK _ ?_;clear hK)|(clear hK;clear hK;refine hK _ ?_;clear hK)|(clear hK;clear hK;clear hK;refine hK _ ?_;clear hK))
   refine leavesM_out ?_
   simp [leaves_iff]
   exact (List.take_of_length_le (by simp)).symm
def fullB (r:Int) (ns:NdL):Bool:=ns.all fun n=>decide (n.1=r)||!decide (n.2=zs8)
theorem fullB_iff {r:Int} {ns:NdL}:fullB r ns=true↔∀ n∈ns,n.1=r∨n.2≠zs8:=by
 unfold fullB
 simp [List.all_eq_true]
theorem full_no {r:Int} {ns:NdL} {i:Nat} (hi:i<ns.length) (h1:(gn ns i).1≠r) (h2:(gn ns i).2=zs8):fullB r ns=false:=by
 cases h:fullB r ns with
 | false=>rfl
 | true =>
  rcases fullB_iff.1 h _ (gn_mem hi) with k|k
  ·exact absurd k h1
  ·exact absurd h2 k
theorem full_ok {r:Int} {ns:NdL} (h:∀ j,j<ns.length→(gn ns j).1=r∨(gn ns j).2≠zs8):fullB r ns=true:=by
 refine fullB_iff.2 fun n hn=>?_
 obtain ⟨i,hi,rfl⟩:=List.getElem_of_mem hn
 have:=h i hi
 rwa [gn_eq hi] at this
theorem s58 (X:AX) (hX:XOK Tryz.prog X) (hw:X.W wT) (he:X.eqs 148=true):PSound Tryz.prog 58 (specF (ι:={x:Tb // tbOK x}) (fun x=>[TbV x.1]) fun x=>retOf [B (fullB x.1.1 x.1.2.1)]):=by
 refine psound_spec hX mixed Tryz.func58 rfl fun ⟨⟨r,ns,ds⟩,ht⟩ w0 G=>⟨by show 1≤24;decide,rfl,?_⟩
 show AW ⟨Tryz.prog,X,24,w0,.pure G⟩ _ _ _
 have hc:Cx.OK ⟨Tryz.prog,X,24,w0,.pure G⟩:=⟨hX,mixed⟩
 simp only at ht ⊢
 have hl1:ns.length≤1000000:=ht.2.1
 simp only [TbV]
 repeat' (first|(apply aw_seq_k;intro K hK)|(refine aw_run hc (by first|exact aw_nod|(intro _;rw [ordB_w hw];kernel_rfl)|(intro _;rw [ordB_w0 hw0];kernel_rfl)|(intro _;kernel_rfl)) ?_;simp [List.zipIdx,-getM,getM_hit,getM_miss,getM_none];(repeat (simp (disch:=first|omega|assumption|fail) only [if_pos,if_neg,wrap64];try simp [List.zipIdx,-getM,getM_hit,getM_miss,getM_none]));try (repeat' (refine guardQ_split (fun h=>?_) (fun h=>?_)<;>simp at h<;>(simp [List.zipIdx,-getM,getM_hit,getM_miss,getM_none];(repeat (simp (disch:=first|omega|assumption|fail) only [if_pos,if_neg,wrap64];try simp [List.zipIdx,-getM,getM_hit,getM_miss,getM_none]))))))|(refine aw_cond (b:=_) (by exact rfl) (fun h=>?_) (fun h=>?_)<;>(try simp at h))|(refine aw_block ?_)|(refine aw_skip ?_;simp only [thenQ,blockQ,if_true])|(refine aw_exit ?_;simp [thenQ,blockQ])|(refine aw_ret ?_;simp only [thenQ,blockQ])|(refine aw_round ?_)|(refine hK _ ?_;clear hK)|(clear hK;refine hK _ ?_;clear hK)|(clear hK;clear hK;refine hK _ ?_;clear hK)|(clear hK;clear hK;clear hK;refine hK _ ?_;clear hK))
 refine aw_loopK (s0:=?lps3) (m0:=?lpm3) (ι:={i:Nat // i≤ns.length∧∀ j,j<i→(gn ns j).1=r∨(gn ns j).2≠zs8}) [1,6,7] (fun s=>[(8,I s.1)]) (fun _=>[]) (fun s=>ns.length - s.1) ⟨0,by omega,by omega⟩ ?lhs3 ?lhm3 ?_ ?_
 case lhs3=>first|(simp [keepS];done)|(simp [keepS];rfl)
 case lhm3=>first|rfl|(simp;done)|(simp;rfl)
 ·exact le_of2 (by simp) (by simp [AVle,AV.under,AV.underL]<;>omega) (by simp [AOle,AO.under,AV.underL,AV.under]<;>omega)
 ·rintro ⟨i,hi,hinv⟩
  simp only
  rcases Decidable.em (i<ns.length) with hil|hil
  ·have hilI:(i:Int)<(ns.length:Int):=by omega
   have hg:=nrows_gi hil
   have hgE:=nrows_gE hil
   have hlen:=(ht.1 _ (gn_mem hil)).1
   have hno:=full_no (r:=r) hil
   have hinv2:(gn ns i).1=r∨(gn ns i).2≠zs8→∀ j,j<i+1→(gn ns j).1=r∨(gn ns j).2≠zs8:=fun h j hj=>by
    rcases Nat.lt_succ_iff_lt_or_eq.1 hj with h5|rfl
    ·exact hinv j h5
    ·exact h
   obtain ⟨⟨a,ws⟩,hm⟩:∃ m,m=gn ns i:=⟨_,rfl⟩
   rw [← hm] at hg hgE hlen hno hinv2
   simp only [nrow] at hg hgE hlen hno hinv2
   have heq:eqL (wcs ws) z8A=some (decide (ws=zs8)):=eqL_wcs (a:=ws) (b:=zs8) (by simp [hlen,zs8])
   have hsk:sameK z8 (wcs ws)=true:=sameK_wcs (n:=8) hlen
   have hwl:(wcs ws).length=8:=by simp [hlen]
   obtain ⟨cs,hcs⟩:∃ cs,cs=wcs ws:=⟨_,rfl⟩
   rw [← hcs] at hg hgE heq hsk hwl
   have htk:List.take 8 cs=cs:=List.take_of_length_le (by omega)
   simp only [z8,z8A] at heq hsk
   clear hcs hm
   rcases Decidable.em (a=r) with har|har
   ·have hnx:=hinv2 (.inl har)
    repeat' (first|(apply aw_seq_k;intro K hK)|(refine aw_run hc (by first|exact aw_nod|(intro _;rw [ordB_w hw];kernel_rfl)|(intro _;rw [ordB_w0 hw0];kernel_rfl)|(intro _;kernel_rfl)) ?_;simp [List.zipIdx,hilI,hil,hg,hgE,hwl,htk,har,-getM,getM_hit,getM_miss,getM_none];(repeat (simp (disch:=first|omega|assumption|fail) only [if_pos,if_neg,wrap64];try simp [List.zipIdx,hilI,hil,hg,hgE,hwl,htk,har,-getM,getM_hit,getM_miss,getM_none]));try (repeat' (refine guardQ_split (fun h=>?_) (fun h=>?_)<;>simp at h<;>(simp [List.zipIdx,hilI,hil,hg,hgE,hwl,htk,har,-getM,getM_hit,getM_miss,getM_none];(repeat (simp (disch:=first|omega|assumption|fail) only [if_pos,if_neg,wrap64];try simp [List.zipIdx,hilI,hil,hg,hgE,hwl,htk,har,-getM,getM_hit,getM_miss,getM_none]))))))|(refine aw_cond (b:=_) (by exact rfl) (fun h=>?_) (fun h=>?_)<;>(try simp at h))|(refine aw_block ?_)|(refine aw_skip ?_;simp only [thenQ,blockQ,if_true])|(refine aw_exit ?_;simp [thenQ,blockQ])|(refine aw_ret ?_;simp only [thenQ,blockQ])|(refine aw_round ?_)|(refine hK _ ?_;clear hK)|(clear hK;refine hK _ ?_;clear hK)|(clear hK;clear hK;refine hK _ ?_;clear hK)|(clear hK;clear hK;clear hK;refine hK _ ?_;clear hK))
    refine ⟨i+1,?_,⟨by omega,hnx⟩,by omega⟩
    exact le_of2 (by simp) (by simp [AVle,AV.under,AV.underL]<;>omega) (by simp [AOle,AO.under,AV.underL,AV.under]<;>omega)
   ·rcases Decidable.em (ws=zs8) with hz|hz
    ·rw [decide_eq_true hz] at heq
     have hF:=hno har hz
     rw [hF]
     repeat' (first|(apply aw_seq_k;intro K hK)|(refine aw_run hc (by first|exact aw_nod|(intro _;rw [ordB_w hw];kernel_rfl)|(intro _;rw [ordB_w0 hw0];kernel_rfl)|(intro _;kernel_rfl)) ?_;simp [List.zipIdx,hilI,hil,hg,hgE,hwl,htk,har,he,heq,hsk,-getM,getM_hit,getM_miss,getM_none];(repeat (simp (disch:=first|omega|assumption|fail) only [if_pos,if_neg,wrap64];try simp [List.zipIdx,hilI,hil,hg,hgE,hwl,htk,har,he,heq,hsk,-getM,getM_hit,getM_miss,getM_none]));try (repeat' (refine guardQ_split (fun h=>?_) (fun h=>?_)<;>simp at h<;>(simp [List.zipIdx,hilI,hil,hg,hgE,hwl,htk,har,he,heq,hsk,-getM,getM_hit,getM_miss,getM_none];(repeat (simp (disch:=first|omega|assumption|fail) only [if_pos,if_neg,wrap64];try simp [List.zipIdx,hilI,hil,hg,hgE,hwl,htk,har,he,heq,hsk,-getM,getM_hit,getM_miss,getM_none]))))))|(refine aw_cond (b:=_) (by exact rfl) (fun h=>?_) (fun h=>?_)<;>(try simp at h))|(refine aw_block ?_)|(refine aw_skip ?_;simp only [thenQ,blockQ,if_true])|(refine aw_exit ?_;simp [thenQ,blockQ])|(refine aw_ret ?_;simp only [thenQ,blockQ])|(refine aw_round ?_)|(refine hK _ ?_;clear hK)|(clear hK;refine hK _ ?_;clear hK)|(clear hK;clear hK;refine hK _ ?_;clear hK)|(clear hK;clear hK;clear hK;refine hK _ ?_;clear hK))
     refine ⟨by simp,?_⟩
     simp [leaves_iff,Tryz.f58]
     try (first|omega|(refine decide_eq_decide.2 ?_;omega)|(refine decide_eq_false ?_;omega)|(refine decide_eq_true ?_;omega))
    ·rw [decide_eq_false hz] at heq
     have hnx:=hinv2 (.inr hz)
     repeat' (first|(apply aw_seq_k;intro K hK)|(refine aw_run hc (by first|exact aw_nod|(intro _;rw [ordB_w hw];kernel_rfl)|(intro _;rw [ordB_w0 hw0];kernel_rfl)|(intro _;kernel_rfl)) ?_;simp [List.zipIdx,hilI,hil,hg,hgE,hwl,htk,har,he,heq,hsk,-getM,getM_hit,getM_miss,getM_none];(repeat (simp (disch:=first|omega|assumption|fail) only [if_pos,if_neg,wrap64];try simp [List.zipIdx,hilI,hil,hg,hgE,hwl,htk,har,he,heq,hsk,-getM,getM_hit,getM_miss,getM_none]));try (repeat' (refine guardQ_split (fun h=>?_) (fun h=>?_)<;>simp at h<;>(simp [List.zipIdx,hilI,hil,hg,hgE,hwl,htk,har,he,heq,hsk,-getM,getM_hit,getM_miss,getM_none];(repeat (simp (disch:=first|omega|assumption|fail) only [if_pos,if_neg,wrap64];try simp [List.zipIdx,hilI,hil,hg,hgE,hwl,htk,har,he,heq,hsk,-getM,getM_hit,getM_miss,getM_none]))))))|(refine aw_cond (b:=_) (by exact rfl) (fun h=>?_) (fun h=>?_)<;>(try simp at h))|(refine aw_block ?_)|(refine aw_skip ?_;simp only [thenQ,blockQ,if_true])|(refine aw_exit ?_;simp [thenQ,blockQ])|(refine aw_ret ?_;simp only [thenQ,blockQ])|(refine aw_round ?_)|(refine hK _ ?_;clear hK)|(clear hK;refine hK _ ?_;clear hK)|(clear hK;clear hK;refine hK _ ?_;clear hK)|(clear hK;clear hK;clear hK;refine hK _ ?_;clear hK))
     refine ⟨i+1,?_,⟨by omega,hnx⟩,by omega⟩
     exact le_of2 (by simp) (by simp [AVle,AV.under,AV.underL]<;>omega) (by simp [AOle,AO.under,AV.underL,AV.under]<;>omega)
  ·obtain rfl:i=ns.length:=by omega
   have hfu:=full_ok hinv
   repeat' (first|(apply aw_seq_k;intro K hK)|(refine aw_run hc (by first|exact aw_nod|(intro _;rw [ordB_w hw];kernel_rfl)|(intro _;rw [ordB_w0 hw0];kernel_rfl)|(intro _;kernel_rfl)) ?_;simp [List.zipIdx,-getM,getM_hit,getM_miss,getM_none];(repeat (simp (disch:=first|omega|assumption|fail) only [if_pos,if_neg,wrap64];try simp [List.zipIdx,-getM,getM_hit,getM_miss,getM_none]));try (repeat' (refine guardQ_split (fun h=>?_) (fun h=>?_)<;>simp at h<;>(simp [List.zipIdx,-getM,getM_hit,getM_miss,getM_none];(repeat (simp (disch:=first|omega|assumption|fail) only [if_pos,if_neg,wrap64];try simp [List.zipIdx,-getM,getM_hit,getM_miss,getM_none]))))))|(refine aw_cond (b:=_) (by exact rfl) (fun h=>?_) (fun h=>?_)<;>(try simp at h))|(refine aw_block ?_)|(refine aw_skip ?_;simp only [thenQ,blockQ,if_true])|(refine aw_exit ?_;simp [thenQ,blockQ])|(refine aw_ret ?_;simp only [thenQ,blockQ])|(refine aw_round ?_)|(refine hK _ ?_;clear hK)|(clear hK;refine hK _ ?_;clear hK)|(clear hK;clear hK;refine hK _ ?_;clear hK)|(clear hK;clear hK;clear hK;refine hK _ ?_;clear hK))
   refine ⟨by simp,?_⟩
   simp [leaves_iff,Tryz.f58]
   try (first|omega|(refine decide_eq_decide.2 ?_;omega)|(refine decide_eq_false ?_;omega)|(refine decide_eq_true ?_;omega))
end Go.AM
namespace Go.AM
open Go Go.Proofs
set_option maxRecDepth 4000
@[simp] theorem tySa:Types Tryz.prog 95=some ⟨.struct [(0,3,1),(1,76,1),(2,89,1)],3,40,[.int .i64 0,.int .u64 0,.slice none 0 0]⟩:=by kernel_rfl
noncomputable def FuF:List AV→Option AV:=specF (ι:={x:Tb // tbOK x}) (fun x=>[TbV x.1]) fun x=>retOf [B (fullB x.1.1 x.1.2.1)]
noncomputable def Tu1:AX:=TeB.add 59 (callP CiF)
theorem tu1:XOK Tryz.prog Tu1:=xok_spec teB (s59 TeB teB w0T) (fun x=>irow_pl) Tryz.func59 (by kernel_rfl)
noncomputable def Tu2:AX:=Tu1.add 60 (callK RvF)
theorem tu2:XOK Tryz.prog Tu2:=xok_putM tu1 (by kernel_rfl) (.inl ⟨(s60 Tu1 tu1 w0T).callK RvF_flat,body_ok _ Tryz.func60 (by kernel_rfl)⟩) fun _ _ _ _ h=>callK_keys h
noncomputable def Tu3:AX:=Tu2.add 58 (callP FuF)
theorem tu3:XOK Tryz.prog Tu3:=xok_spec tu2 (s58 Tu2 tu2 w0T rfl) (fun x=>trivial) Tryz.func58 (by kernel_rfl)
theorem cStu {x:StD} (h:stOK x) (M:Nat→AO) (n:Nat):callP SeF [TbV x.1,I x.2.1,U x.2.2.1,.rd 1 (irows x.2.2.2)] M n=some (.tup [TbC (setP x.1 x.2.1 x.2.2.1 x.2.2.2).1 n,I (setP x.1 x.2.1 x.2.2.1 x.2.2.2).2],outT (setP x.1 x.2.1 x.2.2.1 x.2.2.2).1 n):=by
 unfold SeF
 rw [callP_spec (ι:={x:StD // stOK x}) (A:=fun x=>[TbV x.1.1,I x.1.2.1,U x.1.2.2.1,.rd 1 (irows x.1.2.2.2)]) (R:=fun x=>retOf [TbO (setP x.1.1 x.1.2.1 x.1.2.2.1 x.1.2.2.2).1,I (setP x.1.1 x.1.2.1 x.1.2.2.1 x.1.2.2.2).2]) ⟨x,h⟩ (by simp [TbV,U]) ?_ (by rw [open_tab];simp only;omega),open_tab]
 rintro ⟨⟨t',p',w',fs'⟩,h'⟩ e
 obtain ⟨t,p,w,fs⟩:=x
 simp only [List.cons.injEq,TbV_inj,U,I,AV.v.injEq,Value.int.injEq,true_and,and_true,AV.rd.injEq,irows_inj,Int.ofNat_inj] at e
 obtain ⟨rfl,rfl,rfl,rfl⟩:=e;rfl
theorem tabMu {a b:Tb} {M:Nat→AO} {p vp q vq:Nat} (h:OwT M a p vp q vq):(peekVals M [TbS a p vp q vq,TbV b]).map (List.map (nilV 2))=some [TbV a,TbV b]:=by
 rw [peek_tab h (rs:=[TbV b]) (by simp [TbV])]
 simp [TbV,nilV,nilA]
structure LawU (X:AX):Prop extends LawP X where
 fu:∀ t:Tb,tbOK t→∀ M n,X.call 58 [TbV t] M n=some (B (fullB t.1 t.2.1),[])
 se:∀ x:StD,stOK x→∀ M n,X.call 51 [TbV x.1,I x.2.1,U x.2.2.1,.rd 1 (irows x.2.2.2)] M n=some (.tup [TbC (setP x.1 x.2.1 x.2.2.1 x.2.2.2).1 n,I (setP x.1 x.2.1 x.2.2.1 x.2.2.2).2],outT (setP x.1 x.2.1 x.2.2.1 x.2.2.2).1 n)
 clO:∀ (t:Tb) (p:Int),tbOK t→t.2.1.length≤999000→∀ (a va b vb:Nat) (fa fb:Bool) M n,M a=.vec va 9 fa (nrows t.2.1)→M b=.vec vb 2 fb (prows t.2.2)→X.call 55 [TbS t a va b vb,I p] M n=some (.tup [TbC (clrP t p).1 n,U (clrP t p).2.1,.sl (n+2) 1 1 0 (clrP t p).2.2.1.length,I (clrP t p).2.2.2],outT (clrP t p).1 n++[(n+2,.vec 1 1 false (irows (clrP t p).2.2.1))])
 cl:∀ l:List Int,l.length≤1000000→∀ M n,X.call 59 [.rd 1 (irows l)] M n=some (.sl n 1 1 0 l.length,[(n,.vec 1 1 false (irows l))])
 rv:X.call 60=callK RvF
 saM:∀ t:Tb,tbOK t→∀ (a va b vb:Nat) (fa fb:Bool) M n,M a=.vec va 9 fa (nrows t.2.1)→M b=.vec vb 2 fb (prows t.2.2)→X.call 31 [TbS t a va b vb,TbV t] M n=some (B true,[])
theorem lawPu:LawP Tu3:=⟨tu3,w0T,fun t M n=>cFew t M n,fun M n=>cAw M n,fun t h=>samO rfl h,fun l h=>eqiO rfl h,fun l h=>eqpO rfl h⟩
theorem lawU:LawU Tu3:=⟨lawPu,fun t h M n=>cT1 (D:=tbOK) (R:=fun t=>retOf [B (fullB t.1 t.2.1)]) h M n rfl (by simp [retOf,openRet,openVals,openVal,openLeaves,openLeaf]),
 fun x h M n=>cStu h M n,
 fun t x h hl a va b vb fa fb M n h1 h2=>oT2 (D:=fun t _=>tbOK t∧t.2.1.length≤999000) (R:=fun t x=>retOf [TbO (clrP t x).1,U (clrP t x).2.1,.ow 1 (irows (clrP t x).2.2.1),I (clrP t x).2.2.2]) ⟨h,hl⟩ ⟨⟨fa,h1⟩,fb,h2⟩ n open_clr (by omega),
 fun l h M n=>by
  have k:=callP_spec (ι:={l:List Int // l.length≤1000000}) (A:=fun x=>[.rd 1 (irows x.1)]) (R:=fun x=>retOf [.ow 1 (irows x.1)]) (avs:=[.rd 1 (irows l)]) (M:=M) (n:=n) ⟨l,h⟩ (by simp) (by
   rintro ⟨l',h'⟩ e
   simp only [List.cons.injEq,AV.rd.injEq,irows_inj,true_and,and_true] at e
   subst e;rfl) (by rw [open_irow];simp only;omega)
  rw [open_irow] at k
  exact k,
 rfl,
 fun t h a va b vb fa fb M n h1 h2=>by
  have k:=oSa h h (M:=M) (tabMu ⟨⟨fa,h1⟩,fb,h2⟩) n
  rw [decide_eq_true rfl] at k
  exact k⟩
set_option maxHeartbeats 16000000 in
theorem s10 (X:AX) (L:LawU X):PSound Tryz.prog 10 (specF (ι:={x:Tb×Opp // tbF x.1∧x.2.2.1<2^64}) (fun x=>[TbV x.1.1,OpV x.1.2]) fun _=>retOf [B true]):=by
 have hX:=L.ok
 have hw:=L.w
 refine psound_spec hX mixed Tryz.func10 rfl fun ⟨⟨⟨r,ns,ds⟩,p,w,fs⟩,htf,hw64⟩ w0 G=>⟨by show 2≤75;decide,rfl,?_⟩
 show AW ⟨Tryz.prog,X,75,w0,.pure G⟩ _ _ _
 have hc:Cx.OK ⟨Tryz.prog,X,75,w0,.pure G⟩:=⟨hX,mixed⟩
 have few:=L.few (r,ns,ds)
 have aw:=L.aw
 simp only at few htf hw64 ⊢
 rcases Decidable.em (ns.length≤80∧ds.length≤70) with hf|hf
 ·rw [decide_eq_true hf] at few
  rcases Decidable.em (8<fs.length) with h8|h8
  ·have h8I:(8:Int)<(fs.length:Int):=by omega
   simp only [TbV,OpV,U] at few ⊢
   repeat' (first|(apply aw_seq_k;intro K hK)|(refine aw_run hc (by exact aw_nod) ?_;simp [List.zipIdx,few,aw,h8,h8I,-getM,getM_hit,getM_miss,getM_none];(repeat (simp (disch:=first|omega|assumption|fail) only [if_pos,if_neg,wrap64];try simp [List.zipIdx,few,aw,h8,h8I,-getM,getM_hit,getM_miss,getM_none]));try (repeat' (refine guardQ_split (fun h=>?_) (fun h=>?_)<;>simp at h<;>(simp [List.zipIdx,few,aw,h8,h8I,-getM,getM_hit,getM_miss,getM_none];(repeat (simp (disch:=first|omega|assumption|fail) only [if_pos,if_neg,wrap64];try simp [List.zipIdx,few,aw,h8,h8I,-getM,getM_hit,getM_miss,getM_none]))))))|(refine aw_runFt hc ?_;simp [List.zipIdx,few,aw,h8,h8I,-getM,getM_hit,getM_miss,getM_none];(repeat (simp (disch:=first|omega|assumption|fail) only [if_pos,if_neg,wrap64];try simp [List.zipIdx,few,aw,h8,h8I,-getM,getM_hit,getM_miss,getM_none]));refine ⟨by kernel_rfl,?_⟩)|(refine aw_run hc (by first|(intro _;rw [ordB_w hw];kernel_rfl)|(intro _;rw [ordB_w0 hw0];kernel_rfl)|(intro _;kernel_rfl)) ?_;simp [List.zipIdx,few,aw,h8,h8I,-getM,getM_hit,getM_miss,getM_none];(repeat (simp (disch:=first|omega|assumption|fail) only [if_pos,if_neg,wrap64];try simp [List.zipIdx,few,aw,h8,h8I,-getM,getM_hit,getM_miss,getM_none]));try (repeat' (refine guardQ_split (fun h=>?_) (fun h=>?_)<;>simp at h<;>(simp [List.zipIdx,few,aw,h8,h8I,-getM,getM_hit,getM_miss,getM_none];(repeat (simp (disch:=first|omega|assumption|fail) only [if_pos,if_neg,wrap64];try simp [List.zipIdx,few,aw,h8,h8I,-getM,getM_hit,getM_miss,getM_none]))))))|(refine aw_cond (b:=_) (by exact rfl) (fun h=>?_) (fun h=>?_)<;>(try simp at h))|(refine aw_block ?_)|(refine aw_skip ?_;simp only [thenQ,blockQ,if_true])|(refine aw_exit ?_;simp [thenQ,blockQ])|(refine aw_ret ?_;simp only [thenQ,blockQ])|(refine aw_round ?_)|(refine hK _ ?_;clear hK)|(clear hK;refine hK _ ?_;clear hK)|(clear hK;clear hK;refine hK _ ?_;clear hK)|(clear hK;clear hK;clear hK;refine hK _ ?_;clear hK))
   all_goals refine ⟨by simp,?_⟩
   all_goals simp [leaves_iff,Tryz.f10]
   all_goals try (first|omega|(refine decide_eq_decide.2 ?_;omega)|(refine decide_eq_false ?_;omega)|(refine decide_eq_true ?_;omega))
  ·have h8I:¬ (8:Int)<(fs.length:Int):=by omega
   have hLI:(fs.length:Int)≤8:=by omega
   have ht:=tbF_ok htf hf
   have hs1:stOK ((r,ns,ds),p,w,fs):=⟨ht,by show ns.length≤_;omega,hw64,by show fs.length≤_;omega⟩
   have fu:=L.fu _ ht
   simp only at fu
   cases hfb:fullB r ns with
   | false =>
    rw [hfb] at fu
    simp only [TbV,OpV,U] at few fu ⊢
    repeat' (first|(apply aw_seq_k;intro K hK)|(refine aw_run hc (by exact aw_nod) ?_;simp [List.zipIdx,few,aw,h8,h8I,fu,-getM,getM_hit,getM_miss,getM_none];(repeat (simp (disch:=first|omega|assumption|fail) only [if_pos,if_neg,wrap64];try simp [List.zipIdx,few,aw,h8,h8I,fu,-getM,getM_hit,getM_miss,getM_none]));try (repeat' (refine guardQ_split (fun h=>?_) (fun h=>?_)<;>simp at h<;>(simp [List.zipIdx,few,aw,h8,h8I,fu,-getM,getM_hit,getM_miss,getM_none];(repeat (simp (disch:=first|omega|assumption|fail) only [if_pos,if_neg,wrap64];try simp [List.zipIdx,few,aw,h8,h8I,fu,-getM,getM_hit,getM_miss,getM_none]))))))|(refine aw_runFt hc ?_;simp [List.zipIdx,few,aw,h8,h8I,fu,-getM,getM_hit,getM_miss,getM_none];(repeat (simp (disch:=first|omega|assumption|fail) only [if_pos,if_neg,wrap64];try simp [List.zipIdx,few,aw,h8,h8I,fu,-getM,getM_hit,getM_miss,getM_none]));refine ⟨by kernel_rfl,?_⟩)|(refine aw_run hc (by first|(intro _;rw [ordB_w hw];kernel_rfl)|(intro _;rw [ordB_w0 hw0];kernel_rfl)|(intro _;kernel_rfl)) ?_;simp [List.zipIdx,few,aw,h8,h8I,fu,-getM,getM_hit,getM_miss,getM_none];(repeat (simp (disch:=first|omega|assumption|fail) only [if_pos,if_neg,wrap64];try simp [List.zipIdx,few,aw,h8,h8I,fu,-getM,getM_hit,getM_miss,getM_none]));try (repeat' (refine guardQ_split (fun h=>?_) (fun h=>?_)<;>simp at h<;>(simp [List.zipIdx,few,aw,h8,h8I,fu,-getM,getM_hit,getM_miss,getM_none];(repeat (simp (disch:=first|omega|assumption|fail) only [if_pos,if_neg,wrap64];try simp [List.zipIdx,few,aw,h8,h8I,fu,-getM,getM_hit,getM_miss,getM_none]))))))|(refine aw_cond (b:=_) (by exact rfl) (fun h=>?_) (fun h=>?_)<;>(try simp at h))|(refine aw_block ?_)|(refine aw_skip ?_;simp only [thenQ,blockQ,if_true])|(refine aw_exit ?_;simp [thenQ,blockQ])|(refine aw_ret ?_;simp only [thenQ,blockQ])|(refine aw_round ?_)|(refine hK _ ?_;clear hK)|(clear hK;refine hK _ ?_;clear hK)|(clear hK;clear hK;refine hK _ ?_;clear hK)|(clear hK;clear hK;clear hK;refine hK _ ?_;clear hK))
    all_goals refine ⟨by simp,?_⟩
    all_goals simp [leaves_iff,Tryz.f10]
    all_goals try (first|omega|(refine decide_eq_decide.2 ?_;omega)|(refine decide_eq_false ?_;omega)|(refine decide_eq_true ?_;omega))
   | true =>
    rw [hfb] at fu
    have se:=L.se _ hs1
    simp only at se
    obtain ⟨⟨⟨rU,nU,dU⟩,e⟩,hT⟩:∃ x,x=setP (r,ns,ds) p w fs:=⟨_,rfl⟩
    rw [← hT] at se
    rcases Decidable.em (e=0) with he|he
    ·subst he
     obtain ⟨v1,v2,v3⟩:=undo_plain ht (by omega) hw64 (fullB_iff.1 hfb) hT.symm
     have clO:=L.clO _ p v1 (by rw [v2];omega)
     rw [v3] at clO
     have cl:=L.cl fs (by omega)
     have rv:=L.rv
     have rvA:=RvF_at fs (by omega)
     have sam:=L.saM _ ht
     have eqi:=L.eqi fs.reverse (by simp;omega)
     have hrl:fs.reverse.length=fs.length:=List.length_reverse
     obtain ⟨rs,hrs⟩:∃ x,x=fs.reverse:=⟨_,rfl⟩
     rw [← hrs] at clO rvA eqi hrl
     have hkl:fs.length=rs.length:=hrl.symm
     unfold EqiO at eqi
     rw [hkl] at cl
     simp only [TbV,TbS,TbC,OpV,outT,U,List.cons_append,List.nil_append] at few se clO sam cl eqi ⊢
     try simp only [TbV] at fu
     repeat' (first|(apply aw_seq_k;intro K hK)|(refine aw_run hc (by exact aw_nod) ?_;simp [List.zipIdx,few,aw,h8,h8I,fu,se,clO,cl,rv,rvA,callK,sam,eqi,hkl,-getM,getM_hit,getM_miss,getM_none];(repeat (simp (disch:=first|omega|assumption|fail) only [if_pos,if_neg,wrap64];try simp [List.zipIdx,few,aw,h8,h8I,fu,se,clO,cl,rv,rvA,callK,sam,eqi,hkl,-getM,getM_hit,getM_miss,getM_none]));try (repeat' (refine guardQ_split (fun h=>?_) (fun h=>?_)<;>simp at h<;>(simp [List.zipIdx,few,aw,h8,h8I,fu,se,clO,cl,rv,rvA,callK,sam,eqi,hkl,-getM,getM_hit,getM_miss,getM_none];(repeat (simp (disch:=first|omega|assumption|fail) only [if_pos,if_neg,wrap64];try simp [List.zipIdx,few,aw,h8,h8I,fu,se,clO,cl,rv,rvA,callK,sam,eqi,hkl,-getM,getM_hit,getM_miss,getM_none]))))))|(refine aw_runFt hc ?_;simp [List.zipIdx,few,aw,h8,h8I,fu,se,clO,cl,rv,rvA,callK,sam,eqi,hkl,-getM,getM_hit,getM_miss,getM_none];(repeat (simp (disch:=first|omega|assumption|fail) only [if_pos,if_neg,wrap64];try simp [List.zipIdx,few,aw,h8,h8I,fu,se,clO,cl,rv,rvA,callK,sam,eqi,hkl,-getM,getM_hit,getM_miss,getM_none]));refine ⟨by kernel_rfl,?_⟩)|(refine aw_run hc (by first|(intro _;rw [ordB_w hw];kernel_rfl)|(intro _;rw [ordB_w0 hw0];kernel_rfl)|(intro _;kernel_rfl)) ?_;simp [List.zipIdx,few,aw,h8,h8I,fu,se,clO,cl,rv,rvA,callK,sam,eqi,hkl,-getM,getM_hit,getM_miss,getM_none];(repeat (simp (disch:=first|omega|assumption|fail) only [if_pos,if_neg,wrap64];try simp [List.zipIdx,few,aw,h8,h8I,fu,se,clO,cl,rv,rvA,callK,sam,eqi,hkl,-getM,getM_hit,getM_miss,getM_none]));try (repeat' (refine guardQ_split (fun h=>?_) (fun h=>?_)<;>simp at h<;>(simp [List.zipIdx,few,aw,h8,h8I,fu,se,clO,cl,rv,rvA,callK,sam,eqi,hkl,-getM,getM_hit,getM_miss,getM_none];(repeat (simp (disch:=first|omega|assumption|fail) only [if_pos,if_neg,wrap64];try simp [List.zipIdx,few,aw,h8,h8I,fu,se,clO,cl,rv,rvA,callK,sam,eqi,hkl,-getM,getM_hit,getM_miss,getM_none]))))))|(refine aw_cond (b:=_) (by exact rfl) (fun h=>?_) (fun h=>?_)<;>(try simp at h))|(refine aw_block ?_)|(refine aw_skip ?_;simp only [thenQ,blockQ,if_true])|(refine aw_exit ?_;simp [thenQ,blockQ])|(refine aw_ret ?_;simp only [thenQ,blockQ])|(refine aw_round ?_)|(refine hK _ ?_;clear hK)|(clear hK;refine hK _ ?_;clear hK)|(clear hK;clear hK;refine hK _ ?_;clear hK)|(clear hK;clear hK;clear hK;refine hK _ ?_;clear hK))
     all_goals refine ⟨by simp,?_⟩
     all_goals simp [leaves_iff,Tryz.f10]
     all_goals try (first|omega|(refine decide_eq_decide.2 ?_;omega)|(refine decide_eq_false ?_;omega)|(refine decide_eq_true ?_;omega))
    ·simp only [TbV,TbC,OpV,outT,U] at few se fu ⊢
     repeat' (first|(apply aw_seq_k;intro K hK)|(refine aw_run hc (by exact aw_nod) ?_;simp [List.zipIdx,few,aw,h8,h8I,fu,se,he,-getM,getM_hit,getM_miss,getM_none];(repeat (simp (disch:=first|omega|assumption|fail) only [if_pos,if_neg,wrap64];try simp [List.zipIdx,few,aw,h8,h8I,fu,se,he,-getM,getM_hit,getM_miss,getM_none]));try (repeat' (refine guardQ_split (fun h=>?_) (fun h=>?_)<;>simp at h<;>(simp [List.zipIdx,few,aw,h8,h8I,fu,se,he,-getM,getM_hit,getM_miss,getM_none];(repeat (simp (disch:=first|omega|assumption|fail) only [if_pos,if_neg,wrap64];try simp [List.zipIdx,few,aw,h8,h8I,fu,se,he,-getM,getM_hit,getM_miss,getM_none]))))))|(refine aw_runFt hc ?_;simp [List.zipIdx,few,aw,h8,h8I,fu,se,he,-getM,getM_hit,getM_miss,getM_none];(repeat (simp (disch:=first|omega|assumption|fail) only [if_pos,if_neg,wrap64];try simp [List.zipIdx,few,aw,h8,h8I,fu,se,he,-getM,getM_hit,getM_miss,getM_none]));refine ⟨by kernel_rfl,?_⟩)|(refine aw_run hc (by first|(intro _;rw [ordB_w hw];kernel_rfl)|(intro _;rw [ordB_w0 hw0];kernel_rfl)|(intro _;kernel_rfl)) ?_;simp [List.zipIdx,few,aw,h8,h8I,fu,se,he,-getM,getM_hit,getM_miss,getM_none];(repeat (simp (disch:=first|omega|assumption|fail) only [if_pos,if_neg,wrap64];try simp [List.zipIdx,few,aw,h8,h8I,fu,se,he,-getM,getM_hit,getM_miss,getM_none]));try (repeat' (refine guardQ_split (fun h=>?_) (fun h=>?_)<;>simp at h<;>(simp [List.zipIdx,few,aw,h8,h8I,fu,se,he,-getM,getM_hit,getM_miss,getM_none];(repeat (simp (disch:=first|omega|assumption|fail) only [if_pos,if_neg,wrap64];try simp [List.zipIdx,few,aw,h8,h8I,fu,se,he,-getM,getM_hit,getM_miss,getM_none]))))))|(refine aw_cond (b:=_) (by exact rfl) (fun h=>?_) (fun h=>?_)<;>(try simp at h))|(refine aw_block ?_)|(refine aw_skip ?_;simp only [thenQ,blockQ,if_true])|(refine aw_exit ?_;simp [thenQ,blockQ])|(refine aw_ret ?_;simp only [thenQ,blockQ])|(refine aw_round ?_)|(refine hK _ ?_;clear hK)|(clear hK;refine hK _ ?_;clear hK)|(clear hK;clear hK;refine hK _ ?_;clear hK)|(clear hK;clear hK;clear hK;refine hK _ ?_;clear hK))
     all_goals refine ⟨by simp,?_⟩
     all_goals simp [leaves_iff,Tryz.f10]
     all_goals try (first|omega|(refine decide_eq_decide.2 ?_;omega)|(refine decide_eq_false ?_;omega)|(refine decide_eq_true ?_;omega))
 ·rw [decide_eq_false hf] at few
  simp only [TbV,OpV,U] at few ⊢
  repeat' (first|(apply aw_seq_k;intro K hK)|(refine aw_run hc (by exact aw_nod) ?_;simp [List.zipIdx,few,aw,-getM,getM_hit,getM_miss,getM_none];(repeat (simp (disch:=first|omega|assumption|fail) only [if_pos,if_neg,wrap64];try simp [List.zipIdx,few,aw,-getM,getM_hit,getM_miss,getM_none]));try (repeat' (refine guardQ_split (fun h=>?_) (fun h=>?_)<;>simp at h<;>(simp [List.zipIdx,few,aw,-getM,getM_hit,getM_miss,getM_none];(repeat (simp (disch:=first|omega|assumption|fail) only [if_pos,if_neg,wrap64];try simp [List.zipIdx,few,aw,-getM,getM_hit,getM_miss,getM_none]))))))|(refine aw_runFt hc ?_;simp [List.zipIdx,few,aw,-getM,getM_hit,getM_miss,getM_none];(repeat (simp (disch:=first|omega|assumption|fail) only [if_pos,if_neg,wrap64];try simp [List.zipIdx,few,aw,-getM,getM_hit,getM_miss,getM_none]));refine ⟨by kernel_rfl,?_⟩)|(refine aw_run hc (by first|(intro _;rw [ordB_w hw];kernel_rfl)|(intro _;rw [ordB_w0 hw0];kernel_rfl)|(intro _;kernel_rfl)) ?_;simp [List.zipIdx,few,aw,-getM,getM_hit,getM_miss,getM_none];(repeat (simp (disch:=first|omega|assumption|fail) only [if_pos,if_neg,wrap64];try simp [List.zipIdx,few,aw,-getM,getM_hit,getM_miss,getM_none]));try (repeat' (refine guardQ_split (fun h=>?_) (fun h=>?_)<;>simp at h<;>(simp [List.zipIdx,few,aw,-getM,getM_hit,getM_miss,getM_none];(repeat (simp (disch:=first|omega|assumption|fail) only [if_pos,if_neg,wrap64];try simp [List.zipIdx,few,aw,-getM,getM_hit,getM_miss,getM_none]))))))|(refine aw_cond (b:=_) (by exact rfl) (fun h=>?_) (fun h=>?_)<;>(try simp at h))|(refine aw_block ?_)|(refine aw_skip ?_;simp only [thenQ,blockQ,if_true])|(refine aw_exit ?_;simp [thenQ,blockQ])|(refine aw_ret ?_;simp only [thenQ,blockQ])|(refine aw_round ?_)|(refine hK _ ?_;clear hK)|(clear hK;refine hK _ ?_;clear hK)|(clear hK;clear hK;refine hK _ ?_;clear hK)|(clear hK;clear hK;clear hK;refine hK _ ?_;clear hK))
  all_goals refine ⟨by simp,?_⟩
  all_goals simp [leaves_iff,Tryz.f10]
  all_goals try (first|omega|(refine decide_eq_decide.2 ?_;omega)|(refine decide_eq_false ?_;omega)|(refine decide_eq_true ?_;omega))
theorem undo':PSound Tryz.prog 10 (specF (ι:={x:Tb×Opp // tbF x.1∧x.2.2.1<2^64}) (fun x=>[TbV x.1.1,OpV x.1.2]) fun _=>retOf [B true]):=s10 Tu3 lawU
end Go.AM
