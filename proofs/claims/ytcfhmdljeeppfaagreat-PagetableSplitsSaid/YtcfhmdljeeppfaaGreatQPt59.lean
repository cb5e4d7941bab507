/- A part of the proof; no condition. -/
import Derived.Test.YtcfhmdljeeppfaaGreatQPt53
set_option linter.all false
namespace Go.AM
open Go Go.Proofs
def srA (ns:NdL) (ds:List Dp) (i:Nat):List Int:=sortL (nFr ns++depF (ds.take i))
theorem srA_len {ns:NdL} {ds:List Dp} {i:Nat} (h:i≤ds.length):(srA ns ds i).length=ns.length+i:=by
 unfold srA
 rw [(sortL_perm _).length_eq];simp [depF];omega
theorem srA_0 {ns:NdL} {ds:List Dp} (ha:ascN ns):srA ns ds 0=nFr ns:=by
 unfold srA
 refine sorted_perm (sortL_sorted _) ?_ ((sortL_perm _).trans (by simp [depF]))
 unfold nFr
 rw [List.pairwise_map]
 exact List.Pairwise.imp (fun h=>Int.le_of_lt h) ha
theorem pw_gi {l:List Int} (h:l.Pairwise (·≤·)) {i j:Nat} (hij:i<j) (hj:j<l.length):gi l i≤gi l j:=by
 rw [gi_eq (by omega),gi_eq hj]
 exact List.pairwise_iff_getElem.1 h i j (by omega) hj hij
theorem srA_s {ns:NdL} {ds:List Dp} {i k:Nat} (h:i<ds.length) (hk:k≤(srA ns ds i).length) (h1:∀ j,k≤j→j<(srA ns ds i).length→(gp ds i).2<gi (srA ns ds i) j) (h2:0<k→gi (srA ns ds i) (k - 1)≤(gp ds i).2) :
  srA ns ds (i+1)=(srA ns ds i).take k++[(gp ds i).2]++(srA ns ds i).drop k:=by
 have hs:(srA ns ds i).Pairwise (·≤·):=sortL_sorted _
 have hp:(srA ns ds i).Perm (nFr ns++depF (ds.take i)):=sortL_perm _
 have e:srA ns ds (i+1)=sortL (nFr ns++depF (ds.take i)++[(gp ds i).2]):=by unfold srA;rw [depF_s h,List.append_assoc]
 rw [e]
 obtain ⟨A,hA⟩:∃ A,A=srA ns ds i:=⟨_,rfl⟩
 rw [← hA] at hk h1 h2 hs hp ⊢
 refine sorted_perm (sortL_sorted _) ?_ ((sortL_perm _).trans ?_)
 ·have h3:∀ x∈A.take k,x≤(gp ds i).2:=fun x hx=>by
   obtain ⟨j,hj,rfl⟩:=List.getElem_of_mem hx
   have hj2:j<k:=by simp at hj;omega
   rw [List.getElem_take,← gi_eq]
   rcases Nat.lt_or_ge j (k - 1) with h4|h4
   ·exact Int.le_trans (pw_gi hs h4 (by omega)) (h2 (by omega))
   ·rw [show j=k - 1 by omega];exact h2 (by omega)
  have h4:∀ x∈A.drop k,(gp ds i).2≤x:=fun x hx=>by
   obtain ⟨j,hj,rfl⟩:=List.getElem_of_mem hx
   simp at hj
   rw [List.getElem_drop,← gi_eq]
   exact Int.le_of_lt (h1 _ (by omega) (by omega))
  rw [List.append_assoc,List.pairwise_append]
  refine ⟨hs.sublist (List.take_sublist _ _),?_,fun x hx y hy=>?_⟩
  ·rw [List.singleton_append,List.pairwise_cons]
   exact ⟨h4,hs.sublist (List.drop_sublist _ _)⟩
  ·rcases List.mem_append.1 hy with hy|hy
   ·simp at hy;rw [hy];exact h3 x hx
   ·exact Int.le_trans (h3 x hx) (h4 y hy)
 ·refine (hp.symm.append_right _).trans ?_
  rw [List.append_assoc]
  have:A=A.take k++A.drop k:=(List.take_append_drop k A).symm
  conv=>lhs;rw [this]
  rw [List.append_assoc]
  exact (List.perm_append_comm (l₁:=A.drop k) (l₂:=[(gp ds i).2])).append_left _
theorem irows_dp (l:List Int) (n:Nat):irows (l.drop n)=(irows l).drop n:=by simp [irows,List.map_drop]
theorem irows_app (a b:List Int):irows a++irows b=irows (a++b):=by simp [irows]
theorem insFr {A:List Int} {f:Int} {k:Nat} (hk:k+1≤A.length):List.take (min (k+1) A.length+1) (List.take (min (k+1) A.length) (List.take (k+1) (irows A))++[[I f]])++List.take (A.length - (k+1)) (List.drop (k+1) (irows A))=irows (A.take (k+1)++[f]++A.drop (k+1)):=by
 rw [Nat.min_eq_left hk,List.take_take,Nat.min_self]
 have h1:(List.take (k+1) (irows A)).length=k+1:=by simp;omega
 have h2:List.take (k+1+1) (List.take (k+1) (irows A)++[[I f]])=List.take (k+1) (irows A)++[[I f]]:=List.take_of_length_le (by simp;omega)
 have h3:List.take (A.length - (k+1)) (List.drop (k+1) (irows A))=List.drop (k+1) (irows A):=List.take_of_length_le (by simp)
 rw [h2,h3,← irows_tk,← irows_dp,irows_ap,irows_app]
set_option maxHeartbeats 8000000 in
theorem s48 (X:AX) (hX:XOK Tryz.prog X) (hw:X.W wT) (hch:∀ t:Tb,tbOK t→∀ M n,X.call 40 [TbV t] M n=some (I (chk t),[])) :
  PSound Tryz.prog 48 (specF (ι:={x:Tb // tbOK x}) (fun x=>[TbV x.1]) fun x=>retOf [.ow 1 (irows (frmT x.1))]):=by
 refine psound_spec hX mixed Tryz.func48 rfl fun ⟨⟨r,ns,ds⟩,ht⟩ w0 G=>⟨by show 1≤67;decide,rfl,?_⟩
 show AW ⟨Tryz.prog,X,67,w0,.pure G⟩ _ _ _
 have hc:Cx.OK ⟨Tryz.prog,X,67,w0,.pure G⟩:=⟨hX,mixed⟩
 simp only at ht ⊢
 have hl1:ns.length≤1000000:=ht.2.1
 have hl2:ds.length≤1000000:=ht.2.2
 have hch':=hch _ ht
 simp only [TbV] at hch' ⊢
 rcases Decidable.em (chk (r,ns,ds)=0) with hc0|hc0
 ·have e:frmT (r,ns,ds)=srA ns ds ds.length:=by unfold frmT framesT srA;rw [if_pos hc0,List.take_length]
  have hpv:=chk_pv ht hc0
  have hasc:=hpv.asc
  rw [e]
  rw [hc0] at hch'
  have zS:=hch'
  repeat' (first|(apply aw_seq_k;intro K hK)|(refine eM64 ?_)|(refine aw_cond (b:=_) (by exact rfl) (fun h=>?_) (fun h=>?_)<;>(try simp at h))|(refine eB ?_)|(refine hK _ ?_;clear hK)|(clear hK;refine hK _ ?_;clear hK)|(clear hK;clear hK;refine hK _ ?_;clear hK)|(clear hK;clear hK;clear hK;refine hK _ ?_;clear hK))
  all_goals clear zS
  refine aw_weaken (le_nilslot (t:=3) (sz:=1) (by simp)) ?_
  refine aw_loopK (s0:=?lps1) (m0:=?lpm1) (ι:={i:Nat // i≤ns.length}) [1,14,15] (fun s=>[(16,I s.1),(3,.sl 160 1 1 0 (frA ns s.1).length)]) (fun s=>[(160,.vec 1 1 false (irows (frA ns s.1)))]) (fun s=>ns.length - s.1) ⟨0,by omega⟩ ?lhs1 ?lhm1 ?_ ?_
  case lhs1=>first|(simp [keepS];done)|(simp [keepS];rfl)
  case lhm1=>first|rfl|(simp;done)|(simp;rfl)
  ·simp only [show frA ns 0=[] from rfl]
   exact le_of2 (by simp) (by simp [AVle,AV.under,AV.underL,irows]<;>omega) (by simp [AOle,AO.under,AV.underL,AV.under,irows]<;>omega)
  ·rintro ⟨i,hi⟩
   simp only
   rcases Decidable.em (i<ns.length) with hil|hil
   ·have hilI:(i:Int)<(ns.length:Int):=by omega
    have hg:=nrows_gi hil
    have hgE:=nrows_gE hil
    have hlen:=(ht.1 _ (gn_mem hil)).1
    have hnx:frA ns (i+1)=frA ns i++[(gn ns i).1]:=nFr_s hil
    have hAl:(frA ns i).length=i:=by simp [frA];omega
    obtain ⟨A,hA⟩:∃ A,A=frA ns i:=⟨_,rfl⟩
    rw [← hA] at hnx hAl ⊢
    obtain ⟨⟨g,ws⟩,hm⟩:∃ m,m=gn ns i:=⟨_,rfl⟩
    rw [← hm] at hg hgE hnx hlen
    simp only at hg hgE hnx hlen
    have hle1:A.length≤1000000:=by omega
    have htk:=irows_tkl A
    have hap:=irows_ap A g
    rw [← hnx] at hap
    have hl2:A.length+1=(frA ns (i+1)).length:=by rw [hnx];simp
    have zS:=jj hilI<|jj hg<|jj hgE<|jj hlen<|jj hle1<|jj htk<|hap
    repeat' (first|(apply aw_seq_k;intro K hK)|(refine eM64 ?_)|(refine aw_cond (b:=_) (by exact rfl) (fun h=>?_) (fun h=>?_)<;>(try simp at h))|(refine eB ?_)|(refine hK _ ?_;clear hK)|(clear hK;refine hK _ ?_;clear hK)|(clear hK;clear hK;refine hK _ ?_;clear hK)|(clear hK;clear hK;clear hK;refine hK _ ?_;clear hK))
    all_goals clear zS
    refine ⟨i+1,?_,by omega,by omega⟩
    simp only [hl2]
    refine le_turn (s1:=?tus2) (m1:=?tum2) [] [16,3,1,14,15] [0,160] ?tua2 ?tub2 ?tuc2 ?tud2 ?tue2 ?tuf2 ?tug2
    case tua2=>first|(simp [keepS];done)|(simp [keepS];rfl)
    case tub2=>first|(simp;done)|(simp;rfl)
    case tuc2=>simp
    case tud2=>simp
    case tue2=>simp
    case tuf2=>simp
    case tug2 =>
     simp [swp,vr]
     exact dle
   ·obtain rfl:i=ns.length:=by omega
    rw [show frA ns ns.length=srA ns ds 0 by rw [srA_0 hasc];simp [frA]]
    repeat' (first|(apply aw_seq_k;intro K hK)|(refine eM64o ?_)|(refine aw_cond (b:=_) (by exact rfl) (fun h=>?_) (fun h=>?_)<;>(try simp at h))|(refine eB ?_)|(refine hK _ ?_;clear hK)|(clear hK;refine hK _ ?_;clear hK)|(clear hK;clear hK;refine hK _ ?_;clear hK)|(clear hK;clear hK;clear hK;refine hK _ ?_;clear hK))
    refine aw_loopK (s0:=?lps3) (m0:=?lpm3) (ι:={i:Nat // i≤ds.length}) [27,28] (fun s=>[(29,I s.1),(3,.sl 160 1 1 0 (srA ns ds s.1).length)]) (fun s=>[(160,.vec 1 1 false (irows (srA ns ds s.1)))]) (fun s=>ds.length - s.1) ⟨0,by omega⟩ ?lhs3 ?lhm3 ?_ ?_
    case lhs3=>first|(simp [keepS];done)|(simp [keepS];rfl)
    case lhm3=>first|rfl|(simp;done)|(simp;rfl)
    ·exact dle
    ·rintro ⟨i,hi⟩
     simp only
     have hAl:=srA_len (ns:=ns) hi
     rcases Decidable.em (i<ds.length) with hil|hil
     ·have hilI:(i:Int)<(ds.length:Int):=by omega
      have hg:=prows_gi hil
      have hgE:=prows_gE hil
      have hnx:=fun k=>@srA_s ns ds i k hil
      have hlx:=srA_len (ns:=ns) (ds:=ds) (i:=i+1) (by omega)
      obtain ⟨A,hA⟩:∃ A,A=srA ns ds i:=⟨_,rfl⟩
      rw [← hA] at hnx hAl ⊢
      obtain ⟨⟨g,f⟩,hm⟩:∃ m,m=gp ds i:=⟨_,rfl⟩
      rw [← hm] at hg hgE hnx
      simp only at hg hgE hnx
      have hle1:A.length≤2000000:=by omega
      have zS:=jj hilI<|jj hg<|hgE
      repeat' (first|(apply aw_seq_k;intro K hK)|(refine eM64 ?_)|(refine aw_cond (b:=_) (by exact rfl) (fun h=>?_) (fun h=>?_)<;>(try simp at h))|(refine eB ?_)|(refine hK _ ?_;clear hK)|(clear hK;refine hK _ ?_;clear hK)|(clear hK;clear hK;refine hK _ ?_;clear hK)|(clear hK;clear hK;clear hK;refine hK _ ?_;clear hK))
      all_goals clear zS
      refine aw_loopK (s0:=?lps4) (m0:=?lpm4) (ι:={k:Nat // k≤A.length∧∀ j,k≤j→j<A.length→f<gi A j}) [3,7,27,28,29] (fun s=>[(8,I s.1)]) (fun _=>[]) (fun s=>s.1) ⟨A.length,by omega,fun j h1 h2=>by omega⟩ ?lhs4 ?lhm4 ?_ ?_
      case lhs4=>first|(simp [keepS];done)|(simp [keepS];rfl)
      case lhm4=>first|rfl|(simp;done)|(simp;rfl)
      ·exact dle
      ·rintro ⟨k,hk,hinv⟩
       simp only
       have hkI:¬ (A.length:Int)<(k:Int):=by omega
       cases k with
       | zero =>
        have hn:=hnx 0 (by omega) hinv (by omega)
        rw [List.take_zero,List.drop_zero,List.nil_append] at hn
        have zS:=hkI
        repeat' (first|(apply aw_seq_k;intro K hK)|(refine eM64 ?_)|(refine aw_cond (b:=_) (by exact rfl) (fun h=>?_) (fun h=>?_)<;>(try simp at h))|(refine eB ?_)|(refine hK _ ?_;clear hK)|(clear hK;refine hK _ ?_;clear hK)|(clear hK;clear hK;refine hK _ ?_;clear hK)|(clear hK;clear hK;clear hK;refine hK _ ?_;clear hK))
        all_goals clear zS
        have e1:[I f]::List.take A.length (irows A)=irows (srA ns ds (i+1)):=by
         rw [hn,irows_tkl];rfl
        have e2:1+A.length=(srA ns ds (i+1)).length:=by omega
        refine ⟨i+1,?_,by omega,by omega⟩
        simp only [e1,e2]
        refine le_turn (s1:=?tus5) (m1:=?tum5) [(641,160)] [29,3,27,28] [0,160,641] ?tua5 ?tub5 ?tuc5 ?tud5 ?tue5 ?tuf5 ?tug5
        case tua5=>first|(simp [keepS];done)|(simp [keepS];rfl)
        case tub5=>first|(simp;done)|(simp;rfl)
        case tuc5=>simp
        case tud5=>simp
        case tue5=>simp
        case tuf5=>simp
        case tug5 =>
         simp [swp,vr]
         exact dle
       | succ k =>
        have hkl:k<A.length:=by omega
        have hklI:(k:Int)<(A.length:Int):=by omega
        have ha:=irows_gi hkl
        have haE:=irows_gE hkl
        have hin2:=fun h:f<gi A k=>(show ∀ j,k≤j→j<A.length→f<gi A j from fun j h1 h2=>by
         rcases Nat.lt_or_ge k j with h3|h3
         ·exact hinv j h3 h2
         ·obtain rfl:k=j:=by omega
          exact h)
        have hn:=fun h:¬ f<gi A k=>hnx (k+1) (by omega) hinv (fun _=>by rw [Nat.add_sub_cancel];omega)
        obtain ⟨a,haa⟩:∃ a,a=gi A k:=⟨_,rfl⟩
        rw [← haa] at ha haE hin2 hn
        have hk1:((k+1:Nat):Int) - 1=(k:Int):=by omega
        have hk2:(k:Int)+1 - 1=(k:Int):=by omega
        have hk3:¬ (k:Int)+1≤0:=by omega
        have hk4:(0:Int)<(k:Int)+1:=by omega
        rcases Decidable.em (f<a) with h1|h1
        ·have zS:=jj hkI<|jj hkl<|jj hklI<|jj ha<|jj haE<|jj hk1<|jj hk2<|jj hk3<|jj hk4<|h1
         repeat' (first|(apply aw_seq_k;intro K hK)|(refine eM64 ?_)|(refine aw_cond (b:=_) (by exact rfl) (fun h=>?_) (fun h=>?_)<;>(try simp at h))|(refine eB ?_)|(refine hK _ ?_;clear hK)|(clear hK;refine hK _ ?_;clear hK)|(clear hK;clear hK;refine hK _ ?_;clear hK)|(clear hK;clear hK;clear hK;refine hK _ ?_;clear hK))
         all_goals clear zS
         refine ⟨k,?_,⟨by omega,hin2 h1⟩,by omega⟩
         exact dle
        ·have hn:=hn h1
         have zS:=jj hkI<|jj hkl<|jj hklI<|jj ha<|jj haE<|jj hk1<|jj hk2<|jj hk3<|jj hk4<|h1
         repeat' (first|(apply aw_seq_k;intro K hK)|(refine eM64 ?_)|(refine aw_cond (b:=_) (by exact rfl) (fun h=>?_) (fun h=>?_)<;>(try simp at h))|(refine eB ?_)|(refine hK _ ?_;clear hK)|(clear hK;refine hK _ ?_;clear hK)|(clear hK;clear hK;refine hK _ ?_;clear hK)|(clear hK;clear hK;clear hK;refine hK _ ?_;clear hK))
         all_goals clear zS
         have e1:=insFr (A:=A) (f:=f) (k:=k) (by omega)
         rw [← hn] at e1
         have e2:min (k+1) A.length+1+(A.length - (k+1))=(srA ns ds (i+1)).length:=by omega
         refine ⟨i+1,?_,by omega,by omega⟩
         simp only [e1,e2]
         refine le_turn (s1:=?tus6) (m1:=?tum6) [(641,160)] [29,3,27,28] [0,160,641] ?tua6 ?tub6 ?tuc6 ?tud6 ?tue6 ?tuf6 ?tug6
         case tua6=>first|(simp [keepS];done)|(simp [keepS];rfl)
         case tub6=>first|(simp;done)|(simp;rfl)
         case tuc6=>simp
         case tud6=>simp
         case tue6=>simp
         case tuf6=>simp
         case tug6 =>
          simp [swp,vr]
          exact dle
     ·obtain rfl:i=ds.length:=by omega
      obtain ⟨A,hA⟩:∃ A,A=srA ns ds ds.length:=⟨_,rfl⟩
      rw [← hA] at hAl ⊢
      have htk:=irows_tkl A
      repeat' (first|(apply aw_seq_k;intro K hK)|(refine eM64o ?_)|(refine aw_cond (b:=_) (by exact rfl) (fun h=>?_) (fun h=>?_)<;>(try simp at h))|(refine eB ?_)|(refine hK _ ?_;clear hK)|(clear hK;refine hK _ ?_;clear hK)|(clear hK;clear hK;refine hK _ ?_;clear hK)|(clear hK;clear hK;clear hK;refine hK _ ?_;clear hK))
      refine ⟨by simp,?_⟩
      simp [leaves_iff,Tryz.f48,htk]
      try exact dt
      rw [hA]
 ·have e:frmT (r,ns,ds)=[]:=by unfold frmT;rw [if_neg hc0]
  rw [e]
  obtain ⟨c,hcc⟩:∃ c,c=chk (r,ns,ds):=⟨_,rfl⟩
  rw [← hcc] at hch' hc0
  have zS:=jj hch'<|hc0
  refine dM64 ?_
  repeat (intro K hK)
  clear zS
  refine ⟨by simp,?_⟩
  simp [leaves_iff,Tryz.f48,irows]
  try exact dt
end Go.AM
set_option maxHeartbeats 1000000
namespace Go.AM
open Go Go.Proofs
def nil0:AV:=.v (.slice none 0 0)
def frM (fr:List Int):List AO:=[.box [.sl 1 1 1 0 fr.length],.vec 1 1 false (irows fr)]
theorem frM_inj {a b:List Int} (h:frM a=frM b):a=b:=by
 simp only [frM,List.cons.injEq,AO.vec.injEq,true_and,irows_inj,and_true] at h
 exact h.2
noncomputable def clrS:List AV→List AO→Option (AV×List AO):=specG (ι:={x:Nd×List Int // x.1.2.length=8∧x.2.length≤1000}) (fun x=>[.agg (nrow x.1.1),.bp 0 0]) (fun x=>frM x.1.2) (fun x=>retOf [B (decide (x.1.1.1∈x.1.2))]) fun x=>frM x.1.2
theorem clrS_at {n:Nd} {fr:List Int} (h:n.2.length=8) (h2:fr.length≤1000):clrS [.agg (nrow n),.bp 0 0] (frM fr)=some (B (decide (n.1∈fr)),frM fr):=by
 refine specG_eq (ι:={x:Nd×List Int // x.1.2.length=8∧x.2.length≤1000}) (A:=fun x=>[.agg (nrow x.1.1),.bp 0 0]) (M:=fun x=>frM x.1.2) (R:=fun x=>retOf [B (decide (x.1.1.1∈x.1.2))]) (O:=fun x=>frM x.1.2) ⟨(n,fr),h,h2⟩ fun j hA hM=>?_
 obtain ⟨⟨n',fr'⟩,h'⟩:=j
 have:=frM_inj hM
 simp only at this
 subst this
 simp only [List.cons.injEq,AV.agg.injEq,nrow_inj,and_true] at hA
 subst hA
 exact ⟨rfl,rfl⟩
noncomputable def clrS0:List AV→List AO→Option (AV×List AO):=specG (ι:={x:Nd // x.2.length=8}) (fun x=>[.agg (nrow x.1),.bp 0 0]) (fun x=>[.box [nil0]]) (fun x=>retOf [B false]) fun x=>[.box [nil0]]
theorem clrS0_at {n:Nd} (h:n.2.length=8):clrS0 [.agg (nrow n),.bp 0 0] [.box [nil0]]=some (B false,[.box [nil0]]):=by
 refine specG_eq (ι:={x:Nd // x.2.length=8}) (A:=fun x=>[.agg (nrow x.1),.bp 0 0]) (M:=fun x=>[.box [nil0]]) (R:=fun x=>retOf [B false]) (O:=fun x=>[.box [nil0]]) ⟨n,h⟩ fun j hA hM=>⟨rfl,rfl⟩
def OwnI (X:AX):Prop:=(∀ (fr:List Int) (x:Int),fr.length≤1000→∀ (b v:Nat) (f:Bool) (M:Nat→AO) (n:Nat),M b=.vec v 1 f (irows fr)→X.call 142 [.sl b v 1 0 fr.length,I x] M n=some (B (decide (x∈fr)),[]))∧∀ (x:Int) (M:Nat→AO) (n:Nat),X.call 142 [.v (.slice none 0 0),I x] M n=some (B false,[])
theorem s141 (X:AX) (hX:XOK Tryz.prog X) (hw:X.W wT) (hct:OwnI X):GSound Tryz.prog 141 clrS:=by
 unfold clrS
 refine gsound_spec Tryz.func141 rfl X fun ⟨⟨⟨f,ws⟩,fr⟩,h8,hfr⟩ w0 L E=>⟨by show 2≤8;decide,?_⟩
 simp only at h8 hfr
 have hc1:=hct.1 fr f hfr
 have hwl:(wcs ws).length=8:=by simp [h8]
 simp only [frM,nrow]
 obtain ⟨cs,hcs⟩:∃ cs,cs=wcs ws:=⟨_,rfl⟩
 rw [← hcs] at hwl ⊢
 show AW ⟨Tryz.prog,X,8,w0,⟨L,E,2⟩⟩ _ _ _
 have hc:Cx.OK ⟨Tryz.prog,X,8,w0,⟨L,E,2⟩⟩:=⟨hX,mixed⟩
 have zS:=jj hwl<|hc1
 refine dM64 ?_
 repeat (intro K hK)
 clear zS
 refine ⟨by simp,_,by simp [aResults,aResult,Tryz.f141];rfl,?_⟩
 simp only [idx]
 exact dle
theorem s141_0 (X:AX) (hX:XOK Tryz.prog X) (hw:X.W wT) (hct:OwnI X):GSound Tryz.prog 141 clrS0:=by
 unfold clrS0
 refine gsound_spec Tryz.func141 rfl X fun ⟨⟨f,ws⟩,h8⟩ w0 L E=>⟨by show 2≤8;decide,?_⟩
 simp only at h8
 have hc1:=hct.2 f
 have hwl:(wcs ws).length=8:=by simp [h8]
 simp only [nil0,nrow]
 obtain ⟨cs,hcs⟩:∃ cs,cs=wcs ws:=⟨_,rfl⟩
 rw [← hcs] at hwl ⊢
 show AW ⟨Tryz.prog,X,8,w0,⟨L,E,1⟩⟩ _ _ _
 have hc:Cx.OK ⟨Tryz.prog,X,8,w0,⟨L,E,1⟩⟩:=⟨hX,mixed⟩
 have zS:=jj hwl<|hc1
 refine dM64 ?_
 repeat (intro K hK)
 clear zS
 refine ⟨by simp,_,by simp [aResults,aResult,Tryz.f141];rfl,?_⟩
 simp only [idx]
 exact dle
noncomputable def clrB:List AV→List AO→Option (AV×List AO):=orG clrS clrS0
theorem ren_wcs {σ:Nat→Nat} {v:Nat→Nat→Nat}:∀ {ws:List Nat},renL σ v (wcs ws)=wcs ws
 | []=>rfl
 | w::ws=>by
  show AV.ren σ v (U w)::renL σ v (wcs ws)=_
  rw [ren_wcs (ws:=ws)];rfl
theorem nms_wcs:∀ {ws:List Nat},nmsL (wcs ws)=[]
 | []=>rfl
 | w::ws=>by
  show AV.nms (U w)++nmsL (wcs ws)=[]
  rw [nms_wcs (ws:=ws)];rfl
theorem cur_wcs {M:Nat→AO}:∀ {ws:List Nat},curBL M (wcs ws)=true
 | []=>rfl
 | w::ws=>by
  show (AV.curB M (U w)&&curBL M (wcs ws))=true
  rw [cur_wcs (ws:=ws)];rfl
theorem callCr {a b:Nat} (hab:a≠b) {n:Nd} {fr:List Int} (h:n.2.length=8) (h2:fr.length≤1000) (M:Nat→AO) (nid:Nat) (h0:M a=.box [.sl b 1 1 0 fr.length]) (h1:M b=.vec 1 1 false (irows fr)) :
  callG clrB [.agg (nrow n),.bp a 0] M nid=some (B (decide (n.1∈fr)),[(a,.box [.sl b 1 1 0 fr.length]),(b,.vec 1 1 false (irows fr))]):=by
 have hF:clrB _ _=_:=orG_1 (clrS_at h h2)
 simp only [frM] at hF
 have hba:b≠a:=fun e=>hab e.symm
 have hr:∀ σ v,renL σ v (nrow n)=nrow n:=fun σ v=>by
  show AV.ren σ v (I n.1)::renL σ v (wcs n.2)=_
  rw [ren_wcs];rfl
 have hn:nmsL (nrow n)=[]:=by
  show AV.nms (I n.1)++nmsL (wcs n.2)=[]
  rw [nms_wcs];rfl
 have hcu:curBL M (nrow n)=true:=by
  show (AV.curB M (I n.1)&&curBL M (wcs n.2))=true
  rw [cur_wcs];rfl
 unfold callG
 have hg:gat M 64 (nmsL [.agg (nrow n),.bp a 0]) []=[a,b]:=by
  simp [gat,nmsL,AV.nms,AO.nms,h0,h1,hab,hba,hn]
 simp only [hg]
 rw [if_pos ?cg]
 case cg=>simp [CallG,nmsL,AV.nms,AO.nms,Led,curBL,AV.curB,AO.curB,verOf,notDead,h0,h1,hab,hba,hn,hcu]
 simp [renL,AV.ren,AO.ren,posN,canO,nmsL,h0,h1,hF,RetG,getL,AV.nms,AO.nms,updN,nmN,shN,verOf,rng,Led,hab,hba,hr,hn,gat]
theorem clrB_0 {n:Nd} (h:n.2.length=8):clrB [.agg (nrow n),.bp 0 0] [.box [nil0]]=some (B false,[.box [nil0]]):=orG_2 (specG_none fun i _ h2=>by simp [frM,nil0] at h2) (clrS0_at h)
theorem callCr0 {a:Nat} {n:Nd} (h:n.2.length=8) (M:Nat→AO) (nid:Nat) (h0:M a=.box [nil0]) :
  callG clrB [.agg (nrow n),.bp a 0] M nid=some (B false,[(a,.box [nil0])]):=by
 have hF:=clrB_0 h
 unfold nil0 at h0 hF ⊢
 have hr:∀ σ v,renL σ v (nrow n)=nrow n:=fun σ v=>by
  show AV.ren σ v (I n.1)::renL σ v (wcs n.2)=_
  rw [ren_wcs];rfl
 have hn:nmsL (nrow n)=[]:=by
  show AV.nms (I n.1)++nmsL (wcs n.2)=[]
  rw [nms_wcs];rfl
 have hcu:curBL M (nrow n)=true:=by
  show (AV.curB M (I n.1)&&curBL M (wcs n.2))=true
  rw [cur_wcs];rfl
 unfold callG
 have hg:gat M 64 (nmsL [.agg (nrow n),.bp a 0]) []=[a]:=by
  simp [gat,nmsL,AV.nms,AO.nms,h0,hn]
 simp only [hg]
 rw [if_pos ?cg]
 case cg=>simp [CallG,nmsL,AV.nms,AO.nms,Led,curBL,AV.curB,AO.curB,verOf,notDead,h0,hn,hcu]
 simp [renL,AV.ren,AO.ren,posN,canO,nmsL,h0,hF,RetG,getL,AV.nms,AO.nms,updN,nmN,shN,verOf,rng,Led,hr,hn,gat]
end Go.AM
set_option maxHeartbeats 4000000
namespace Go.AM
open Go Go.Proofs
def inF (fr:List Int) (n:Nd):Bool:=decide (n.1∈fr)
def ixM (ns:NdL) (fr:List Int):List AO:=[.vec 1 9 false (nrows ns),.box [.sl 2 1 1 0 fr.length],.vec 1 1 false (irows fr)]
theorem ixM_inj {a b:NdL} {x y:List Int} (h:ixM a x=ixM b y):a=b∧x=y:=by
 simp only [ixM,List.cons.injEq,AO.vec.injEq,true_and,irows_inj,nrows_inj,and_true] at h
 exact ⟨h.1,h.2.2⟩
def ixM0 (ns:NdL):List AO:=[.vec 1 9 false (nrows ns),.box [nil0]]
theorem ixM0_inj {a b:NdL} (h:ixM0 a=ixM0 b):a=b:=by
 simp only [ixM0,List.cons.injEq,AO.vec.injEq,true_and,nrows_inj,and_true] at h
 exact h
abbrev IxD:=NdL×List Int
abbrev ixOK (x:IxD):Prop:=(∀ n∈x.1,ndOK n)∧x.1.length≤1000000∧x.2.length≤1000
noncomputable def ixS:List AV→List AO→Option (AV×List AO):=specG (ι:={x:IxD // ixOK x}) (fun x=>[.sl 0 1 9 0 x.1.1.length,.fn 141 [.bp 1 0]]) (fun x=>ixM x.1.1 x.1.2) (fun x=>retOf [I (fstG (inF x.1.2) x.1.1)]) fun x=>ixM x.1.1 x.1.2
theorem ixS_at {ns:NdL} {fr:List Int} (h:ixOK (ns,fr)):ixS [.sl 0 1 9 0 ns.length,.fn 141 [.bp 1 0]] (ixM ns fr)=some (I (fstG (inF fr) ns),ixM ns fr):=by
 refine specG_eq (ι:={x:IxD // ixOK x}) (A:=fun x=>[.sl 0 1 9 0 x.1.1.length,.fn 141 [.bp 1 0]]) (M:=fun x=>ixM x.1.1 x.1.2) (R:=fun x=>retOf [I (fstG (inF x.1.2) x.1.1)]) (O:=fun x=>ixM x.1.1 x.1.2) ⟨(ns,fr),h⟩ fun j hA hM=>?_
 obtain ⟨⟨n',fr'⟩,h'⟩:=j
 obtain ⟨rfl,rfl⟩:=ixM_inj hM
 exact ⟨rfl,rfl⟩
noncomputable def ixS0:List AV→List AO→Option (AV×List AO):=specG (ι:={x:NdL // ixOK (x,[])}) (fun x=>[.sl 0 1 9 0 x.1.length,.fn 141 [.bp 1 0]]) (fun x=>ixM0 x.1) (fun x=>retOf [I (fstG (inF []) x.1)]) fun x=>ixM0 x.1
theorem ixS0_at {ns:NdL} (h:ixOK (ns,[])):ixS0 [.sl 0 1 9 0 ns.length,.fn 141 [.bp 1 0]] (ixM0 ns)=some (I (fstG (inF []) ns),ixM0 ns):=by
 refine specG_eq (ι:={x:NdL // ixOK (x,[])}) (A:=fun x=>[.sl 0 1 9 0 x.1.length,.fn 141 [.bp 1 0]]) (M:=fun x=>ixM0 x.1) (R:=fun x=>retOf [I (fstG (inF []) x.1)]) (O:=fun x=>ixM0 x.1) ⟨ns,h⟩ fun j hA hM=>?_
 obtain ⟨n',h'⟩:=j
 have:=ixM0_inj hM
 simp only at this
 subst this
 exact ⟨rfl,rfl⟩
theorem s193 (X:AX) (hX:XOK Tryz.prog X) (hw:X.W wT) (hcl:X.call 141=callG clrB):GSound Tryz.prog 193 ixS:=by
 unfold ixS
 refine gsound_spec Tryz.func193 rfl X fun ⟨⟨ns,fr⟩,hok,hl,hfr⟩ w0 L E=>⟨by show 2≤19;decide,?_⟩
 simp only at hok hl hfr
 skip
 have hcr:=fun (n:Nd) (h:n.2.length=8) M nid=>@callCr 1 2 (by decide) n fr h hfr M nid
 rw [← hcl] at hcr
 simp only [ixM,nil0] at hcr ⊢
 show AW ⟨Tryz.prog,X,19,w0,⟨L,E,3⟩⟩ _ _ _
 have hc:Cx.OK ⟨Tryz.prog,X,19,w0,⟨L,E,3⟩⟩:=⟨hX,mixed⟩
 repeat' (first|(apply aw_seq_k;intro K hK)|(refine eM64o ?_)|(refine aw_cond (b:=_) (by exact rfl) (fun h=>?_) (fun h=>?_)<;>(try simp at h))|(refine eB ?_)|(refine hK _ ?_;clear hK)|(clear hK;refine hK _ ?_;clear hK)|(clear hK;clear hK;refine hK _ ?_;clear hK)|(clear hK;clear hK;clear hK;refine hK _ ?_;clear hK))
 refine aw_loopK (s0:=?lps1) (m0:=?lpm1) (ι:={i:Nat // i≤ns.length∧∀ j,j<i→inF fr (gn ns j)=false}) [0,1,7] (fun s=>[(8,I s.1)]) (fun _=>[]) (fun s=>ns.length - s.1) ⟨0,by omega,by omega⟩ ?lhs1 ?lhm1 ?_ ?_
 case lhs1=>first|(simp [keepS];done)|(simp [keepS];rfl)
 case lhm1=>first|rfl|(simp;done)|(simp;rfl)
 ·exact dle
 ·rintro ⟨i,hi,hinv⟩
  simp only
  rcases Decidable.em (i<ns.length) with hil|hil
  ·have hilI:(i:Int)<(ns.length:Int):=by omega
   have hg:=nrows_gi hil
   have hgE:=nrows_gE hil
   have h8:=(hok _ (gn_mem hil)).1
   have hcr':=hcr _ h8
   have hat:=fstG_at (p:=inF fr) hil
   rw [← gn_eq hil] at hat
   have hinv2:inF fr (gn ns i)=false→∀ j,j<i+1→inF fr (gn ns j)=false:=fun h j hj=>by
    rcases Nat.lt_succ_iff_lt_or_eq.1 hj with h5|rfl
    ·exact hinv j h5
    ·exact h
   obtain ⟨⟨g,ws⟩,hm⟩:∃ m,m=gn ns i:=⟨_,rfl⟩
   rw [← hm] at hg hgE h8 hcr' hat hinv2
   simp only [nrow] at hg hgE h8 hcr' hat hinv2
   have hwl:(wcs ws).length=8:=by simp [h8]
   obtain ⟨cs,hcs⟩:∃ cs,cs=wcs ws:=⟨_,rfl⟩
   rw [← hcs] at hg hgE hwl hcr'
   have htk:List.take 8 cs=cs:=List.take_of_length_le (by omega)
   clear hcs hm
   rcases Decidable.em (g∈fr) with hgf|hgf
   ·rw [decide_eq_true hgf] at hcr'
    have e:=hat (by simp [inF,hgf]) fun j hj=>by have:=hinv j hj;rw [gn_eq (by omega)] at this;exact this
    have zS:=jj hilI<|jj hil<|jj hg<|jj hgE<|jj hwl<|jj htk<|hcr'
    repeat' (first|(apply aw_seq_k;intro K hK)|(refine eM64 ?_)|(refine aw_cond (b:=_) (by exact rfl) (fun h=>?_) (fun h=>?_)<;>(try simp at h))|(refine eB ?_)|(refine hK _ ?_;clear hK)|(clear hK;refine hK _ ?_;clear hK)|(clear hK;clear hK;refine hK _ ?_;clear hK)|(clear hK;clear hK;clear hK;refine hK _ ?_;clear hK))
    all_goals clear zS
    refine ⟨by simp,_,by simp [aResults,aResult,Tryz.f193];rfl,?_⟩
    simp only [idx,e]
    exact dle
   ·rw [decide_eq_false hgf] at hcr'
    have e:=hinv2 (by simp [inF,hgf])
    have zS:=jj hilI<|jj hil<|jj hg<|jj hgE<|jj hwl<|jj htk<|hcr'
    repeat' (first|(apply aw_seq_k;intro K hK)|(refine eM64 ?_)|(refine aw_cond (b:=_) (by exact rfl) (fun h=>?_) (fun h=>?_)<;>(try simp at h))|(refine eB ?_)|(refine hK _ ?_;clear hK)|(clear hK;refine hK _ ?_;clear hK)|(clear hK;clear hK;refine hK _ ?_;clear hK)|(clear hK;clear hK;clear hK;refine hK _ ?_;clear hK))
    all_goals clear zS
    refine ⟨i+1,?_,⟨by omega,e⟩,by omega⟩
    exact dle
  ·obtain rfl:i=ns.length:=by omega
   have e:fstG (inF fr) ns=-1:=fstG_not fun j hj=>by have:=hinv j hj;rw [gn_eq hj] at this;exact this
   repeat' (first|(apply aw_seq_k;intro K hK)|(refine eM64o ?_)|(refine aw_cond (b:=_) (by exact rfl) (fun h=>?_) (fun h=>?_)<;>(try simp at h))|(refine eB ?_)|(refine hK _ ?_;clear hK)|(clear hK;refine hK _ ?_;clear hK)|(clear hK;clear hK;refine hK _ ?_;clear hK)|(clear hK;clear hK;clear hK;refine hK _ ?_;clear hK))
   refine ⟨by simp,_,by simp [aResults,aResult,Tryz.f193];rfl,?_⟩
   simp only [idx,e]
   exact dle
theorem s193_0 (X:AX) (hX:XOK Tryz.prog X) (hw:X.W wT) (hcl:X.call 141=callG clrB):GSound Tryz.prog 193 ixS0:=by
 unfold ixS0
 refine gsound_spec Tryz.func193 rfl X fun ⟨ns,hok,hl,hfr⟩ w0 L E=>⟨by show 2≤19;decide,?_⟩
 simp only at hok hl hfr
 skip
 have hcr:=fun (n:Nd) (h:n.2.length=8) M nid=>@callCr0 1 n h M nid
 rw [← hcl] at hcr
 simp only [ixM0,nil0] at hcr ⊢
 show AW ⟨Tryz.prog,X,19,w0,⟨L,E,2⟩⟩ _ _ _
 have hc:Cx.OK ⟨Tryz.prog,X,19,w0,⟨L,E,2⟩⟩:=⟨hX,mixed⟩
 repeat' (first|(apply aw_seq_k;intro K hK)|(refine eM64o ?_)|(refine aw_cond (b:=_) (by exact rfl) (fun h=>?_) (fun h=>?_)<;>(try simp at h))|(refine eB ?_)|(refine hK _ ?_;clear hK)|(clear hK;refine hK _ ?_;clear hK)|(clear hK;clear hK;refine hK _ ?_;clear hK)|(clear hK;clear hK;clear hK;refine hK _ ?_;clear hK))
 refine aw_loopK (s0:=?lps2) (m0:=?lpm2) (ι:={i:Nat // i≤ns.length∧∀ j,j<i→inF ([]:List Int) (gn ns j)=false}) [0,1,7] (fun s=>[(8,I s.1)]) (fun _=>[]) (fun s=>ns.length - s.1) ⟨0,by omega,by omega⟩ ?lhs2 ?lhm2 ?_ ?_
 case lhs2=>first|(simp [keepS];done)|(simp [keepS];rfl)
 case lhm2=>first|rfl|(simp;done)|(simp;rfl)
 ·exact dle
 ·rintro ⟨i,hi,hinv⟩
  simp only
  rcases Decidable.em (i<ns.length) with hil|hil
  ·have hilI:(i:Int)<(ns.length:Int):=by omega
   have hg:=nrows_gi hil
   have hgE:=nrows_gE hil
   have h8:=(hok _ (gn_mem hil)).1
   have hcr':=hcr _ h8
   have hat:=fstG_at (p:=inF ([]:List Int)) hil
   rw [← gn_eq hil] at hat
   have hinv2:inF ([]:List Int) (gn ns i)=false→∀ j,j<i+1→inF ([]:List Int) (gn ns j)=false:=fun h j hj=>by
    rcases Nat.lt_succ_iff_lt_or_eq.1 hj with h5|rfl
    ·exact hinv j h5
    ·exact h
   obtain ⟨⟨g,ws⟩,hm⟩:∃ m,m=gn ns i:=⟨_,rfl⟩
   rw [← hm] at hg hgE h8 hcr' hat hinv2
   simp only [nrow] at hg hgE h8 hcr' hat hinv2
   have hwl:(wcs ws).length=8:=by simp [h8]
   obtain ⟨cs,hcs⟩:∃ cs,cs=wcs ws:=⟨_,rfl⟩
   rw [← hcs] at hg hgE hwl hcr'
   have htk:List.take 8 cs=cs:=List.take_of_length_le (by omega)
   clear hcs hm
   have e:=hinv2 (by simp [inF])
   have zS:=jj hilI<|jj hil<|jj hg<|jj hgE<|jj hwl<|jj htk<|hcr'
   repeat' (first|(apply aw_seq_k;intro K hK)|(refine eM64 ?_)|(refine aw_cond (b:=_) (by exact rfl) (fun h=>?_) (fun h=>?_)<;>(try simp at h))|(refine eB ?_)|(refine hK _ ?_;clear hK)|(clear hK;refine hK _ ?_;clear hK)|(clear hK;clear hK;refine hK _ ?_;clear hK)|(clear hK;clear hK;clear hK;refine hK _ ?_;clear hK))
   all_goals clear zS
   refine ⟨i+1,?_,⟨by omega,e⟩,by omega⟩
   exact dle
  ·obtain rfl:i=ns.length:=by omega
   have e:fstG (inF ([]:List Int)) ns=-1:=fstG_not fun j hj=>by have:=hinv j hj;rw [gn_eq hj] at this;exact this
   repeat' (first|(apply aw_seq_k;intro K hK)|(refine eM64o ?_)|(refine aw_cond (b:=_) (by exact rfl) (fun h=>?_) (fun h=>?_)<;>(try simp at h))|(refine eB ?_)|(refine hK _ ?_;clear hK)|(clear hK;refine hK _ ?_;clear hK)|(clear hK;clear hK;refine hK _ ?_;clear hK)|(clear hK;clear hK;clear hK;refine hK _ ?_;clear hK))
   refine ⟨by simp,_,by simp [aResults,aResult,Tryz.f193];rfl,?_⟩
   simp only [idx,e]
   exact dle
end Go.AM
set_option maxHeartbeats 4000000
namespace Go.AM
open Go Go.Proofs
def kpF (fr:List Int) (ns:NdL):NdL:=ns.filter fun n=>!inF fr n
theorem kpF_len {fr:List Int} {ns:NdL}:(kpF fr ns).length≤ns.length:=List.length_filter_le _ _
theorem kpF_s {fr:List Int} {ns:NdL} {j:Nat} (h:j<ns.length):kpF fr (ns.take (j+1))=kpF fr (ns.take j)++(if inF fr (gn ns j)=true then [] else [gn ns j]):=by
 rw [take_succ_gn h]
 unfold kpF
 rw [List.filter_append]
 cases hb:inF fr (gn ns j)<;>simp [hb]
def dfR (fr:List Int) (ns:NdL):NdL:=kpF fr ns++List.replicate (ns.length - (kpF fr ns).length) (0,zs8)
noncomputable def ixB:List AV→List AO→Option (AV×List AO):=orG ixS ixS0
theorem ixB_0 {ns:NdL} (h:ixOK (ns,[])):ixB [.sl 0 1 9 0 ns.length,.fn 141 [.bp 1 0]] (ixM0 ns)=some (I (fstG (inF []) ns),ixM0 ns):=orG_2 (specG_none fun i _ h2=>by simp [ixM,ixM0] at h2) (ixS0_at h)
theorem callIx {ns:NdL} {fr:List Int} (h:ixOK (ns,fr)) (M:Nat→AO) (nid:Nat) (h0:M 0=.vec 1 9 false (nrows ns)) (h1:M 1=.box [.sl 2 1 1 0 fr.length]) (h2:M 2=.vec 1 1 false (irows fr)) :
  callG ixB [.sl 0 1 9 0 ns.length,.fn 141 [.bp 1 0]] M nid=some (I (fstG (inF fr) ns),[(0,.vec 1 9 false (nrows ns)),(1,.box [.sl 2 1 1 0 fr.length]),(2,.vec 1 1 false (irows fr))]):=by
 have hF:ixB _ _=_:=orG_1 (ixS_at h)
 simp only [ixM] at hF
 unfold callG
 have hg:gat M 64 (nmsL [.sl 0 1 9 0 ns.length,.fn 141 [.bp 1 0]]) []=[0,1,2]:=by
  simp [gat,nmsL,AV.nms,AO.nms,h0,h1,h2]
 simp only [hg]
 rw [if_pos ?cg]
 case cg=>simp [CallG,nmsL,AV.nms,AO.nms,Led,curBL,AV.curB,AO.curB,verOf,notDead,h0,h1,h2]
 simp [renL,AV.ren,AO.ren,posN,canO,nmsL,h0,h1,h2,hF,RetG,getL,AV.nms,AO.nms,updN,nmN,shN,verOf,rng,Led]
theorem callIx0 {ns:NdL} (h:ixOK (ns,[])) (M:Nat→AO) (nid:Nat) (h0:M 0=.vec 1 9 false (nrows ns)) (h1:M 1=.box [.v (.slice none 0 0)]) :
  callG ixB [.sl 0 1 9 0 ns.length,.fn 141 [.bp 1 0]] M nid=some (I (fstG (inF []) ns),[(0,.vec 1 9 false (nrows ns)),(1,.box [.v (.slice none 0 0)])]):=by
 have hF:=ixB_0 h
 simp only [ixM0,nil0] at hF
 unfold callG
 have hg:gat M 64 (nmsL [.sl 0 1 9 0 ns.length,.fn 141 [.bp 1 0]]) []=[0,1]:=by
  simp [gat,nmsL,AV.nms,AO.nms,h0,h1]
 simp only [hg]
 rw [if_pos ?cg]
 case cg=>simp [CallG,nmsL,AV.nms,AO.nms,Led,curBL,AV.curB,AO.curB,verOf,notDead,h0,h1]
 simp [renL,AV.ren,AO.ren,posN,canO,nmsL,h0,h1,hF,RetG,getL,AV.nms,AO.nms,updN,nmN,shN,verOf,rng,Led]
noncomputable def dfS:List AV→List AO→Option (AV×List AO):=specG (ι:={x:IxD // ixOK x}) (fun x=>[.sl 0 1 9 0 x.1.1.length,.fn 141 [.bp 1 0]]) (fun x=>ixM x.1.1 x.1.2) (fun x=>retOf [.sl 0 1 9 0 (kpF x.1.2 x.1.1).length]) fun x=>ixM (dfR x.1.2 x.1.1) x.1.2
theorem dfS_at {ns:NdL} {fr:List Int} (h:ixOK (ns,fr)):dfS [.sl 0 1 9 0 ns.length,.fn 141 [.bp 1 0]] (ixM ns fr)=some (.sl 0 1 9 0 (kpF fr ns).length,ixM (dfR fr ns) fr):=by
 refine specG_eq (ι:={x:IxD // ixOK x}) (A:=fun x=>[.sl 0 1 9 0 x.1.1.length,.fn 141 [.bp 1 0]]) (M:=fun x=>ixM x.1.1 x.1.2) (R:=fun x=>retOf [.sl 0 1 9 0 (kpF x.1.2 x.1.1).length]) (O:=fun x=>ixM (dfR x.1.2 x.1.1) x.1.2) ⟨(ns,fr),h⟩ fun j hA hM=>?_
 obtain ⟨⟨n',fr'⟩,h'⟩:=j
 obtain ⟨rfl,rfl⟩:=ixM_inj hM
 exact ⟨rfl,rfl⟩
noncomputable def dfS0:List AV→List AO→Option (AV×List AO):=specG (ι:={x:NdL // ixOK (x,[])}) (fun x=>[.sl 0 1 9 0 x.1.length,.fn 141 [.bp 1 0]]) (fun x=>ixM0 x.1) (fun x=>retOf [.sl 0 1 9 0 x.1.length]) fun x=>ixM0 x.1
theorem dfS0_at {ns:NdL} (h:ixOK (ns,[])):dfS0 [.sl 0 1 9 0 ns.length,.fn 141 [.bp 1 0]] (ixM0 ns)=some (.sl 0 1 9 0 ns.length,ixM0 ns):=by
 refine specG_eq (ι:={x:NdL // ixOK (x,[])}) (A:=fun x=>[.sl 0 1 9 0 x.1.length,.fn 141 [.bp 1 0]]) (M:=fun x=>ixM0 x.1) (R:=fun x=>retOf [.sl 0 1 9 0 x.1.length]) (O:=fun x=>ixM0 x.1) ⟨ns,h⟩ fun j hA hM=>?_
 obtain ⟨n',h'⟩:=j
 have:=ixM0_inj hM
 simp only at this
 subst this
 exact ⟨rfl,rfl⟩
theorem nrows_set {S:NdL} {c:Nat} {n:Nd}:(nrows S).set c (nrow n)=nrows (S.set c n):=by unfold nrows;rw [List.map_set]
theorem s140 (X:AX) (hX:XOK Tryz.prog X) (hw:X.W wT) (hcl:X.call 141=callG clrB) (hix:X.call 193=callG ixB):GSound Tryz.prog 140 dfS:=by
 unfold dfS
 refine gsound_spec Tryz.func140 rfl X fun ⟨⟨ns,fr⟩,hok,hl,hfr⟩ w0 L E=>⟨by show 2≤42;decide,?_⟩
 simp only at hok hl hfr
 have hcr:=fun (n:Nd) (h:n.2.length=8) M nid=>@callCr 1 2 (by decide) n fr h hfr M nid
 have hci:=fun M nid=>@callIx ns fr ⟨hok,hl,hfr⟩ M nid
 rw [← hcl] at hcr
 rw [← hix] at hci
 simp only [ixM]
 show AW ⟨Tryz.prog,X,42,w0,⟨L,E,3⟩⟩ _ _ _
 have hc:Cx.OK ⟨Tryz.prog,X,42,w0,⟨L,E,3⟩⟩:=⟨hX,mixed⟩
 rcases Decidable.em (ns.findIdx (inF fr)<ns.length) with hex|hex
 ·obtain ⟨i,hi,h1,h2⟩:∃ j,j<ns.length∧inF fr (gn ns j)=true∧∀ k,k<j→inF fr (gn ns k)=false:=by
   refine ⟨ns.findIdx (inF fr),hex,?_,fun k hk=>?_⟩
   ·rw [gn_eq hex];exact List.findIdx_getElem (w:=hex)
   ·rw [gn_eq (by omega)];simpa using List.not_of_lt_findIdx hk
  have e:fstG (inF fr) ns=i:=fstG_at hi (by rw [← gn_eq hi];exact h1) fun j hj=>by rw [← gn_eq (by omega)];exact h2 j hj
  rw [e] at hci
  have hiI:¬ (i:Int)=-1:=by omega
  have hkt:kpF fr (ns.take i)=ns.take i:=by
   unfold kpF
   refine List.filter_eq_self.2 fun x hx=>?_
   obtain ⟨j,hj,rfl⟩:=List.getElem_of_mem hx
   have hj2:j<i:=by simp at hj;omega
   have:=h2 j hj2
   rw [gn_eq (by omega)] at this
   rw [List.getElem_take,this];rfl
  have hk1:kpF fr (ns.take (i+1))=ns.take i:=by rw [kpF_s hi,h1,hkt];simp
  have zS:=jj hci<|hiI
  repeat' (first|(apply aw_seq_k;intro K hK)|(refine eM64 ?_)|(refine aw_cond (b:=_) (by exact rfl) (fun h=>?_) (fun h=>?_)<;>(try simp at h))|(refine eB ?_)|(refine hK _ ?_;clear hK)|(clear hK;refine hK _ ?_;clear hK)|(clear hK;clear hK;refine hK _ ?_;clear hK)|(clear hK;clear hK;clear hK;refine hK _ ?_;clear hK))
  all_goals clear zS
  refine aw_loopK (s0:=?lps1) (m0:=?lpm1) (ι:={s:Nat×NdL // s.1≤ns.length∧s.2.length=ns.length∧s.2.take (kpF fr (ns.take s.1)).length=kpF fr (ns.take s.1)∧(∀ k,s.1≤k→k<ns.length→gn s.2 k=gn ns k)∧(kpF fr (ns.take s.1)).length<s.1∧∀ x∈s.2,x.2.length=8}) [0,1] (fun s=>[(6,I s.1.1),(5,I (kpF fr (ns.take s.1.1)).length)]) (fun s=>[(0,.vec 1 9 false (nrows s.1.2))]) (fun s=>ns.length - s.1.1) ⟨(i+1,ns),by simp only;omega,rfl,by simp only [hk1,List.length_take];rw [Nat.min_eq_left (by omega)],fun k _ _=>rfl,by simp only [hk1,List.length_take];omega,fun x hx=>(hok x hx).1⟩ ?lhs1 ?lhm1 ?_ ?_
  case lhs1=>first|(simp [keepS];done)|(simp [keepS];rfl)
  case lhm1=>first|rfl|(simp;done)|(simp;rfl)
  ·simp only [hk1,List.length_take,Nat.min_eq_left (Nat.le_of_lt hi)]
   exact dle
  ·rintro ⟨⟨j,S⟩,hj,hSl,hSt,hSd,hcj,hS8⟩
   simp only at hj hSl hSt hSd hcj hS8 ⊢
   obtain ⟨c,hcc⟩:∃ c,c=(kpF fr (ns.take j)).length:=⟨_,rfl⟩
   rw [← hcc] at hSt hcj ⊢
   rcases Decidable.em (j<ns.length) with hjl|hjl
   ·have hjS:j<S.length:=by omega
    have hjI:(j:Int)<(ns.length:Int):=by omega
    have hcS:c<S.length:=by omega
    have hcI:(c:Int)<(ns.length:Int):=by omega
    have hcl2:c<ns.length:=by omega
    have hg:=nrows_gi hjS
    have hgE:=nrows_gE hjS
    rw [hSd j (Nat.le_refl _) hjl] at hg hgE
    have hks:=@kpF_s fr ns j hjl
    have h8:=(hok _ (gn_mem hjl)).1
    have hcr':=hcr _ h8
    have hse:=@nrows_set S c (gn ns j)
    have hSd2:∀ k,j+1≤k→k<ns.length→gn (S.set c (gn ns j)) k=gn ns k:=fun k h3 h4=>by
     rw [gn_eq (by simp;omega),List.getElem_set_ne (by omega),← gn_eq (by omega)]
     exact hSd k (by omega) h4
    have hSt2:(S.set c (gn ns j)).take (c+1)=kpF fr (ns.take j)++[gn ns j]:=by
     rw [List.take_add_one,List.getElem?_set_self (by omega),List.take_set_of_le (Nat.le_refl _),hSt];rfl
    obtain ⟨⟨g,ws⟩,hm⟩:∃ m,m=gn ns j:=⟨_,rfl⟩
    rw [← hm] at hg hgE h8 hcr' hks hse hSd2 hSt2
    simp only [nrow] at hg hgE h8 hcr' hse
    have hwl:(wcs ws).length=8:=by simp [h8]
    obtain ⟨T,hT⟩:∃ T,T=S.set c (g,ws):=⟨_,rfl⟩
    have hT8:∀ x∈T,x.2.length=8:=fun x hx=>by
     rw [hT] at hx
     rcases List.mem_or_eq_of_mem_set hx with h5|h5
     ·exact hS8 x h5
     ·rw [h5];exact h8
    have hgc:=nrows_gi hcS
    have hgcE:=nrows_gE hcS
    have hc8:=hS8 _ (gn_mem hcS)
    obtain ⟨⟨g2,ws2⟩,hm2⟩:∃ m,m=gn S c:=⟨_,rfl⟩
    rw [← hm2] at hgc hgcE hc8
    simp only at hgc hgcE hc8
    have hwl2:(wcs ws2).length=8:=by simp [hc8]
    obtain ⟨cs2,hcs2⟩:∃ cs,cs=wcs ws2:=⟨_,rfl⟩
    rw [← hcs2] at hgc hgcE hwl2
    have hdr2:List.drop 8 cs2=[]:=List.drop_of_length_le (by omega)
    clear hcs2 hm2
    have hTl:T.length=ns.length:=by rw [hT];simpa using hSl
    rw [← hT] at hse hSd2 hSt2
    have hcx:∀ x,x∈wcs ws→AV.isClosed x=true:=fun a ha=>by
     obtain ⟨w,_,rfl⟩:=List.mem_map.1 ha
     rfl
    obtain ⟨cs,hcs⟩:∃ cs,cs=wcs ws:=⟨_,rfl⟩
    rw [← hcs] at hg hgE hwl hcr' hse hcx
    simp only [AV.isClosed] at hcx
    have htk:List.take 8 cs=cs:=List.take_of_length_le (by omega)
    clear hcs hm
    rcases Decidable.em (g∈fr) with hgf|hgf
    ·rw [decide_eq_true hgf] at hcr'
     rw [if_pos (by simp [inF,hgf]),List.append_nil] at hks
     have zS:=jj hjI<|jj hjl<|jj hjS<|jj hg<|jj hgE<|jj hwl<|jj htk<|hcr'
     repeat' (first|(apply aw_seq_k;intro K hK)|(refine eM64 ?_)|(refine aw_cond (b:=_) (by exact rfl) (fun h=>?_) (fun h=>?_)<;>(try simp at h))|(refine eB ?_)|(refine hK _ ?_;clear hK)|(clear hK;refine hK _ ?_;clear hK)|(clear hK;clear hK;refine hK _ ?_;clear hK)|(clear hK;clear hK;clear hK;refine hK _ ?_;clear hK))
     all_goals clear zS
     refine ⟨j+1,S,?_,⟨by omega,hSl,by rw [hks,← hcc];exact hSt,fun k h3 h4=>hSd k (by omega) h4,by rw [hks,← hcc];omega,fun a b h=>hS8 (a,b) h⟩,by omega⟩
     simp only [hks,← hcc]
     exact dle
    ·rw [decide_eq_false hgf] at hcr'
     rw [if_neg (by simp [inF,hgf])] at hks
     have hkl:(kpF fr (ns.take (j+1))).length=c+1:=by rw [hks,List.length_append,← hcc];rfl
     have zS:=jj hjI<|jj hjl<|jj hjS<|jj hg<|jj hgE<|jj hwl<|jj htk<|jj hcr'<|jj hcI<|jj hcl2<|jj hcS<|jj hgc<|jj hgcE<|jj hwl2<|jj hdr2<|jj hse<|hcx
     repeat' (first|(apply aw_seq_k;intro K hK)|(refine eM64 ?_)|(refine aw_cond (b:=_) (by exact rfl) (fun h=>?_) (fun h=>?_)<;>(try simp at h))|(refine eB ?_)|(refine hK _ ?_;clear hK)|(clear hK;refine hK _ ?_;clear hK)|(clear hK;clear hK;refine hK _ ?_;clear hK)|(clear hK;clear hK;clear hK;refine hK _ ?_;clear hK))
     all_goals clear zS
     refine ⟨j+1,T,?_,⟨by omega,hTl,by rw [hkl,hks];exact hSt2,hSd2,by omega,fun a b h=>hT8 (a,b) h⟩,by omega⟩
     simp only [hkl]
     exact dle
   ·obtain rfl:j=ns.length:=by omega
    rw [List.take_length] at hcc hSt
    repeat' (first|(apply aw_seq_k;intro K hK)|(refine eM64o ?_)|(refine aw_cond (b:=_) (by exact rfl) (fun h=>?_) (fun h=>?_)<;>(try simp at h))|(refine eB ?_)|(refine hK _ ?_;clear hK)|(clear hK;refine hK _ ?_;clear hK)|(clear hK;clear hK;refine hK _ ?_;clear hK)|(clear hK;clear hK;clear hK;refine hK _ ?_;clear hK))
    refine ⟨by simp,_,by simp [aResults,aResult,Tryz.f140];rfl,?_⟩
    have e1:List.take c (nrows S)++(List.replicate (ns.length - c) [AV.v (Value.int IntKind.i64 0),AV.v (Value.int IntKind.u64 0),AV.v (Value.int IntKind.u64 0),AV.v (Value.int IntKind.u64 0),AV.v (Value.int IntKind.u64 0),AV.v (Value.int IntKind.u64 0),AV.v (Value.int IntKind.u64 0),AV.v (Value.int IntKind.u64 0),AV.v (Value.int IntKind.u64 0)]++List.drop (c+(ns.length - c)) (nrows S))=nrows (dfR fr ns):=by
     rw [nrows_replicate,nrows_take,hSt,List.drop_of_length_le (by simp;omega),List.append_nil,nrows_append]
     unfold dfR
     rw [hcc]
    simp only [idx,e1,← hcc]
    exact dle
 ·have e:fstG (inF fr) ns=-1:=fstG_not fun j hj=>by
   have h3:=List.findIdx_le_length (xs:=ns) (p:=inF fr)
   simpa using List.not_of_lt_findIdx (p:=inF fr) (xs:=ns) (i:=j) (by omega)
  have hkp:kpF fr ns=ns:=by
   unfold kpF
   refine List.filter_eq_self.2 fun x hx=>?_
   obtain ⟨j,hj,rfl⟩:=List.getElem_of_mem hx
   have h3:=List.findIdx_le_length (xs:=ns) (p:=inF fr)
   have:=List.not_of_lt_findIdx (p:=inF fr) (xs:=ns) (i:=j) (by omega)
   simpa using this
  have hdf:dfR fr ns=ns:=by unfold dfR;rw [hkp];simp
  rw [e] at hci
  have zS:=hci
  refine dM64 ?_
  repeat (intro K hK)
  clear zS
  refine ⟨by simp,_,by simp [aResults,aResult,Tryz.f140];rfl,?_⟩
  simp only [idx,hkp,hdf]
  exact dle
theorem s140_0 (X:AX) (hX:XOK Tryz.prog X) (hw:X.W wT) (hix:X.call 193=callG ixB):GSound Tryz.prog 140 dfS0:=by
 unfold dfS0
 refine gsound_spec Tryz.func140 rfl X fun ⟨ns,hok,hl,hfr⟩ w0 L E=>⟨by show 2≤42;decide,?_⟩
 simp only at hok hl hfr
 have hci:=fun M nid=>@callIx0 ns ⟨hok,hl,hfr⟩ M nid
 rw [← hix] at hci
 simp only [ixM0,nil0]
 show AW ⟨Tryz.prog,X,42,w0,⟨L,E,2⟩⟩ _ _ _
 have hc:Cx.OK ⟨Tryz.prog,X,42,w0,⟨L,E,2⟩⟩:=⟨hX,mixed⟩
 have e:fstG (inF []) ns=-1:=fstG_not fun j hj=>by simp [inF]
 rw [e] at hci
 have zS:=hci
 refine dM64 ?_
 repeat (intro K hK)
 clear zS
 refine ⟨by simp,_,by simp [aResults,aResult,Tryz.f140];rfl,?_⟩
 simp only [idx]
 exact dle
noncomputable def dfB:List AV→List AO→Option (AV×List AO):=orG dfS dfS0
end Go.AM
namespace Go.AM
open Go Go.Proofs
theorem dfB_0 {ns:NdL} (h:ixOK (ns,[])):dfB [.sl 0 1 9 0 ns.length,.fn 141 [.bp 1 0]] (ixM0 ns)=some (.sl 0 1 9 0 ns.length,ixM0 ns):=orG_2 (specG_none fun i _ h2=>by simp [ixM,ixM0] at h2) (dfS0_at h)
theorem dfR_len {fr:List Int} {ns:NdL}:(dfR fr ns).length=ns.length:=by
 have:=@kpF_len fr ns
 simp [dfR];omega
set_option maxHeartbeats 1000000 in
theorem callDf {a b c:Nat} (hab:a≠b) (hac:a≠c) (hbc:b≠c) {ns:NdL} {fr:List Int} (h:ixOK (ns,fr)) {L:Nat} (hL:L=ns.length) {v v3:Nat} (M:Nat→AO) (nid:Nat) (h0:M a=.vec (v+1) 9 false (nrows ns)) (h1:M b=.box [.sl c (v3+1) 1 0 fr.length]) (h2:M c=.vec (v3+1) 1 false (irows fr)) :
  callG dfB [.sl a (v+1) 9 0 L,.fn 141 [.bp b 0]] M nid=some (.sl a (v+1) 9 0 (kpF fr ns).length,[(a,.vec (v+1) 9 false (nrows (dfR fr ns))),(b,.box [.sl c (v3+1) 1 0 fr.length]),(c,.vec (v3+1) 1 false (irows fr))]):=by
 subst hL
 have hF:dfB _ _=_:=orG_1 (dfS_at h)
 simp only [ixM] at hF
 have hba:b≠a:=fun e=>hab e.symm
 have hca:c≠a:=fun e=>hac e.symm
 have hcb:c≠b:=fun e=>hbc e.symm
 unfold callG
 have hg:gat M 64 (nmsL [.sl a (v+1) 9 0 ns.length,.fn 141 [.bp b 0]]) []=[a,b,c]:=by
  simp [gat,nmsL,AV.nms,AO.nms,h0,h1,h2,hab,hac,hbc,hba,hca,hcb]
 simp only [hg]
 rw [if_pos ?cg]
 case cg=>simp [CallG,nmsL,AV.nms,AO.nms,Led,curBL,AV.curB,AO.curB,verOf,notDead,h0,h1,h2,hab,hac,hbc,hba,hca,hcb]
 have e1:1+v=v+1:=by omega
 have e2:1+v3=v3+1:=by omega
 simp [renL,AV.ren,AO.ren,posN,canO,nmsL,h0,h1,h2,hF,RetG,getL,AV.nms,AO.nms,updN,nmN,shN,verOf,rng,Led,hab,hac,hbc,hba,hca,hcb,e1,e2]
theorem callDf0 {a b:Nat} (hab:a≠b) {ns:NdL} (h:ixOK (ns,[])) {L:Nat} (hL:L=ns.length) {v:Nat} (M:Nat→AO) (nid:Nat) (h0:M a=.vec (v+1) 9 false (nrows ns)) (h1:M b=.box [.v (.slice none 0 0)]) :
  callG dfB [.sl a (v+1) 9 0 L,.fn 141 [.bp b 0]] M nid=some (.sl a (v+1) 9 0 L,[(a,.vec (v+1) 9 false (nrows ns)),(b,.box [.v (.slice none 0 0)])]):=by
 subst hL
 have hF:=dfB_0 h
 simp only [ixM0,nil0] at hF
 have hba:b≠a:=fun e=>hab e.symm
 unfold callG
 have hg:gat M 64 (nmsL [.sl a (v+1) 9 0 ns.length,.fn 141 [.bp b 0]]) []=[a,b]:=by
  simp [gat,nmsL,AV.nms,AO.nms,h0,h1,hab,hba]
 simp only [hg]
 rw [if_pos ?cg]
 case cg=>simp [CallG,nmsL,AV.nms,AO.nms,Led,curBL,AV.curB,AO.curB,verOf,notDead,h0,h1,hab,hba]
 have e1:1+v=v+1:=by omega
 simp [renL,AV.ren,AO.ren,posN,canO,nmsL,h0,h1,hF,RetG,getL,AV.nms,AO.nms,updN,nmN,shN,verOf,rng,Led,hab,hba,e1]
def clrL (p:Nat) (ns:NdL):List Stp→NdL×List Int
 | []=>(ns,[])
 | [s]=>(setN ns s.1 (dgt p s.2.1) 0,[])
 | s::q=>if (gn (setN ns s.1 (dgt p s.2.1) 0) s.1).2=zs8 then ((clrL p (setN ns s.1 (dgt p s.2.1) 0) q).1,(gn ns s.1).1::(clrL p (setN ns s.1 (dgt p s.2.1) 0) q).2) else (setN ns s.1 (dgt p s.2.1) 0,[])
def clrF (t:Tb) (p:Nat):List Int:=if (lsT t p).2.1=1 then [(gp t.2.2 (lowD t.2.2 ((p/8:Nat):Int))).2] else []
def clrD (t:Tb) (p:Nat):List Dp:=if (lsT t p).2.1=1 then delL t.2.2 ((p/8:Nat):Int) else t.2.2
def clrA (t:Tb) (p:Nat):List Int:=clrF t p++(clrL p t.2.1 (ptL t p).reverse).2
noncomputable def clrP (t:Tb) (p:Int):Tb×Nat×List Int×Int :=
 if ckd t p 512≠0 then (zT,0,[],ckd t p 512)
 else if (lsT t p.toNat).2.2=0 then (zT,0,[],6)
 else ((t.1,kpF (clrA t p.toNat) (clrL p.toNat t.2.1 (ptL t p.toNat).reverse).1,clrD t p.toNat),(lsT t p.toNat).2.2,clrA t p.toNat,0)
theorem path_0 {r:Int} {ns:NdL} {ds:List Dp} (h:Pv (r,ns,ds)) {p:Nat} (hp:p<512) (hl:(lsT (r,ns,ds) p).2.1=0):∃ n2 w2 n1 w1,n2<ns.length∧n1<ns.length∧ptL (r,ns,ds) p=[(n2,2,w2),(n1,1,w1),lsT (r,ns,ds) p]:=by
 have hr:=fnd_lt h.root
 unfold lsT ptL at *
 simp only [lst,pth] at hl ⊢
 cases h2:kid WA ns (wd ns (rtN (r,ns,ds)) (dgt p 2)) with
 | none=>rw [h2] at hl;simp at hl
 | some n1 =>
  rw [h2] at hl
  simp only at hl ⊢
  cases h1:kid WA ns (wd ns n1 (dgt p 1)) with
  | none=>rw [h1] at hl;simp at hl
  | some n0 =>
   obtain ⟨g,_,hg⟩:=kid_some.1 h2
   exact ⟨_,_,n1,_,hr,fnd_lt hg,rfl⟩
theorem path_1 {r:Int} {ns:NdL} {ds:List Dp} (h:Pv (r,ns,ds)) {p:Nat} (hp:p<512) (hl:(lsT (r,ns,ds) p).2.1=1):∃ n2 w2,n2<ns.length∧ptL (r,ns,ds) p=[(n2,2,w2),lsT (r,ns,ds) p]:=by
 have hr:=fnd_lt h.root
 unfold lsT ptL at *
 simp only [lst,pth] at hl ⊢
 cases h2:kid WA ns (wd ns (rtN (r,ns,ds)) (dgt p 2)) with
 | none=>rw [h2] at hl;simp at hl
 | some n1 =>
  rw [h2] at hl
  simp only at hl ⊢
  cases h1:kid WA ns (wd ns n1 (dgt p 1)) with
  | some n0=>rw [h1] at hl;simp at hl
  | none=>exact ⟨_,_,hr,rfl⟩
end Go.AM
