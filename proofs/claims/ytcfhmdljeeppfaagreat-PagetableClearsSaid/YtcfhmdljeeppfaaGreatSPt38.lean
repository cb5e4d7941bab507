/- A part of the proof: what functions of the program compute, by abstract execution of their code. Its theorems hold without further condition. -/
import Derived.Test.YtcfhmdljeeppfaaGreatSPtS
set_option linter.all false
set_option maxHeartbeats 4000000
namespace Go.AM
open Go Go.Proofs
theorem prows_snoc (l:List Dp) (x:Dp):prows (l++[x])=prows l++[[I x.1,I x.2]]:=by simp [prows]
theorem take_succ_gp {l:List Dp} {n:Nat} (h:n<l.length):l.take (n+1)=l.take n++[gp l n]:=by
 rw [gp_eq h,List.take_add_one,List.getElem?_eq_getElem h];rfl
noncomputable def keepS2:List AV→List AO→Option (AV×List AO):=specG (ι:={x:Tb×Int×Int // tbOK x.1}) (fun x=>[tAV x.1.1,I x.1.2.1,I x.1.2.2]) (fun x=>tMs x.1.1) (fun x=>retOf [.agg [I x.1.1.1,.sl 0 1 9 0 x.1.1.2.1.length,.sl 2 1 2 0 (x.1.1.2.2.length+1)]]) fun x=>tMs x.1.1++[.vec 1 2 false (prows (insK x.1.1.2.2 (x.1.2.1,x.1.2.2)))]
theorem s136 (X:AX) (hX:XOK Tryz.prog X) (hw:X.W wT):GSound Tryz.prog 136 keepS2:=by
 unfold keepS2
 refine gsound_spec Tryz.func136 rfl X fun ⟨⟨⟨r,ns,ds⟩,q,f⟩,ht⟩ w0 L E=>⟨by show 3≤57;decide,?_⟩
 have hl1:ns.length≤1000000:=ht.2.1
 have hl2:ds.length≤1000000:=ht.2.2
 simp only [tAV,tMs]
 show AW ⟨Tryz.prog,X,57,w0,⟨L,E,2⟩⟩ _ _ _
 have hc:Cx.OK ⟨Tryz.prog,X,57,w0,⟨L,E,2⟩⟩:=⟨hX,mixed⟩
 repeat' (first|(apply aw_seq_k;intro K hK)|(refine eM64o ?_)|(refine aw_cond (b:=_) (by exact rfl) (fun h=>?_) (fun h=>?_)<;>(try simp at h))|(refine eB ?_)|(refine hK _ ?_;clear hK)|(clear hK;refine hK _ ?_;clear hK)|(clear hK;clear hK;refine hK _ ?_;clear hK)|(clear hK;clear hK;clear hK;refine hK _ ?_;clear hK))
 refine aw_weaken (le_nilcell (b:=114) (i:=2) (sz:=2) rfl rfl) ?_
 refine aw_loopK (s0:=?lps1) (m0:=?lpm1) (ι:={i:Nat // i≤ds.length}) [1,2,6,7,17,18] (fun s=>[(19,I s.1),(8,B (insD ds q s.1))]) (fun s=>[(114,.box [I r,.sl 0 1 9 0 ns.length,.sl 226 1 2 0 (insA ds (q,f) s.1).length]),(226,.vec 1 2 false (prows (insA ds (q,f) s.1)))]) (fun s=>ds.length - s.1) ⟨0,by simp⟩ ?lhs1 ?lhm1 ?_ ?_
 case lhs1=>first|(simp [keepS];done)|(simp [keepS];rfl)
 case lhm1=>first|rfl|(simp;done)|(simp;rfl)
 ·simp only [insD_0,insA_0]
  exact le_of2 (by simp) (by simp [AVle,AV.under,AV.underL,prows]<;>omega) (by simp [AOle,AO.under,AV.underL,AV.under,prows]<;>omega)
 ·rintro ⟨i,hi⟩
  simp only at hi ⊢
  have hal:=insA_len (l:=ds) (n:=(q,f)) (i:=i)
  have hti:=@insA_t _ ds (q,f) i
  have hyi:=@insA_y _ ds (q,f) i
  have hni:=@insA_n _ ds (q,f) i
  have hdt:=@insD_t _ ds q i
  have hdy:=@insD_y _ ds q i
  have hdn:=@insD_n _ ds q i
  have hend:=@insA_end _ ds (q,f)
  obtain ⟨acc,hacc⟩:∃ acc,acc=insA ds (q,f) i:=⟨_,rfl⟩
  obtain ⟨dn,hdn0⟩:∃ dn,dn=insD ds q i:=⟨_,rfl⟩
  rw [← hacc] at hal hti hyi hni ⊢
  rw [← hdn0] at hdt hdn ⊢
  have hdn1:insD ds (q,f).1 i=dn:=hdn0.symm
  rw [hdn1] at hti hyi hni
  have htk:List.take acc.length (prows acc)=prows acc:=List.take_of_length_le (by simp)
  have ha1:∀ x:Dp,prows acc++[[I x.1,I x.2]]=prows (acc++[x]):=fun x=>(prows_snoc acc x).symm
  have ha1z:prows acc++[[I q,I f]]=prows (acc++[(q,f)]):=ha1 (q,f)
  have ha2:List.take (acc.length+1) (prows (acc++[(q,f)]))=prows (acc++[(q,f)]):=List.take_of_length_le (by simp)
  rcases Decidable.em (i<ds.length) with hil|hil
  ·have hilI:(i:Int)<(ds.length:Int):=by omega
   have hti:=hti hil
   have hyi:=hyi hil
   have hni:=hni hil
   have hdt:=hdt hil
   have hdy:=hdy hil
   have hdn:=hdn hil
   rw [← gp_eq hil] at hti hyi hni hdy hdn
   have hg:=prows_gi hil
   have hgE:=prows_gE hil
   obtain ⟨⟨g,fr⟩,hm⟩:∃ m,m=gp ds i:=⟨_,rfl⟩
   rw [← hm] at hg hgE hti hyi hni hdy hdn
   simp only at hg hgE hti hyi hni hdy hdn
   have ha1g:prows acc++[[I g,I fr]]=prows (acc++[(g,fr)]):=ha1 (g,fr)
   have ha2g:prows (acc++[(q,f)])++[[I g,I fr]]=prows (acc++[(q,f)]++[(g,fr)]):=(prows_snoc (acc++[(q,f)]) (g,fr)).symm
   clear hm
   cases dn with
   | false =>
    rcases Decidable.em (q<g) with h1|h1
    ·have e1:=hyi rfl h1
     have e2:=hdy h1
     have zS:=jj hilI<|jj hg<|jj hgE<|jj htk<|jj hal<|jj ha2<|jj ha2g<|jj ha1g<|jj ha1z<|h1
     repeat' (first|(apply aw_seq_k;intro K hK)|(refine eM64 ?_)|(refine aw_cond (b:=_) (by exact rfl) (fun h=>?_) (fun h=>?_)<;>(try simp at h))|(refine eB ?_)|(refine hK _ ?_;clear hK)|(clear hK;refine hK _ ?_;clear hK)|(clear hK;clear hK;refine hK _ ?_;clear hK)|(clear hK;clear hK;clear hK;refine hK _ ?_;clear hK))
     all_goals clear zS
     refine ⟨i+1,?_,by omega,by omega⟩
     simp only [e1,e2,List.length_append,List.length_singleton]
     refine le_turn (s1:=?tus2) (m1:=?tum2) [] [1,2,6,7,8,17,18,19] [0,1,2,18,114,226] ?tua2 ?tub2 ?tuc2 ?tud2 ?tue2 ?tuf2 ?tug2
     case tua2=>first|(simp [keepS];done)|(simp [keepS];rfl)
     case tub2=>first|(simp;done)|(simp;rfl)
     case tuc2=>simp
     case tud2=>simp
     case tue2=>simp
     case tuf2=>simp
     case tug2 =>
      simp [swp,vr]
      exact dle
    ·have e1:=hni rfl h1
     have e2:=hdn rfl h1
     have zS:=jj hilI<|jj hg<|jj hgE<|jj htk<|jj hal<|jj ha2<|jj ha2g<|jj ha1g<|jj ha1z<|h1
     repeat' (first|(apply aw_seq_k;intro K hK)|(refine eM64 ?_)|(refine aw_cond (b:=_) (by exact rfl) (fun h=>?_) (fun h=>?_)<;>(try simp at h))|(refine eB ?_)|(refine hK _ ?_;clear hK)|(clear hK;refine hK _ ?_;clear hK)|(clear hK;clear hK;refine hK _ ?_;clear hK)|(clear hK;clear hK;clear hK;refine hK _ ?_;clear hK))
     all_goals clear zS
     refine ⟨i+1,?_,by omega,by omega⟩
     simp only [e1,e2,List.length_append,List.length_singleton]
     refine le_turn (s1:=?tus3) (m1:=?tum3) [] [1,2,6,7,8,17,18,19] [0,1,2,18,114,226] ?tua3 ?tub3 ?tuc3 ?tud3 ?tue3 ?tuf3 ?tug3
     case tua3=>first|(simp [keepS];done)|(simp [keepS];rfl)
     case tub3=>first|(simp;done)|(simp;rfl)
     case tuc3=>simp
     case tud3=>simp
     case tue3=>simp
     case tuf3=>simp
     case tug3 =>
      simp [swp,vr]
      exact dle
   | true =>
    have e1:=hti rfl
    have e2:=hdt rfl
    have zS:=jj hilI<|jj hg<|jj hgE<|jj htk<|jj hal<|jj ha2<|jj ha2g<|jj ha1g<|ha1z
    repeat' (first|(apply aw_seq_k;intro K hK)|(refine eM64 ?_)|(refine aw_cond (b:=_) (by exact rfl) (fun h=>?_) (fun h=>?_)<;>(try simp at h))|(refine eB ?_)|(refine hK _ ?_;clear hK)|(clear hK;refine hK _ ?_;clear hK)|(clear hK;clear hK;refine hK _ ?_;clear hK)|(clear hK;clear hK;clear hK;refine hK _ ?_;clear hK))
    all_goals clear zS
    refine ⟨i+1,?_,by omega,by omega⟩
    simp only [e1,e2,List.length_append,List.length_singleton]
    refine le_turn (s1:=?tus4) (m1:=?tum4) [] [1,2,6,7,8,17,18,19] [0,1,2,18,114,226] ?tua4 ?tub4 ?tuc4 ?tud4 ?tue4 ?tuf4 ?tug4
    case tua4=>first|(simp [keepS];done)|(simp [keepS];rfl)
    case tub4=>first|(simp;done)|(simp;rfl)
    case tuc4=>simp
    case tud4=>simp
    case tue4=>simp
    case tuf4=>simp
    case tug4 =>
     simp [swp,vr]
     exact dle
  ·obtain rfl:i=ds.length:=by omega
   rw [← hacc,show insD ds (q,f).1 ds.length=dn from hdn1] at hend
   have hil2:=@insK_len _ (q,f) ds
   rw [hend] at hil2
   cases dn with
   | false =>
    simp only [Bool.false_eq_true,if_false,List.length_append,List.length_singleton] at hil2 hend
    have hal2:acc.length=ds.length:=by omega
    have zS:=jj htk<|jj hal<|jj ha2<|ha1z
    repeat' (first|(apply aw_seq_k;intro K hK)|(refine eM64 ?_)|(refine aw_cond (b:=_) (by exact rfl) (fun h=>?_) (fun h=>?_)<;>(try simp at h))|(refine eB ?_)|(refine hK _ ?_;clear hK)|(clear hK;refine hK _ ?_;clear hK)|(clear hK;clear hK;refine hK _ ?_;clear hK)|(clear hK;clear hK;clear hK;refine hK _ ?_;clear hK))
    all_goals clear zS
    refine ⟨by simp,_,by simp [aResults,aResult,Tryz.f136];rfl,?_⟩
    simp only [idx,hend,hal2,List.cons_append,List.nil_append]
    refine le_turn (s1:=?tus5) (m1:=?tum5) [(226,2)] [0] [0,1,226] ?tua5 ?tub5 ?tuc5 ?tud5 ?tue5 ?tuf5 ?tug5
    case tua5=>first|(simp [keepS];done)|(simp [keepS];rfl)
    case tub5=>first|(simp;done)|(simp;rfl)
    case tuc5=>simp
    case tud5=>simp
    case tue5=>simp
    case tuf5=>simp
    case tug5 =>
     simp [swp,vr]
     exact dle
   | true =>
    simp only [if_true] at hil2 hend
    have zS:=jj htk<|jj hal<|jj ha2<|ha1z
    repeat' (first|(apply aw_seq_k;intro K hK)|(refine eM64 ?_)|(refine aw_cond (b:=_) (by exact rfl) (fun h=>?_) (fun h=>?_)<;>(try simp at h))|(refine eB ?_)|(refine hK _ ?_;clear hK)|(clear hK;refine hK _ ?_;clear hK)|(clear hK;clear hK;refine hK _ ?_;clear hK)|(clear hK;clear hK;clear hK;refine hK _ ?_;clear hK))
    all_goals clear zS
    refine ⟨by simp,_,by simp [aResults,aResult,Tryz.f136];rfl,?_⟩
    simp only [idx,hend,hil2,List.cons_append,List.nil_append]
    refine le_turn (s1:=?tus6) (m1:=?tum6) [(226,2)] [0] [0,1,226] ?tua6 ?tub6 ?tuc6 ?tud6 ?tue6 ?tuf6 ?tug6
    case tua6=>first|(simp [keepS];done)|(simp [keepS];rfl)
    case tub6=>first|(simp;done)|(simp;rfl)
    case tuc6=>simp
    case tud6=>simp
    case tue6=>simp
    case tuf6=>simp
    case tug6 =>
     simp [swp,vr]
     exact dle
noncomputable def relS:List AV→List AO→Option (AV×List AO):=specG (ι:={x:Tb×Int // tbOK x.1}) (fun x=>[tAV x.1.1,I x.1.2]) (fun x=>tMs x.1.1) (fun x=>retOf [.agg [I x.1.1.1,.sl 0 1 9 0 x.1.1.2.1.length,.sl 2 1 2 0 (delK x.1.1.2.2 x.1.2).length],I (lastK (-1) x.1.2 x.1.1.2.2)]) fun x=>tMs x.1.1++[.vec 1 2 false (prows (delK x.1.1.2.2 x.1.2))]
theorem delK_len {β:Type} {l:List (Int×β)} {k:Int}:(delK l k).length≤l.length:=List.length_filter_le _ _
theorem s144 (X:AX) (hX:XOK Tryz.prog X) (hw:X.W wT):GSound Tryz.prog 144 relS:=by
 unfold relS
 refine gsound_spec Tryz.func144 rfl X fun ⟨⟨⟨r,ns,ds⟩,q⟩,ht⟩ w0 L E=>⟨by show 2≤37;decide,?_⟩
 have hl1:ns.length≤1000000:=ht.2.1
 have hl2:ds.length≤1000000:=ht.2.2
 simp only [tAV,tMs]
 show AW ⟨Tryz.prog,X,37,w0,⟨L,E,2⟩⟩ _ _ _
 have hc:Cx.OK ⟨Tryz.prog,X,37,w0,⟨L,E,2⟩⟩:=⟨hX,mixed⟩
 repeat' (first|(apply aw_seq_k;intro K hK)|(refine eM64o ?_)|(refine aw_cond (b:=_) (by exact rfl) (fun h=>?_) (fun h=>?_)<;>(try simp at h))|(refine eB ?_)|(refine hK _ ?_;clear hK)|(clear hK;refine hK _ ?_;clear hK)|(clear hK;clear hK;refine hK _ ?_;clear hK)|(clear hK;clear hK;clear hK;refine hK _ ?_;clear hK))
 refine aw_weaken (le_nilcell (b:=130) (i:=2) (sz:=2) rfl rfl) ?_
 refine aw_loopK (s0:=?lps7) (m0:=?lpm7) (ι:={i:Nat // i≤ds.length}) [1,4,6,16,17] (fun s=>[(18,I s.1),(7,I (lastK (-1) q (ds.take s.1)))]) (fun s=>[(130,.box [I r,.sl 0 1 9 0 ns.length,.sl 242 1 2 0 (delK (ds.take s.1) q).length]),(242,.vec 1 2 false (prows (delK (ds.take s.1) q)))]) (fun s=>ds.length - s.1) ⟨0,by simp⟩ ?lhs7 ?lhm7 ?_ ?_
 case lhs7=>first|(simp [keepS];done)|(simp [keepS];rfl)
 case lhm7=>first|rfl|(simp;done)|(simp;rfl)
 ·simp only [List.take_zero,delK,lastK,List.filter_nil,List.foldl_nil]
  exact le_of2 (by simp) (by simp [AVle,AV.under,AV.underL,prows]<;>omega) (by simp [AOle,AO.under,AV.underL,AV.under,prows]<;>omega)
 ·rintro ⟨i,hi⟩
  simp only at hi ⊢
  rcases Decidable.em (i<ds.length) with hil|hil
  ·have hilI:(i:Int)<(ds.length:Int):=by omega
   have hal:(delK (ds.take i) q).length≤1000000:=by have:=delK_len (l:=ds.take i) (k:=q);simp at this;omega
   have hts:delK (ds.take (i+1)) q=if (gp ds i).1=q then delK (ds.take i) q else delK (ds.take i) q++[gp ds i]:=by rw [take_succ_gp hil,delK_snoc]
   have hls:lastK (-1) q (ds.take (i+1))=if (gp ds i).1=q then (gp ds i).2 else lastK (-1) q (ds.take i):=by rw [take_succ_gp hil,lastK_snoc]
   obtain ⟨acc,hacc⟩:∃ acc,acc=delK (ds.take i) q:=⟨_,rfl⟩
   obtain ⟨la,hla⟩:∃ la,la=lastK (-1) q (ds.take i):=⟨_,rfl⟩
   rw [← hacc] at hal hts ⊢
   rw [← hla] at hls ⊢
   have htk:List.take acc.length (prows acc)=prows acc:=List.take_of_length_le (by simp)
   have hg:=prows_gi hil
   have hgE:=prows_gE hil
   obtain ⟨⟨g,fr⟩,hm⟩:∃ m,m=gp ds i:=⟨_,rfl⟩
   rw [← hm] at hg hgE hts hls
   simp only at hg hgE hts hls
   have ha1g:prows acc++[[I g,I fr]]=prows (acc++[(g,fr)]):=(prows_snoc acc (g,fr)).symm
   rcases Decidable.em (g=q) with h1|h1
   ·rw [if_pos h1] at hts hls
    have zS:=jj hilI<|jj hg<|jj hgE<|jj htk<|jj hal<|jj ha1g<|h1
    repeat' (first|(apply aw_seq_k;intro K hK)|(refine eM64 ?_)|(refine aw_cond (b:=_) (by exact rfl) (fun h=>?_) (fun h=>?_)<;>(try simp at h))|(refine eB ?_)|(refine hK _ ?_;clear hK)|(clear hK;refine hK _ ?_;clear hK)|(clear hK;clear hK;refine hK _ ?_;clear hK)|(clear hK;clear hK;clear hK;refine hK _ ?_;clear hK))
    all_goals clear zS
    refine ⟨i+1,?_,by omega,by omega⟩
    simp only [hts,hls]
    exact dle
   ·rw [if_neg h1] at hts hls
    have zS:=jj hilI<|jj hg<|jj hgE<|jj htk<|jj hal<|jj ha1g<|h1
    repeat' (first|(apply aw_seq_k;intro K hK)|(refine eM64 ?_)|(refine aw_cond (b:=_) (by exact rfl) (fun h=>?_) (fun h=>?_)<;>(try simp at h))|(refine eB ?_)|(refine hK _ ?_;clear hK)|(clear hK;refine hK _ ?_;clear hK)|(clear hK;clear hK;refine hK _ ?_;clear hK)|(clear hK;clear hK;clear hK;refine hK _ ?_;clear hK))
    all_goals clear zS
    refine ⟨i+1,?_,by omega,by omega⟩
    simp only [hts,hls,List.length_append,List.length_singleton]
    refine le_turn (s1:=?tus8) (m1:=?tum8) [] [1,4,5,6,7,16,17,18] [0,1,2,18,130,242] ?tua8 ?tub8 ?tuc8 ?tud8 ?tue8 ?tuf8 ?tug8
    case tua8=>first|(simp [keepS];done)|(simp [keepS];rfl)
    case tub8=>first|(simp;done)|(simp;rfl)
    case tuc8=>simp
    case tud8=>simp
    case tue8=>simp
    case tuf8=>simp
    case tug8 =>
     simp [swp,vr]
     exact dle
  ·obtain rfl:i=ds.length:=by omega
   rw [List.take_length]
   have hal:(delK ds q).length≤1000000:=by have:=delK_len (l:=ds) (k:=q);omega
   obtain ⟨acc,hacc⟩:∃ acc,acc=delK ds q:=⟨_,rfl⟩
   obtain ⟨la,hla⟩:∃ la,la=lastK (-1) q ds:=⟨_,rfl⟩
   rw [← hacc] at hal ⊢
   rw [← hla]
   repeat' (first|(apply aw_seq_k;intro K hK)|(refine eM64o ?_)|(refine aw_cond (b:=_) (by exact rfl) (fun h=>?_) (fun h=>?_)<;>(try simp at h))|(refine eB ?_)|(refine hK _ ?_;clear hK)|(clear hK;refine hK _ ?_;clear hK)|(clear hK;clear hK;refine hK _ ?_;clear hK)|(clear hK;clear hK;clear hK;refine hK _ ?_;clear hK))
   refine ⟨by simp,_,by simp [aResults,aResult,Tryz.f144];rfl,?_⟩
   simp only [idx,← hacc,← hla,List.cons_append,List.nil_append]
   refine le_turn (s1:=?tus9) (m1:=?tum9) [(242,2)] [0] [0,1,242] ?tua9 ?tub9 ?tuc9 ?tud9 ?tue9 ?tuf9 ?tug9
   case tua9=>first|(simp [keepS];done)|(simp [keepS];rfl)
   case tub9=>first|(simp;done)|(simp;rfl)
   case tuc9=>simp
   case tud9=>simp
   case tue9=>simp
   case tuf9=>simp
   case tug9 =>
    simp [swp,vr]
    exact dle
noncomputable def remS:List AV→List AO→Option (AV×List AO):=specG (ι:={x:Tb×Int // tbOK x.1}) (fun x=>[tAV x.1.1,I x.1.2]) (fun x=>tMs x.1.1) (fun x=>retOf [.agg [I x.1.1.1,.sl 2 1 9 0 (delK x.1.1.2.1 x.1.2).length,.sl 1 1 2 0 x.1.1.2.2.length]]) fun x=>tMs x.1.1++[.vec 1 9 false (nrows (delK x.1.1.2.1 x.1.2))]
theorem s146 (X:AX) (hX:XOK Tryz.prog X) (hw:X.W wT):GSound Tryz.prog 146 remS:=by
 unfold remS
 refine gsound_spec Tryz.func146 rfl X fun ⟨⟨⟨r,ns,ds⟩,q⟩,ht⟩ w0 L E=>⟨by show 2≤32;decide,?_⟩
 have hl1:ns.length≤1000000:=ht.2.1
 have hl2:ds.length≤1000000:=ht.2.2
 simp only [tAV,tMs]
 show AW ⟨Tryz.prog,X,32,w0,⟨L,E,2⟩⟩ _ _ _
 have hc:Cx.OK ⟨Tryz.prog,X,32,w0,⟨L,E,2⟩⟩:=⟨hX,mixed⟩
 repeat' (first|(apply aw_seq_k;intro K hK)|(refine eM64o ?_)|(refine aw_cond (b:=_) (by exact rfl) (fun h=>?_) (fun h=>?_)<;>(try simp at h))|(refine eB ?_)|(refine hK _ ?_;clear hK)|(clear hK;refine hK _ ?_;clear hK)|(clear hK;clear hK;refine hK _ ?_;clear hK)|(clear hK;clear hK;clear hK;refine hK _ ?_;clear hK))
 refine aw_weaken (le_nilcell (b:=114) (i:=1) (sz:=9) rfl rfl) ?_
 refine aw_loopK (s0:=?lps10) (m0:=?lpm10) (ι:={i:Nat // i≤ns.length}) [1,4,5,14,15] (fun s=>[(16,I s.1)]) (fun s=>[(114,.box [I r,.sl 210 1 9 0 (delK (ns.take s.1) q).length,.sl 1 1 2 0 ds.length]),(210,.vec 1 9 false (nrows (delK (ns.take s.1) q)))]) (fun s=>ns.length - s.1) ⟨0,by simp⟩ ?lhs10 ?lhm10 ?_ ?_
 case lhs10=>first|(simp [keepS];done)|(simp [keepS];rfl)
 case lhm10=>first|rfl|(simp;done)|(simp;rfl)
 ·simp only [List.take_zero,delK,List.filter_nil]
  exact le_of2 (by simp) (by simp [AVle,AV.under,AV.underL,nrows]<;>omega) (by simp [AOle,AO.under,AV.underL,AV.under,nrows]<;>omega)
 ·rintro ⟨i,hi⟩
  simp only at hi ⊢
  rcases Decidable.em (i<ns.length) with hil|hil
  ·have hilI:(i:Int)<(ns.length:Int):=by omega
   have hal:(delK (ns.take i) q).length≤1000000:=by have:=delK_len (l:=ns.take i) (k:=q);simp at this;omega
   have hts:delK (ns.take (i+1)) q=if (gn ns i).1=q then delK (ns.take i) q else delK (ns.take i) q++[gn ns i]:=by rw [take_succ_gn hil,delK_snoc]
   obtain ⟨acc,hacc⟩:∃ acc,acc=delK (ns.take i) q:=⟨_,rfl⟩
   rw [← hacc] at hal hts ⊢
   have htk:List.take acc.length (nrows acc)=nrows acc:=List.take_of_length_le (by simp)
   have hg:=nrows_gi hil
   have hgE:=nrows_gE hil
   have hlen:=(ht.1 _ (gn_mem hil)).1
   obtain ⟨⟨g,ws⟩,hm⟩:∃ m,m=gn ns i:=⟨_,rfl⟩
   rw [← hm] at hg hgE hts hlen
   simp only at hg hgE hts hlen
   have hwl:(wcs ws).length=8:=by simpa using hlen
   have ha1g:nrows acc++[I g::wcs ws]=nrows (acc++[(g,ws)]):=(nrows_snoc acc (g,ws)).symm
   have hcl:∀ x,x∈wcs ws→AV.isClosed x=true:=fun a ha=>by
    obtain ⟨w,_,rfl⟩:=List.mem_map.1 ha
    rfl
   obtain ⟨cs,hcs⟩:∃ cs,cs=wcs ws:=⟨_,rfl⟩
   rw [← hcs] at hg hgE hwl ha1g hcl
   have hct:List.take 8 cs=cs:=List.take_of_length_le (by omega)
   simp only [AV.isClosed] at hcl
   clear hcs hm
   rcases Decidable.em (g=q) with h1|h1
   ·rw [if_pos h1] at hts
    have zS:=jj hilI<|jj hg<|jj hgE<|jj hwl<|jj hct<|jj htk<|jj hal<|jj ha1g<|jj hcl<|h1
    repeat' (first|(apply aw_seq_k;intro K hK)|(refine eM64 ?_)|(refine aw_cond (b:=_) (by exact rfl) (fun h=>?_) (fun h=>?_)<;>(try simp at h))|(refine eB ?_)|(refine hK _ ?_;clear hK)|(clear hK;refine hK _ ?_;clear hK)|(clear hK;clear hK;refine hK _ ?_;clear hK)|(clear hK;clear hK;clear hK;refine hK _ ?_;clear hK))
    all_goals clear zS
    refine ⟨i+1,?_,by omega,by omega⟩
    simp only [hts]
    exact dle
   ·rw [if_neg h1] at hts
    have zS:=jj hilI<|jj hg<|jj hgE<|jj hwl<|jj hct<|jj htk<|jj hal<|jj ha1g<|jj hcl<|h1
    repeat' (first|(apply aw_seq_k;intro K hK)|(refine eM64 ?_)|(refine aw_cond (b:=_) (by exact rfl) (fun h=>?_) (fun h=>?_)<;>(try simp at h))|(refine eB ?_)|(refine hK _ ?_;clear hK)|(clear hK;refine hK _ ?_;clear hK)|(clear hK;clear hK;refine hK _ ?_;clear hK)|(clear hK;clear hK;clear hK;refine hK _ ?_;clear hK))
    all_goals clear zS
    refine ⟨i+1,?_,by omega,by omega⟩
    simp only [hts,List.length_append,List.length_singleton]
    refine le_turn (s1:=?tus11) (m1:=?tum11) [] [1,4,5,14,15,16] [0,1,2,18,114,210] ?tua11 ?tub11 ?tuc11 ?tud11 ?tue11 ?tuf11 ?tug11
    case tua11=>first|(simp [keepS];done)|(simp [keepS];rfl)
    case tub11=>first|(simp;done)|(simp;rfl)
    case tuc11=>simp
    case tud11=>simp
    case tue11=>simp
    case tuf11=>simp
    case tug11 =>
     simp [swp,vr]
     exact dle
  ·obtain rfl:i=ns.length:=by omega
   rw [List.take_length]
   obtain ⟨acc,hacc⟩:∃ acc,acc=delK ns q:=⟨_,rfl⟩
   rw [← hacc]
   repeat' (first|(apply aw_seq_k;intro K hK)|(refine eM64o ?_)|(refine aw_cond (b:=_) (by exact rfl) (fun h=>?_) (fun h=>?_)<;>(try simp at h))|(refine eB ?_)|(refine hK _ ?_;clear hK)|(clear hK;refine hK _ ?_;clear hK)|(clear hK;clear hK;refine hK _ ?_;clear hK)|(clear hK;clear hK;clear hK;refine hK _ ?_;clear hK))
   refine ⟨by simp,_,by simp [aResults,aResult,Tryz.f146];rfl,?_⟩
   simp only [idx,← hacc,List.cons_append,List.nil_append]
   refine le_turn (s1:=?tus12) (m1:=?tum12) [(210,2)] [0] [0,1,210] ?tua12 ?tub12 ?tuc12 ?tud12 ?tue12 ?tuf12 ?tug12
   case tua12=>first|(simp [keepS];done)|(simp [keepS];rfl)
   case tub12=>first|(simp;done)|(simp;rfl)
   case tuc12=>simp
   case tud12=>simp
   case tue12=>simp
   case tuf12=>simp
   case tug12 =>
    simp [swp,vr]
    exact dle
end Go.AM
namespace Go.AM
open Go Go.Proofs
noncomputable def FClN:List AV→Option AV:=specF (ι:={l:List Nd // nds8 l∧l.length≤1000000}) (fun x=>[.rd 9 (nrows x.1)]) fun x=>retOf [.ow 9 (nrows x.1)]
noncomputable def FClD:List AV→Option AV:=specF (ι:={l:List Dp // l.length≤1000000}) (fun x=>[.rd 2 (prows x.1)]) fun x=>retOf [.ow 2 (prows x.1)]
theorem FClN_at {l:List Nd} (h:nds8 l) (h2:l.length≤1000000):FClN [.rd 9 (nrows l)]=some (.ow 9 (nrows l)):=by
 refine specF_eq (ι:={l:List Nd // nds8 l∧l.length≤1000000}) (A:=fun x=>[.rd 9 (nrows x.1)]) (R:=fun x=>retOf [.ow 9 (nrows x.1)]) ⟨l,h,h2⟩ fun j e=>?_
 simp only [List.cons.injEq,AV.rd.injEq,true_and,nrows_inj,and_true] at e
 rw [e]
theorem FClD_at {l:List Dp} (h2:l.length≤1000000):FClD [.rd 2 (prows l)]=some (.ow 2 (prows l)):=by
 refine specF_eq (ι:={l:List Dp // l.length≤1000000}) (A:=fun x=>[.rd 2 (prows x.1)]) (R:=fun x=>retOf [.ow 2 (prows x.1)]) ⟨l,h2⟩ fun j e=>?_
 simp only [List.cons.injEq,AV.rd.injEq,true_and,prows_inj,and_true] at e
 rw [e]
theorem s104 (X:AX) (hX:XOK Tryz.prog X) (hw:X.W wT):PSound Tryz.prog 104 (specF (ι:={x:Tb // tbOK x}) (fun x=>[TbV x.1]) fun x=>retOf [.agg [I x.1.1,.ow 9 (nrows x.1.2.1),.ow 2 (prows x.1.2.2)]]):=by
 refine psound_spec hX mixed Tryz.func104 rfl fun ⟨⟨r,ns,ds⟩,ht⟩ w0 G=>⟨by show 1≤20;decide,rfl,?_⟩
 show AW ⟨Tryz.prog,X,20,w0,.pure G⟩ _ _ _
 have hc:Cx.OK ⟨Tryz.prog,X,20,w0,.pure G⟩:=⟨hX,mixed⟩
 have hl1:ns.length≤1000000:=ht.2.1
 have hl2:ds.length≤1000000:=ht.2.2
 simp only [TbV]
 have tkn:List.take ns.length (nrows ns)=nrows ns:=List.take_of_length_le (by simp)
 have tkd:List.take ds.length (prows ds)=prows ds:=List.take_of_length_le (by simp)
 refine dM64o ?_
 repeat (intro K hK)
 refine ⟨by simp,?_⟩
 simp [leaves_iff,Tryz.f104,tkn,tkd]
 try exact dt
theorem s128 (X:AX) (hX:XOK Tryz.prog X) (hw:X.W wT) (h1:X.call 184=callC FClN) (h2:X.call 185=callC FClD):PSound Tryz.prog 128 (specF (ι:={x:Tb // tbOK x}) (fun x=>[TbV x.1]) fun x=>retOf [.agg [I x.1.1,.ow 9 (nrows x.1.2.1),.ow 2 (prows x.1.2.2)]]):=by
 refine psound_spec hX mixed Tryz.func128 rfl fun ⟨⟨r,ns,ds⟩,ht⟩ w0 G=>⟨by show 1≤12;decide,rfl,?_⟩
 show AW ⟨Tryz.prog,X,12,w0,.pure G⟩ _ _ _
 have hc:Cx.OK ⟨Tryz.prog,X,12,w0,.pure G⟩:=⟨hX,mixed⟩
 have hl1:ns.length≤1000000:=ht.2.1
 have hl2:ds.length≤1000000:=ht.2.2
 simp only [TbV]
 have e1:=FClN_at (nds8_of ht) hl1
 have e2:=FClD_at hl2
 simp only at e1 e2
 have tkn:List.take ns.length (nrows ns)=nrows ns:=List.take_of_length_le (by simp)
 have tkd:List.take ds.length (prows ds)=prows ds:=List.take_of_length_le (by simp)
 have zS:=jj h1<|jj h2<|jj e1<|e2
 refine dM64 ?_
 repeat (intro K hK)
 clear zS
 refine ⟨by simp,?_⟩
 simp [leaves_iff,Tryz.f128,tkn,tkd]
 try exact dt
theorem s184 (X:AX) (hX:XOK Tryz.prog X) (hw:X.W wT):PSound Tryz.prog 184 FClN:=by
 unfold FClN
 refine psound_spec hX mixed Tryz.func184 rfl fun ⟨ns,h8,hl⟩ w0 G=>⟨by show 1≤8;decide,rfl,?_⟩
 show AW ⟨Tryz.prog,X,8,w0,.pure G⟩ _ _ _
 have hc:Cx.OK ⟨Tryz.prog,X,8,w0,.pure G⟩:=⟨hX,mixed⟩
 simp only at h8 hl ⊢
 have tkn:List.take ns.length (nrows ns)=nrows ns:=List.take_of_length_le (by simp)
 cases ns with
 | nil =>
  refine aw_cases_nil 0 9 (by simp [nrows,enterS]) ?_ fun p n=>?_
  ·refine dM64o ?_
   repeat (intro K hK)
   refine ⟨by simp,?_⟩
   simp [leaves_iff,Tryz.f184,nrows]
   try exact dt
  ·refine dM64o ?_
   repeat (intro K hK)
   refine ⟨by simp,?_⟩
   simp [leaves_iff,Tryz.f184,nrows]
   try exact dt
 | cons x ns =>
  have hl':ns.length+1≤1000000:=by simpa using hl
  obtain ⟨e,he⟩:∃ e,e=nrow x:=⟨_,rfl⟩
  obtain ⟨T,hT⟩:∃ T,T=nrows ns:=⟨_,rfl⟩
  have hc2:nrows (x::ns)=e::T:=by rw [he,hT];rfl
  have hTl:T.length=ns.length:=by rw [hT];simp
  have tk:List.take T.length T=T:=List.take_of_length_le (Nat.le_refl _)
  rw [hc2]
  clear he hT tkn
  have zS:=tk
  refine dM64 ?_
  repeat (intro K hK)
  clear zS
  refine ⟨by simp,?_⟩
  simp [leaves_iff,Tryz.f184,tk]
  try exact dt
theorem s185 (X:AX) (hX:XOK Tryz.prog X) (hw:X.W wT):PSound Tryz.prog 185 FClD:=by
 unfold FClD
 refine psound_spec hX mixed Tryz.func185 rfl fun ⟨ds,hl⟩ w0 G=>⟨by show 1≤8;decide,rfl,?_⟩
 show AW ⟨Tryz.prog,X,8,w0,.pure G⟩ _ _ _
 have hc:Cx.OK ⟨Tryz.prog,X,8,w0,.pure G⟩:=⟨hX,mixed⟩
 simp only at hl ⊢
 cases ds with
 | nil =>
  refine aw_cases_nil 0 2 (by simp [prows,enterS]) ?_ fun p n=>?_
  ·refine dM64o ?_
   repeat (intro K hK)
   refine ⟨by simp,?_⟩
   simp [leaves_iff,Tryz.f185,prows]
   try exact dt
  ·refine dM64o ?_
   repeat (intro K hK)
   refine ⟨by simp,?_⟩
   simp [leaves_iff,Tryz.f185,prows]
   try exact dt
 | cons x ds =>
  have hl':ds.length+1≤1000000:=by simpa using hl
  obtain ⟨e,he⟩:∃ e,e=[I x.1,I x.2]:=⟨_,rfl⟩
  obtain ⟨T,hT⟩:∃ T,T=prows ds:=⟨_,rfl⟩
  have hc2:prows (x::ds)=e::T:=by rw [he,hT];rfl
  have hTl:T.length=ds.length:=by rw [hT];simp
  have tk:List.take T.length T=T:=List.take_of_length_le (Nat.le_refl _)
  rw [hc2]
  clear he hT
  have zS:=tk
  refine dM64 ?_
  repeat (intro K hK)
  clear zS
  refine ⟨by simp,?_⟩
  simp [leaves_iff,Tryz.f185,tk]
  try exact dt
theorem all_zero {ws:List Nat} (h8:ws.length=8):ws=zs8↔∀ i,i<8→ws.getD i 0=0:=by
 constructor
 ·rintro rfl i _;exact zs8_getD i
 ·intro h
  refine List.ext_getElem (by simp [zs8,h8]) fun i hi hi2=>?_
  have:=h i (by omega)
  rw [List.getD_eq_getElem?_getD,List.getElem?_eq_getElem hi] at this
  simp only [Option.getD_some] at this
  rw [this]
  unfold zs8 at hi2 ⊢
  rw [List.getElem_replicate]
set_option maxHeartbeats 1000000 in
theorem s145 (X:AX) (hX:XOK Tryz.prog X) (hw:X.W wT):PSound Tryz.prog 145 (specF (ι:={x:Nd // x.2.length=8}) (fun x=>[.agg (nrow x.1)]) fun x=>retOf [B (decide (x.1.2=zs8))]):=by
 refine psound_spec hX mixed Tryz.func145 rfl fun ⟨⟨f,ws⟩,h8⟩ w0 G=>⟨by show 1≤13;decide,rfl,?_⟩
 show AW ⟨Tryz.prog,X,13,w0,.pure G⟩ _ _ _
 have hc:Cx.OK ⟨Tryz.prog,X,13,w0,.pure G⟩:=⟨hX,mixed⟩
 simp only at h8 ⊢
 have hz:=all_zero h8
 have hw8:=fun i (h:i<8)=>wcs_gi (l:=ws) (i:=i) (by omega)
 have hwE:=fun i (h:i<8)=>wcs_gE (l:=ws) (i:=i) (by omega)
 have hwl:(wcs ws).length=8:=by simp [h8]
 have hrow:nrow (f,ws)=I f::wcs ws:=rfl
 rw [hrow]
 have hcu:∀ m,AV.underL m (wcs ws):=fun m=>underL_iff.2 fun a ha=>by
  obtain ⟨w,_,rfl⟩:=List.mem_map.1 ha
  trivial
 obtain ⟨cs,hcs⟩:∃ cs,cs=wcs ws:=⟨_,rfl⟩
 rw [← hcs] at hw8 hwE hwl hcu ⊢
 have hct:List.take 8 cs=cs:=List.take_of_length_le (by omega)
 clear hcs hrow
 have zS:=jj hwl<|hct
 repeat' (first|(apply aw_seq_k;intro K hK)|(refine eM64 ?_)|(refine aw_cond (b:=_) (by exact rfl) (fun h=>?_) (fun h=>?_)<;>(try simp at h))|(refine eB ?_)|(refine hK _ ?_;clear hK)|(clear hK;refine hK _ ?_;clear hK)|(clear hK;clear hK;refine hK _ ?_;clear hK)|(clear hK;clear hK;clear hK;refine hK _ ?_;clear hK))
 all_goals clear zS
 refine aw_loopK (s0:=?lps1) (m0:=?lpm1) (ι:={i:Nat // i≤8∧∀ j,j<i→ws.getD j 0=0}) [6] (fun i=>[(7,I i.1)]) (fun _=>[]) (fun i=>8 - i.1) ⟨0,by omega,by omega⟩ ?lhs1 ?lhm1 ?_ ?_
 case lhs1=>first|(simp [keepS];done)|(simp [keepS];rfl)
 case lhm1=>first|rfl|(simp;done)|(simp;rfl)
 ·exact le_of2 (by simp) (by simp [AVle,AV.under,AV.underL,hcu]<;>omega) (by simp [AOle,AO.under,AV.underL,AV.under,hcu]<;>omega)
 ·rintro ⟨i,hi,hinv⟩
  simp only
  rcases Decidable.em (i<8) with hi8|hi8
  ·have hiI:(i:Int)<8:=by omega
   have hw8:=hw8 i hi8
   have hwE:=hwE i hi8
   obtain ⟨w,hwd⟩:∃ w,w=ws.getD i 0:=⟨_,rfl⟩
   rw [← hwd] at hw8 hwE
   simp only [U] at hw8 hwE
   rcases Decidable.em (w=0) with h0|h0
   ·have h0I:(w:Int)=0:=by omega
    rw [h0I] at hw8 hwE
    have zS:=jj hiI<|jj hi8<|jj hw8<|jj hwE<|hwl
    repeat' (first|(apply aw_seq_k;intro K hK)|(refine eM64 ?_)|(refine aw_cond (b:=_) (by exact rfl) (fun h=>?_) (fun h=>?_)<;>(try simp at h))|(refine eB ?_)|(refine hK _ ?_;clear hK)|(clear hK;refine hK _ ?_;clear hK)|(clear hK;clear hK;refine hK _ ?_;clear hK)|(clear hK;clear hK;clear hK;refine hK _ ?_;clear hK))
    all_goals clear zS
    refine ⟨i+1,?_,⟨by omega,fun j hj=>?_⟩,by omega⟩
    ·exact le_of2 (by simp) (by simp [AVle,AV.under,AV.underL,hcu]<;>omega) (by simp [AOle,AO.under,AV.underL,AV.under,hcu]<;>omega)
    ·rcases Nat.lt_succ_iff_lt_or_eq.1 hj with h3|rfl
     ·have:=hinv j h3;simpa [List.getD_eq_getElem?_getD] using this
     ·rw [hwd] at h0;simpa [List.getD_eq_getElem?_getD] using h0
   ·have h0I:¬ (w:Int)=0:=by omega
    have e:decide (ws=zs8)=false:=decide_eq_false fun h=>h0 (by rw [hwd];exact hz.1 h i hi8)
    have zS:=jj hiI<|jj hi8<|jj hw8<|jj hwE<|jj hwl<|jj h0<|h0I
    repeat' (first|(apply aw_seq_k;intro K hK)|(refine eM64 ?_)|(refine aw_cond (b:=_) (by exact rfl) (fun h=>?_) (fun h=>?_)<;>(try simp at h))|(refine eB ?_)|(refine hK _ ?_;clear hK)|(clear hK;refine hK _ ?_;clear hK)|(clear hK;clear hK;refine hK _ ?_;clear hK)|(clear hK;clear hK;clear hK;refine hK _ ?_;clear hK))
    all_goals clear zS
    refine ⟨by simp,?_⟩
    simp [leaves_iff,Tryz.f145,e]
    try exact dt
  ·obtain rfl:i=8:=by omega
   have e:decide (ws=zs8)=true:=decide_eq_true (hz.2 hinv)
   repeat' (first|(apply aw_seq_k;intro K hK)|(refine eM64o ?_)|(refine aw_cond (b:=_) (by exact rfl) (fun h=>?_) (fun h=>?_)<;>(try simp at h))|(refine eB ?_)|(refine hK _ ?_;clear hK)|(clear hK;refine hK _ ?_;clear hK)|(clear hK;clear hK;refine hK _ ?_;clear hK)|(clear hK;clear hK;clear hK;refine hK _ ?_;clear hK))
   refine ⟨by simp,?_⟩
   simp [leaves_iff,Tryz.f145,e]
   try exact dt
noncomputable def newT (r:Int):Tb×Int:=if 0≤r∧r≤4294967295 then ((r,[(r,zs8)],[]),0) else ((0,[],[]),2)
def TbO (t:Tb):AV:=.agg [I t.1,.ow 9 (nrows t.2.1),.ow 2 (prows t.2.2)]
theorem s49 (X:AX) (hX:XOK Tryz.prog X) (hw:X.W wT) (hfr:∀ x M n,X.call 126 [I x] M n=some (B (decide (0≤x∧x≤4294967295)),[])):PSound Tryz.prog 49 (specF (ι:=Int) (fun x=>[I x]) fun x=>retOf [TbO (newT x).1,I (newT x).2]):=by
 refine psound_spec hX mixed Tryz.func49 rfl fun r w0 G=>⟨by show 1≤13;decide,rfl,?_⟩
 show AW ⟨Tryz.prog,X,13,w0,.pure G⟩ _ _ _
 have hc:Cx.OK ⟨Tryz.prog,X,13,w0,.pure G⟩:=⟨hX,mixed⟩
 have hfr':=hfr r
 unfold newT TbO
 rcases Decidable.em (0≤r∧r≤4294967295) with h1|h1
 ·rw [decide_eq_true h1] at hfr'
  rw [if_pos h1]
  have zS:=hfr'
  refine dM64 ?_
  repeat (intro K hK)
  clear zS
  refine ⟨by simp,?_⟩
  simp [leaves_iff,Tryz.f49,nrows,nrow,wcs,prows,zs8,U]
  try exact dt
 ·rw [decide_eq_false h1] at hfr'
  rw [if_neg h1]
  have zS:=hfr'
  refine dM64 ?_
  repeat (intro K hK)
  clear zS
  refine ⟨by simp,?_⟩
  simp [leaves_iff,Tryz.f49,nrows,nrow,wcs,prows,zs8,U]
  try exact dt
theorem s50 (X:AX) (hX:XOK Tryz.prog X) (hw:X.W wT):PSound Tryz.prog 50 (specF (ι:=Int) (fun x=>[I x]) fun x=>retOf [TbO (newT x).1,I (newT x).2]):=by
 refine psound_spec hX mixed Tryz.func50 rfl fun r w0 G=>⟨by show 1≤16;decide,rfl,?_⟩
 show AW ⟨Tryz.prog,X,16,w0,.pure G⟩ _ _ _
 have hc:Cx.OK ⟨Tryz.prog,X,16,w0,.pure G⟩:=⟨hX,mixed⟩
 unfold newT TbO
 rcases Decidable.em (r<0) with h1|h1
 ·rw [if_neg (by omega)]
  have zS:=h1
  refine dM64 ?_
  repeat (intro K hK)
  clear zS
  refine ⟨by simp,?_⟩
  simp [leaves_iff,Tryz.f50,nrows,nrow,wcs,prows,zs8,U]
  try exact dt
 ·rcases Decidable.em (4294967295<r) with h2|h2
  ·rw [if_neg (by omega)]
   have zS:=jj h1<|h2
   refine dM64 ?_
   repeat (intro K hK)
   clear zS
   refine ⟨by simp,?_⟩
   simp [leaves_iff,Tryz.f50,nrows,nrow,wcs,prows,zs8,U]
   try exact dt
  ·rw [if_pos (by omega)]
   have zS:=jj h1<|h2
   refine dM64 ?_
   repeat (intro K hK)
   clear zS
   refine ⟨by simp,?_⟩
   simp [leaves_iff,Tryz.f50,nrows,nrow,wcs,prows,zs8,U]
   try exact dt
end Go.AM
