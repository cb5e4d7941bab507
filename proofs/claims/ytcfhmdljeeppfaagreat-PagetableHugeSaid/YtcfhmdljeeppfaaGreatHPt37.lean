/- A part of the proof; no condition. -/
import Derived.Test.YtcfhmdljeeppfaaGreatHPt31
set_option linter.all false
namespace Go.AM
open Go Go.Proofs
def tAV (t:Tb):AV:=.agg [I t.1,.sl 0 1 9 0 t.2.1.length,.sl 1 1 2 0 t.2.2.length]
def tMs (t:Tb):List AO:=[.vec 1 9 false (nrows t.2.1),.vec 1 2 false (prows t.2.2)]
theorem nrows_take (l:List Nd) (n:Nat):(nrows l).take n=nrows (l.take n):=by simp [nrows,List.map_take]
theorem nrows_snoc (l:List Nd) (x:Nd):nrows (l++[x])=nrows l++[nrow x]:=by simp [nrows]
theorem take_succ_gn {l:List Nd} {n:Nat} (h:n<l.length):l.take (n+1)=l.take n++[gn l n]:=by
 rw [gn_eq h,List.take_add_one,List.getElem?_eq_getElem h];rfl
theorem tAV_inj {t t':Tb} (h:tAV t=tAV t') (h2:tMs t=tMs t'):t=t':=by
 obtain ⟨r,ns,ds⟩:=t
 obtain ⟨r',ns',ds'⟩:=t'
 simp only [tAV,tMs,AV.agg.injEq,List.cons.injEq,I,AV.v.injEq,Value.int.injEq,true_and,AO.vec.injEq,nrows_inj,prows_inj,and_true] at h h2
 obtain ⟨rfl,_⟩:=h
 obtain ⟨rfl,rfl⟩:=h2
 rfl
noncomputable def insS:List AV→List AO→Option (AV×List AO):=specG (ι:={x:Tb×Int // tbOK x.1}) (fun x=>[tAV x.1.1,I x.1.2]) (fun x=>tMs x.1.1) (fun x=>retOf [.agg [I x.1.1.1,.sl 2 1 9 0 (x.1.1.2.1.length+1),.sl 1 1 2 0 x.1.1.2.2.length]]) fun x=>tMs x.1.1++[.vec 1 9 false (nrows (insK x.1.1.2.1 (x.1.2,zs8)))]
set_option maxHeartbeats 4000000 in
theorem s148 (X:AX) (hX:XOK Tryz.prog X) (hw:X.W wT):GSound Tryz.prog 148 insS:=by
 unfold insS
 refine gsound_spec Tryz.func148 rfl X fun ⟨⟨⟨r,ns,ds⟩,f⟩,ht⟩ w0 L E=>⟨by show 2≤53;decide,?_⟩
 have hl1:ns.length≤1000000:=ht.2.1
 have hl2:ds.length≤1000000:=ht.2.2
 simp only [tAV,tMs]
 show AW ⟨Tryz.prog,X,53,w0,⟨L,E,2⟩⟩ _ _ _
 have hc:Cx.OK ⟨Tryz.prog,X,53,w0,⟨L,E,2⟩⟩:=⟨hX,mixed⟩
 have tkn:List.take ns.length (nrows ns)=nrows ns:=List.take_of_length_le (by simp)
 have zS:=tkn
 repeat' (first|(apply aw_seq_k;intro K hK)|(refine eM64 ?_)|(refine aw_cond (b:=_) (by exact rfl) (fun h=>?_) (fun h=>?_)<;>(try simp at h))|(refine eB ?_)|(refine hK _ ?_;clear hK)|(clear hK;refine hK _ ?_;clear hK)|(clear hK;clear hK;refine hK _ ?_;clear hK)|(clear hK;clear hK;clear hK;refine hK _ ?_;clear hK))
 all_goals clear zS
 refine aw_weaken (le_nilcell (b:=114) (i:=1) (sz:=9) rfl rfl) ?_
 refine aw_loopK (s0:=?lps1) (m0:=?lpm1) (ι:={i:Nat // i≤ns.length}) [1,4,5,15,16] (fun s=>[(17,I s.1),(6,B (insD ns f s.1))]) (fun s=>[(114,.box [I r,.sl 226 1 9 0 (insA ns (f,zs8) s.1).length,.sl 1 1 2 0 ds.length]),(226,.vec 1 9 false (nrows (insA ns (f,zs8) s.1)))]) (fun s=>ns.length - s.1) ⟨0,by simp⟩ ?lhs1 ?lhm1 ?_ ?_
 case lhs1=>first|(simp [keepS];done)|(simp [keepS];rfl)
 case lhm1=>first|rfl|(simp;done)|(simp;rfl)
 ·simp only [insD_0,insA_0]
  exact le_of2 (by simp) (by simp [AVle,AV.under,AV.underL,nrows]<;>omega) (by simp [AOle,AO.under,AV.underL,AV.under,nrows]<;>omega)
 ·rintro ⟨i,hi⟩
  simp only at hi ⊢
  have hal:=insA_len (l:=ns) (n:=(f,zs8)) (i:=i)
  have hti:=@insA_t _ ns (f,zs8) i
  have hyi:=@insA_y _ ns (f,zs8) i
  have hni:=@insA_n _ ns (f,zs8) i
  have hdt:=@insD_t _ ns f i
  have hdy:=@insD_y _ ns f i
  have hdn:=@insD_n _ ns f i
  have hend:=@insA_end _ ns (f,zs8)
  obtain ⟨acc,hacc⟩:∃ acc,acc=insA ns (f,zs8) i:=⟨_,rfl⟩
  obtain ⟨dn,hdn0⟩:∃ dn,dn=insD ns f i:=⟨_,rfl⟩
  rw [← hacc] at hal hti hyi hni ⊢
  rw [← hdn0] at hdt hdn ⊢
  have hdn1:insD ns (f,zs8).1 i=dn:=hdn0.symm
  rw [hdn1] at hti hyi hni
  have htk:List.take acc.length (nrows acc)=nrows acc:=List.take_of_length_le (by simp)
  have ha1:∀ x:Nd,nrows acc++[nrow x]=nrows (acc++[x]):=fun x=>(nrows_snoc acc x).symm
  have ha1z:nrows acc++[[I f,.v (.int .u64 0),.v (.int .u64 0),.v (.int .u64 0),.v (.int .u64 0),.v (.int .u64 0),.v (.int .u64 0),.v (.int .u64 0),.v (.int .u64 0)]]=nrows (acc++[(f,zs8)]):=ha1 (f,zs8)
  have ha2:List.take (acc.length+1) (nrows (acc++[(f,zs8)]))=nrows (acc++[(f,zs8)]):=List.take_of_length_le (by simp)
  rcases Decidable.em (i<ns.length) with hil|hil
  ·have hilI:(i:Int)<(ns.length:Int):=by omega
   have hti:=hti hil
   have hyi:=hyi hil
   have hni:=hni hil
   have hdt:=hdt hil
   have hdy:=hdy hil
   have hdn:=hdn hil
   rw [← gn_eq hil] at hti hyi hni hdy hdn
   have hg:=nrows_gi hil
   have hgE:=nrows_gE hil
   have hlen:=(ht.1 _ (gn_mem hil)).1
   obtain ⟨⟨g,ws⟩,hm⟩:∃ m,m=gn ns i:=⟨_,rfl⟩
   rw [← hm] at hg hgE hlen hti hyi hni hdy hdn
   simp only at hg hgE hlen hti hyi hni hdy hdn
   have hwl:(wcs ws).length=8:=by simpa using hlen
   have ha1g:nrows acc++[I g::wcs ws]=nrows (acc++[(g,ws)]):=ha1 (g,ws)
   have ha2g:nrows (acc++[(f,zs8)])++[I g::wcs ws]=nrows (acc++[(f,zs8)]++[(g,ws)]):=(nrows_snoc (acc++[(f,zs8)]) (g,ws)).symm
   have hcl:∀ x,x∈wcs ws→AV.isClosed x=true:=fun a ha=>by
    obtain ⟨w,_,rfl⟩:=List.mem_map.1 ha
    rfl
   have hcu:∀ m,AV.underL m (wcs ws):=fun m=>underL_iff.2 fun a ha=>by
    obtain ⟨w,_,rfl⟩:=List.mem_map.1 ha
    trivial
   obtain ⟨cs,hcs⟩:∃ cs,cs=wcs ws:=⟨_,rfl⟩
   rw [← hcs] at hg hgE hwl ha1g ha2g hcl hcu
   have hct:List.take 8 cs=cs:=List.take_of_length_le (by omega)
   simp only [AV.isClosed] at hcl
   clear hcs hm
   cases dn with
   | false =>
    rcases Decidable.em (f<g) with h1|h1
    ·have e1:=hyi rfl h1
     have e2:=hdy h1
     have zS:=jj hilI<|jj hg<|jj hgE<|jj hwl<|jj hct<|jj htk<|jj hal<|jj h1<|jj ha2<|jj ha2g<|jj ha1z<|hcl
     repeat' (first|(apply aw_seq_k;intro K hK)|(refine eM64 ?_)|(refine aw_cond (b:=_) (by exact rfl) (fun h=>?_) (fun h=>?_)<;>(try simp at h))|(refine eB ?_)|(refine hK _ ?_;clear hK)|(clear hK;refine hK _ ?_;clear hK)|(clear hK;clear hK;refine hK _ ?_;clear hK)|(clear hK;clear hK;clear hK;refine hK _ ?_;clear hK))
     all_goals clear zS
     refine ⟨i+1,?_,by omega,by omega⟩
     simp only [e1,e2,List.length_append,List.length_singleton]
     refine le_turn (s1:=?tus2) (m1:=?tum2) [] [1,4,5,6,15,16,17] [0,1,2,18,114,226] ?tua2 ?tub2 ?tuc2 ?tud2 ?tue2 ?tuf2 ?tug2
     case tua2=>first|(simp [keepS];done)|(simp [keepS];rfl)
     case tub2=>first|(simp;done)|(simp;rfl)
     case tuc2=>simp
     case tud2=>simp
     case tue2=>simp
     case tuf2=>simp
     case tug2 =>
      simp [swp,vr]
      exact dle
    ·have e1:=hni rfl h1
     have e2:=hdn rfl h1
     have zS:=jj hilI<|jj hg<|jj hgE<|jj hwl<|jj hct<|jj htk<|jj hal<|jj ha2<|jj ha2g<|jj ha1g<|jj ha1z<|jj hcl<|h1
     repeat' (first|(apply aw_seq_k;intro K hK)|(refine eM64 ?_)|(refine aw_cond (b:=_) (by exact rfl) (fun h=>?_) (fun h=>?_)<;>(try simp at h))|(refine eB ?_)|(refine hK _ ?_;clear hK)|(clear hK;refine hK _ ?_;clear hK)|(clear hK;clear hK;refine hK _ ?_;clear hK)|(clear hK;clear hK;clear hK;refine hK _ ?_;clear hK))
     all_goals clear zS
     refine ⟨i+1,?_,by omega,by omega⟩
     simp only [e1,e2,List.length_append,List.length_singleton]
     refine le_turn (s1:=?tus3) (m1:=?tum3) [] [1,4,5,6,15,16,17] [0,1,2,18,114,226] ?tua3 ?tub3 ?tuc3 ?tud3 ?tue3 ?tuf3 ?tug3
     case tua3=>first|(simp [keepS];done)|(simp [keepS];rfl)
     case tub3=>first|(simp;done)|(simp;rfl)
     case tuc3=>simp
     case tud3=>simp
     case tue3=>simp
     case tuf3=>simp
     case tug3 =>
      simp [swp,vr]
      exact dle
   | true =>
    have e1:=hti rfl
    have e2:=hdt rfl
    have zS:=jj hilI<|jj hg<|jj hgE<|jj hwl<|jj hct<|jj htk<|jj hal<|jj ha2<|jj ha2g<|jj ha1g<|jj ha1z<|hcl
    repeat' (first|(apply aw_seq_k;intro K hK)|(refine eM64 ?_)|(refine aw_cond (b:=_) (by exact rfl) (fun h=>?_) (fun h=>?_)<;>(try simp at h))|(refine eB ?_)|(refine hK _ ?_;clear hK)|(clear hK;refine hK _ ?_;clear hK)|(clear hK;clear hK;refine hK _ ?_;clear hK)|(clear hK;clear hK;clear hK;refine hK _ ?_;clear hK))
    all_goals clear zS
    refine ⟨i+1,?_,by omega,by omega⟩
    simp only [e1,e2,List.length_append,List.length_singleton]
    refine le_turn (s1:=?tus4) (m1:=?tum4) [] [1,4,5,6,15,16,17] [0,1,2,18,114,226] ?tua4 ?tub4 ?tuc4 ?tud4 ?tue4 ?tuf4 ?tug4
    case tua4=>first|(simp [keepS];done)|(simp [keepS];rfl)
    case tub4=>first|(simp;done)|(simp;rfl)
    case tuc4=>simp
    case tud4=>simp
    case tue4=>simp
    case tuf4=>simp
    case tug4 =>
     simp [swp,vr]
     exact dle
  ·obtain rfl:i=ns.length:=by omega
   rw [← hacc,show insD ns (f,zs8).1 ns.length=dn from hdn1] at hend
   have hil2:=@insK_len _ (f,zs8) ns
   rw [hend] at hil2
   cases dn with
   | false =>
    simp only [Bool.false_eq_true,if_false,List.length_append,List.length_singleton] at hil2 hend
    have hal2:acc.length=ns.length:=by omega
    have zS:=jj htk<|jj hal<|jj ha2<|ha1z
    repeat' (first|(apply aw_seq_k;intro K hK)|(refine eM64 ?_)|(refine aw_cond (b:=_) (by exact rfl) (fun h=>?_) (fun h=>?_)<;>(try simp at h))|(refine eB ?_)|(refine hK _ ?_;clear hK)|(clear hK;refine hK _ ?_;clear hK)|(clear hK;clear hK;refine hK _ ?_;clear hK)|(clear hK;clear hK;clear hK;refine hK _ ?_;clear hK))
    all_goals clear zS
    refine ⟨by simp,_,by simp [aResults,aResult,Tryz.f148];rfl,?_⟩
    simp only [idx,hend,hal2,List.cons_append,List.nil_append]
    refine le_turn (s1:=?tus5) (m1:=?tum5) [(226,2)] [0] [0,1,226] ?tua5 ?tub5 ?tuc5 ?tud5 ?tue5 ?tuf5 ?tug5
    case tua5=>first|(simp [keepS];done)|(simp [keepS];rfl)
    case tub5=>first|(simp;done)|(simp;rfl)
    case tuc5=>simp
    case tud5=>simp
    case tue5=>simp
    case tuf5=>simp
    case tug5 =>
     simp [swp,vr]
     exact dle
   | true =>
    simp only [if_true] at hil2 hend
    have zS:=jj htk<|jj hal<|jj ha2<|ha1z
    repeat' (first|(apply aw_seq_k;intro K hK)|(refine eM64 ?_)|(refine aw_cond (b:=_) (by exact rfl) (fun h=>?_) (fun h=>?_)<;>(try simp at h))|(refine eB ?_)|(refine hK _ ?_;clear hK)|(clear hK;refine hK _ ?_;clear hK)|(clear hK;clear hK;refine hK _ ?_;clear hK)|(clear hK;clear hK;clear hK;refine hK _ ?_;clear hK))
    all_goals clear zS
    refine ⟨by simp,_,by simp [aResults,aResult,Tryz.f148];rfl,?_⟩
    simp only [idx,hend,hil2,List.cons_append,List.nil_append]
    refine le_turn (s1:=?tus6) (m1:=?tum6) [(226,2)] [0] [0,1,226] ?tua6 ?tub6 ?tuc6 ?tud6 ?tue6 ?tuf6 ?tug6
    case tua6=>first|(simp [keepS];done)|(simp [keepS];rfl)
    case tub6=>first|(simp;done)|(simp;rfl)
    case tuc6=>simp
    case tud6=>simp
    case tue6=>simp
    case tuf6=>simp
    case tug6 =>
     simp [swp,vr]
     exact dle
end Go.AM
set_option maxHeartbeats 4000000
namespace Go.AM
open Go Go.Proofs
theorem prows_snoc (l:List Dp) (x:Dp):prows (l++[x])=prows l++[[I x.1,I x.2]]:=by simp [prows]
theorem take_succ_gp {l:List Dp} {n:Nat} (h:n<l.length):l.take (n+1)=l.take n++[gp l n]:=by
 rw [gp_eq h,List.take_add_one,List.getElem?_eq_getElem h];rfl
noncomputable def keepS2:List AV→List AO→Option (AV×List AO):=specG (ι:={x:Tb×Int×Int // tbOK x.1}) (fun x=>[tAV x.1.1,I x.1.2.1,I x.1.2.2]) (fun x=>tMs x.1.1) (fun x=>retOf [.agg [I x.1.1.1,.sl 0 1 9 0 x.1.1.2.1.length,.sl 2 1 2 0 (x.1.1.2.2.length+1)]]) fun x=>tMs x.1.1++[.vec 1 2 false (prows (insK x.1.1.2.2 (x.1.2.1,x.1.2.2)))]
theorem s136 (X:AX) (hX:XOK Tryz.prog X) (hw:X.W wT):GSound Tryz.prog 136 keepS2:=by
 unfold keepS2
 refine gsound_spec Tryz.func136 rfl X fun ⟨⟨⟨r,ns,ds⟩,q,f⟩,ht⟩ w0 L E=>⟨by show 3≤57;decide,?_⟩
 have hl1:ns.length≤1000000:=ht.2.1
 have hl2:ds.length≤1000000:=ht.2.2
 simp only [tAV,tMs]
 show AW ⟨Tryz.prog,X,57,w0,⟨L,E,2⟩⟩ _ _ _
 have hc:Cx.OK ⟨Tryz.prog,X,57,w0,⟨L,E,2⟩⟩:=⟨hX,mixed⟩
 repeat' (first|(apply aw_seq_k;intro K hK)|(refine eM64o ?_)|(refine aw_cond (b:=_) (by exact rfl) (fun h=>?_) (fun h=>?_)<;>(try simp at h))|(refine eB ?_)|(refine hK _ ?_;clear hK)|(clear hK;refine hK _ ?_;clear hK)|(clear hK;clear hK;refine hK _ ?_;clear hK)|(clear hK;clear hK;clear hK;refine hK _ ?_;clear hK))
 refine aw_weaken (le_nilcell (b:=114) (i:=2) (sz:=2) rfl rfl) ?_
 refine aw_loopK (s0:=?lps1) (m0:=?lpm1) (ι:={i:Nat // i≤ds.length}) [1,2,6,7,17,18] (fun s=>[(19,I s.1),(8,B (insD ds q s.1))]) (fun s=>[(114,.box [I r,.sl 0 1 9 0 ns.length,.sl 226 1 2 0 (insA ds (q,f) s.1).length]),(226,.vec 1 2 false (prows (insA ds (q,f) s.1)))]) (fun s=>ds.length - s.1) ⟨0,by simp⟩ ?lhs1 ?lhm1 ?_ ?_
 case lhs1=>first|(simp [keepS];done)|(simp [keepS];rfl)
 case lhm1=>first|rfl|(simp;done)|(simp;rfl)
 ·simp only [insD_0,insA_0]
  exact le_of2 (by simp) (by simp [AVle,AV.under,AV.underL,prows]<;>omega) (by simp [AOle,AO.under,AV.underL,AV.under,prows]<;>omega)
 ·rintro ⟨i,hi⟩
  simp only at hi ⊢
  have hal:=insA_len (l:=ds) (n:=(q,f)) (i:=i)
  have hti:=@insA_t _ ds (q,f) i
  have hyi:=@insA_y _ ds (q,f) i
  have hni:=@insA_n _ ds (q,f) i
  have hdt:=@insD_t _ ds q i
  have hdy:=@insD_y _ ds q i
  have hdn:=@insD_n _ ds q i
  have hend:=@insA_end _ ds (q,f)
  obtain ⟨acc,hacc⟩:∃ acc,acc=insA ds (q,f) i:=⟨_,rfl⟩
  obtain ⟨dn,hdn0⟩:∃ dn,dn=insD ds q i:=⟨_,rfl⟩
  rw [← hacc] at hal hti hyi hni ⊢
  rw [← hdn0] at hdt hdn ⊢
  have hdn1:insD ds (q,f).1 i=dn:=hdn0.symm
  rw [hdn1] at hti hyi hni
  have htk:List.take acc.length (prows acc)=prows acc:=List.take_of_length_le (by simp)
  have ha1:∀ x:Dp,prows acc++[[I x.1,I x.2]]=prows (acc++[x]):=fun x=>(prows_snoc acc x).symm
  have ha1z:prows acc++[[I q,I f]]=prows (acc++[(q,f)]):=ha1 (q,f)
  have ha2:List.take (acc.length+1) (prows (acc++[(q,f)]))=prows (acc++[(q,f)]):=List.take_of_length_le (by simp)
  rcases Decidable.em (i<ds.length) with hil|hil
  ·have hilI:(i:Int)<(ds.length:Int):=by omega
   have hti:=hti hil
   have hyi:=hyi hil
   have hni:=hni hil
   have hdt:=hdt hil
   have hdy:=hdy hil
   have hdn:=hdn hil
   rw [← gp_eq hil] at hti hyi hni hdy hdn
   have hg:=prows_gi hil
   have hgE:=prows_gE hil
   obtain ⟨⟨g,fr⟩,hm⟩:∃ m,m=gp ds i:=⟨_,rfl⟩
   rw [← hm] at hg hgE hti hyi hni hdy hdn
   simp only at hg hgE hti hyi hni hdy hdn
   have ha1g:prows acc++[[I g,I fr]]=prows (acc++[(g,fr)]):=ha1 (g,fr)
   have ha2g:prows (acc++[(q,f)])++[[I g,I fr]]=prows (acc++[(q,f)]++[(g,fr)]):=(prows_snoc (acc++[(q,f)]) (g,fr)).symm
   clear hm
   cases dn with
   | false =>
    rcases Decidable.em (q<g) with h1|h1
    ·have e1:=hyi rfl h1
     have e2:=hdy h1
     have zS:=jj hilI<|jj hg<|jj hgE<|jj htk<|jj hal<|jj ha2<|jj ha2g<|jj ha1g<|jj ha1z<|h1
     repeat' (first|(apply aw_seq_k;intro K hK)|(refine eM64 ?_)|(refine aw_cond (b:=_) (by exact rfl) (fun h=>?_) (fun h=>?_)<;>(try simp at h))|(refine eB ?_)|(refine hK _ ?_;clear hK)|(clear hK;refine hK _ ?_;clear hK)|(clear hK;clear hK;refine hK _ ?_;clear hK)|(clear hK;clear hK;clear hK;refine hK _ ?_;clear hK))
     all_goals clear zS
     refine ⟨i+1,?_,by omega,by omega⟩
     simp only [e1,e2,List.length_append,List.length_singleton]
     refine le_turn (s1:=?tus2) (m1:=?tum2) [] [1,2,6,7,8,17,18,19] [0,1,2,18,114,226] ?tua2 ?tub2 ?tuc2 ?tud2 ?tue2 ?tuf2 ?tug2
     case tua2=>first|(simp [keepS];done)|(simp [keepS];rfl)
     case tub2=>first|(simp;done)|(simp;rfl)
     case tuc2=>simp
     case tud2=>simp
     case tue2=>simp
     case tuf2=>simp
     case tug2 =>
      simp [swp,vr]
      exact dle
    ·have e1:=hni rfl h1
     have e2:=hdn rfl h1
     have zS:=jj hilI<|jj hg<|jj hgE<|jj htk<|jj hal<|jj ha2<|jj ha2g<|jj ha1g<|jj ha1z<|h1
     repeat' (first|(apply aw_seq_k;intro K hK)|(refine eM64 ?_)|(refine aw_cond (b:=_) (by exact rfl) (fun h=>?_) (fun h=>?_)<;>(try simp at h))|(refine eB ?_)|(refine hK _ ?_;clear hK)|(clear hK;refine hK _ ?_;clear hK)|(clear hK;clear hK;refine hK _ ?_;clear hK)|(clear hK;clear hK;clear hK;refine hK _ ?_;clear hK))
     all_goals clear zS
     refine ⟨i+1,?_,by omega,by omega⟩
     simp only [e1,e2,List.length_append,List.length_singleton]
     refine le_turn (s1:=?tus3) (m1:=?tum3) [] [1,2,6,7,8,17,18,19] [0,1,2,18,114,226] ?tua3 ?tub3 ?tuc3 ?tud3 ?tue3 ?tuf3 ?tug3
     case tua3=>first|(simp [keepS];done)|(simp [keepS];rfl)
     case tub3=>first|(simp;done)|(simp;rfl)
     case tuc3=>simp
     case tud3=>simp
     case tue3=>simp
     case tuf3=>simp
     case tug3 =>
      simp [swp,vr]
      exact dle
   | true =>
    have e1:=hti rfl
    have e2:=hdt rfl
    have zS:=jj hilI<|jj hg<|jj hgE<|jj htk<|jj hal<|jj ha2<|jj ha2g<|jj ha1g<|ha1z
    repeat' (first|(apply aw_seq_k;intro K hK)|(refine eM64 ?_)|(refine aw_cond (b:=_) (by exact rfl) (fun h=>?_) (fun h=>?_)<;>(try simp at h))|(refine eB ?_)|(refine hK _ ?_;clear hK)|(clear hK;refine hK _ ?_;clear hK)|(clear hK;clear hK;refine hK _ ?_;clear hK)|(clear hK;clear hK;clear hK;refine hK _ ?_;clear hK))
    all_goals clear zS
    refine ⟨i+1,?_,by omega,by omega⟩
    simp only [e1,e2,List.length_append,List.length_singleton]
    refine le_turn (s1:=?tus4) (m1:=?tum4) [] [1,2,6,7,8,17,18,19] [0,1,2,18,114,226] ?tua4 ?tub4 ?tuc4 ?tud4 ?tue4 ?tuf4 ?tug4
    case tua4=>first|(simp [keepS];done)|(simp [keepS];rfl)
    case tub4=>first|(simp;done)|(simp;rfl)
    case tuc4=>simp
    case tud4=>simp
    case tue4=>simp
    case tuf4=>simp
    case tug4 =>
     simp [swp,vr]
     exact dle
  ·obtain rfl:i=ds.length:=by omega
   rw [← hacc,show insD ds (q,f).1 ds.length=dn from hdn1] at hend
   have hil2:=@insK_len _ (q,f) ds
   rw [hend] at hil2
   cases dn with
   | false =>
    simp only [Bool.false_eq_true,if_false,List.length_append,List.length_singleton] at hil2 hend
    have hal2:acc.length=ds.length:=by omega
    have zS:=jj htk<|jj hal<|jj ha2<|ha1z
    repeat' (first|(apply aw_seq_k;intro K hK)|(refine eM64 ?_)|(refine aw_cond (b:=_) (by exact rfl) (fun h=>?_) (fun h=>?_)<;>(try simp at h))|(refine eB ?_)|(refine hK _ ?_;clear hK)|(clear hK;refine hK _ ?_;clear hK)|(clear hK;clear hK;refine hK _ ?_;clear hK)|(clear hK;clear hK;clear hK;refine hK _ ?_;clear hK))
    all_goals clear zS
    refine ⟨by simp,_,by simp [aResults,aResult,Tryz.f136];rfl,?_⟩
    simp only [idx,hend,hal2,List.cons_append,List.nil_append]
    refine le_turn (s1:=?tus5) (m1:=?tum5) [(226,2)] [0] [0,1,226] ?tua5 ?tub5 ?tuc5 ?tud5 ?tue5 ?tuf5 ?tug5
    case tua5=>first|(simp [keepS];done)|(simp [keepS];rfl)
    case tub5=>first|(simp;done)|(simp;rfl)
    case tuc5=>simp
    case tud5=>simp
    case tue5=>simp
    case tuf5=>simp
    case tug5 =>
     simp [swp,vr]
     exact dle
   | true =>
    simp only [if_true] at hil2 hend
    have zS:=jj htk<|jj hal<|jj ha2<|ha1z
    repeat' (first|(apply aw_seq_k;intro K hK)|(refine eM64 ?_)|(refine aw_cond (b:=_) (by exact rfl) (fun h=>?_) (fun h=>?_)<;>(try simp at h))|(refine eB ?_)|(refine hK _ ?_;clear hK)|(clear hK;refine hK _ ?_;clear hK)|(clear hK;clear hK;refine hK _ ?_;clear hK)|(clear hK;clear hK;clear hK;refine hK _ ?_;clear hK))
    all_goals clear zS
    refine ⟨by simp,_,by simp [aResults,aResult,Tryz.f136];rfl,?_⟩
    simp only [idx,hend,hil2,List.cons_append,List.nil_append]
    refine le_turn (s1:=?tus6) (m1:=?tum6) [(226,2)] [0] [0,1,226] ?tua6 ?tub6 ?tuc6 ?tud6 ?tue6 ?tuf6 ?tug6
    case tua6=>first|(simp [keepS];done)|(simp [keepS];rfl)
    case tub6=>first|(simp;done)|(simp;rfl)
    case tuc6=>simp
    case tud6=>simp
    case tue6=>simp
    case tuf6=>simp
    case tug6 =>
     simp [swp,vr]
     exact dle
noncomputable def relS:List AV→List AO→Option (AV×List AO):=specG (ι:={x:Tb×Int // tbOK x.1}) (fun x=>[tAV x.1.1,I x.1.2]) (fun x=>tMs x.1.1) (fun x=>retOf [.agg [I x.1.1.1,.sl 0 1 9 0 x.1.1.2.1.length,.sl 2 1 2 0 (delK x.1.1.2.2 x.1.2).length],I (lastK (-1) x.1.2 x.1.1.2.2)]) fun x=>tMs x.1.1++[.vec 1 2 false (prows (delK x.1.1.2.2 x.1.2))]
theorem delK_len {β:Type} {l:List (Int×β)} {k:Int}:(delK l k).length≤l.length:=List.length_filter_le _ _
theorem s144 (X:AX) (hX:XOK Tryz.prog X) (hw:X.W wT):GSound Tryz.prog 144 relS:=by
 unfold relS
 refine gsound_spec Tryz.func144 rfl X fun ⟨⟨⟨r,ns,ds⟩,q⟩,ht⟩ w0 L E=>⟨by show 2≤37;decide,?_⟩
 have hl1:ns.length≤1000000:=ht.2.1
 have hl2:ds.length≤1000000:=ht.2.2
 simp only [tAV,tMs]
 show AW ⟨Tryz.prog,X,37,w0,⟨L,E,2⟩⟩ _ _ _
 have hc:Cx.OK ⟨Tryz.prog,X,37,w0,⟨L,E,2⟩⟩:=⟨hX,mixed⟩
 repeat' (first|(apply aw_seq_k;intro K hK)|(refine eM64o ?_)|(refine aw_cond (b:=_) (by exact rfl) (fun h=>?_) (fun h=>?_)<;>(try simp at h))|(refine eB ?_)|(refine hK _ ?_;clear hK)|(clear hK;refine hK _ ?_;clear hK)|(clear hK;clear hK;refine hK _ ?_;clear hK)|(clear hK;clear hK;clear hK;refine hK _ ?_;clear hK))
 refine aw_weaken (le_nilcell (b:=130) (i:=2) (sz:=2) rfl rfl) ?_
 refine aw_loopK (s0:=?lps7) (m0:=?lpm7) (ι:={i:Nat // i≤ds.length}) [1,4,6,16,17] (fun s=>[(18,I s.1),(7,I (lastK (-1) q (ds.take s.1)))]) (fun s=>[(130,.box [I r,.sl 0 1 9 0 ns.length,.sl 242 1 2 0 (delK (ds.take s.1) q).length]),(242,.vec 1 2 false (prows (delK (ds.take s.1) q)))]) (fun s=>ds.length - s.1) ⟨0,by simp⟩ ?lhs7 ?lhm7 ?_ ?_
 case lhs7=>first|(simp [keepS];done)|(simp [keepS];rfl)
 case lhm7=>first|rfl|(simp;done)|(simp;rfl)
 ·simp only [List.take_zero,delK,lastK,List.filter_nil,List.foldl_nil]
  exact le_of2 (by simp) (by simp [AVle,AV.under,AV.underL,prows]<;>omega) (by simp [AOle,AO.under,AV.underL,AV.under,prows]<;>omega)
 ·rintro ⟨i,hi⟩
  simp only at hi ⊢
  rcases Decidable.em (i<ds.length) with hil|hil
  ·have hilI:(i:Int)<(ds.length:Int):=by omega
   have hal:(delK (ds.take i) q).length≤1000000:=by have:=delK_len (l:=ds.take i) (k:=q);simp at this;omega
   have hts:delK (ds.take (i+1)) q=if (gp ds i).1=q then delK (ds.take i) q else delK (ds.take i) q++[gp ds i]:=by rw [take_succ_gp hil,delK_snoc]
   have hls:lastK (-1) q (ds.take (i+1))=if (gp ds i).1=q then (gp ds i).2 else lastK (-1) q (ds.take i):=by rw [take_succ_gp hil,lastK_snoc]
   obtain ⟨acc,hacc⟩:∃ acc,acc=delK (ds.take i) q:=⟨_,rfl⟩
   obtain ⟨la,hla⟩:∃ la,la=lastK (-1) q (ds.take i):=⟨_,rfl⟩
   rw [← hacc] at hal hts ⊢
   rw [← hla] at hls ⊢
   have htk:List.take acc.length (prows acc)=prows acc:=List.take_of_length_le (by simp)
   have hg:=prows_gi hil
   have hgE:=prows_gE hil
   obtain ⟨⟨g,fr⟩,hm⟩:∃ m,m=gp ds i:=⟨_,rfl⟩
   rw [← hm] at hg hgE hts hls
   simp only at hg hgE hts hls
   have ha1g:prows acc++[[I g,I fr]]=prows (acc++[(g,fr)]):=(prows_snoc acc (g,fr)).symm
   rcases Decidable.em (g=q) with h1|h1
   ·rw [if_pos h1] at hts hls
    have zS:=jj hilI<|jj hg<|jj hgE<|jj htk<|jj hal<|jj ha1g<|h1
    repeat' (first|(apply aw_seq_k;intro K hK)|(refine eM64 ?_)|(refine aw_cond (b:=_) (by exact rfl) (fun h=>?_) (fun h=>?_)<;>(try simp at h))|(refine eB ?_)|(refine hK _ ?_;clear hK)|(clear hK;refine hK _ ?_;clear hK)|(clear hK;clear hK;refine hK _ ?_;clear hK)|(clear hK;clear hK;clear hK;refine hK _ ?_;clear hK))
    all_goals clear zS
    refine ⟨i+1,?_,by omega,by omega⟩
    simp only [hts,hls]
    exact dle
   ·rw [if_neg h1] at hts hls
    have zS:=jj hilI<|jj hg<|jj hgE<|jj htk<|jj hal<|jj ha1g<|h1
    repeat' (first|(apply aw_seq_k;intro K hK)|(refine eM64 ?_)|(refine aw_cond (b:=_) (by exact rfl) (fun h=>?_) (fun h=>?_)<;>(try simp at h))|(refine eB ?_)|(refine hK _ ?_;clear hK)|(clear hK;refine hK _ ?_;clear hK)|(clear hK;clear hK;refine hK _ ?_;clear hK)|(clear hK;clear hK;clear hK;refine hK _ ?_;clear hK))
    all_goals clear zS
    refine ⟨i+1,?_,by omega,by omega⟩
    simp only [hts,hls,List.length_append,List.length_singleton]
    refine le_turn (s1:=?tus8) (m1:=?tum8) [] [1,4,5,6,7,16,17,18] [0,1,2,18,130,242] ?tua8 ?tub8 ?tuc8 ?tud8 ?tue8 ?tuf8 ?tug8
    case tua8=>first|(simp [keepS];done)|(simp [keepS];rfl)
    case tub8=>first|(simp;done)|(simp;rfl)
    case tuc8=>simp
    case tud8=>simp
    case tue8=>simp
    case tuf8=>simp
    case tug8 =>
     simp [swp,vr]
     exact dle
  ·obtain rfl:i=ds.length:=by omega
   rw [List.take_length]
   have hal:(delK ds q).length≤1000000:=by have:=delK_len (l:=ds) (k:=q);omega
   obtain ⟨acc,hacc⟩:∃ acc,acc=delK ds q:=⟨_,rfl⟩
   obtain ⟨la,hla⟩:∃ la,la=lastK (-1) q ds:=⟨_,rfl⟩
   rw [← hacc] at hal ⊢
   rw [← hla]
   repeat' (first|(apply aw_seq_k;intro K hK)|(refine eM64o ?_)|(refine aw_cond (b:=_) (by exact rfl) (fun h=>?_) (fun h=>?_)<;>(try simp at h))|(refine eB ?_)|(refine hK _ ?_;clear hK)|(clear hK;refine hK _ ?_;clear hK)|(clear hK;clear hK;refine hK _ ?_;clear hK)|(clear hK;clear hK;clear hK;refine hK _ ?_;clear hK))
   refine ⟨by simp,_,by simp [aResults,aResult,Tryz.f144];rfl,?_⟩
   simp only [idx,← hacc,← hla,List.cons_append,List.nil_append]
   refine le_turn (s1:=?tus9) (m1:=?tum9) [(242,2)] [0] [0,1,242] ?tua9 ?tub9 ?tuc9 ?tud9 ?tue9 ?tuf9 ?tug9
   case tua9=>first|(simp [keepS];done)|(simp [keepS];rfl)
   case tub9=>first|(simp;done)|(simp;rfl)
   case tuc9=>simp
   case tud9=>simp
   case tue9=>simp
   case tuf9=>simp
   case tug9 =>
    simp [swp,vr]
    exact dle
noncomputable def remS:List AV→List AO→Option (AV×List AO):=specG (ι:={x:Tb×Int // tbOK x.1}) (fun x=>[tAV x.1.1,I x.1.2]) (fun x=>tMs x.1.1) (fun x=>retOf [.agg [I x.1.1.1,.sl 2 1 9 0 (delK x.1.1.2.1 x.1.2).length,.sl 1 1 2 0 x.1.1.2.2.length]]) fun x=>tMs x.1.1++[.vec 1 9 false (nrows (delK x.1.1.2.1 x.1.2))]
theorem s146 (X:AX) (hX:XOK Tryz.prog X) (hw:X.W wT):GSound Tryz.prog 146 remS:=by
 unfold remS
 refine gsound_spec Tryz.func146 rfl X fun ⟨⟨⟨r,ns,ds⟩,q⟩,ht⟩ w0 L E=>⟨by show 2≤32;decide,?_⟩
 have hl1:ns.length≤1000000:=ht.2.1
 have hl2:ds.length≤1000000:=ht.2.2
 simp only [tAV,tMs]
 show AW ⟨Tryz.prog,X,32,w0,⟨L,E,2⟩⟩ _ _ _
 have hc:Cx.OK ⟨Tryz.prog,X,32,w0,⟨L,E,2⟩⟩:=⟨hX,mixed⟩
 repeat' (first|(apply aw_seq_k;intro K hK)|(refine eM64o ?_)|(refine aw_cond (b:=_) (by exact rfl) (fun h=>?_) (fun h=>?_)<;>(try simp at h))|(refine eB ?_)|(refine hK _ ?_;clear hK)|(clear hK;refine hK _ ?_;clear hK)|(clear hK;clear hK;refine hK _ ?_;clear hK)|(clear hK;clear hK;clear hK;refine hK _ ?_;clear hK))
 refine aw_weaken (le_nilcell (b:=114) (i:=1) (sz:=9) rfl rfl) ?_
 refine aw_loopK (s0:=?lps10) (m0:=?lpm10) (ι:={i:Nat // i≤ns.length}) [1,4,5,14,15] (fun s=>[(16,I s.1)]) (fun s=>[(114,.box [I r,.sl 210 1 9 0 (delK (ns.take s.1) q).length,.sl 1 1 2 0 ds.length]),(210,.vec 1 9 false (nrows (delK (ns.take s.1) q)))]) (fun s=>ns.length - s.1) ⟨0,by simp⟩ ?lhs10 ?lhm10 ?_ ?_
 case lhs10=>first|(simp [keepS];done)|(simp [keepS];rfl)
 case lhm10=>first|rfl|(simp;done)|(simp;rfl)
 ·simp only [List.take_zero,delK,List.filter_nil]
  exact le_of2 (by simp) (by simp [AVle,AV.under,AV.underL,nrows]<;>omega) (by simp [AOle,AO.under,AV.underL,AV.under,nrows]<;>omega)
 ·rintro ⟨i,hi⟩
  simp only at hi ⊢
  rcases Decidable.em (i<ns.length) with hil|hil
  ·have hilI:(i:Int)<(ns.length:Int):=by omega
   have hal:(delK (ns.take i) q).length≤1000000:=by have:=delK_len (l:=ns.take i) (k:=q);simp at this;omega
   have hts:delK (ns.take (i+1)) q=if (gn ns i).1=q then delK (ns.take i) q else delK (ns.take i) q++[gn ns i]:=by rw [take_succ_gn hil,delK_snoc]
   obtain ⟨acc,hacc⟩:∃ acc,acc=delK (ns.take i) q:=⟨_,rfl⟩
   rw [← hacc] at hal hts ⊢
   have htk:List.take acc.length (nrows acc)=nrows acc:=List.take_of_length_le (by simp)
   have hg:=nrows_gi hil
   have hgE:=nrows_gE hil
   have hlen:=(ht.1 _ (gn_mem hil)).1
   obtain ⟨⟨g,ws⟩,hm⟩:∃ m,m=gn ns i:=⟨_,rfl⟩
   rw [← hm] at hg hgE hts hlen
   simp only at hg hgE hts hlen
   have hwl:(wcs ws).length=8:=by simpa using hlen
   have ha1g:nrows acc++[I g::wcs ws]=nrows (acc++[(g,ws)]):=(nrows_snoc acc (g,ws)).symm
   have hcl:∀ x,x∈wcs ws→AV.isClosed x=true:=fun a ha=>by
    obtain ⟨w,_,rfl⟩:=List.mem_map.1 ha
    rfl
   obtain ⟨cs,hcs⟩:∃ cs,cs=wcs ws:=⟨_,rfl⟩
   rw [← hcs] at hg hgE hwl ha1g hcl
   have hct:List.take 8 cs=cs:=List.take_of_length_le (by omega)
   simp only [AV.isClosed] at hcl
   clear hcs hm
   rcases Decidable.em (g=q) with h1|h1
   ·rw [if_pos h1] at hts
    have zS:=jj hilI<|jj hg<|jj hgE<|jj hwl<|jj hct<|jj htk<|jj hal<|jj ha1g<|jj hcl<|h1
    repeat' (first|(apply aw_seq_k;intro K hK)|(refine eM64 ?_)|(refine aw_cond (b:=_) (by exact rfl) (fun h=>?_) (fun h=>?_)<;>(try simp at h))|(refine eB ?_)|(refine hK _ ?_;clear hK)|(clear hK;refine hK _ ?_;clear hK)|(clear hK;clear hK;refine hK _ ?_;clear hK)|(clear hK;clear hK;clear hK;refine hK _ ?_;clear hK))
    all_goals clear zS
    refine ⟨i+1,?_,by omega,by omega⟩
    simp only [hts]
    exact dle
   ·rw [if_neg h1] at hts
    have zS:=jj hilI<|jj hg<|jj hgE<|jj hwl<|jj hct<|jj htk<|jj hal<|jj ha1g<|jj hcl<|h1
    repeat' (first|(apply aw_seq_k;intro K hK)|(refine eM64 ?_)|(refine aw_cond (b:=_) (by exact rfl) (fun h=>?_) (fun h=>?_)<;>(try simp at h))|(refine eB ?_)|(refine hK _ ?_;clear hK)|(clear hK;refine hK _ ?_;clear hK)|(clear hK;clear hK;refine hK _ ?_;clear hK)|(clear hK;clear hK;clear hK;refine hK _ ?_;clear hK))
    all_goals clear zS
    refine ⟨i+1,?_,by omega,by omega⟩
    simp only [hts,List.length_append,List.length_singleton]
    refine le_turn (s1:=?tus11) (m1:=?tum11) [] [1,4,5,14,15,16] [0,1,2,18,114,210] ?tua11 ?tub11 ?tuc11 ?tud11 ?tue11 ?tuf11 ?tug11
    case tua11=>first|(simp [keepS];done)|(simp [keepS];rfl)
    case tub11=>first|(simp;done)|(simp;rfl)
    case tuc11=>simp
    case tud11=>simp
    case tue11=>simp
    case tuf11=>simp
    case tug11 =>
     simp [swp,vr]
     exact dle
  ·obtain rfl:i=ns.length:=by omega
   rw [List.take_length]
   obtain ⟨acc,hacc⟩:∃ acc,acc=delK ns q:=⟨_,rfl⟩
   rw [← hacc]
   repeat' (first|(apply aw_seq_k;intro K hK)|(refine eM64o ?_)|(refine aw_cond (b:=_) (by exact rfl) (fun h=>?_) (fun h=>?_)<;>(try simp at h))|(refine eB ?_)|(refine hK _ ?_;clear hK)|(clear hK;refine hK _ ?_;clear hK)|(clear hK;clear hK;refine hK _ ?_;clear hK)|(clear hK;clear hK;clear hK;refine hK _ ?_;clear hK))
   refine ⟨by simp,_,by simp [aResults,aResult,Tryz.f146];rfl,?_⟩
   simp only [idx,← hacc,List.cons_append,List.nil_append]
   refine le_turn (s1:=?tus12) (m1:=?tum12) [(210,2)] [0] [0,1,210] ?tua12 ?tub12 ?tuc12 ?tud12 ?tue12 ?tuf12 ?tug12
   case tua12=>first|(simp [keepS];done)|(simp [keepS];rfl)
   case tub12=>first|(simp;done)|(simp;rfl)
   case tuc12=>simp
   case tud12=>simp
   case tue12=>simp
   case tuf12=>simp
   case tug12 =>
    simp [swp,vr]
    exact dle
end Go.AM
namespace Go.AM
open Go Go.Proofs
noncomputable def FClN:List AV→Option AV:=specF (ι:={l:List Nd // nds8 l∧l.length≤1000000}) (fun x=>[.rd 9 (nrows x.1)]) fun x=>retOf [.ow 9 (nrows x.1)]
noncomputable def FClD:List AV→Option AV:=specF (ι:={l:List Dp // l.length≤1000000}) (fun x=>[.rd 2 (prows x.1)]) fun x=>retOf [.ow 2 (prows x.1)]
theorem FClN_at {l:List Nd} (h:nds8 l) (h2:l.length≤1000000):FClN [.rd 9 (nrows l)]=some (.ow 9 (nrows l)):=by
 refine specF_eq (ι:={l:List Nd // nds8 l∧l.length≤1000000}) (A:=fun x=>[.rd 9 (nrows x.1)]) (R:=fun x=>retOf [.ow 9 (nrows x.1)]) ⟨l,h,h2⟩ fun j e=>?_
 simp only [List.cons.injEq,AV.rd.injEq,true_and,nrows_inj,and_true] at e
 rw [e]
theorem FClD_at {l:List Dp} (h2:l.length≤1000000):FClD [.rd 2 (prows l)]=some (.ow 2 (prows l)):=by
 refine specF_eq (ι:={l:List Dp // l.length≤1000000}) (A:=fun x=>[.rd 2 (prows x.1)]) (R:=fun x=>retOf [.ow 2 (prows x.1)]) ⟨l,h2⟩ fun j e=>?_
 simp only [List.cons.injEq,AV.rd.injEq,true_and,prows_inj,and_true] at e
 rw [e]
theorem s104 (X:AX) (hX:XOK Tryz.prog X) (hw:X.W wT):PSound Tryz.prog 104 (specF (ι:={x:Tb // tbOK x}) (fun x=>[TbV x.1]) fun x=>retOf [.agg [I x.1.1,.ow 9 (nrows x.1.2.1),.ow 2 (prows x.1.2.2)]]):=by
 refine psound_spec hX mixed Tryz.func104 rfl fun ⟨⟨r,ns,ds⟩,ht⟩ w0 G=>⟨by show 1≤20;decide,rfl,?_⟩
 show AW ⟨Tryz.prog,X,20,w0,.pure G⟩ _ _ _
 have hc:Cx.OK ⟨Tryz.prog,X,20,w0,.pure G⟩:=⟨hX,mixed⟩
 have hl1:ns.length≤1000000:=ht.2.1
 have hl2:ds.length≤1000000:=ht.2.2
 simp only [TbV]
 have tkn:List.take ns.length (nrows ns)=nrows ns:=List.take_of_length_le (by simp)
 have tkd:List.take ds.length (prows ds)=prows ds:=List.take_of_length_le (by simp)
 refine dM64o ?_
 repeat (intro K hK)
 refine ⟨by simp,?_⟩
 simp [leaves_iff,Tryz.f104,tkn,tkd]
 try exact dt
theorem s128 (X:AX) (hX:XOK Tryz.prog X) (hw:X.W wT) (h1:X.call 184=callC FClN) (h2:X.call 185=callC FClD):PSound Tryz.prog 128 (specF (ι:={x:Tb // tbOK x}) (fun x=>[TbV x.1]) fun x=>retOf [.agg [I x.1.1,.ow 9 (nrows x.1.2.1),.ow 2 (prows x.1.2.2)]]):=by
 refine psound_spec hX mixed Tryz.func128 rfl fun ⟨⟨r,ns,ds⟩,ht⟩ w0 G=>⟨by show 1≤12;decide,rfl,?_⟩
 show AW ⟨Tryz.prog,X,12,w0,.pure G⟩ _ _ _
 have hc:Cx.OK ⟨Tryz.prog,X,12,w0,.pure G⟩:=⟨hX,mixed⟩
 have hl1:ns.length≤1000000:=ht.2.1
 have hl2:ds.length≤1000000:=ht.2.2
 simp only [TbV]
 have e1:=FClN_at (nds8_of ht) hl1
 have e2:=FClD_at hl2
 simp only at e1 e2
 have tkn:List.take ns.length (nrows ns)=nrows ns:=List.take_of_length_le (by simp)
 have tkd:List.take ds.length (prows ds)=prows ds:=List.take_of_length_le (by simp)
 have zS:=jj h1<|jj h2<|jj e1<|e2
 refine dM64 ?_
 repeat (intro K hK)
 clear zS
 refine ⟨by simp,?_⟩
 simp [leaves_iff,Tryz.f128,tkn,tkd]
 try exact dt
theorem s184 (X:AX) (hX:XOK Tryz.prog X) (hw:X.W wT):PSound Tryz.prog 184 FClN:=by
 unfold FClN
 refine psound_spec hX mixed Tryz.func184 rfl fun ⟨ns,h8,hl⟩ w0 G=>⟨by show 1≤8;decide,rfl,?_⟩
 show AW ⟨Tryz.prog,X,8,w0,.pure G⟩ _ _ _
 have hc:Cx.OK ⟨Tryz.prog,X,8,w0,.pure G⟩:=⟨hX,mixed⟩
 simp only at h8 hl ⊢
 have tkn:List.take ns.length (nrows ns)=nrows ns:=List.take_of_length_le (by simp)
 cases ns with
 | nil =>
  refine aw_cases_nil 0 9 (by simp [nrows,enterS]) ?_ fun p n=>?_
  ·refine dM64o ?_
   repeat (intro K hK)
   refine ⟨by simp,?_⟩
   simp [leaves_iff,Tryz.f184,nrows]
   try exact dt
  ·refine dM64o ?_
   repeat (intro K hK)
   refine ⟨by simp,?_⟩
   simp [leaves_iff,Tryz.f184,nrows]
   try exact dt
 | cons x ns =>
  have hl':ns.length+1≤1000000:=by simpa using hl
  obtain ⟨e,he⟩:∃ e,e=nrow x:=⟨_,rfl⟩
  obtain ⟨T,hT⟩:∃ T,T=nrows ns:=⟨_,rfl⟩
  have hc2:nrows (x::ns)=e::T:=by rw [he,hT];rfl
  have hTl:T.length=ns.length:=by rw [hT];simp
  have tk:List.take T.length T=T:=List.take_of_length_le (Nat.le_refl _)
  rw [hc2]
  clear he hT tkn
  have zS:=tk
  refine dM64 ?_
  repeat (intro K hK)
  clear zS
  refine ⟨by simp,?_⟩
  simp [leaves_iff,Tryz.f184,tk]
  try exact dt
theorem s185 (X:AX) (hX:XOK Tryz.prog X) (hw:X.W wT):PSound Tryz.prog 185 FClD:=by
 unfold FClD
 refine psound_spec hX mixed Tryz.func185 rfl fun ⟨ds,hl⟩ w0 G=>⟨by show 1≤8;decide,rfl,?_⟩
 show AW ⟨Tryz.prog,X,8,w0,.pure G⟩ _ _ _
 have hc:Cx.OK ⟨Tryz.prog,X,8,w0,.pure G⟩:=⟨hX,mixed⟩
 simp only at hl ⊢
 cases ds with
 | nil =>
  refine aw_cases_nil 0 2 (by simp [prows,enterS]) ?_ fun p n=>?_
  ·refine dM64o ?_
   repeat (intro K hK)
   refine ⟨by simp,?_⟩
   simp [leaves_iff,Tryz.f185,prows]
   try exact dt
  ·refine dM64o ?_
   repeat (intro K hK)
   refine ⟨by simp,?_⟩
   simp [leaves_iff,Tryz.f185,prows]
   try exact dt
 | cons x ds =>
  have hl':ds.length+1≤1000000:=by simpa using hl
  obtain ⟨e,he⟩:∃ e,e=[I x.1,I x.2]:=⟨_,rfl⟩
  obtain ⟨T,hT⟩:∃ T,T=prows ds:=⟨_,rfl⟩
  have hc2:prows (x::ds)=e::T:=by rw [he,hT];rfl
  have hTl:T.length=ds.length:=by rw [hT];simp
  have tk:List.take T.length T=T:=List.take_of_length_le (Nat.le_refl _)
  rw [hc2]
  clear he hT
  have zS:=tk
  refine dM64 ?_
  repeat (intro K hK)
  clear zS
  refine ⟨by simp,?_⟩
  simp [leaves_iff,Tryz.f185,tk]
  try exact dt
noncomputable def newT (r:Int):Tb×Int:=if 0≤r∧r≤4294967295 then ((r,[(r,zs8)],[]),0) else ((0,[],[]),2)
def TbO (t:Tb):AV:=.agg [I t.1,.ow 9 (nrows t.2.1),.ow 2 (prows t.2.2)]
theorem s49 (X:AX) (hX:XOK Tryz.prog X) (hw:X.W wT) (hfr:∀ x M n,X.call 126 [I x] M n=some (B (decide (0≤x∧x≤4294967295)),[])):PSound Tryz.prog 49 (specF (ι:=Int) (fun x=>[I x]) fun x=>retOf [TbO (newT x).1,I (newT x).2]):=by
 refine psound_spec hX mixed Tryz.func49 rfl fun r w0 G=>⟨by show 1≤13;decide,rfl,?_⟩
 show AW ⟨Tryz.prog,X,13,w0,.pure G⟩ _ _ _
 have hc:Cx.OK ⟨Tryz.prog,X,13,w0,.pure G⟩:=⟨hX,mixed⟩
 have hfr':=hfr r
 unfold newT TbO
 rcases Decidable.em (0≤r∧r≤4294967295) with h1|h1
 ·rw [decide_eq_true h1] at hfr'
  rw [if_pos h1]
  have zS:=hfr'
  refine dM64 ?_
  repeat (intro K hK)
  clear zS
  refine ⟨by simp,?_⟩
  simp [leaves_iff,Tryz.f49,nrows,nrow,wcs,prows,zs8,U]
  try exact dt
 ·rw [decide_eq_false h1] at hfr'
  rw [if_neg h1]
  have zS:=hfr'
  refine dM64 ?_
  repeat (intro K hK)
  clear zS
  refine ⟨by simp,?_⟩
  simp [leaves_iff,Tryz.f49,nrows,nrow,wcs,prows,zs8,U]
  try exact dt
theorem s50 (X:AX) (hX:XOK Tryz.prog X) (hw:X.W wT):PSound Tryz.prog 50 (specF (ι:=Int) (fun x=>[I x]) fun x=>retOf [TbO (newT x).1,I (newT x).2]):=by
 refine psound_spec hX mixed Tryz.func50 rfl fun r w0 G=>⟨by show 1≤16;decide,rfl,?_⟩
 show AW ⟨Tryz.prog,X,16,w0,.pure G⟩ _ _ _
 have hc:Cx.OK ⟨Tryz.prog,X,16,w0,.pure G⟩:=⟨hX,mixed⟩
 unfold newT TbO
 rcases Decidable.em (r<0) with h1|h1
 ·rw [if_neg (by omega)]
  have zS:=h1
  refine dM64 ?_
  repeat (intro K hK)
  clear zS
  refine ⟨by simp,?_⟩
  simp [leaves_iff,Tryz.f50,nrows,nrow,wcs,prows,zs8,U]
  try exact dt
 ·rcases Decidable.em (4294967295<r) with h2|h2
  ·rw [if_neg (by omega)]
   have zS:=jj h1<|h2
   refine dM64 ?_
   repeat (intro K hK)
   clear zS
   refine ⟨by simp,?_⟩
   simp [leaves_iff,Tryz.f50,nrows,nrow,wcs,prows,zs8,U]
   try exact dt
  ·rw [if_pos (by omega)]
   have zS:=jj h1<|h2
   refine dM64 ?_
   repeat (intro K hK)
   clear zS
   refine ⟨by simp,?_⟩
   simp [leaves_iff,Tryz.f50,nrows,nrow,wcs,prows,zs8,U]
   try exact dt
end Go.AM
namespace Go.AM
open Go Go.Proofs
theorem prows_append (a b:List Dp):prows a++prows b=prows (a++b):=by simp [prows]
theorem prows_drop (l:List Dp) (n:Nat):(prows l).drop n=prows (l.drop n):=by simp [prows,List.map_drop]
theorem prow_flat {l:List Dp}:(AV.ow 2 (prows l)).flat:=by
 simp only [AV.flat,AV.flatV,AV.flat1]
 intro e he a ha
 obtain ⟨x,_,rfl⟩:=List.mem_map.1 he
 simp at ha
 rcases ha with rfl|rfl<;>trivial
theorem nrow_flat {l:List Nd}:(AV.ow 9 (nrows l)).flat:=by
 simp only [AV.flat,AV.flatV,AV.flat1]
 intro e he a ha
 obtain ⟨x,_,rfl⟩:=List.mem_map.1 he
 rcases List.mem_cons.1 ha with rfl|ha
 ·trivial
 ·obtain ⟨w,_,rfl⟩:=List.mem_map.1 ha
  trivial
theorem xOvl:ExtOK Tryz.prog 218 ovlF :=
 ovl_ok (tR:=4) Tryz.func218 (by kernel_rfl) (by kernel_rfl) (by kernel_rfl) (by kernel_rfl) tyDs rfl tyD
def two2 (_:Nat):Nat:=2
def nine9 (_:Nat):Nat:=9
theorem prows_replicate (n:Nat):List.replicate n [AV.v (.int .i64 0),AV.v (.int .i64 0)]=prows (List.replicate n (0,0)):=by simp [prows,I]
theorem nrows_replicate (n:Nat):List.replicate n [AV.v (.int .i64 0),AV.v (.int .u64 0),AV.v (.int .u64 0),AV.v (.int .u64 0),AV.v (.int .u64 0),AV.v (.int .u64 0),AV.v (.int .u64 0),AV.v (.int .u64 0),AV.v (.int .u64 0)]=nrows (List.replicate n (0,zs8)):=by
 simp only [nrows,List.map_replicate];rfl
theorem nrows_append (a b:List Nd):nrows a++nrows b=nrows (a++b):=by simp [nrows]
theorem nrows_drop (l:List Nd) (n:Nat):(nrows l).drop n=nrows (l.drop n):=by simp [nrows,List.map_drop]
theorem ins_shift {α:Type} {L P S A:List α} {x:α} {i n:Nat} (hL:L=P++S) (hi:P.length=i) (hn:L.length=n) (h1:1≤A.length) (hS:i<n) :
  P++x::S=List.take (n+1) (List.take i (List.take (i+1) (L++A)++(List.take (n - i) (List.take (n+1 - i) (List.drop i (L++A)))++List.drop (i+1+(n - i)) (L++A))) ++
   (List.take 1 [x]++List.drop (i+1) (List.take (i+1) (L++A)++(List.take (n - i) (List.take (n+1 - i) (List.drop i (L++A)))++List.drop (i+1+(n - i)) (L++A))))):=by
 subst hL hi
 obtain ⟨s,S,rfl⟩:∃ s S',S=s::S':=by cases S with|nil=>simp at hn;omega|cons a b=>exact ⟨a,b,rfl⟩
 obtain ⟨a,A,rfl⟩:∃ s S',A=s::S':=by cases A with|nil=>simp at h1|cons a b=>exact ⟨a,b,rfl⟩
 subst hn
 rw [List.length_append]
 have e1:List.take (P.length+1) (P++s::S++a::A)=P++[s]:=by simp [List.take_append,List.take_of_length_le]
 have e2:List.drop P.length (P++s::S++a::A)=s::S++a::A:=by simp
 have e3:P.length+(s::S).length - P.length=(s::S).length:=by omega
 have e4:P.length+(s::S).length+1 - P.length=(s::S).length+1:=by omega
 have e5:List.take (s::S).length (List.take ((s::S).length+1) (s::S++a::A))=s::S:=by rw [List.take_take,Nat.min_eq_left (by omega)];simp
 have e6:List.drop (P.length+1+(s::S).length) (P++s::S++a::A)=A:=by
  rw [show P.length+1+(s::S).length=(P++s::S).length+1 by simp;omega,← List.drop_drop,List.drop_left];simp
 rw [e1,e2,e3,e4,e5,e6]
 have e7:List.take P.length (P++[s]++(s::S++A))=P:=by simp
 have e8:List.drop (P.length+1) (P++[s]++(s::S++A))=s::S++A:=by
  rw [show P.length+1=(P++[s]).length by simp,List.drop_left]
 rw [e7,e8]
 have e9:P++([x].take 1++(s::S++A))=(P++x::s::S)++A:=by simp
 rw [e9,show P.length+(s::S).length+1=(P++x::s::S).length by simp;omega,List.take_left]
theorem ins_grow {α:Type} {L P S Z D:List α} {x:α} {i n:Nat} (hL:L=P++S) (hi:P.length=i) (hn:L.length=n) :
  P++x::S=List.take (n+1) (List.take (i+1) (List.take i (List.take i (L++[])++Z)++(List.take 1 [x]++List.drop (i+1) (List.take i (L++[])++Z)))++(List.take (n - i) (List.take (n - i) (List.drop i (L++[])))++D)):=by
 subst hL hi hn
 rw [List.length_append]
 have e0:List.take P.length (P++S++[])=P:=by simp
 have e1:List.take P.length (P++Z)=P:=by simp
 have e2:List.take (P.length+1) (P++(List.take 1 [x]++List.drop (P.length+1) (P++Z)))=P++[x]:=by simp [List.take_append,List.take_of_length_le]
 have e4:List.take (P.length+S.length - P.length) (List.take (P.length+S.length - P.length) (List.drop P.length (P++S++[])))=S:=by
  rw [show P.length+S.length - P.length=S.length by omega];simp
 rw [e0,e1,e2,e4]
 have e3:P++[x]++(S++D)=(P++x::S)++D:=by simp
 rw [e3,show P.length+S.length+1=(P++x::S).length by simp;omega,List.take_left]
theorem s190 (X:AX) (hX:XOK Tryz.prog X) (h42:X.call 218=ovlF):MSound Tryz.prog 190 (specM (ι:={x:List Dp×Nat×Dp // x.2.1≤x.1.length∧x.1.length≤1000000}) (fun x=>.ow 2 (prows x.1.1)) (fun x=>[I x.1.2.1,.rd 2 (prows [x.1.2.2])]) (fun x=>retOf [.ow 2 (prows (x.1.1.take x.1.2.1++x.1.2.2::x.1.1.drop x.1.2.1))]) fun _=>.any):=by
 refine msound_cap_spec Tryz.func190 rfl X fun ⟨⟨l,i,x⟩,hi,hl⟩ w0 bl E m=>⟨by show 3≤95;decide,rfl,?_⟩
 simp only at hi hl
 show AW ⟨Tryz.prog,X,95,w0,⟨bl,E,1⟩⟩ _ _ _
 have hc:Cx.OK ⟨Tryz.prog,X,95,w0,⟨bl,E,1⟩⟩:=⟨hX,mixed⟩
 have hm:m=0∨1≤m:=by omega
 have hP:prows l=prows (l.take i)++prows (l.drop i):=by rw [prows_append,List.take_append_drop]
 have hR:prows (l.take i++x::l.drop i)=prows (l.take i)++[I x.1,I x.2]::prows (l.drop i):=by simp [prows]
 have hPl:(prows (l.take i)).length=i:=by simp;omega
 rcases hm with rfl|hm
 ·repeat' (first|(apply aw_seq_k;intro K hK)|(refine aw_run hc (by first|exact aw_nod|(intro _;rw [ordB_w hw];kernel_rfl)|(intro _;rw [ordB_w0 hw0];kernel_rfl)|(intro _;kernel_rfl)) ?_;simp (disch:=first|omega|assumption|(simp;done)|fail) [if_pos,if_neg,List.zipIdx,Int.ofNat_inj,h42,ovlF,wrap64];try (repeat' (refine guardQ_split (fun h=>?_) (fun h=>?_)<;>simp at h<;>simp (disch:=first|omega|assumption|(simp;done)|fail) [if_pos,if_neg,List.zipIdx,Int.ofNat_inj,h42,ovlF,wrap64])))|(refine aw_cond (b:=_) (by exact rfl) (fun h=>?_) (fun h=>?_)<;>(try simp at h))|(refine aw_block ?_)|(refine aw_skip ?_;simp only [thenQ,blockQ,if_true])|(refine aw_exit ?_;simp [thenQ,blockQ])|(refine aw_ret ?_;simp only [thenQ,blockQ])|(refine hK _ ?_;clear hK)|(clear hK;refine hK _ ?_;clear hK)|(clear hK;clear hK;refine hK _ ?_;clear hK)|(clear hK;clear hK;clear hK;refine hK _ ?_;clear hK))
  all_goals first|(exfalso;omega)|skip
  all_goals (refine ⟨by simp,leavesM_any ?_⟩;simp (disch:=first|omega|assumption|(simp;done)|fail) [if_pos,if_neg,leaves_iff,Tryz.f190])
  ·subst h
   rw [prows_append]
   simp [List.take_of_length_le]
  ·rw [hR]
   exact ins_grow hP hPl (prows_length l)
 ·repeat' (first|(apply aw_seq_k;intro K hK)|(refine aw_run hc (by first|exact aw_nod|(intro _;rw [ordB_w hw];kernel_rfl)|(intro _;rw [ordB_w0 hw0];kernel_rfl)|(intro _;kernel_rfl)) ?_;simp (disch:=first|omega|assumption|(simp;done)|fail) [if_pos,if_neg,List.zipIdx,Int.ofNat_inj,h42,ovlF,wrap64];try (repeat' (refine guardQ_split (fun h=>?_) (fun h=>?_)<;>simp at h<;>simp (disch:=first|omega|assumption|(simp;done)|fail) [if_pos,if_neg,List.zipIdx,Int.ofNat_inj,h42,ovlF,wrap64])))|(refine aw_cond (b:=_) (by exact rfl) (fun h=>?_) (fun h=>?_)<;>(try simp at h))|(refine aw_block ?_)|(refine aw_skip ?_;simp only [thenQ,blockQ,if_true])|(refine aw_exit ?_;simp [thenQ,blockQ])|(refine aw_ret ?_;simp only [thenQ,blockQ])|(refine hK _ ?_;clear hK)|(clear hK;refine hK _ ?_;clear hK)|(clear hK;clear hK;refine hK _ ?_;clear hK)|(clear hK;clear hK;clear hK;refine hK _ ?_;clear hK))
  all_goals first|(exfalso;omega)|skip
  all_goals (refine ⟨by simp,leavesM_any ?_⟩;simp (disch:=first|omega|assumption|(simp;done)|fail) [if_pos,if_neg,leaves_iff,Tryz.f190])
  ·subst h
   rw [← List.append_assoc,prows_append,List.take_append_of_le_length (by simp),List.take_of_length_le (by simp)]
   simp [List.take_of_length_le]
  ·rw [hR]
   exact ins_shift hP hPl (prows_length l) (by simpa using hm) (by omega)
theorem s192 (X:AX) (hX:XOK Tryz.prog X) (hw:X.W wT):MSound Tryz.prog 192 (specM (ι:={x:List Dp×Nat×Nat // x.2.1≤x.2.2∧x.2.2≤x.1.length∧x.1.length≤1000000}) (fun x=>.ow 2 (prows x.1.1)) (fun x=>[I x.1.2.1,I x.1.2.2]) (fun x=>retOf [.ow 2 (prows (x.1.1.take x.1.2.1++x.1.1.drop x.1.2.2))]) fun _=>.any):=by
 refine msound_spec Tryz.func192 rfl X fun ⟨⟨l,i,j⟩,hij,hj,hl⟩ w0 bl E=>⟨by show 3≤33;decide,rfl,?_⟩
 simp only at hij hj hl
 show AW ⟨Tryz.prog,X,33,w0,⟨bl,E,1⟩⟩ _ _ _
 have hc:Cx.OK ⟨Tryz.prog,X,33,w0,⟨bl,E,1⟩⟩:=⟨hX,mixed⟩
 repeat' (first|(apply aw_seq_k;intro K hK)|(refine aw_run hc (by first|exact aw_nod|(intro _;rw [ordB_w hw];kernel_rfl)|(intro _;rw [ordB_w0 hw0];kernel_rfl)|(intro _;kernel_rfl)) ?_;simp (disch:=first|omega|assumption|(simp;done)|fail) [if_pos,if_neg,List.zipIdx,Int.ofNat_inj];try (repeat' (refine guardQ_split (fun h=>?_) (fun h=>?_)<;>simp at h<;>simp (disch:=first|omega|assumption|(simp;done)|fail) [if_pos,if_neg,List.zipIdx,Int.ofNat_inj])))|(refine aw_cond (b:=_) (by exact rfl) (fun h=>?_) (fun h=>?_)<;>(try simp at h))|(refine aw_block ?_)|(refine aw_skip ?_;simp only [thenQ,blockQ,if_true])|(refine aw_exit ?_;simp [thenQ,blockQ])|(refine aw_ret ?_;simp only [thenQ,blockQ])|(refine hK _ ?_;clear hK)|(clear hK;refine hK _ ?_;clear hK)|(clear hK;clear hK;refine hK _ ?_;clear hK)|(clear hK;clear hK;clear hK;refine hK _ ?_;clear hK))
 ·refine ⟨by simp,leavesM_any ?_⟩
  simp (disch:=first|omega|assumption|(simp;done)|fail) [if_pos,if_neg,leaves_iff,Tryz.f192]
  subst h
  simp [List.take_of_length_le]
 ·refine ⟨by simp,leavesM_any ?_⟩
  simp (disch:=first|omega|assumption|(simp;done)|fail) [if_pos,if_neg,leaves_iff,Tryz.f192,prows_take,prows_drop,prows_append,prows_replicate]
  have e1:l.take i++((l.drop j).take (l.length - j)++l.drop (i+(l.length - j)))=(l.take i++l.drop j)++l.drop (i+(l.length - j)):=by
   rw [List.take_of_length_le (l:=l.drop j) (by simp),List.append_assoc]
  have e2:(l.take i++l.drop j).length=i+(l.length - j):=by simp;omega
  have key:∀ (A B C:List Dp) n,A.length=n→A=((A++B).take n++C).take n:=by
   intro A B C n h
   subst h
   simp
  rw [e1]
  exact congrArg prows (key _ _ _ _ e2)
theorem s153 (X:AX) (hX:XOK Tryz.prog X) (hw:X.W wT):MSound Tryz.prog 153 (specM (ι:={x:List Nd×Nat×Nat // x.2.1≤x.2.2∧x.2.2≤x.1.length∧x.1.length≤1000000}) (fun x=>.ow 9 (nrows x.1.1)) (fun x=>[I x.1.2.1,I x.1.2.2]) (fun x=>retOf [.ow 9 (nrows (x.1.1.take x.1.2.1++x.1.1.drop x.1.2.2))]) fun _=>.any):=by
 refine msound_spec Tryz.func153 rfl X fun ⟨⟨l,i,j⟩,hij,hj,hl⟩ w0 bl E=>⟨by show 3≤33;decide,rfl,?_⟩
 simp only at hij hj hl
 show AW ⟨Tryz.prog,X,33,w0,⟨bl,E,1⟩⟩ _ _ _
 have hc:Cx.OK ⟨Tryz.prog,X,33,w0,⟨bl,E,1⟩⟩:=⟨hX,mixed⟩
 repeat' (first|(apply aw_seq_k;intro K hK)|(refine aw_run hc (by first|exact aw_nod|(intro _;rw [ordB_w hw];kernel_rfl)|(intro _;rw [ordB_w0 hw0];kernel_rfl)|(intro _;kernel_rfl)) ?_;simp (disch:=first|omega|assumption|(simp;done)|fail) [if_pos,if_neg,List.zipIdx,Int.ofNat_inj];try (repeat' (refine guardQ_split (fun h=>?_) (fun h=>?_)<;>simp at h<;>simp (disch:=first|omega|assumption|(simp;done)|fail) [if_pos,if_neg,List.zipIdx,Int.ofNat_inj])))|(refine aw_cond (b:=_) (by exact rfl) (fun h=>?_) (fun h=>?_)<;>(try simp at h))|(refine aw_block ?_)|(refine aw_skip ?_;simp only [thenQ,blockQ,if_true])|(refine aw_exit ?_;simp [thenQ,blockQ])|(refine aw_ret ?_;simp only [thenQ,blockQ])|(refine hK _ ?_;clear hK)|(clear hK;refine hK _ ?_;clear hK)|(clear hK;clear hK;refine hK _ ?_;clear hK)|(clear hK;clear hK;clear hK;refine hK _ ?_;clear hK))
 ·refine ⟨by simp,leavesM_any ?_⟩
  simp (disch:=first|omega|assumption|(simp;done)|fail) [if_pos,if_neg,leaves_iff,Tryz.f153]
  subst h
  simp [List.take_of_length_le]
 ·refine ⟨by simp,leavesM_any ?_⟩
  simp (disch:=first|omega|assumption|(simp;done)|fail) [if_pos,if_neg,leaves_iff,Tryz.f153,nrows_take,nrows_drop,nrows_append,nrows_replicate]
  have e1:l.take i++((l.drop j).take (l.length - j)++l.drop (i+(l.length - j)))=(l.take i++l.drop j)++l.drop (i+(l.length - j)):=by
   rw [List.take_of_length_le (l:=l.drop j) (by simp),List.append_assoc]
  have e2:(l.take i++l.drop j).length=i+(l.length - j):=by simp;omega
  have key:∀ (A B C:List Nd) n,A.length=n→A=((A++B).take n++C).take n:=by
   intro A B C n h
   subst h
   simp
  rw [e1]
  exact congrArg nrows (key _ _ _ _ e2)
noncomputable def FInsD:AV→List AV→Option (AV×AV):=specM (ι:={x:List Dp×Nat×Dp // x.2.1≤x.1.length∧x.1.length≤1000000}) (fun x=>.ow 2 (prows x.1.1)) (fun x=>[I x.1.2.1,.rd 2 (prows [x.1.2.2])]) (fun x=>retOf [.ow 2 (prows (x.1.1.take x.1.2.1++x.1.2.2::x.1.1.drop x.1.2.1))]) fun _=>.any
theorem FInsD_at (l:List Dp) (i:Nat) (a b:Int) (h:i≤l.length∧l.length≤1000000):FInsD (.ow 2 (prows l)) [I i,.rd 2 [[I a,I b]]]=some (.ow 2 (prows (l.take i++(a,b)::l.drop i)),.any) :=
 specM_eq (A0:=fun x:{x:List Dp×Nat×Dp // x.2.1≤x.1.length∧x.1.length≤1000000}=>AV.ow 2 (prows x.1.1)) (A:=fun x=>[I x.1.2.1,.rd 2 (prows [x.1.2.2])]) (R:=fun x=>retOf [.ow 2 (prows (x.1.1.take x.1.2.1++x.1.2.2::x.1.1.drop x.1.2.1))]) (O:=fun _=>.any) ⟨(l,i,(a,b)),h⟩ (by
  rintro ⟨⟨l',i',x'⟩,h1,h2⟩ e1 e2
  simp only [AV.ow.injEq,prows_inj,true_and] at e1
  simp only [List.cons.injEq,AV.v.injEq,Value.int.injEq,true_and,AV.rd.injEq,prows_inj,and_true,Int.ofNat_inj] at e2
  obtain ⟨rfl,rfl⟩:=e2
  subst e1
  exact ⟨rfl,rfl⟩)
noncomputable def FDelD:AV→List AV→Option (AV×AV):=specM (ι:={x:List Dp×Nat×Nat // x.2.1≤x.2.2∧x.2.2≤x.1.length∧x.1.length≤1000000}) (fun x=>.ow 2 (prows x.1.1)) (fun x=>[I x.1.2.1,I x.1.2.2]) (fun x=>retOf [.ow 2 (prows (x.1.1.take x.1.2.1++x.1.1.drop x.1.2.2))]) fun _=>.any
theorem FDelD_at (l:List Dp) (i j:Nat) (h:i≤j∧j≤l.length∧l.length≤1000000):FDelD (.ow 2 (prows l)) [I i,I j]=some (.ow 2 (prows (l.take i++l.drop j)),.any) :=
 specM_eq (A0:=fun x:{x:List Dp×Nat×Nat // x.2.1≤x.2.2∧x.2.2≤x.1.length∧x.1.length≤1000000}=>AV.ow 2 (prows x.1.1)) (A:=fun x=>[I x.1.2.1,I x.1.2.2]) (R:=fun x=>retOf [.ow 2 (prows (x.1.1.take x.1.2.1++x.1.1.drop x.1.2.2))]) (O:=fun _=>.any) ⟨(l,i,j),h⟩ (by
  rintro ⟨⟨l',i',j'⟩,h1,h2⟩ e1 e2
  simp only [AV.ow.injEq,prows_inj,true_and] at e1
  simp only [List.cons.injEq,AV.v.injEq,Value.int.injEq,true_and,and_true,Int.ofNat_inj] at e2
  obtain ⟨rfl,rfl⟩:=e2
  subst e1
  exact ⟨rfl,rfl⟩)
noncomputable def FDelN:AV→List AV→Option (AV×AV):=specM (ι:={x:List Nd×Nat×Nat // x.2.1≤x.2.2∧x.2.2≤x.1.length∧x.1.length≤1000000}) (fun x=>.ow 9 (nrows x.1.1)) (fun x=>[I x.1.2.1,I x.1.2.2]) (fun x=>retOf [.ow 9 (nrows (x.1.1.take x.1.2.1++x.1.1.drop x.1.2.2))]) fun _=>.any
theorem FDelN_at (l:List Nd) (i j:Nat) (h:i≤j∧j≤l.length∧l.length≤1000000):FDelN (.ow 9 (nrows l)) [I i,I j]=some (.ow 9 (nrows (l.take i++l.drop j)),.any) :=
 specM_eq (A0:=fun x:{x:List Nd×Nat×Nat // x.2.1≤x.2.2∧x.2.2≤x.1.length∧x.1.length≤1000000}=>AV.ow 9 (nrows x.1.1)) (A:=fun x=>[I x.1.2.1,I x.1.2.2]) (R:=fun x=>retOf [.ow 9 (nrows (x.1.1.take x.1.2.1++x.1.1.drop x.1.2.2))]) (O:=fun _=>.any) ⟨(l,i,j),h⟩ (by
  rintro ⟨⟨l',i',j'⟩,h1,h2⟩ e1 e2
  simp only [AV.ow.injEq,nrows_inj,true_and] at e1
  simp only [List.cons.injEq,AV.v.injEq,Value.int.injEq,true_and,and_true,Int.ofNat_inj] at e2
  obtain ⟨rfl,rfl⟩:=e2
  subst e1
  exact ⟨rfl,rfl⟩)
theorem FInsD_flat {a0:AV} {avs:List AV} {r o:AV} (h:FInsD a0 avs=some (r,o)):r.flat∧o.flatO:=by
 obtain ⟨i,_,_,h3,h4⟩:=specM_some h
 subst h3 h4
 exact ⟨prow_flat,trivial⟩
theorem FDelD_flat {a0:AV} {avs:List AV} {r o:AV} (h:FDelD a0 avs=some (r,o)):r.flat∧o.flatO:=by
 obtain ⟨i,_,_,h3,h4⟩:=specM_some h
 subst h3 h4
 exact ⟨prow_flat,trivial⟩
theorem FDelN_flat {a0:AV} {avs:List AV} {r o:AV} (h:FDelN a0 avs=some (r,o)):r.flat∧o.flatO:=by
 obtain ⟨i,_,_,h3,h4⟩:=specM_some h
 subst h3 h4
 exact ⟨nrow_flat,trivial⟩
end Go.AM
